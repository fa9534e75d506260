import Derived.Test.YtapdelkomkpgmaaGreatDoorQd
namespace Go.Proofs.YtapdelkomkpgmaaGreatDoor
open Go.RowKit
set_option maxRecDepth 100000
set_option linter.all false
def D8:Op->Ac Operand
 | .move x| .assign x| .load _ x| .box _ x| .field _ x _| .fieldAddr _ x _| .unOp _ _ x| .convert _ _ x| .extract x _| .makeInterface _ x| .nilCheck x| .typeAssert x _ _ _| .panic x| .sliceToArrayPointer _ x=>[x]
 | .pick c a b=>[c,a,b]
 | .indexAddr _ a b| .binOp _ _ a b _| .store _ a b| .index _ a b| .lookup _ a b _| .makeSlice _ a b=>[a,b]
 | .mapUpdate _ a b c| .insert _ a b c=>[a,b,c]
 | .slice _ x f e _=>x::(f.toList++e.toList)
 | .build _ d| .buildSlice _ _ d=>d.toList.map (·.2)
 | .makeFunc _ a b=>a.toList++b.toList
 | .call c=>c.operands.toList
 |_=>[]
def Jdi(P:Aj)(op:Op)(ρ σ:Operand->D)(H:Ae)(h:∀x∈D8 op,ρ x=σ x):Cc P op ρ H=Cc P op σ H:=by
 have hp:∀e:CX (Nat×Operand),(∀x∈e.toList.map (·.2),ρ x=σ x)->(e.toList.map fun(i,x)=>(i,ρ x))=(e.toList.map fun(i,x)=>(i,σ x)):=by
  intro e p;apply SY;rintro⟨i,x⟩ d;simp only
  grind
 have o:∀l:Ac Operand,(∀x∈l,ρ x=σ x)->l.map ρ=l.map σ:=fun l p=>SY p;cases op with
 |slice t x j k w=>
  cases w with
  |some m=>rfl
  |none=>
   have d:=h x (by simp[D8]);have v:j.map ρ=j.map σ:=by cases j with
    |none=>rfl
    |some y=>simp[h y (by simp[D8])]
   have A:k.map ρ=k.map σ:=by cases k with
    |none=>rfl
    |some y=>simp[h y (by simp[D8])]
   simp only[Cc,d,v,A]
 |build t e=>simp only[Cc,hp e h]
 |buildSlice t n e=>simp only[Cc,hp e h]
 |binOp op t x y B=>simp only[Cc,h x (by simp[D8]),h y (by simp[D8])]
 |unOp op t x=>
  have d:=h x (by simp[D8]);cases op<;>simp only[Cc,d]
 |call c=>
  obtain⟨callee,args,q⟩:=c;cases callee with
  |builtin b=>
   have z:∀x∈args.toList,ρ x=σ x:=fun x d=>h x (by simpa[D8,Call.operands]using d);have g:=o args.toList z;cases b with
   |len=>
    simp only[Cc]
    grind
   |append=>
    simp only[Cc]
    grind
   |copy=>
    simp only[Cc]
    grind
   |clear=>
    simp only[Cc]
    grind
   |max=>simp only[Cc,g]
   |min=>simp only[Cc,g]
   |_=>rfl
  |_=>rfl
 |makeFunc f a b=>simp only[Cc,o a.toList (fun x d=>h x (by simp[D8];grind)),o b.toList (fun x d=>h x (by simp[D8];grind))]
 |move x=>simp only[Cc,h x (by simp[D8])]
 |assign x=>simp only[Cc,h x (by simp[D8])]
 |load t x=>simp only[Cc,h x (by simp[D8])]
 |box t x=>simp only[Cc,h x (by simp[D8])]
 |store t x y=>simp only[Cc,h x (by simp[D8]),h y (by simp[D8])]
 |field t x f=>simp only[Cc,h x (by simp[D8])]
 |fieldAddr t x f=>simp only[Cc,h x (by simp[D8])]
 |convert s t x=>simp only[Cc,h x (by simp[D8])]
 |extract x i=>simp only[Cc,h x (by simp[D8])]
 |makeInterface t x=>simp only[Cc,h x (by simp[D8])]
 |nilCheck x=>simp only[Cc,h x (by simp[D8])]
 |pick c a b=>simp only[Cc,h c (by simp[D8]),h a (by simp[D8]),h b (by simp[D8])]
 |indexAddr t a b=>simp only[Cc,h a (by simp[D8]),h b (by simp[D8])]
 |makeSlice t a b=>simp only[Cc,h a (by simp[D8]),h b (by simp[D8])]
 |index t a b=>simp only[Cc,h a (by simp[D8]),h b (by simp[D8])]
 |sliceToArrayPointer t x=>simp only[Cc,h x (by simp[D8])]
 |lookup t a b ok=>simp only[Cc,h a (by simp[D8]),h b (by simp[D8])]
 |mapUpdate t a b c=>simp only[Cc,h a (by simp[D8]),h b (by simp[D8]),h c (by simp[D8])]
 |insert t a b c=>simp only[Cc,h a (by simp[D8]),h b (by simp[D8]),h c (by simp[D8])]
 |typeAssert x t u ok=>simp only[Cc,h x (by simp[D8])]
 |makeMap t r=>cases r<;>rfl
 |_=>rfl
def JkL(P:Aj)(T:Tab)(op:Op)(ρ σ:Operand->D)(H:Ae)(h:∀x∈D8 op,ρ x=σ x):DF P T op ρ H=DF P T op σ H:=by
 unfold DF;split
 ·rename_i f args d;rw[show args.toList.map ρ=args.toList.map σ from SY fun x c=>h x (by simp[D8,Call.operands];exact .inr (by simpa using c))]
 ·rename_i t args d;rw[h (.tmp t) (by simp[D8,Call.operands]),show args.toList.map ρ=args.toList.map σ from SY fun x c=>h x (by simp[D8,Call.operands];exact .inr (by simpa using c))]
 ·rename_i r name args d;rw[h r (by simp[D8,Call.operands]),show args.toList.map ρ=args.toList.map σ from SY fun x c=>h x (by simp[D8,Call.operands];exact .inr (by simpa using c))]
 ·rename_i t n g;have e:(g.toList.map fun(i,x)=>(i,ρ x))=g.toList.map fun(i,x)=>(i,σ x):=SY fun x c=>by
   obtain⟨a,b⟩:=x;simp only[h b (by simp only[D8,GN];exact⟨(a,b),c,rfl⟩)]
  rw[e,Jdi P _ ρ σ H h]
 ·exact Jdi P op ρ σ H h
def Jq1(T:Tab)(op:Op)(ρ σ:Operand->D)(H:Ae)(h:∀x∈D8 op,ρ x=σ x):LU T op ρ H=LU T op σ H:=by
 unfold LU;split
 ·rw[h _ (by simp[D8])]
 ·congr 1;unfold dC;split
  ·rfl
  ·split
   ·rename_i f args b _;rw[show args.toList.map ρ=args.toList.map σ from SY fun x a=>h x (by simp[D8,Call.operands];exact .inr (by simpa using a))]
   ·rename_i t args b _;rw[h (.tmp t) (by simp[D8,Call.operands]),show args.toList.map ρ=args.toList.map σ from SY fun x a=>h x (by simp[D8,Call.operands];exact .inr (by simpa using a))]
   ·rfl
def Jqa:Operand->Af Nat
 | .tmp t=>some t
 |_=>none
def QK(ops:Ac Oper)(o:Oper):Ac Nat:=
 (D8 o.op).filterMap Jqa++(match o.guard with|none=>[]|some (j,_)=>((ops[j]?).bind (·.dst)).toList)
def ES:Op->Bool
 | .load _ _| .box _ _| .alloc _| .store _ _ _| .buildSlice _ _ _| .makeSlice _ _ _| .convert _ _ _| .makeMap _ _| .mapUpdate _ _ _ _| .insert _ _ _ _| .lookup _ _ _ _=>true
 | .call {callee:= .builtin .len,.. }| .call {callee:= .builtin .max,.. }| .call {callee:= .builtin .min,.. }=>false
 | .call _=>true
 |_=>false
def Dp(T:Tab):Op->Bool
 | .buildSlice _ n _=> !(RW T&&Nat.blt 0 n)
 | .box _ _| .alloc _| .store _ _ _| .makeSlice _ _ _| .makeMap _ _| .mapUpdate _ _ _ _| .insert _ _ _ _=>true
 | .call {callee:= .value (.func f),.. }=> !qE T f
 | .call {callee:= .builtin .len,.. }| .call {callee:= .builtin .max,.. }| .call {callee:= .builtin .min,.. }=>false
 | .call _=>true
 |_=>false
def QT:Op->Bool
 | .box _ _| .alloc _| .buildSlice _ _ _| .makeSlice _ _ _| .makeMap _ _=>true
 |_=>false
def Xv(ops:Ac Oper)(x y:Oper):Bool:=
 (match x.dst with|some t=>(QK ops y).contains t||y.dst==some t|none=>false)||
 (match y.dst with|some t=>(QK ops x).contains t|none=>false)
def VR(T:Tab)(x y:Oper):Bool:=(Dp T x.op&&ES y.op)||(ES x.op&&Dp T y.op&&(Dp T x.op|| !QT y.op))
def Om:D->Af Nat
 | .hp id _| .hs id _| .ht id _ _| .mp id=>some id
 |_=>none
def oI(a b:D):Bool:=match Om a,Om b with|some i,some j=> !Nat.beq i j|_,_=>true
def vT(a:D):Bool:=match Om a with|none=>true|some _=>false
def Xd:Ap->Ap->Bool
 | .bool a,.bool b=>a==b
 | .int k a,.int e b=>decide (k=e)&&decide (a=b)
 | .string a,.string b=>decide (a.data.toList=b.data.toList)
 | .slice none a b,.slice none c d=>Nat.beq a c&&Nat.beq b d
 | .pointer none,.pointer none=>true
 | .map none,.map none=>true
 | .nilFunc,.nilFunc=>true
 | .nilIface,.nilIface=>true
 |_,_=>false
def Jqg{a b:Ap}(h:Xd a b=true):a=b:=by
 unfold Xd at h;split at h
 ·simpa using h
 ·grind
 ·rename_i a b;have:=L8 h;congr 1;apply ByteArray.ext;simp_all
 ·simp_all
 ·rfl
 ·rfl
 ·rfl
 ·rfl
 ·cases h
mutual
def eqB:D->D->Bool
 | .v a,.v b=>Xd a b
 | .sl s l,.sl s' l'=>Nat.beq s s'&&OX l l'
 | .ptr a,.ptr b=>Gy a b
 | .agg a,.agg b=>Gy a b
 | .tup a,.tup b=>Gy a b
 | .hp i o,.hp j p=>Nat.beq i j&&Nat.beq o p
 | .hs i o,.hs j p=>Nat.beq i j&&Nat.beq o p
 | .ht i o n,.ht j p m=>Nat.beq i j&&Nat.beq o p&&Nat.beq n m
 | .ifc t d,.ifc u e=>Nat.beq t u&&eqB d e
 | .clo f a b,.clo g c d=>decide (f=g)&&Gy a c&&Gy b d
 | .mp i,.mp j=>Nat.beq i j
 |_,_=>false
def Gy:Ac D->Ac D->Bool
 |[],[]=>true
 |a::r,b::s=>eqB a b&&Gy r s
 |_,_=>false
def OX:Ac (Ac D)->Ac (Ac D)->Bool
 |[],[]=>true
 |a::r,b::s=>Gy a b&&OX r s
 |_,_=>false
end
mutual
theorem E4:∀(a b:D),eqB a b=true->a=b
 | .v a,b,h=>by
  cases b<;>first|(simp only[eqB]at h;rw[Jqg h])|(simp[eqB]at h;done)
 | .sl s l,b,h=>by
  cases b<;>first|(simp only[eqB,DJ]at h;rw[OO h.1,Jhj _ _ h.2])|(simp[eqB]at h;done)
 | .ptr l,b,h=>by
  cases b<;>first|(simp only[eqB]at h;rw[Va _ _ h])|(simp[eqB]at h;done)
 | .agg l,b,h=>by
  cases b<;>first|(simp only[eqB]at h;rw[Va _ _ h])|(simp[eqB]at h;done)
 | .tup l,b,h=>by
  cases b<;>first|(simp only[eqB]at h;rw[Va _ _ h])|(simp[eqB]at h;done)
 | .hp i o,b,h=>by
  cases b<;>first|(simp only[eqB,DJ]at h;rw[OO h.1,OO h.2])|(simp[eqB]at h;done)
 | .hs i o,b,h=>by
  cases b<;>first|(simp only[eqB,DJ]at h;rw[OO h.1,OO h.2])|(simp[eqB]at h;done)
 | .ht i o n,b,h=>by
  cases b<;>first|(simp only[eqB,DJ]at h;rw[OO h.1.1,OO h.1.2,OO h.2])|(simp[eqB]at h;done)
 | .ifc t d,b,h=>by
  cases b<;>first|(simp only[eqB,DJ]at h;rw[OO h.1,E4 _ _ h.2])|(simp[eqB]at h;done)
 | .clo f a c,b,h=>by
  cases b<;>first|(simp only[eqB,DJ]at h;rw[L8 h.1.1,Va _ _ h.1.2,Va _ _ h.2])|(simp[eqB]at h;done)
 | .mp i,b,h=>by
  cases b<;>first|(simp only[eqB]at h;rw[OO h])|(simp[eqB]at h;done)
 | .undef,b,h=>by cases b<;>(simp[eqB]at h;done)
 | .mv ks vs,b,h=>by cases b<;>(simp[eqB]at h;done)
 | .yld i,b,h=>by cases b<;>(simp[eqB]at h;done)
theorem Va:∀(a b:Ac D),Gy a b=true->a=b
 |[],b,h=>by cases b with
  |nil=>rfl
  |cons=>simp[Gy]at h
 |a::r,b,h=>by cases b with
  |nil=>simp[Gy]at h
  |cons c s=>simp only[Gy,DJ]at h;rw[E4 _ _ h.1,Va _ _ h.2]
theorem Jhj:∀(a b:Ac (Ac D)),OX a b=true->a=b
 |[],b,h=>by cases b with
  |nil=>rfl
  |cons=>simp[OX]at h
 |a::r,b,h=>by cases b with
  |nil=>simp[OX]at h
  |cons c s=>simp only[OX,DJ]at h;rw[Va _ _ h.1,Jhj _ _ h.2]
end
def QR(i off:Nat)(H H':Ae):Bool:=
 match H[i]?,H'[i]? with
 |some (.cells _ _ cs),some (.cells _ _ cs')=>Gy (cs.drop off) (cs'.drop off)
 |_,_=>false
def Tn(i off:Nat)(H H':Ae):Prop:=H'[i]? =H[i]? \/∃t sz cs b a cs',H[i]? =some (.cells t sz cs)/\H'[i]? =some (.cells b a cs')/\cs'.drop off=cs.drop off
def Tn.trans{i off:Nat}{H H' b:Ae}(h:Tn i off H H')(k:Tn i off H' b):Tn i off H b:=by
 rcases h with h|⟨t,sz,cs,n,g,cs',j,m,l⟩
 ·rcases k with k|⟨u,s,ds,e,s',a,c,d,f⟩
  ·exact .inl (k.trans h)
  ·exact .inr ⟨u,s,ds,e,s',a,by rw[<-h];exact c,d,f⟩
 ·rcases k with k|⟨u,s,ds,e,s',a,c,d,f⟩
  ·exact .inr ⟨t,sz,cs,n,g,cs',j,k.trans m,l⟩
  ·rw[m]at c;cases c;exact .inr ⟨t,sz,cs,e,s',a,j,d,f.trans l⟩
def Tn.symm{i off:Nat}{H H':Ae}(h:Tn i off H H'):Tn i off H' H:=by
 rcases h with h|⟨t,sz,cs,c,a,cs',e,d,b⟩
 ·exact .inl h.symm
 ·exact .inr ⟨c,a,cs',t,sz,cs,d,e,b.symm⟩
theorem yJ:∀(n:Nat) {a b:Ac D},Gy a b=true->Gy (a.drop n) (b.drop n)=true
 |0,a,b,h=>h
 |n+1,[],[],h=>rfl
 |n+1,x::a,y::b,h=>by
  simp only[Gy,DJ]at h;exact yJ n h.2
 |n+1,[],y::b,h=>by simp[Gy]at h
 |n+1,x::a,[],h=>by simp[Gy]at h
def JqV{i off:Nat}{H H':Ae}(h:QR i off H H'=true):Tn i off H H'/\i<H'.length:=by
 unfold QR at h;split at h
 ·rename_i t sz cs c a cs' d b;exact⟨.inr ⟨t,sz,cs,c,a,cs',d,b,(Va _ _ h).symm⟩,(CV.1 b).1⟩
 ·cases h
def ZU(d:D)(H H':Ae):Bool:=
 match d with
 | .hp i off=>QR i off H H'
 |d=>match Om d with|none=>true|some _=>false
inductive Gd where
 |apart (a b:Operand)
 |whole (a:Operand)
 |pure (as':List Operand)
 |same (a:Operand) (j:Nat)
def Gd.holds(ρ:Operand->D)(hs:Ac Ae):Gd->Bool
 | .apart a b=>oI (ρ a) (ρ b)
 | .whole a=>vT (ρ a)
 | .pure as'=>Fj (as'.map ρ)
 | .same a j=>
  match hs[j]?,hs[j+1]? with
  |some H,some H'=>ZU (ρ a) H H'
  |_,_=>false
def U8:Op->Af (Ac Operand)
 | .store _ a _=>some [a]
 | .call {callee:= .builtin .append,args,.. }=>match args.toList with|s::_=>some [s]|_=>none
 |op=>if QT op then some []else none
def YZ(ops:Ac Oper)(k:Nat):Operand->Bool
 | .tmp t=>(ops.drop k).all fun o=>o.dst !=some t
 |_=>true
def Wn(T:Tab)(ops:Ac Oper)(r:Oper)(i:Nat)(w:Oper)(m:Nat):Af (Ac Gd):=
 match r.op with
 | .load _ a=>match U8 w.op with|some ts=>if YZ ops i a&&ts.all (YZ ops m)then some (ts.map (.apart a))else none|none=>if YZ ops i a then some [.same a m]else none
 | .convert _ _ a=>if YZ ops i a then some [.whole a]else none
 | .buildSlice _ n _=>if RW T&&Nat.blt 0 n then some []else none
 | .call {callee:= .value (.func f),args,.. }=>if qE T f&&args.toList.all (YZ ops i)then some [.pure args.toList]else none
 |_=>none
def XD(T:Tab)(ops:Ac Oper)(x:Oper)(i:Nat)(y:Oper)(j:Nat):Af (Ac Gd):=
 if !Dp T x.op&&Dp T y.op then Wn T ops x i y j else if Dp T x.op&& !Dp T y.op then Wn T ops y j x i else none
def Jkc(a:Ac Nat)(o:Oper):Nat:=
 o.after.toList.foldl (fun m e=>if Region.binds .any e then m|||(1<<<e.on)|||a.getD e.on 0 else m) 0
def Iv:Ac Oper->Ac Nat->Ac Nat
 |[],a=>a
 |o::r,a=>Iv r (a++[Jkc a o])
def PG(ops:Ac Oper)(i j:Nat):Bool:=((Iv ops []).getD j 0).testBit i
def aR(T:Tab)(ops:Ac Oper)(y:Oper)(j:Nat)(x:Oper)(i:Nat):Bool:=
 match Xv ops x y with
 |true=>PG ops i j
 |false=>match VR T x y with
  |false=>true
  |true=>PG ops i j||(XD T ops x i y j).isSome
def Jkm(T:Tab)(ops:Ac Oper)(y:Oper)(j:Nat)(x:Oper)(i:Nat):aR T ops y j x i=(PG ops i j||(!Xv ops x y&&(!VR T x y||(XD T ops x i y j).isSome))):=by
 unfold aR
 grind
def Wx(T:Tab)(ops:Ac Oper):Bool:=
 (ops.zipIdx.all fun x=>x.1.after.all fun e=>decide (e.on<x.2)|| !Region.binds .any e)&&
 (ops.zipIdx.all fun(y,j)=>(ops.take j).zipIdx.all fun(x,i)=>aR T ops y j x i)
def bQ(T:Tab)(ops:Ac Oper):Ac Gd:=
 (ops.zipIdx.map fun(y,j)=>((ops.take j).zipIdx.map fun(x,i)=>if !VR T x y||PG ops i j then[]else(XD T ops x i y j).getD []).flatten).flatten
def fC(T:Tab)(ops:Ac Oper)(M:Nat):Ac Gd:=
 ((ops.take M).zipIdx.map fun(y,j)=>((ops.take j).zipIdx.map fun(x,i)=>if !VR T x y||PG ops i j then[]else(XD T ops x i y j).getD []).flatten).flatten
def Ts(T:Tab)(ops:Ac Oper)(M:Nat):Bool:=
 ops.zipIdx.all fun(o,i)=>if i<M then !Dp T o.op||PG ops i M else Nat.beq i M||PG ops M i
def YY(ops:Ac Oper)(d:Nat->Bool):Prop:=∀i o,ops[i]? =some o->d i=true->∀e∈o.after,Region.binds .any e=true->d e.on=true
def JoF(all:Ac Oper)(d:Nat->Bool)(hs:YY all d):∀(ops:Ac Oper) (a:Ac Nat) (pre:Ac Oper),all=pre++ops->a.length=pre.length->
  (∀k m,a[k]? =some m->∀j,m.testBit j=true->d k=true->d j=true)->∀k m,(Iv ops a)[k]? =some m->∀j,m.testBit j=true->d k=true->d j=true:=by
 intro ops
 induction ops with
 |nil=>intro a pre _ _ h;exact h
 |cons o r A=>
  intro a pre f g h;refine A (a++[Jkc a o]) (pre++[o]) (by simp[f]) (by simp[g]) fun k m n j y D=> ?_;by_cases z:k<a.length
  ·grind
  ·rw[SV (by omega)]at n;have s:k=a.length:=by grind
   subst s;simp only[oW,zO,CE]at n;subst n;have B:all[a.length]? =some o:=by grind
   have c:=hs _ o B D;have key:∀(l:Ac Edge) (m:Nat),(∀e∈l,Region.binds .any e=true->d e.on=true)->(m.testBit j=true->d j=true)->
     (l.foldl (fun m e=>if Region.binds .any e then m|||(1<<<e.on)|||a.getD e.on 0 else m) m).testBit j=true->d j=true:=by
    intro l
    induction l with
    |nil=>simp
    |cons e t q=>
     intro m i w v;rw[LT]at v;refine q _ (fun x C=>i x (by simp[C])) ?_ v;intro b;split at b
     ·rename_i p;have u:=i e (by simp) p;simp only[Nat.testBit_or,zN]at b;rcases b with(b|b)|b
      ·exact w b
      ·rw[Nat.testBit_shiftLeft]at b;simp only[DJ,F5]at b;have E:j-e.on=0:=Nat.testBit_one_eq_true_iff_self_eq_zero.1 b.2;have:j=e.on:=by omega
       rw[this];exact u
      ·cases F:a[e.on]? with
       |none=>grind
       |some m'=>
        grind
     ·exact w b
   exact key o.after.toList 0 (fun e i=>c e (by simpa using i)) (by simp) y
def Ir{H:Ae}{o:Af D}{d:D}{H':Ae}(h:same H o=some (d,H')):H'=H/\∀a,same a o=some (d,a):=by
 unfold same at h⊢;cases o with
 |none=>cases h
 |some e=>
  grind
def JzN{P:Aj}{op:Op}{ρ:Operand->D}{H H':Ae}{d:D}(j:ES op=false)(h:Cc P op ρ H=some (d,H')):H'=H/\∀k,Cc P op ρ k=some (d,k):=by
 have g:∀{α:Type} {o:Af α} {f:α->Ae->Af (D×Ae)},(∀a H H' d,f a H=some (d,H')->H'=H/\∀k,f a k=some (d,k))->(o.bind fun a=>f a H)=some (d,H')->H'=H/\∀k,(o.bind fun a=>f a k)=some (d,k):=by
  intro α o f E w;cases o with
  |none=>cases w
  |some a=>exact E a H H' d w
 cases op with
 |load=>simp[ES]at j
 |box=>simp[ES]at j
 |alloc=>simp[ES]at j
 |store=>simp[ES]at j
 |buildSlice=>simp[ES]at j
 |makeSlice=>simp[ES]at j
 |convert=>simp[ES]at j
 |makeMap=>simp[ES]at j
 |mapUpdate=>simp[ES]at j
 |insert=>simp[ES]at j
 |lookup=>simp[ES]at j
 |move x=>simp only[Cc,CE,Hu]at h⊢;grind
 |assign x=>simp only[Cc,CE,Hu]at h⊢;grind
 |pick c a b=>simp only[Cc]at h⊢;exact Ir h
 |field t x f=>simp only[Cc]at h⊢;exact g (f:=fun(l:AQ×Nat) H=>(L9 P l.1).bind fun s=>same H (Vb s l.2 (ρ x))) (fun a H H' d h=>by
   cases hs:L9 P a.1 with
   |none=>rw[hs]at h;cases h
   |some s=>rw[hs]at h;simp only[BR]at h⊢;exact Ir h) h
 |fieldAddr t x f=>simp only[Cc]at h⊢;exact g (f:=fun(l:AQ×Nat) H=>(P.info? l.1).bind fun i=>if i.size=0 then none else same H (AP l.2 (ρ x))) (fun a H H' d h=>by
   cases hs:P.info? a.1 with
   |none=>rw[hs]at h;cases h
   |some s=>
    rw[hs]at h;simp only[BR]at h⊢;split at h
    ·cases h
    ·rename_i A;simp only[Am A];exact Ir h) h
 |indexAddr t x i=>
  simp only[Cc]at h⊢;cases v:jZ P t with
  |some a=>rw[v]at h;exact Ir h
  |none=>rw[v]at h;exact g (f:=fun sz H=>same H (BG sz (ρ x) (ρ i))) (fun a H H' d h=>Ir h) h
 |slice t x r q C=>
  cases C with
  |some m=>cases h
  |none=>
   simp only[Cc]at h⊢;split at h
   ·exact Ir h
   ·exact g (f:=fun(p:TypeInfo) H=>same H (VN _ p.size (ρ x) (r.map ρ) (q.map ρ))) (fun a H H' d h=>Ir h) h
   ·exact g (f:=fun sz H=>same H (IJ sz (ρ x) (r.map ρ) (q.map ρ))) (fun a H H' d h=>Ir h) h
 |build t I=>simp only[Cc]at h⊢;exact Ir h
 |binOp op t x y G=>simp only[Cc]at h⊢;exact Ir h
 |unOp op t x=>cases op<;>first|(cases h;done)|(simp only[Cc]at h⊢;exact Ir h)
 |index t x i=>
  simp only[Cc]at h⊢;split at h
  ·exact Ir h
  ·rename_i n e _;cases q:P.info? e with
   |none=>rw[q]at h;cases h
   |some p=>rw[q]at h;exact g (f:=fun s H=>same H (XC n p.size s (ρ x) (ρ i))) (fun a H H' d h=>Ir h) h
  ·cases h
 |sliceToArrayPointer t x=>
  simp only[Cc]at h⊢;split at h
  ·exact g (f:=fun(p:TypeInfo) H=>same H (Xp _ p.size (ρ x))) (fun a H H' d h=>Ir h) h
  ·cases h
 |typeAssert x t u ok=>
  simp only[Cc]at h⊢;split at h
  ·rename_i F;simp only[Aw F];exact g (f:=fun z H=>same H (Ph u z ok (ρ x))) (fun a H H' d h=>Ir h) h
  ·cases h
 |extract t i=>simp only[Cc]at h⊢;exact Ir h
 |makeInterface t x=>
  simp only[Cc]at h⊢
  grind
 |makeFunc f a b=>
  simp only[Cc]at h⊢
  grind
 |nilCheck x=>
  simp only[Cc]at h⊢;exact Ir h
 |call c=>
  obtain⟨callee,args,B⟩:=c;cases callee with
  |builtin b=>
   cases b with
   |len=>
    simp only[Cc]at h⊢;split at h
    ·exact Ir h
    ·cases h
   |max=>simp only[Cc]at h⊢;exact Ir h
   |min=>simp only[Cc]at h⊢;exact Ir h
   |_=>simp[ES]at j
  |_=>simp[ES]at j
 |_=>cases h
def mS{P:Aj}{T:Tab}{op:Op}{ρ:Operand->D}{H H':Ae}{d:D}(a:ES op=false)(h:DF P T op ρ H=some (d,H')):H'=H/\∀c,DF P T op ρ c=some (d,c):=by
 have b:∀H,DF P T op ρ H=Cc P op ρ H:=by
  intro H;unfold DF;split
  ·simp[ES]at a
  ·simp[ES]at a
  ·simp[ES]at a
  ·simp[ES]at a
  ·rfl
 rw[b]at h;have:=JzN a h
 grind
def Tr{P:Aj}{T:Tab}(l:Bg P T){op:Op}{ρ:Operand->D}{H H':Ae}{d:D}(g:Dp T op=false)(h:DF P T op ρ H=some (d,H')):H'=H:=by
 by_cases j:ES op=false
 ·exact(mS j h).1
 ·unfold DF at h;split at h
  ·rename_i f args i;obtain⟨G,_,_,o⟩:=vO l h;exact(o (by simpa[Dp]using g)).1
  ·simp[Dp]at g
  ·simp[Dp]at g
  ·split at h
   ·exact(Ir h).1
   ·rename_i p;simp only[Dp,Ao]at g;exact absurd g p
  ·rename_i u w q v;cases op with
   |load t a=>
    simp only[Cc]at h;obtain⟨s,_,h⟩:=Bi.1 h;exact(Ir h).1
   |box=>simp[Dp]at g
   |alloc=>simp[Dp]at g
   |store=>simp[Dp]at g
   |buildSlice t n r=>grind
   |makeSlice=>simp[Dp]at g
   |makeMap=>simp[Dp]at g
   |mapUpdate=>simp[Dp]at g
   |insert=>simp[Dp]at g
   |convert s t x=>
    simp only[Cc]at h;split at h
    ·exact(Ir h).1
    ·split at h
     ·exact(Ir h).1
     ·cases h
    ·exact(Ir h).1
    ·split at h
     ·exact(Ir h).1
     ·cases h
    ·cases h
   |lookup t m k ok=>
    simp only[Cc]at h;obtain⟨e,_,h⟩:=Bi.1 h;obtain⟨z,_,h⟩:=Bi.1 h;exact(Ir h).1
   |call c=>
    obtain⟨callee,args,i⟩:=c;cases callee with
    |builtin b=>cases b<;>first|(simp[ES]at j;done)|(simp[Dp]at g;done)
    |value f=>cases f<;>first|(simp[Dp]at g;done)|(cases h;done)
    |invoke=>simp[Dp]at g
   |_=>simp[ES]at j
def Xj{H H':Ae}{o:Af D}{d:D}(h:same H o=some (d,H')):o=some d:=by
 unfold same at h;cases o with
 |none=>cases h
 |some e=>grind
def JlL{s:Af Nat}{H t:Ae}{x d:D}(h:Ai s H x=some d):Ai s (H++t) x=some d:=by
 unfold Ai at h⊢
 grind
def JnO{sz:Nat}{H t:Ae}{x:D}{cs:Ac D}(h:GV sz H x=some cs):GV sz (H++t) x=some cs:=by
 unfold GV at h⊢;split at h
 ·grind
 ·grind
 ·exact h
def JuL{H t:Ae}{x:D}{r:Ac Int×Ac D}(h:Ye H x=some r):Ye (H++t) x=some r:=by
 unfold Ye at h⊢
 grind
def Jus{P:Aj}{T:Tab}(y:Bg P T){op:Op}{ρ:Operand->D}{H H':Ae}{d:D}(g:Dp T op=false)(h:DF P T op ρ H=some (d,H'))(t:Ae):DF P T op ρ (H++t)=some (d,H++t):=by
 by_cases l:ES op=false
 ·exact(mS l h).2 _
 ·unfold DF at h⊢;split at h
  ·rename_i f args o;obtain⟨G,_,_,r⟩:=vO y h;exact(r (by simpa[Dp]using g)).2.1 t
  ·simp[Dp]at g
  ·simp[Dp]at g
  ·split at h
   ·rename_i i;rw[Aw i];have:=Xj h;simp only[same,this,Dt]
   ·rename_i i;simp only[Dp,Ao]at g;exact absurd g i
  ·rename_i J E C K;cases op with
   |load q a=>
    simp only[Cc]at h⊢;obtain⟨s,hs,h⟩:=Bi.1 h;have:=JlL (t:=t) (Xj h);simp only[hs,BR,same,this,Dt]
   |box=>simp[Dp]at g
   |alloc=>simp[Dp]at g
   |store=>simp[Dp]at g
   |buildSlice t n I=>grind
   |makeSlice=>simp[Dp]at g
   |makeMap=>simp[Dp]at g
   |mapUpdate=>simp[Dp]at g
   |insert=>simp[Dp]at g
   |convert s q x=>
    simp only[Cc]at h⊢;split at h
    ·rename_i p B;have:=Xj h;simp only[same,this,Dt]
    ·rename_i e p B;split at h
     ·rename_i F;have i:=Xj h;unfold MH at i;obtain⟨cs,w,u⟩:=Bi.1 i;have:MH (H++t) (ρ x)=some d:=by unfold MH;rw[JnO w];exact u
      simp only[same,this,Dt]
     ·cases h
    ·have:=Xj h;simp only[same,this,Dt]
    ·split at h
     ·have:=Xj h;simp only[same,this,Dt]
     ·cases h
    ·cases h
   |lookup q m k ok=>
    simp only[Cc]at h⊢;obtain⟨e,A,h⟩:=Bi.1 h;obtain⟨z,v,h⟩:=Bi.1 h;have j:=Xj h;unfold O8 at j;obtain⟨kv,p,j⟩:=Bi.1 j;have:O8 z ok (H++t) (ρ m) (ρ k)=some d:=by unfold O8;rw[JuL p];exact j
    simp only[A,v,BR,same,this,Dt]
   |call c=>
    obtain⟨callee,args,o⟩:=c;cases callee with
    |builtin b=>cases b<;>first|(simp[ES]at l;done)|(simp[Dp]at g;done)
    |value f=>cases f<;>first|(simp[Dp]at g;done)|(cases h;done)
    |invoke=>simp[Dp]at g
   |_=>simp[ES]at l
def JzX{P:Aj}{T:Tab}{op:Op}{ρ:Operand->D}{H H':Ae}{d:D}(b:QT op=true)(h:DF P T op ρ H=some (d,H')):∃t,H'=H++t:=by
 have new:∀{a:AQ} {sz:Nat} {cs:Ac D} {f:Nat×Ae->D×Ae},(∀r,(f r).2=r.2)->(Gg a sz cs H).map f=some (d,H')->∃t,H'=H++t:=by
  intro a sz cs f g h;unfold Gg at h;split at h
  ·grind
  ·cases h
 cases op with
 |box t x=>
  simp only[DF,Cc,BA]at h;obtain⟨cs,_,h⟩:=Bi.1 h
  grind
 |alloc t=>
  simp only[DF,Cc,BX]at h;obtain⟨cs,_,h⟩:=Bi.1 h
  grind
 |buildSlice t n e=>
  simp only[DF]at h;split at h
  ·exact⟨[],by rw[(Ir h).1,Lj]⟩
  simp only[Cc,DI]at h;obtain⟨r,_,h⟩:=Bi.1 h;obtain⟨c,_,h⟩:=Bi.1 h;obtain⟨els,_,h⟩:=Bi.1 h
  grind
 |makeSlice t n m=>
  simp only[DF,Cc,NV]at h;obtain⟨z,_,h⟩:=Bi.1 h
  grind
 |makeMap t r=>
  cases r with
  |none=>
   simp only[DF,Cc]at h;split at h
   ·unfold bT at h
    grind
   ·cases h
  |some r=>cases h
 |_=>simp[QT]at b
def xG{H H' a:Ae}{o:Af D}{d:D}(h:same H o=some (d,H')):same a o=some (d,a):=by
 have:=Xj h;subst this;rfl
def Jrw{sz:Nat}{H b:Ae}{x:D}(a:Om x=none):GV sz b x=GV sz H x:=by
 cases x<;>first|rfl|(simp[Om]at a;done)
def Jsx{P:Aj}{T:Tab}{s t:AQ}{a:Operand}{ρ:Operand->D}{H H':Ae}{d:D}(b:vT (ρ a)=true)(h:DF P T (.convert s t a) ρ H=some (d,H'))(c:Ae):DF P T (.convert s t a) ρ c=some (d,c):=by
 have hid:Om (ρ a)=none:=by
  unfold vT at b;split at b
  ·assumption
  ·cases b
 simp only[DF,Cc]at h⊢;split at h
 ·exact xG h
 ·split at h
  ·have e:MH c (ρ a)=MH H (ρ a):=by unfold MH;rw[Jrw hid]
   rw[e];exact xG h
  ·cases h
 ·exact xG h
 ·split at h
  ·exact xG h
  ·cases h
 ·cases h
def Jnj{P:Aj}{T:Tab}(c:Bg P T){f:CG}{args:CX Operand}{a:CX AQ}{ρ:Operand->D}{H H':Ae}{d:D}(i:qE T f=true)(g:Fj (args.toList.map ρ)=true)(h:DF P T (.call {callee:= .value (.func f),args:=args,argTypes:=a}) ρ H=some (d,H'))(b:Ae):
  DF P T (.call {callee:= .value (.func f),args:=args,argTypes:=a}) ρ b=some (d,b):=by
 simp only[DF]at h⊢;obtain⟨G,_,_,e⟩:=vO c h
 grind
def Jzu{s:Af Nat}{H H':Ae}{x:D}(h:∀id off,x= .hp id off->Tn id off H H'):Ai s H' x=Ai s H x:=by
 cases x with
 |hp id off=>
  rcases h id off rfl with h|⟨t,sz,cs,e,b,cs',d,c,a⟩
  ·simp only[Ai,h]
  ·simp only[Ai,d,c,a]
 |_=>rfl
def Jvz{s:Af Nat}{H:Ae}{x d:D}(h:Ai s H x=some d):∀id off,x= .hp id off->id<H.length:=by
 rintro id off rfl;simp only[Ai]at h
 grind
def Jse{a:AQ}{sz:Nat}{cs:Ac D}{H:Ae}{r:Nat×Ae}(h:Gg a sz cs H=some r){id:Nat}(hid:id<H.length):r.2[id]? =H[id]? /\H.length<=r.2.length:=by
 unfold Gg at h
 grind
def JdC{e:AQ}{sz:Nat}{s:D}{new:Ac D}{H H':Ae}{d:D}{id:Nat}(hid:id<H.length)(hs:Om s≠some id)(h:KW e sz s new H=some (d,H')):H'[id]? =H[id]? /\H.length<=H'.length:=by
 unfold KW at h;split at h
 ·cases h
 ·split at h
  ·grind
  ·rename_i a c;have b:a≠id:=fun e=>hs (by simp[Om,e])
   grind
  ·cases h
def Jtw{P:Aj}{T:Tab}{op:Op}{ρ:Operand->D}{H H':Ae}{d:D}{ts:Ac Operand}{id:Nat}(hid:id<H.length)(g:U8 op=some ts)(p:∀b∈ts,Om (ρ b)≠some id)(h:DF P T op ρ H=some (d,H')):H'[id]? =H[id]? /\H.length<=H'.length:=by
 have new:∀{q:AQ} {sz:Nat} {cs:Ac D} {f:Nat×Ae->D×Ae},(∀r,(f r).2=r.2)->(Gg q sz cs H).map f=some (d,H')->H'[id]? =H[id]? /\H.length<=H'.length:=by
  intro q sz cs f C h;obtain⟨r,w,e⟩:=DV.1 h;have l:=C r;rw[e]at l;simp only at l;rw[l];exact Jse w hid
 cases op with
 |store t a x=>
  simp only[U8,CE]at g;subst g;have j:=p a (by simp);simp only[DF,Cc]at h;obtain⟨i,_,h⟩:=Bi.1 h;unfold Bh at h;obtain⟨G,n,e⟩:=DV.1 h;cases e;unfold FI at n;split at n
  ·rename_i o off ds v u;rw[v]at j;have I:o≠id:=fun e=>j (by simp[Om,e])
   grind
  ·cases n
 |box t x=>
  simp only[DF,Cc,BA]at h;obtain⟨cs,_,h⟩:=Bi.1 h
  grind
 |alloc t=>
  simp only[DF,Cc,BX]at h;obtain⟨cs,_,h⟩:=Bi.1 h
  grind
 |buildSlice t k K=>
  simp only[DF]at h;split at h
  ·have e:=(Ir h).1
   grind
  simp only[Cc,DI]at h;obtain⟨r,_,h⟩:=Bi.1 h;obtain⟨J,_,h⟩:=Bi.1 h;obtain⟨els,_,h⟩:=Bi.1 h
  grind
 |makeSlice t k m=>
  simp only[DF,Cc,NV]at h;obtain⟨z,_,h⟩:=Bi.1 h
  grind
 |makeMap t r=>
  cases r with
  |none=>
   simp only[DF,Cc]at h;split at h
   ·unfold bT at h
    grind
   ·cases h
  |some r=>cases h
 |call c=>
  obtain⟨callee,args,B⟩:=c;cases callee with
  |builtin b=>
   cases b with
   |append=>
    simp only[U8]at g;simp only[DF,Cc]at h;split at h
    ·rename_i s x t F y E;rw[y]at g;simp only[CE]at g;subst g;have hs:=p s (by simp);split at h
     ·obtain⟨A,_,h⟩:=Bi.1 h;unfold D5 at h;obtain⟨new,_,h⟩:=Bi.1 h;exact JdC hid hs h
     ·split at h
      ·obtain⟨A,_,h⟩:=Bi.1 h;unfold UQ at h;split at h
       ·split at h
        ·exact JdC hid hs h
        ·cases h
       ·cases h
      ·cases h
    ·cases h
   |_=>simp[U8,QT]at g
  |_=>simp[U8,QT]at g
 |_=>simp[U8,QT]at g
theorem vB{P:Aj}{T:Tab}{all:Ac Oper}:∀(ops:Ac Oper) (s s':Fr),GG P T all ops s=some s'->∃a:Nat->Fr,a 0=s/\a ops.length=s'/\(∀i,i<=ops.length->(Ja P T all ops s)[i]? =some (a i).2)/\
  ∀i o,ops[i]? =some o->∃d,Iq P T all o (a i).1 (a i).2=some d/\a (i+1)=(JV (a i).1 o.dst d.1,d.2)
 |[],s,s',h=>by
  simp only[GG,CE]at h;exact⟨fun _=>s,rfl,h,fun i b=>by
   obtain rfl:i=0:=by simpa using b
   rfl,fun i o b=>by simp at b⟩
 |o::r,s,s',h=>by
  simp only[GG]at h;cases c:Iq P T all o s.1 s.2 with
  |none=>rw[c]at h;cases h
  |some d=>
   rw[c,BR]at h;obtain⟨a,f,e,g,t2⟩:=vB r _ _ h;refine⟨fun k=>match k with|0=>s|k+1=>a k,rfl,e,fun i b=> ?_,fun i x b=> ?_⟩
   ·cases i with
    |zero=>simp[Ja]
    |succ i=>
     simp only[Ja,c,Jkw]
     grind
   grind
def Joo(fr:Ac D)(dst:Af Tmp)(d:D):(JV fr dst d).length=fr.length:=by
 cases dst<;>simp[JV]
def JaX(fr:Ac D)(dst:Af Tmp)(d:D)(s:Nat)(h:dst≠some s):(JV fr dst d)[s]? =fr[s]? :=by
 cases dst with
 |none=>rfl
 |some t=>simp only[JV];grind
section
variable {P : Aj} {T : Tab} {all : Ac Oper} {tr : Nat → Fr} {M : Nat}
def rD(b:M<=all.length)(ht:∀i o,i<M->all[i]? =some o->∃d,Iq P T all o (tr i).1 (tr i).2=some d/\tr (i+1)=(JV (tr i).1 o.dst d.1,d.2))(k:Nat)(c:k<=M):(tr k).1.length=(tr 0).1.length:=by
 induction k with
 |zero=>rfl
 |succ k a=>
  obtain⟨d,_,h⟩:=ht k (all[k]'(by omega)) (by omega) (FQ (by omega));rw[h];simp only;rw[Joo,a (by omega)]
def Z0(a:M<=all.length)(ht:∀i o,i<M->all[i]? =some o->∃d,Iq P T all o (tr i).1 (tr i).2=some d/\tr (i+1)=(JV (tr i).1 o.dst d.1,d.2))(s:Nat)(k m:Nat)(b:k<=m)(g:m<=M)
  (h:∀j o,k<=j->j<m->all[j]? =some o->o.dst≠some s):(tr m).1[s]? =(tr k).1[s]? :=by
 induction m with
 |zero=>grind
 |succ m f=>
  by_cases c:k=m+1
  ·rw[c]
  ·obtain⟨d,_,e⟩:=ht m (all[m]'(by omega)) (by omega) (FQ (by omega));rw[e];simp only;rw[JaX _ _ _ _ (h m _ (by omega) (by omega) (FQ (by omega)))]
   grind
def qC(b:Bg P T)(e:M<=all.length)(ht:∀i o,i<M->all[i]? =some o->∃d,Iq P T all o (tr i).1 (tr i).2=some d/\tr (i+1)=(JV (tr i).1 o.dst d.1,d.2))(k m:Nat)(f:k<=m)(p:m<=M)
  (h:∀j o,k<=j->j<m->all[j]? =some o->Dp T o.op=false):(tr m).2=(tr k).2:=by
 induction m with
 |zero=>grind
 |succ m n=>
  by_cases g:k=m+1
  ·rw[g]
  ·obtain⟨d,a,l⟩:=ht m (all[m]'(by omega)) (by omega) (FQ (by omega));rw[l];simp only;have c:=h m (all[m]'(by omega)) (by omega) (by omega) (FQ (by omega));have:d.2=(tr m).2:=by
    unfold Iq at a;split at a
    ·exact Tr b c (show DF P T (all[m]'(by omega)).op (DU (tr m).1) (tr m).2=some (d.1,d.2)from a)
    ·cases a;rfl
    ·cases a
   grind
end
def JnI{T:Tab}{op:Op}(h:Dp T op=true):ES op=true:=by
 cases a:ES op with
 |true=>rfl
 |false=>
  exfalso;cases op with
  |call c=>
   obtain⟨callee,args,d⟩:=c;cases callee with
   |builtin b=>cases b<;>first|(simp[ES]at a;done)|(simp[Dp]at h;done)
   |value f=>simp[ES]at a
   |invoke=>simp[ES]at a
  |_=>first|(simp[ES]at a;done)|(simp[Dp]at h;done)
def xA(T:Tab)(ops:Ac Oper)(o:Oper)(i:Nat)(x:Oper)(j:Nat)(ρ:Operand->D)(hs:Ac Ae):Prop:=∃a,Wn T ops o i x j=some a/\∀g∈a,g.holds ρ hs=true
def JrG{op:Op}(h:QT op=true):U8 op=some []:=by
 cases op<;>first|rfl|(simp[QT]at h;done)
section
variable {P : Aj} {T : Tab} {all : Ac Oper} {tr : Nat → Fr} {M : Nat}
def Jyf(b:M<=all.length)(ht:∀i o,i<M->all[i]? =some o->∃d,Iq P T all o (tr i).1 (tr i).2=some d/\tr (i+1)=(JV (tr i).1 o.dst d.1,d.2))(a:Operand)(k m:Nat)(hs:YZ all k a=true)(c:k<=m)(e:m<=M):DU (tr m).1 a=DU (tr k).1 a:=by
 cases a with
 |tmp t=>
  have:=Z0 b ht t k m c e fun j o h g f=>by
   simp only[YZ,Ew]at hs;have:=hs o (by rw[pQ];exact⟨j-k,by grind⟩);simpa using this
  simp only[DU,Ed,this]
 |_=>rfl
def Jaq(off:Nat)(p:Bg P T)(t:M<=all.length)(ht:∀i o,i<M->all[i]? =some o->∃d,Iq P T all o (tr i).1 (tr i).2=some d/\tr (i+1)=(JV (tr i).1 o.dst d.1,d.2))(id k m:Nat)(g:k<=m)(x:m<=M)(hid:id<(tr k).2.length)
  (h:∀j o,k<=j->j<m->all[j]? =some o->Dp T o.op=true->(∃ts,U8 o.op=some ts/\∀b∈ts,Om (DU (tr j).1 b)≠some id)\/QR id off (tr j).2 (tr (j+1)).2=true):Tn id off (tr k).2 (tr m).2/\id<(tr m).2.length:=by
 induction m with
 |zero=>
      obtain rfl:k=0:=by omega
      exact⟨.inl rfl,hid⟩
 |succ m l=>
  by_cases u:k=m+1
  ·subst u;exact⟨.inl rfl,hid⟩
  ·obtain⟨n,e⟩:=l (by omega) (by omega) fun j o c w r=>h j o c (by omega) r;obtain⟨d,a,c⟩:=ht m (all[m]'(by omega)) (by omega) (FQ (by omega));rw[c];simp only;have key:Tn id off (tr m).2 d.2/\id<d.2.length:=by
    unfold Iq at a;split at a
    ·cases f:Dp T (all[m]'(by omega)).op with
     |false=>
      have:=Tr p f (show DF P T (all[m]'(by omega)).op (DU (tr m).1) (tr m).2=some (d.1,d.2)from a);rw[this];exact⟨.inl rfl,e⟩
     |true=>
      rcases h m (all[m]'(by omega)) (by omega) (by omega) (FQ (by omega)) f with⟨ts,s,v⟩|q
      ·have:=Jtw e s v (show DF P T (all[m]'(by omega)).op (DU (tr m).1) (tr m).2=some (d.1,d.2)from a);exact⟨.inl this.1,by omega⟩
      ·rw[c]at q;exact JqV q
    ·cases a;exact⟨.inl rfl,e⟩
    ·cases a
   exact⟨n.trans key.1,key.2⟩
end
structure Qea(ds0:List Deferred)(T:Tab)(ops:List Oper)(M:Nat)(tr:Nat->Fr)(B:Nat)(S0:Nat->Prop)(L0:List (Nat×Nat))(w0:World)(d:Nat->Bool)(a:Act)(w:World):Prop where
 defers:a.defers=ds0
 size:a.tmps.size=(tr 0).1.length
 shut:YY ops d
 late:∀i,M<=i->d i=false
 state:∃(S:Nat->Prop) (L:List (Nat×Nat)),Later B S0 S L0 L w0 w/\
  (∃k,k<=M/\(k=0\/∃o,ops[k-1]? =some o/\Dp T o.op=true/\d (k-1)=true/\0<k)/\(∀j o,k<=j->ops[j]? =some o->Dp T o.op=true->d j=false)/\BD B S L w (tr k).2)/\
  ∀s,s<a.tmps.size->∃k,k<=M/\(k=0\/∃o,ops[k-1]? =some o/\o.dst=some s/\d (k-1)=true/\0<k)/\(∀j o,k<=j->ops[j]? =some o->o.dst=some s->d j=false)/\
   Rep S L w (a.tmps.getD s undef) ((tr k).1.getD s .undef)
theorem gS{F:Fence}{n:Nat}{P:Aj}{ops:CX Oper}{Q:Exit->Act->AA->Prop}{a:(Nat->Bool)->Act->AA->Prop}:∀(l:Ac Oper) (k:Nat),(∀j o,l[j]? =some o->mT F n P ops Q a (k+j) o)->yX F n P ops Q a l k
 |[],k,h=>trivial
 |o::r,k,h=>⟨h 0 o rfl,gS r (k+1) fun j x b=>by
  have:=h (j+1) x (by simpa using b)
  grind⟩
def JsO(a:Act)(dst:Af Tmp)(v:Ap)(s:Nat)(hs:s<a.tmps.size):(a.put dst v).tmps.getD s undef=if dst=some s then v else a.tmps.getD s undef:=by
 cases dst with
 |none=>simp[Act.put]
 |some t=>
  simp only[Act.put,CE];rw[rA,Array.getElem?_setIfInBounds];by_cases b:t=s
  ·grind
  ·simp[b]
def JjS(a:Act)(dst:Af Tmp)(v:Ap):(a.put dst v).tmps.size=a.tmps.size:=by
 cases dst<;>simp[Act.put]
def BD.drew{B:Nat}{S:Nat->Prop}{L:Ac (Nat×Nat)}{w:AA}{H:Ae}(h:BD B S L w H):BD B S L w.drew H/\Later B S S L L w w.drew:=by
 have a:Later B S S L L w w.drew:=⟨(Below.refl _ _).drew,tA (Kept.refl _ _),fun _ h=>h,eF _,fun _ h=> .inl h,fun _ h=>h⟩;refine⟨⟨h.len,h.small,h.base,fun id o hid i=> ?_,h.inj⟩,a⟩;obtain⟨b,c,g,f,d,e⟩:=h.obj id o hid i;exact⟨b,c,g,f,d,e.kept rfl (fun _ _=>a.rep) (fun _ _=>a.repA)⟩
set_option maxHeartbeats 1000000 in
def Jjy{P:Aj}{T:Tab}(hT:Bg P T)(hm:P.follows .mixedOrders=true){F:Fence}(hF:Wd F){n id B:Nat}{N:NB}{ops:CX Oper}{Q:Exit->Act->AA->Prop}{a:Act}{w:AA}{S:Nat->Prop}{L:Ac (Nat×Nat)}{fr I:Fr}
  (M:Nat) (W:M<=ops.toList.length) (hd:Wx T ops.toList=true) (hg:∀g∈fC T ops.toList M,g.holds (DU I.1) (Ja P T ops.toList (ops.toList.take M) fr)=true) (h:GG P T ops.toList (ops.toList.take M) fr=some I) (hr:EY B N S L w a fr) (hQ:M=ops.toList.length->∀a' w' S' L',EY B N S' L' w' a' I->Later B S S' L L' w w'->Q .normal a' w')
  (bg:M<ops.toList.length->(∀i,M<i->i<ops.toList.length->PG ops.toList M i=true)/\(∀i o,i<M->ops.toList[i]? =some o->Dp T o.op=true->PG ops.toList i M=true)/\∃o x H',ops.toList[M]? =some o/\Ns ops.toList o I.1=some true/\LU T o.op (DU I.1) I.2=some (x,H')/\
   ∀a' w' S' L',EY B N S' L' w' a' (List.replicate fr.1.length .undef,H')->Later B S S' L L' w w'->Q (.panic [{v:=x,recovered:=false}]) a' w'):(Code.region id ops true).wpIn F n P Q a w:=by
 simp only[Wx,DJ]at hd;obtain⟨da,ck⟩:=hd;obtain⟨z,t0,tn,th,ht⟩:=vB (ops.toList.take M) fr I h;have b2:(ops.toList.take M).length=M:=by rw[eG];omega
 rw[b2]at tn th
 replace ht:∀i o,i<M->ops.toList[i]? =some o->∃d,Iq P T ops.toList o (z i).1 (z i).2=some d/\z (i+1)=(JV (z i).1 o.dst d.1,d.2):=fun i o hi Z=>ht i o (by rw[Xw hi];exact Z);have av:∀i j,PG ops.toList i j=true->∀d:Nat->Bool,YY ops.toList d->d j=true->d i=true:=by
  intro i j Z d hs b9;unfold PG at Z;cases ca:(Iv ops.toList [])[j]? with
  |none=>rw[Ed,ca]at Z;simp at Z
  |some m=>
   rw[Ed,ca]at Z;exact JoF ops.toList d hs ops.toList [] [] rfl rfl (by simp) j m ca i (by simpa using Z) b9
 have a0:∀i j x y,ops.toList[i]? =some x->ops.toList[j]? =some y->i<j->(∀d:Nat->Bool,YY ops.toList d->d j=true->d i=true)\/Xv ops.toList x y=false:=by
  intro i j x y hi O bb;have mj:(y,j)∈ops.toList.zipIdx:=by rw[Av];simpa using O
  have mi:(x,i)∈(ops.toList.take j).zipIdx:=by rw[Av];simp[bb];simpa using hi
  have A:=Ew.1 ck (y,j) mj;have h2:=Ew.1 A (x,i) mi;simp only[Jkm]at h2;simp only[zN,DJ,zU]at h2;rcases h2 with h2|h2
  ·exact .inl (av i j h2)
  ·exact .inr h2.1
 have cm:(z 0).1.length=a.tmps.size:=by rw[t0,<-hr.tmps.length,eP]
 have az:∀i j x y,j<M->ops.toList[i]? =some x->ops.toList[j]? =some y->i<j->(∀d:Nat->Bool,YY ops.toList d->d j=true->d i=true)\/
   (Xv ops.toList x y=false/\(VR T x y=false\/∃gs,XD T ops.toList x i y j=some gs/\∀g∈gs,g.holds (DU I.1) (Ja P T ops.toList (ops.toList.take M) fr)=true)):=by
  intro i j x y ax hi O bb;have mj:(y,j)∈ops.toList.zipIdx:=by rw[Av];simpa using O
  have mi:(x,i)∈(ops.toList.take j).zipIdx:=by rw[Av];simp[bb];simpa using hi
  have A:=Ew.1 ck (y,j) mj;have h2:=Ew.1 A (x,i) mi;simp only[Jkm]at h2;simp only[zN,DJ,zU]at h2;cases Z:PG ops.toList i j with
  |true=>
   exact .inl (av i j Z)
  |false=>
   rw[Z]at h2;simp only[BF,false_or]at h2;refine .inr ⟨h2.1,?_⟩;cases hh:VR T x y with
   |false=>exact .inl rfl
   |true=>
    rw[hh]at h2;simp only[Bool.true_eq_false,false_or]at h2;obtain⟨gs,ct⟩:=Y9.1 h2.2;refine .inr ⟨gs,ct,fun g c2=>hg g ?_⟩;have c5:(y,j)∈(ops.toList.take M).zipIdx:=by rw[Av];simp only;rw[Xw ax];exact O
    unfold fC;refine List.mem_flatten.2 ⟨_,GN.2 ⟨(y,j),c5,rfl⟩,?_⟩;refine List.mem_flatten.2 ⟨_,GN.2 ⟨(x,i),mi,rfl⟩,?_⟩;simp only[hh,Z,MX,Bool.or_self,BF,BC,ct,zS];exact c2
 have b0:∀i j x y,j<M->ops.toList[i]? =some x->ops.toList[j]? =some y->i<j->Dp T x.op=true->Dp T y.op=true->∀d:Nat->Bool,YY ops.toList d->d j=true->d i=true:=by
  intro i j x y ax hi O bb p hy;rcases az i j x y ax hi O bb with A|⟨_,A⟩
  ·exact A
  ·have dc:ES y.op=true:=JnI hy;rcases A with A|⟨gs,A,_⟩
   ·simp[VR,p,dc]at A
   ·simp[XD,p,hy]at A
 obtain⟨c8,co⟩:=hr.objs.drew;refine cL hm (Qea a.defers T ops.toList M z B S L w) da ?_ ?_ ?_
 ·refine⟨rfl,cm.symm,fun i o _ h=>by simp at h,fun _ _=>rfl,S,L,co,⟨0,F9 _,.inl rfl,fun _ _ _ _ _=>rfl,by rw[t0];exact c8⟩,fun s hs=>⟨0,F9 _,.inl rfl,fun _ _ _ _ _=>rfl,?_⟩⟩;have:=(co.repA hr.tmps).getD s undef;rw[t0];simpa using this
 ·refine gS _ 0 fun i o Z=> ?_;rw[EE];intro d a1 w1 K b6 bs q hK;have bj:i<ops.toList.length:=(CV.1 Z).1;by_cases ci:M<i
  ·exfalso;have:=av M i ((bg (by omega)).1 i ci bj) (OC d i) (by
    intro i' o' ai bh e he hb;by_cases ba:i'=i
    ·subst ba;rw[Z]at ai;cases ai;have:=bs e he hb;by_cases ad:e.on=i'
     ·rw[ad,Lu]
     ·rw[JW d ad];exact this
    ·rw[JW d ba]at bh;have:=q.shut i' o' ai bh e he hb;by_cases ad:e.on=i
     ·rw[ad,Lu]
     ·rw[JW d ad];exact this) (Lu d i)
   rw[JW d (by omega),q.late M (BQ _)]at this;cases this
  obtain⟨S1,L1,al,⟨R,be,a2,ag,ab⟩,an⟩:=q.state;have aa:YY ops.toList (OC d i):=by
   intro i' o' ai bh e he hb;by_cases ba:i'=i
   ·subst ba;rw[Z]at ai;cases ai;have:=bs e he hb;by_cases ad:e.on=i'
    ·rw[ad,Lu]
    ·rw[JW d ad];exact this
   ·rw[JW d ba]at bh;have:=q.shut i' o' ai bh e he hb;by_cases ad:e.on=i
    ·rw[ad,Lu]
    ·rw[JW d ad];exact this
  have bp:∀j x,j<i->ops.toList[j]? =some x->Xv ops.toList x o=true->d j=true:=by
   intro j x O p hc;rcases a0 j i x o p Z O with A|A
   ·have:=A (OC d i) aa (Lu d i);rwa[JW d (by omega)]at this
   ·rw[hc]at A;cases A
  have ar:∀j x,i<j->ops.toList[j]? =some x->(∀d:Nat->Bool,YY ops.toList d->d j=true->d i=true)->d j=false:=by
   intro j x O p A;cases b9:d j with
   |false=>rfl
   |true=>
    have:=A d q.shut b9;rw[b6]at this;cases this
  have ap:∀j x,i<j->ops.toList[j]? =some x->Xv ops.toList o x=true->d j=false:=by
   intro j x O p hc;rcases a0 i j o x Z p O with A|A
   ·exact ar j x O p A
   ·rw[hc]at A;cases A
  have au:∀s∈QK ops.toList o,Rep S1 L1 w1 (a1.tmps.getD s undef) ((z i).1.getD s .undef):=by
   intro s hs;by_cases c3:s<a1.tmps.size
   ·obtain⟨k,hk,br,bi,bc⟩:=an s c3;have b5:(z i).1[s]? =(z k).1[s]? :=by
     by_cases ay:k<=i
     ·refine Z0 W ht s k i ay (by omega) fun j x E C p U=> ?_;have h3:=bp j x C p (by simp[Xv,U,hs]);rw[bi j x E p U]at h3;cases h3
     ·rcases br with h0|⟨x,p,U,V,am⟩
      ·omega
      ·exfalso;have c7:k-1≠i:=by intro e;rw[e]at V;rw[b6]at V;cases V
       have:=ap (k-1) x (by omega) p (by simp[Xv,U,hs]);rw[this]at V;cases V
    rw[Ed,b5,<-Ed];exact bc
   ·have:(z i).1[s]? =none:=by
     rw[UC];have:=rD W ht i (by omega);have:=q.size;omega
    rw[Ed,this];simp only[Option.getD_none,Rep]
  let ρ0:Operand->D:=fun x=>match x with
   | .tmp t=>if t∈QK ops.toList o then(z i).1.getD t .undef else .undef
   |x=>DU (z i).1 x
  have cu:∀x∈D8 o.op,ρ0 x=DU (z i).1 x:=fun x p=>by
   cases x with
   |tmp t=>
    have:t∈QK ops.toList o:=by
     simp only[QK,OQ,L7];exact .inl ⟨_,p,rfl⟩
    simp only[ρ0,Aw this,DU]
   |_=>rfl
  have cq:∀x,Rep S1 L1 w1 (a1.eval x) (ρ0 x):=by
   intro x;cases x with
   |tmp t=>
    simp only[ρ0,Act.eval];split
    ·rename_i hm;exact au t hm
    ·simp only[Rep]
   |func f=>
    simp only[ρ0,DU,Rep,Au];exact⟨[],[],rfl,rfl,rfl⟩
   |_=>simp only[ρ0,DU,Rep];rfl
  by_cases cy:i=M
  ·subst cy;obtain⟨_,bw,o',x,H',ai,cz,cw,dh⟩:=bg bj;rw[Z]at ai;cases ai;have aq:Region.wanted o (yielded ops a1.tmps)=true:=iH cz fun j cj t v hg O hv=>by
    have a3:t∈QK ops.toList o:=by
     simp only[QK,OQ,hg];right;rw[O];simp
    have:=au t a3;rw[<-tn,CV]at hv;obtain⟨hl,hv⟩:=hv;have h5:(z i).1.getD t .undef= .v v:=by rw[Ed,FQ hl,hv];rfl
    rw[h5]at this;simp only[Rep]at this;have a6:t<a1.tmps.size:=by rw[q.size,<-rD W ht i (BQ _)];exact hl
    rw[<-this];simp[a6]
   rw[Aw aq];have b3:(z i).2=(z R).2:=by
    refine qC hT W ht R i be (BQ _) fun j x E C p=> ?_;cases u:Dp T x.op with
    |false=>rfl
    |true=>
     have h3:=av j i (bw j x C p u) (OC d i) aa (Lu d i);rw[JW d (by omega),ag j x E p u]at h3;cases h3
   have cr:LU T o.op ρ0 (z R).2=some (x,H'):=by
    rw[<-b3,<-cw,<-tn];exact Jq1 T o.op _ _ _ cu
   refine Jc2 hT hF cr cq ab fun w' S' L' A h2=>dh a1 w' S' L' ⟨?_,?_,A⟩ (al.trans h2)
   ·rw[q.defers];exact hr.defers.later (al.trans h2)
   ·have bn:=q.size;rw[t0]at bn;have:∀(l:Ac Ap) (k:Nat),l.length=k->Au S' L' w' l (List.replicate k .undef):=by
     intro l
     induction l with
     |nil=>intro k hk;subst hk;exact Au.nil
     |cons x r ih=>intro k hk;subst hk;exact Au.cons (by simp only[Rep]) (ih _ rfl)
    exact this _ _ (by rw[eP,bn])
  have bk:i<M:=by omega
  obtain⟨dd,A,h2⟩:=ht i o bk Z;have de:∀j x,j<i->ops.toList[j]? =some x->Dp T x.op=true->Dp T o.op=true->d j=true:=by
   intro j x O p ao bx;have:=b0 j i x o bk p Z O ao bx (OC d i) aa (Lu d i);rwa[JW d (by omega)]at this
  have cl:∀j x,i<j->ops.toList[j]? =some x->Dp T o.op=true->Dp T x.op=true->d j=false:=fun j x O p ao bx=>if ax:j<M then ar j x O p (b0 i j o x ax Z p O ao bx)else q.late j (by omega);have cp:∀j x,j<i->ops.toList[j]? =some x->Dp T x.op=true->ES o.op=true->Dp T o.op=false->d j=true\/xA T ops.toList o i x j (DU I.1) (Ja P T ops.toList (ops.toList.take M) fr):=by
   intro j x O p ao b8 ah;rcases az j i x o bk p Z O with A|⟨_,A⟩
   ·left;have:=A (OC d i) aa (Lu d i);rwa[JW d (by omega)]at this
   ·rcases A with A|⟨gs,A,h2⟩
    ·simp[VR,ao,b8]at A
    ·right;simp only[XD,ao,ah,MX,BF,BC,zT,pG,Bv]at A;exact⟨gs,A,h2⟩
  have cb:∀j x,i<j->ops.toList[j]? =some x->Dp T x.op=true->QT x.op=false->ES o.op=true->Dp T o.op=false->d j=false\/xA T ops.toList o i x j (DU I.1) (Ja P T ops.toList (ops.toList.take M) fr):=by
   intro j x O p ao a7 b8 ah;by_cases ax:M<=j
   ·exact .inl (q.late j ax)
   rcases az i j o x (by omega) Z p O with A|⟨_,A⟩
   ·exact .inl (ar j x O p A)
   ·rcases A with A|⟨gs,A,h2⟩
    ·simp[VR,ao,b8,a7]at A
    ·right;simp only[XD,ao,ah,MX,BF,BC,zT,pG,Bv]at A;exact⟨gs,A,h2⟩
  have ak:∀j x,i<j->j<R->ops.toList[j]? =some x->Dp T x.op=true->d j=true:=by
   intro j x E C p u;rcases a2 with h0|⟨y,hy,c0,ce,am⟩
   ·omega
   ·by_cases cx:j=R-1
    ·rw[cx];exact ce
    ·exact b0 j (R-1) x y (by omega) p hy (by omega) u c0 d q.shut ce
  have bq:ES o.op=true->Dp T o.op=false->(∀j x,ops.toList[j]? =some x->¬xA T ops.toList o i x j (DU I.1) (Ja P T ops.toList (ops.toList.take M) fr))->∃t,(z R).2=(z i).2++t:=by
   intro Y ah bm;by_cases ay:R<=i
   ·refine⟨[],?_⟩;rw[Lj];refine(qC hT W ht R i ay (by omega) fun j x E C p=> ?_).symm;cases u:Dp T x.op with
    |false=>rfl
    |true=>
     have h3:=(cp j x C p u Y ah).resolve_right (bm j x p);rw[ag j x E p u]at h3;cases h3
   ·have J:∀j x,i<j->j<R->ops.toList[j]? =some x->Dp T x.op=true->QT x.op=true:=by
     intro j x E C p u;cases a7:QT x.op with
     |true=>rfl
     |false=>
      exfalso;have cc:=(cb j x E p u a7 Y ah).resolve_right (bm j x p);rw[ak j x E C p u]at cc;cases cc
    have db:(z (i+1)).2=(z i).2:=by
     have:=qC hT W ht i (i+1) (by omega) (by omega) fun j x E C p=>by
      have:j=i:=by omega
      subst this;rw[Z]at p;cases p;exact ah
     exact this
    have grow:∀m,i+1<=m->m<=R->∃t,(z m).2=(z i).2++t:=by
     intro m
     induction m with
     |zero=>intro h;omega
     |succ m ih=>
      intro A h2;by_cases he:m=i
      ·subst he;exact⟨[],by rw[db,Lj]⟩
      ·obtain⟨t,bv⟩:=ih (by omega) (by omega);obtain⟨dm,a4,c4⟩:=ht m (ops.toList[m]'(by omega)) (by omega) (FQ (by omega));rw[c4];simp only;unfold Iq at a4;split at a4
       ·cases cs:Dp T ops.toList[m].op with
        |false=>
         have:=Tr hT cs (show DF P T ops.toList[m].op (DU (z m).1) (z m).2=some (dm.1,dm.2)from a4);exact⟨t,by rw[this,bv]⟩
        |true=>
         obtain⟨t2,c9⟩:=JzX (J m _ (by omega) (by omega) (FQ (by omega)) cs) (show DF P T ops.toList[m].op (DU (z m).1) (z m).2=some (dm.1,dm.2)from a4);exact⟨t++t2,by rw[c9,bv,FV]⟩
       ·cases a4;exact⟨t,bv⟩
       ·cases a4
    exact grow R (by omega) (BQ _)
  have bd:Dp T o.op=true->(z R).2=(z i).2:=by
   intro ah;by_cases ay:R<=i
   ·refine(qC hT W ht R i ay (by omega) fun j x E C p=> ?_).symm;cases u:Dp T x.op with
    |false=>rfl
    |true=>
     have h3:=de j x C p u ah;rw[ag j x E p u]at h3;cases h3
   ·rcases a2 with h0|⟨x,p,u,V,am⟩
    ·omega
    ·exfalso;have c7:R-1≠i:=by intro e;rw[e]at V;rw[b6]at V;cases V
     have:=cl (R-1) x (by omega) p ah u;rw[this]at V;cases V
  have aq:∀b,Ns ops.toList o (z i).1=some b->Region.wanted o (yielded ops a1.tmps)=b:=fun b hw=>iH hw fun j cj t v hg O hb=>by
   have h3:=au t (OQ.2 (.inr (by simp only[hg,O];simp)));rw[Ed,hb]at h3;simp only[zS,Rep]at h3;have a3:t<a1.tmps.size:=by
    have h5:=(CV.1 hb).1;exact Nat.lt_of_lt_of_eq h5 ((rD W ht i (by omega)).trans q.size.symm)
   rw[rA,Jku a3]at h3;simp only[zS]at h3;rw[Jku a3,h3]
  have ae:∀v w' S' L',Rep S' L' w' v dd.1->Later B S1 S' L1 L' w1 w'->
    ((Dp T o.op=true/\BD B S' L' w' dd.2)\/(Dp T o.op=false/\BD B S' L' w' (z R).2))->K (a1.put o.dst v) w':=by
   intro v w' S' L' hv hl bl;refine hK _ _ ⟨by rw[UH];exact q.defers,by rw[JjS];exact q.size,aa,fun k hk=>by rw[JW d (by omega)];exact q.late k hk,S',L',al.trans hl,?_,fun s hs=> ?_⟩
   ·rcases bl with⟨hw,bl⟩|⟨hw,bl⟩
    ·refine⟨i+1,by omega,.inr ⟨o,by simpa using Z,hw,by simp[Lu],by omega⟩,fun j x O p u=> ?_,by rw[h2];exact bl⟩;rw[JW d (by omega)];exact cl j x (by omega) p hw u
    ·refine⟨R,be,?_,fun j x O p u=> ?_,bl⟩
     ·rcases a2 with h0|⟨x,p,U,V,am⟩
      ·exact .inl h0
      ·exact .inr ⟨x,p,U,by by_cases e:R-1=i;(rw[e,Lu]);(rw[JW d e];exact V),am⟩
     ·by_cases e:j=i
      ·subst e;rw[Z]at p;cases p;rw[hw]at u;cases u
      ·rw[JW d e];exact ag j x O p u
   ·rw[JjS]at hs;rw[JsO _ _ _ _ hs];by_cases a8:o.dst=some s
    ·rw[Aw a8];refine⟨i+1,by omega,.inr ⟨o,by simpa using Z,a8,by simp[Lu],by omega⟩,fun j x O p U=> ?_,?_⟩
     ·rw[JW d (by omega)];exact ap j x (by omega) p (by simp[Xv,a8,U])
     ·rw[h2,a8];simp only[JV];have dg:s<(z i).1.length:=by
       have:=rD W ht i (by omega);have:=q.size;omega
      rw[Ed,Hw dg];exact hv
    ·rw[Am a8];obtain⟨k,hk,br,bi,bc⟩:=an s hs;refine⟨k,hk,?_,fun j x O p U=> ?_,hl.rep bc⟩
     ·rcases br with h0|⟨x,p,U,V,am⟩
      ·exact .inl h0
      ·exact .inr ⟨x,p,U,by by_cases e:k-1=i;(rw[e,Lu]);(rw[JW d e];exact V),am⟩
     ·by_cases e:j=i
      ·subst e;rw[Z]at p;cases p;exact absurd U a8
      ·rw[JW d e];exact bi j x O p U
  unfold Iq at A;split at A
  ·rename_i hw;rw[aq _ hw];simp only[Bv];let ρ:Operand->D:=fun x=>match x with
    | .tmp t=>if t∈QK ops.toList o then(z i).1.getD t .undef else .undef
    |x=>DU (z i).1 x
   have b4:∀x∈D8 o.op,ρ x=DU (z i).1 x:=fun x p=>by
    cases x with
    |tmp t=>
     have:t∈QK ops.toList o:=by
      simp only[QK,OQ,L7];exact .inl ⟨_,p,rfl⟩
     simp only[ρ,Aw this,DU]
    |_=>rfl
   have X:DF P T o.op ρ (z i).2=some (dd.1,dd.2):=by
    rw[<-show DF P T o.op (DU (z i).1) (z i).2=some (dd.1,dd.2)from A];refine JkL P T o.op _ _ _ fun x p=> ?_;cases x with
    |tmp t=>
     have:t∈QK ops.toList o:=by
      simp only[QK,OQ,L7];exact .inl ⟨_,p,rfl⟩
     simp only[ρ,Aw this,DU]
    |_=>rfl
   have bo:∀x,Rep S1 L1 w1 (a1.eval x) (ρ x):=by
    intro x;cases x with
    |tmp t=>
     simp only[ρ,Act.eval];split
     ·rename_i hm;exact au t hm
     ·simp only[Rep]
    |func f=>
     simp only[ρ,DU,Rep,Au];exact⟨[],[],rfl,rfl,rfl⟩
    |_=>simp only[ρ,DU,Rep];rfl
   cases Y:ES o.op with
   |false=>
    obtain⟨_,af⟩:=mS Y X;have J:Dp T o.op=false:=by
     cases a9:o.op with
     |call c=>
      rw[a9]at Y;obtain⟨callee,args,ch⟩:=c;cases callee with
      |builtin b=>cases b<;>first|(simp[ES]at Y;done)|rfl
      |value f=>simp[ES]at Y
      |invoke=>simp[ES]at Y
     |_=>rw[a9]at Y;first|rfl|(simp[ES]at Y;done)
    exact Zk hT hF (af (z R).2) bo ab fun v w' S' L' q1 q2 q3=>ae v w' S' L' q1 q3 (.inr ⟨J,q2⟩)
   |true=>
    cases J:Dp T o.op with
    |true=>
     have cn:BD B S1 L1 w1 (z i).2:=by rw[<-bd J];exact ab
     exact Zk hT hF X bo cn fun v w' S' L' q1 q2 q3=>ae v w' S' L' q1 q3 (.inl ⟨J,q2⟩)
    |false=>
     have af:DF P T o.op ρ (z R).2=some (dd.1,(z R).2):=by
      have grown:(∀j x,ops.toList[j]? =some x->¬xA T ops.toList o i x j (DU I.1) (Ja P T ops.toList (ops.toList.take M) fr))->DF P T o.op ρ (z R).2=some (dd.1,(z R).2):=by
       intro bm;obtain⟨t,c1⟩:=bq Y J bm;have bz:=Jus hT J X t;rwa[<-c1]at bz
      have aw:∀x k,k<=M->YZ ops.toList k x=true->DU I.1 x=DU (z k).1 x:=fun x k hk hs=>by
       rw[<-tn];exact Jyf W ht x k _ hs hk (BQ _)
      cases G:o.op with
      |load ty a=>
       have a5:ρ a=DU (z i).1 a:=b4 a (by rw[G];simp[D8]);rw[G]at X;simp only[DF,Cc]at X⊢;obtain⟨sh,df,h3⟩:=Bi.1 X;rw[df,BR];have h4:=Xj h3;have bu:∀j x,j<M->xA T ops.toList o i x j (DU I.1) (Ja P T ops.toList (ops.toList.take M) fr)->∀id off,ρ a= .hp id off->(∃ts,U8 x.op=some ts/\∀b∈ts,Om (DU (z j).1 b)≠some id)\/QR id off (z j).2 (z (j+1)).2=true:=by
        rintro j x O ⟨gs,e1,e2⟩ id off ac;have hid:Om (ρ a)=some id:=by rw[ac];rfl
        simp only[Wn,G]at e1;split at e1
        ·rename_i ts a3;split at e1
         ·rename_i aj;simp only[DJ,Ew]at aj;cases e1;refine .inl ⟨ts,a3,fun b hb=> ?_⟩;have:=e2 (.apart a b) (GN.2 ⟨b,hb,rfl⟩);simp only[Gd.holds]at this;rw[aw a i (by omega) aj.1,aw b j (by omega) (aj.2 b hb),<-a5]at this;intro e;simp[oI,hid,e]at this
         ·cases e1
        ·split at e1
         ·rename_i aj;cases e1;right;have:=e2 (.same a j) (by simp);simp only[Gd.holds,th j (by omega),th (j+1) (by omega)]at this;rw[aw a i (by omega) aj,<-a5,ac]at this;exact this
         ·cases e1
       rw[Jzu (H:=(z i).2) (H':=(z R).2) (fun id off ac=> ?_),h4]
       ·rfl
       ·have hid:Om (ρ a)=some id:=by rw[ac];rfl
        by_cases ay:R<=i
        ·by_cases a6:id<(z R).2.length
         ·exact((Jaq off hT W ht id R i ay (by omega) a6 fun j x E C p u=>by
           rcases cp j x C p u Y J with h5|h5
           ·rw[ag j x E p u]at h5;cases h5
           ·exact bu j x (by omega) h5 id off ac).1).symm
         ·exfalso;have bf:=bo a;have bt:id<L1.length:=by
           rw[ac]at bf;simp only[Rep]at bf;obtain⟨b,c,hL,_⟩:=bf;exact(CV.1 hL).1
          rw[ab.len]at bt;exact a6 bt
        ·have a6:id<(z i).2.length:=Jvz h4 id off ac;exact(Jaq off hT W ht id i R (by omega) be a6 fun j x E C p u=>by
          by_cases cv:j=i
          ·subst cv;rw[Z]at p;cases p;rw[J]at u;cases u
          ·cases a7:QT x.op with
           |true=>exact .inl ⟨[],JrG a7,fun b hb=>by cases hb⟩
           |false=>
            rcases cb j x (by omega) p u a7 Y J with h5|h5
            ·rw[ak j x (by omega) C p u]at h5;cases h5
            ·exact bu j x (by omega) h5 id off ac).1
      |buildSlice t n ps=>
       rw[G]at X J;simp only[Dp,Ao]at J;simp only[DF]at X⊢;rw[Aw J]at X⊢;exact xG X
      |convert s ty a=>
       have a5:ρ a=DU (z i).1 a:=b4 a (by rw[G];simp[D8]);cases cd:vT (ρ a)with
       |true=>rw[G]at X;exact Jsx cd X _
       |false=>
        rw[<-G];refine grown fun j x p=> ?_;rintro⟨gs,e1,e2⟩;simp only[Wn,G]at e1;split at e1
        ·rename_i aj;cases e1;have:=e2 (.whole a) (by simp);simp only[Gd.holds]at this;rw[aw a i (by omega) aj,<-a5,cd]at this;cases this
        ·cases e1
      |call c=>
       obtain⟨callee,args,ch⟩:=c;cases callee with
       |value f=>
        cases f with
        |func f=>
         have a5:args.toList.map ρ=args.toList.map (DU (z i).1):=SY fun x p=>b4 x (by rw[G];simp[D8,Call.operands];first|exact .inr (by simpa using p)|simpa using p)
         cases cf:Fj (args.toList.map ρ)with
         |true=>
          rw[G]at X J;exact Jnj hT (by simpa[Dp]using J) cf X _
         |false=>
          rw[<-G];refine grown fun j x p=> ?_;rintro⟨gs,e1,e2⟩;simp only[Wn,G]at e1;split at e1
          ·rename_i aj;simp only[DJ,Ew]at aj;cases e1;have:=e2 (.pure args.toList) (by simp);simp only[Gd.holds]at this;rw[show args.toList.map (DU I.1)=args.toList.map ρ from by
            rw[a5];exact SY fun x p=>aw x i (by omega) (aj.2 x p),cf]at this
           cases this
          ·cases e1
        |_=>rw[<-G];exact grown fun j x p=>by rintro⟨gs,e1,_⟩;simp[Wn,G]at e1
       |_=>rw[<-G];exact grown fun j x p=>by rintro⟨gs,e1,_⟩;simp[Wn,G]at e1
      |_=>rw[<-G];exact grown fun j x p=>by rintro⟨gs,e1,_⟩;simp[Wn,G]at e1
     exact Zk hT hF af bo ab fun v w' S' L' q1 q2 q3=>ae v w' S' L' q1 q3 (.inr ⟨J,q2⟩)
  ·rename_i hw;rw[aq _ hw];simp only[BF,BC];cases A;refine⟨fun f _=>hF.fn f,?_⟩;have cg:∀(b:Bool),Dp T o.op=b->K (a1.put o.dst undef) w1:=by
    intro b hb;cases b with
    |false=>exact ae _ _ S1 L1 (by simp only[Rep]) Later.refl (.inr ⟨hb,ab⟩)
    |true=>
     refine ae _ _ S1 L1 (by simp only[Rep]) Later.refl (.inl ⟨hb,?_⟩);have Y:ES o.op=true:=by
      cases hq:ES o.op with
      |true=>rfl
      |false=>
       exfalso;cases a9:o.op with
       |call c=>
        rw[a9]at hq hb;obtain⟨callee,args,ch⟩:=c;cases callee with
        |builtin b=>cases b<;>first|(simp[ES]at hq;done)|(simp[Dp]at hb;done)
        |value f=>simp[ES]at hq
        |invoke=>simp[ES]at hq
       |_=>rw[a9]at hq hb;first|(simp[ES]at hq;done)|(simp[Dp]at hb;done)
     rw[<-bd hb];exact ab
   exact cg _ rfl
  ·cases A
 ·intro d a1 w1 af q;obtain⟨S1,L1,al,⟨R,be,a2,ag,ab⟩,an⟩:=q.state;have bn:=q.size;have b7:M=ops.toList.length:=by
   by_cases h:M<ops.toList.length
   ·have A:=af M (by simpa using h);rw[q.late M (BQ _)]at A;cases A
   ·omega
  have c6:I.1.length=a1.tmps.size:=by rw[<-tn,rD W ht _ (BQ _),bn]
  have b1:BD B S1 L1 w1 I.2:=by
   have:(z M).2=(z R).2:=by
    refine qC hT W ht R _ be (BQ _) fun j x E C p=> ?_;cases u:Dp T x.op with
    |false=>rfl
    |true=>
     have A:=ag j x E p u;rw[af j (by rw[b7]at C;simpa using C)]at A;cases A
   rw[<-tn,this];exact ab
  refine hQ b7 _ _ S1 L1 ⟨by rw[q.defers];exact hr.defers.later al,?_,b1⟩ al;have key:∀s,s<a1.tmps.size->Rep S1 L1 w1 (a1.tmps.getD s undef) (I.1.getD s .undef):=by
   intro s hs;obtain⟨k,hk,br,bi,bc⟩:=an s hs;have b5:(z M).1[s]? =(z k).1[s]? :=by
    refine Z0 W ht s k _ hk (BQ _) fun j x E C p U=> ?_;have A:=bi j x E p U;rw[af j (by rw[b7]at C;simpa using C)]at A;cases A
   rw[<-tn,Ed,b5,<-Ed];exact bc
  have build:∀(xs:Ac Ap) (ds:Ac D),xs.length=ds.length->(∀s,s<xs.length->Rep S1 L1 w1 (xs.getD s undef) (ds.getD s .undef))->Au S1 L1 w1 xs ds:=by
   intro xs
   induction xs with
   |nil=>intro ds hl _;cases ds with
    |nil=>exact Au.nil
    |cons=>simp at hl
   |cons x r ih=>
    intro ds hl hh;cases ds with
    |nil=>simp at hl
    |cons e t=>exact Au.cons (by simpa using hh 0 (by simp)) (ih t (by simpa using hl) fun s hs=>by simpa using hh (s+1) (by simpa using hs))
  refine build _ _ (by rw[eP,c6]) fun s hs=> ?_;have:=key s (by simpa using hs);simpa using this
def Jym{P:Aj}{T:Tab}(j:Bg P T)(p:P.follows .mixedOrders=true){F:Fence}(i:Wd F){n id B:Nat}{N:NB}{ops:CX Oper}{Q:Exit->Act->AA->Prop}{a:Act}{w:AA}{S:Nat->Prop}{L:Ac (Nat×Nat)}{fr b:Fr}
  (l:Wx T ops.toList=true) (m:∀g∈bQ T ops.toList,g.holds (DU b.1) (Ja P T ops.toList ops.toList fr)=true) (h:GG P T ops.toList ops.toList fr=some b) (k:EY B N S L w a fr) (o:∀d c e f,EY B N e f c d b->Later B S e L f w c->Q .normal d c):(Code.region id ops true).wpIn F n P Q a w:=
 Jjy j p i ops.toList.length (BQ _) l (by unfold fC;rw[II];exact m) (by grind) k (fun _=>o) (fun h=>absurd h (rB _))
def JrZ{P:Aj}{T:Tab}(y:Bg P T)(G:P.follows .mixedOrders=true){F:Fence}(u:Wd F){n id B:Nat}{N:NB}{ops:CX Oper}{Q:Exit->Act->AA->Prop}{a:Act}{w:AA}{S:Nat->Prop}{L:Ac (Nat×Nat)}{fr:Fr}(M:Nat){o:Oper}{x:Ap}{b:Ac D}{l H':Ae}
  (C:Wx T ops.toList=true) (f:Ts T ops.toList M=true) (A:∀g∈fC T ops.toList M,g.holds (DU b) (Ja P T ops.toList (ops.toList.take M) fr)=true) (m:ops.toList[M]? =some o) (h:GG P T ops.toList (ops.toList.take M) fr=some (b,l)) (s:Ns ops.toList o b=some true) (hp:LU T o.op (DU b) l=some (x,H')) (z:EY B N S L w a fr)
  (E:∀k j p r,EY B N p r j k (List.replicate fr.1.length .undef,H')->Later B S p L r w j->Q (.panic [{v:=x,recovered:=false}]) k j):(Code.region id ops true).wpIn F n P Q a w:=by
 have d:M<ops.toList.length:=(CV.1 m).1;have c:∀i o,ops.toList[i]? =some o->(if i<M then !Dp T o.op||PG ops.toList i M else Nat.beq i M||PG ops.toList M i)=true:=fun i o H=>Ew.1 f (o,i) (by grind);refine Jjy y G u M (Nat.le_of_lt d) C A h z (fun e=>absurd d (by omega)) fun _=>⟨fun i t q=> ?_,fun i o t q I=> ?_,o,x,H',m,s,hp,E⟩
 ·have:=c i _ (FQ q);rw[Am (by omega)]at this;simp only[zN]at this;exact this.resolve_left fun e=>by simp_all
 grind
end Go.Proofs.YtapdelkomkpgmaaGreatDoor
