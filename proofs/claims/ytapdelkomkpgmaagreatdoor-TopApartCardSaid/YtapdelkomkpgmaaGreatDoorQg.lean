import Derived.Test.YtapdelkomkpgmaaGreatDoorQf
namespace Go.Proofs.YtapdelkomkpgmaaGreatDoor
open Go.RowKit
set_option maxRecDepth 100000
set_option linter.all false
abbrev En:=Ac (Nat×D)
def Fh:En->Nat->D
 |[],_=> .undef
 |(s,d)::r,t=>
  match Nat.beq s t with
  |true=>d
  |false=>Fh r t
def JB(e:En):Operand->D
 | .tmp t=>Fh e t
 | .const v=> .v v
 | .global g=> .v (.pointer (some ⟨g,0,none⟩))
 | .func f=> .clo (.func f) [] []
def Us:Ac D->Nat->En
 |[],_=>[]
 |d::r,k=>(k,d)::Us r (k+1)
structure Rl(sz:Nat)(e:En)(fr:List D):Prop where
 len:fr.length=sz
 get:∀t,Fh e t=fr.getD t .undef
def Z5(s:Nat)(d:D)(r:En)(t:Nat):Fh ((s,d)::r) t=if s=t then d else Fh r t:=by
 simp only[Fh];by_cases h:s=t
 ·subst h;simp
 ·rw[Am h];have:Nat.beq s t=false:=by
   cases a:Nat.beq s t with
   |false=>rfl
   |true=>simp_all
  rw[this]
def Rl.set{sz:Nat}{e:En}{fr:Ac D}(h:Rl sz e fr)(t:Nat)(ht:t<sz)(d:D):Rl sz ((t,d)::e) (fr.set t d):=by
 refine⟨by rw[Za,h.len],fun s=> ?_⟩;rw[Z5,Ed];by_cases hs:t=s
 ·subst hs;rw[Aw rfl,Hw (by rw[h.len];exact ht)];rfl
 ·rw[Am hs,Ee hs,h.get s,Ed]
def Rl.same{sz:Nat}{e:En}{fr:Ac D}(h:Rl sz e fr)(t:Nat)(d:D)(a:Fh e t=d):Rl sz ((t,d)::e) fr:=by
 refine⟨h.len,fun s=> ?_⟩;rw[Z5];by_cases hs:t=s
 ·subst hs;rw[Aw rfl,<-a,h.get]
 ·rw[Am hs,h.get]
def Rl.eval{sz:Nat}{e:En}{fr:Ac D}(h:Rl sz e fr):JB e=DU fr:=by
 funext x;cases x<;>first|rfl|exact h.get _
def Jea(fr:Ac D)(k t:Nat):Fh (Us fr k) t=if k<=t then fr.getD (t-k) .undef else .undef:=by
 induction fr generalizing k with
 |nil=>simp[Us,Fh]
 |cons d r a=>
  simp only[Us];rw[Z5]
  grind
def KQ:Op->Bool
 | .move _| .assign _| .pick _ _ _| .load _ _| .field _ _ _| .fieldAddr _ _ _| .indexAddr _ _ _| .build _ _| .binOp _ _ _ _ _| .convert _ _ _| .extract _ _| .makeInterface _ _| .makeFunc _ _ _| .nilCheck _=>true
 | .slice _ _ _ _ none| .index _ _ _| .typeAssert _ _ _ _| .lookup _ _ _ _| .sliceToArrayPointer _ _=>true
 | .unOp .not _ _| .unOp .neg _ _| .unOp .xor _ _=>true
 | .call {callee:= .builtin .len,.. }| .call {callee:= .builtin .max,.. }| .call {callee:= .builtin .min,.. }=>true
 |_=>false
def Dj:D->Af D
 | .hp i o=>some (.hp i o)
 | .ptr cs=>some (.ptr cs)
 |_=>none
def Jj7(c:Bool)(k:Kd)(op:BinOp)(x y:D):Af D:=
 match k with
 | .ifc=>VX c .ifc op x y
 |k=>Ag k op x y
def JlC(c:Bool)(k:Kd)(op:BinOp)(x y:D):Jj7 c k op x y=VX c k op x y:=by
 have key:k≠ .ifc->Ag k op x y=VX c k op x y:=by
  intro a;unfold VX;split
  ·cases k<;>first|(exact absurd rfl a)|(cases op<;>cases c<;>rfl)
  ·rfl
 cases k<;>first|rfl|exact key (fun e=>by cases e)
def Jv6(x:D):Af D:=(UE x).map fun s=> .v (.string s)
def LP(P:Aj)(op:Op)(ρ:Operand->D)(H:Ae):Af D:=
 match op with
 | .move x| .assign x=>some (ρ x)
 | .pick c a b=>GQ (ρ c) (ρ a) (ρ b)
 | .load t a=>(L9 P t).bind fun s=>Ai s H (ρ a)
 | .field t x f=>(Wv P t f).bind fun d=>(L9 P d.1).bind fun s=>Vb s d.2 (ρ x)
 | .fieldAddr t x f=>(Wv P t f).bind fun d=>(P.info? d.1).bind fun i=>if i.size=0 then none else AP d.2 (ρ x)
 | .indexAddr t x i=>match jZ P t with|some a=>Ec a.1 a.2 (ρ x) (ρ i)|none=>(PX P t).bind fun sz=>BG sz (ρ x) (ρ i)
 | .slice t x h j none=>
  match P.underlying t with
  |some .string=>Rt (ρ x) (h.map ρ) (j.map ρ)
  |some (.array n e)=>(P.info? e).bind fun g=>VN n g.size (ρ x) (h.map ρ) (j.map ρ)
  |_=>(PX P t).bind fun sz=>IJ sz (ρ x) (h.map ρ) (j.map ρ)
 | .build t l=>Kf P t (l.toList.map fun(i,x)=>(i,ρ x))
 | .binOp op t x y _=>Jj7 (Xk x||Xk y) (Jt P t) op (ρ x) (ρ y)
 | .index t x i=>match P.underlying t with|some .string=>dW (ρ x) (ρ i)|some (.array n e)=>(P.info? e).bind fun g=>(L9 P e).bind fun s=>XC n g.size s (ρ x) (ρ i)|_=>none
 | .sliceToArrayPointer t x=>match P.underlying t with|some (.array n e)=>(P.info? e).bind fun g=>Xp n g.size (ρ x)|_=>none
 | .lookup t m k ok=>(XJ P t).bind fun e=>(UN P e).bind fun z=>O8 z ok H (ρ m) (ρ k)
 | .typeAssert x _ u ok=>if wB P u then(UN P u).bind fun z=>Ph u z ok (ρ x)else none
 | .unOp .not _ x=>Gn (ρ x)
 | .unOp .neg _ x=>WG (ρ x)
 | .unOp .xor _ x=>bF (ρ x)
 | .convert s t x=>
  match P.underlying s,P.underlying t with
  |some (.int _),some (.int k)=>Dk k (ρ x)
  |some (.slice e),some .string=>
   match P.underlying e with
   |some (.int .u8)=>MH H (ρ x)
   |_=>none
  |some .string,some .string=>Jv6 (ρ x)
  |some .string,some (.slice e)=>
   match P.underlying e with
   |some (.int .u8)=>YC (ρ x)
   |_=>none
  |_,_=>none
 | .extract t i=>DN (ρ t) i
 | .makeInterface t x=>match P.underlying t with|some (.interface _)|none=>none|_=>some (.ifc t (ρ x))
 | .makeFunc f a b=>some (.clo f (a.toList.map ρ) (b.toList.map ρ))
 | .nilCheck x=>Dj (ρ x)
 | .call {callee:= .builtin .len,args,argTypes}=>
  match args.toList,argTypes.toList with
  |[x],t::_=>Bq (Jt P t) (ρ x)
  |_,_=>none
 | .call {callee:= .builtin .max,args,.. }=>mH (args.toList.map ρ)
 | .call {callee:= .builtin .min,args,.. }=>nF (args.toList.map ρ)
 |_=>none
def JmO{P:Aj}{op:Op}{ρ:Operand->D}{H:Ae}(d:KQ op=true)(h:∀x,op≠ .nilCheck x):Cc P op ρ H=same H (LP P op ρ H):=by
 cases op with
 |slice t x p q l=>
  cases l with
  |none=>
   simp only[Cc,LP,same];cases P.underlying t with
   |none=>cases PX P t<;>rfl
   |some u=>cases u<;>first|rfl|(rename_i n e;dsimp only;cases P.info? e<;>rfl)|(cases PX P t<;>rfl)
  |some m=>simp[KQ]at d
 |unOp o t x=>cases o<;>first|rfl|(simp[KQ]at d;done)
 |load t a=>simp only[Cc,LP,same];cases L9 P t<;>rfl
 |field t x f=>
  simp only[Cc,LP,same];cases Wv P t f with
  |none=>rfl
  |some g=>simp only[BR];cases L9 P g.1<;>rfl
 |fieldAddr t x f=>
  simp only[Cc,LP,same];cases Wv P t f with
  |none=>rfl
  |some g=>
   simp only[BR];cases P.info? g.1 with
   |none=>rfl
   |some i=>grind
 |indexAddr t x i=>
  simp only[Cc,LP,same];cases jZ P t with
  |some a=>rfl
  |none=>cases PX P t<;>rfl
 |convert s t x=>
  simp only[Cc,LP,same];rcases P.underlying s with _|u<;>rcases P.underlying t with _|v
  ·rfl
  ·rfl
  ·cases u<;>rfl
  ·cases u<;>cases v<;>first|rfl|grind
 |index t x i=>
  simp only[Cc,LP,same];cases P.underlying t with
  |none=>rfl
  |some u=>cases u<;>first|rfl|(rename_i n e;dsimp only;cases P.info? e<;>first|rfl|(simp only[BR];cases L9 P e<;>rfl))
 |sliceToArrayPointer t x=>
  simp only[Cc,LP,same];cases P.underlying t with
  |none=>rfl
  |some u=>cases u<;>first|rfl|(rename_i n e;dsimp only;cases P.info? e<;>rfl)
 |lookup t m k ok=>
  simp only[Cc,LP,same];cases XJ P t with
  |none=>rfl
  |some e=>simp only[BR];cases UN P e<;>rfl
 |typeAssert x t u ok=>
  simp only[Cc,LP,same];split
  ·cases UN P u<;>rfl
  ·rfl
 |makeInterface t x=>
  simp only[Cc,LP,same]
  grind
 |nilCheck x=>exact absurd rfl (h x)
 |call c=>
  obtain⟨callee,args,j⟩:=c;cases callee with
  |builtin b=>
   cases b with
   |len=>
    simp only[Cc,LP,same]
    grind
   |max=>rfl
   |min=>rfl
   |_=>simp[KQ]at d
  |_=>simp[KQ]at d
 |move x=>rfl
 |assign x=>rfl
 |pick c a b=>rfl
 |build t r=>rfl
 |binOp o t x y u=>simp only[Cc,LP,JlC,same]
 |extract t i=>rfl
 |makeFunc f a b=>rfl
 |_=>simp[KQ]at d
def Ch(P:Aj)(op:Op)(ρ:Operand->D)(H:Ae):Af D:=
 match op with
 | .nilCheck x=>IT P (ρ x)
 |op=>LP P op ρ H
def Jho{P:Aj}{op:Op}{ρ:Operand->D}{H:Ae}(a:KQ op=true):Cc P op ρ H=same H (Ch P op ρ H):=by
 cases op with
 |nilCheck x=>rfl
 |_=>exact JmO a (by intro x e;cases e)
def JuW{P:Aj}{op:Op}{ρ:Operand->D}{H:Ae}{d:D}(h:LP P op ρ H=some d):Ch P op ρ H=some d:=by
 cases op with
 |nilCheck x=>
  show IT P (ρ x)=some d;have a:Dj (ρ x)=some d:=h;unfold Dj at a;split at a
  ·rename_i e;rw[e];exact a
  ·rename_i e;rw[e];exact a
  ·cases a
 |_=>exact h
def Jot{P:Aj}{T:Tab}{op:Op}{ρ:Operand->D}{H:Ae}(a:KQ op=true){d:D}(h:LP P op ρ H=some d):DF P T op ρ H=some (d,H):=by
 have c:Cc P op ρ H=same H (Ch P op ρ H):=Jho a;have b:DF P T op ρ H=Cc P op ρ H:=by
  unfold DF;split
  ·simp[KQ]at a
  ·simp[KQ]at a
  ·simp[KQ]at a
  ·simp[KQ]at a
  ·rfl
 rw[b,c,JuW h];rfl
section
variable {α : Type}
def Az(d:D)(x y:Af α):Af α:=
 match d with
 | .v (.bool true)=>x
 | .v (.bool false)=>y
 |_=>none
def MK(a b:D)(k:Af α):Af α:=match oI a b with|true=>k|false=>none
def JS(a:D)(k:Af α):Af α:=match vT a with|true=>k|false=>none
def dS(as':Ac D)(k:Af α):Af α:=match Fj as' with|true=>k|false=>none
def uZ(a:D)(H H':Ae)(k:Af α):Af α:=
 match ZU a H H' with
 |true=>k
 |false=>none
def Eb(a:D)(H H':Af Ae)(k:Af α):Af α:=
 match H,H' with
 |some H,some H'=>uZ a H H' k
 |_,_=>none
def Oj(ρ:Operand->D)(hs:Ac Ae):Ac Gd->Af α->Af α
 |[],k=>k
 | .apart a b::r,k=>MK (ρ a) (ρ b) (Oj ρ hs r k)
 | .whole a::r,k=>JS (ρ a) (Oj ρ hs r k)
 | .pure as'::r,k=>dS (as'.map ρ) (Oj ρ hs r k)
 | .same a j::r,k=>Eb (ρ a) hs[j]? hs[j+1]? (Oj ρ hs r k)
theorem XV{ρ:Operand->D}{hs:Ac Ae}:∀{d:Ac Gd} {k:Af α} {r:α},Oj ρ hs d k=some r->d.all (Gd.holds ρ hs)=true/\k=some r
 |[],k,r,h=>⟨rfl,h⟩
 | .apart a b::d,k,r,h=>by
  simp only[Oj,MK]at h;split at h
  ·rename_i c;have:=XV h;exact⟨by rw[Na,this.1];simp[Gd.holds,c],this.2⟩
  ·cases h
 | .whole a::d,k,r,h=>by
  simp only[Oj,JS]at h;split at h
  ·rename_i c;have:=XV h;exact⟨by rw[Na,this.1];simp[Gd.holds,c],this.2⟩
  ·cases h
 | .pure as'::d,k,r,h=>by
  simp only[Oj,dS]at h;split at h
  ·rename_i c;have:=XV h;exact⟨by rw[Na,this.1];simp[Gd.holds,c],this.2⟩
  ·cases h
 | .same a j::d,k,r,h=>by
  simp only[Oj,Eb]at h;split at h
  ·rename_i H H' c f;unfold uZ at h;split at h
   ·rename_i e;have:=XV h;exact⟨by rw[Na,this.1];simp[Gd.holds,c,f,e],this.2⟩
   ·cases h
  ·cases h
def Ad(o:Af D)(k:D->Af α):Af α:=
 match o with
 |some d=>k d
 |none=>none
def Ah(o:Af (D×Ae))(k:D->Ae->Af α):Af α:=
 match o with
 |some r=>k r.1 r.2
 |none=>none
def W5(e:En)(c:Operand)(b:Bool):En:=
 match c with
 | .tmp t=>(t,.v (.bool b))::e
 |_=>e
def UX(sz:Nat)(e:En)(dst:Af Tmp)(d:D)(k:En->Af α):Af α:=
 match dst with
 |none=>k e
 |some t=>
  match Nat.blt t sz with
  |true=>k ((t,d)::e)
  |false=>none
def jM(o:Af (Out×Ae))(kp:Ap->Ae->Af α)(k:D->Ae->Af α):Af α:=
 match o with
 |some (.ret d,H)=>k d H
 |some (.pan x,H)=>kp x H
 |none=>none
def rJ(o:Af Ap)(k:Ap->Af α):Af α:=
 match o with
 |some x=>k x
 |none=>none
def valOp(P:Aj)(op:Op)(ρ:Operand->D):Af D:=
 match op with
 | .move x| .assign x=>some (ρ x)
 | .makeFunc f a b=>some (.clo f (a.toList.map ρ) (b.toList.map ρ))
 | .makeInterface t x=>match P.underlying t with|some (.interface _)|none=>none|_=>some (.ifc t (ρ x))
 |_=>none
def valOpOk{P:Aj}{op:Op}{ρ:Operand->D}{d:D}(h:valOp P op ρ=some d)(H:Ae):KQ op=true/\LP P op ρ H=some d:=by
 cases op<;>first|exact⟨rfl,h⟩|cases h
def R3(P:Aj)(T:Tab)(op:Op)(e:En)(H:Ae)(k:D->Ae->Af α):Af α:=
 match valOp P op (JB e) with
 |some d=>k d H
 |none=>
 match KQ op with
 |true=>Ad (LP P op (JB e) H) fun d=>k d H
 |false=>Ah (DF P T op (JB e) H) k
def nM(P:Aj)(T:Tab)(op:Op)(e:En)(H:Ae)(kp:Ap->Ae->Af α)(k:D->Ae->Af α):Af α:=
 match op with
 | .panic x=>rJ (eN (JB e x)) fun v=>kp v H
 |op=>
  match dC T op (JB e)with
  |some g=>jM (g.1 g.2 H) kp k
  |none=>R3 P T op e H k
def NC(P:Aj)(T:Tab)(sz:Nat)(ops:Ac Oper):(Nat->Ap->En->Ae->Ac Ae->Af α)->Ac Oper->Ac Nat->Nat->En->Ae->Ac Ae->(En->Ae->Ac Ae->Af α)->Af α
 |_,[],f,i,e,H,a,K=>K e H (List.reverse (H::a))
 |c,o::r,f,i,e,H,a,K=>
  match o.guard with
  |none=>nM P T o.op e H (fun x H'=>c i x e H' (List.reverse (H::a))) fun d H'=>UX sz e o.dst d fun b=>NC P T sz ops c r f (i+1) b H' (H::a) K
  |some (j,g)=>
   match(ops[j]?).bind (·.dst)with
   |some t=>
    match f.contains j with
    |true=>
     match Fh e t with
     | .v (.tuple _)=>UX sz e o.dst (.v undef) fun b=>NC P T sz ops c r (i::f) (i+1) b H (H::a) K
     |_=>none
    |false=>
     match g with
     |true=>Az (Fh e t) (nM P T o.op ((t,.v (.bool true))::e) H (fun x H'=>c i x ((t,.v (.bool true))::e) H' (List.reverse (H::a))) fun d H'=>UX sz ((t,.v (.bool true))::e) o.dst d fun b=>NC P T sz ops c r f (i+1) b H' (H::a) K) (UX sz ((t,.v (.bool false))::e) o.dst (.v undef) fun b=>NC P T sz ops c r (i::f) (i+1) b H (H::a) K)
     |false=>Az (Fh e t) (UX sz ((t,.v (.bool true))::e) o.dst (.v undef) fun b=>NC P T sz ops c r (i::f) (i+1) b H (H::a) K) (nM P T o.op ((t,.v (.bool false))::e) H (fun x H'=>c i x ((t,.v (.bool false))::e) H' (List.reverse (H::a))) fun d H'=>UX sz ((t,.v (.bool false))::e) o.dst d fun b=>NC P T sz ops c r f (i+1) b H' (H::a) K)
   |none=>none
def JqW(k:En->Ae->Af α)(K:Lv->En->Ae->Af α):Lv->En->Ae->Af α
 | .normal,e,H=>k e H
 |a,e,H=>K a e H
def CW(j id:Nat)(x y:Af α):Af α:=
 match Nat.beq j id with
 |true=>x
 |false=>y
def Je4(id:Nat)(K:Lv->En->Ae->Af α):Lv->En->Ae->Af α
 | .exit j,e,H=>CW j id (K .normal e H) (K (.exit j) e H)
 |a,e,H=>K a e H
def lvP(a:Lv)(x:Nat->Af α)(r:Af α)(p:Ap->Af α):Af α:=
 match a with
 | .normal| .goto _=>none
 | .exit j=>x j
 | .ret=>r
 | .pan v=>p v
def aO(r:Af (Lv×Ac D×Ae))(x:Nat->Ac D->Ae->Af α)(y:Ac D->Ae->Af α)(z:Ap->Ac D->Ae->Af α):Af α:=
 match r with
 |some (a,s,H)=>lvP a (fun j=>x j s H) (y s H) (fun v=>z v s H)
 |none=>none
def Dy(r:Af (Lv×Ac D×Ae))(x:Nat->Ac D->Ae->Af α)(y:Ac D->Ae->Af α):Af α:=aO r x y fun _ _ _=>none
def mN(T:Tab)(r:Af (Lv×Ac D×Ae))(x:Nat->Ac D->Ae->Af α)(y:Ac D->Ae->Af α)(z:Ap->Ac D->Ae->Af α):Af α:=
 match T.pn with
 |[]=>Dy r x y
 |_=>aO r x y z
def PI(r:Af (Lv×Ae))(x:Ae->Af α)(y:Nat->Ae->Af α)(z:Ae->Af α):Af α:=
 match r with
 |some (.normal,H)=>x H
 |some (.exit j,H)=>y j H
 |some (.ret,H)=>z H
 |some (.goto _,_)|some (.pan _,_)=>none
 |none=>none
def Zw(ops:Ac Oper)(e:En):Af D:=
 match rP ops with
 |some t=>some (Fh e t)
 |none=>none
def Jgg:D->Bool
 | .undef=>true
 |_=>false
def rQ:Ac Nat->En->Bool
 |[],_=>true
 |t::r,e=>match Jgg (Fh e t)with|true=>rQ r e|false=>false
def fK(ops:Ac Oper)(e:En)(y:D):En:=
 match rP ops with
 |some t=>(t,y)::e
 |none=>e
def JyW(K:Lv->En->Ae->Af α):Lv->En->Ae->Af α
 | .goto _,_,_=>none
 |a,e,H=>K a e H
def JeD(T:Tab)(ops:Ac Oper)(a:Bool)(K:Ap->En->Ae->Af α)(i:Nat)(x:Ap)(e:En)(H:Ae)(hs:Ac Ae):Af α:=
 match a with
 |true=>(match Ts T ops i with|true=>Oj (JB e) hs (fC T ops i) (K x [] H)|false=>none)
 |false=>K x e H
end
def KR:Ac Nat->Ac D->Nat->En
 |[],_,_=>[]
 |t::r,s,i=>(t,s.getD i .undef)::KR r s (i+1)
def DY(step:Ac D->Ae->Af (Lv×Ac D×Ae)):Nat->Ac D->Ae->Af (Lv×Ac D×Ae)
 |0,_,_=>none
 |m+1,s,H=>
  match step s H with
  |some (.normal,s',H')=>DY step m s' H'
  |r=>r
def IR(P:Aj)(T:Tab)(kp:Ac Nat)(n sz:Nat):Code->{α:Type}->En->Ae->(Lv->En->Ae->Af α)->Af α
 | .skip,_,e,H,K| .label _,_,e,H,K=>K .normal e H
 | .region id ops a,_,e,H,K=>
  match kp.contains (1000000+id)with
  |true=>if(!a||Wx T ops.toList)&&ops.toList.all (fun o=>KQ o.op)&&rQ (RZ ops.toList) e then Ad (NC P T sz ops.toList (fun _ _ _ _ _=>none) ops.toList [] 0 e H [] (fun b _ hs=>Oj (JB b) hs (if a then bQ T ops.toList else[]) (Zw ops.toList b))) fun y=>K .normal (fK ops.toList e y) H else none
  |false=>match kp.contains (2000000+id)with
   |true=>if(!a||Wx T ops.toList)&&rQ (RZ ops.toList) e then Ah (NC P T sz ops.toList (fun _ _ _ _ _=>none) ops.toList [] 0 e H [] (fun b H' hs=>Oj (JB b) hs (if a then bQ T ops.toList else[]) ((Zw ops.toList b).map fun y=>(y,H')))) fun y H'=>K .normal (fK ops.toList e y) H' else none
   |false=>if !a||Wx T ops.toList then NC P T sz ops.toList (JeD T ops.toList a fun x b H'=>K (.pan x) b H') ops.toList [] 0 e H [] (fun b H' hs=>Oj (JB b) hs (if a then bQ T ops.toList else[]) (K .normal b H'))else none
 | .seq x y,_,e,H,K=>IR P T kp n sz x e H (JqW (fun b H'=>IR P T kp n sz y b H' K) K)
 | .cond c x y,_,e,H,K=>Az (JB e c) (IR P T kp n sz x (W5 e c true) H K) (IR P T kp n sz y (W5 e c false) H K)
 | .block id c,_,e,H,K=>IR P T kp n sz c e H (Je4 id K)
 | .loop c,_,e,H,K=>mN T (DY (fun s H=>IR P T kp n sz c (KR kp s 0) H fun f e H=>some (f,kp.map (Fh e),H)) n (kp.map (Fh e)) H) (fun j s H'=>K (.exit j) (KR kp s 0) H') (fun s H'=>K .ret (KR kp s 0) H') fun x s H'=>K (.pan x) (KR kp s 0) H'
 | .exit id,_,e,H,K=>K (.exit id) e H
 | .ret,_,e,H,K=>K .ret e H
 | .scope c,_,e,H,K=>IR P T kp n sz c e H (JyW K)
 | .goto l,_,e,H,K=>K (.goto l) e H
 | .rangeFunc g d as' h,_,e,H,K=>PI (IK T (JB e g) d.toList as' h sz kp (kp.map (Fh e)) H) (fun H'=>K .normal e H') (fun j H'=>K (.exit j) e H') (fun H'=>K .ret e H')
 |_,_,_,_,_=>none
def Kc(P:Aj)(T:Tab)(kp:Ac Nat)(n sz:Nat)(c:Code)(s:Ac D)(H:Ae):Af (Lv×Ac D×Ae):=IR P T kp n sz c (KR kp s 0) H fun a e H=>some (a,kp.map (Fh e),H)
def Vk:Code->Ac Code
 | .seq x y=>Vk x++Vk y
 | .cond _ x y=>Vk x++Vk y
 | .block _ c| .scope c=>Vk c
 | .loop c=>c::Vk c
 |_=>[]
def BZ(P:Aj)(T:Tab)(kp:Ac Nat)(n:Nat)(fn:Func)(i:Nat)(s:Ac D)(H:Ae):Af (Lv×Ac D×Ae):=
 DY (Kc P T kp n fn.ntmps ((Vk (fn.body.getD .skip)).getD i .skip)) n s H
def BK(P:Aj)(T:Tab)(kp:Ac Nat)(n:Nat)(fn:Func)(i:Nat)(s:Ac D)(H:Ae):Af (Lv×Ac D×Ae):=
 Kc P T kp n fn.ntmps ((Vk (fn.body.getD .skip)).getD i .skip) s H
theorem Jfo(g:Nat->D):∀(kp:Ac Nat) (s:Ac D) (i t:Nat),(∀j u,kp[j]? =some u->s.getD (i+j) .undef=g u)->Fh (KR kp s i) t=if kp.contains t then g t else .undef
 |[],s,i,t,h=>by simp[KR,Fh]
 |u::r,s,i,t,h=>by
  have a:=h 0 u rfl;rw[MZ]at a;simp only[KR];rw[Z5,a];by_cases b:u=t
  ·subst b;simp
  ·rw[Am b,Jfo g r s (i+1) t fun j v c=>by
    have:=h (j+1) v (by simpa using c);rwa[show i+1+j=i+(j+1)from by omega]]
   grind
def Rl.kept{sz:Nat}{e:En}{fr:Ac D}(h:Rl sz e fr)(kp:Ac Nat):Rl sz (KR kp (kp.map (Fh e)) 0) (P7 kp fr 0):=by
 refine⟨by rw[Cl,h.len],fun t=> ?_⟩;rw[eT,EE,Jfo (Fh e) kp _ 0 t (fun j u a=>by
  rw[Ed,EE,Xy,a];rfl),h.get]
section
variable {α : Type}
def Mn{d:D}{x y:Af α}{r:α}(h:Az d x y=some r):∃b,d= .v (.bool b)/\(if b then x else y)=some r:=by
 unfold Az at h
 grind
def Jdk{sz:Nat}{e:En}{fr:Ac D}{dst:Af Tmp}{d:D}{k:En->Af α}{r:α}(a:Rl sz e fr)(h:UX sz e dst d k=some r):∃b,Rl sz b (JV fr dst d)/\k b=some r:=by
 unfold UX at h;split at h
 ·exact⟨e,a,h⟩
 ·rename_i t;split at h
  ·rename_i c;exact⟨_,a.set t (by simp_all) d,h⟩
  ·cases h
def Juq{P:Aj}{T:Tab}{op:Op}{e:En}{H:Ae}{k:D->Ae->Af α}{r:α}(h:R3 P T op e H k=some r):∃d H',DF P T op (JB e) H=some (d,H')/\k d H'=some r:=by
 unfold R3 at h;split at h
 ·rename_i d v;obtain⟨b,a⟩:=valOpOk v H;exact⟨d,H,Jot b a,h⟩
 split at h
 ·rename_i b;cases a:LP P op (JB e) H with
  |none=>rw[a]at h;cases h
  |some d=>rw[a]at h;exact⟨d,H,Jot b a,h⟩
 ·cases a:DF P T op (JB e) H with
  |none=>rw[a]at h;cases h
  |some p=>rw[a]at h;exact⟨p.1,p.2,rfl,h⟩
def JyF{P:Aj}{T:Tab}{op:Op}{e:En}{H:Ae}{kp:Ap->Ae->Af α}{k:D->Ae->Af α}{r:α}(h:nM P T op e H kp k=some r):(∃d H',DF P T op (JB e) H=some (d,H')/\k d H'=some r)\/∃x H',LU T op (JB e) H=some (x,H')/\kp x H'=some r:=by
 unfold nM at h;split at h
 ·rename_i x;unfold rJ at h;split at h
  ·rename_i v f;exact .inr ⟨v,H,by simp[LU,f],h⟩
  ·cases h
 ·rename_i c;split at h
  ·rename_i g b;unfold jM at h;split at h
   ·rename_i d H' a;exact .inl ⟨d,H',by rw[Jhu b,a];rfl,h⟩
   ·rename_i x H' a;refine .inr ⟨x,H',?_,h⟩;unfold LU;split
    ·grind
    ·rw[b,BR,a];rfl
   ·cases h
  ·exact .inl (Juq h)
def Rl.bool{sz:Nat}{e:En}{fr:Ac D}(h:Rl sz e fr){t:Nat}{v:Ap}(a:Fh e t= .v v):fr[t]? =some (.v v):=by
 rw[h.get,Ed]at a
 grind
theorem kJ{P:Aj}{T:Tab}{sz:Nat}{ops:Ac Oper}:∀(l:Ac Oper) (w:Ac Nat) (i:Nat) (e:En) (H:Ae) (k:Ac Ae) (fr:Ac D) (p:Nat->Ap->En->Ae->Ac Ae->Af α) (K:En->Ae->Ac Ae->Af α) (r:α),Rl sz e fr->NC P T sz ops p l w i e H k K=some r->
  (∃a c,GG P T ops l (fr,H)=some a/\Rl sz c a.1/\K c a.2 (k.reverse++Ja P T ops l (fr,H))=some r)\/
  ∃j x a c,QV P T ops l i (fr,H)=some (i+j,x,a)/\Rl sz c a.1/\p (i+j) x c a.2 (k.reverse++Ja P T ops (l.take j) (fr,H))=some r
 |[],w,i,e,H,k,fr,p,K,r,s,h=> .inl ⟨(fr,H),e,rfl,s,by simpa[NC,Ja]using h⟩
 |o::l,w,i,e,H,k,fr,p,K,r,s,h=>by
  have L:∀(q:En) (C:Ac Nat),Rl sz q fr->Ns ops o fr=some true->(nM P T o.op q H (fun x H'=>p i x q H' (List.reverse (H::k))) fun d H'=>UX sz q o.dst d fun c=>NC P T sz ops p l C (i+1) c H' (H::k) K)=some r->
    (∃a c,GG P T ops (o::l) (fr,H)=some a/\Rl sz c a.1/\K c a.2 (k.reverse++Ja P T ops (o::l) (fr,H))=some r)\/
    ∃j x a c,QV P T ops (o::l) i (fr,H)=some (i+j,x,a)/\Rl sz c a.1/\p (i+j) x c a.2 (k.reverse++Ja P T ops ((o::l).take j) (fr,H))=some r:=by
   intro q C m g E;rcases JyF E with⟨d,H',hs,E⟩|⟨x,H',hs,E⟩
   ·rw[m.eval]at hs;have J:LU T o.op (DU fr) H=none:=by
     cases Q:LU T o.op (DU fr) H with
     |none=>rfl
     |some y=>rw[Jb0 Q]at hs;cases hs
    obtain⟨c,O,M⟩:=Jdk m E;rcases kJ l C (i+1) c H' (H::k) _ p K r O M with⟨f,z,F,A,u⟩|⟨j,x,f,z,F,A,u⟩
    ·refine .inl ⟨f,z,?_,A,by simpa[Ja,Iq,g,hs]using u⟩;simp only[GG,Iq,g,hs,BR];exact F
    ·refine .inr ⟨j+1,x,f,z,?_,A,?_⟩
     ·simp only[QV,g,J,hs,BR]
      grind
     ·rw[show i+1+j=i+(j+1)from by omega]at u;simpa[Ja,Iq,g,hs]using u
   ·rw[m.eval]at hs;refine .inr ⟨0,x,(fr,H'),q,?_,m,by simpa[Ja]using E⟩;simp only[QV,g,hs,MZ]
  have skip:∀(q:En),Rl sz q fr->Ns ops o fr=some false->(UX sz q o.dst (.v undef) fun c=>NC P T sz ops p l (i::w) (i+1) c H (H::k) K)=some r->
    (∃a c,GG P T ops (o::l) (fr,H)=some a/\Rl sz c a.1/\K c a.2 (k.reverse++Ja P T ops (o::l) (fr,H))=some r)\/
    ∃j x a c,QV P T ops (o::l) i (fr,H)=some (i+j,x,a)/\Rl sz c a.1/\p (i+j) x c a.2 (k.reverse++Ja P T ops ((o::l).take j) (fr,H))=some r:=by
   intro q m g E;obtain⟨c,O,M⟩:=Jdk m E;rcases kJ l _ (i+1) c H (H::k) _ p K r O M with⟨f,z,F,A,u⟩|⟨j,x,f,z,F,A,u⟩
   ·refine .inl ⟨f,z,?_,A,by simpa[Ja,Iq,g]using u⟩;simp only[GG,Iq,g,BR];exact F
   ·refine .inr ⟨j+1,x,f,z,?_,A,?_⟩
    ·simp only[QV,g]
     grind
    ·rw[show i+1+j=i+(j+1)from by omega]at u;simpa[Ja,Iq,g]using u
  simp only[NC]at h;split at h
  ·rename_i N;exact L e w s (by unfold Ns;rw[N]) h
  ·rename_i j I N;split at h
   ·rename_i t U;have g:∀v,Fh e t= .v v->Ns ops o fr=match v with| .bool b=>some (b==I)| .tuple _=>some false|_=>none:=by
     intro v R;have:=s.bool R;unfold Ns;simp only[N,U,BR,this];cases v<;>rfl
    split at h
    ·split at h
     ·rename_i x S;exact skip e s (g _ S) h
     ·cases h
    ·split at h
     ·obtain⟨b,B,G⟩:=Mn h;have n:=g _ B;cases b with
      |true=>exact L _ w (s.same t _ B) n G
      |false=>exact skip _ (s.same t _ B) n G
     ·obtain⟨b,B,G⟩:=Mn h;have n:=g _ B;cases b with
      |true=>exact skip _ (s.same t _ B) n G
      |false=>exact L _ w (s.same t _ B) n G
   ·cases h
def Jp9{P:Aj}{T:Tab}{op:Op}{ρ:Operand->D}{H H':Ae}{d:D}(a:KQ op=true)(h:DF P T op ρ H=some (d,H')):H'=H:=by
 have c:Cc P op ρ H=same H (Ch P op ρ H):=Jho a;have b:DF P T op ρ H=Cc P op ρ H:=by
  unfold DF;split
  ·simp[KQ]at a
  ·simp[KQ]at a
  ·simp[KQ]at a
  ·simp[KQ]at a
  ·rfl
 rw[b,c]at h;exact(Ir h).1
theorem Jj5{P:Aj}{T:Tab}{all:Ac Oper}:∀(l:Ac Oper) (s s':Fr),(∀o∈l,KQ o.op=true)->GG P T all l s=some s'->s'.2=s.2
 |[],s,s',_,h=>by cases h;rfl
 |o::r,s,s',b,h=>by
  simp only[GG]at h;obtain⟨d,a,h⟩:=Bi.1 h;rw[Jj5 r _ _ (fun o c=>b o (by simp[c])) h];unfold Iq at a;split at a
  ·exact Jp9 (b o (by simp)) (show DF P T o.op (DU s.1) s.2=some (d.1,d.2)from a)
  ·cases a;rfl
  ·cases a
theorem gO{P:Aj}{T:Tab}{all:Ac Oper}:∀(l:Ac Oper) (s s':Fr) (t:Nat),(∀o∈l,o.dst≠some t)->GG P T all l s=some s'->s'.1[t]? =s.1[t]?
 |[],s,s',t,_,h=>by cases h;rfl
 |o::r,s,s',t,a,h=>by
  simp only[GG]at h;obtain⟨d,c,h⟩:=Bi.1 h;rw[gO r _ _ t (fun o b=>a o (by simp[b])) h];exact JaX _ _ _ _ (a o (by simp))
theorem uS:∀(l:Ac Nat) (fr:Ac D) (t:Nat),t∉l->(TN l fr).getD t .undef=fr.getD t .undef
 |[],fr,t,_=>rfl
 |u::r,fr,t,h=>by
  show(TN r (fr.set u .undef)).getD t .undef=_;rw[uS r _ t (fun a=>h (by simp[a])),Ed,Ed,Ee (fun e=>h (by simp[e]))]
theorem JiA:∀(l:Ac Nat) (fr:Ac D) (t:Nat),fr.getD t .undef= .undef->(TN l fr).getD t .undef= .undef
 |[],fr,t,h=>h
 |u::r,fr,t,h=>by
  refine JiA r (fr.set u .undef) t ?_
  grind
theorem P4:∀(l:Ac Nat) (fr:Ac D) (t:Nat),t∈l->(TN l fr).getD t .undef= .undef
 |u::r,fr,t,h=>by
  rcases FY.1 h with rfl|h
  ·refine JiA r (fr.set t .undef) t ?_
   grind
  ·exact P4 r _ t h
theorem jN:∀(l:Ac Nat) (e:En) (t:Nat),t∈l->rQ l e=true->Fh e t= .undef
 |u::r,e,t,h,a=>by
  simp only[rQ]at a;split at a
  ·rename_i b;rcases FY.1 h with rfl|h
   ·unfold Jgg at b
    grind
   ·exact jN r e t h a
  ·cases a
theorem oY{P:Aj}{T:Tab}{all:Ac Oper}:∀(l:Ac Oper) (i:Nat) (s:Fr) {r:Nat×Ap×Fr},QV P T all l i s=some r->GG P T all l s=none
 |[],i,s,r,h=>by cases h
 |o::l,i,s,r,h=>by
  simp only[QV]at h;simp only[GG,Iq];split at h
  ·rename_i b;split at h
   ·rename_i x a;simp only[Jb0 a,Option.bind_none]
   ·obtain⟨d,c,h⟩:=Bi.1 h;simp only[c,BR];exact oY l _ _ h
  ·rename_i b;simp only[BR];exact oY l _ _ h
  ·cases h
def V8{P:Aj}{T:Tab}{kp:Ac Nat}{n sz:Nat}(c:Code):∀{α:Type} (e:En) (H:Ae) (fr:Ac D) (K:Lv->En->Ae->Af α) (r:α),Rl sz e fr->IR P T kp n sz c e H K=some r->
  ∃p a u,Ep P T kp n c (fr,H)=some (p,a)/\Rl sz u a.1/\K p u a.2=some r:=by
 induction c with
 |skip=>intro α e H fr K r d h;exact⟨_,_,e,rfl,d,h⟩
 |label l=>intro α e H fr K r d h;exact⟨_,_,e,rfl,d,h⟩
 |exit id=>intro α e H fr K r d h;exact⟨_,_,e,rfl,d,h⟩
 |ret=>intro α e H fr K r d h;exact⟨_,_,e,rfl,d,h⟩
 |region id ops i=>
  intro α e H fr K r d h;simp only[IR]at h;split at h
  ·rename_i J;split at h
   case isFalse=>cases h
   rename_i w;simp only[DJ]at w;obtain⟨⟨w,hq⟩,S⟩:=w;cases N:(NC P T sz ops.toList (fun _ _ _ _ _=>none) ops.toList [] 0 e H [] (fun u _ hs=>Oj (JB u) hs (if i then bQ T ops.toList else[]) (Zw ops.toList u)))with
   |none=>rw[N]at h;cases h
   |some y=>
    rw[N]at h;rcases kJ _ _ _ _ _ _ _ _ _ _ d N with⟨a,u,v,k,f⟩|⟨j,x,a,u,v,k,f⟩
    case inr=>cases f
    obtain⟨C,z⟩:=XV f;have G:PW P T ops.toList i (fr,H)=some (.normal,a):=by
     simp only[PW];rw[Aw w,v,BR,Aw];cases i with
     |false=>rfl
     |true=>rw[k.eval]at C;simpa using C
    have hH:=Jj5 _ _ _ (fun o X=>Ew.1 hq o X) v;refine⟨.normal,(TN (RZ ops.toList) a.1,a.2),fK ops.toList e y,?_,?_,by rw[hH];exact h⟩
    ·simp only[Ep,G,Y2,nY,J,Bool.true_or]
    ·unfold Zw at z;unfold fK;cases L:rP ops.toList with
     |none=>rw[L]at z;cases z
     |some t=>
      rw[L]at z;cases z;refine⟨by rw[Ps];exact k.len,fun s=> ?_⟩;rw[Z5];by_cases A:t=s
      ·subst A;rw[Aw rfl,k.get];exact(uS _ _ t (fun Y=>by
        simp only[RZ,Mb,L]at Y;have:=Y.2;simp at this)).symm
      ·rw[Am A];by_cases hs:s∈RZ ops.toList
       ·rw[jN _ _ s hs S,P4 _ _ s hs]
       ·rw[uS _ _ s hs,d.get];have U:∀o∈ops.toList,o.dst≠some s:=fun o X w=>hs (by
         simp only[RZ,Mb,L7,L];refine⟨⟨o,X,w⟩,?_⟩;cases B:Nat.beq s t with
         |false=>rfl
         |true=>exact absurd (OO B).symm A)
        rw[Ed,Ed,gO _ _ _ s U v]
  rename_i J;split at h
  ·rename_i F;split at h
   case isFalse=>cases h
   rename_i w;simp only[DJ]at w;obtain⟨w,S⟩:=w;cases N:(NC P T sz ops.toList (fun _ _ _ _ _=>none) ops.toList [] 0 e H [] (fun u H' hs=>Oj (JB u) hs (if i then bQ T ops.toList else[]) ((Zw ops.toList u).map fun y=>(y,H'))))with
   |none=>rw[N]at h;cases h
   |some yH=>
    obtain⟨y,Hy⟩:=yH;rw[N]at h;rcases kJ _ _ _ _ _ _ _ _ _ _ d N with⟨a,u,v,k,f⟩|⟨j,x,a,u,v,k,f⟩
    case inr=>cases f
    obtain⟨C,z⟩:=XV f;have G:PW P T ops.toList i (fr,H)=some (.normal,a):=by
     simp only[PW];rw[Aw w,v,BR,Aw];cases i with
     |false=>rfl
     |true=>rw[k.eval]at C;simpa using C
    have hH:Hy=a.2:=by
     obtain⟨y',_,V⟩:=DV.1 z;cases V;rfl
    have z:Zw ops.toList u=some y:=by
     obtain⟨y',hy,V⟩:=DV.1 z;cases V;exact hy
    refine⟨.normal,(TN (RZ ops.toList) a.1,a.2),fK ops.toList e y,?_,?_,by rw[<-hH];exact h⟩
    ·simp only[Ep,G,Y2,nY,J,F,Bool.or_true]
    ·unfold Zw at z;unfold fK;cases L:rP ops.toList with
     |none=>rw[L]at z;cases z
     |some t=>
      rw[L]at z;cases z;refine⟨by rw[Ps];exact k.len,fun s=> ?_⟩;rw[Z5];by_cases A:t=s
      ·subst A;rw[Aw rfl,k.get];exact(uS _ _ t (fun Y=>by
        simp only[RZ,Mb,L]at Y;have:=Y.2;simp at this)).symm
      ·rw[Am A];by_cases hs:s∈RZ ops.toList
       ·rw[jN _ _ s hs S,P4 _ _ s hs]
       ·rw[uS _ _ s hs,d.get];have U:∀o∈ops.toList,o.dst≠some s:=fun o X w=>hs (by
         simp only[RZ,Mb,L7,L];refine⟨⟨o,X,w⟩,?_⟩;cases B:Nat.beq s t with
         |false=>rfl
         |true=>exact absurd (OO B).symm A)
        rw[Ed,Ed,gO _ _ _ s U v]
  rename_i F;simp only[Ep,nY,J,F,Bool.or_false];split at h
  ·rename_i w;rcases kJ _ _ _ _ _ _ _ _ _ _ d h with⟨a,u,v,k,f⟩|⟨j,x,a,u,v,k,f⟩
   ·obtain⟨C,z⟩:=XV f;refine⟨_,a,u,?_,k,z⟩;have:PW P T ops.toList i (fr,H)=some (.normal,a):=by
     simp only[PW];rw[Aw w,v,BR,Aw];cases i with
     |false=>rfl
     |true=>rw[k.eval]at C;simpa using C
    rw[this];rfl
   ·rw[EE]at v f;have ab:PW P T ops.toList i (fr,H)=none:=by
     simp only[PW];rw[Aw w,oY _ _ _ v];rfl
    rw[ab];simp only[Y2,HZ,v,BR];cases i with
    |false=>exact⟨_,a,u,rfl,k,f⟩
    |true=>
     simp only[JeD]at f;split at f
     ·rename_i ad;obtain⟨C,z⟩:=XV f;refine⟨.pan x,(List.replicate fr.length .undef,a.2),[],?_,⟨by simp[d.len],fun t=> ?_⟩,z⟩
      ·rw[k.eval]at C;simp only[MX,Bool.false_or]at w;rw[Aw rfl,Aw];simp only[DJ];exact⟨⟨w,ad⟩,by simpa using C⟩
      ·rw[Ed,List.getElem?_replicate];split<;>rfl
     ·cases f
  ·cases h
 |seq x y Q O=>
  intro α e H fr K r d h;simp only[IR]at h;simp only[Ep];obtain⟨p,a,u,v,k,f⟩:=Q e H fr _ r d h;rw[v];cases p with
  |normal=>exact O u a.2 a.1 K r k f
  |_=>exact⟨_,a,u,rfl,k,f⟩
 |cond c x y Q O=>
  intro α e H fr K r d h;simp only[IR]at h;simp only[Ep];obtain⟨b,B,hc⟩:=Mn h;have M:Rl sz (W5 e c b) fr:=by
   cases c with
   |tmp t=>exact d.same t _ B
   |_=>exact d
  rw[d.eval]at B;rw[B];cases b with
  |true=>exact Q _ H fr K r M hc
  |false=>exact O _ H fr K r M hc
 |block id c Z=>
  intro α e H fr K r d h;simp only[IR]at h;simp only[Ep];obtain⟨p,a,u,v,k,f⟩:=Z e H fr _ r d h;rw[v];cases p with
  |normal=>exact⟨_,a,u,rfl,k,f⟩
  |ret=>exact⟨_,a,u,rfl,k,f⟩
  |goto l=>exact⟨_,a,u,rfl,k,f⟩
  |pan x=>exact⟨_,a,u,rfl,k,f⟩
  |exit j=>
   simp only[Je4,CW]at f;by_cases hj:j=id
   ·subst hj;simp only[Nat.beq_refl]at f;exact⟨.normal,a,u,by simp[nU],k,f⟩
   ·have B:Nat.beq j id=false:=by
     cases B:Nat.beq j id with
     |false=>rfl
     |true=>exact absurd (OO B) hj
    rw[B]at f;exact⟨.exit j,a,u,by simp[nU,hj],k,f⟩
 |loop c Z=>
  intro α e H fr K r d h;simp only[IR]at h;simp only[Ep];have key:∀(m:Nat) (e:En) (H:Ae) (fr:Ac D) (p:Lv) (s:Ac D) (H':Ae),Rl sz e fr->
    DY (fun s H=>IR P T kp n sz c (KR kp s 0) H fun p e H=>some (p,kp.map (Fh e),H)) m (kp.map (Fh e)) H=some (p,s,H')->
    ∃E W,Yv (fun fr=>Ep P T kp n c (forget kp fr)) m (fr,H)=some (p,(E,H'))/\Rl sz W E/\s=kp.map (Fh W):=by
   intro m
   induction m with
   |zero=>intro e H fr p s H' _ h;cases h
   |succ m aa=>
    intro e H fr p s H' d h;simp only[DY]at h;cases I:(IR P T kp n sz c (KR kp (kp.map (Fh e)) 0) H fun p e H=>some (p,kp.map (Fh e),H))with
    |none=>rw[I]at h;cases h
    |some q=>
     obtain⟨ac,R,e1,v,k,f⟩:=Z _ H _ _ q (d.kept kp) I;cases f;have hf:forget kp (fr,H)=(P7 kp fr 0,H):=rfl;simp only[Yv,hf,v];rw[I]at h;cases ac with
     |normal=>
      obtain⟨E,W,q1,q2,q3⟩:=aa e1 R.2 R.1 p s H' k h;exact⟨E,W,q1,q2,q3⟩
     |_=>cases h;exact⟨R.1,e1,rfl,k,rfl⟩
  cases I:DY (fun s H=>IR P T kp n sz c (KR kp s 0) H fun p e H=>some (p,kp.map (Fh e),H)) n (kp.map (Fh e)) H with
  |none=>
   rw[I]at h;unfold mN at h;split at h<;>cases h
  |some q=>
   obtain⟨p,s,H'⟩:=q;rw[I]at h;obtain⟨E,W,q1,q2,rfl⟩:=key n e H fr p s H' d I;rw[q1];have h':K p (KR kp (kp.map (Fh W)) 0) H'=some r:=by
    unfold mN at h;split at h
    ·cases p with
     |normal=>cases h
     |goto l=>cases h
     |pan x=>cases h
     |_=>exact h
    ·cases p with
     |normal=>cases h
     |goto l=>cases h
     |_=>exact h
   exact⟨p,_,_,rfl,q2.kept kp,h'⟩
 |scope c Z=>
  intro α e H fr K r d h;simp only[IR]at h;obtain⟨p,a,u,v,k,f⟩:=Z e H fr _ r d h;cases p with
  |goto l=>cases f
  |_=>exact⟨_,a,u,by simp only[Ep,v];rfl,k,f⟩
 |goto l=>intro α e H fr K r d h;exact⟨_,_,e,rfl,d,h⟩
 |rangeFunc g ps as' bd af ae=>
  intro α e H fr K r d h;simp only[IR]at h;simp only[Ep];have hs:kp.map (Fh e)=kp.map (fr.getD · .undef):=SY fun t _=>d.get t;rw[d.eval,hs,<-d.len]at h;cases I:IK T (DU fr g) ps.toList as' bd fr.length kp (kp.map (fr.getD · .undef)) H with
  |none=>rw[I]at h;cases h
  |some q=>
   obtain⟨p,H'⟩:=q;rw[I]at h;refine⟨p,(fr,H'),e,rfl,d,?_⟩;cases p with
   |goto l=>cases h
   |pan x=>cases h
   |_=>exact h
 |_=>intro α e H fr K r d h;cases h
def NY(P:Aj)(e:En)(H:Ae):ResultVar->Af D
 | .tmp t=>some (Fh e t)
 | .cell a t=>(L9 P t).bind fun s=>Ai s H (Fh e a)
def Vq(P:Aj)(e:En)(H:Ae):Ac ResultVar->Af (D×Ae)
 |[r]=>Ad (NY P e H r) fun d=>some (d,H)
 |[f,b]=>Ad (NY P e H f) fun a=>Ad (NY P e H b) fun c=>some (.tup [a,c],H)
 |[f,b,h]=>Ad (NY P e H f) fun a=>Ad (NY P e H b) fun c=>Ad (NY P e H h) fun g=>some (.tup [a,c,g],H)
 |[]=>some (.tup [],H)
 |_=>none
def Jkh(P:Aj)(rs:Ac ResultVar):Lv->En->Ae->Af (D×Ae)
 | .exit _,_,_| .goto _,_,_| .pan _,_,_=>none
 |_,e,H=>Vq P e H rs
def hM(P:Aj)(T:Tab)(kp:Ac Nat)(n:Nat)(c:Code)(ntmps:Nat)(rs:Ac ResultVar)(ds:Ac D)(H:Ae):Af (D×Ae):=
 if ds.length<=ntmps then IR P T kp n ntmps c (Us ds 0) H (Jkh P rs)else none
def Zz:Code->Ac (Ac Nat×Code×Code)
 | .seq x y| .cond _ x y=>Zz x++Zz y
 | .block _ c| .loop c| .scope c=>Zz c
 | .rangeFunc _ b as' a=>(b.toList,as',a)::(Zz as'++Zz a)
 |_=>[]
def ET(fn:Func)(i:Nat):Code:=((Zz (fn.body.getD .skip)).getD i ([],.skip,.skip)).2.1
def EL(fn:Func)(i:Nat):Code:=((Zz (fn.body.getD .skip)).getD i ([],.skip,.skip)).2.2
end
def Jlp{P:Aj}{sz:Nat}{e:En}{H:Ae}{fr:Ac D}(b:Rl sz e fr)(r:ResultVar):NY P e H r=MJ P (fr,H) r:=by
 cases r with
 |tmp t=>simp only[NY,MJ,b.get]
 |cell a t=>simp only[NY,MJ,b.get]
def Jd4{P:Aj}{sz:Nat}{rs:Ac ResultVar}{e:En}{fr:Fr}(l:Rl sz e fr.1){d:D}{H':Ae}(a:Vq P e fr.2 rs=some (d,H')):(UI P rs fr).map (fun d=>(d,fr.2))=some (d,H'):=by
 have c:∀r,NY P e fr.2 r=MJ P fr r:=fun r=>Jlp l r;unfold Vq at a;unfold UI;split at a
 ·rename_i g;rw[c]at a;cases b:MJ P fr g with
  |none=>rw[b]at a;cases a
  |some j=>
   rw[b]at a;simp only[Ad]at a;simp[b,a]
 ·rename_i g i;rw[c,c]at a;cases b:MJ P fr g with
  |none=>rw[b]at a;cases a
  |some j=>
   cases f:MJ P fr i with
   |none=>rw[b,f]at a;cases a
   |some k=>
    rw[b,f]at a;simp only[Ad]at a;simp_all
 ·rename_i g i m;rw[c,c,c]at a;cases b:MJ P fr g with
  |none=>rw[b]at a;cases a
  |some j=>
   cases f:MJ P fr i with
   |none=>rw[b,f]at a;cases a
   |some k=>
    cases h:MJ P fr m with
    |none=>rw[b,f,h]at a;cases a
    |some n=>
     rw[b,f,h]at a;simp only[Ad]at a;simp_all
 ·grind
 ·cases a
def JgC{P:Aj}{T:Tab}{kp:Ac Nat}{n:Nat}{c:Code}{ntmps:Nat}{rs:Ac ResultVar}{ds:Ac D}{H H':Ae}{d:D}(h:hM P T kp n c ntmps rs ds H=some (d,H')):dJ P T kp n c ntmps rs ds H=some (d,H'):=by
 unfold hM at h;unfold dJ;split at h
 ·rename_i k;have o:Rl ntmps (Us ds 0) (ds++List.replicate (ntmps-ds.length) .undef):=by
   refine⟨by simp;omega,fun t=> ?_⟩;rw[Jea,Aw (F9 _),Nat.sub_zero,Ed,Ed];by_cases ht:t<ds.length
   ·grind
   ·grind
  obtain⟨a,fr,e,m,p,b⟩:=V8 _ _ _ _ _ _ o h;rw[m];have key:∀a:Lv,a= .normal\/a= .ret->Jkh P rs a e fr.2=some (d,H')->(UI P rs fr).map (fun d=>(d,fr.2))=some (d,H'):=by
   intro a f i;have g:Vq P e fr.2 rs=some (d,H'):=by
    rcases f with rfl|rfl
    ·exact i
    ·exact i
   exact Jd4 p g
  cases a with
  |exit j=>cases b
  |goto l=>cases b
  |pan x=>cases b
  |normal=>grind
  |ret=>grind
 ·cases h
def Kt(fn:Func):Code:=fn.body.getD .skip
def AB(P:Aj)(T:Tab)(kp:Ac Nat)(n:Nat)(fn:Func)(ds:Ac D)(H:Ae):Af (D×Ae):=hM P T kp n (Kt fn) fn.ntmps fn.results.toList ds H
def Hx{P:Aj}{T:Tab}{kp:Ac Nat}(i:Bg P T)(l:P.follows .mixedOrders=true){f:CG}{fn:Func}(j:P.funcs[f]? =some fn)(g:fn.body.isSome=true)(a:fn.name≠ "runtime.NumGoroutine"){G:GT}
  (h:∀ds H d H',G ds H=some (d,H')->∃n,AB P T kp n fn ds H=some (d,H')):BN P f G:=by
 cases b:fn.body with
 |none=>rw[b]at g;cases g
 |some c=>
  refine JiJ (kp:=kp) i l j b a fun ds H d H' k=> ?_;obtain⟨n,e⟩:=h ds H d H' k;refine⟨n,?_⟩;unfold AB Kt at e;rw[b]at e;exact JgC e
def wL{P:Aj}{T:Tab}{kp:Ac Nat}(j:Bg P T)(o:P.follows .mixedOrders=true){f:CG}{fn:Func}(k:P.funcs[f]? =some fn)(i:fn.body.isSome=true)(a:fn.name≠ "runtime.NumGoroutine"){F:Ac D→Af D}
  (h:∀ds d,F ds=some d->∃n,BB (AB P T kp n fn ds [])=some d):Bz P f F:=by
 cases b:fn.body with
 |none=>rw[b]at i;cases i
 |some c=>
  refine Jy4 (kp:=kp) j o k b a fun ds d m=> ?_;obtain⟨n,g⟩:=h ds d m;refine⟨n,?_⟩;unfold BB at g⊢;obtain⟨⟨p,H'⟩,e,l⟩:=Bi.1 g;unfold AB Kt at e;rw[b]at e;exact Bi.2 ⟨_,JgC e,l⟩
abbrev iD(n:Int):D:= .v (.int .i64 n)
abbrev bD(b:Bool):D:= .v (.bool b)
def Cb(x:Nd):Ac D:=[iD x.1,iD x.2]
def IE(n:Int):Ac D:=[iD n]
def A8(l:Ac Nd):D:= .sl 2 (l.map Cb)
def AL(l:Ac Int):D:= .sl 1 (l.map IE)
def Dz:D->Af Int
 | .v (.int .i64 n)=>some n
 |_=>none
def Yf:Ac D->Af Nd
 |[.v (.int .i64 a),.v (.int .i64 b)]=>some (a,b)
 |_=>none
def kE:Ac D->Af Int
 |[.v (.int .i64 a)]=>some a
 |_=>none
def Er:D->Af Nd
 | .agg cs=>Yf cs
 |_=>none
def Gv:D->Af (Ac Nd)
 | .sl _ els=>els.mapM Yf
 | .v (.slice none 0 0)=>some []
 |_=>none
def Hg:D->Af (Ac Int)
 | .sl _ els=>els.mapM kE
 | .v (.slice none 0 0)=>some []
 |_=>none
def nA{α β:Type}(f:α->β)(g:β->Af α)(h:∀x,g (f x)=some x)(l:Ac α):(l.map f).mapM g=some l:=by
 induction l with
 |nil=>rfl
 |cons a r b=>grind
@[simp] theorem Rr(l:Ac Nd):Gv (A8 l)=some l:=nA Cb Yf (fun _=>rfl) l
@[simp] theorem uA(l:Ac Int):Hg (AL l)=some l:=nA IE kE (fun _=>rfl) l
@[simp] theorem QgE(n:Int):Dz (.v (.int .i64 n))=some n:=rfl
@[simp] theorem QfA(x:Nd):Yf (Cb x)=some x:=rfl
@[simp] theorem QfF:Gv Aq=some []:=rfl
@[simp] theorem Qgo:Hg Aq=some []:=rfl
section
variable {S : Nat → Prop} {w : AA}
def Vz{L:Ac (Nat×Nat)}{d:D}{n:Int}{v:Ap}(h:Dz d=some n)(a:Rep S L w v d):v= .int .i64 n:=by
 unfold Dz at h;split at h
 ·cases h;simpa only[Rep]using a
 ·cases h
def Pd{cs:Ac D}{x:Nd}(h:Yf cs=some x):cs=Cb x:=by
 unfold Yf at h;split at h
 ·cases h;rfl
 ·cases h
def Jgo{cs:Ac D}{x:Int}(h:kE cs=some x):cs=IE x:=by
 unfold kE at h;split at h
 ·cases h;rfl
 ·cases h
theorem vK{α:Type}(f:α->Ac D)(g:Ac D->Af α)(h:∀cs x,g cs=some x->cs=f x):∀(els:Ac (Ac D)) (l:Ac α),els.mapM g=some l->els=l.map f
 |[],l,a=>by grind
 |e::r,l,a=>by
  simp only[FZ,eQ,Zb]at a;cases b:g e with
  |none=>rw[b]at a;cases a
  |some x=>
   cases c:r.mapM g with
   |none=>grind
   |some t=>
    rw[b,c]at a;cases a;rw[vK f g h r t c,h e x b];rfl
def Jbl{α:Type}(f:α->Ac D)(g:α->Ac Ap)(sz:Nat)(i:∀x,(f x).length=sz)(a:∀x,Au S [] w (g x) (f x))(l:Ac α)(b o:Nat)(h:∀j,j<(l.flatMap g).length->w.cell? ⟨b,o+j,none⟩=(l.flatMap g)[j]?):EM S [] w b o sz (l.map f):=by
 induction l generalizing o with
 |nil=>simp[EM]
 |cons x r e=>
  have d:=(a x).length;simp only[EP,EM];refine⟨i x,Eg.of (a x) fun j y c=> ?_,e (o+sz) fun j c=> ?_⟩
  ·grind
  ·have:=h (sz+j) (by grind)
   grind
def Qdd{α:Type}(f:α->Ac D)(g:α->Ac Ap)(i:∀x a,Au S [] w a (f x)->a=g x)(l:Ac α)(b o sz:Nat)(h:EM S [] w b o sz (l.map f)):∀j,j<(l.flatMap g).length->w.cell? ⟨b,o+j,none⟩=(l.flatMap g)[j]? :=by
 induction l generalizing o with
 |nil=>intro j e;simp at e
 |cons x r n=>
  simp only[EP,EM]at h;obtain⟨p,k,m⟩:=h;obtain⟨a,c,s⟩:=k.values;have d:=i x a c;subst d;have q:=c.length
  grind
def Jt9(x:Nd):Au S [] w [.int .i64 x.1,.int .i64 x.2] (Cb x):=Au.cons (by simp only[Rep]) (Au.cons (by simp only[Rep]) Au.nil)
def JpS(x:Nd)(a:Ac Ap)(h:Au S [] w a (Cb x)):a=[.int .i64 x.1,.int .i64 x.2]:=by
 simp only[Cb,Au,Rep]at h
 grind
def Jnf(n:Int):Au S [] w [.int .i64 n] (IE n):=Au.cons (by simp only[Rep]) Au.nil
def Qaj(n:Int)(a:Ac Ap)(h:Au S [] w a (IE n)):a=[.int .i64 n]:=by
 simp only[IE,Au,Rep]at h
 grind
def fP{v:Ap}{l:Ac Nd}(h:E8 S w v l):Rep S [] w v (A8 l):=by
 simp only[A8,Rep,Ju];rcases h with⟨p,cap,d,c,_,a⟩|⟨b,o,cap,d,c,a,e,f⟩
 ·grind
 ·exact .inr ⟨b,o,cap,d,c,a,e,Jbl Cb _ 2 (fun _=>rfl) Jt9 l b o f⟩
def lN{v:Ap}{l:Ac Int}(h:IntsIn S w v l):Rep S [] w v (AL l):=by
 simp only[AL,Rep,Ju];have j:l.map (Value.int .i64)=l.flatMap fun n=>[Value.int .i64 n]:=by
  clear h
  induction l with
  |nil=>rfl
  |cons a r g=>simp[g]
 unfold IntsIn at h;rw[j]at h;rcases h with⟨p,cap,e,d,_,c⟩|⟨b,o,cap,e,d,c,f,i⟩
 ·grind
 ·exact .inr ⟨b,o,cap,e,d,c,f,Jbl IE _ 1 (fun _=>rfl) Jnf l b o i⟩
def JaG{α:Type}(f:α->Ac D)(g:α->Ac Ap)(i:∀x e,Au S [] w e (f x)->e=g x){v:Ap}{l:Ac α}{sz:Nat}(h:Rep S [] w v (.sl sz (l.map f))):Gp S w v l.length (l.flatMap g):=by
 simp only[Rep,Ju]at h;rcases h with⟨d,p,cap,c,a⟩|⟨b,o,cap,d,c,a,j,k⟩
 ·have:l=[]:=by simpa using d
  subst this;exact .inl ⟨p,cap,c,rfl,rfl,a⟩
 ·exact .inr ⟨b,o,cap,d,c,a,j,Qdd f g i l b o sz k⟩
def Nq{d:D}{l:Ac Nd}{v:Ap}(h:Gv d=some l)(a:Rep S [] w v d):E8 S w v l:=by
 unfold Gv at h;split at h
 ·rw[vK Cb Yf (fun _ _=>Pd) _ _ h]at a;exact JaG Cb _ JpS a
 ·cases h
  simp only[Rep]at a;exact .inl ⟨none,0,a,rfl,rfl,fun _=>rfl⟩
 ·cases h
def Yc{d:D}{l:Ac Int}{v:Ap}(h:Hg d=some l)(b:Rep S [] w v d):IntsIn S w v l:=by
 have e:l.map (Value.int .i64)=l.flatMap fun n=>[Value.int .i64 n]:=by
  clear h
  induction l with
  |nil=>rfl
  |cons a r c=>simp[c]
 unfold IntsIn;rw[e];unfold Hg at h;split at h
 ·rw[vK IE kE (fun _ _=>Jgo) _ _ h]at b;exact JaG IE _ Qaj b
 ·cases h
  simp only[Rep]at b;exact .inl ⟨none,0,b,rfl,rfl,fun _=>rfl⟩
 ·cases h
end
@[simp] theorem Qf2(l:Ac Nd):IU 2 (A8 l)=some (l.map Cb):=by simp[IU,A8]
@[simp] theorem Jff(l:Ac Int):IU 1 (AL l)=some (l.map IE):=by simp[IU,AL]
def Nx:Ac Nat->Ac D->En->En
 |t::a,d::ds,e=>Nx a ds ((t,d)::e)
 |_,_,e=>e
def IZ{α:Type}(id:Nat)(H:Ae)(k:Ae->Af α):Af α:=
 match H[id]? with
 |some (.loop .ready a as' b sz kp s)=>k (H.set id (.loop .busy a as' b sz kp s))
 |_=>none
def J9(id:Nat)(a:Lv)(H:Ae):Af (D×Ae):=
 match H[id]? with
 |some (.loop .busy b as' c sz kp s)=>
  match a with
  | .normal=>some (.v (.bool true),H.set id (.loop .ready b as' c sz kp s))
  | .goto _| .pan _=>none
  |a=>some (.v (.bool false),H.set id (.loop (.done a) b as' c sz kp s))
 |_=>none
def JdL{α:Type}(a:Lv)(x:Af α):Af α:=
 match a with
 | .normal=>x
 |_=>none
def Mc(P:Aj)(T:Tab)(n:Nat)(id:Nat)(c:Ac Nat)(as' g:Code)(sz:Nat)(kp:Ac Nat)(s:Ac D)(ds:Ac D)(H:Ae):Af (D×Ae):=
 IR P T kp n sz as' (Nx c ds (KR kp s 0)) H fun f e b=>JdL f (IZ id b fun h=>IR P T kp n sz g e h fun a _ d=>J9 id a d)
def Jb(P:Aj)(T:Tab)(n:Nat)(id:Nat)(ds:Ac D)(H:Ae):Af (D×Ae):=
 match H[id]? with
 |some (.loop .ready a as' b sz kp s)=>if ds.length=a.length/\LK as'=true/\LK b=true/\(a.all fun t=>decide (t<sz))=true/\(kp.all fun t=>decide (t<sz))=true then Mc P T n id a as' b sz kp s ds H else none
 |_=>none
def Jsi(sz:Nat)(kp:Ac Nat)(s:Ac D)(t:Nat)(ht:t<sz):(Uk sz kp s).getD t .undef=Ru kp s t:=by
 rw[Ed,Uk,Xy,pI ht];rfl
theorem Wg:∀(kp:Ac Nat) (s:Ac D) (l:Ac D) (i t:Nat),l.drop i=s->Fh (KR kp l i) t=Ru kp s t
 |[],s,l,i,t,h=>by simp[KR,Fh,Ru]
 |k::kp,s,l,i,t,h=>by
  simp only[KR];rw[Z5];cases s with
  |nil=>
   have c:l.length<=i:=by simpa using h
   simp only[Ru];split
   ·grind
   ·have:=Wg kp [] l (i+1) t (by rw[LR];omega);rw[this];cases kp<;>rfl
  |cons d r=>
   have b:l[i]? =some d:=by
    have:=congrArg (·[0]?) h;simpa using this
   have a:l.drop (i+1)=r:=by
    have:=congrArg List.tail h;simpa using this
   simp only[Ru];split
   ·grind
   ·exact Wg kp r l (i+1) t a
def JvN(sz:Nat)(kp:Ac Nat)(s:Ac D)(h:∀t,sz<=t->Ru kp s t= .undef):Rl sz (KR kp s 0) (Uk sz kp s):=by
 refine⟨by simp[Uk],fun t=> ?_⟩;rw[Wg kp s s 0 t (by simp)];by_cases ht:t<sz
 ·rw[Jsi sz kp s t ht]
 ·rw[h t (by omega),Ed,UC (by simp[Uk];omega)];rfl
theorem JaK:∀(kp:Ac Nat) (s:Ac D) (t:Nat),t∉kp->Ru kp s t= .undef
 |[],s,t,_=>by cases s<;>rfl
 |k::kp,[],t,_=>rfl
 |k::kp,d::s,t,h=>by
  simp only[FY,not_or]at h;simp only[Ru];rw[Am (fun e=>h.1 e.symm)];exact JaK kp s t h.2
def C5:Ac Nat->Ac D->Ac D->Ac D
 |t::a,d::ds,l=>C5 a ds (l.set t d)
 |_,_,l=>l
theorem JcQ(sz:Nat):∀(a:Ac Nat) (ds:Ac D) (e:En) (fr:Ac D),(a.all fun t=>decide (t<sz))=true->Rl sz e fr->Rl sz (Nx a ds e) (C5 a ds fr)
 |[],ds,e,fr,_,h=>by cases ds<;>exact h
 |t::a,[],e,fr,_,h=>h
 |t::a,d::ds,e,fr,hp,h=>by
  simp only[Na,DJ,F5]at hp;exact JcQ sz a ds _ _ hp.2 (h.set t hp.1 d)
theorem Jju{S:Nat->Prop}{L:Ac (Nat×Nat)}{w:AA}:∀(b:Ac Nat) (ds:Ac D) (vs:Ac Ap) (tmps:CX Ap) (fr:Ac D),Au S L w vs ds->Au S L w tmps.toList fr->
  Au S L w ((b.zip vs).foldl (fun tmps (t,a)=>tmps.setIfInBounds t a) tmps).toList (C5 b ds fr)
 |[],ds,vs,tmps,fr,_,h=>by cases ds<;>exact h
 |t::b,[],vs,tmps,fr,c,h=>by
  simp only[Au]at c;subst c;exact h
 |t::b,d::ds,vs,tmps,fr,c,h=>by
  simp only[Au]at c;obtain⟨x,e,rfl,g,f⟩:=c;refine Jju b ds e _ _ f ?_;simp only[Array.toList_setIfInBounds];exact h.set t g
def JqB{α:Type}{a:Lv}{x:Af α}{r:α}(h:JdL a x=some r):a= .normal/\x=some r:=by
 cases a with
 |normal=>exact⟨rfl,h⟩
 |_=>cases h
def JzY{α:Type}{id:Nat}{H:Ae}{k:Ae->Af α}{r:α}(h:IZ id H k=some r):∃a as' b sz kp s,H[id]? =some (.loop .ready a as' b sz kp s)/\k (H.set id (.loop .busy a as' b sz kp s))=some r:=by
 unfold IZ at h
 grind
def BD.loop{B:Nat}{S:Nat->Prop}{L:Ac (Nat×Nat)}{w:AA}{H:Ae}(h:BD B S L w H){id:Nat}{st:LS}{f:Ac Nat}{as' g:Code}{sz:Nat}{kp:Ac Nat}{s:Ac D}(hid:H[id]? =some (.loop st f as' g sz kp s)){b c:Nat}(l:L[id]? =some (b,c)):
  ∃r:Loop,w.heap[b]? =some (.loop r)/\r.state=st.state/\r.pending=st.pend/\∀a:LS,∀d:Loop,d.state=a.state->d.pending=a.pend->d.params=r.params->d.assign=r.assign->d.body=r.body->d.tmps=r.tmps->
   BD B S L (w.putObj b (.loop d)) (H.set id (.loop a f as' g sz kp s))/\Later B S S L L w (w.putObj b (.loop d)):=by
 obtain⟨J,G,j,K,I,r,i,E,q,A,t,n,y⟩:=h.obj id _ hid (by intro e;cases e);rw[l]at j;cases j;refine⟨r,i,E,q,fun a d z m u p x F=> ?_⟩;refine h.writeO hid (by intro e;cases e) l _ (.loop a f as' g sz kp s) (by intro e;cases e) rfl rfl rfl (by simp) (fun k v=>World.putObj_heap_other v) fun o C=> ?_;exact⟨d,World.putObj_heap_same (IY.1 i).1,z,m,by rw[u];exact A,p.trans t,x.trans n,by grind⟩
def QeY{P:Aj}{T:Tab}(hT:Bg P T)(hm:P.follows .mixedOrders=true)(n:Nat):FT P (Jb P T n):=by
 intro id ds H d H' h B S L vs w J hv;unfold Jb at h;split at h
 ·rename_i U as' bd sz kp s hid;split at h
  ·rename_i hc;obtain⟨ai,Q,aa,ah,ak⟩:=hc;unfold Mc at h;obtain⟨b,c,h1,h2,h3,r,h4,h5,h6,h7,h8,h9,W⟩:=J.obj id _ hid (by intro e;cases e);have aj:=hv.length;have af:vs.toArray.size=r.params.size:=by grind
   have ad:=JcQ sz U ds _ _ ah (JvN sz kp s fun t ht=>JaK kp s t fun hm=>by grind);obtain⟨lv,C,e1,k1,k2,F⟩:=V8 _ _ _ _ _ _ ad h;obtain⟨ag,R⟩:=JqB F;subst ag;clear F;obtain⟨ac,K,V,Y,M,s1,z,F⟩:=JzY R;obtain⟨ab,E,e2,k4,k5,p⟩:=V8 _ _ _ _ _ _ k2 F;refine⟨b,c,r.fn,_,r.assign,r.body,h1,run_yield h4 af,fun n'=> ?_⟩;refine roundIn_of_wpIn trivial ?_;rw[h8];have y:EY B ⟨w.heap.size,[],false⟩ S L w {tmps:=(r.params.zip vs.toArray).foldl (fun tmps (t,a)=>tmps.setIfInBounds t a) r.tmps,defers:=[]} (C5 U ds (Uk sz kp s),H):=by
    refine⟨Pq.nil,?_,J⟩;have:=Jju U ds vs r.tmps _ hv W;rw[<-h7]at this;rw[<-Array.foldl_toList,Array.toList_zip];simpa[h7]using this
   refine SN hT hm (.round b) J.base as' k1 (.inr Q) (BQ _) y fun a1 w1 S1 L1 O q2=> ?_;have D:=TM q2.pre _ _ h1;obtain⟨r1,p1,p2,p3,p4⟩:=O.objs.loop z D;obtain⟨p5,p6⟩:=p4 .busy {r1 with state:= .busy} rfl p3 rfl rfl rfl rfl;refine⟨_,run_beginRound p1 p2,?_⟩;rw[h9];have q:=q2.trans p6;have u:EY B ⟨w.heap.size,[],false⟩ S1 L1 (w1.putObj b (.loop {r1 with state:= .busy})) a1 (C.1,C.2.set id (.loop .busy ac K V Y M s1)):=⟨O.defers.later p6,p6.repA O.tmps,p5⟩;refine SN hT hm (.round b) J.base bd k4 (.inr aa) q.kept.size u fun a2 w2 S2 L2 u1 u2=> ?_;have ae:=TM u2.pre _ _ D;have A:=q.trans u2;have DK:∀(jump:Af Code) (g:LS) (N:Bool) i m o sz2 k I,E.2[id]? =some (.loop .busy i m o sz2 k I)->(if jump.isNone then LoopState.ready else .done)=g.state->jump=g.pend->jump.isNone=N->d= .v (.bool N)->H'=E.2.set id (.loop g i m o sz2 k I)->
     ∃v G,(Instr.endRound b jump).run P w2= .ok v G/\∃v' Z X,Ending.returned v= .returned v'/\Rep Z X G v' d/\BD B Z X G H'/\Later B S Z L X w G:=by
    intro jump g N i m o sz2 k I f e1 e2 e3 e4 e5;obtain⟨r2,y1,y2,y3,y4⟩:=u1.objs.loop f ae;obtain⟨y5,y6⟩:=y4 g {r2 with state:=if jump.isNone then .ready else .done,pending:=jump} e1 e2 rfl rfl rfl rfl;refine⟨_,_,run_endRound jump y1,_,S2,L2,rfl,?_,by rw[e5];exact y5,A.trans y6⟩;rw[e4,e3];simp only[Rep]
   unfold J9 at p;split at p
   ·rename_i i m o sz2 k I f;cases ab with
    |normal=>
     cases p
     exact DK none .ready true _ _ _ _ _ _ f rfl rfl rfl rfl rfl
    |exit j=>
     cases p
     exact DK (some (.exit j)) (.done (.exit j)) false _ _ _ _ _ _ f rfl rfl rfl rfl rfl
    |goto l=>cases p
    |pan x=>cases p
    |ret=>
     cases p
     exact DK (some .ret) (.done .ret) false _ _ _ _ _ _ f rfl rfl rfl rfl rfl
   ·cases p
  ·cases h
 ·cases h
def Yn(P:Aj)(a:(Nat->GT)->Tab)(n:Nat):Nat->Nat->GT
 |0=>BM
 |m+1=>Jb P (a (Yn P a n m)) n
theorem TW{P:Aj}{b:(Nat->GT)->Tab}(a:∀Y,FT P Y->Bg P (b Y))(c:P.follows .mixedOrders=true)(n:Nat):∀m,FT P (Yn P b n m)
 |0=>cZ P
 |m+1=>QeY (a _ (TW a c n m)) c n
end Go.Proofs.YtapdelkomkpgmaaGreatDoor
