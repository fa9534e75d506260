import Derived.Test.YtapdelkomkpgmaaGreatDoorQi
namespace Go.Proofs.YtapdelkomkpgmaaGreatDoor
open Go.Proofs.Tryz
open Go.RowKit
set_option maxRecDepth 100000
set_option linter.all false
def RV(params:Int)(i:Nat)(t:Int):Bool:=decide (0<=t/\t<=9/\((i:Int)<params->t=0))
def zB(p:Pg):Bool:=decide (0<=p.params/\p.params<=p.vars.length/\p.vars.length<=12)&&(List.range p.vars.length).all fun i=>RV p.params i (p.vars.getD i 0)
def KL(p:Pg):Int:=if zB p then 0 else 14
def ZC:Ac D->Af D:=F1 Ef fun p=>some (iD (KL p))
def kD(t:Int)(H:Ae):Ak V5 [iD t] H=some (iD (JP t),H):=by rfl
def qR{p:Pg}(h:¬(0<=p.params/\p.params<=p.vars.length/\p.vars.length<=12)):KL p=14:=by simp[KL,zB,h]
def Jzt{p:Pg}(h:0<=p.params/\p.params<=p.vars.length/\p.vars.length<=12)(a:∀i,0<=i->i<p.vars.length->RV p.params i (p.vars.getD i 0)=true):KL p=0:=by
 have:(List.range p.vars.length).all (fun i=>RV p.params i (p.vars.getD i 0))=true:=by grind
 unfold KL zB;rw[this];simp[h]
def Jhs{p:Pg}{i:Nat}(b:i<p.vars.length)(a:RV p.params i (p.vars.getD i 0)=false):KL p=14:=by
 have:(List.range p.vars.length).all (fun i=>RV p.params i (p.vars.getD i 0))=false:=by grind
 unfold KL zB;rw[this];simp
def Jhv:Bz Aa 95 ZC:=FC (kp:=uC) lF AX func95 fun p d h=>by
 cases h
 refine⟨p.vars.length+1,_,?_,AY.refl _⟩;show BB (AB _ _ _ _ _ [Be p] [])=_;rw[Qfp];unfold AV;by_cases j:p.params<0
 ·rw[qR (by omega)];simp[j]
 by_cases k:(p.vars.length:Int)<p.params
 ·rw[qR (by omega)];simp[j,k]
 by_cases n:(12:Int)<p.vars.length
 ·rw[qR (by omega)];simp[j,k,n]
 have hs:=VO (P:=Aa) (T:=Tt) (kp:=uC) (fn:= f95) (li:=0) (fun i=>[.hp 0 0,iD 0,AL p.vars,iD p.vars.length,iD i]) (VC 25 p) p.vars.length (fun i=>RV p.params i (p.vars.getD i 0))
  (fun i=>(.ret,[.hp 0 0,iD 14,AL p.vars,iD p.vars.length,iD i],VC 25 p)) (.exit 0,[.hp 0 0,iD 0,AL p.vars,iD p.vars.length,iD p.vars.length],VC 25 p)
  (fun i=>by intro e;cases e) (by intro e;cases e) 0 (p.vars.length+1) (F9 _) (by omega)
  (fun i _ a hp=>by
   have q:=Jj (i:Int) 1 (by omega) (by omega);have b:(i:Int)<p.vars.length:=by omega
   rw[gC];simp only[RV,F5,G7 _ i 0 a]at hp;by_cases c:p.vars[i]=0
   ·simp[VC,b,GY _ _ a,c,q]
   ·have g:¬(i:Int)<p.params:=fun h=>c (hp.2.2 h);by_cases l:p.vars[i]=1
    ·simp[VC,b,GY _ _ a,g,l,q]
    ·have r:¬JP p.vars[i]=0:=by unfold JP;rw[Aw (by omega)];omega
     simp[VC,b,GY _ _ a,c,g,l,r,q,kD])
  (fun i _ a hp=>by
   have b:(i:Int)<p.vars.length:=by omega
   rw[gC];simp only[RV,decide_eq_false_iff_not,G7 _ i 0 a]at hp;have c:¬p.vars[i]=0:=fun h=>hp (by omega);by_cases g:(i:Int)<p.params
   ·simp[VC,b,GY _ _ a,c,g]
   ·have l:¬p.vars[i]=1:=fun h=>hp (by omega);have r:JP p.vars[i]=0:=by unfold JP;rw[Am (by omega)]
    simp[VC,b,GY _ _ a,c,g,l,r,kD])
  (by rw[gC];simp)
 rcases hs with⟨o,m⟩|⟨i,u,o,m,v,s⟩
 ·rw[Jzt (by omega) o];simp only[VC,Td]at m;simp[j,k,n,m]
 ·rw[Jhs o m];simp only[VC,Td]at s;simp[j,k,n,s]
def JwT(a b:Ac Int)(H:Ae)(d:a.length<=3000000)(c:b.length<=3000000):Ak jC [AL a,AL b] H=some (bD (decide (a=b)),H):=by
 rw[CP _ _ _ rfl];unfold jC;rw[show[AL a,AL b]=[OY.enc a,OY.enc b]from rfl,JU,Aw ⟨d,c⟩];rfl
def RC:Bz Aa 133 Ut:=GK (kp:=sP) lF AX func133 fun p q d h=>by
 split at h
 case isFalse=>cases h
 rename_i a;cases h;refine⟨0,_,?_,AY.refl _⟩;show BB (AB _ _ _ _ _ [Be p,Be q] [])=_;rw[Jmt];unfold AV;simp only[Jed p q];by_cases e:p.vars=q.vars<;>by_cases c:p.body=q.body<;>by_cases b:p.params=q.params<;>simp[JwT,Qe7,a.1.1,a.1.2,a.2.1,a.2.2,e,c,b]
def Jcy(k:Int)(H:Ae)(a:0<=k)(h:k<4294967296):Ak U3 [.v (.int .u64 1),.v (.int .u64 k)] H=some (.tup [.v (.int .u64 0),.v (.int .u64 k)],H):=by
 rw[CP _ _ _ rfl];simp[U3,a,h]
def Jv5:Bz Aa 314 U3:=by
 refine wL (kp:=JaQ) lF AX func314 (by kernel_rfl) (by decide) fun ds d h=>⟨0,?_⟩;unfold U3 at h;split at h
 case h_2=>cases h
 rename_i k;split at h
 case isFalse=>cases h
 rename_i a;cases h;rw[Jrz];simp[Jcy k _ a.1 a.2,DN,U6]
def Ya(vs:Ac Int)(n a:Int):Int:=if JP (Oo vs n)=0 then-1 else a
def WE(vs:Ac Int)(n:Int)(set:Bool):Int:=if Oo vs n=0\/Oo vs n=1 then(if set then 2 else Oo vs n)else-1
def KT(vs:Ac Int)(n:Int):EQ->Int
 | .plain _ a=>a
 | .array _ a=>Ya vs n a
 | .scalar b=>WE vs n b
 | .none=>2
def Da:EQ->Bool
 | .plain _ _| .none=>false
 |_=>true
abbrev Wj(r:EQ)(x:Nd):Prop:=Da r=true->0<=x.2/\x.2<=1000000
def XT(t:AQ)(d:D):Af EQ:=EQ.dec (.ifc t d)
def O3(t:AQ):Ac D->Af D
 |[r,p,x]=>(XT t r).bind fun r=>(XH p).bind fun p=>(Er x).bind fun x=>if Wj r x then some (iD (KT p.vars x.2 r))else none
 |_=>none
def RR{T:Tab}{kp:Ac Nat}(i:Bg Aa T){f:CG}{fn:Func}(l:Aa.funcs[f]? =some fn)(o:fn.body.isSome=true)(b:fn.name≠ "runtime.NumGoroutine")(t:AQ)
  (h:∀d r p x,XT t d=some r->Wj r x->∃c,AY d c/\∃n,BB (AB Aa T kp n fn [c,Be p,.agg (Cb x)] [])=some (iD (KT p.vars x.2 r))):Bz Aa f (O3 t):=
 fH i AX l o b fun ds d a=>by
  unfold O3 at a;split at a
  ·obtain⟨r,g,a⟩:=Bi.1 a;obtain⟨p,m,a⟩:=Bi.1 a;obtain⟨x,j,a⟩:=Bi.1 a;split at a
   ·rename_i k;cases a;obtain⟨c,e,n,q⟩:=h _ r p x g k;exact⟨_,_,n,.cons e (.cons (Ef.ok _ _ m) (.cons (tH.ok _ _ j) .nil)),q,AY.refl _⟩
   ·cases a
  ·cases a
def Jeo{vs:Ac Int}{n:Int}(a:0<=n)(h:(vs.length:Int)<=n):Oo vs n= -1:=by
 unfold Oo
 grind
def JaF{vs:Ac Int}{n:Int}(a:0<=n)(h:n.toNat<vs.length):Oo vs n=vs[n.toNat]:=by
 unfold Oo
 grind
def QeS:Bz Aa 428 (O3 338):=
 RR (kp:=JbZ) lF func428 (by kernel_rfl) (by decide) _ fun d r p x a g=>by
  unfold XT EQ.dec at a;split at a
  ·rename_i t h c b;cases b;simp only[Bv]at a;obtain⟨l,e,rfl⟩:=DV.1 a;refine⟨.agg [AL l,iD c],AY.agg (.cons (Ua e) (Gt.refl _)),0,?_⟩;rw[Jzb,mM _ _ _ rfl];simp[KT]
  ·grind
  ·rename_i b;cases b
  ·cases a
def Jqr:Bz Aa 430 (O3 342):=
 RR (kp:=JeW) lF func430 (by kernel_rfl) (by decide) _ fun d r p x a i=>by
  unfold XT EQ.dec at a;split at a
  ·rename_i t m j e;cases e;rw[Am (by decide)]at a;simp only[Bv]at a;obtain⟨l,k,rfl⟩:=DV.1 a;have b:=(i rfl).1;refine⟨.agg [AL l,iD j],AY.agg (.cons (Ua k) (Gt.refl _)),0,?_⟩;rw[Qax,mM _ _ _ rfl];by_cases c:(p.vars.length:Int)<=x.2
   ·have:=Jeo b c;simp[KT,Ya,this,JP,c]
   ·have g:x.2.toNat<p.vars.length:=by omega
    have:=JaF b g;by_cases h:JP p.vars[x.2.toNat]=0
    ·simp[KT,Ya,this,c,Zv _ _ b g,kD,h]
    ·simp[KT,Ya,this,c,Zv _ _ b g,kD,h]
  ·grind
  ·rename_i e;cases e
  ·cases a
theorem QbB : Bz Aa 429 (O3 340) :=
  RR (kp := Jjd) lF func429 (by kernel_rfl) (by decide) _ fun d r p x hr hn => by
    unfold XT EQ.dec at hr
    split at hr
    · grind
    · rename_i b he
      cases he
      simp only [Bv] at hr
      cases hr
      have h0 := (hn rfl).1
      refine ⟨_, AY.refl _, 0, ?_⟩
      rw [Qdr, mM _ _ _ rfl]
      by_cases h1 : (p.vars.length : Int) ≤ x.2
      · have := Jeo h0 h1
        simp [KT, WE, this, h1]
      · have h2 : x.2.toNat < p.vars.length := by omega
        have := JaF h0 h2
        by_cases h3 : p.vars[x.2.toNat] = 0
        · cases b <;> simp [KT, WE, this, h1, Zv _ _ h0 h2, h3]
        · by_cases h4 : p.vars[x.2.toNat] = 1
          · cases b <;> simp [KT, WE, this, h1, Zv _ _ h0 h2, h3, h4]
          · cases b <;> simp [KT, WE, this, h1, Zv _ _ h0 h2, h3, h4]
    · rename_i he; cases he
    · cases hr

def fS:Ac Cj:=(95,true,Ak ZC)::(133,true,Ak Ut)::(314,true,Ak U3)::(428,true,Ak (O3 338))::(429,true,Ak (O3 340))::(430,true,Ak (O3 342))::eI
def JiR:∀p∈fS,Ci Aa p:=AC (Bf Jhv)<|AC (Bf RC)<|AC (Bf Jv5)<|AC (Bf QeS)<|AC (Bf QbB)<|AC (Bf Jqr)<|JiI
def ZX:Tab:=⟨fS,BM,[]⟩
def JvZ:Bg Aa ZX:=CU JiR
def jK:Ac Nat:=[7,8]
def QcH(n:Nat)(g j:D)(h:Ae):AB Aa ZX jK n f277 [g,j] h=
(Ad (Ag .int .lss j (iD 0)) fun q=>
Az q
(none/-UNSUPPORTED panic-/)
(Ad (Bq .sl g) fun r=>
Ad (Dk .u64 r) fun u=>
Ad (Dk .u64 j) fun s=>
Ah (Ak U3 [u,s] h) fun o w=>
Ad (DN o 0) fun p=>
Ad (DN o 1) fun m=>
Ad (Ag .int .gtr p (.v (.int .u64 0))) fun v=>
Az v
(none/-UNSUPPORTED panic-/)
(Ad (Ag .int .gtr m (.v (.int .u64 9223372036854775807))) fun x=>
Az x
(none/-UNSUPPORTED panic-/)
(Ad (Dk .i64 m) fun b=>
Ah (NV 3 1 [(iD 0)] b b w) fun d i=>
Ah (QD 1 d g i) fun e k=>
Dy (BZ Aa ZX jK n f277 0 [d,e] k) (fun l c a=>
CW l 0
(some ((gD c 0),a))
(none)) (fun c a=>
some (.undef,a)))))):=by kernel_rfl
def Jer(n:Nat)(s0 a:D)(h:Ae):BK Aa ZX jK n f277 0 [s0,a] h=
(Ad (Bq .sl s0) fun g=>
Ad (Ag .int .lss a g) fun j=>
Az j
(Ad (IJ 1 s0 (some a) none) fun e=>
Ad (IJ 1 s0 none (some a)) fun b=>
Ah (QD 1 e b h) fun d i=>
Ad (Ag .int .add a d) fun c=>
some (.normal,[s0,c],i))
(some ((.exit 0),[s0,a],h))):=by kernel_rfl
def fM(ds:Ac D)(H:Ae):Af (D×Ae):=
 match ds with
 |[.hs id 1,.v (.int .i64 k)]=>
  match H[id]? with
  |some (.cells _ 1 [.v (.int .i64 c)])=>if 0<=k/\k<=4000000 then some (.hs H.length k.toNat,H++[.cells 3 1 (List.replicate k.toNat (iD c))])else none
  |_=>none
 |_=>none
def Jw4(n:Nat)(d:D):(List.replicate n [d]).flatten=List.replicate n d:=by simp
def Jbz{α:Type}(l:Ac α)(x:α):(l++[x])[l.length]? =some x:=by simp
def JjK{α:Type}(l:Ac α)(x y:α):(l++[x]).set l.length y=l++[y]:=by simp
def Jm3(m:Nat)(c:Int):(List.take m [iD c]).all Df=true:=Ew.2 fun x a=>by
 have:=qD a;simp_all
def JxK(H:Ae)(k:Nat)(a:k<=4000000):NV 3 1 [iD 0] (.v (.int .i64 (k:Int))) (.v (.int .i64 (k:Int))) H=some (.hs H.length k,H++[.cells 3 1 (List.replicate k (iD 0))]):=by
 simp only[NV];rw[Aw ⟨trivial,by omega,by omega,rfl⟩];simp only[NL,Jw4,Gg];simp
def Qev(H:Ae)(id:Nat)(t:AQ)(c:Int)(hid:H[id]? =some (.cells t 1 [.v (.int .i64 c)]))(k:Nat):QD 1 (.hs H.length k) (.hs id 1) (H++[.cells 3 1 (List.replicate k (iD 0))])=some (iD (min 1 k:Nat),H++[.cells 3 1 (List.replicate (min 1 k) (iD c)++List.replicate (k-min 1 k) (iD 0))]):=by
 have b:=(CV.1 hid).1;have a:(H++[HO.cells 3 1 (List.replicate k (iD 0))])[id]? =some (.cells t 1 [iD c]):=by grind
 simp only[QD,WQ,BR,Jbz,GV,a];simp only[Oh,Ze,BQ,and_self,Bv,QX,pF,BR,Nat.div_one,EE,rL,JO];rw[Aw ⟨by omega,trivial,Jm3 _ c⟩];simp only[CE,Hu,pU,JjK];congr 4
 ·rcases Nat.eq_zero_or_pos k with h|h
  ·subst h;rfl
  grind
 ·simp
def Jsn(H:Ae)(c:Int)(k fuel:Nat)(s:k<=4000000):∀(m n:Nat),k-n<=m->n<=k->(0<k->0<n)->∀N,m<N->
  DY (BK Aa ZX jK fuel f277 0) N [.hs H.length k,iD n] (H++[.cells 3 1 (List.replicate n (iD c)++List.replicate (k-n) (iD 0))])=some (.exit 0,[.hs H.length k,iD k],H++[.cells 3 1 (List.replicate k (iD c))]):=by
 intro m
 induction m with
 |zero=>
  intro n i a b N l;obtain⟨N,rfl⟩:∃m,N=m+1:=⟨N-1,by omega⟩;obtain rfl:n=k:=by omega
  refine PP ?_;rw[Jer];simp
 |succ m h=>
  intro n i a b N l;obtain⟨N,rfl⟩:∃m,N=m+1:=⟨N-1,by omega⟩;by_cases g:n=k
  ·grind
  ·have e:0<n:=b (by omega);have d:(n:Int)<k:=by omega
   have o:IJ 1 (.hs H.length k) (some (.v (.int .i64 (n:Int)))) none=some (.ht H.length n (k-n)):=by
    simp[IJ,Nu,KX,show¬n=0 from by omega,show n<=k from a]
   have r:IJ 1 (.hs H.length k) none (some (.v (.int .i64 (n:Int))))=some (.hs H.length n):=by
    simp[IJ,Nu,KX,show n<=k from a]
   have p:QD 1 (.ht H.length n (k-n)) (.hs H.length n) (H++[.cells 3 1 (List.replicate n (iD c)++List.replicate (k-n) (iD 0))])=
     some (iD (min n (k-n):Nat),H++[.cells 3 1 (List.replicate (n+min n (k-n)) (iD c)++List.replicate (k-(n+min n (k-n))) (iD 0))]):=by
    have j:(List.replicate n (iD c)++List.replicate (k-n) (iD 0)).length=k:=by simp;omega
    simp only[QD,WQ,BR,Jbz,GV,Ze,j];rw[Aw ⟨trivial,a⟩];have ht:(List.replicate n (iD c)++List.replicate (k-n) (iD 0)).take n=List.replicate n (iD c):=Ax (by simp);simp only[BR,ht,rL,Nat.div_one];rw[Aw ⟨by omega,by omega,by simp⟩];simp only[CE,Hu,pU,JjK];congr 3;rw[List.take_replicate,Nat.min_eq_left (Nat.min_le_left _ _),<-List.replicate_append_replicate,List.drop_append];simp only[rL,List.drop_replicate];rw[show n-(n+min n (k-n))=0 from by omega,show k-n-(n+min n (k-n)-n)=k-(n+min n (k-n))from by omega];simp
   have q:=Jj (n:Int) ((min n (k-n):Nat):Int) (by omega) (by omega);rw[IQ (s':=[.hs H.length k,iD ((n+min n (k-n):Nat):Int)]) (H':=H++[.cells 3 1 (List.replicate (n+min n (k-n)) (iD c)++List.replicate (k-(n+min n (k-n))) (iD 0))])]
   ·exact h (n+min n (k-n)) (by omega) (by omega) (fun _=>by omega) N (by omega)
   ·rw[Jer];simp_all
def Jwx:BN Aa 277 fM:=by
 refine Hx (kp:=jK) JvZ AX func277 (by kernel_rfl) (by decide) fun ds H d H' h=> ?_;unfold fM at h;split at h
 case h_2=>cases h
 rename_i id k;split at h
 case h_2=>cases h
 rename_i t c hid;split at h
 case isFalse=>cases h
 rename_i o;cases h;obtain⟨k,rfl⟩:=Fq o.1;have b:k<=4000000:=by omega
 refine⟨k+2,?_⟩;rw[QcH];have m:(IntKind.u64.wrap (1:Int))=1:=rfl;have g:(IntKind.u64.wrap (k:Int))=k:=gP _ (by omega) (by omega);have i:(IntKind.i64.wrap (k:Int))=k:=VK _ (by omega) (by omega);have l:=(CV.1 hid).1;have j:¬(k:Int)<0:=by omega
 have p:¬(9223372036854775807:Int)<k:=by omega
 have n:=JxK H k b;have e:=Qev H id t c hid k;simp only[WP,AU,JA,Bd,j,decide_false,BF,BC,Dk,m,g,Int.natCast_one];rw[Jcy _ _ (by omega) (by omega)];simp only[A7,DN,U6,BR,zO,Jkw,AU,tZ,Int.lt_irrefl,decide_false,Bd,BF,BC,p,i,n,e];have key:=Jsn H c k (k+2) b;have a:BZ Aa ZX jK (k+2) f277 0 [.hs H.length k,iD (min 1 k:Nat)] (H++[.cells 3 1 (List.replicate (min 1 k) (iD c)++List.replicate (k-min 1 k) (iD 0))])=some (.exit 0,[.hs H.length k,iD k],H++[.cells 3 1 (List.replicate k (iD c))]):=
  key k (min 1 k) (by omega) (by omega) (by omega) (k+2) (by omega)
 rw[a];simp
def Pr:Ac Cj:=(277,false,fM)::fS
def Jf2:∀p∈Pr,Ci Aa p:=AC (CB Jwx)<|JiR
def R6:Tab:=⟨Pr,BM,[]⟩
def Jzq:Bg Aa R6:=CU Jf2
def Jag:Ac Nat:=[]
def Qag(n:Nat)(L M g N:D)(h:Ae):AB Aa R6 Jag n f220 [L,M,g,N] h=
(Ah (BA 25 L h) fun P T=>
Ah (BA 44 M T) fun x i=>
Ad (Ph 338 (.agg [Aq,(iD 0)]) true g) fun O=>
Ad (DN O 1) fun S=>
Ad (DN O 0) fun Q=>
Az S
(Dw 338 [Aq,(iD 0)] 2 Q i fun R e=>
AV 0 none e R fun l=>
some (l,e))
(Ad (Ph 342 (.agg [Aq,(iD 0)]) true g) fun b=>
Ad (DN b 1) fun w=>
Ad (DN b 0) fun K=>
Az w
(Dw 342 [Aq,(iD 0)] 2 K i fun r c=>
Ad (AP 0 r) fun G=>
AV 0 none c G fun v=>
some (v,c))
(Ad (Ph 340 (.agg [(bD false)]) true g) fun d=>
Ad (DN d 1) fun F=>
Ad (DN d 0) fun J=>
Az F
(Dw 340 [(bD false)] 1 J i fun j a=>
AV 0 none a j fun m=>
Az m
(AV 1 none a x fun u=>
AV 1 none a P fun o=>
Ad (Bq .sl o) fun k=>
Ad (Ag .int .lss u k) fun E=>
Az E
(AV 1 none a P fun H=>
AV 1 none a x fun B=>
AV 1 none a x fun s=>
Ad (Ag .int .add s (iD 1)) fun y=>
Ad (IJ 1 H (some B) (some y)) fun z=>
some (z,a))
(some (Aq,a)))
(some (Aq,a)))
(Ah (DI 3 1 1 [(iD 0)] [(0,(iD 2))] i) fun I C=>
Ah (fM [I,N] C) fun q p=>
some (q,p))))):=by kernel_rfl
def IG(vs:Ac Int)(x:Nd)(n:Nat):EQ->Ac Int
 | .plain a _=>a
 | .array a _=>a
 | .scalar true=>if x.2.toNat<vs.length then[vs.getD x.2.toNat 0]else[]
 | .scalar false=>[]
 | .none=>List.replicate n 2
def jR:Ac D->Af D:=F4 Ef tH Db BV fun p x r n=>if Wj r x/\0<=n/\n<=4000000 then some (AL (IG p.vars x n.toNat r))else none
def Jyv(H:Ae)(n:Nat)(l:Ac Int):(l.map iD).mapM (Dh H n)=some (l.map iD):=by
 induction l with
 |nil=>rfl
 |cons a r b=>rw[EP,FZ,Ji H n _ rfl,b];rfl
def Qep(l:Ac Int):G9 1 l.length (l.map iD)=l.map IE:=by
 induction l with
 |nil=>rfl
 |cons a r b=>simp[G9,b,IE]
def Jzo(H:Ae)(n id:Nat)(t:AQ)(l:Ac Int)(h:H[id]? =some (.cells t 1 (l.map iD))):Dh H (n+1) (.hs id l.length)=some (AL l):=by
 simp only[Dh,h];rw[Aw (by simp),Q4 (by simp),Jyv,Dt,Qep];rfl
def Jq5(H:Ae)(id:Nat)(t:AQ)(l:Ac Int)(k:Nat)(a:k=l.length)(h:H[id]? =some (.cells t 1 (l.map iD))):BB (some (.hs id k,H))=some (AL l):=by
 subst a;exact Jzo H 8 id t l h
theorem JyM:Bz Aa 220 jR:=Jqq (kp:=Jag) Jzq AX func220 fun p x r n d h=>by
 split at h
 case isFalse=>cases h
 rename_i m;cases h;refine⟨0,?_⟩;show∃a,BB (AB _ _ _ _ _ [Be p,.agg (Cb x),r.enc,iD n] [])=some a/\_;rw[Qag];unfold AV Dw;have DK:∀l:Ac Int,(o:Af D)->o=some (AL l)->∃a,o=some a/\AY a (AL l):=fun l o h=>⟨_,h,AY.refl _⟩;cases r with
 |plain g s=>exact DK g _ (by simp[EQ.enc,Ph,DN,U6,BX,Gg,Bh,FI,D7])
 |array g s=>exact DK g _ (by simp[EQ.enc,Ph,DN,U6,BX,Gg,Bh,FI,D7])
 |scalar b=>
  cases b with
  |false=>
   refine⟨Aq,by simp[EQ.enc,Ph,DN,U6,BX,Gg,Bh,FI,D7],AY.nil 1⟩
  |true=>
   have u:=m.1 rfl;by_cases i:x.2.toNat<p.vars.length
   ·have q:x.2<(p.vars.length:Int):=by omega
    obtain⟨k,j⟩:=Fq u.1;have e:=Jj (k:Int) 1 (by omega) (by omega);have c:=JxD p.vars k (k+1) (by omega) (by omega);rw[Int.natCast_add,Int.natCast_one]at c;have w:(p.vars.take (k+1)).drop k=[p.vars.getD x.2.toNat 0]:=by
     rw[j,NL,G7 _ _ _ (by omega),Ij (by omega),pK (by simp;omega)]
    refine DK _ _ ?_;have v:(k:Int)<p.vars.length:=by omega
    simp[EQ.enc,Ph,DN,U6,BX,Gg,Bh,FI,D7,j,v,e,c];rw[w];simp[IG,i]
   ·have q:¬x.2<(p.vars.length:Int):=by omega
    refine⟨Aq,by simp[EQ.enc,Ph,DN,U6,BX,Gg,Bh,FI,D7,q],?_⟩;simp only[IG,Am i];exact AY.nil 1
 |none=>
  refine DK _ _ ?_;have e:∀H:Ae,DI 3 1 1 [iD 0] [(0,iD 2)] H=some (.hs H.length 1,H++[.cells 3 1 [iD 2]]):=fun H=>rfl;have c:fM [.hs 2 1,iD n] [.cells 25 3 [iD p.params,AL p.vars,A8 p.body],.cells 44 2 [iD x.1,iD x.2],.cells 3 1 [iD 2]]=
    some (.hs 3 n.toNat,[.cells 25 3 [iD p.params,AL p.vars,A8 p.body],.cells 44 2 [iD x.1,iD x.2],.cells 3 1 [iD 2],.cells 3 1 (List.replicate n.toNat (iD 2))]):=by
   simp[fM,m.2]
  simp[EQ.enc,Ph,DN,U6,e];rw[c];simp only[A7,IG];exact Jq5 _ 3 3 (List.replicate n.toNat 2) n.toNat (by simp) (by simp)
def pE:Ac Cj:=(220,true,Ak jR)::Pr
def Jjj:∀p∈pE,Ci Aa p:=AC (Bf JyM)<|Jf2
def vH:Ac Int->Ac EQ->Int->Af EQ
 |a::r,v::s,k=>if k=a then some v else vH r s k
 |_,_,_=>none
def Gx(t:Int):EQ:=(vH xJ XA t).getD .none
theorem Jcr:∀(b:Ac Int) (rs:Ac EQ) (k:Int),Vo b (rs.map EQ.enc) k=(vH b rs k).map EQ.enc
 |[],rs,k=>by cases rs<;>rfl
 |a::r,[],k=>rfl
 |a::r,v::s,k=>by
  simp only[EP,Vo,vH];split
  ·rfl
  ·exact Jcr r s k
def Jzp(t:Int)(H:Ae):O8 (.v .nilIface) false H OU (iD t)=some (Gx t).enc:=by
 have:=Jcr xJ XA t;simp only[O8,Ye,OU,BR,dK,this,Gx];cases vH xJ XA t<;>rfl
def YU(t:Int):Bool:=decide (t=23\/t=24)
def KA:Nat->Ac Int->Ac Nd->Int->Int
 |0,_,_,_=> -1
 |f+1,vs,l,i=>
  if Bc l i<0 then-1 else
  if KT vs (Bj l i).2 (Gx (Bj l i).1)= -1\/(IG vs (Bj l i) (AZ l i).length (Gx (Bj l i).1)).length≠(AZ l i).length then-1 else
  if(List.range (AZ l i).length).all (fun j=>decide (KA f vs l ((AZ l i).getD j 0)=(IG vs (Bj l i) (AZ l i).length (Gx (Bj l i).1)).getD j 0)&& !(YU (Bj l i).1&&decide (0<j)&& !decide ((Bj l ((AZ l i).getD j 0)).1=20)))
   then KT vs (Bj l i).2 (Gx (Bj l i).1)else-1
def Pi(p:Pg):Ac D:=[iD p.params,AL p.vars,A8 p.body,OU]
def bR:D->Af Pg
 | .agg [a,b,c,m]=>(fO m).bind fun _=>UJ [a,b,c]
 |_=>none
def JxM{α:Type}(A:EU α)(l:Ac α):(l.map A.enc).mapM A.dec=some l:=by
 induction l with
 |nil=>rfl
 |cons a r b=>rw[EP,FZ,A.back,b];rfl
def Qdy:fO OU=some ():=by
 have:(XA.map EQ.enc).mapM EQ.dec=some XA:=JxM Db XA;unfold fO OU;simp only[this,and_self,Bv]
def Cy:EU Pg:=⟨fun p=> .agg (Pi p),bR,fun p=>by simp[bR,Pi,Qdy,UJ],fun d p h=>by
 unfold bR at h;split at h
 ·obtain⟨_,a,h⟩:=Bi.1 h;refine AY.agg ?_;have:=SO h;simp only[DW,Pi]at this⊢;cases this with|cons c r=>cases r with|cons e r=>cases r with|cons b r=>exact .cons c (.cons e (.cons b (.cons (JhW a) .nil)))
 ·cases h⟩
def YH(p:Pg)(i:Int):Bool:=decide (0<=Bc p.body i/\p.body.length<=3000000)
def Yi(m:Nat):Ac D->Af D:=F2 Cy BV fun p i=>if YH p i&&decide (p.body.length<i.toNat+m)then some (iD (KA m p.vars p.body i))else none
def JyG(m:Nat):Ac Cj:=(168,true,Ak (Yi m))::pE
def U4(m:Nat):Tab:=⟨JyG m,BM,[]⟩
section
variable (m : Nat)
def Zr:Ac Nat:=[2,4,5,8,9,52,53,54]
def Jsa(n:Nat)(x0 O:D)(h:Ae):AB Aa (U4 m) Zr n f168 [x0,O] h=
(Ah (BA 260 x0 h) fun d U=>
Ad (AP 0 d) fun y2=>
Ad (AP 2 y2) fun y3=>
Ad (Ai none U y3) fun y4=>
Ad (BG 2 y4 O) fun y5=>
Ad (Ai (some 2) U y5) fun y6=>
Ah (BX 44 [(iD 0),(iD 0)] U) fun e h8=>
Ah (Bh 2 e y6 h8) fun y9 s=>
Ad (AP 0 d) fun ac=>
Ad (AP 2 ac) fun z=>
Ad (Ai none s z) fun B=>
Ah (Ak Rj [B,O] s) fun b a=>
Ad (AP 3 d) fun G=>
Ad (Ai none a G) fun Y=>
Ad (AP 0 e) fun W=>
Ad (Ai none a W) fun R=>
Ad (O8 (.v .nilIface) false a Y R) fun c=>
Ad (VX true .ifc .neq c (.v .nilIface)) fun y=>
Az y
(Ad (AP 0 d) fun M=>
Ad (Ai (some 3) a M) fun J=>
Ad (Ai (some 2) a e) fun X=>
Ah (XI Aa (U4 m) c "offshoot/kinds.kind" [J,X] a) fun u k=>
Ad (AP 0 d) fun ab=>
Ad (Ai (some 3) k ab) fun H=>
Ad (Ai (some 2) k e) fun v=>
Ad (Bq .sl b) fun aa=>
Ah (Ak jR [H,v,c,aa] k) fun q j=>
Ad (Ag .int .eql u (iD (-1))) fun K=>
Az K
(some ((iD (-1)),j))
(Ad (Bq .sl q) fun w=>
Ad (Bq .sl b) fun C=>
Ad (Ag .int .neq w C) fun x=>
Az x
(some ((iD (-1)),j))
(Ad (Bq .sl b) fun V=>
Dy (BZ Aa (U4 m) Zr n f168 0 [d,(iD 0),e,u,q,b,V,(iD 0)] j) (fun S l o=>
CW S 0
(some ((gD l 3),o))
(none)) (fun l o=>
some ((gD l 1),o)))))
(Ad (AP 0 d) fun T=>
Ad (Ai (some 3) a T) fun ad=>
Ad (Ai (some 2) a e) fun I=>
Ad (Bq .sl b) fun Q=>
Ah (Ak jR [ad,I,c,Q] a) fun r p=>
Ad (Ag .int .eql (iD 2) (iD (-1))) fun P=>
Az P
(some ((iD (-1)),p))
(Ad (Bq .sl r) fun F=>
Ad (Bq .sl b) fun E=>
Ad (Ag .int .neq F E) fun L=>
Az L
(some ((iD (-1)),p))
(Ad (Bq .sl b) fun Z=>
Dy (BZ Aa (U4 m) Zr n f168 0 [d,(iD 0),e,(iD 2),r,b,Z,(iD 0)] p) (fun N i g=>
CW N 0
(some ((gD i 3),g))
(none)) (fun i g=>
some ((gD i 1),g)))))):=by kernel_rfl
def Sh(n:Nat)(s0 j c i g e d a:D)(h:Ae):BK Aa (U4 m) Zr n f168 0 [s0,j,c,i,g,e,d,a] h=
(Ad (Ag .int .lss a d) fun N=>
Az N
(Ce 1 none h e a fun I=>
Ad (Ai (some 4) h s0) fun L=>
Ah (Ak (Yi m) [L,I] h) fun M b=>
Ce 1 none b g a fun K=>
Ad (Ag .int .neq M K) fun O=>
Az O
(some (.ret,[s0,(iD (-1)),c,i,g,e,d,a],b))
(AV 0 none b c fun r=>
Ad (Ag .int .eql r (iD 23)) fun J=>
Az J
(Ad (Ag .int .gtr a (iD 0)) fun s=>
Az s
(Ad (AP 0 s0) fun u=>
AV 2 none b u fun H=>
Ad (BG 2 H I) fun x=>
AV 0 none b x fun y=>
Ad (Ag .int .neq y (iD 20)) fun p=>
Az p
(some (.ret,[s0,(iD (-1)),c,i,g,e,d,a],b))
(Ad (Ag .int .add a (iD 1)) fun B=>
some (.normal,[s0,j,c,i,g,e,d,B],b)))
(Ad (Ag .int .add a (iD 1)) fun q=>
some (.normal,[s0,j,c,i,g,e,d,q],b)))
(AV 0 none b c fun C=>
Ad (Ag .int .eql C (iD 24)) fun z=>
Az z
(Ad (Ag .int .gtr a (iD 0)) fun G=>
Az G
(Ad (AP 0 s0) fun o=>
AV 2 none b o fun w=>
Ad (BG 2 w I) fun l=>
AV 0 none b l fun t=>
Ad (Ag .int .neq t (iD 20)) fun F=>
Az F
(some (.ret,[s0,(iD (-1)),c,i,g,e,d,a],b))
(Ad (Ag .int .add a (iD 1)) fun E=>
some (.normal,[s0,j,c,i,g,e,d,E],b)))
(Ad (Ag .int .add a (iD 1)) fun k=>
some (.normal,[s0,j,c,i,g,e,d,k],b)))
(Ad (Ag .int .add a (iD 1)) fun v=>
some (.normal,[s0,j,c,i,g,e,d,v],b)))))
(some ((.exit 0),[s0,j,c,i,g,e,d,a],h))):=by kernel_rfl
end
def JaT(x:Nd)(h:0<=ar x)(a:x.1≠1):0<=x.2/\x.2<=200:=by
 unfold ar at h;rw[Am a]at h;split at h
 ·omega
 ·rename_i b;refine⟨by omega,?_⟩;have c:(EF x.1 x.2).1<=200:=by
   unfold EF
   repeat' split
   all_goals simp
  omega
def JsK(x:Nd)(h:0<=ar x):Wj (Gx x.1) x:=by
 intro a;have b:x.1≠1:=by
  intro e;rw[e]at a;cases a
 have:=JaT x h b;omega
def JrO(m:Nat)(r:EQ)(g:r≠ .none)(p:Pg)(x:Nd)(e:Wj r x)(H:Ae):XI Aa (U4 m) r.enc "offshoot/kinds.kind" [Be p,.agg (Cb x)] H=some (iD (KT p.vars x.2 r),H):=by
 cases r with
 |none=>exact absurd rfl g
 |plain d c=>
  have a:WI Aa 338 "offshoot/kinds.kind" =some 428 :=by kernel_rfl
  simp only[XI,EQ.enc,a,BR];show Ak (O3 338) [.agg [AL d,iD c],Be p,.agg (Cb x)] H=_;rw[CP _ _ _ rfl];simp[O3,XT,EQ.dec,Wj,Da]
 |array d c=>
  have a:WI Aa 342 "offshoot/kinds.kind" =some 430 :=by kernel_rfl
  simp only[XI,EQ.enc,a,BR];show Ak (O3 342) [.agg [AL d,iD c],Be p,.agg (Cb x)] H=_;rw[CP _ _ _ rfl];have:=e rfl;simp[O3,XT,EQ.dec,Wj,Da,this]
 |scalar b=>
  have a:WI Aa 340 "offshoot/kinds.kind" =some 429 :=by kernel_rfl
  simp only[XI,EQ.enc,a,BR];show Ak (O3 340) [.agg [bD b],Be p,.agg (Cb x)] H=_;rw[CP _ _ _ rfl];have:=e rfl;simp[O3,XT,EQ.dec,Wj,Da,this]
def JpZ(p:Pg)(x:Nd)(r:EQ)(n:Nat)(b:Wj r x)(a:n<=4000000)(H:Ae):Ak jR [Be p,.agg (Cb x),r.enc,iD n] H=some (AL (IG p.vars x n r),H):=by
 rw[CP _ _ _ (by cases r<;>rfl)]
 have:jR [Be p,.agg (Cb x),r.enc,iD n]=_:=Qfa (A:=Ef) (B:=tH) (C:=Db) (E:=BV) _ p x r (n:Int)
 grind
def dA(l:Ac Nd)(i:Int)(h:l.length<=3000000)(H:Ae):Ak Rj [A8 l,iD i] H=some (AL (AZ l i),H):=by
 rw[CP _ _ _ rfl];simp[Rj,h]
def dG(r:EQ):VX true .ifc .neq r.enc (.v .nilIface)=some (bD (decide (r≠ .none))):=by
 cases r<;>rfl
def jS(l:Ac Nd)(k:Nat)(j:Nat)(a:j<(AZ l k).length):(k:Int)<(AZ l k)[j]/\0<=Bc l (AZ l k)[j]/\Bc l (AZ l k)[j]<=Bc l k/\(AZ l k)[j].toNat<l.length:=by
 have d:=Ih a;obtain⟨h,c,b,e⟩:=vD l k _ d;have:=aG l k h c b;rw[<-e]at this;have f:=F6 l _ this.2.2.1;omega
def Ud(m:Nat)(p:Pg)(x:Nd)(a w:Ac Int)(j:Nat):Bool:=decide (KA m p.vars p.body (a.getD j 0)=w.getD j 0)&& !(YU x.1&&decide (0<j)&& !decide ((Bj p.body (a.getD j 0)).1=20))
def Pm(p:Pg)(x:Nd):Ae:=[.cells 260 4 [iD p.params,AL p.vars,A8 p.body,OU],.cells 44 2 [iD x.1,iD x.2]]
def JsY(m N:Nat)(p:Pg)(x:Nd)(a w:Ac Int)(y:Int)
  (k:∀(j:Nat) (d:j<a.length),Ak (Yi m) [.agg [iD p.params,AL p.vars,A8 p.body,OU],iD a[j]] (Pm p x)=some (iD (KA m p.vars p.body a[j]),Pm p x))
  (r:∀(j:Nat) (d:j<a.length),0<=a[j]/\a[j].toNat<p.body.length) (F:a.length<=200) (H:a.length<N) (G:w.length=a.length):
  ((∀i,0<=i->i<a.length->Ud m p x a w i=true)/\BZ Aa (U4 m) Zr N f168 0 [.hp 0 0,iD 0,.hp 1 0,iD y,AL w,AL a,iD a.length,iD ((0:Nat):Int)] (Pm p x)=some (.exit 0,[.hp 0 0,iD 0,.hp 1 0,iD y,AL w,AL a,iD a.length,iD a.length],Pm p x))\/
  ∃i,0<=i/\i<a.length/\Ud m p x a w i=false/\(∀j,0<=j->j<i->Ud m p x a w j=true)/\BZ Aa (U4 m) Zr N f168 0 [.hp 0 0,iD 0,.hp 1 0,iD y,AL w,AL a,iD a.length,iD ((0:Nat):Int)] (Pm p x)=some (.ret,[.hp 0 0,iD (-1),.hp 1 0,iD y,AL w,AL a,iD a.length,iD i],Pm p x):=by
 have b:Ai (some 4) (Pm p x) (.hp 0 0)=some (.agg [iD p.params,AL p.vars,A8 p.body,OU]):=rfl;have c:Ai none (Pm p x) (.hp 1 0)=some (iD x.1):=rfl;have g:Ai none (Pm p x) (.hp 0 2)=some (A8 p.body):=rfl;have q:∀(j:Nat) (d:j<a.length) (o:j<w.length),Ud m p x a w j=(decide (KA m p.vars p.body a[j]=w[j])&& !(YU x.1&&decide (0<j)&& !decide ((p.body[a[j].toNat]'(r j d).2).1=20))):=by
  intro j d o;simp only[Ud,G7 _ _ _ d,G7 _ _ _ o,Bj,G7 _ _ _ (r j d).2]
 refine VO (fun j=>[.hp 0 0,iD 0,.hp 1 0,iD y,AL w,AL a,iD a.length,iD j]) (Pm p x) a.length (Ud m p x a w) (fun i=>(.ret,[.hp 0 0,iD (-1),.hp 1 0,iD y,AL w,AL a,iD a.length,iD i],Pm p x)) _ (fun i=>by intro e;cases e) (by intro e;cases e) 0 N (F9 _) (by omega) ?_ ?_ ?_
 ·intro j _ d hp;have o:j<w.length:=by omega
  have B:=Jj (j:Int) 1 (by omega) (by omega);have t:(j:Int)<a.length:=by omega
  obtain⟨D,C⟩:=r j d;rw[q j d o,DJ,F5]at hp;obtain⟨l,u⟩:=hp;rw[Sh];unfold AV Ce;by_cases n:x.1=23
  ·by_cases h:0<j
   ·have v:(p.body[a[j].toNat]).1=20:=by simpa[YU,n,h]using u
    simp[-Es,t,GY _ _ d,GY _ _ o,b,c,g,k j d,l,n,B,h,Yu _ _ D C,v]
   ·simp[-Es,t,GY _ _ d,GY _ _ o,b,c,k j d,l,n,B,h]
  ·by_cases s:x.1=24
   ·by_cases h:0<j
    ·have v:(p.body[a[j].toNat]).1=20:=by simpa[YU,s,h]using u
     simp[-Es,t,GY _ _ d,GY _ _ o,b,c,g,k j d,l,s,B,h,Yu _ _ D C,v]
    ·simp[-Es,t,GY _ _ d,GY _ _ o,b,c,k j d,l,s,B,h]
   ·simp[-Es,t,GY _ _ d,GY _ _ o,b,c,g,k j d,l,n,s,B]
 ·intro j _ d hp;have o:j<w.length:=by omega
  have t:(j:Int)<a.length:=by omega
  obtain⟨D,C⟩:=r j d;rw[q j d o]at hp;rw[Sh];unfold AV Ce;by_cases E:KA m p.vars p.body a[j]=w[j]
  ·simp only[E,decide_true,Bool.true_and,Ao,DJ,F5,zU,decide_eq_false_iff_not]at hp;obtain⟨⟨l,u⟩,z⟩:=hp;have h:0<j:=u;by_cases n:x.1=23
   ·simp[-Es,t,GY _ _ d,GY _ _ o,b,c,g,k j d,E,n,h,Yu _ _ D C,z]
   ·have s:x.1=24:=by simpa[YU,n]using l
    simp[-Es,t,GY _ _ d,GY _ _ o,b,c,g,k j d,E,s,h,Yu _ _ D C,z]
  ·simp[-Es,t,GY _ _ d,GY _ _ o,b,c,g,k j d,E]
 ·rw[Sh];unfold AV Ce;simp
theorem JhS:∀m:Nat,Bz Aa 168 (Yi m)
 |0=>⟨⟨_,func168,by decide,rfl⟩,fun ds d E=>by
   exfalso;unfold Yi F2 at E;split at E
   ·obtain⟨p,_,E⟩:=Bi.1 E;obtain⟨i,_,E⟩:=Bi.1 E;simp only at E;split at E
    ·rename_i P;simp only[YH,DJ,F5]at P;have:=(F6 p.body i P.1.1).2;omega
    ·cases E
   ·cases E⟩
 |m+1=>by
  have hT:Bg Aa (U4 m):=CU (AC (Bf (JhS m)) Jjj);refine GK (kp:=Zr) hT AX func168 fun p i d h=> ?_;split at h
  case isFalse=>cases h
  rename_i P;cases h;simp only[YH,DJ,F5]at P;obtain⟨⟨hE,l⟩,hm⟩:=P;obtain⟨h0,U⟩:=F6 p.body i hE;obtain⟨k,rfl⟩:=Fq h0;have G:k<p.body.length:=by simpa using U
  have W:0<=ar p.body[k]:=by have:=gU p.body k hE;rwa[XN _ _ G]at this
  have hn:=JsK p.body[k] W;have V:Bj p.body k=p.body[k]:=by unfold Bj;rw[NL,G7 _ _ _ G]
  have Y:=FJ p.body k;have R:∀(j:Nat) (Q:j<(AZ p.body k).length),0<=(AZ p.body k)[j]/\(AZ p.body k)[j].toNat<p.body.length:=fun j Q=>by
   have:=jS p.body k j Q;exact⟨by omega,this.2.2.2⟩
  have X:∀(j:Nat) (Q:j<(AZ p.body k).length),Ak (Yi m) [.agg [iD p.params,AL p.vars,A8 p.body,OU],iD (AZ p.body k)[j]] (Pm p p.body[k])=some (iD (KA m p.vars p.body (AZ p.body k)[j]),Pm p p.body[k]):=by
   intro j Q;have hf:=jS p.body k j Q;rw[CP _ _ _ rfl];have:Yi m [.agg [iD p.params,AL p.vars,A8 p.body,OU],iD (AZ p.body k)[j]]=_:=JU (A:=Cy) (B:=BV) _ p (AZ p.body k)[j];rw[this,Aw]
   ·rfl
   ·simp only[YH,DJ,F5];refine⟨⟨hf.2.1,l⟩,?_⟩;have:=hf.1;simp only[NL]at hm;omega
  have C:KA (m+1) p.vars p.body k=if KT p.vars p.body[k].2 (Gx p.body[k].1)= -1\/(IG p.vars p.body[k] (AZ p.body k).length (Gx p.body[k].1)).length≠(AZ p.body k).length then-1 else
    if(List.range (AZ p.body k).length).all (Ud m p p.body[k] (AZ p.body k) (IG p.vars p.body[k] (AZ p.body k).length (Gx p.body[k].1)))then KT p.vars p.body[k].2 (Gx p.body[k].1)else-1:=by
   rw[KA,Am (by omega)];simp only[V];rfl
  have g:=fun H=>JpZ p p.body[k] (Gx p.body[k].1) (AZ p.body k).length hn (by omega) H;have y:=fun(O:Gx p.body[k].1≠ .none) H=>JrO m (Gx p.body[k].1) O p p.body[k] hn H;have w:=JsY m ((AZ p.body k).length+1) p p.body[k] (AZ p.body k) (IG p.vars p.body[k] (AZ p.body k).length (Gx p.body[k].1));refine⟨(AZ p.body k).length+1,_,?_,AY.refl _⟩;show BB (AB _ _ _ _ _ [.agg (Pi p),iD (k:Int)] [])=_;rw[Jsa,C];rw[mM _ _ _ rfl];have M:∀o:HO,BX 44 [iD 0,iD 0] [o]=some (.hp 1 0,[o,.cells 44 2 [iD 0,iD 0]]):=fun o=>rfl;have J:∀o:HO,Bh 2 (.hp 1 0) (.agg (Cb p.body[k])) [o,.cells 44 2 [iD 0,iD 0]]=some (.v undef,[o,.cells 44 2 [iD p.body[k].1,iD p.body[k].2]]):=fun o=>rfl;have L:D.agg [iD p.params,AL p.vars,A8 p.body]=Be p:=rfl;have N:D.agg [iD p.body[k].1,iD p.body[k].2]= .agg (Cb p.body[k]):=rfl;have c:=Jzp p.body[k].1;have S:∀a b:Nat,((a:Int)=b)=(a=b):=fun a b=>by simp only[eq_iff_iff];omega
  generalize Gx p.body[k].1=r at hn C g y w c⊢;have s:(∀i,0<=i->i<(AZ p.body k).length->Ud m p p.body[k] (AZ p.body k) (IG p.vars p.body[k] (AZ p.body k).length r) i=true)->(List.range (AZ p.body k).length).all (Ud m p p.body[k] (AZ p.body k) (IG p.vars p.body[k] (AZ p.body k).length r))=true:=fun q=>by
   rw[Ew];intro i hi;exact q i (F9 _) (by simpa using hi)
  have u:∀i,i<(AZ p.body k).length->Ud m p p.body[k] (AZ p.body k) (IG p.vars p.body[k] (AZ p.body k).length r) i=false->(List.range (AZ p.body k).length).all (Ud m p p.body[k] (AZ p.body k) (IG p.vars p.body[k] (AZ p.body k).length r))=false:=fun i hi q=>by
   rw[Bool.eq_false_iff];intro e;rw[Ew]at e;have:=e i (by simpa using hi);rw[q]at this;cases this
  have O:=fun T z=>w T X R Y (by omega) z;simp only[Pm,Td]at O;generalize IG p.vars p.body[k] (AZ p.body k).length r=ww at s u g O⊢;by_cases v:r= .none
  ·subst v;have h2:KT p.vars p.body[k].2 EQ.none=2:=rfl;by_cases z:ww.length=(AZ p.body k).length
   ·rcases O 2 z with⟨I,K⟩|⟨i,_,I,K,q3,Z⟩
    ·have n:=s I;simp[Pi,Oi _ _ G,M,J,dA _ _ l,c,dG,L,N,h2,g,z,K,n]
    ·have n:=u i I K;simp[Pi,Oi _ _ G,M,J,dA _ _ l,c,dG,L,N,h2,g,z,Z,n]
   ·simp[Pi,Oi _ _ G,M,J,dA _ _ l,c,dG,L,N,h2,g,z,S]
  ·have x:=y v;generalize KT p.vars p.body[k].2 r=T at x⊢;by_cases F:T= -1
   ·simp[Pi,Oi _ _ G,M,J,dA _ _ l,c,dG,L,N,g,x,v,F]
   ·by_cases z:ww.length=(AZ p.body k).length
    ·rcases O T z with⟨I,K⟩|⟨i,_,I,K,q3,Z⟩
     ·have n:=s I;simp[Pi,Oi _ _ G,M,J,dA _ _ l,c,dG,L,N,g,x,v,F,z,K,n]
     ·have n:=u i I K;simp[Pi,Oi _ _ G,M,J,dA _ _ l,c,dG,L,N,g,x,v,F,z,Z,n]
    ·simp[Pi,Oi _ _ G,M,J,dA _ _ l,c,dG,L,N,g,x,v,F,z,S]
section
set_option linter.unusedSimpArgs false
end
section
variable (m : Nat)
end
section
variable (m : Nat)
end
def Pc(t:AQ)(a:Int)(H:Ae):DI t 1 1 [iD 0] [(0,iD a)] H=some (.hs H.length 1,H++[.cells t 1 [iD a]]):=rfl
def Vc(t:AQ)(a b:Int)(H:Ae):DI t 1 2 [iD 0] [(0,iD a),(1,iD b)] H=some (.hs H.length 2,H++[.cells t 1 [iD a,iD b]]):=rfl
def IL(t:AQ)(a b c:Int)(H:Ae):DI t 1 3 [iD 0] [(0,iD a),(1,iD b),(2,iD c)] H=some (.hs H.length 3,H++[.cells t 1 [iD a,iD b,iD c]]):=rfl
section
variable (m : Nat) (p : Pg) (ks : Ac Int) (hp : p.body.length ≤ 3000000) (hks : ks.length ≤ 3000000) (hm : 0 < m) (hk : ∀ k ∈ ks, p.body.length < k.toNat + m)
include hp hks hm hk
end
def Wc(l:Ac Nd)(i:Int)(h:l.length<=3000000)(H:Ae):Ak VQ [A8 l,iD i] H=some (iD (Bc l i),H):=by
 rw[CP _ _ _ rfl];simp[VQ,h]
section
set_option maxHeartbeats 1000000
end
section
set_option maxHeartbeats 1000000
end
section
set_option maxHeartbeats 1000000
end
def SK(p:Pg)(i:Int):Int:=KA (p.body.length+1) p.vars p.body i
def YA:Ac D->Af D:=F2 Ef BV fun p i=>if p.body.length<=3000000 then some (iD (SK p i))else none
theorem Jd5:∀(a b:Nat) (vs:Ac Int) (l:Ac Nd) (i:Int),0<=Bc l i->l.length<i.toNat+a->l.length<i.toNat+b->KA a vs l i=KA b vs l i
 |0,b,vs,l,i,h,e,g=>by have:=(F6 l i h).2;omega
 |a,0,vs,l,i,h,e,g=>by have:=(F6 l i h).2;omega
 |a+1,b+1,vs,l,i,h,e,g=>by
  obtain⟨o,n⟩:=F6 l i h;obtain⟨k,rfl⟩:=Fq o;simp only[NL]at e g;have m:∀j,j<(AZ l k).length->KA a vs l ((AZ l k).getD j 0)=KA b vs l ((AZ l k).getD j 0):=fun j c=>by
   rw[G7 _ _ _ c];have:=jS l k j c;exact Jd5 a b vs l _ this.2.1 (by omega) (by omega)
  have d:∀f:Nat->Bool,((List.range (AZ l k).length).all fun j=>decide (KA a vs l ((AZ l k).getD j 0)=(IG vs (Bj l k) (AZ l k).length (Gx (Bj l k).1)).getD j 0)&&f j)=((List.range (AZ l k).length).all fun j=>decide (KA b vs l ((AZ l k).getD j 0)=(IG vs (Bj l k) (AZ l k).length (Gx (Bj l k).1)).getD j 0)&&f j):=fun f=>by
   rw[rI];simp only[Ew,oZ];constructor
   ·intro q j c;have:=q j c;rwa[m j c]at this
   ·intro q j c;have:=q j c;rwa[m j c]
  rw[KA,KA,d]
def lJ:Ac D->Af D:=F2 Cy BV fun p i=>if YH p i then some (iD (SK p i))else none
def Jv2:Bz Aa 168 lJ:=Jor JhS fun ds d a=>by
 unfold lJ F2 at a;split at a
 ·obtain⟨p,c,a⟩:=Bi.1 a;obtain⟨i,b,a⟩:=Bi.1 a;simp only at a;split at a
  ·rename_i hp;cases a;refine⟨p.body.length+1,?_⟩;simp only[Yi,F2,c,b,BR];rw[Aw]
   ·rfl
   ·simp only[hp,Bool.true_and,F5];omega
  ·cases a
 ·cases a
def T5:Ac Cj:=(168,true,Ak lJ)::pE
def vL:∀p∈T5,Ci Aa p:=AC (Bf Jv2)<|Jjj
def Z3:Tab:=⟨T5,BM,[]⟩
def JyI:Bg Aa Z3:=CU vL
def JeL:Ac Nat:=[]
def Jmv(n:Nat)(i c:D)(h:Ae):AB Aa Z3 JeL n f96 [i,c] h=
(Ah (BA 25 i h) fun g j=>
Ad (AP 2 g) fun q=>
Ad (Ai none j q) fun o=>
Ah (Ak VQ [o,c] j) fun p e=>
Ad (Ag .int .lss p (iD 0)) fun k=>
Az k
(some ((iD (-1)),e))
(Ad (Ai (some 3) e g) fun m=>
Ah (Ak AT [] e) fun r l=>
Ad (CY [(0,3),(3,1)] [(iD 0),Aq,Aq,(.v (.map none))] [(0,m),(1,r)]) fun a=>
Ah (Ak lJ [a,c] l) fun d b=>
some (d,b))):=by kernel_rfl
def QaP{p:Pg}{i:Int}(h:Bc p.body i<0):SK p i= -1:=by rw[SK,KA,Aw h]
def Jr4(H:Ae):Ak AT [] H=some (OU,H):=by rw[CP _ _ _ rfl];rfl
def Jye(p:Pg)(i:Int)(h:YH p i=true)(H:Ae):Ak lJ [.agg (Pi p),iD i] H=some (iD (SK p i),H):=by
 rw[CP _ _ _ rfl];have:lJ [.agg (Pi p),iD i]=_:=JU (A:=Cy) (B:=BV) _ p i;rw[this,Aw h];rfl
def nL:Bz Aa 96 YA:=GK (kp:=JeL) JyI AX func96 fun p i d h=>by
 split at h
 case isFalse=>cases h
 rename_i hp;cases h;refine⟨0,_,?_,AY.refl _⟩;show BB (AB _ _ _ _ _ [Be p,iD i] [])=_;rw[Jmv];by_cases a:Bc p.body i<0
 ·simp[Wc p.body i hp,a,QaP a]
 ·have c:CY [(0,3),(3,1)] [iD 0,Aq,Aq,.v (.map none)] [(0,.agg [iD p.params,AL p.vars,A8 p.body]),(1,OU)]=some (.agg (Pi p)):=rfl;have b:YH p i=true:=by simp only[YH,F5];omega
  simp[Wc p.body i hp,a,Jr4,c,Jye p i b]
def M3:Ac Cj:=(96,true,Ak YA)::T5
def Jfx:∀p∈M3,Ci Aa p:=AC (Bf nL)<|vL
def Vv:Tab:=⟨M3,BM,[]⟩
def Jnq:Bg Aa Vv:=CU Jfx
structure Hr(P:Program)(f:FuncId)(F:List D->Option D):Prop where
 body:∃fn,P.funcs[f]? =some fn∧fn.name≠ "runtime.NumGoroutine" ∧fn.body.isSome=true
 calls:∀ds d,F ds=some d->∀(S:Nat->Prop) (vs:List Value) (w:World),(∀k,S k->k<w.heap.size)->Au S [] w vs ds->
  Calls P f vs.toArray w fun e w'=>∃v,e= .returned v/\Rep (fun k=>w.heap.size<=k/\k<w'.heap.size) [] w' v d/\Below w.heap.size w w'
def DX(F:Ac D->Af D)(ds:Ac D)(H:Ae):Af (D×Ae):=
 match Fj ds with
 |true=>(F ds).map fun d=>(d,H)
 |false=>(ds.mapM (Dh H 9)).bind fun a=>(F a).map fun d=>(d,H)
def JtX{P:Aj}{f:CG}{F:Ac D->Af D}(h:Hr P f F):BN P f (DX F):=by
 refine⟨h.body,fun ds H d H' b B S L vs w q u=> ?_⟩;have DK:∀(g:Nat->Prop) (a:Ac D),(∀k,g k->k<w.heap.size)->Au g [] w vs a->(F a).map (fun d=>(d,H))=some (d,H')->Calls P f vs.toArray w fun e c=>∃v r t,e= .returned v/\Rep r t c v d/\BD B r t c H'/\Later B S r L t w c:=by
  intro g a G l C;obtain⟨y,o,e⟩:=DV.1 C;cases e;refine(h.calls a _ o g vs w G l).mono ?_;rintro e c ⟨v,rfl,m,s⟩;obtain⟨E,z⟩:=q.call s;exact⟨v,_,L,rfl,Rep.kept (Kept.refl _ c) (fun k n=> .inr n) (fun i p A=>by simp at A) _ _ m,E,z⟩
 unfold DX at b;split at b
 ·rename_i hp;exact DK S ds q.small (ZI ds vs hp u) b
 ·obtain⟨a,j,b⟩:=Bi.1 b;exact DK _ a (fun k n=>n) (SH (fun d y x m s=>Ji4 q 9 d y x m s) ds a vs j u) b
def Jl9(F:Ac D->Af D):Hk (DX F):=by
 intro ds H d H' h;cases hp:Fj ds with
 |true=>
  unfold DX at h⊢;rw[hp]at h⊢;simp only at h⊢;obtain⟨f,a,e⟩:=DV.1 h;cases e;exact⟨rfl,fun t=>by rw[a];rfl,fun _ g=>by rw[a];rfl⟩
 |false=>
  unfold DX at h⊢;rw[hp]at h⊢;simp only at h⊢;obtain⟨c,b,h⟩:=Bi.1 h;obtain⟨f,a,e⟩:=DV.1 h;cases e;exact⟨rfl,fun t=>by rw[B6 (cP H t 9) ds c b,BR,a];rfl,fun h=>by cases h⟩
def Jy{P:Aj}{f:CG}{F:Ac D->Af D}(h:Hr P f F):Ci P (f,true,DX F):=⟨JtX h,fun _=>Jl9 F⟩
def V9(F:Ac D->Af D)(ds:Ac D)(H:Ae)(h:Fj ds=true):DX F ds H=(F ds).map fun d=>(d,H):=by unfold DX;rw[h]
def KM(F:Ac D->Af D)(ds a:Ac D)(H:Ae)(h:Fj ds=false)(b:ds.mapM (Dh H 9)=some a):DX F ds H=(F a).map fun d=>(d,H):=by unfold DX;rw[h];simp only[b];rfl
def Jj9:Hr Aa 328 Vt:=by
 refine⟨⟨_,func328,by decide,rfl⟩,fun ds d a S vs W n j=> ?_⟩;unfold Vt at a;split at a
 ·rename_i p q;rcases c:Gv p with _|l
  ·rw[c]at a;cases a
  rw[c,BR]at a;rcases b:Dz q with _|i
  ·rw[b]at a;cases a
  rw[b,BR]at a;split at a;rotate_left
  ·cases a
  rename_i G;cases a;simp only[Au]at j;obtain⟨g,t,rfl,s,⟨m,w,rfl,k,rfl⟩⟩:=j;have h:=(Nq c s).mono n;obtain rfl:=Vz b k;refine(JcX l i g W h (by omega)).mono ?_;rintro e v ⟨u,rfl,o,r⟩;exact⟨u,rfl,fP o,r⟩
 ·cases a
def JwX:Hr Aa 219 Rj:=by
 refine⟨⟨_,func219,by decide,rfl⟩,fun ds d a S vs W n j=> ?_⟩;unfold Rj at a;split at a
 ·rename_i p q;rcases c:Gv p with _|l
  ·rw[c]at a;cases a
  rw[c,BR]at a;rcases b:Dz q with _|i
  ·rw[b]at a;cases a
  rw[b,BR]at a;split at a;rotate_left
  ·cases a
  rename_i G;cases a;simp only[Au]at j;obtain⟨g,t,rfl,s,⟨m,w,rfl,k,rfl⟩⟩:=j;have h:=(Nq c s).mono n;obtain rfl:=Vz b k;refine(nT l i g W h (by omega)).mono ?_;rintro e v ⟨u,rfl,o,r⟩;exact⟨u,rfl,lN o,r⟩
 ·cases a
def JsN:Hr Aa 293 PM:=by
 refine⟨⟨_,func293,by decide,rfl⟩,fun ds d a S vs W o n=> ?_⟩;unfold PM at a;split at a
 ·rename_i w x t;rcases g:Gv w with _|l
  ·rw[g]at a;cases a
  rw[g,BR]at a;rcases c:Dz x with _|i
  ·rw[c]at a;cases a
  rw[c,BR]at a;rcases b:Gv t with _|r
  ·rw[b]at a;cases a
  rw[b,BR]at a;split at a;rotate_left
  ·cases a
  rename_i G;cases a;simp only[Au]at n;obtain⟨h,B,rfl,z,⟨s,D,rfl,q,⟨m,t2,rfl,p,rfl⟩⟩⟩:=n;have k:=(Nq g z).mono o;obtain rfl:=Vz c q;have j:=(Nq b p).mono o;refine(tO l r i h m W k j (by omega) (by omega)).mono ?_;rintro e C ⟨u,rfl,v,y⟩;exact⟨u,rfl,fP v,y⟩
 ·cases a
def At(γ:Nat->Nat)(c i:Nat)(o:HO)(H:Ae):Prop:=γ i=c/\H[i]? =some o
def FB(γ:Nat->Nat)(n c:Nat):Nat->Nat:=fun i=>if i=n then c else γ i
section
variable {γ : Nat → Nat} {c c' i j : Nat} {o o' : HO} {H H' : Ae}
def At.lt(h:At γ c i o H):i<H.length:=(CV.1 h.2).1
def At.put(h:At γ c i o H)(a:HO):At γ c i a (H.set i a):=⟨h.1,Hw h.lt⟩
def At.set(h:At γ c i o H)(j:Nat)(a:HO)(b:γ j≠c):At γ c i o (H.set j a):=⟨h.1,by rw[Ee (fun e=>b (by rw[e];exact h.1))];exact h.2⟩
def At.app(h:At γ c i o H)(a:Nat)(t:Ae):At (FB γ H.length a) c i o (H++t):=by
 have:=h.lt;exact⟨by unfold FB;rw[Am (by omega)];exact h.1,by rw[Ii this];exact h.2⟩
def At.new(γ:Nat->Nat)(c:Nat)(o:HO)(H:Ae):At (FB γ H.length c) c H.length o (H++[o]):=⟨by unfold FB;rw[Aw rfl],by simp⟩
def JyB(γ:Nat->Nat){n i:Nat}(c:Nat)(h:i≠n):FB γ n c i=γ i:=by unfold FB;rw[Am h]
end
def DZ(γ γ':Nat->Nat)(c:Nat)(H H':Ae):Prop:=H.length<=H'.length/\∀a i o,a≠c->At γ a i o H->At γ' a i o H'
def DZ.refl(γ:Nat->Nat)(c:Nat)(H:Ae):DZ γ γ c H H:=⟨BQ _,fun _ _ _ _ h=>h⟩
def DZ.trans{γ γ' γ'':Nat->Nat}{c:Nat}{H H' a:Ae}(h:DZ γ γ' c H H')(k:DZ γ' γ'' c H' a):DZ γ γ'' c H a:=⟨Ig h.1 k.1,fun b i o d e=>k.2 b i o d (h.2 b i o d e)⟩
def DZ.put{γ:Nat->Nat}{c i:Nat}{o:HO}{H:Ae}(h:At γ c i o H)(a:HO):DZ γ γ c H (H.set i a):=⟨by simp,fun d j f e b=>b.set i a (by rw[h.1];omega)⟩
def DZ.app(γ:Nat->Nat)(c:Nat)(H t:Ae):DZ γ (FB γ H.length c) c H (H++t):=⟨by simp,fun d i o b a=>a.app c t⟩
def Eh(γ:Nat->Nat)(c:Nat)(e:AQ)(sz:Nat)(d:D)(n:Nat)(cs:Ac D)(H:Ae):Prop:=
 cs.length=n*sz/\((d=Aq/\n=0)\/∃i all,d= .hs i n/\At γ c i (.cells e sz all) H/\all.take (n*sz)=cs/\n*sz<=all.length)
def Ff(γ:Nat->Nat)(c:Nat)(e:AQ)(sz:Nat)(d:D)(n:Nat)(cs:Ac D)(H:Ae):Prop:=
 cs.length=n*sz/\((d=Aq/\n=0)\/∃i,d= .hs i n/\At γ c i (.cells e sz cs) H)
section
variable {γ γ' : Nat → Nat} {c c' sz n : Nat} {e : AQ} {d : D} {cs : Ac D} {H H' : Ae}
def Ff.row(h:Ff γ c e sz d n cs H):Eh γ c e sz d n cs H:=by
 obtain⟨a,h|⟨i,f,b⟩⟩:=h
 ·exact⟨a,.inl h⟩
 ·exact⟨a,.inr ⟨i,cs,f,b,Q4 (by omega),by omega⟩⟩
def Ff.nil(γ:Nat->Nat)(c:Nat)(e:AQ)(sz:Nat)(H:Ae):Ff γ c e sz Aq 0 [] H:=⟨by simp,.inl ⟨rfl,rfl⟩⟩
def Ff.stay(h:Ff γ c e sz d n cs H)(hs:DZ γ γ' c' H H')(g:c≠c'):Ff γ' c e sz d n cs H':=by
 obtain⟨a,h|⟨i,f,b⟩⟩:=h
 ·exact⟨a,.inl h⟩
 ·exact⟨a,.inr ⟨i,f,hs.2 c i _ g b⟩⟩
def Ff.app(h:Ff γ c e sz d n cs H)(b:Nat)(t:Ae):Ff (FB γ H.length b) c e sz d n cs (H++t):=by
 obtain⟨a,h|⟨i,g,f⟩⟩:=h
 ·exact⟨a,.inl h⟩
 ·exact⟨a,.inr ⟨i,g,f.app b t⟩⟩
def Eh.nil(γ:Nat->Nat)(c:Nat)(e:AQ)(sz:Nat)(H:Ae):Eh γ c e sz Aq 0 [] H:=⟨by simp,.inl ⟨rfl,rfl⟩⟩
def Eh.stay(h:Eh γ c e sz d n cs H)(hs:DZ γ γ' c' H H')(k:c≠c'):Eh γ' c e sz d n cs H':=by
 obtain⟨a,h|⟨i,all,j,g,f,b⟩⟩:=h
 ·exact⟨a,.inl h⟩
 ·exact⟨a,.inr ⟨i,all,j,hs.2 c i _ k g,f,b⟩⟩
def Eh.len(h:Eh γ c e sz d n cs H):Bq .sl d=some (iD n):=by
 obtain⟨g,⟨rfl,rfl⟩|⟨i,all,rfl,f,b,a⟩⟩:=h
 ·rfl
 ·rfl
def Eh.idx(h:Eh γ c e sz d n cs H){j:Nat}(g:j<n):∃i all,d= .hs i n/\BG sz d (iD j)=some (.hp i (j*sz))/\At γ c i (.cells e sz all) H/\all.take (n*sz)=cs/\n*sz<=all.length:=by
 obtain⟨k,⟨rfl,rfl⟩|⟨i,all,rfl,f,b,a⟩⟩:=h
 ·omega
 ·exact⟨i,all,rfl,by simp[BG,g],f,b,a⟩
def JiW{all cs:Ac D}{m k:Nat}(h:all.take m=cs)(a:k<cs.length):all[k]? =cs[k]? :=by grind
def Eh.load(h:Eh γ c e sz d n cs H){j k:Nat}(f:j<n)(r:k<sz):∃p,BG sz d (iD j)=some p/\∀q,AP k p=some q->Ai none H q=cs[j*sz+k]? :=by
 obtain⟨i,all,_,m,l,g,o⟩:=h.idx f;have a:j*sz+k<cs.length:=by
  rw[h.1]
  calc j*sz+k<j*sz+sz:=by omega
   _=(j+1)*sz:=by rw[zQ]
   _<=n*sz:=zX _ f
 refine⟨_,m,fun q b=> ?_⟩;simp only[AP,CE]at b;subst b;simp only[Ai,l.2,MW,pM,MZ];exact JiW g a
def Eh.load1(h:Eh γ c e 1 d n cs H){j:Nat}(a:j<n):∃p,BG 1 d (iD j)=some p/\Ai none H p=cs[j]? :=by
 obtain⟨i,all,_,f,b,g,l⟩:=h.idx a;refine⟨_,f,?_⟩;have k:=h.1;simp only[Ai,b.2,MW,pM,Ze,MZ]
 grind
def Eh.pushX(h:Eh γ c e sz d n cs H)(t:0<sz){new:Ac D}(l:new.length=sz)(y:new.all Df=true)(B:(n+1)*sz<=4000000):
  ∃p H' γ',D5 e sz d (.hs H.length 1) (H++[.cells e sz new])=some (p,H')/\Ff γ' c e sz p (n+1) (cs++new) H'/\DZ γ γ' c H H':=by
 have a:GV sz (H++[.cells e sz new]) (.hs H.length 1)=some new:=by
  simp only[GV,rN]
  grind
 have A:¬(sz=0\/(!new.all Df)=true):=by grind
 have k:new.length/sz=1:=by simp_all
 obtain⟨q,⟨rfl,rfl⟩|⟨i,all,rfl,b,m,z⟩⟩:=h
 ·have g:cs=[]:=pS (by simpa using q);subst g;refine⟨.hs (H.length+1) 1,H++[.cells e sz new]++[.cells e sz new],FB (FB γ H.length c) (H.length+1) c,?_,⟨by simp[l],.inr ⟨H.length+1,rfl,?_⟩⟩,?_⟩
  ·simp only[D5,a,BR,KW]
   grind
  ·have:=At.new (FB γ H.length c) c (.cells e sz new) (H++[.cells e sz new]);simpa using this
  ·have u:=DZ.app γ c H [.cells e sz new];have b:=DZ.app (FB γ H.length c) c (H++[.cells e sz new]) [.cells e sz new];have m:=u.trans b;simpa using m
 ·have f:=b.lt;have s:(H++[HO.cells e sz new])[i]? =some (.cells e sz all):=by rw[Ii f];exact b.2
  have j:n*sz+sz=(n+1)*sz:=by rw[zQ]
  refine⟨.hs (H.length+1) (n+1),(H++[HO.cells e sz new]).set i .dead++[.cells e sz (cs++new)],FB (FB γ H.length c) (H.length+1) c,?_,⟨by simp[q,l,j],.inr ⟨H.length+1,rfl,?_⟩⟩,?_⟩
  ·simp only[D5,a,BR,KW]
   grind
  ·have:=At.new (FB γ H.length c) c (.cells e sz (cs++new)) ((H++[HO.cells e sz new]).set i .dead);simpa using this
  ·have v:(FB γ H.length c) i=c:=by rw[JyB _ _ (by omega)];exact b.1
   have r:=DZ.app γ c H [.cells e sz new];have w:DZ (FB γ H.length c) (FB γ H.length c) c (H++[.cells e sz new]) ((H++[HO.cells e sz new]).set i .dead):=DZ.put (o:= .cells e sz all) ⟨v,s⟩ .dead;have x:=DZ.app (FB γ H.length c) c ((H++[HO.cells e sz new]).set i .dead) [.cells e sz (cs++new)];have:=(r.trans w).trans x;simpa using this
def Eh.push(h:Eh γ c e sz d n cs H)(b:0<sz){new:Ac D}(i:new.length=sz)(f:new.all Df=true)(l:(n+1)*sz<=4000000):
  ∃a H' γ',D5 e sz d (.hs H.length 1) (H++[.cells e sz new])=some (a,H')/\Eh γ' c e sz a (n+1) (cs++new) H'/\DZ γ γ' c H H':=by
 obtain⟨a,H',γ',k,j,g⟩:=h.pushX b i f l;exact⟨a,H',γ',k,j.row,g⟩
def Xf(e:AQ){sz:Nat}{z new:Ac D}{x:D}(u:D7 x=some new)(g:new.length=sz)(f:z.length=sz)(o:0<sz)(j:new.all Df=true)(H:Ae):DI e sz 1 z [(0,x)] H=some (.hs H.length 1,H++[.cells e sz new]):=by
 have c:∀(l m:Ac D) (k:Nat) (pre:Ac D),l.length=m.length->k=pre.length->(l.zipIdx k).foldl (fun h (p:D×Nat)=>h.set (0*sz+p.2) p.1) (pre++m)=pre++l:=by
  intro l
  induction l with
  |nil=>intro m k pre d _;cases m with
   |nil=>rfl
   |cons=>simp at d
  |cons a r q=>
   intro m k pre d s;cases m with
   |nil=>simp at d
   |cons b t=>
    subst s;simp only[List.zipIdx_cons,LT,Nat.zero_mul,EE];have:=q t (pre.length+1) (pre++[a]) (by simpa using d) (by simp)
    grind
 have v:(List.range (1*sz)).map (fun k=>z.getD (k%z.length) .undef)=z:=by
  apply List.ext_getElem
  ·simp[f]
  ·intro k w n;simp only[pT,List.getElem_range];rw[qS n,Ed,FQ n];rfl
 have i:G9 sz 1 new=[new]:=by simp[G9,Q4 (Nat.le_of_eq g)]
 unfold DI tX;rw[Am (by omega),v];simp only[O0,u];rw[Am (by rw[g,f];simp)];have:=c new z 0 [] (by rw[g,f]) rfl;simp only[JO]at this;simp only[this,Dt,BR,IU,true_or,Bv,i,Gg,IX,PT,Lj,j]
def Eh.write(h:Eh γ c e sz d n cs H){j k:Nat}(g:j<n)(v:k<sz){x:D}(m:D7 x=some [x])(f:Df x=true):∃p q H',BG sz d (iD j)=some p/\AP k p=some q/\Bh 1 q x H=some (.v undef,H')/\Eh γ c e sz d n (cs.set (j*sz+k) x) H'/\DZ γ γ c H H':=by
 obtain⟨i,all,s,t,b,o,u⟩:=h.idx g;have r:j*sz+k<cs.length:=by
  rw[h.1]
  calc j*sz+k<j*sz+sz:=by omega
   _=(j+1)*sz:=by rw[zQ]
   _<=n*sz:=zX _ g
 have a:j*sz+k<all.length:=by grind
 have l:all.take (j*sz+k)++[x]++all.drop (j*sz+k+1)=all.set (j*sz+k) x:=by
  rw[Ay,Aw a];simp
 refine⟨_,.hp i (j*sz+k),H.set i (.cells e sz (all.set (j*sz+k) x)),t,rfl,?_,⟨by grind,.inr ⟨i,_,s,b.put _,by rw[List.take_set,o],by grind⟩⟩,DZ.put b _⟩;simp only[Bh,FI,m,b.2,Oh,Na,f,eX,pG,pR,pU]
 grind
end
def Ms:Ac Cj:=(95,true,Ak ZC)::(96,true,Ak YA)::(166,true,Ak V5)::(164,true,Ak VQ)::(219,true,DX Rj)::[]
def JfR:∀p∈Ms,Ci Aa p:=AC (Bf Jhv)<|AC (Bf nL)<|AC (Bf aE)<|AC (Bf nW)<|AC (Jy JwX)<|EN
def TM0:Tab:=⟨Ms,BM,[]⟩
def QcM:Bg Aa TM0:=CU JfR
def JaL:Ac Nat:=[]
def JsB(n:Nat)(a:D)(h:Ae):AB Aa TM0 JaL n f300 [a] h=
(Az a
(some ((iD 1),h))
(some ((iD 0),h))):=by kernel_rfl
end Go.Proofs.YtapdelkomkpgmaaGreatDoor
