import Derived.Test.YtapdelkomkpgmaaGreatDoorQj
namespace Go.Proofs.YtapdelkomkpgmaaGreatDoor
open Go.Proofs.Tryz
open Go.RowKit
set_option maxRecDepth 100000
set_option linter.all false
structure St where
 vals:List Int
 arrs:List (List Int)
 steps:Int
 evs:List (Int×Int×Int)
inductive Ey where
 |val (v:Int) (s:St)
 |unit (s:St)
 |halt (k v:Int) (s:St)
def Jw(n:Int):Int:=IntKind.i64.wrap n
def Rx(b:Bool):Int:=if b then 1 else 0
def X6(t:Int):Bool:=decide (7<=t/\t<=17)
def Js(t a b:Int):Int:=
 if t=7 then Jw (a+b)else if t=8 then Jw (a-b)else if t=9 then Jw (a*b)else
 if t=10 then Jw (a.tdiv b)else if t=11 then a.tmod b else
 if t=12 then Rx (a=b)else if t=13 then Rx (a≠b)else if t=14 then Rx (a<b)else if t=15 then Rx (a<=b)else if t=16 then Rx (a>b)else Rx (a>=b)
def GZ(r:Af Ey)(k:Int->St->Af Ey):Af Ey:=
 match r with
 |some (.val v s)=>k v s
 |some (.halt e v s)=>some (.halt e v s)
 |_=>none
def Vm(r:Af Ey)(k:St->Af Ey):Af Ey:=
 match r with
 |some (.unit s)=>k s
 |some (.halt e v s)=>some (.halt e v s)
 |_=>none
def WH(f:Int->St->Af Ey):Ac Int->St->Af Ey
 |[],s=>some (.unit s)
 |k::r,s=>Vm (f k s) (WH f r)
def FW(a:Ac Int)(j:Nat)(k:Int->Af Ey):Af Ey:=
 match a[j]? with
 |some i=>k i
 |none=>none
def lX(n v:Int)(s:St):St:={s with vals:=s.vals.set n.toNat v,evs:=s.evs++[(n,-1,v)]}
def iI(n i v:Int)(r:Ac Int)(s:St):St:={s with arrs:=s.arrs.set n.toNat (r.set i.toNat v),evs:=s.evs++[(n,i,v)]}
def Wm(f:Int->St->Af Ey)(body:Ac Nd)(i:Int)(s:St):Af Ey:=
 let t:=(Bj body i).1;let n:=(Bj body i).2;let c:=AZ body i
 if t=1\/t=2 then some (.val n s)else
 if t=3 then(if 0<=n then(s.vals[n.toNat]?).map fun v=> .val v s else none)else
 if t=4 then FW c 0 fun k=>GZ (f k s) fun v s=>if 0<=n then(s.arrs[n.toNat]?).map fun r=>if 0<=v/\v<r.length then .val (r.getD v.toNat 0) s else .halt 2 0 s else none else
 if t=5 then FW c 0 fun k=>GZ (f k s) fun v s=>some (.val (Jw (0-v)) s)else
 if t=6 then FW c 0 fun k=>GZ (f k s) fun v s=>some (.val (Jw (1-v)) s)else
 if t=18\/t=19 then FW c 0 fun k=>GZ (f k s) fun v s=>if v=(if t=18 then 0 else 1)then some (.val v s)else FW c 1 fun k=>GZ (f k s) fun v s=>some (.val v s)else
 if t=20 then WH f c s else
 if t=21 then FW c 0 fun k=>GZ (f k s) fun v s=>if 0<=n/\n.toNat<s.vals.length then some (.unit (lX n v s))else none else
 if t=22 then FW c 0 fun k=>GZ (f k s) fun a s=>FW c 1 fun k=>GZ (f k s) fun v s=>if 0<=n then(s.arrs[n.toNat]?).map fun r=>if 0<=a/\a<r.length then .unit (iI n a v r s)else .halt 2 0 s else none else
 if t=23 then FW c 0 fun k=>GZ (f k s) fun b s=>if 0<=b/\b<=1 then FW c (2-b).toNat fun k=>Vm (f k s) fun s=>some (.unit s)else none else
 if t=24 then FW c 0 fun k=>GZ (f k s) fun b s=>if b=0 then some (.unit s)else if b=1 then FW c 1 fun k=>Vm (f k s) fun s=>f i s else none else
 if t=25 then FW c 0 fun k=>GZ (f k s) fun v s=>some (.halt 0 v s)else
 if t=26 then some (.unit s)else
 if X6 t then FW c 0 fun k=>GZ (f k s) fun a s=>FW c 1 fun k=>GZ (f k s) fun b s=>if b=0/\(t=10\/t=11)then some (.halt 1 0 s)else some (.val (Js t a b) s)else none
def EZ(s:St):St:={s with steps:=s.steps+1}
def ev(fuel:Int)(body:Ac Nd):Nat->Int->St->Af Ey
 |0,_,_=>none
 |n+1,i,s=>if s.steps=fuel then some (.halt 4 0 s)else Wm (ev fuel body n) body i (EZ s)
structure FM where
 i:Int
 kid:Nat
 vals:List Int
structure MS where
 st:St
 stk:List FM
 k:Int
 v:Int
 over:Bool
def mk(s:St)(stk:Ac FM):MS:=⟨s,stk,0,0,false⟩
def MS.stop(m:MS)(k v:Int):MS:={m with k:=k,v:=v,over:=true}
def Jz(fuel i:Int)(m:MS):MS:=if m.st.steps=fuel then m.stop 4 0 else{m with st:=EZ m.st,stk:=⟨i,0,[]⟩::m.stk}
def Jg(body:Ac Nd)(f:FM):Af (Af Int):=
 let t:=(Bj body f.i).1;let a:=AZ body f.i
 if f.kid=1/\(t=18\/t=19\/t=23\/t=24)then
  match f.vals with
  |v::_=>
   if t=23 then(if v<=2 then(a[(2-v).toNat]?).map some else none)else
   if v=(if t=19 then 1 else 0)then some none else some a[1]?
  |[]=>none
 else if t=23/\1<f.kid then some none else some a[f.kid]?
def Ky(v:Int)(m:MS):Af MS:=
 match m.stk with
 |f::r=>some {m with stk:={f with vals:=f.vals++[v]}::r}
 |[]=>none
def Hl(f:FM)(k:Int->Af MS):Af MS:=
 match f.vals with
 |v::_=>k v
 |[]=>none
def Vx(f:FM)(k:Int->Int->Af MS):Af MS:=
 match f.vals with
 |v::u::_=>k v u
 |_=>none
def Iy(fuel:Int)(body:Ac Nd)(m:MS):Af MS:=
 match m.stk with
 |[]=>none
 |f::r=>
  let c:MS:={m with stk:=r};let t:=(Bj body f.i).1;let n:=(Bj body f.i).2
  if t=1\/t=2 then Ky n c else
  if t=3 then(if 0<=n then(m.st.vals[n.toNat]?).bind fun v=>Ky v c else none)else
  if t=4 then Hl f fun v=>if 0<=n then(m.st.arrs[n.toNat]?).bind fun r=>if 0<=v/\v<r.length then Ky (r.getD v.toNat 0) c else some (c.stop 2 0)else none else
  if t=5 then Hl f fun v=>Ky (Jw (0-v)) c else
  if t=6 then Hl f fun v=>Ky (Jw (1-v)) c else
  if t=18\/t=19 then(f.vals.getLast?).bind fun v=>Ky v c else
  if t=21 then Hl f fun v=>if 0<=n/\n.toNat<m.st.vals.length then some {c with st:=lX n v m.st}else none else
  if t=22 then Vx f fun a v=>if 0<=n then(m.st.arrs[n.toNat]?).map fun r=>if 0<=a/\a<r.length then{c with st:=iI n a v r m.st}else c.stop 2 0 else none else
  if t=24 then Hl f fun v=>some (if v=1 then Jz fuel f.i c else c)else
  if t=25 then Hl f fun v=>some (c.stop 0 v)else
  if t=20\/t=23\/t=26 then some c else
  if X6 t then Vx f fun a b=>if b=0/\(t=10\/t=11)then some (c.stop 1 0)else Ky (Js t a b) c else none
def aB(fuel:Int)(body:Ac Nd)(m:MS):Af MS:=
 match m.stk with
 |[]=>none
 |f::r=>
  match Jg body f with
  |some (some k)=>some (Jz fuel k {m with stk:={f with kid:=f.kid+1}::r})
  |some none=>Iy fuel body m
  |none=>none
def Fp(fuel:Int)(body:Ac Nd):Nat->MS->Af MS
 |0,m=>some m
 |j+1,m=>if m.over then none else(aB fuel body m).bind (Fp fuel body j)
section
variable {fuel : Int} {body : Ac Nd}
theorem PD:∀(a b:Nat) {m m':MS},Fp fuel body a m=some m'->Fp fuel body (a+b) m=Fp fuel body b m'
 |0,b,m,m',h=>by cases h;rw[EE]
 |a+1,b,m,m',h=>by
  rw[show a+1+b=(a+b)+1 from by omega];simp only[Fp]at h⊢;split at h
  ·cases h
  ·obtain⟨f,d,c⟩:=Bi.1 h;rename_i e;rw[Am e,d,BR];exact PD a b c
def GF{s:St}{f:FM}{r:Ac FM}{k:Int}(h:Jg body f=some (some k))(j:Nat):Fp fuel body (j+1) (mk s (f::r))=Fp fuel body j (Jz fuel k (mk s ({f with kid:=f.kid+1}::r))):=by
 simp only[Fp,mk,aB,h,BF,BC,BR]
def Kj{s:St}{f:FM}{r:Ac FM}{m:MS}(h:Jg body f=some none)(a:Iy fuel body (mk s (f::r))=some m):Fp fuel body 1 (mk s (f::r))=some m:=by
 simp only[mk]at a;simp only[Fp,mk,aB,h,BF,BC,a,BR]
def MP(fuel:Int)(body:Ac Nd)(c:Int)(stk:Ac FM)(m:MS):Ey->Prop
 | .val v s'=>c<s'.steps/\∀f r,stk=f::r->∃j:Nat,(j:Int)+1<=2*(s'.steps-c)/\Fp fuel body j m=some (mk s' ({f with vals:=f.vals++[v]}::r))
 | .unit s'=>c<s'.steps/\∃j:Nat,(j:Int)+1<=2*(s'.steps-c)/\Fp fuel body j m=some (mk s' stk)
 | .halt k v s'=>c<=s'.steps/\∃j:Nat,(j:Int)<=2*(s'.steps-c)/\∃a,Fp fuel body j m=some {mk s' a with k:=k,v:=v,over:=true}
def MP.halt_after{c d:Int}{stk b:Ac FM}{m m':MS}{k v:Int}{s':St}(h:MP fuel body d b m' (.halt k v s'))(a:Nat)(f:Fp fuel body a m=some m')(i:(a:Int)<=2*(d-c))(g:c<=d):MP fuel body c stk m (.halt k v s'):=by
 obtain⟨n,j,l,st,e⟩:=h;exact⟨by omega,a+j,by omega,st,by rw[PD a j f];exact e⟩
def MP.after{c g:Int}{stk:Ac FM}{m m':MS}{res:Ey}(h:MP fuel body g stk m' res)(a:Nat)(b:Fp fuel body a m=some m')(n:(a:Int)<=2*(g-c))(d:c<=g):MP fuel body c stk m res:=by
 cases res with
 |val v s'=>
  obtain⟨p,o⟩:=h;refine⟨by omega,fun f r e=> ?_⟩;obtain⟨j,l,i⟩:=o f r e;exact⟨a+j,by omega,by rw[PD a j b];exact i⟩
 |unit s'=>
  obtain⟨p,j,l,i⟩:=h;exact⟨by omega,a+j,by omega,by rw[PD a j b];exact i⟩
 |halt k v s'=>exact h.halt_after a b n d
def NQ{a:Ac Int}{j:Nat}{k:Int->Af Ey}{r:Ey}(h:FW a j k=some r):∃i,a[j]? =some i/\k i=some r:=by
 unfold FW at h
 grind
def JcE{o:Af Ey}{k:Int->St->Af Ey}{r:Ey}(h:GZ o k=some r):(∃v s,o=some (.val v s)/\k v s=some r)\/∃e v s,o=some (.halt e v s)/\r= .halt e v s:=by
 unfold GZ at h
 grind
def Jcd{o:Af Ey}{k:St->Af Ey}{r:Ey}(h:Vm o k=some r):(∃s,o=some (.unit s)/\k s=some r)\/∃e v s,o=some (.halt e v s)/\r= .halt e v s:=by
 unfold Vm at h
 grind
def QO{n:Nat}(l:∀i s stk res,ev fuel body n i s=some res->MP fuel body s.steps stk (Jz fuel i (mk s stk)) res){s:St}{f:FM}{stk:Ac FM}{k:Int}(d:Jg body f=some (some k)){c:Int}{m:MS}{a:Nat}(p:Fp fuel body a m=some (mk s (f::stk)))(r:(a:Int)+2<=2*(s.steps-c)){K:Int->St->Af Ey}{res:Ey}
  (h:GZ (ev fuel body n k s) K=some res) (u:∀v s' o,ev fuel body n k s=some (.val v s')->s.steps<s'.steps->K v s'=some res->Fp fuel body o m=some (mk s' ({f with kid:=f.kid+1,vals:=f.vals++[v]}::stk))->(o:Int)+2<=2*(s'.steps-c)->MP fuel body c stk m res):MP fuel body c stk m res:=by
 rcases JcE h with⟨v,s',b,w⟩|⟨e,v,s',b,rfl⟩
 ·obtain⟨x,q⟩:=l k s ({f with kid:=f.kid+1}::stk) _ b;obtain⟨j,y,t⟩:=q _ _ rfl;refine u v s' (a+(j+1)) b x w ?_ (by omega);rw[PD a (j+1) p,GF d];exact t
 ·have g:=l k s ({f with kid:=f.kid+1}::stk) _ b;refine g.halt_after (a+1) ?_ (by omega) (by omega);rw[PD a 1 p,GF d 0];rfl
def OS{n:Nat}(l:∀i s stk res,ev fuel body n i s=some res->MP fuel body s.steps stk (Jz fuel i (mk s stk)) res){s:St}{f:FM}{stk:Ac FM}{k:Int}(d:Jg body f=some (some k)){c:Int}{m:MS}{a:Nat}(p:Fp fuel body a m=some (mk s (f::stk)))(q:(a:Int)+2<=2*(s.steps-c)){K:St->Af Ey}{res:Ey}
  (h:Vm (ev fuel body n k s) K=some res) (t:∀s' o,ev fuel body n k s=some (.unit s')->s.steps<s'.steps->K s'=some res->Fp fuel body o m=some (mk s' ({f with kid:=f.kid+1}::stk))->(o:Int)+2<=2*(s'.steps-c)->MP fuel body c stk m res):MP fuel body c stk m res:=by
 rcases Jcd h with⟨s',b,u⟩|⟨e,v,s',b,rfl⟩
 ·obtain⟨w,j,x,r⟩:=l k s ({f with kid:=f.kid+1}::stk) _ b;refine t s' (a+(j+1)) b w u ?_ (by omega);rw[PD a (j+1) p,GF d];exact r
 ·have g:=l k s ({f with kid:=f.kid+1}::stk) _ b;refine g.halt_after (a+1) ?_ (by omega) (by omega);rw[PD a 1 p,GF d 0];rfl
def WJ{c:Int}{m:MS}{a:Nat}{s:St}{f:FM}{stk:Ac FM}{v:Int}(h:Fp fuel body a m=some (mk s (f::stk)))(g:Jg body f=some none)(d:Iy fuel body (mk s (f::stk))=Ky v (mk s stk))(b:(a:Int)+2<=2*(s.steps-c)):MP fuel body c stk m (.val v s):=by
 refine⟨by omega,fun i r e=> ?_⟩;subst e;exact⟨a+1,by omega,by rw[PD a 1 h];exact Kj g d⟩
def oH{c:Int}{m:MS}{a:Nat}{s s':St}{f:FM}{stk:Ac FM}(g:Fp fuel body a m=some (mk s (f::stk)))(e:Jg body f=some none)(d:Iy fuel body (mk s (f::stk))=some (mk s' stk))(hs:s'.steps=s.steps)(b:(a:Int)+2<=2*(s.steps-c)):MP fuel body c stk m (.unit s'):=by
 exact⟨by omega,a+1,by omega,by rw[PD a 1 g];exact Kj e d⟩
def Ck{c:Int}{m:MS}{a:Nat}{s:St}{f:FM}{stk:Ac FM}{k v:Int}(g:Fp fuel body a m=some (mk s (f::stk)))(e:Jg body f=some none)(d:Iy fuel body (mk s (f::stk))=some ((mk s stk).stop k v))(b:(a:Int)+2<=2*(s.steps-c)):MP fuel body c stk m (.halt k v s):=by
 exact⟨by omega,a+1,by omega,stk,by rw[PD a 1 g];exact Kj e d⟩
def VH{i:Int}{k:Int}(a:(AZ body i)[0]? =some k):Jg body ⟨i,0,[]⟩=some (some k):=by
 unfold Jg;simp[a]
def IS{i:Int}{j:Nat}{vs:Ac Int}(h:¬(j=1/\((Bj body i).1=18\/(Bj body i).1=19\/(Bj body i).1=23\/(Bj body i).1=24)))(a:(Bj body i).1≠23):Jg body ⟨i,j,vs⟩=some (AZ body i)[j]? :=by
 unfold Jg
 grind
def vS{i:Int}{t a v:Int}{vs:Ac Int}(b:Bj body i=(t,a))(ht:t=18\/t=19\/t=23\/t=24):Jg body ⟨i,1,v::vs⟩=if t=23 then(if v<=2 then((AZ body i)[(2-v).toNat]?).map some else none)else if v=(if t=19 then 1 else 0)then some none else some (AZ body i)[1]? :=by
 unfold Jg
 grind
def JoB{i:Int}{a:Int}{vs:Ac Int}(b:Bj body i=(23,a)):Jg body ⟨i,2,vs⟩=some none:=by
 unfold Jg
 grind
theorem Jf4{n:Nat}(o:∀i s stk res,ev fuel body n i s=some res->MP fuel body s.steps stk (Jz fuel i (mk s stk)) res){i:Int}(ht:(Bj body i).1=20){c:Int}{m:MS}{stk:Ac FM}:∀(l:Ac Int) (j:Nat) (s:St) (a:Nat) (res:Ey),(AZ body i).drop j=l->WH (ev fuel body n) l s=some res->Fp fuel body a m=some (mk s (⟨i,j,[]⟩::stk))->(a:Int)+2<=2*(s.steps-c)->MP fuel body c stk m res
 |[],j,s,a,res,e,h,g,b=>by
  cases h
  have d:(AZ body i).length<=j:=by simp_all
  refine oH g ?_ ?_ rfl b
  ·rw[IS (by rw[ht];omega) (by omega),UC d]
  ·simp[Iy,mk,ht]
 |k::r,j,s,a,res,e,h,g,b=>by
  have q:(AZ body i)[j]? =some k:=by
   have:((AZ body i).drop j)[0]? =some k:=by rw[e];rfl
   rw[pM]at this;exact this
  refine OS o (f:=⟨i,j,[]⟩) (by rw[IS (by rw[ht];omega) (by omega),q]) g b h fun s' t w x u p v=> ?_;refine Jf4 o ht r (j+1) s' t res ?_ u p v;rw[<-List.drop_drop,e];rfl
def Qbm(body:Ac Nd)(i:Int):(AZ body i).length<=(ar (Bj body i)).toNat:=by
 unfold AZ;split
 ·simp
 ·rename_i h;obtain⟨b,a⟩:=F6 body i (by omega);simp only[Ju,List.length_range];unfold Fv Bj
  grind
def JpD{t n:Int}{b:Nat}(h:t=1\/(t≠20/\(EF t n).2<=b)):(ar (t,n)).toNat<=b:=by
 unfold ar
 grind
def JtN{body:Ac Nd}{i:Int}{t n:Int}(a:Bj body i=(t,n)){b:Nat}(h:t=1\/(t≠20/\(EF t n).2<=b)){j:Nat}(e:b<=j):(AZ body i)[j]? =none:=by
 have c:=Qbm body i;rw[a]at c;have d:=JpD h
 grind
theorem dT:∀(n:Nat) (i:Int) (s:St) (stk:Ac FM) (res:Ey),ev fuel body n i s=some res->MP fuel body s.steps stk (Jz fuel i (mk s stk)) res
 |0,i,s,stk,res,h=>by cases h
 |n+1,i,s,stk,res,h=>by
  have y:=dT n;simp only[ev]at h;split at h
  ·rename_i R;cases h;refine⟨by omega,0,by omega,stk,?_⟩;simp[Fp,Jz,mk,R,MS.stop]
  rename_i R;have Y:Jz fuel i (mk s stk)=mk (EZ s) (⟨i,0,[]⟩::stk):=by
   unfold Jz;rw[Am (by simpa[mk]using R)];rfl
  rw[Y];have A:Fp fuel body 0 (mk (EZ s) (⟨i,0,[]⟩::stk))=some (mk (EZ s) (⟨i,0,[]⟩::stk)):=rfl;have d:((0:Nat):Int)+2<=2*((EZ s).steps-s.steps):=by simp only[EZ];omega
  generalize ac:EZ s=Q at h A d⊢;generalize g:Bj body i=x at*;obtain⟨t,nn⟩:=x;unfold Wm at h;rw[g]at h;simp only at h;have C:∀{j:Nat} {vs:Ac Int} {b:Nat},(t=1\/(t≠20/\(EF t nn).2<=b))->b<=j->t≠23->¬(j=1/\(t=18\/t=19\/t=23\/t=24))->Jg body ⟨i,j,vs⟩=some none:=by
   intro j vs b h1 h2 h3 h4;rw[IS (by rw[g];exact h4) (by rw[g];exact h3),JtN g h1 h2]
  have n1:∀{v:Int} {k:Int} {vs:Ac Int},(AZ body i)[1]? =some k->t≠23->¬(t=18\/t=19\/t=23\/t=24)->Jg body ⟨i,1,vs⟩=some (some k):=by
   intro v k vs h1 h3 h4;rw[IS (by rw[g];exact fun e=>h4 e.2) (by rw[g];exact h3),h1]
  have D:∀{E:St} {a:Nat} {v:Int},Fp fuel body a (mk Q (⟨i,0,[]⟩::stk))=some (mk E ({(⟨i,0,[]⟩:FM)with kid:=0+1,vals:=[]++[v]}::stk))->Fp fuel body a (mk Q (⟨i,0,[]⟩::stk))=some (mk E (⟨i,1,[v]⟩::stk)):=fun h=>h;by_cases G:t=1\/t=2
  ·have ht:=G;rw[Aw ht]at h;cases h;rcases ht with rfl|rfl
   ·exact WJ A (C (b:=0) (.inl rfl) (BQ _) (by decide) (by decide)) (by simp[Iy,mk,g]) d
   ·exact WJ A (C (b:=0) (.inr ⟨by decide,by simp[EF]⟩) (BQ _) (by decide) (by decide)) (by simp[Iy,mk,g]) d
  rw[Am G]at h;by_cases t3:t=3
  ·have ht:=t3;rw[Aw ht]at h;clear t3;subst ht;split at h
   case isFalse=>cases h
   rename_i V;obtain⟨v,p,h⟩:=DV.1 h;cases h;exact WJ A (C (b:=0) (.inr ⟨by decide,by simp[EF]⟩) (BQ _) (by decide) (by decide)) (by simp[Iy,mk,g,V,p]) d
  rw[Am t3]at h;by_cases t4:t=4
  ·have ht:=t4;rw[Aw ht]at h;clear t4;subst ht;obtain⟨k,u,h⟩:=NQ h;refine QO y (VH u) A d h fun v E a P O c o m=> ?_;split at c
   case isFalse=>cases c
   rename_i V;obtain⟨r,Z,c⟩:=DV.1 c;have q:Jg body ⟨i,1,[v]⟩=some none:=C (b:=1) (.inr ⟨by decide,by simp[EF]⟩) (BQ _) (by decide) (by decide);split at c
   ·rename_i p;cases c;exact WJ (D o) q (by simp[Iy,mk,g,V,Z,Hl,p]) m
   ·rename_i p;cases c;exact Ck (D o) q (by simp[Iy,mk,g,V,Z,Hl,p]) m
  rw[Am t4]at h;by_cases t5:t=5
  ·have ht:=t5;rw[Aw ht]at h;clear t5;subst ht;obtain⟨k,u,h⟩:=NQ h;refine QO y (VH u) A d h fun v E a P O c o m=> ?_;cases c;exact WJ (D o) (C (b:=1) (.inr ⟨by decide,by simp[EF]⟩) (BQ _) (by decide) (by decide)) (by simp[Iy,mk,g,Hl]) m
  rw[Am t5]at h;by_cases t6:t=6
  ·have ht:=t6;rw[Aw ht]at h;clear t6;subst ht;obtain⟨k,u,h⟩:=NQ h;refine QO y (VH u) A d h fun v E a P O c o m=> ?_;cases c;exact WJ (D o) (C (b:=1) (.inr ⟨by decide,by simp[EF]⟩) (BQ _) (by decide) (by decide)) (by simp[Iy,mk,g,Hl]) m
  rw[Am t6]at h;by_cases S:t=18\/t=19
  ·have ht:=S;rw[Aw ht]at h;obtain⟨k,u,h⟩:=NQ h;have hl:t=1\/(t≠20/\(EF t nn).2<=(2:Nat)):=by
    rcases ht with rfl|rfl
    ·exact .inr ⟨by decide,by simp[EF]⟩
    ·exact .inr ⟨by decide,by simp[EF]⟩
   refine QO y (VH u) A d h fun v E a P O c o m=> ?_;have aa:(if t=18 then(0:Int)else 1)=if t=19 then 1 else 0:=by rcases ht with rfl|rfl<;>rfl
   rw[aa]at c;by_cases p:v=if t=19 then 1 else 0
   ·rw[Aw p]at c;cases c;refine WJ (D o) ?_ ?_ m
    ·rw[vS g (by omega),Am (by omega),Aw p]
    ·have e1:¬t=3:=by omega
     have e2:¬t=4:=by omega
     have e3:¬t=5:=by omega
     have e4:¬t=6:=by omega
     simp[Iy,mk,g,ht,G,e1,e2,e3,e4]
   ·rw[Am p]at c;obtain⟨k2,w,c⟩:=NQ c;refine QO y (f:=⟨i,1,[v]⟩) ?_ (D o) m c fun I B F q1 q2 z N H=> ?_
    ·rw[vS g (by omega),Am (by omega),Am p,w]
    ·cases z
     have l:Fp fuel body F (mk Q (⟨i,0,[]⟩::stk))=some (mk B (⟨i,2,[v,I]⟩::stk)):=N;have e1:¬t=3:=by omega
     have e2:¬t=4:=by omega
     have e3:¬t=5:=by omega
     have e4:¬t=6:=by omega
     exact WJ l (C hl (BQ _) (by omega) (by omega)) (by simp[Iy,mk,g,ht,G,e1,e2,e3,e4]) H
  rw[Am S]at h;by_cases W:t=20
  ·have ht:=W;rw[Aw ht]at h;clear W;subst ht;exact Jf4 y (by rw[g]) _ 0 Q 0 res rfl h A d
  rw[Am W]at h;by_cases M:t=21
  ·have ht:=M;rw[Aw ht]at h;clear M;subst ht;obtain⟨k,u,h⟩:=NQ h;refine QO y (VH u) A d h fun v E a P O c o m=> ?_;split at c
   case isFalse=>cases c
   rename_i p;cases c;exact oH (D o) (C (b:=1) (.inr ⟨by decide,by simp[EF]⟩) (BQ _) (by decide) (by decide)) (by simp[Iy,mk,g,Hl,p]) rfl m
  rw[Am M]at h;by_cases K:t=22
  ·have ht:=K;rw[Aw ht]at h;clear K;subst ht;obtain⟨k,u,h⟩:=NQ h;refine QO y (VH u) A d h fun v E a P O c o m=> ?_;obtain⟨k2,w,c⟩:=NQ c;refine QO y (f:=⟨i,1,[v]⟩) (n1 (v:=0) w (by decide) (by decide)) (D o) m c fun I B F q1 q2 z N H=> ?_;have l:Fp fuel body F (mk Q (⟨i,0,[]⟩::stk))=some (mk B (⟨i,2,[v,I]⟩::stk)):=N;have q:Jg body ⟨i,2,[v,I]⟩=some none:=C (b:=2) (.inr ⟨by decide,by simp[EF]⟩) (BQ _) (by decide) (by decide);split at z
   case isFalse=>cases z
   rename_i V;obtain⟨r,Z,z⟩:=DV.1 z;split at z
   ·rename_i p;cases z;exact oH l q (by simp[Iy,mk,g,Vx,V,Z,p]) rfl H
   ·rename_i p;cases z;exact Ck l q (by simp[Iy,mk,g,Vx,V,Z,p]) H
  rw[Am K]at h;by_cases U:t=23
  ·have ht:=U;rw[Aw ht]at h;clear U;subst ht;obtain⟨k,u,h⟩:=NQ h;refine QO y (VH u) A d h fun v E a P O c o m=> ?_;split at c
   case isFalse=>cases c
   rename_i p;obtain⟨k2,w,c⟩:=NQ c;refine OS y (f:=⟨i,1,[v]⟩) ?_ (D o) m c fun B F q1 q2 z N H=> ?_
   ·rw[vS g (by omega),Aw rfl,Aw (by omega),w];rfl
   ·cases z
    have l:Fp fuel body F (mk Q (⟨i,0,[]⟩::stk))=some (mk B (⟨i,2,[v]⟩::stk)):=N;exact oH l (JoB g) (by simp[Iy,mk,g]) rfl H
  rw[Am U]at h;by_cases L:t=24
  ·have ht:=L;rw[Aw ht]at h;clear L;subst ht;obtain⟨k,u,h⟩:=NQ h;refine QO y (VH u) A d h fun v E a P O c o m=> ?_;split at c
   ·rename_i p;subst p;cases c;refine oH (D o) ?_ (by simp[Iy,mk,g,Hl]) rfl m;rw[vS g (by omega),Am (by decide),Aw (by decide)]
   ·split at c
    case isFalse=>cases c
    rename_i ad p;subst p;obtain⟨k2,w,c⟩:=NQ c;refine OS y (f:=⟨i,1,[1]⟩) ?_ (D o) m c fun B F q1 q2 z N H=> ?_
    ·rw[vS g (by omega),Am (by decide),Am (by decide),w]
    ·have l:Fp fuel body F (mk Q (⟨i,0,[]⟩::stk))=some (mk B (⟨i,2,[1]⟩::stk)):=N;have q:Jg body ⟨i,2,[1]⟩=some none:=C (b:=2) (.inr ⟨by decide,by simp[EF]⟩) (BQ _) (by decide) (by decide);have X:Iy fuel body (mk B (⟨i,2,[1]⟩::stk))=some (Jz fuel i (mk B stk)):=by simp[Iy,mk,g,Hl]
     refine(y i B stk res z).after (F+1) ?_ (by omega) (by omega);rw[PD F 1 l];exact Kj q X
  rw[Am L]at h;by_cases J:t=25
  ·have ht:=J;rw[Aw ht]at h;clear J;subst ht;obtain⟨k,u,h⟩:=NQ h;refine QO y (VH u) A d h fun v E a P O c o m=> ?_;cases c;exact Ck (D o) (C (b:=1) (.inr ⟨by decide,by simp[EF]⟩) (BQ _) (by decide) (by decide)) (by simp[Iy,mk,g,Hl]) m
  rw[Am J]at h;by_cases T:t=26
  ·have ht:=T;rw[Aw ht]at h;clear T;subst ht;cases h;exact oH A (C (b:=0) (.inr ⟨by decide,by simp[EF]⟩) (BQ _) (by decide) (by decide)) (by simp[Iy,mk,g]) rfl d
  rw[Am T]at h;by_cases hp:X6 t=true
  case neg=>rw[Am hp]at h;cases h
  rw[Aw hp]at h;obtain⟨k,u,h⟩:=NQ h;have ab:7<=t/\t<=17:=by simpa[X6]using hp
  refine QO y (VH u) A d h fun v E a P O c o m=> ?_;obtain⟨k2,w,c⟩:=NQ c;refine QO y (f:=⟨i,1,[v]⟩) (n1 (v:=0) w (by omega) (by omega)) (D o) m c fun I B F q1 q2 z N H=> ?_;have l:Fp fuel body F (mk Q (⟨i,0,[]⟩::stk))=some (mk B (⟨i,2,[v,I]⟩::stk)):=N;have hl:t=1\/(t≠20/\(EF t nn).2<=(2:Nat)):= .inr ⟨by omega,by
   unfold EF;rw[Am (by omega),Am (by omega),Am (by omega),Am (by omega),Am (by omega),Am (by omega),Am (by omega),Am (by omega),Am (by omega),Aw (by omega)];decide⟩
  have q:Jg body ⟨i,2,[v,I]⟩=some none:=C hl (BQ _) (by omega) (by omega);have R:Iy fuel body (mk B (⟨i,2,[v,I]⟩::stk))=if I=0/\(t=10\/t=11)then some ((mk B stk).stop 1 0)else Ky (Js t v I) (mk B stk):=by
   simp only[Iy,mk,g];rw[Am G,Am t3,Am t4,Am t5,Am t6,Am S,Am M,Am K,Am L,Am J,Am (by omega),Aw hp];rfl
  split at z
  ·rename_i hz;cases z;rw[Aw hz]at R;exact Ck l q R H
  ·rename_i hz;cases z;rw[Am hz]at R;exact WJ l q R H
end
def Rs:Ac D->Af D:=F1 oJ fun b=>some (iD (Rx b))
def Jpi:Bz Aa 300 Rs:=FC (kp:=JaL) QcM AX func300 fun b d h=>by
 cases h
 refine⟨0,iD (Rx b),?_,AY.refl _⟩;show BB (AB _ _ _ _ _ [bD b] [])=_;rw[JsB];cases b<;>rfl
def Ss:Ac Cj:=(300,true,Ak Rs)::Ms
def JfB:∀p∈Ss,Ci Aa p:=AC (Bf Jpi)<|JfR
def Kb:Tab:=⟨Ss,BM,[]⟩
def TD:Bg Aa Kb:=CU JfB
def Jo0:Ac Nat:=[]
def QdS:Ac Nat:=[]
def QeV:Ac Nat:=[]
def QaD:Ac Nat:=[]
def tT:Ac Nat:=[]
def Jv4(n:Nat)(b a:D)(h:Ae):AB Aa Kb tT n f301 [b,a] h=
(Ad (Ag .int .neq b a) fun d=>
Ah (Ak Rs [d] h) fun e c=>
some (e,c)):=by kernel_rfl
def JlF:Ac Nat:=[]
def Joi:Ac Nat:=[]
def Jyk:Ac Nat:=[]
def Qbg:Ac Nat:=[]
def Jgt:Ac Nat:=[]
def Qex(n:Nat)(b a:D)(h:Ae):AB Aa Kb Jgt n f306 [b,a] h=
(Ad (Ag .int .quo b a) fun c=>
some (c,h)):=by kernel_rfl
def JdZ:Ac Nat:=[]
def Jpy(n:Nat)(b a:D)(h:Ae):AB Aa Kb JdZ n f307 [b,a] h=
(Ad (Ag .int .rem b a) fun c=>
some (c,h)):=by kernel_rfl
def Jp(t:Int):Ac D->Af D:=F2 BV BV fun a b=>if b=0/\(t=10\/t=11)then none else some (iD (Js t a b))
def Su(a b:Int):Ag .int .eql (iD a) (iD b)=some (bD (decide (a=b))):=by rfl
def YO(a b:Int):Ag .int .neq (iD a) (iD b)=some (bD (decide (a≠b))):=by
 show some (bD (!(a==b)))=_
 grind
def JkQ(a b:Int)(h:¬b=0):Ag .int .quo (iD a) (iD b)=some (iD (Jw (a.tdiv b))):=by
 show(if b=0 then none else _)=_;rw[Am h];rfl
def Jui(a b:Int)(h:¬b=0):Ag .int .rem (iD a) (iD b)=some (iD (a.tmod b)):=by
 show(if b=0 then none else _)=_;rw[Am h]
def JqA:Bz Aa 296 (Jp 7):=GK (kp:=Jo0) TD AX func296 fun a b d h=>by
 split at h
 ·cases h
 rename_i c;cases h;refine⟨0,iD (Js 7 a b),?_,AY.refl _⟩;rfl
def JtL:Bz Aa 297 (Jp 8):=GK (kp:=QdS) TD AX func297 fun a b d h=>by
 split at h
 ·cases h
 rename_i c;cases h;refine⟨0,iD (Js 8 a b),?_,AY.refl _⟩;rfl
def JyS:Bz Aa 298 (Jp 9):=GK (kp:=QeV) TD AX func298 fun a b d h=>by
 split at h
 ·cases h
 rename_i c;cases h;refine⟨0,iD (Js 9 a b),?_,AY.refl _⟩;rfl
def JoP:Bz Aa 299 (Jp 12):=GK (kp:=QaD) TD AX func299 fun a b d h=>by
 split at h
 ·cases h
 rename_i c;cases h;refine⟨0,iD (Js 12 a b),?_,AY.refl _⟩;rfl
def Jwn:Bz Aa 301 (Jp 13):=GK (kp:=tT) TD AX func301 fun a b d h=>by
 split at h
 ·cases h
 rename_i c;cases h;refine⟨0,iD (Js 13 a b),?_,AY.refl _⟩;show BB (AB _ _ _ _ _ [iD a,iD b] [])=_;rw[Jv4];rw[YO];rfl
def Jri:Bz Aa 302 (Jp 14):=GK (kp:=JlF) TD AX func302 fun a b d h=>by
 split at h
 ·cases h
 rename_i c;cases h;refine⟨0,iD (Js 14 a b),?_,AY.refl _⟩;rfl
def Jpm:Bz Aa 303 (Jp 15):=GK (kp:=Joi) TD AX func303 fun a b d h=>by
 split at h
 ·cases h
 rename_i c;cases h;refine⟨0,iD (Js 15 a b),?_,AY.refl _⟩;rfl
def JwU:Bz Aa 304 (Jp 16):=GK (kp:=Jyk) TD AX func304 fun a b d h=>by
 split at h
 ·cases h
 rename_i c;cases h;refine⟨0,iD (Js 16 a b),?_,AY.refl _⟩;rfl
def QaN:Bz Aa 305 (Jp 17):=GK (kp:=Qbg) TD AX func305 fun a b d h=>by
 split at h
 ·cases h
 rename_i c;cases h;refine⟨0,iD (Js 17 a b),?_,AY.refl _⟩;rfl
def Jl3:Bz Aa 306 (Jp 10):=GK (kp:=Jgt) TD AX func306 fun a b d h=>by
 split at h
 ·cases h
 rename_i g;cases h;refine⟨0,iD (Js 10 a b),?_,AY.refl _⟩;show BB (AB _ _ _ _ _ [iD a,iD b] [])=_;rw[Qex];have c:¬b=0:=fun e=>g ⟨e,by decide⟩;rw[JkQ a b c];exact Gu _ _ rfl
def Jl7:Bz Aa 307 (Jp 11):=GK (kp:=JdZ) TD AX func307 fun a b d h=>by
 split at h
 ·cases h
 rename_i g;cases h;refine⟨0,iD (Js 11 a b),?_,AY.refl _⟩;show BB (AB _ _ _ _ _ [iD a,iD b] [])=_;rw[Jpy];have c:¬b=0:=fun e=>g ⟨e,by decide⟩;rw[Jui a b c];exact Gu _ _ rfl
def S5:Ac Cj:=(296,true,Ak (Jp 7))::(297,true,Ak (Jp 8))::(298,true,Ak (Jp 9))::(299,true,Ak (Jp 12))::(301,true,Ak (Jp 13))::(302,true,Ak (Jp 14))::(303,true,Ak (Jp 15))::(304,true,Ak (Jp 16))::(305,true,Ak (Jp 17))::(306,true,Ak (Jp 10))::(307,true,Ak (Jp 11))::Ss
def JgB:∀p∈S5,Ci Aa p:=AC (Bf JqA)<|AC (Bf JtL)<|AC (Bf JyS)<|AC (Bf JoP)<|AC (Bf Jwn)<|AC (Bf Jri)<|AC (Bf Jpm)<|AC (Bf JwU)<|AC (Bf QaN)<|AC (Bf Jl3)<|AC (Bf Jl7)<|JfB
def YQ:Tab:=⟨S5,BM,[]⟩
def Cp:Bg Aa YQ:=CU JgB
def Jq0(t a b:Int)(h:¬(b=0/\(t=10\/t=11)))(H:Ae):Ak (Jp t) [iD a,iD b] H=some (iD (Js t a b),H):=by
 rw[CP _ _ _ rfl];have:Jp t [iD a,iD b]=_:=JU (A:=BV) (B:=BV) _ a b
 grind
def Yh:Ac Int:=[7,8,9,12,13,14,15,16,17,10,11]
def YX:Ac D:=[.clo (.func 296) [] [],.clo (.func 297) [] [],.clo (.func 298) [] [],.clo (.func 299) [] [],.clo (.func 301) [] [],.clo (.func 302) [] [],.clo (.func 303) [] [],.clo (.func 304) [] [],.clo (.func 305) [] [],.clo (.func 306) [] [],.clo (.func 307) [] []]
def JhY:Ac Nat:=[]
def JxU(n:Nat)(h:Ae):AB Aa YQ JhY n f262 [] h=
(Ah (bT h) fun a o=>
Ah (N9 a (iD 7) (.clo (.func 296) [] []) o) fun z r=>
Ah (N9 a (iD 8) (.clo (.func 297) [] []) r) fun y w=>
Ah (N9 a (iD 9) (.clo (.func 298) [] []) w) fun x u=>
Ah (N9 a (iD 12) (.clo (.func 299) [] []) u) fun B l=>
Ah (N9 a (iD 13) (.clo (.func 301) [] []) l) fun k c=>
Ah (N9 a (iD 14) (.clo (.func 302) [] []) c) fun m b=>
Ah (N9 a (iD 15) (.clo (.func 303) [] []) b) fun v i=>
Ah (N9 a (iD 16) (.clo (.func 304) [] []) i) fun p g=>
Ah (N9 a (iD 17) (.clo (.func 305) [] []) g) fun q d=>
Ah (N9 a (iD 10) (.clo (.func 306) [] []) d) fun s j=>
Ah (N9 a (iD 11) (.clo (.func 307) [] []) j) fun t e=>
some (a,e)):=by kernel_rfl
def sM:Ac Nat:=[]
def Qb2(n:Nat)(a b c:D)(h:Ae):AB Aa YQ sM n f204 [a,b,c] h=
(Ad (CY [(0,1),(1,1)] [(iD 0),(iD 0)] [(0,b),(1,c)]) fun e=>
Ad (Dj a) fun g=>
Ad (AP 8 g) fun i=>
JM 0 2 i e h fun k j=>
Ha 12 1 a (bD true) j fun l d=>
some (.tup [],d)):=by kernel_rfl
def Jbg:Ac Nat:=[]
def QbD(n:Nat)(d j:D)(h:Ae):AB Aa YQ Jbg n f263 [d,j] h=
(Dx 7 none h d fun o=>
Dx 7 none h d fun p=>
Ad (Bq .sl p) fun l=>
Ad (Ag .int .sub l (iD 1)) fun m=>
Ad (BG 3 o m) fun k=>
Dx 2 none h k fun i=>
Ah (DI 3 1 1 [(iD 0)] [(0,j)] h) fun a c=>
Ah (D5 3 1 i a c) fun g b=>
Ha 2 1 k g b fun q e=>
some (.tup [],e)):=by kernel_rfl
def Jhx:Ac Nat:=[]
def QcQ(n:Nat)(C E j:D)(h:Ae):AB Aa YQ Jhx n f202 [C,E,j] h=
(Ah (BA 25 C h) fun c B=>
Ad (Ai (some 3) B c) fun J=>
Ah (Ak ZC [J] B) fun G d=>
Ad (Ag .int .neq G (iD 0)) fun H=>
Az H
(some ((iD 23),d))
(AV 2 none d c fun F=>
Ad (Bq .sl F) fun K=>
Ad (Ag .int .eql K (iD 0)) fun I=>
Az I
(some ((iD 23),d))
(AV 2 none d c fun z=>
Ah (Ak VQ [z,(iD 0)] d) fun g a=>
AV 2 none a c fun x=>
Ad (Bq .sl x) fun l=>
Ad (Ag .int .neq g l) fun q=>
Az q
(some ((iD 23),a))
(AV 2 none a c fun e=>
Ad (BG 2 e (iD 0)) fun o=>
AV 0 none a o fun w=>
Ad (Ag .int .neq w (iD 20)) fun p=>
Az p
(some ((iD 23),a))
(Ad (Ai (some 3) a c) fun m=>
Ah (Ak YA [m,(iD 0)] a) fun v b=>
Ad (Ag .int .neq v (iD 2)) fun y=>
Az y
(some ((iD 23),b))
(Ad (Bq .sl E) fun k=>
AV 0 none b c fun u=>
Ad (Ag .int .neq k u) fun i=>
Az i
(some ((iD 18),b))
(Ad (Ag .int .lss j (iD 0)) fun s=>
Az s
(some ((iD 19),b))
(Ad (Ag .int .gtr j (iD 10000)) fun r=>
Az r
(some ((iD 19),b))
(some ((iD 0),b)))))))))):=by kernel_rfl
def CO(P:Aj)(T:Tab)(kp:Ac Nat)(n:Nat)(f:CG):GT:=fun ds H=>
 match P.funcs[f]? with
 |some fn=>AB P T kp n fn ds H
 |none=>none
def CJ{P:Aj}{T:Tab}{kp:Ac Nat}{n:Nat}{f:CG}{fn:Func}(h:P.funcs[f]? =some fn)(ds:Ac D)(H:Ae):CO P T kp n f ds H=AB P T kp n fn ds H:=by unfold CO;rw[h]
def CQ{P:Aj}{T:Tab}{kp:Ac Nat}{n:Nat}(c:Bg P T)(g:P.follows .mixedOrders=true){f:CG}{fn:Func}(b:P.funcs[f]? =some fn)(e:fn.body.isSome=true:=by kernel_rfl)(a:fn.name≠ "runtime.NumGoroutine" :=by decide):BN P f (CO P T kp n f):=
 Hx (kp:=kp) c g b e a fun ds H d H' h=>⟨n,by rw[CJ b]at h;exact h⟩
def NT{P:Aj}{T:Tab}{kp:Ac Nat}{fn:Func}{li:Nat}(st:Nat->Ac D)(a:Nat->Ae->Prop)(Q:Lv×Ac D×Ae->Prop)(k n:Nat)
  (b:∀j H,j<k->a j H->∃H',BK P T kp n fn li (st j) H=some (.normal,st (j+1),H')/\a (j+1) H') (c:∀H,a k H->∃r,BK P T kp n fn li (st k) H=some r/\r.1≠ .normal/\Q r) (l:k<n) {H:Ae} (h:a 0 H):
  ∃r,BZ P T kp n fn li (st 0) H=some r/\Q r:=by
 have key:∀(m i:Nat) (H:Ae),i+m=k->a i H->∀q,m<q->∃r,DY (BK P T kp n fn li) q (st i) H=some r/\Q r:=by
  intro m
  induction m with
  |zero=>
   intro i H p e q g;obtain⟨q,rfl⟩:∃x,q=x+1:=⟨q-1,by omega⟩;obtain rfl:i=k:=by omega
   obtain⟨⟨t,s',H'⟩,d,f,s⟩:=c H e;refine⟨_,?_,s⟩;simp only[DY,d];cases t with
   |normal=>exact absurd rfl f
   |_=>rfl
  |succ m o=>
   intro i H p e q g;obtain⟨q,rfl⟩:∃x,q=x+1:=⟨q-1,by omega⟩;obtain⟨H',d,f⟩:=b i H (by omega) e;rw[IQ d];exact o (i+1) H' (by omega) f q (by omega)
 exact key k 0 H (by omega) h n l
def G5(j:Nat)(h:j<=4000000):Ag .int .add (iD j) (iD 1)=some (iD (j+1)):=by
 show some (D.v (.int .i64 (IntKind.i64.wrap ((j:Int)+1))))=_;rw[IntWalk.i64_in _ ⟨by omega,by omega⟩]
def G6{a b:Int}(h:a<b):Ag .int .lss (iD a) (iD b)=some (bD true):=by show some (bD (decide _))=_;rw[CZ h]
def Me{a b:Int}(h:¬a<b):Ag .int .lss (iD a) (iD b)=some (bD false):=by show some (bD (decide _))=_;rw[Dc h]
def PQ(a b:Int):Ag .int .geq (iD a) (iD b)=some (bD (decide (b<=a))):=rfl
def Ve(a b:Int):Ag .int .leq (iD a) (iD b)=some (bD (decide (a<=b))):=rfl
def WM(a b:Int):Ag .int .neq (iD a) (iD b)=some (bD (decide (a≠b))):=by
 show some (bD (a !=b))=_;congr 2;simp[bne,decide_not];rfl
def Yr(b:Bool):Gn (bD b)=some (bD (!b)):=rfl
def YR{a b:Int}(d: -9000000000000000000<=a+b)(c:a+b<=9000000000000000000):Ag .int .add (iD a) (iD b)=some (iD (a+b)):=by
 show some (D.v (.int .i64 (IntKind.i64.wrap (a+b))))=_;rw[IntWalk.i64_in _ ⟨by omega,by omega⟩]
def JgL:Ac Nat:=[]
def QdK(n:Nat)(r:D)(h:Ae):AB Aa Vv JgL n f29 [r] h=
(Ah (BA 25 r h) fun c q=>
AV 2 none q c fun w=>
Ah (Ak kC [w] q) fun p o=>
Ad (Ag .int .neq p (iD 0)) fun u=>
Az u
(some (p,o))
(Ad (Ai (some 3) o c) fun v=>
Ah (Ak ZC [v] o) fun s a=>
Ad (Ag .int .neq s (iD 0)) fun d=>
Az d
(some (s,a))
(AV 2 none a c fun e=>
Ad (BG 2 e (iD 0)) fun g=>
AV 0 none a g fun m=>
Ad (Ag .int .neq m (iD 20)) fun i=>
Az i
(some ((iD 15),a))
(Ad (Ai (some 3) a c) fun l=>
Ah (Ak YA [l,(iD 0)] a) fun j b=>
Ad (Ag .int .neq j (iD 2)) fun k=>
Az k
(some ((iD 15),b))
(some ((iD 0),b)))))):=by kernel_rfl
def ED(p:Pg):Int:=
 if I4 p.body≠0 then I4 p.body else
 if KL p≠0 then KL p else
 if(Bj p.body 0).1≠20\/SK p 0≠2 then 15 else 0
def Ko:Ac D->Af D:=F1 Ef fun p=>if p.body.length<=3000000 then some (iD (ED p))else none
def zA(l:Ac Nd)(h:l.length<=3000000)(H:Ae):Ak kC [A8 l] H=some (iD (I4 l),H):=by
 rw[CP _ _ _ rfl];simp[kC,h]
def rW(p:Pg)(H:Ae):Ak ZC [Be p] H=some (iD (KL p),H):=by
 rw[CP _ _ _ rfl];have:ZC [Be p]=_:=EO (A:=Ef) _ p;rw[this];rfl
def Sw(p:Pg)(i:Int)(h:p.body.length<=3000000)(H:Ae):Ak YA [Be p,iD i] H=some (iD (SK p i),H):=by
 rw[CP _ _ _ rfl];have:YA [Be p,iD i]=_:=JU (A:=Ef) (B:=BV) _ p i;rw[this,Aw h];rfl
def Jwc{l:Ac Nd}(h:I4 l=0):0<l.length:=by
 unfold I4 at h;split at h
 ·cases h
 ·omega
def tN:Bz Aa 29 Ko:=FC (kp:=JgL) Jnq AX func29 fun p d h=>by
 split at h
 case isFalse=>cases h
 rename_i hp;cases h;refine⟨0,_,?_,AY.refl _⟩;show BB (AB _ _ _ _ _ [Be p] [])=_;rw[QdK];unfold AV;have b:D.agg [iD p.params,AL p.vars,A8 p.body]=Be p:=rfl;unfold ED;by_cases a:I4 p.body=0
 ·by_cases c:KL p=0
  ·have j:=Jwc a;have i:Bj p.body 0=p.body[0]:=by unfold Bj;exact G7 _ 0 _ j
   have e:=Oi p.body 0 j;simp only[Td]at e;by_cases g:(p.body[0]).1=20
   ·by_cases k:SK p 0=2
    ·simp[zA _ hp,a,rW,c,i,e,g,Sw p 0 hp,k,b]
    ·simp[zA _ hp,a,rW,c,i,e,g,Sw p 0 hp,k,b]
   ·simp[zA _ hp,a,rW,c,i,e,g,b]
  ·simp[zA _ hp,a,rW,c,b]
 ·simp[zA _ hp,a]
def Jh9:Ac Cj:=(29,true,Ak Ko)::M3
def JuX:∀p∈Jh9,Ci Aa p:=AC (Bf tN)<|Jfx
def Jic:Ac Cj:=Jh9
def Jyl:∀p∈Jic,Ci Aa p:=JuX
section
set_option maxRecDepth 100000
end
abbrev By:=Ac UInt8
def I7(l:By):Tc:=⟨l.toArray⟩
def sD(l:By):D:= .v (.string (I7 l))
def BO(n:Int):D:= .v (.int .u64 n)
def Gm(b:UInt8):D:= .v (.int .u8 b.toNat)
def sS(l:By):(I7 l).size=l.length:=by rfl
def Jhg(a b:By):I7 a++I7 b=I7 (a++b):=by rfl
def Jl1(l:By)(i j:Nat):(I7 l).extract i j=I7 ((l.take j).drop i):=by
 apply ByteArray.ext;simp[I7,ByteArray.data_extract,rR]
def Jtm(l:By)(i:Nat):(I7 l)[i]? =l[i]? :=by
 by_cases h:i<l.length
 ·have a:i<(I7 l).size:=by rw[sS];exact h
  rw[getElem?_pos _ i a,FQ h];rfl
 ·have a:¬i<(I7 l).size:=by rw[sS];exact h
  grind
theorem JhV(b:Tc):∀(n i:Nat) (r:By),b.size=i+n->ByteArray.toList.loop b i r=r.reverse++b.data.toList.drop i
 |0,i,r,h=>by
  unfold ByteArray.toList.loop;simp_all
 |n+1,i,r,h=>by
  unfold ByteArray.toList.loop;rw[Aw (by omega),JhV b n (i+1) _ (by omega)];have a:i<b.data.toList.length:=by simp_all
  rw[QW a];have:b.get! i=b.data.toList[i]:=by
   show b.data[i]! =_;rw[getElem!_pos b.data i (by simpa using a)];simp
  simp[this]
def JgG(l:By):(I7 l).toList=l:=by
 unfold ByteArray.toList;rw[JhV _ l.length 0 [] (by simp[I7,ByteArray.size])];simp[I7]
def JiB(s:Tc):I7 s.data.toList=s:=by rfl
@[simp] theorem Ue(l:By):Bq .str (sD l)=some (iD l.length):=by rfl
def JzS(a b:By)(h:a.length+b.length<=1000000):Ag .str .add (sD a) (sD b)=some (sD (a++b)):=by
 show Ux .add (I7 a) (I7 b)=_;simp only[Ux,sS];rw[Aw (by omega),Jhg];rfl
@[simp] theorem Sd(a b:By):Ag .str .eql (sD a) (sD b)=some (bD (decide (a=b))):=by
 show Ux .eql (I7 a) (I7 b)=_;simp only[Ux,JgG];congr 2;by_cases h:a=b<;>simp[h]
@[simp] theorem QgQ(a b:By):Ag .str .neq (sD a) (sD b)=some (bD (!decide (a=b))):=by
 show Ux .neq (I7 a) (I7 b)=_;simp only[Ux,JgG];congr 2;by_cases h:a=b<;>simp[h]
def Qa0(l:By)(i:Nat)(h:i<l.length):dW (sD l) (iD i)=some (Gm l[i]):=by
 simp only[dW,sD,UE,BR,Ju8];rw[Aw (by omega),BR,NL,Jtm,FQ h];rfl
def Ja6(l:By)(a b:Nat)(e:a<=b)(c:b<=l.length):Rt (sD l) (some (iD a)) (some (iD b))=some (sD ((l.take b).drop a)):=by
 have f:Nu (some (iD a))=some a:=by simp[Nu]
 have d:KX (I7 l).size (some (iD b))=some b:=by simp[KX]
 simp only[Rt,sD,UE,BR];rw[f,d];simp only[sS];rw[Aw ⟨e,c⟩,Jl1]
def Eu(l:By):Ac D:=l.map Gm
def dH(l:By):(Eu l).length=l.length:=by simp[Eu]
def JgI(l:By):(Eu l).all Df=true:=by
 induction l with
 |nil=>rfl
 |cons x r a=>simp only[Eu,EP,Na]at a⊢;rw[a];rfl
def Qeg(l:By):(Eu l).mapM Zp=some l:=by
 induction l with
 |nil=>rfl
 |cons x r a=>
  have e:Eu (x::r)=Gm x::Eu r:=rfl;have b:Zp (Gm x)=some x:=by simp[Zp,Gm]
  simp_all
def Jda(H:Ae)(id n:Nat)(t:AQ)(l:By)(h:H[id]? =some (.cells t 1 (Eu l)))(a:n=l.length):MH H (.hs id n)=some (sD l):=by
 subst a;have hs:GV 1 H (.hs id l.length)=some (Eu l):=by
  simp only[GV,h];rw[Aw ⟨trivial,by rw[dH];omega⟩,Q4 (by rw[dH];omega)]
 unfold MH;rw[hs,BR,Qeg];rfl
def Nz(k:IntKind)(n:Int)(b:0<=n)(a:n<=18446744073709551615):Dk .u64 (.v (.int k n))=some (BO n):=by rw[Dk,IntWalk.u64_in _ ⟨b,a⟩];rfl
def b8(n:Int):UInt8:=UInt8.ofNat (n%256).toNat
def UG(k:IntKind)(n:Int):Dk .u8 (.v (.int k n))=some (Gm (b8 n)):=by
 rw[Dk,IntKind.wrap_u8];have h:((b8 n).toNat:Int)=n%256:=by
  have b:0<=n%256:=Int.emod_nonneg _ (by omega);have a:n%256<256:=Int.emod_lt_of_pos _ (by omega);simp only[b8,UInt8.toNat_ofNat'];omega
 simp only[Gm,h]
def iJ(n:Int):((b8 n).toNat:Int)=n%256:=by
 have b:0<=n%256:=Int.emod_nonneg _ (by omega);have a:n%256<256:=Int.emod_lt_of_pos _ (by omega);simp only[b8,UInt8.toNat_ofNat'];omega
def MN:D->Af By
 | .v (.string s)=>some s.data.toList
 |_=>none
def Po:EU By:=⟨sD,MN,fun l=>by simp[MN,sD,I7],fun d a h=>by
 unfold MN at h;split at h
 ·cases h
  unfold sD;rw[JiB];exact AY.refl _
 ·cases h⟩
def JgY:D->Af Int
 | .v (.int .u64 n)=>some n
 |_=>none
def kL:EU Int:=⟨BO,JgY,fun _=>rfl,fun d a h=>by
 unfold JgY at h;split at h
 ·cases h;exact AY.refl _
 ·cases h⟩
@[simp] theorem JzF(l:By)(H:Ae):BB (some (sD l,H))=some (sD l):=Gu _ _ rfl
@[simp] theorem Qgk(n:Int)(H:Ae):BB (some (BO n,H))=some (BO n):=Gu _ _ rfl
@[simp] theorem Qh0{α:Type}(n:Int)(k:Af α):JS (BO n) k=k:=aJ _ k
@[simp] theorem Qho{α:Type}(n:UInt8)(k:Af α):JS (Gm n) k=k:=aJ _ k
@[simp] theorem Qgg(l:By):Df (sD l)=true:=rfl
@[simp] theorem QgV(n:Int):Df (BO n)=true:=rfl
@[simp] theorem Qh8(n:UInt8):Df (Gm n)=true:=rfl
@[simp] theorem Qgr(cs:Ac D):D7 (.agg cs)=some cs:=rfl
@[simp] theorem Qht(k:IntKind)(n:Int):D7 (.v (.int k n))=some [.v (.int k n)]:=rfl
@[simp] theorem Qf7(l:By):D7 (sD l)=some [sD l]:=rfl
@[simp] theorem QgP(n:Int):D7 (BO n)=some [BO n]:=rfl
@[simp] theorem QgO(l:Ac Nd):D7 (A8 l)=some [A8 l]:=rfl
@[simp] theorem Qgt(l:Ac Int):D7 (AL l)=some [AL l]:=rfl
@[simp] theorem Qgb(i n:Nat):D7 (.hs i n)=some [.hs i n]:=rfl
@[simp] theorem QfU(i n:Nat):D7 (.hp i n)=some [.hp i n]:=rfl
@[simp] theorem Qg6(f:Fn)(a b:Ac D):D7 (.clo f a b)=some [.clo f a b]:=rfl
@[simp] theorem Qhe(l:By):EC (sD l)=true:=rfl
@[simp] theorem Qhh(n:Int):EC (BO n)=true:=rfl
@[simp] theorem QfP(n:UInt8):EC (Gm n)=true:=rfl
@[simp] theorem Qhb(a:D)(l:Ac D):DN (.tup (a::l)) 0=some a:=rfl
@[simp] theorem Qgd(a b:D)(l:Ac D):DN (.tup (a::b::l)) 1=some b:=rfl
@[simp] theorem Qf3(a b c:D)(l:Ac D):DN (.tup (a::b::c::l)) 2=some c:=rfl
@[simp] theorem QdG(i o:Nat):Dj (.hp i o)=some (.hp i o):=rfl
theorem tI:∀l:Ac Int,OX (l.map IE) (l.map IE)=true
 |[]=>rfl
 |n::r=>by simp[OX,tI r,IE,Gy,eqB,Xd]
theorem JjJ:∀l:Ac Nd,OX (l.map Cb) (l.map Cb)=true
 |[]=>rfl
 |n::r=>by simp[OX,JjJ r,Cb,Gy,eqB,Xd]
@[simp] theorem Qgi(k:IntKind)(n:Int):eqB (.v (.int k n)) (.v (.int k n))=true:=by simp[eqB,Xd]
@[simp] theorem QfE(b:Bool):eqB (.v (.bool b)) (.v (.bool b))=true:=by simp[eqB,Xd]
@[simp] theorem Qhv(l:By):eqB (sD l) (sD l)=true:=by simp[sD,eqB,Xd]
@[simp] theorem QgD(l:Ac Int):eqB (AL l) (AL l)=true:=by simp[AL,eqB,tI]
@[simp] theorem Qhg(l:Ac Nd):eqB (A8 l) (A8 l)=true:=by simp[A8,eqB,JjJ]
@[simp] theorem Qgw(i n:Nat):eqB (.hs i n) (.hs i n)=true:=by simp[eqB]
@[simp] theorem QfL(i n:Nat):eqB (.hp i n) (.hp i n)=true:=by simp[eqB]
@[simp] theorem QgM:eqB Aq Aq=true:=rfl
@[simp] theorem Qg0:Gy [] []=true:=rfl
@[simp] theorem Qh1(a b:D)(r s:Ac D):Gy (a::r) (b::s)=(eqB a b&&Gy r s):=by simp[Gy]
def kR{α:Type}{i o:Nat}{H H':Ae}{t b:AQ}{sz a:Nat}{cs cs':Ac D}(k:Af α)(h:H[i]? =some (.cells t sz cs))(d:H'[i]? =some (.cells b a cs'))(c:Gy (cs.drop o) (cs'.drop o)=true):Eb (.hp i o) (some H) (some H') k=k:=by
 have:ZU (.hp i o) H H'=true:=by show QR i o H H'=true;unfold QR;rw[d,h];exact c
 show(match ZU (.hp i o) H H' with|true=>k|false=>none)=k;rw[this]
def Pe{α:Type}(i o:Nat)(H H':Ae)(t:AQ)(sz:Nat)(cs:Ac D)(k:Af α)(h:H[i]? =some (.cells t sz cs))(b:H'[i]? =H[i]?)(a:Gy cs cs=true):Eb (.hp i o) (some H) (some H') k=k:=
 kR k h (b.trans h) (yJ o a)
@[simp] theorem QfM(k:Kd)(a b:Int):Ag k .eql (BO a) (BO b)=some (.v (.bool (a==b))):=Nk k .u64 a b
@[simp] theorem Qgx(k:Kd)(a b:Int):Ag k .neq (BO a) (BO b)=some (.v (.bool (a !=b))):=Wl k .u64 a b
@[simp] theorem Qgq(k:Kd)(a b:Int):Ag k .lss (BO a) (BO b)=some (.v (.bool (decide (a<b)))):=JA k .u64 a b
@[simp] theorem Qgc(k:Kd)(a b:Int):Ag k .leq (BO a) (BO b)=some (.v (.bool (decide (a<=b)))):=xN k .u64 a b
@[simp] theorem Qg9(k:Kd)(a b:Int):Ag k .gtr (BO a) (BO b)=some (.v (.bool (decide (b<a)))):=tZ k .u64 a b
@[simp] theorem QfK(k:Kd)(a b:Int):Ag k .geq (BO a) (BO b)=some (.v (.bool (decide (b<=a)))):=Zn k .u64 a b
@[simp] theorem QgX(k:Kd)(a b:Int):Ag k .add (BO a) (BO b)=EJ .add .u64 a b:=Ll k .u64 a b
@[simp] theorem Qh5(k:Kd)(a b:Int):Ag k .sub (BO a) (BO b)=EJ .sub .u64 a b:=QE k .u64 a b
@[simp] theorem Qgv(k:Kd)(a b:Int):Ag k .mul (BO a) (BO b)=EJ .mul .u64 a b:=Js5 k .u64 a b
@[simp] theorem QhA(k:Kd)(a b:Int):Ag k .quo (BO a) (BO b)=EJ .quo .u64 a b:=EV k .u64 a b
@[simp] theorem Qhi(k:Kd)(a b:Int):Ag k .rem (BO a) (BO b)=EJ .rem .u64 a b:=Jnc k .u64 a b
@[simp] theorem QgK(k:Kd)(a b:Int):Ag k .and (BO a) (BO b)=EJ .and .u64 a b:=Jxa k .u64 a b
@[simp] theorem Qgf(k:Kd)(a b:Int):Ag k .or (BO a) (BO b)=EJ .or .u64 a b:=Jgd k .u64 a b
@[simp] theorem Qha(k:Kd)(a b:Int):Ag k .xor (BO a) (BO b)=EJ .xor .u64 a b:=QcE k .u64 a b
@[simp] theorem Qhd:Df (D.v Value.nilFunc)=true:=rfl
def NE:Nat->Int->By
 |0,n=>[b8 n]
 |f+1,n=>if n<128 then[b8 n]else b8 (128+n%128)::NE f (n/128)
def BU(n:Int):By:=NE 9 n
theorem JjL:∀(f:Nat) (n:Int),1<=(NE f n).length/\(NE f n).length<=f+1
 |0,n=>by simp[NE]
 |f+1,n=>by
  unfold NE;split
  ·simp
  ·have:=JjL f (n/128)
   grind
def Et(n:Int):1<=(BU n).length/\(BU n).length<=10:=JjL 9 n
def AH(a b:Int):Int:=IntKind.u64.wrap (BitVec.ofInt 64 a|||BitVec.ofInt 64 b).toNat
def Lg(b:UInt8)(k:Nat):Int:=IntKind.u64.wrap ((IntKind.u64.wrap (IntKind.u8.wrap (BitVec.ofInt 8 b.toNat&&&BitVec.ofInt 8 127).toNat))*2^(min (7*k) 64))
inductive Lb where
 |got (n:Int) (k:Nat) (b:UInt8)
 |bad (e:Int)
def lL:Nat->By->Nat->Int->Lb
 |0,_,_,_=> .bad 3
 |f+1,l,k,n=>
  match l with
  |[]=> .bad 2
  |b::r=>if b.toNat<128 then .got (AH n (Lg b k)) (k+1) b else lL f r (k+1) (AH n (Lg b k))
def TC(s:By)(i:Nat):Int×Nat×Int:=
 match lL 10 (s.drop i) 0 0 with
 | .bad e=>(0,i,e)
 | .got n k b=>if(b=0/\1<k)\/(k=10/\1<b.toNat)then(0,i,3)else(n,i+k,0)
def Jiw(a d:Int)(j:Nat)(m:0<=a)(f:a<2^j)(k:0<=d)(hs:a+d*2^j<2^64):AH a (d*2^j)=a+d*2^j:=by
 obtain⟨x,rfl⟩:=Fq m;obtain⟨y,rfl⟩:=Fq k;have g:x<2^j:=by exact_mod_cast f
 have l:x+y*2^j<2^64:=by exact_mod_cast hs
 have e:x|||(y*2^j)=x+y*2^j:=by
  rw[Nat.or_comm,SQ,<-Nat.two_pow_add_eq_or_of_lt g,Nat.add_comm]
 have c:x<2^64:=by omega
 have b:y*2^j<2^64:=by omega
 have i:(BitVec.ofInt 64 (x:Int)).toNat=x:=by simp[qS c]
 have h:(BitVec.ofInt 64 ((y:Int)*2^j)).toNat=y*2^j:=by
  have:((y:Int)*2^j)=((y*2^j:Nat):Int):=by push_cast;rfl
  rw[this,BitVec.toNat_ofInt];generalize y*2^j=z at b;have:((2^64:Nat):Int)=18446744073709551616:=by decide
  rw[this];omega
 unfold AH;rw[BitVec.toNat_or,i,h,e,IntWalk.u64_in _ ⟨by omega,by omega⟩]
 push_cast;rfl
def JbH(b:UInt8)(k:Nat)(h:7*k<=64)(hs:((b.toNat%128:Nat):Int)*2^(7*k)<2^64):Lg b k=((b.toNat%128:Nat):Int)*2^(7*k):=by
 have j:=b.toNat_lt;have i:b.toNat%128<128:=SS _ (by omega);have e:(BitVec.ofInt 8 (b.toNat:Int)&&&BitVec.ofInt 8 127).toNat=b.toNat%128:=by
  rw[BitVec.toNat_and];have g:(BitVec.ofInt 8 (b.toNat:Int)).toNat=b.toNat:=by simp
  have f:(BitVec.ofInt 8 127).toNat=2^7-1:=by decide
  rw[g,f,Jky]
 unfold Lg;rw[e];generalize b.toNat%128=z at*;have a:IntKind.u8.wrap (z:Int)=z:=IntWalk.u8_in _ ⟨by omega,by omega⟩;have c:IntKind.u64.wrap (z:Int)=z:=IntWalk.u64_in _ ⟨by omega,by omega⟩;rw[a,c,Nat.min_eq_left h];have d:(0:Int)<=(z:Int)*2^(7*k):=rS (by omega) (Int.pow_nonneg (by omega));exact IntWalk.u64_in _ ⟨d,by omega⟩
def R9(k:Nat):(2:Int)^(7*(k+1))=128*2^(7*k):=by grind
def Jqc:∀(f k:Nat) (m a:Int) (t:By),f+k=9->0<=m->0<=a->a<2^(7*k)->a+m*2^(7*k)<2^64->
  ∃b,lL (f+1) (NE f m++t) k a= .got (a+m*2^(7*k)) (k+(NE f m).length) b/\(k+(NE f m).length=10->b.toNat<=1)/\(b=0->m=0):=by
 intro f;have one:∀(f k:Nat) (m a:Int) (t:By),f+k=9->0<=m->m<128->0<=a->a<2^(7*k)->a+m*2^(7*k)<2^64->
   ∃b,lL (f+1) (b8 m::t) k a= .got (a+m*2^(7*k)) (k+1) b/\(k+1=10->b.toNat<=1)/\(b=0->m=0):=by
  intro f k m a t o l d j e hs;have p:=iJ m;have g:(b8 m).toNat<128:=by omega
  have c:(((b8 m).toNat%128:Nat):Int)=m:=by omega
  refine⟨b8 m,?_,?_,?_⟩
  ·simp only[lL];rw[Aw g,JbH _ _ (by omega) (by rw[c];omega),c,Jiw _ _ _ j e l hs]
  ·intro z;obtain rfl:k=9:=by omega
   have:(2:Int)^(7*9)=9223372036854775808:=by decide
   rw[this]at hs;have i:(2:Int)^64=18446744073709551616:=by decide
   rw[i]at hs;omega
  ·intro w;rw[w]at p;have:((0:UInt8).toNat:Int)=0:=rfl;omega
 induction f with
 |zero=>
  intro k m a t o l j e hs;obtain rfl:k=9:=by omega
  have d:m<128:=by
   have:(2:Int)^(7*9)=9223372036854775808:=by decide
   rw[this]at hs;have i:(2:Int)^64=18446744073709551616:=by decide
   rw[i]at hs;omega
  exact one 0 9 m a t o l d j e hs
 |succ f r=>
  intro k m a t o l j e hs;unfold NE;by_cases d:m<128
  ·rw[Aw d];exact one (f+1) k m a t o l d j e hs
  ·rw[Am d];have p:=iJ (128+m%128);have g:¬(b8 (128+m%128)).toNat<128:=by omega
   have c:(((b8 (128+m%128)).toNat%128:Nat):Int)=m%128:=by omega
   have hp:(0:Int)<=2^(7*k):=Int.pow_nonneg (by omega);have n:m*2^(7*k)=(m%128)*2^(7*k)+(m/128)*(128*2^(7*k)):=by
    have s:m=m%128+(m/128)*128:=by omega
    have x:m*2^(7*k)=(m%128+(m/128)*128)*2^(7*k):=by rw[<-s]
    rw[x,Int.add_mul,Int.mul_assoc]
   have A:0<=(m/128)*(128*2^(7*k)):=rS (by omega) (rS (by omega) hp);have y:0<=(m%128)*2^(7*k):=rS (by omega) hp;have B:(m%128)*2^(7*k)<=127*2^(7*k):=Int.mul_le_mul_of_nonneg_right (by omega) hp;obtain⟨b,q,u,v⟩:=r (k+1) (m/128) (a+(m%128)*2^(7*k)) t (by omega) (by omega) (by omega) (by rw[R9];omega) (by rw[R9];omega);refine⟨b,?_,?_,?_⟩
   ·rw[Jd,lL];rw[Am g,JbH _ _ (by omega) (by rw[c];omega),c,Jiw _ _ _ j e (by omega) (by omega),q,R9,Ej];congr 1
    ·omega
    ·omega
   ·intro h;exact u (by rw[Ej]at h;omega)
   ·intro h;have:=v h;omega
def Ca(s t:By)(n:Int)(f:0<=n)(j:n<=18446744073709551615):TC (s++(BU n++t)) s.length=(n,s.length+(BU n).length,0):=by
 have h:(2:Int)^64=18446744073709551616:=by decide
 obtain⟨b,g,i,d⟩:=Jqc 9 0 n 0 t rfl f (by omega) (by decide) (by omega);unfold TC;rw[pK rfl];have e:BU n=NE 9 n:=rfl;rw[e,g];simp only[Nat.mul_zero,Int.pow_zero,Int.mul_one,Int.zero_add,EE];rw[Am];rintro(⟨a,c⟩|⟨a,c⟩)
 ·have:=d a;subst this;have:(NE 9 0).length=1:=by decide
  omega
 omega
def Jf(t:Int):Int:=if t=1 then 2 else if t=2\/t=3\/t=4\/t=20\/t=21\/t=22 then 1 else 0
def Ez(n:Int):Int:=if 0<=n then 2*n else-2*n-1
def Nt(u:Int):Int:=if u%2=0 then u/2 else-(u/2)-1
def lA(n:Int):Nt (Ez n)=n:=by
 unfold Nt Ez;omega
def ND(x:Nd):By:=b8 x.1::(if Jf x.1=1 then BU x.2 else if Jf x.1=2 then BU (Ez x.2)else[])
def Ho(l:Ac Nd):By:=(l.map ND).flatten
def G8(p:Pg):By:=BU p.params++(BU p.vars.length++(p.vars.map b8++(BU p.body.length++Ho p.body)))
abbrev Rd:=Nat×Int
def VS(r:Rd)(a:Nat)(e:Int):Rd:=if r.2=0 then(if e=0 then(a,0)else(r.1,e))else r
def BY(m:Int×Nat×Int)(a:Int):Int:=if m.2.2=0/\(a<0\/a<m.1)then 4 else m.2.2
def aV(s:By)(r:Rd)(a:Int):Int×Rd:=
 ((if(VS r (TC s r.1).2.1 (BY (TC s r.1) a)).2=0 then(TC s r.1).1 else 0),VS r (TC s r.1).2.1 (BY (TC s r.1) a))
def Tf(s:By)(r:Rd):UInt8×Rd:=
 if r.1<s.length then((if r.2=0 then s.getD r.1 0 else 0),VS r (r.1+1) 0)else(0,VS r r.1 2)
def HM(s:By)(r:Rd):Int×Rd:=
 if(TC s r.1).2.2=0 then((if r.2=0 then Nt (TC s r.1).1 else 0),VS r (TC s r.1).2.1 0)else(0,VS r r.1 (TC s r.1).2.2)
def Wz(s:By)(r:Rd):Int:=if r.2=0/\r.1<s.length then 5 else r.2
def iE(s:By):Nat->Rd->Ac Int×Rd
 |0,r=>([],r)
 |n+1,r=>(((Tf s r).1.toNat:Int)::(iE s n (Tf s r).2).1,(iE s n (Tf s r).2).2)
def sZ(s:By)(r:Rd):Nd×Rd:=
 let t:Int:=(Tf s r).1.toNat
 if Jf t=1 then((t,(aV s (Tf s r).2 200).1),(aV s (Tf s r).2 200).2)
 else if Jf t=2 then((t,(HM s (Tf s r).2).1),(HM s (Tf s r).2).2)
 else((t,0),(Tf s r).2)
def iY(s:By):Nat->Rd->Ac Nd×Rd
 |0,r=>([],r)
 |n+1,r=>if Wz s r=5 then((sZ s r).1::(iY s n (sZ s r).2).1,(iY s n (sZ s r).2).2)else([],r)
def Ji5(s:By):Pg:=
 let a:=aV s (0,0) 12;let b:=aV s a.2 12;let c:=iE s b.1.toNat b.2;let d:=aV s c.2 200
 ⟨a.1,c.1,(iY s d.1.toNat d.2).1⟩
def AN(u t:By)(n a:Int)(c:0<=n)(e:n<=a)(b:n<=18446744073709551615):aV (u++(BU n++t)) (u.length,0) a=(n,(u.length+(BU n).length,0)):=by
 have h:=Ca u t n c b;have d:BY (n,u.length+(BU n).length,0) a=0:=by
  unfold BY;rw[Am];simp only;omega
 simp only[aV,h,d,VS,Bv]
def Jk9(u t:By)(n:Int)(b:0<=Ez n)(a:Ez n<=18446744073709551615):HM (u++(BU (Ez n)++t)) (u.length,0)=(n,(u.length+(BU (Ez n)).length,0)):=by
 have h:=Ca u t (Ez n) b a;simp only[HM,h,VS,Bv,lA]
def Jau(u t:By)(b:UInt8):Tf (u++(b::t)) (u.length,0)=(b,(u.length+1,0)):=by
 simp only[Tf,VS,Bv];simp
theorem JdF:∀(vs:Ac Int) (u t:By),(∀v∈vs,0<=v/\v<256)->iE (u++(vs.map b8++t)) vs.length (u.length,0)=(vs,(u.length+vs.length,0))
 |[],u,t,h=>by simp[iE]
 |v::vs,u,t,h=>by
  have d:=h v (KE ..);have c:=iJ v;have e:=Jau u (vs.map b8++t) (b8 v);have a:=JdF vs (u++[b8 v]) t fun x b=>h x (QY _ b);simp only[FV,Jd,JO,DC,Oh]at a;simp only[EP,Ej,Jd,iE,e,a]
  grind
def zF(x:Nd):Prop:=0<=x.1/\x.1<256/\(Jf x.1=1->0<=x.2/\x.2<=200)/\(Jf x.1=2-> -9223372036854775808<=x.2/\x.2<=9223372036854775807)/\(Jf x.1≠1->Jf x.1≠2->x.2=0)
def Hp(n:Int)(b: -9223372036854775808<=n)(a:n<=9223372036854775807):0<=Ez n/\Ez n<=18446744073709551615:=by
 unfold Ez;split<;>omega
def Qeq(u t:By)(x:Nd)(h:zF x):sZ (u++(ND x++t)) (u.length,0)=(x,(u.length+(ND x).length,0)):=by
 obtain⟨n,m,i,j,k⟩:=h;have o:=iJ x.1;have f:((b8 x.1).toNat:Int)=x.1:=by omega
 have e:=Jau u ((if Jf x.1=1 then BU x.2 else if Jf x.1=2 then BU (Ez x.2)else[])++t) (b8 x.1);have l:ND x++t=b8 x.1::((if Jf x.1=1 then BU x.2 else if Jf x.1=2 then BU (Ez x.2)else[])++t):=rfl;rw[l];simp only[sZ,e,f];by_cases d:Jf x.1=1
 ·have b:=i d;have c:=AN (u++[b8 x.1]) t x.2 200 b.1 b.2 (by omega);simp only[FV,Jd,JO,DC,Oh]at c;simp only[d,Bv,c];refine Prod.ext_iff.2 ⟨rfl,?_⟩;simp only[ND,d,Bv,Ej];congr 1;omega
 ·by_cases a:Jf x.1=2
  ·have b:=j a;have g:=Hp x.2 b.1 b.2;have c:=Jk9 (u++[b8 x.1]) t x.2 g.1 g.2;simp only[FV,Jd,JO,DC,Oh]at c;simp only[a,show¬((2:Int)=1)from by omega,BC,Bv,c];refine Prod.ext_iff.2 ⟨rfl,?_⟩;simp only[ND,a,show¬((2:Int)=1)from by omega,BC,Bv,Ej];congr 1;omega
  ·have b:=k d a;simp only[d,a,BC];refine Prod.ext_iff.2 ⟨?_,?_⟩
   ·grind
   ·simp only[ND,d,a,BC,Ej,Hf]
def Jxl(x:Nd):0<(ND x).length:=by simp[ND]
theorem JeE:∀(l:Ac Nd) (u t:By),(∀x∈l,zF x)->iY (u++(Ho l++t)) l.length (u.length,0)=(l,(u.length+(Ho l).length,0))
 |[],u,t,h=>by simp[iY,Ho]
 |x::l,u,t,h=>by
  have e:=Qeq u (Ho l++t) x (h x (KE ..));have b:=JeE l (u++ND x) t fun y a=>h y (QY _ a);simp only[FV,DC]at b;have c:Ho (x::l)=ND x++Ho l:=by simp[Ho]
  have hp:=Jxl x;rw[c,Ej,iY,FV];have d:Wz (u++(ND x++(Ho l++t))) (u.length,0)=5:=by
   unfold Wz
   grind
  grind
structure vW(p:Pg):Prop where
 params:0<=p.params/\p.params<=12
 vars:p.vars.length<=12/\∀v∈p.vars,0<=v/\v<256
 body:p.body.length<=200/\∀x∈p.body,zF x
def Jin(p:Pg)(h:vW p)(t:By):Ji5 (G8 p++t)=p:=by
 obtain⟨⟨j,i⟩,⟨k,g⟩,⟨l,f⟩⟩:=h;have a:=AN [] (BU p.vars.length++(p.vars.map b8++(BU p.body.length++(Ho p.body++t)))) p.params 12 j i (by omega);have b:=AN (BU p.params) (p.vars.map b8++(BU p.body.length++(Ho p.body++t))) p.vars.length 12 (by omega) (by omega) (by omega);have c:=JdF p.vars (BU p.params++BU p.vars.length) (BU p.body.length++(Ho p.body++t)) g;have d:=AN (BU p.params++(BU p.vars.length++p.vars.map b8)) (Ho p.body++t) p.body.length 200 (by omega) (by omega) (by omega);have e:=JeE p.body (BU p.params++(BU p.vars.length++(p.vars.map b8++BU p.body.length))) t f;simp only[JO,Hf,EE,FV,DC,Ju]at a b c d e;have hs:G8 p++t=BU p.params++(BU p.vars.length++(p.vars.map b8++(BU p.body.length++(Ho p.body++t)))):=by simp[G8]
 rw[hs];simp only[Ji5,a,b,NL,c];rw[show(BU p.params).length+(BU p.vars.length).length+p.vars.length=(BU p.params).length+((BU p.vars.length).length+p.vars.length)from by omega,d];simp only[NL];rw[show(BU p.params).length+((BU p.vars.length).length+p.vars.length)+(BU p.body.length).length=(BU p.params).length+((BU p.vars.length).length+(p.vars.length+(BU p.body.length).length))from by omega,e]
def Jxz(p q:Pg)(hp:vW p)(a:vW q)(t:By)(h:G8 p++t=G8 q):t=[]/\p=q:=by
 have c:=Jin p hp t;have b:=Jin q a [];simp_all
def xR:Ac D->Af D:=F1 BV fun n=>if-9223372036854775808<=n/\n<=9223372036854775807 then some (BO (Ez n))else none
def Jay(b:UInt8)(H:Ae):DI 5 1 1 [yZ] [(0,Gm b)] H=some (.hs H.length 1,H++[.cells 5 1 (Eu [b])]):=rfl
def Jdf:Ac Cj:=Jic
def JnB:∀p∈Jdf,Ci Aa p:=Jyl
section
variable (m : Nat)
end
def Buf(e:AQ)(sz:Nat)(H:Ae)(B:Nat)(d:D)(n:Nat)(cs:Ac D):Prop:=
 (d=Aq/\n=0/\cs=[])\/∃r,B<=r/\d= .hs r n/\H[r]? =some (.cells e sz cs)/\cs.length=n*sz
def Kp(B:Nat)(H H':Ae):Prop:=H.length<=H'.length/\∀k,k<B->H'[k]? =H[k]?
def Kp.refl(B:Nat)(H:Ae):Kp B H H:=⟨BQ _,fun _ _=>rfl⟩
def Kp.trans{B:Nat}{H H' a:Ae}(h:Kp B H H')(k:Kp B H' a):Kp B H a:=⟨Ig h.1 k.1,fun i b=>(k.2 i b).trans (h.2 i b)⟩
def Kp.mono{B C:Nat}{H H':Ae}(h:Kp B H H')(b:C<=B):Kp C H H':=⟨h.1,fun i a=>h.2 i (by omega)⟩
def Kp.app(B:Nat)(H t:Ae)(h:B<=H.length):Kp B H (H++t):=⟨by simp,fun k a=>Ii (by omega)⟩
def Kp.set{B:Nat}(H:Ae)(i:Nat)(o:HO)(h:B<=i):Kp B H (H.set i o):=⟨by simp,fun k a=>by grind⟩
def Buf.nil(e:AQ)(sz:Nat)(H:Ae)(B:Nat):Buf e sz H B Aq 0 []:= .inl ⟨rfl,rfl,rfl⟩
def Buf.len{e:AQ}{sz:Nat}{H:Ae}{B:Nat}{d:D}{n:Nat}{cs:Ac D}(h:Buf e sz H B d n cs):cs.length=n*sz:=by
 rcases h with⟨_,rfl,rfl⟩|⟨_,_,_,_,h⟩
 ·simp
 ·exact h
def Buf.ok{e:AQ}{sz:Nat}{H:Ae}{B:Nat}{d:D}{n:Nat}{cs:Ac D}(h:Buf e sz H B d n cs):Df d=true:=by
 rcases h with⟨rfl,_,_⟩|⟨_,_,rfl,_,_⟩<;>rfl
def Buf.keep{e:AQ}{sz:Nat}{H H':Ae}{B:Nat}{d:D}{n:Nat}{cs:Ac D}(h:Buf e sz H B d n cs)(k:∀r m,d= .hs r m->H'[r]? =H[r]?):Buf e sz H' B d n cs:=by
 rcases h with h|⟨r,f,a,b,c⟩
 ·exact .inl h
 ·exact .inr ⟨r,f,a,(k r n a).trans b,c⟩
def Buf.app{e:AQ}{sz:Nat}{H:Ae}{B:Nat}{d:D}{n:Nat}{cs:Ac D}(h:Buf e sz H B d n cs)(t:Ae):Buf e sz (H++t) B d n cs:=by
 rcases h with h|⟨r,c,b,f,a⟩
 ·exact .inl h
 ·exact .inr ⟨r,c,b,by grind,a⟩
def Buf.set{e:AQ}{sz:Nat}{H:Ae}{B:Nat}{d:D}{n:Nat}{cs:Ac D}(h:Buf e sz H B d n cs)(i:Nat)(o:HO)(g:i<B):Buf e sz (H.set i o) B d n cs:=by
 rcases h with h|⟨r,c,b,f,a⟩
 ·exact .inl h
 ·exact .inr ⟨r,c,b,by grind,a⟩
def Buf.lt{e:AQ}{sz:Nat}{H:Ae}{B:Nat}{n r m:Nat}{cs:Ac D}(h:Buf e sz H B (.hs r m) n cs):B<=r/\r<H.length:=by
 rcases h with⟨h,_⟩|⟨b,f,d,a,c⟩
 ·cases h
 grind
def nN{e:AQ}{sz:Nat}{H:Ae}{B:Nat}{d:D}{n m:Nat}{cs new:Ac D}(h:Buf e sz H B d n cs)(i:0<sz)(g:new.length=m*sz)(s:new.all Df=true)(o:cs.length+new.length<=4000000)(b:B<=H.length):
  ∃a H',KW e sz d new H=some (a,H')/\Buf e sz H' B a (n+m) (cs++new)/\Kp B H H'/\(∀k,k<H.length->(∀q,d≠ .hs k q)->H'[k]? =H[k]?)/\(a=d\/∃q,a= .hs H.length q):=by
 have f:new.length/sz=m:=by simp_all
 have l:¬(sz=0\/(!new.all Df)=true):=by grind
 rcases h with⟨rfl,rfl,rfl⟩|⟨r,v,rfl,w,u⟩
 ·simp only[Hf,EE]at o;by_cases j:new.length=0
  ·obtain rfl:new=[]:=NK.1 j;have p:m=0:=by
    have:m*sz=0:=by simpa using g.symm
    rcases Nat.mul_eq_zero.1 this with h|h
    ·exact h
    ·omega
   subst p;exact⟨_,H,by unfold KW;rw[Am l];simp,.inl ⟨rfl,rfl,rfl⟩,Kp.refl _ _,fun _ _ _=>rfl,.inl rfl⟩
  ·refine⟨.hs H.length m,H++[.cells e sz new],by unfold KW;grind,.inr ⟨H.length,b,by simp,by simp,by simpa using g⟩,Kp.app _ _ _ b,fun k c _=>Ii c,.inr ⟨_,rfl⟩⟩
 ·refine⟨.hs H.length (n+m),(H.set r .dead)++[.cells e sz (cs++new)],?_,.inr ⟨H.length,b,rfl,?_,?_⟩,?_,?_,.inr ⟨_,rfl⟩⟩
  ·unfold KW
   grind
  ·simp
  ·grind
  ·refine⟨by simp,fun k c=> ?_⟩
   grind
  ·intro k c t
   grind
def Buf.text{e:AQ}{H:Ae}{B:Nat}{d:D}{n:Nat}{l:By}(h:Buf e 1 H B d n (Eu l)):MH H d=some (sD l):=by
 have a:=h.len;rw[dH,Ze]at a;rcases h with⟨rfl,rfl,h⟩|⟨r,f,rfl,b,c⟩
 ·have:l=[]:=NK.1 (by simpa using a);subst this;rfl
 ·exact Jda H r n e l b a.symm
def JwL(a b:By):Eu (a++b)=Eu a++Eu b:=by simp[Eu]
def Jva(e:AQ)(d:D)(l:By)(H:Ae):UQ e 1 d (sD l) H=KW e 1 d (Eu l) H:=by rfl
def gA{e:AQ}{H:Ae}{B:Nat}{d:D}{l:By}(h:Buf e 1 H B d l.length (Eu l))(m:By)(j:l.length+m.length<=4000000)(c:B<=H.length):
  ∃a H',KW e 1 d (Eu m) H=some (a,H')/\Buf e 1 H' B a (l++m).length (Eu (l++m))/\Kp B H H'/\(∀k,k<H.length->(∀q,d≠ .hs k q)->H'[k]? =H[k]?)/\(a=d\/∃q,a= .hs H.length q):=by
 obtain⟨a,H',i,g,b,f,n⟩:=nN (m:=m.length) h (by omega) (by rw[dH];omega) (JgI m) (by rw[dH,dH];exact j) c;exact⟨a,H',i,by rw[DC,JwL];exact g,b,f,n⟩
def Gs(H:Ae)(w:Nat)(t:AQ)(sz:Nat)(d:D)(r:Ac D)(h:H[w]? =some (.cells t sz (d::r))):Ai none H (.hp w 0)=some d:=by simp[h]
def D6(H:Ae)(w i:Nat)(t:AQ)(sz:Nat)(cs:Ac D)(d:D)(h:H[w]? =some (.cells t sz cs))(a:cs[i]? =some d):Ai none H (.hp w i)=some d:=by simp_all
def IV(H:Ae)(w i:Nat)(t:AQ)(sz:Nat)(cs:Ac D)(d:D)(h:H[w]? =some (.cells t sz cs))(b:i<cs.length)(a:D7 d=some [d])(c:Df d=true):Bh 1 (.hp w i) d H=some (.v undef,H.set w (.cells t sz (cs.set i d))):=by
 have e:cs.take i++[d]++cs.drop (i+1)=cs.set i d:=by rw[Ay,Aw b];simp
 simp only[Bh,FI,a,h,Oh]
 grind
def Buf.cells{e:AQ}{sz:Nat}{H:Ae}{B:Nat}{d:D}{n:Nat}{cs:Ac D}(h:Buf e sz H B d n cs):D7 d=some [d]:=by
 rcases h with⟨rfl,_,_⟩|⟨_,_,rfl,_,_⟩<;>rfl
def mJ:Ac D->Af D:=F1 kL fun n=>if 0<=n/\n<=18446744073709551615 then some (sD (BU n))else none
def Wb:Ac Cj:=Jdf
def Jg7:∀p∈Wb,Ci Aa p:=JnB
def oP:Tab:=⟨Wb,BM,[]⟩
def Lq:Bg Aa oP:=CU Jg7
def Jbt:Ac Nat:=[]
def Jph(n:Nat)(a:D)(h:Ae):AB Aa oP Jbt n f224 [a] h=
(Ad (Ag .int .shl a (.v (.int .u64 1))) fun b=>
some (b,h)):=by kernel_rfl
def JcB:Ac Nat:=[]
def Qak(n:Nat)(a:D)(h:Ae):AB Aa oP JcB n f225 [a] h=
(Ad (Ag .int .shl a (.v (.int .u64 1))) fun b=>
Ad (bF b) fun c=>
some (c,h)):=by kernel_rfl
def Juj:Ac Nat:=[]
def Jvn:Ac Nat:=[]
end Go.Proofs.YtapdelkomkpgmaaGreatDoor
