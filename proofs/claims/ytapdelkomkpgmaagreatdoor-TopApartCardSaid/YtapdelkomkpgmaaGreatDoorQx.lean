import Derived.Test.YtapdelkomkpgmaaGreatDoorQw
namespace Go.Proofs.YtapdelkomkpgmaaGreatDoor
open Go.Proofs.Tryz
open Go.RowKit
set_option maxRecDepth 100000
set_option linter.all false
structure Py(vs:List Int)(s:St):Prop where
 vals:s.vals.length=vs.length
 arrs:s.arrs.length=vs.length
 bits:∀(i:Nat) (v:Int),vs[i]? =some 1->s.vals[i]? =some v->v=0\/v=1
 lens:∀(i:Nat) (t:Int) (r:List Int),vs[i]? =some t->s.arrs[i]? =some r->(r.length:Int)=JP t
def dU(vs:Ac Int)(fuel:Int)(κ:Int)(c:Int):Ey->Prop
 | .val v s=>(κ=0\/κ=1/\(v=0\/v=1))/\Py vs s/\c<=s.steps/\s.steps<=fuel
 | .unit s=>κ=2/\Py vs s/\c<=s.steps/\s.steps<=fuel
 | .halt k v s=>(0<=k/\k<=4)/\(k≠0->v=0)/\Py vs s/\c<=s.steps/\s.steps<=fuel
section
variable {vs : Ac Int} {fuel : Int} {l : Ac Nd}
def Qec{k:Nat}(h:0<=Bc l k){κ:Int}(a:kv vs l k=κ)(n:κ≠-1):KT vs (Bj l k).2 (Gx (Bj l k).1)=κ/\(IG vs (Bj l k) (AZ l k).length (Gx (Bj l k).1)).length=(AZ l k).length/\∀(j:Nat) (x:Int),(AZ l k)[j]? =some x->some (kv vs l x)=(IG vs (Bj l k) (AZ l k).length (Gx (Bj l k).1))[j]? /\0<=Bc l x/\0<=x:=by
 rw[Qez vs l k h]at a;unfold Rb at a;simp only[Ju]at a;split at a
 ·omega
 rename_i i;split at a
 case isFalse=>omega
 rename_i f;have b:(IG vs (Bj l k) (AZ l k).length (Gx (Bj l k).1)).length=(AZ l k).length:=Classical.byContradiction fun q=>i (.inr q);refine⟨a,b,fun j x g=> ?_⟩;obtain⟨e,c⟩:=CV.1 g;have d:=jS l k j e;rw[c]at d;refine⟨?_,d.2.1,by omega⟩;rw[Ew]at f;have m:=f j (by simpa using e)
 grind
def DE(f:Int->St->Af Ey)(i t n:Int)(c:Ac Int)(s:St):Af Ey:=
 if t=1\/t=2 then some (.val n s)else
 if t=3 then(if 0<=n then(s.vals[n.toNat]?).map fun v=> .val v s else none)else
 if t=4 then FW c 0 fun k=>GZ (f k s) fun v s=>if 0<=n then(s.arrs[n.toNat]?).map fun r=>if 0<=v/\v<r.length then .val (r.getD v.toNat 0) s else .halt 2 0 s else none else
 if t=5 then FW c 0 fun k=>GZ (f k s) fun v s=>some (.val (Jw (0-v)) s)else
 if t=6 then FW c 0 fun k=>GZ (f k s) fun v s=>some (.val (Jw (1-v)) s)else
 if t=18\/t=19 then FW c 0 fun k=>GZ (f k s) fun v s=>if v=(if t=18 then 0 else 1)then some (.val v s)else FW c 1 fun k=>GZ (f k s) fun v s=>some (.val v s)else
 if t=20 then WH f c s else
 if t=21 then FW c 0 fun k=>GZ (f k s) fun v s=>if 0<=n/\n.toNat<s.vals.length then some (.unit (lX n v s))else none else
 if t=22 then FW c 0 fun k=>GZ (f k s) fun a s=>FW c 1 fun k=>GZ (f k s) fun v s=>if 0<=n then(s.arrs[n.toNat]?).map fun r=>if 0<=a/\a<r.length then .unit (iI n a v r s)else .halt 2 0 s else none else
 if t=23 then FW c 0 fun k=>GZ (f k s) fun b s=>if 0<=b/\b<=1 then FW c (2-b).toNat fun k=>Vm (f k s) fun s=>some (.unit s)else none else
 if t=24 then FW c 0 fun k=>GZ (f k s) fun b s=>if b=0 then some (.unit s)else if b=1 then FW c 1 fun k=>Vm (f k s) fun s=>f i s else none else
 if t=25 then FW c 0 fun k=>GZ (f k s) fun v s=>some (.halt 0 v s)else
 if t=26 then some (.unit s)else
 if X6 t then FW c 0 fun k=>GZ (f k s) fun a s=>FW c 1 fun k=>GZ (f k s) fun b s=>if b=0/\(t=10\/t=11)then some (.halt 1 0 s)else some (.val (Js t a b) s)else none
def Jtc{x:Nd}(h:0<=ar x):1<=x.1/\x.1<=26/\(x.1≠1->0<=x.2/\x.2<=(EF x.1 x.2).1):=by
 unfold ar at h;split at h
 ·omega
 ·rename_i b;split at h
  ·omega
  ·rename_i a;refine⟨?_,?_,fun _=>by omega⟩
   ·refine Classical.byContradiction fun q=> ?_;have:EF x.1 x.2=(-1,-1):=by
     unfold EF
     grind
    grind
   ·refine Classical.byContradiction fun q=> ?_;have:EF x.1 x.2=(-1,-1):=by
     unfold EF
     grind
    grind
def Py.inc{s:St}(h:Py vs s):Py vs (EZ s):=⟨h.vals,h.arrs,h.bits,h.lens⟩
theorem Jhd:∀(n:Nat) (k:Nat) (s:St) (κ:Int),0<=Bc l k->kv vs l k=κ->κ≠-1->Py vs s->s.steps<=fuel->(fuel-s.steps).toNat<n->∃res,ev fuel l n k s=some res/\dU vs fuel κ s.steps res
 |0,k,s,κ,hE,hk,hκ,hs,hf,hn=>by omega
 |n+1,k,s,κ,hE,hk,hκ,hs,hf,hn=>by
  have IH:=Jhd n;by_cases h0:s.steps=fuel
  ·exact⟨.halt 4 0 s,by simp only[ev,Aw h0],by decide,fun _=>rfl,hs,Ab _,hf⟩
  have ai:ev fuel l (n+1) k s=DE (ev fuel l n) k (Bj l k).1 (Bj l k).2 (AZ l k) (EZ s):=by
   simp only[ev,Am h0];rfl
  rw[ai];obtain⟨m,R,aa⟩:=Qec hE hk hκ;have am:0<=ar (Bj l k):=by
   have O:=gU l k hE;have w:=(F6 l k hE).2;simp only[NL]at w;rw[XN l k w]at O;rw[show Bj l k=l[k]from by simp[Bj,w]];exact O
  obtain⟨ah,aj,J⟩:=Jtc am;have S:∀(j:Nat) (κj:Int),(IG vs (Bj l k) (AZ l k).length (Gx (Bj l k).1))[j]? =some κj->∃x:Nat,(AZ l k)[j]? =some (x:Int)/\kv vs l x=κj/\0<=Bc l x:=by
   intro j κj Y;have G:=(CV.1 Y).1;rw[R]at G;obtain⟨O,w,C⟩:=aa j _ (FQ G);obtain⟨x,hx⟩:=Fq C;rw[Y]at O;refine⟨x,by grind,?_,by rw[<-hx];exact w⟩;rw[<-hx];exact Option.some.inj O
  have o:Py vs (EZ s):=hs.inc;have aw:(EZ s).steps=s.steps+1:=rfl;have d:∀(j:Nat) (κj:Int) (s':St) (K:Int->St->Af Ey),(IG vs (Bj l k) (AZ l k).length (Gx (Bj l k).1))[j]? =some κj->(κj=0\/κj=1)->Py vs s'->s.steps+1<=s'.steps->s'.steps<=fuel->(∀v g,(κj=1->v=0\/v=1)->Py vs g->s.steps+1<=g.steps->g.steps<=fuel->∃res,K v g=some res/\dU vs fuel κ s.steps res)->∃res,(FW (AZ l k) j fun k=>GZ (ev fuel l n k s') K)=some res/\dU vs fuel κ s.steps res:=by
   intro j κj s' K Y au ae hc ab hK;obtain⟨x,af,ac,ad⟩:=S j κj Y;obtain⟨res,O,w⟩:=IH x s' κj ad ac (by omega) ae ab (by omega);simp only[FW,af,O];cases res with
   |val v g=>
    obtain⟨Q,L,g3,g4⟩:=w;exact hK v g (fun e=>by omega) L (by omega) g4
   |unit g=>obtain⟨Q,_⟩:=w;omega
   |halt e v g=>
    obtain⟨Q,L,g3,g4,g5⟩:=w;exact⟨_,rfl,Q,L,g3,by omega,g5⟩
  have I:∀(j:Nat) (s':St) (K:St->Af Ey),(IG vs (Bj l k) (AZ l k).length (Gx (Bj l k).1))[j]? =some 2->Py vs s'->s.steps+1<=s'.steps->s'.steps<=fuel->(∀g,Py vs g->s.steps+1<=g.steps->g.steps<=fuel->∃res,K g=some res/\dU vs fuel κ s.steps res)->∃res,(FW (AZ l k) j fun k=>Vm (ev fuel l n k s') K)=some res/\dU vs fuel κ s.steps res:=by
   intro j s' K Y ae hc ab hK;obtain⟨x,af,ac,ad⟩:=S j 2 Y;obtain⟨res,O,w⟩:=IH x s' 2 ad ac (by omega) ae ab (by omega);simp only[FW,af,O];cases res with
   |val v g=>obtain⟨Q,_⟩:=w;omega
   |unit g=>
    obtain⟨Q,L,g3,g4⟩:=w;exact hK g L (by omega) g4
   |halt e v g=>
    obtain⟨Q,L,g3,g4,g5⟩:=w;exact⟨_,rfl,Q,L,g3,by omega,g5⟩
  have an:=hk;clear ai am hk aa;revert m R J ah aj S d I;generalize Bj l k=x;generalize AZ l k=P;obtain⟨t,p⟩:=x;dsimp only;intro m R ah aj J S d I;have ap:s.steps+1<=fuel:=by omega
  have one:t=1\/t=2\/t=3\/t=4\/t=5\/t=6\/(7<=t/\t<=17)\/t=18\/t=19\/t=20\/t=21\/t=22\/t=23\/t=24\/t=25\/t=26:=by omega
  have E:∀c,p>=0->Oo vs p=c->c≠-1->vs[p.toNat]? =some c:=by
   intro c O w C;unfold Oo at w;rw[Am (by omega),Ed]at w;cases hv:vs[p.toNat]? with
   |none=>grind
   |some c'=>grind
  rcases one with rfl|rfl|rfl|rfl|rfl|rfl|av|rfl|rfl|rfl|rfl|rfl|rfl|rfl|rfl|rfl
  ·have:κ=0:=m.symm;exact⟨.val p (EZ s),rfl,.inl this,o,by omega,by omega⟩
  ·have w:=J (by decide);have C:(EF 2 p).1=1:=rfl;exact⟨.val p (EZ s),rfl,.inr ⟨m.symm,by omega⟩,o,by omega,by omega⟩
  ·have w:=J (by decide);have m:WE vs p false=κ:=m;unfold WE at m;split at m
   case isFalse=>omega
   rename_i C;simp only[BF,BC]at m;have V:=E κ w.1 m hκ;have G:p.toNat<(EZ s).vals.length:=by rw[o.vals];exact(CV.1 V).1
   refine⟨.val ((EZ s).vals[p.toNat]) (EZ s),?_,?_,o,by omega,by omega⟩
   ·show(if 0<=p then((EZ s).vals[p.toNat]?).map fun v=>Ey.val v (EZ s)else none)=_
    grind
   ·rw[m]at C;rcases C with C|C
    ·exact .inl C
    ·subst C;exact .inr ⟨rfl,o.bits _ _ V (FQ G)⟩
  ·have w:=J (by decide);have m:Ya vs p 0=κ:=m;unfold Ya at m;split at m
   ·omega
   rename_i C;have V:=E (Oo vs p) w.1 rfl (fun e=>C (by rw[e];rfl));have G:p.toNat<(EZ s).arrs.length:=by rw[o.arrs];exact(CV.1 V).1
   refine d 0 0 (EZ s) _ rfl (.inl rfl) o (by omega) (by omega) fun v g _ A W F=> ?_;have H:p.toNat<g.arrs.length:=by rw[A.arrs];exact(CV.1 V).1
   rw[Aw w.1,FQ H,Dt];split
   ·exact⟨_,rfl,.inl m.symm,A,by omega,F⟩
   ·exact⟨_,rfl,by decide,fun _=>rfl,A,by omega,F⟩
  ·refine d 0 0 (EZ s) _ rfl (.inl rfl) o (by omega) (by omega) fun v g _ A W F=> ?_;exact⟨_,rfl,.inl m.symm,A,by omega,F⟩
  ·refine d 0 1 (EZ s) _ rfl (.inr rfl) o (by omega) (by omega) fun v g hv A W F=> ?_;refine⟨_,rfl,.inr ⟨m.symm,?_⟩,A,by omega,F⟩;rcases hv rfl with rfl|rfl
   ·exact .inr rfl
   ·exact .inl rfl
  ·have ag:(Gx t= .plain [0,0] 0\/Gx t= .plain [0,0] 1/\12<=t)/\∀f i n P s,DE f i t n P s=FW P 0 fun k=>GZ (f k s) fun a s=>FW P 1 fun k=>GZ (f k s) fun b s=>if b=0/\(t=10\/t=11)then some (.halt 1 0 s)else some (.val (Js t a b) s):=by
    have:t=7\/t=8\/t=9\/t=10\/t=11\/t=12\/t=13\/t=14\/t=15\/t=16\/t=17:=by omega
    rcases this with rfl|rfl|rfl|rfl|rfl|rfl|rfl|rfl|rfl|rfl|rfl
    ·exact⟨.inl rfl,fun _ _ _ _ _=>rfl⟩
    ·exact⟨.inl rfl,fun _ _ _ _ _=>rfl⟩
    ·exact⟨.inl rfl,fun _ _ _ _ _=>rfl⟩
    ·exact⟨.inl rfl,fun _ _ _ _ _=>rfl⟩
    ·exact⟨.inl rfl,fun _ _ _ _ _=>rfl⟩
    ·exact⟨.inr ⟨rfl,by decide⟩,fun _ _ _ _ _=>rfl⟩
    ·exact⟨.inr ⟨rfl,by decide⟩,fun _ _ _ _ _=>rfl⟩
    ·exact⟨.inr ⟨rfl,by decide⟩,fun _ _ _ _ _=>rfl⟩
    ·exact⟨.inr ⟨rfl,by decide⟩,fun _ _ _ _ _=>rfl⟩
    ·exact⟨.inr ⟨rfl,by decide⟩,fun _ _ _ _ _=>rfl⟩
    ·exact⟨.inr ⟨rfl,by decide⟩,fun _ _ _ _ _=>rfl⟩
   obtain⟨U,al⟩:=ag;have ao:∀b:Bool,Rx b=0\/Rx b=1:=by intro b;cases b<;>decide
   rw[al];have D:IG vs (t,p) P.length (Gx t)=[0,0]:=by rcases U with h|⟨h,_⟩<;>rw[h]<;>rfl
   refine d 0 0 (EZ s) _ (by rw[D];rfl) (.inl rfl) o (by omega) (by omega) fun a g _ A W F=> ?_;refine d 1 0 g _ (by rw[D];rfl) (.inl rfl) A (by omega) (by omega) fun b T _ B q2 M=> ?_;split
   ·exact⟨_,rfl,by decide,fun _=>rfl,B,by omega,M⟩
   ·refine⟨_,rfl,?_,B,by omega,M⟩;rcases U with h|⟨h,aq⟩
    ·rw[h]at m;exact .inl m.symm
    ·rw[h]at m;refine .inr ⟨m.symm,?_⟩;unfold Js;rw[Am (by omega),Am (by omega),Am (by omega),Am (by omega),Am (by omega)]
     grind
  ·refine d 0 1 (EZ s) _ rfl (.inr rfl) o (by omega) (by omega) fun v g hv A W F=> ?_;rw[show(if(18:Int)=18 then(0:Int)else 1)=0 from rfl];split
   ·exact⟨_,rfl,.inr ⟨m.symm,hv rfl⟩,A,by omega,F⟩
   ·refine d 1 1 g _ rfl (.inr rfl) A (by omega) (by omega) fun u T N B q2 M=> ?_;exact⟨_,rfl,.inr ⟨m.symm,N rfl⟩,B,by omega,M⟩
  ·refine d 0 1 (EZ s) _ rfl (.inr rfl) o (by omega) (by omega) fun v g hv A W F=> ?_;rw[show(if(19:Int)=18 then(0:Int)else 1)=1 from rfl];split
   ·exact⟨_,rfl,.inr ⟨m.symm,hv rfl⟩,A,by omega,F⟩
   ·refine d 1 1 g _ rfl (.inr rfl) A (by omega) (by omega) fun u T N B q2 M=> ?_;exact⟨_,rfl,.inr ⟨m.symm,N rfl⟩,B,by omega,M⟩
  ·have D:IG vs (20,p) P.length (Gx 20)=List.replicate P.length 2:=rfl;show∃res,WH (ev fuel l n) P (EZ s)=some res/\dU vs fuel κ s.steps res;have ak:∀x∈P,∃y:Nat,x=(y:Int)/\kv vs l y=2/\0<=Bc l y:=by
    intro x hx;obtain⟨j,Y,rfl⟩:=Jkx hx;obtain⟨y,O,w,C⟩:=S j 2 (by rw[D];simp[Y]);rw[FQ Y]at O;exact⟨y,Option.some.inj O,w,C⟩
   have go:∀(r:Ac Int),(∀x∈r,∃y:Nat,x=(y:Int)/\kv vs l y=2/\0<=Bc l y)->∀s',Py vs s'->s.steps+1<=s'.steps->s'.steps<=fuel->∃res,WH (ev fuel l n) r s'=some res/\dU vs fuel κ s.steps res:=by
    intro r
    induction r with
    |nil=>intro _ s' a1 a2 a3;exact⟨_,rfl,m.symm,a1,by omega,a3⟩
    |cons x r ih=>
     intro hx s' a1 a2 a3;obtain⟨y,rfl,w,C⟩:=hx x (by simp);obtain⟨res,Q,L⟩:=IH y s' 2 C w (by omega) a1 a3 (by omega);simp only[WH,Q];cases res with
     |val v g=>obtain⟨Z,_⟩:=L;omega
     |unit g=>
      obtain⟨Z,X,c3,c4⟩:=L;exact ih (fun z hz=>hx z (by simp[hz])) g X (by omega) c4
     |halt e v g=>
      obtain⟨Z,X,c3,c4,c5⟩:=L;exact⟨_,rfl,Z,X,c3,by omega,c5⟩
   exact go P ak (EZ s) o (by omega) (by omega)
  ·have w:=J (by decide);have m:WE vs p true=κ:=m;unfold WE at m;split at m
   case isFalse=>omega
   rename_i C;simp only[Bv]at m;have V:=E (Oo vs p) w.1 rfl (by omega);have G:=(CV.1 V).1;have D:IG vs (21,p) P.length (Gx 21)=[Oo vs p]:=by
    show(if p.toNat<vs.length then[vs.getD p.toNat 0]else[])=_;rw[Aw G,Ed,V];rfl
   refine d 0 (Oo vs p) (EZ s) _ (by rw[D];rfl) C o (by omega) (by omega) fun v g hv A W F=> ?_;rw[Aw ⟨w.1,by rw[A.vals];exact G⟩];refine⟨_,rfl,m.symm,⟨by simp[lX,A.vals],A.arrs,?_,A.lens⟩,by show _<=g.steps;omega,F⟩;intro i u hi N;have N:(g.vals.set p.toNat v)[i]? =some u:=N;by_cases he:p.toNat=i
   ·grind
   ·rw[Ee he]at N;exact A.bits i u hi N
  ·have w:=J (by decide);have m:Ya vs p 2=κ:=m;unfold Ya at m;split at m
   ·omega
   rename_i C;have V:=E (Oo vs p) w.1 rfl (fun e=>C (by rw[e];rfl));refine d 0 0 (EZ s) _ rfl (.inl rfl) o (by omega) (by omega) fun a g _ A W F=> ?_;refine d 1 0 g _ rfl (.inl rfl) A (by omega) (by omega) fun v T _ B q2 M=> ?_;have H:p.toNat<T.arrs.length:=by rw[B.arrs];exact(CV.1 V).1
   rw[Aw w.1,FQ H,Dt];split
   ·refine⟨_,rfl,m.symm,⟨B.vals,by simp[iI,B.arrs],B.bits,?_⟩,by show _<=T.steps;omega,M⟩;intro i u r hi N;have N:(T.arrs.set p.toNat (T.arrs[p.toNat].set a.toNat v))[i]? =some r:=N;by_cases he:p.toNat=i
    ·subst he;rw[Hw H]at N;cases N;rw[Za];exact B.lens _ _ _ hi (FQ H)
    ·rw[Ee he]at N;exact B.lens i u r hi N
   ·exact⟨_,rfl,by decide,fun _=>rfl,B,by omega,M⟩
  ·refine d 0 1 (EZ s) _ rfl (.inr rfl) o (by omega) (by omega) fun b g hb A W F=> ?_;rcases hb rfl with rfl|rfl
   ·exact I 2 g _ rfl A (by omega) (by omega) fun T B q2 M=>⟨_,rfl,m.symm,B,by omega,M⟩
   ·exact I 1 g _ rfl A (by omega) (by omega) fun T B q2 M=>⟨_,rfl,m.symm,B,by omega,M⟩
  ·refine d 0 1 (EZ s) _ rfl (.inr rfl) o (by omega) (by omega) fun b g hb A W F=> ?_;rcases hb rfl with rfl|rfl
   ·exact⟨_,rfl,m.symm,A,by omega,F⟩
   ·refine I 1 g _ rfl A (by omega) (by omega) fun T B q2 M=> ?_;obtain⟨res,Q,L⟩:=IH k T κ hE an hκ B M (by omega);refine⟨res,Q,?_⟩;cases res with
    |val v s4=>obtain⟨Z,X,c3,c4⟩:=L;exact⟨Z,X,by omega,c4⟩
    |unit s4=>obtain⟨Z,X,c3,c4⟩:=L;exact⟨Z,X,by omega,c4⟩
    |halt e v s4=>obtain⟨Z,X,c3,c4,c5⟩:=L;exact⟨Z,X,c3,by omega,c5⟩
  ·refine d 0 0 (EZ s) _ rfl (.inl rfl) o (by omega) (by omega) fun v g _ A W F=> ?_;exact⟨_,rfl,by decide,fun q=>absurd rfl q,A,by omega,F⟩
  ·exact⟨_,rfl,m.symm,o,by omega,by omega⟩
end
def Dv(x:Int):Prop:= -9223372036854775808<=x/\x<=9223372036854775807
structure TA(s:St):Prop where
 vals:∀x∈s.vals,Dv x
 arrs:∀r∈s.arrs,∀x∈r,Dv x
 evs:∀e∈s.evs,Dv e.1/\Dv e.2.1/\Dv e.2.2
def Un:Ey->Prop
 | .val v s=>Dv v/\TA s
 | .unit s=>TA s
 | .halt k v s=>Dv k/\Dv v/\TA s
def lU(n:Int):Dv (Jw n):=by
 unfold Jw Dv;rw[IntWalk.i64_left];unfold wrap64;omega
def JsC(b:Bool):Dv (Rx b):=by cases b<;>simp[Dv,Rx]
def Jtl(t a b:Int)(d:Dv a):Dv (Js t a b):=by
 unfold Js
 repeat' split
 all_goals first|exact lU _|exact JsC _|skip
 unfold Dv at d⊢;have g:(a.tmod b).natAbs=a.natAbs%b.natAbs:=Int.natAbs_tmod a b;have f:=Nat.mod_le a.natAbs b.natAbs;have e:=Int.tmod_nonneg (a:=a) b;have c:=Int.tmod_nonneg (a:= -a) b;rw[Int.neg_tmod]at c;omega
def QI{o:Af Ey}{k:Int->St->Af Ey}{res:Ey}(b:∀r,o=some r->Un r)(d:∀v s,Dv v->TA s->∀r,k v s=some r->Un r)(h:GZ o k=some res):Un res:=by
 rcases JcE h with⟨v,s,a,c⟩|⟨e,v,s,a,rfl⟩
 ·have:=b _ a;exact d v s this.1 this.2 _ c
 ·exact b _ a
def RL{o:Af Ey}{k:St->Af Ey}{res:Ey}(b:∀r,o=some r->Un r)(d:∀s,TA s->∀r,k s=some r->Un r)(h:Vm o k=some res):Un res:=by
 rcases Jcd h with⟨s,a,c⟩|⟨e,v,s,a,rfl⟩
 ·exact d s (b _ a) _ c
 ·exact b _ a
theorem Jai{f:Int->St->Af Ey}(e:∀i s r,TA s->f i s=some r->Un r):∀(d:Ac Int) (s:St) (r:Ey),TA s->WH f d s=some r->Un r
 |[],s,r,hs,h=>by simp only[WH,CE]at h;subst h;exact hs
 |k::d,s,r,hs,h=>RL (fun a c=>e k s a hs c) (fun s' b a c=>Jai e d s' a b c) h
def Pz{c:Prop}[Decidable c]{a b:Af Ey}{r:Ey}(h:(if c then a else b)=some r):a=some r\/b=some r:=by grind
def Jsr{f:Int->St->Af Ey}{body:Ac Nd}(o:∀i s r,TA s->f i s=some r->Un r)(I:∀i,Dv (Bj body i).2)(i:Int)(s:St)(r:Ey)(hs:TA s)(h:Wm f body i s=some r):Un r:=by
 have F:=I i;have F0:Dv 0:=by unfold Dv;omega
 have F1:Dv 1:=by unfold Dv;omega
 have F2:Dv 2:=by unfold Dv;omega
 replace h:DE f i (Bj body i).1 (Bj body i).2 (AZ body i) s=some r:=h
 generalize (Bj body i).1=t at*;generalize (Bj body i).2=n at*;generalize AZ body i=G at*;unfold DE at h;have kid:∀{j:Nat} {k:Int->Af Ey} {r:Ey},FW G j k=some r->∃i,k i=some r:=fun h=>by obtain⟨i,_,m⟩:=NQ h;exact⟨i,m⟩
 rcases Pz h with h|h
 ·cases h;exact⟨F,hs⟩
 rcases Pz h with h|h
 ·split at h
  ·obtain⟨v,u,rfl⟩:=DV.1 h;exact⟨hs.vals v (zZ u),hs⟩
  ·cases h
 rcases Pz h with h|h
 ·obtain⟨k,h⟩:=kid h;refine QI (fun g c=>o k s g hs c) (fun v s' u d g c=> ?_) h;split at c
  ·obtain⟨row,D,rfl⟩:=DV.1 c;split
   ·refine⟨?_,d⟩;rw[Ed];cases z:row[v.toNat]? with
    |none=>exact F0
    |some x=>exact d.arrs row (zZ D) x (zZ z)
   ·exact⟨F2,F0,d⟩
  ·cases c
 rcases Pz h with h|h
 ·obtain⟨k,h⟩:=kid h;refine QI (fun g c=>o k s g hs c) (fun v s' u d g c=> ?_) h;cases c;exact⟨lU _,d⟩
 rcases Pz h with h|h
 ·obtain⟨k,h⟩:=kid h;refine QI (fun g c=>o k s g hs c) (fun v s' u d g c=> ?_) h;cases c;exact⟨lU _,d⟩
 rcases Pz h with h|h
 ·obtain⟨k,h⟩:=kid h;refine QI (fun g c=>o k s g hs c) (fun v s' u d g c=> ?_) h;generalize (if t=18 then(0:Int)else 1)=w at c;split at c
  ·cases c;exact⟨u,d⟩
  ·obtain⟨y,c⟩:=kid c;refine QI (fun p m=>o y s' p d m) (fun L A B l p m=> ?_) c;cases m;exact⟨B,l⟩
 rcases Pz h with h|h
 ·exact Jai o G s r hs h
 rcases Pz h with h|h
 ·obtain⟨k,h⟩:=kid h;refine QI (fun g c=>o k s g hs c) (fun v s' u d g c=> ?_) h;split at c
  ·cases c
   refine⟨fun x z=> ?_,d.arrs,fun e E=> ?_⟩
   ·rcases sE z with q|rfl
    ·exact d.vals x q
    ·exact u
   ·rcases OQ.1 E with q|q
    ·exact d.evs e q
    ·rw[oV.1 q];exact⟨F,(by unfold Dv;omega:Dv (-1)),u⟩
  ·cases c
 rcases Pz h with h|h
 ·obtain⟨k,h⟩:=kid h;refine QI (fun g c=>o k s g hs c) (fun a s' H d g c=> ?_) h;obtain⟨y,c⟩:=kid c;refine QI (fun p m=>o y s' p d m) (fun v A u l p m=> ?_) c;split at m
  ·obtain⟨row,D,rfl⟩:=DV.1 m;split
   ·refine⟨l.vals,fun J C x z=> ?_,fun e E=> ?_⟩
    ·rcases sE C with q|rfl
     ·exact l.arrs J q x z
     ·rcases sE z with q|rfl
      ·exact l.arrs row (zZ D) x q
      ·exact u
    ·rcases OQ.1 E with q|q
     ·exact l.evs e q
     grind
   ·exact⟨F2,F0,l⟩
  ·cases m
 rcases Pz h with h|h
 ·obtain⟨k,h⟩:=kid h;refine QI (fun g c=>o k s g hs c) (fun b s' K d g c=> ?_) h;split at c
  ·obtain⟨y,c⟩:=kid c;refine RL (fun p m=>o y s' p d m) (fun A l p m=> ?_) c;cases m;exact l
  ·cases c
 rcases Pz h with h|h
 ·obtain⟨k,h⟩:=kid h;refine QI (fun g c=>o k s g hs c) (fun b s' K d g c=> ?_) h;split at c
  ·cases c;exact d
  ·split at c
   ·obtain⟨y,c⟩:=kid c;exact RL (fun p m=>o y s' p d m) (fun A l p m=>o i A p l m) c
   ·cases c
 rcases Pz h with h|h
 ·obtain⟨k,h⟩:=kid h;refine QI (fun g c=>o k s g hs c) (fun v s' u d g c=> ?_) h;cases c;exact⟨F0,u,d⟩
 rcases Pz h with h|h
 ·cases h;exact hs
 rcases Pz h with h|h
 ·obtain⟨k,h⟩:=kid h;refine QI (fun g c=>o k s g hs c) (fun a s' H d g c=> ?_) h;obtain⟨y,c⟩:=kid c;refine QI (fun p m=>o y s' p d m) (fun v A u l p m=> ?_) c;split at m
  ·cases m;exact⟨F1,F0,l⟩
  ·cases m;exact⟨Jtl t a v H,l⟩
 ·cases h
theorem Jfw{fuel:Int}{body:Ac Nd}(a:∀i,Dv (Bj body i).2):∀(n:Nat) (i:Int) (s:St) (r:Ey),TA s->ev fuel body n i s=some r->Un r
 |0,i,s,r,hs,h=>by cases h
 |n+1,i,s,r,hs,h=>by
  unfold ev at h;split at h
  ·cases h;exact⟨by unfold Dv;omega,by unfold Dv;omega,hs⟩
  ·exact Jsr (fun i s r hs h=>Jfw a n i s r hs h) a i (EZ s) r ⟨hs.vals,hs.arrs,hs.evs⟩ h
def vX{x:Int}(h:Dv x):Ib x=true:=by unfold Dv at h;simpa[Ib]using h
def Qdf{p:Pg}{a:Ac Int}{f:Int}{r:Rn}(o:∀x∈p.body,Dv x.2)(q:∀x∈a,Dv x)(h:RY p a f=some r)(j:r.evs.length<=20000):Ri r=true:=by
 unfold RY at h;cases b:ev f p.body (f.toNat+2) 0 (s0 p a)with
 |none=>rw[b]at h;cases h
 |some res=>
  rw[b]at h;have F0:Dv 0:=by unfold Dv;omega
  have hs:TA (s0 p a):=by
   refine⟨fun x d=> ?_,fun r c x d=> ?_,fun e b=>by cases b⟩
   ·obtain⟨i,_,rfl⟩:=GN.1 d
    grind
   ·obtain⟨t,_,rfl⟩:=GN.1 c;have:x=0:=by
     unfold OZ at d;exact(List.mem_replicate.1 d).2
    rw[this];exact F0
  have c:=Jfw (fun i=>by
   unfold Bj
   grind) _ _ _ _ hs b
  have key:∀(k v st:Int) (evs:Ac (Int×Int×Int)),Dv k->Dv v->(∀e∈evs,Dv e.1/\Dv e.2.1/\Dv e.2.2)->evs.length<=20000->Ri ⟨k,v,st,evs⟩=true:=fun k v st evs m n g l=>by
   simp only[Ri,DJ,F5,Ew];exact⟨⟨⟨fun e b=>by simp only[xQ,DJ];exact⟨⟨vX (g e b).1,vX (g e b).2.1⟩,vX (g e b).2.2⟩,vX m⟩,vX n⟩,l⟩
  cases res with
  |val v s=>cases h
  |unit s=>cases h;exact key _ _ _ _ (by unfold Dv;omega) F0 c.evs j
  |halt k v s=>cases h;exact key _ _ _ _ c.1 c.2.1 c.2.2.evs j
def JqC{p:Pg}{a:Ac Int}(j:KL p=0)(l:(a.length:Int)=p.params):Py p.vars (s0 p a):=by
 refine⟨by simp[s0,L6],by simp[s0,LQ],?_,?_⟩
 ·intro i v e b;obtain⟨c,h⟩:=CV.1 e;have f:RV p.params i (p.vars.getD i 0)=true:=by
   cases g:RV p.params i (p.vars.getD i 0)with
   |true=>rfl
   |false=>rw[Jhs c g]at j;omega
  rw[Ed,e]at f;have k:¬((i:Int)<p.params):=by
   intro q;simp[RV,q]at f
  have b:(L6 p a)[i]? =some v:=b;simp only[L6,Xy,pI c,Dt,CE]at b;have:a.getD i 0=0:=by simp[Ed,UC (show a.length<=i by omega)]
  exact .inl (by rw[<-b,this])
 ·intro i t r e d;have d:(LQ p)[i]? =some r:=d;simp only[LQ,Xy,e,Dt,CE]at d;subst d;have:0<=JP t:=by unfold JP;split<;>omega
  simp only[OZ,rL];omega
def ID{p:Pg}{a:Ac Int}{f:Int}(h:JC p a f=0):∃r,RY p a f=some r/\0<=r.k/\r.k<=4/\(r.k≠0->r.v=0)/\0<=r.steps/\r.steps<=f/\r.evs.length<=20000:=by
 obtain⟨F,y,C,I,x,G,D,H⟩:=JeU h;obtain⟨res,m,i⟩:=Jhd (vs:=p.vars) (fuel:=f) (l:=p.body) (f.toNat+2) 0 (s0 p a) 2 (by show 0<=Bc p.body ((0:Nat):Int);rw[show((0:Nat):Int)=0 from rfl,C];omega) x (by decide) (JqC F G) (by show(0:Int)<=f;omega) (by show(f-0).toNat<_;omega);have n:JQ p f 0 (Jz f 0 (mk (s0 p a) [])):=by
  unfold Jz;split
  ·exact⟨⟨by simp[mk,MS.stop,s0],by simpa[mk,MS.stop,s0]using D⟩,by simp[mk,MS.stop],by simp[mk,MS.stop],by simp[mk,MS.stop,s0]⟩
  ·rename_i d;simp only[mk,s0]at d⊢;refine⟨⟨by simp[EZ],by simp[EZ];omega⟩,by simp,?_,by simp[EZ]⟩;intro g o;simp only[oV]at o;subst o;exact⟨⟨by simp,by simpa using y⟩,by simp,by simp⟩
 have b:=dT (f.toNat+2) 0 (s0 p a) [] res m;have j:ev f p.body (f.toNat+2) 0 (s0 p a)=some res:=m;have z:(s0 p a).steps=0:=rfl;unfold RY;rw[j];cases res with
 |val v s=>obtain⟨c,_⟩:=i;omega
 |unit s=>
  obtain⟨c,q,A,t⟩:=i;obtain⟨B,J,u,e⟩:=b;have:=(Kx J n e).evs;exact⟨_,rfl,by simp,by simp,fun _=>rfl,by show 0<=s.steps;omega,t,by have E:s.evs.length<=0+J:=this;show s.evs.length<=_;omega⟩
 |halt k v s=>
  obtain⟨c,q,A,t,w⟩:=i;obtain⟨B,J,u,stk,e⟩:=b;have:=(Kx J n e).evs;exact⟨_,rfl,c.1,c.2,q,by show 0<=s.steps;omega,w,by have E:s.evs.length<=0+J:=this;show s.evs.length<=_;omega⟩
def PL(l:Ac Int):By:=(l.map BU).flatten
def aN(d:Dl):By:=BU d.path.length++(PL d.path++(b8 d.op::BU (Ez d.n)))
def Oa(d:Dl):Bool:=decide (d.path.length<=30)&&d.path.all (fun x=>decide (0<=x/\x<=199))&&decide (1<=d.op/\d.op<=7)
def Jik{d:Dl}(h:Oa d=true):d.path.length<=30/\(∀x∈d.path,0<=x/\x<=199)/\1<=d.op/\d.op<=7:=by
 simp only[Oa,DJ,F5,Ew]at h
 grind
def lE(l:Ac Int):(PL l).length<=10*l.length:=by
 induction l with
 |nil=>simp[PL]
 |cons x r a=>
  have h:=(Et x).2;have e:PL (x::r)=BU x++PL r:=by simp[PL]
  grind
def Jyu(l:Ac Int)(j:Nat)(h:j<l.length):PL (l.take (j+1))=PL (l.take j)++BU l[j]:=by
 rw[Ij h];simp only[PL,JE,Xx,EP,J7,IX,PT,Lj]
def Jug{d:Dl}(h:Oa d=true):(aN d).length<=400:=by
 obtain⟨i,g,f,e⟩:=Jik h;have a:=(Et d.path.length).2;have b:=lE d.path;have c:=(Et (Ez d.n)).2;simp only[aN,DC,Ej];omega
def KH(d:Dl):By×Int:=if Oa d=true then(aN d,0)else([],17)
def JjD{p:Pg}{x:Dl}(a:x∈Du p):ED p=0/\x∈LD p.body:=by
 unfold Du at a
 grind
def QaX{p:Pg}{x:Dl}(a:x∈Du p):F7 p x=JK p x:=by
 obtain⟨h,_⟩:=JjD a;unfold F7;rw[Am (by simpa using h),Aw ((JdO h x).2 a)]
def JsS{p:Pg}{a:Ac Int}{f:Int}(h:ED p=0)(i:(a.length:Int)=p.params)(g:0<=f/\f<=10000):JC p a f=0:=by
 obtain⟨c,k,b,l⟩:=Y5 h;have d:=Fc c;have j:p.body.length≠0:=by
  intro e;have:p.body=[]:=NK.1 e;rw[this]at b;exact absurd b (by decide)
 unfold JC;omega
def HB{p:Pg}{d:Dl}(i:d∈Du p):ED p=0/\∃k:Nat,Jk p.body d.path=k/\k<p.body.length/\k≠0/\RG p.body k d.op d.n/\JK p d=(⟨p.params,p.vars,Gw p.body k (Bj p.body k) d.op d.n⟩,0):=by
 obtain⟨h,a⟩:=JjD i;obtain⟨c,j,l,m⟩:=Y5 h;obtain⟨k,g,e,b,f⟩:=JkO p d (Fc c) a;refine⟨h,k,g,e,?_,b,f⟩;rintro rfl;have a:=(Bk _ _ _ _ b).1;rw[show((0:Nat):Int)=0 from rfl]at a;rcases a with h|h|h|h|h|h|h<;>omega
def JfW{p:Pg}{d:Dl}(b:d∈Du p):Dv d.n:=by
 obtain⟨h,k,g,e,c,a,f⟩:=HB b;have key:∀n:Int,-1<=n->n<=100->Dv n:=fun n j i=>by unfold Dv;omega
 rcases a.2 with h|h|h|h|h|h|h
 ·grind
 ·grind
 ·grind
 ·rcases h.2 with⟨_,q,_⟩|⟨_,q⟩
  ·rcases q with q|q|q|q|q
   ·grind
   ·grind
   ·grind
   ·rw[q];exact lU _
   ·rw[q];exact lU _
  ·rw[q];exact lU _
 ·grind
 ·grind
 grind
def Jb6{p:Pg}{d:Dl}(b:d∈Du p)(m:∀x∈p.body,Dv x.2):(∀x∈(F7 p d).1.body,Dv x.2)/\(F7 p d).1.body.length<=p.body.length+1:=by
 have t:=JfW b;obtain⟨h,k,s,c,n,e,i⟩:=HB b;have g:=Fc (Y5 h).1;have f:p.body[k]? =some (Bj p.body k):=by rw[ZN _ _ c];exact FQ c
 have j:=(Ja1 g e.1 (Bj p.body k) f (Bk _ _ _ _ e).1).2.1;rw[QaX b,i];refine⟨fun x a=> ?_,j⟩;have F0:Dv 0:=by unfold Dv;omega
 have l:=m _ (zZ f);have sub:∀(q:Int) (r:Ac Nd),(∀x∈r,Dv x.2)->∀x∈I5 p.body q r,Dv x.2:=fun q r o x a=>by
  unfold I5 at a
  grind
 simp only at a;unfold Gw at a
 grind
def QbI(l:Ac Nd)(k:Nat)(h:0<=Bc l k):(AZ l k).length<l.length:=by
 have b:=DQ l k h 0 (Fv l k).toNat (by omega);have a:=DG l k h;rw[EE,a]at b;have d:Fz l (k+1) 0=k+1:=rfl;have c:=UA l k;have e:(AZ l k).length=(Fv l k).toNat:=by rw[jG l k h];simp[KJ]
 omega
theorem JfI(l:Ac Nd):∀(q:Ac Int) (i:Int),0<=F8 l i q->∀x∈q,0<=x/\x<l.length
 |[],_,_,x,a=>by cases a
 |n::r,i,h,x,a=>by
  unfold F8 at h;split at h
  ·rename_i b;have c:0<=Bc l i:=by
    apply Decidable.byContradiction;intro e;have:AZ l i=[]:=by unfold AZ;rw[Aw (by omega)]
    rw[this]at b;simp at b
   obtain⟨k,rfl⟩:=Fq (F6 l i c).1;have d:=QbI l k c;rcases FY.1 a with rfl|a
   ·omega
   ·exact JfI l r _ h x a
  ·omega
def Lw{p:Pg}{d:Dl}(e:d∈Du p)(m:p.body.length<=30):Oa d=true/\d.path.length<=30:=by
 obtain⟨h,k,a,j,i,c,l⟩:=HB e;have b:=Fc (Y5 h).1;have n:=Bk _ _ _ _ c;have hp:d.path.length<=p.body.length:=eL p.body _ _ ((I6 b k (by omega) d.path).2 a);have f:F8 p.body 0 d.path=k:=by unfold Jk at a;rw[Aw b]at a;exact a
 have g:=JfI p.body d.path 0 (by omega);refine⟨?_,by omega⟩;simp only[Oa,DJ,F5,Ew]
 grind
def Jvi{p:Pg}{d:Dl}(a:d∈Du p)(b:p.body.length<=30):aW p d:=by
 have c:=Ji7 (Y5 (HB a).1).2.1;have:=(Lw a b).2;omega
def Xq(q:Pg)(t:Ac (Ac Int))(f:Int):Ac Rn:=t.map fun a=>RJ q a f
def NI(p:Pg)(t:Ac (Ac Int))(f:Int)(d:Dl):Mu:=Ul (FH p t f) (Xq (F7 p d).1 t f) d
def Dq(p:Pg)(t:Ac (Ac Int))(f:Int):Cm:=⟨p,t,f,(Du p).map (NI p t f),ER ((Du p).map (NI p t f))⟩
def Yt(p:Pg)(t:Ac (Ac Int)):Bool:=decide (p.body.length<=30)&&decide (p.vars.length<=1000)&&decide (t.length<=900)&&(t.all fun l=>decide (l.length<=1000000))&&(p.body.all fun x=>Ib x.2)&&(t.all fun l=>l.all Ib)
structure RunIn(p:Pg)(t:List (List Int)):Prop where
 body:p.body.length<=30
 vars:p.vars.length<=1000
 tests:t.length<=900
 lens:∀l∈t,l.length<=1000000
 nums:∀x∈p.body,Dv x.2
 args:∀l∈t,∀x∈l,Dv x
def Jif{x:Int}(h:Ib x=true):Dv x:=by simpa[Ib,Dv]using h
def jO{p:Pg}{t:Ac (Ac Int)}(h:Yt p t=true):RunIn p t:=by
 simp only[Yt,DJ,F5,Ew]at h;obtain⟨⟨⟨⟨⟨f,e⟩,b⟩,d⟩,i⟩,c⟩:=h;exact⟨f,e,b,d,fun x a=>Jif (i x a),fun l g x a=>Jif (c l g x a)⟩
def WF{p:Pg}{t:Ac (Ac Int)}{f:Int}(h:GR p t f=0):ED p=0/\JJ p.params t f=0:=by
 unfold GR at h;omega
def JzU{p:Pg}{t:Ac (Ac Int)}{f:Int}(c:RunIn p t)(h:GR p t f=0):xW p t f:=by
 obtain⟨d,b⟩:=WF h;obtain⟨_,w2,w3,w4⟩:=Zu b;refine⟨by have:=c.body;omega,c.tests,d,b,?_⟩;rw[tV,Ew];intro a i;have e:=JsS (a:=a) d (w2 a i) ⟨by omega,w4⟩;obtain⟨r,g,_⟩:=ID e;simp[e,g]
def Jj3{q:Pg}{a:Ac Int}{f:Int}(c:∀x∈q.body,Dv x.2)(g:∀x∈a,Dv x):Ri (RJ q a f)=true:=by
 unfold RJ;split
 ·rename_i e;obtain⟨r,b,_,_,_,_,_,d⟩:=ID e;rw[b];exact Qdf c g b d
 ·rfl
def Jow{p:Pg}{t:Ac (Ac Int)}{f:Int}{d:Dl}(a:RunIn p t)(h:GR p t f=0)(i:d∈Du p):wX (F7 p d).1 t f (Xq (F7 p d).1 t f):=by
 obtain⟨o,k⟩:=WF h;obtain⟨_,w2,w3,w4⟩:=Zu k;obtain⟨e,n⟩:=Jb6 i a.nums;refine⟨by simp[Xq],fun j g l=> ?_,by have:=a.body;omega⟩;have b:(Xq (F7 p d).1 t f)[j]=RJ (F7 p d).1 t[j] f:=by simp[Xq]
 refine⟨fun m=> ?_,b,?_⟩
 ·obtain⟨r,c,_⟩:=ID m;rw[c];rfl
 ·rw[b];exact Jj3 e (a.args t[j] (Ih g))
def nG{p:Pg}(a:p.body.length<=30):(Du p).length<=150:=by
 unfold Du;split
 ·have:=JhT p.body;omega
 ·simp
theorem Jct{R:Nat}{p:Pg}{i:D}{t:Ac (Ac Int)}{f:Int}(c:RunIn p t)(g:GR p t f=0)(a:Nat):∀(k j:Nat) (γ:Nat->Nat) (H:Ae) (fl:Nat),j+k=(Du p).length->k<fl->bJ γ R p i t f (Du p) (((Du p).take j).map (NI p t f)) H->
  ∃γ' H',DY (BK Aa (ZE Aa) aK 1000 f6 0) fl [.hp a 0,.hp R 0] H=some (.exit 0,[.hp a 0,.hp R 0],H')/\bJ γ' R p i t f (Du p) ((Du p).map (NI p t f)) H'/\Fg γ γ' [0,3,9,10,11,12,13] H H'
 |0,j,γ,H,fl,r,w,h=>by
  obtain⟨fl,rfl⟩:∃x,fl=x+1:=⟨fl-1,by omega⟩;obtain rfl:j=(Du p).length:=by omega
  rw[II]at h;refine⟨γ,H,aY ?_ (by intro e;cases e),h,Fg.refl _ _ _⟩;rw[Jb8];have e:=QbK h (by simp) (by have:=nG c.body;omega);simp_all
 |k+1,j,γ,H,fl,r,w,h=>by
  obtain⟨fl,rfl⟩:∃x,fl=x+1:=⟨fl-1,by omega⟩;have d:j<(Du p).length:=by omega
  have b:(((Du p).take j).map (NI p t f)).length=j:=by simp;omega
  have n:(Du p)[j]∈Du p:=Ih d;obtain⟨γ1,m,s,l,q⟩:=Jqi (rs:=Xq (F7 p (Du p)[j]).1 t f) h (by omega) (by have:=nG c.body;omega) (JzU c g) (by simp only[b];exact Jvi n c.body) (by simp only[b];exact Jow c g n);have e:((Du p).take j).map (NI p t f)++[Ul (FH p t f) (Xq (F7 p (Du p)[j]).1 t f) ((Du p)[(((Du p).take j).map (NI p t f)).length]'(by omega))]=((Du p).take (j+1)).map (NI p t f):=by
   simp only[b];rw[Ij d,JE];rfl
  rw[e]at l;obtain⟨γ2,y,v,o,u⟩:=Jct c g a k (j+1) γ1 m fl (by omega) (by omega) l;refine⟨γ2,y,?_,o,q.trans u⟩;have hs:BK Aa (ZE Aa) aK 1000 f6 0 [.hp a 0,.hp R 0] H=some (.normal,[.hp a 0,.hp R 0],m):=by
   rw[Jb8];simp only[s,A7,Bd,Bv]
  rw[IQ hs];exact v
def YI:Cm:=⟨⟨0,[],[]⟩,[],0,[],⟨0,0,0⟩⟩
def Qdk:AY (.agg Ht) (.agg (Cf YI)):=AY.agg (.cons (AY.refl _) (.cons (AY.nil 1) (.cons (AY.nil 2) (.cons (AY.nil 1) (.cons (AY.refl _) (.cons (AY.nil 8) (.cons (AY.refl _) (.cons (AY.refl _) (.cons (AY.refl _) .nil)))))))))
def RF(p:Pg)(t:Ac (Ac Int))(f:Int):Cm:=if GR p t f=0 then Dq p t f else YI
def YN:Ac D->Af D:=F3 Ef JD BV fun p t f=>if Yt p t=true then some (.tup [.agg (Cf (RF p t f)),iD (GR p t f)])else none
def Y4(p:Pg)(t:Ac (Ac Int))(f:Int)(d:Dl):(NI p t f d).d=d:=by
 have key:∀(l:Ac (Nd×Rn)) (i:Nat) (best:Mu),best.d=d->(Yp d l i best).d=d:=by
  intro l
  induction l with
  |nil=>intro i best h;exact h
  |cons x r c=>
   intro i best h;obtain⟨b,a⟩:=x;have e:(TV d b a i best).1.d=d:=by
    unfold TV;split
    ·exact h
    ·grind
   simp only[Yp]
   grind
 exact key _ _ _ rfl
def Jdv:Bz Aa 6 YN:=V4 (kp:=aK) Qca AX func6 fun p t f d h=>by
 split at h
 case isFalse=>cases h
 rename_i F;have c:=jO F;cases h;let γ0:Nat->Nat:=fun i=>if i=1 then 21 else 20;have O:BA 25 (Be p) []=some (.hp 0 0,[.cells 25 3 (DW p)]):=rfl;have K:BX 33 Ht [.cells 25 3 (DW p)]=some (.hp 1 0,[.cells 25 3 (DW p),.cells 33 9 Ht]):=rfl;have T:At γ0 21 1 (.cells 33 9 Ht) [.cells 25 3 (DW p),.cells 33 9 Ht]:=⟨rfl,rfl⟩;have lp:Ai (some 3) [.cells 25 3 (DW p),.cells 33 9 Ht] (.hp 0 0)=some (Be p):=rfl;generalize hH:([.cells 25 3 (DW p),.cells 33 9 Ht]:Ae)=u at*;by_cases o:GR p t f=0
 ·obtain⟨γ1,R,dt,S,H,n2,V⟩:=Jlh γ0 p t f (by have:=c.body;omega) (by have:=c.vars;omega) c.tests c.lens o u;obtain⟨γ2,Y,k1,k2,X⟩:=Jct c o 1 (Du p).length 0 γ1 S 1000 (by omega) (by have:=nG c.body;omega) n2;have J:BZ Aa (ZE Aa) aK 1000 f6 0 [.hp 1 0,.hp R 0] S=some (.exit 0,[.hp 1 0,.hp R 0],Y):=k1;have M:=nG c.body;obtain⟨γ3,a,b,k,Q,U,P,c4⟩:=JxX k2 (by have:=c.body;omega) (by have:=c.vars;omega) c.tests c.lens (by simp;omega) (fun m hm=>by
   obtain⟨d,hd,rfl⟩:=GN.1 hm;rw[Y4];have:=(Lw hd c.body).2;omega)
  have E:At γ3 21 1 (.cells 33 9 Ht) k:=((T.dm V (by simp)).dm X (by simp)).dm c4 (by simp);have G:(EI p a f b (Dq p t f).sc).all Df=true:=by
   obtain⟨_,w1,_⟩:=U.row;obtain⟨_,w2,_⟩:=P.row;simp only[EI,Na,eX,w1.cell.2,w2.cell.2];rfl
  have st:=KG E.2 (n:=9) (ds:=EI p a f b (Dq p t f).sc) rfl rfl G;have L:=(DZ.put E (.cells 33 9 (EI p a f b (Dq p t f).sc))).toL (cs:=[21]) (by simp);have a5:=E.put (.cells 33 9 (EI p a f b (Dq p t f).sc));have I:Ai (some 9) (k.set 1 (.cells 33 9 (EI p a f b (Dq p t f).sc))) (.hp 1 0)=some (.agg (EI p a f b (Dq p t f).sc)):=by rw[Es,a5.2];rfl
  obtain⟨e,t1,t2⟩:=(U.stay L (by simp) (by simp)).deref 5;obtain⟨g,Z,m2⟩:=(P.stay L (by simp) (by simp)).deref 5;have y:RF p t f=Dq p t f:=Aw o;have r:yA (EI p e f g (Dq p t f).sc)=some (Dq p t f):=by
   have s:UJ [iD p.params,AL p.vars,A8 p.body]=some p:=Ef.back p;have h3:Dz (iD f)=some f:=rfl;have h5:Xg.dec (.agg [iD (Dq p t f).sc.a,iD (Dq p t f).sc.b,iD (Dq p t f).sc.c])=some (Dq p t f).sc:=Xg.back _;simp only[yA,EI,s,t2,h3,m2,h5,BR,Dt];rfl
  rw[y,o];refine⟨1000,.tup [.agg (EI p e f g (Dq p t f).sc),iD 0],?_,AY.tup (.cons (OV.ok (.agg (EI p e f g (Dq p t f).sc)) (Dq p t f) r) (.cons (AY.refl _) .nil))⟩;have B:DN (.tup [.hp R 0,iD 0]) 0=some (.hp R 0):=rfl;have C:DN (.tup [.hp R 0,iD 0]) 1=some (iD 0):=rfl;have x:Ag .int .neq (iD 0) (iD 0)=some (bD false):=rfl;show BB (AB _ _ _ _ _ [Be p,BH t,iD f] [])=_;rw[JgD];have z:ER ((Du p).map (NI p t f))=(Dq p t f).sc:=rfl;rw[z]at Q;show BB (Ah (BA _ _ _) fun y0 s=>Ah (BX 33 Ht s) _)=_;simp only[O,A7,K,lp,AU,H,B,C,x,Bd,BF,BC,J,Kw,Kv,NJ,NM,Q,st,I];show Dh _ 9 (.tup [.agg (EI p a f b (Dq p t f).sc),iD 0])=_;have W:∀n v,Dh (k.set 1 (.cells 33 9 (EI p a f b (Dq p t f).sc))) n (.v v)=some (.v v):=fun n v=>Ji _ n _ rfl;have q:∀n l,Dh (k.set 1 (.cells 33 9 (EI p a f b (Dq p t f).sc))) n (AL l)=some (AL l):=fun n v=>Ji _ n _ rfl;have w:∀n l,Dh (k.set 1 (.cells 33 9 (EI p a f b (Dq p t f).sc))) n (A8 l)=some (A8 l):=fun n v=>Ji _ n _ rfl;have j:(EI p a f b (Dq p t f).sc).mapM (Dh (k.set 1 (.cells 33 9 (EI p a f b (Dq p t f).sc))) 7)=some (EI p e f g (Dq p t f).sc):=by
   generalize k.set 1 (.cells 33 9 (EI p a f b (Dq p t f).sc))=HH at*;simp only[EI,FZ,VI,W,q,w,t1,Z];rfl
  show([D.agg (EI p a f b (Dq p t f).sc),iD 0].mapM (Dh _ 8)).map D.tup=_;have h8:Dh (k.set 1 (.cells 33 9 (EI p a f b (Dq p t f).sc))) 8 (.agg (EI p a f b (Dq p t f).sc))=some (.agg (EI p e f g (Dq p t f).sc)):=by
   show(List.mapM (Dh _ 7) (EI p a f b (Dq p t f).sc)).map D.agg=_;rw[j];rfl
  simp_all
 ·have H:=Jp8 p t f (by have:=c.body;omega) (by have:=c.tests;omega) o u;have y:RF p t f=YI:=Am o;rw[y];have B:DN (.tup [Ic,iD (GR p t f)]) 0=some Ic:=rfl;have C:DN (.tup [Ic,iD (GR p t f)]) 1=some (iD (GR p t f)):=rfl;have x:Ag .int .neq (iD (GR p t f)) (iD 0)=some (bD true):=by simp_all
  have N:(u++[HO.cells 25 3 (DW p)])[1]? =some (.cells 33 9 Ht):=JX T.2;have bu:CY [(0,3),(3,1),(4,1),(5,1),(6,3)] Ht []=some (.agg Ht):=rfl;have st:=KG N (n:=9) (ds:=Ht) rfl rfl rfl;have I:Ai (some 9) ((u++[HO.cells 25 3 (DW p)]).set 1 (.cells 33 9 Ht)) (.hp 1 0)=some (.agg Ht):=by rw[Es,Hw (CV.1 N).1];rfl
  refine⟨1000,.tup [.agg Ht,iD (GR p t f)],?_,AY.tup (.cons Qdk (.cons (AY.refl _) .nil))⟩;show BB (AB _ _ _ _ _ [Be p,BH t,iD f] [])=_;rw[JgD];show BB (Ah (BA _ _ _) fun y0 s=>Ah (BX 33 Ht s) _)=_;simp only[O,A7,K,lp,AU,H,B,C,x,Bd,Bv];show BB (Ad (CY [(0,3),(3,1),(4,1),(5,1),(6,3)] Ht []) _)=_;rw[bu];simp only[AU,st,A7,I];exact Gu _ _ rfl
def Jhh:Ac Nat:=[]
def QaZ(n:Nat)(b a:D)(h:Ae):AB Aa (Uf Aa) Jhh n f156 [b,a] h=
(Ad (Bq .str a) fun g=>
Ad (Dk .u64 g) fun j=>
Ah ((Kq Aa) [b,j] h) fun e d=>
Ah ((OL Aa) [e,a] d) fun c i=>
some (c,i)):=by kernel_rfl
def Wr:Ac Nat:=[]
def Qab(n:Nat)(b a:D)(h:Ae):AB Aa (xI Aa) Wr n f30 [b,a] h=
(Ad (Dk .u64 a) fun d=>
Ah ((Kq Aa) [b,d] h) fun e c=>
some (e,c)):=by kernel_rfl
def Zy(P:Aj):GT:=CO P (xI P) Wr 0 30
def Qd5(ds:Ac D)(H:Ae):Zy Aa ds H=AB Aa (xI Aa) Wr 0 f30 ds H:=CJ func30 ds H
def JpJ:BN Aa 30 (Zy Aa):=CQ Qc9 AX func30
def C1(H:Ae)(w B:Nat)(l:By)(n:Int)(c:0<=n/\n<=9223372036854775807)(h:Ea H w B l)(f:l.length+10<=4000000):∃H',Zy Aa [.hp w 0,iD n] H=some (.hp w 0,H')/\Ea H' w B (l++BU n)/\Hq w H H':=by
 obtain⟨H',e,d,a⟩:=Ob H w B l n (by omega) h f;refine⟨H',?_,d,a⟩;have b:Dk .u64 (iD n)=some (BO n):=Nz _ _ c.1 (by omega);rw[Qd5,Qab];simp only[b,AU,e,A7]
def Jjl(P:Aj):Ac Cj:=(30,false,Zy P)::G1 P
def Jy9:∀p∈Jjl Aa,Ci Aa p:=AC (CB JpJ)<|eW
section
set_option maxRecDepth 100000
end
def SR(P:Aj):Ac Cj:=Jjl P
def xL:∀p∈SR Aa,Ci Aa p:=Jy9
def SA(P:Aj):Tab:=⟨SR P,BM,[]⟩
def Jm4:Bg Aa (SA Aa):=CU xL
def M6(n:Int):Prop:= -9223372036854775808<=n/\n<=9223372036854775807
def Jwk{P:Aj}:∀{a b:Ac Cj},(∀p∈a,Ci P p)->(∀p∈b,Ci P p)->∀p∈a++b,Ci P p:=fun d c p hp=>(OQ.1 hp).elim (d p) (c p)
def T1(P:Aj):Ac Cj:=yE P++SR P
def vE:∀p∈T1 Aa,Ci Aa p:=Jwk CI xL
def W7(P:Aj):Tab:=⟨T1 P,BM,[]⟩
def Jnl:Bg Aa (W7 Aa):=CU vE
def Jeg:Ac Nat:=[]
def Jyj(n:Nat)(a:D)(h:Ae):AB Aa (W7 Aa) Jeg n f191 [a] h=
(Ad (Ag .int .lss a (iD 0)) fun b=>
Az b
(some ((bD true),h))
(Ad (Ag .int .geq a (iD 200)) fun c=>
some (c,h))):=by kernel_rfl
def Rw(n:Int):Bool:=decide (n<0\/200<=n)
def Ft:Ac D->Af D:=F1 BV fun n=>some (bD (Rw n))
def Jy0:Bz Aa 191 Ft:=FC (kp:=Jeg) Jnl AX func191 fun n d h=>by
 cases h
 refine⟨0,_,?_,AY.refl _⟩;show BB (AB _ _ _ _ _ [iD n] [])=_;rw[Jyj];unfold Rw;by_cases a:n<0<;>simp[a]
def eS(P:Aj):Ac Cj:=(191,true,Ak Ft)::T1 P
def Jhc:∀p∈eS Aa,Ci Aa p:=AC (Bf Jy0)<|vE
def TI(P:Aj):Tab:=⟨eS P,BM,[]⟩
def Qdj:Bg Aa (TI Aa):=CU Jhc
def mY:Ac Nat:=[0,1,4,7,8]
def Js4(n:Nat)(b c:D)(h:Ae):AB Aa (TI Aa) mY n f243 [b,c] h=
(Ad (Bq .sl b) fun g=>
Dy (BZ Aa (TI Aa) mY n f243 0 [b,c,(iD 0),g,(iD 0)] h) (fun e d a=>
CW e 0
(some ((iD (-1)),a))
(none)) (fun d a=>
some ((gD d 2),a))):=by kernel_rfl
def gT(n:Nat)(s0 b d c a:D)(h:Ae):BK Aa (TI Aa) mY n f243 0 [s0,b,d,c,a] h=
(Ad (Ag .int .lss a c) fun g=>
Az g
(Ad (BG 1 s0 a) fun i=>
Ad (Ai none h i) fun k=>
Ah (C9 (TI Aa) b [k] h) fun j e=>
Az j
(some (.ret,[s0,b,a,c,a],e))
(Ad (Ag .int .add a (iD 1)) fun l=>
some (.normal,[s0,b,d,c,l],e)))
(some ((.exit 0),[s0,b,d,c,a],h))):=by kernel_rfl
def YD:D:= .clo (.func 191) [] []
def JcP(n:Int)(H:Ae):C9 (TI Aa) YD [iD n] H=some (bD (Rw n),H):=by
 have:C9 (TI Aa) YD [iD n] H=Ak Ft [iD n] H:=rfl;rw[this,CP _ _ _ rfl];have:Ft [iD n]=_:=EO (A:=BV) _ n;rw[this];rfl
def wU(P:Aj):GT:=CO P (TI P) mY 1000001 243
def Jqe(ds:Ac D)(H:Ae):wU Aa ds H=AB Aa (TI Aa) mY 1000001 f243 ds H:=CJ func243 ds H
def Js0:BN Aa 243 (wU Aa):=CQ Qdj AX func243
def Qe0(l:Ac Int)(H:Ae)(n:l.length<=1000000):∃i:Int,wU Aa [AL l,YD] H=some (iD i,H)/\(decide (0<=i))=l.any Rw:=by
 rw[Jqe,Js4];have hs:=VO (P:=Aa) (T:=TI Aa) (kp:=mY) (fn:= f243) (li:=0) (fun i=>[AL l,YD,iD 0,iD l.length,iD i]) H l.length (fun i=> !Rw (l.getD i 0))
  (fun i=>(.ret,[AL l,YD,iD i,iD l.length,iD i],H)) (.exit 0,[AL l,YD,iD 0,iD l.length,iD l.length],H)
  (fun i=>by intro e;cases e) (by intro e;cases e) 0 1000001 (F9 _) (by omega)
  (fun i _ a hp=>by
   have j:=Jj (i:Int) 1 (by omega) (by omega);have d:(i:Int)<l.length:=by omega
   simp only[G7 _ i 0 a,zU]at hp;rw[gT];simp[d,GY _ _ a,JcP,hp,j])
  (fun i _ a hp=>by
   have d:(i:Int)<l.length:=by omega
   simp only[G7 _ i 0 a,Ao]at hp;rw[gT];simp[d,GY _ _ a,JcP,hp])
  (by rw[gT];simp)
 rcases hs with⟨c,b⟩|⟨i,k,c,b,m,g⟩
 ·refine⟨-1,?_,?_⟩
  ·simp only[Td]at b;simp[b]
  ·have:l.any Rw=false:=by
    rw[List.any_eq_false];intro x h;obtain⟨i,a,rfl⟩:=oU.1 h;have:=c i (F9 _) a;rw[G7 _ i 0 a]at this;simpa using this
   rw[this];rfl
 ·refine⟨i,?_,?_⟩
  ·simp only[Td]at g;simp[g]
  ·have:l.any Rw=true:=by
    rw[List.any_eq_true];rw[G7 _ i 0 c]at b;exact⟨l[i],Ih c,by simpa using b⟩
   rw[this];simp
def SJ(P:Aj):Ac Cj:=(243,false,wU P)::eS P
def Jd2:∀p∈SJ Aa,Ci Aa p:=AC (CB Js0)<|Jhc
def rM(P:Aj):Tab:=⟨SJ P,BM,[]⟩
def Jma:Bg Aa (rM Aa):=CU Jd2
def Zs:Ac Nat:=[]
def Qbw(n:Nat)(b a:D)(h:Ae):AB Aa (rM Aa) Zs n f192 [b,a] h=
(Ah ((wU Aa) [b,a] h) fun e c=>
Ad (Ag .int .geq e (iD 0)) fun d=>
some (d,c)):=by kernel_rfl
structure jQ(ri di B:Nat)(ro:HO)(p:List Int)(o n:Int)(K H:Ae):Prop where
 lt:ri<B/\di<B/\ri≠di/\B<=H.length
 rd:H[ri]? =some ro
 dl:∃d1,H[di]? =some (.cells 103 3 [d1,iD o,iD n])/\Buf 3 1 H B d1 p.length (BP p)
 old:∀k,k<B->k≠ri->k≠di->H[k]? =K[k]?
def jQ.grow{b c B:Nat}{t:HO}{p:Ac Int}{o n:Int}{K H H':Ae}(h:jQ b c B t p o n K H)(a:HO)(x:H.length<=H'.length)(keep:∀i,i<H.length->i≠b->H'[i]? =H[i]?)(r:H'[b]? =some a):jQ b c B a p o n K H':=by
 obtain⟨⟨u,s,v,y⟩,g,⟨j,m,d⟩,w⟩:=h;refine⟨⟨u,s,v,by omega⟩,r,⟨j,(keep c (by omega) (by omega)).trans m,d.keep fun k q e=> ?_⟩,fun k l f g=>(keep k (by omega) f).trans (w k l f g)⟩;subst e;have:=d.lt
 grind
def jQ.low{i a B:Nat}{f:HO}{p:Ac Int}{o n:Int}{K H:Ae}(h:jQ i a B f p o n K H):∃d,H[a]? =some (.cells 103 3 [d,iD o,iD n])/\Ai none H (.hp a 0)=some d/\eqB d d=true/\∀k q,d= .hs k q->B<=k/\k<H.length:=by
 obtain⟨g,b,c⟩:=h.dl;exact⟨g,b,D6 H a 0 _ _ _ _ b rfl,c.eqB,fun k q e=>by subst e;exact c.lt⟩
def qM(P:Aj):GT:=CO P (rM P) Zs 0 192
def Qem(ds:Ac D)(H:Ae):qM Aa ds H=AB Aa (rM Aa) Zs 0 f192 ds H:=CJ func192 ds H
def Jlm:BN Aa 192 (qM Aa):=CQ Jma AX func192
def JpX(l:Ac Int)(H:Ae)(c:l.length<=1000000):qM Aa [AL l,YD] H=some (bD (l.any Rw),H):=by
 obtain⟨i,b,a⟩:=Qe0 l H c;rw[Qem,Qbw];simp[b,a]
def Jhm(l:Ac Int):l.any Rw= !l.all fun x=>decide (0<=x/\x<=199):=by
 induction l with
 |nil=>rfl
 |cons x r a=>
  rw[List.any_cons,Na,a,Bool.not_and];congr 1;unfold Rw;rw[rI];simp;omega
def Je1(P:Aj):Ac Cj:=(192,false,qM P)::SJ P
def Jr9:∀p∈Je1 Aa,Ci Aa p:=AC (CB Jlm)<|Jd2
def kX(P:Aj):Tab:=⟨Je1 P,BM,[]⟩
def QdX:Bg Aa (kX Aa):=CU Jr9
def xZ:Ac Nat:=[1,5,35,36,37]
def Qcx(n:Nat)(K:D)(h:Ae):AB Aa (kX Aa) xZ n f139 [K] h=
(Ah (BA 103 K h) fun e o=>
AV 0 none o e fun M=>
Ad (Bq .sl M) fun N=>
Ad (Ag .int .gtr N (iD 30)) fun O=>
Az O
(some (.tup [CS,(iD 17)],o))
(AV 0 none o e fun L=>
Ah ((qM Aa) [L,(.clo (.func 191) [] [])] o) fun P c=>
Az P
(some (.tup [CS,(iD 17)],c))
(AV 1 none c e fun J=>
Ad (Ag .int .lss J (iD 1)) fun v=>
Az v
(some (.tup [CS,(iD 17)],c))
(AV 1 none c e fun H=>
Ad (Ag .int .gtr H (iD 7)) fun I=>
Az I
(some (.tup [CS,(iD 17)],c))
(Ah ((OB Aa) [] c) fun z g=>
Ad (AP 0 e) fun k=>
Ad (Ai none g k) fun r=>
Ad (Bq .sl r) fun l=>
Ad (Dk .u64 l) fun u=>
Ah ((Kq Aa) [z,u] g) fun G j=>
Eb k (some c) (some g)
(JS l
(AV 0 none j e fun m=>
Ad (Bq .sl m) fun q=>
Dy (BZ Aa (kX Aa) xZ n f139 0 [e,G,m,q,(iD 0)] j) (fun s b a=>
CW s 0
(AV 1 none a (gD b 0) fun w=>
Ad (Dk .u8 w) fun F=>
Ah ((Uu Aa) [(gD b 1),F] a) fun E d=>
Ad (AP 2 (gD b 0)) fun i=>
Ad (Ai none d i) fun p=>
Ah ((bY Aa) [E,p] d) fun y x=>
Ah ((NS Aa) [y] x) fun C B=>
Eb i (some a) (some d)
(some (.tup [C,(iD 0)],B)))
(none)) (fun b a=>
some (.tup [.undef,.undef],a))))))))):=by kernel_rfl
def Jjt(n:Nat)(s0 b d c a:D)(h:Ae):BK Aa (kX Aa) xZ n f139 0 [s0,b,d,c,a] h=
(Ad (Ag .int .lss a c) fun g=>
Az g
(Ad (BG 1 d a) fun i=>
Ad (Ai none h i) fun k=>
Ad (Dk .u64 k) fun j=>
Ah ((Kq Aa) [b,j] h) fun m l=>
Ad (Ag .int .add a (iD 1)) fun e=>
some (.normal,[s0,b,d,c,e],l))
(some ((.exit 0),[s0,b,d,c,a],h))):=by kernel_rfl
def Sr(d:Dl):HO:= .cells 103 3 [AL d.path,iD d.op,iD d.n]
def wM(d:Dl)(H:Ae)(i:Nat)(h:H[i]? =some (Sr d)):Ai none H (.hp i 0)=some (AL d.path)/\Ai none H (.hp i 1)=some (iD d.op)/\Ai none H (.hp i 2)=some (iD d.n):=
 ⟨D6 H i 0 _ _ _ _ h rfl,D6 H i 1 _ _ _ _ h rfl,D6 H i 2 _ _ _ _ h rfl⟩
structure dO(d:Dl)(H:Ae)(l:By):Prop where
 box:H[0]? =some (Sr d)
 wr:Ea H 1 2 l
def dO.next{d:Dl}{H H':Ae}{l a:By}(h:dO d H l)(k:Hq 1 H H')(w:Ea H' 1 2 a):dO d H' a:=
 ⟨(k.2 0 (by have:=h.wr.lt;omega) (by omega) (h.wr.notRow 0 (.inl (by omega)))).1.trans h.box,w⟩
def JwE(d:Dl)(H:Ae)(l:By)(N:Nat)(s:d.path.length<N)(hp:d.path.length<=30)(t:l.length<=1000)(o:∀x∈d.path,0<=x/\x<=199)(h:dO d H l):
  ∃r,BZ Aa (kX Aa) xZ N f139 0 [.hp 0 0,.hp 1 0,AL d.path,iD d.path.length,iD 0] H=some r/\∃H',r=(.exit 0,[.hp 0 0,.hp 1 0,AL d.path,iD d.path.length,iD d.path.length],H')/\dO d H' (l++PL d.path):=by
 have n:l=l++PL (d.path.take 0):=by simp[PL]
 rw[n]at h;refine NT (fun j=>[.hp 0 0,.hp 1 0,AL d.path,iD d.path.length,iD j]) (fun j H'=>dO d H' (l++PL (d.path.take j))) _ d.path.length N ?_ ?_ s (H:=H) h
 ·intro j H g a;have k:(j:Int)<d.path.length:=by omega
  have i:=Jj (j:Int) 1 (by omega) (by omega);have c:=lE (d.path.take j);rw[eG]at c;have b:=o _ (Ih g);obtain⟨q,m,w2,w3⟩:=Ob H 1 2 _ d.path[j] ⟨b.1,by omega⟩ a.wr (by simp;omega);have p:Dk .u64 (iD d.path[j])=some (BO d.path[j]):=Nz _ _ b.1 (by omega);refine⟨q,?_,?_⟩
  ·rw[Jjt];simp only[JA,AU,Bd,F5,k,Bv,GY _ _ g,Jon,p,m,A7,Ll,i,Int.natCast_add,Int.cast_ofNat_Int]
  ·have:=a.next w3 w2;rw[Jyu _ _ g,<-FV];exact this
 ·intro H a;rw[II]at a;refine⟨_,by rw[Jjt];simp,(by intro e;cases e),H,rfl,a⟩
def dL:Ac D->Af D:=F1 Pj fun d=>if d.path.length<=100000/\ -9223372036854775808<=d.n/\d.n<=9223372036854775807 then some (.tup [sD (KH d).1,iD (KH d).2])else none
theorem Xs : Bz Aa 139 dL := FC (kp := xZ) QdX AX func139 fun d r h => by
  split at h
  case isFalse => cases h
  rename_i hg
  obtain ⟨hl, hn⟩ := hg
  cases h
  refine ⟨300, _, ?_, AY.refl _⟩
  show BB (AB _ _ _ _ _ [Em d] []) = _
  rw [Qcx]; unfold AV
  have hbox : BA 103 (Em d) [] = some (.hp 0 0, [Sr d]) := rfl
  obtain ⟨l0, l1, l2⟩ := wM d [Sr d] 0 rfl
  have hc := JpX d.path [Sr d] (by omega)
  have hfc : D.clo (.func 191) [] [] = YD := rfl
  unfold KH
  by_cases h1 : (30 : Int) < d.path.length
  · have hr : Oa d = false := by unfold Oa; simp; omega
    rw [hr]
    simp [-Es, hbox, l0, h1, uP]
  have h1' : d.path.length ≤ 30 := by omega
  by_cases h2 : (d.path.all fun x => decide (0 ≤ x ∧ x ≤ 199)) = true
  · have hf : d.path.any Rw = false := by rw [Jhm, h2]; rfl
    rw [hf] at hc
    by_cases h3 : d.op < 1
    · have hr : Oa d = false := by unfold Oa; simp; omega
      rw [hr]
      simp [-Es, hbox, l0, h1, hfc, hc, l1, h3, uP]
    by_cases h4 : 7 < d.op
    · have hr : Oa d = false := by unfold Oa; simp; omega
      rw [hr]
      simp [-Es, hbox, l0, h1, hfc, hc, l1, h3, h4, uP]
    have hr : Oa d = true := by
      unfold Oa
      rw [h2]
      simp; omega
    rw [hr]
    obtain ⟨_, hx, _, _⟩ := Jik hr
    have hnew : OB Aa [] [Sr d] = some (.hp 1 0, [Sr d] ++ [.cells 164 1 [Aq]]) := VT [Sr d]
    have hI0 : dO d ([Sr d] ++ [.cells 164 1 [Aq]]) [] := ⟨rfl, Wy [Sr d]⟩
    generalize hH7 : [Sr d] ++ [HO.cells 164 1 [Aq]] = H7 at *
    obtain ⟨m0, m1, m2⟩ := wM d H7 0 hI0.box
    obtain ⟨H8, w1, w2, w3⟩ := Ob H7 1 2 [] (d.path.length : Int) ⟨by omega, by omega⟩ hI0.wr (by simp)
    have hI1 := hI0.next w3 w2
    have hu : Dk .u64 (iD d.path.length) = some (BO d.path.length) := Nz _ _ (by omega) (by omega)
    obtain ⟨m3, m4, m5⟩ := wM d H8 0 hI1.box
    have q1 := (Et d.path.length).2
    have q2 := lE d.path
    obtain ⟨r1, c1, H9, rfl, hI2⟩ := JwE d H8 _ 300 (by omega) h1' (by simp; omega) hx hI1
    obtain ⟨m6, m7, m8⟩ := wM d H9 0 hI2.box
    have hb := UG .i64 d.op
    obtain ⟨H10, v1, v2, v3⟩ := ZP H9 1 2 _ (b8 d.op) hI2.wr (by simp; omega)
    have hI3 := hI2.next v3 v2
    obtain ⟨m9, m10, m11⟩ := wM d H10 0 hI3.box
    obtain ⟨H11, u1, u2, u3⟩ := rF H10 1 2 _ d.n hn hI3.wr (by simp; omega)
    have hby := Xh H11 1 2 _ u2
    have henc : [] ++ BU ↑d.path.length ++ PL d.path ++ [b8 d.op] ++ BU (Ez d.n) = aN d := by simp [aN]
    rw [henc] at hby
    have s1 : ∀ (o : Nat) (k : Af (D × Ae)), Eb (.hp 0 o) (some [Sr d]) (some H7) k = k := fun o k => Pe 0 o _ _ 103 3 [AL d.path, iD d.op, iD d.n] k rfl (hI0.box.trans rfl) (by simp)
    have s2 : ∀ (o : Nat) (k : Af (D × Ae)), Eb (.hp 0 o) (some H9) (some H10) k = k := fun o k => Pe 0 o _ _ 103 3 [AL d.path, iD d.op, iD d.n] k hI2.box (hI3.box.trans hI2.box.symm) (by simp)
    rw [Aw rfl]
    simp [-Es, hbox, l0, h1, hfc, hc, l1, h3, h4, hnew, m0, hu, w1, s1, m3, c1, m7, hb, v1, m11, u1, hby, s2]
  · have h2' : (d.path.all fun x => decide (0 ≤ x ∧ x ≤ 199)) = false := by simpa using h2
    have hf : d.path.any Rw = true := by rw [Jhm, h2']; rfl
    rw [hf] at hc
    have hr : Oa d = false := by unfold Oa; rw [h2']; simp
    rw [hr]
    simp [-Es, hbox, l0, h1, hfc, hc, uP]

def qF(P:Aj):GT:=CO P (Uf P) Jhh 0 156
def Jmj:BN Aa 156 (qF Aa):=CQ Ta AX func156
def Qau(H:Ae)(w B:Nat)(l m:By)(h:Ea H w B l)(k:l.length+m.length+10<=4000000):∃H',qF Aa [.hp w 0,sD m] H=some (.hp w 0,H')/\Ea H' w B (l++BU m.length++m)/\Hq w H H':=by
 obtain⟨b,i,e,j⟩:=Ob H w B l (m.length:Int) ⟨by omega,by omega⟩ h (by omega);have q:=(Et m.length).2;obtain⟨g,c,a,d⟩:=ZO b w B _ m e (by simp only[DC];omega);refine⟨g,?_,a,j.trans d⟩;have u:Dk .u64 (iD m.length)=some (BO m.length):=Nz _ _ (by omega) (by omega);rw[qF,CJ func156,QaZ];simp only[Ue,AU,u,i,A7,c]
def JhA(P:Aj):Ac Cj:=(156,false,qF P)::(139,true,Ak dL)::(76,true,Ak bZ)::YE P
def Jw2:∀p∈JhA Aa,Ci Aa p:=AC (CB Jmj)<|AC (Bf Xs)<|AC (Bf Jg1)<|ZY
def AJ(P:Aj):Tab:=⟨JhA P,BM,[]⟩
def JvK:Bg Aa (AJ Aa):=CU Jw2
def Ja8:Ac Nat:=[]
def Jca(n:Nat)(N K:D)(h:Ae):AB Aa (AJ Aa) Ja8 n f87 [N,K] h=
(Ah (BA 153 N h) fun e M=>
AV 0 (some 3) M e fun R=>
Ah (Ak dL [R] M) fun S L=>
Eo S fun O P=>
Ad (Ag .int .neq P (iD 0)) fun V=>
Az V
(some ((bD false),L))
(Ad (Ai (some 8) L e) fun U=>
Ah (Ak bZ [U] L) fun w i=>
Ad (Gn w) fun x=>
Az x
(some ((bD false),i))
(Ah (qF Aa [K,O] i) fun z k=>
Ad (AP 3 e) fun p=>
Ad (Ai none k p) fun m=>
Ad (Dk .u8 m) fun G=>
Ah ((Uu Aa) [z,G] k) fun T a=>
Eb p (some i) (some k)
(JS m
(AV 3 none a e fun v=>
Ad (Ag .int .neq v (iD 0)) fun J=>
Az J
(AV 4 none a e fun F=>
Ad (Dk .u64 F) fun I=>
Ah ((Kq Aa) [K,I] a) fun s b=>
Ad (AP 5 e) fun E=>
Ad (AP 0 E) fun l=>
Ad (Ai none b l) fun o=>
Ad (Dk .u8 o) fun y=>
Ah ((Uu Aa) [s,y] b) fun H c=>
Ad (AP 5 e) fun r=>
Ad (AP 1 r) fun g=>
Ad (Ai none c g) fun q=>
Ah ((bY Aa) [H,q] c) fun B j=>
Ad (AP 7 e) fun d=>
Ad (Ai none j d) fun u=>
Ah ((OL Aa) [B,u] j) fun Q C=>
Eb l (some a) (some b)
(JS o
(Eb g (some a) (some b)
(Eb g (some b) (some c)
(Eb d (some a) (some b)
(Eb d (some b) (some c)
(Eb d (some c) (some j)
(some ((bD true),C)))))))))
(some ((bD true),a))))))):=by kernel_rfl
def Wh(m:Mu):By:=BU ((KH m.d).1.length:Nat)++(KH m.d).1++[b8 m.v]++(if m.v≠0 then BU m.test++[b8 m.kind]++BU (Ez m.value)++m.dig else[])
def Q5(m:Mu):Prop:=VZ m/\(KH m.d).2=0/\m.d.path.length<=100000/\Ib m.d.n=true/\Ib m.value=true/\(KH m.d).1.length<=2000
instance (m:Mu):Decidable (Q5 m):=by unfold Q5;exact inferInstance
def Jve(m:Mu)(h:Q5 m):(Wh m).length<=2100:=by
 obtain⟨a,_,_,_,_,g⟩:=h;have b:=(Et ((KH m.d).1.length:Nat)).2;have d:=(Et m.test).2;have c:=(Et (Ez m.value)).2;have f:m.dig.length<=32:=by
  rcases a with⟨_,_,_,_,e⟩|⟨_,_,e,_⟩|⟨_,_,e,_⟩
  ·rw[e];simp
  ·omega
  ·omega
 unfold Wh;split<;>simp only[DC,Oh,Hf]<;>omega
def JeA(m:Mu)(h:Q5 m)(H:Ae):Ak dL [Em m.d] H=some (.tup [sD (KH m.d).1,iD 0],H):=by
 obtain⟨_,c,b,a,_,_⟩:=h;have d:=Bw a;rw[CP _ _ _ rfl];have:dL [Em m.d]=_:=EO (A:=Pj) _ m.d
 grind
def yB(P:Aj):GT:=CO P (AJ P) Ja8 0 87
def JsR:BN Aa 87 (yB Aa):=CQ JvK AX func87
def Jod(m:Mu)(O:Q5 m)(H:Ae)(w B:Nat)(l:By)(h:Ea H w B l)(hB:B<=H.length)(hl:l.length<=3900000):∃H',yB Aa [FX m,.hp w 0] H=some (bD true,H')/\Ea H' w B (l++Wh m)/\Hq w H H':=by
 obtain⟨z,h2,V,h4,h5,h6⟩:=id O;have F:w<H.length:=by
  obtain⟨_,h2,d,V,_⟩:=h;exact(CV.1 V).1
 let o:HO:= .cells 153 8 (BL m);have b:BA 153 (FX m) H=some (.hp H.length 0,H++[o]):=rfl;have w0:=h.app [o];have n0:Yz (H++[o]) w H.length:=fun t sz q e=>h.notRow H.length (.inr (BQ _)) t sz q (by grind);have s:(H++[o])[H.length]? =some o:=by simp
 have k0:Hq w H (H++[o]):=Hq.app w H _ F;obtain⟨E,X,a2,C⟩:=Qau (H++[o]) w B l (KH m.d).1 w0 (by omega);obtain⟨c1,n1⟩:=C.2 H.length (by simp) (by omega) n0;have W:=c1.trans s;have q1:=(Et ((KH m.d).1.length:Nat)).2;obtain⟨i,Y,b2,y⟩:=ZP E w B _ (b8 m.v) a2 (by grind);have a:=C.1;obtain⟨c2,n2⟩:=y.2 H.length (by simp at a;omega) (by omega) n1;have x:=c2.trans W;have ac:=y.1;have f:∀k,AP k (.hp H.length 0)=some (.hp H.length k):=fun k=>by simp
 have f5:∀k,AP k (.hp H.length 5)=some (.hp H.length (5+k)):=fun k=>rfl;have R:Ai (some 3) (H++[o]) (.hp H.length 0)=some (Em m.d):=by rw[IM s];rfl
 have S:Ai (some 8) (H++[o]) (.hp H.length 0)=some (FX m):=by rw[IM s];rfl
 have Z:Ai none E (.hp H.length 3)=some (iD m.v):=by rw[IM W];rfl
 have x3:Ai none i (.hp H.length 3)=some (iD m.v):=by rw[IM x];rfl
 have x4:Ai none i (.hp H.length 4)=some (iD m.test):=by rw[IM x];rfl
 have g:DN (.tup [sD (KH m.d).1,iD 0]) 0=some (sD (KH m.d).1):=rfl;have j:DN (.tup [sD (KH m.d).1,iD 0]) 1=some (iD 0):=rfl;have p:Ag .int .neq (iD 0) (iD 0)=some (bD false):=rfl;have uv:Dk .u8 (iD m.v)=some (Gm (b8 m.v)):=UG .i64 m.v;have wh:∀(n:Int) (k:Af (D×Ae)),JS (iD n) k=k:=fun n k=>aJ _ k;have r:∀(off:Nat) (k:Af (D×Ae)),Eb (.hp H.length off) (some (H++[o])) (some E) k=k:=fun off k=>Pe H.length off _ _ 153 8 (BL m) k s c1 (by simp[BL]);by_cases c:m.v≠0
 ·have ht:0<=m.test/\m.test<20:=by
   rcases z with⟨e,_⟩|⟨_,e,_⟩|⟨_,e,_⟩
   ·exact absurd e c
   ·exact e
   ·exact e
  have hd:m.dig.length=32:=by
   rcases z with⟨e,_⟩|⟨_,_,e,_⟩|⟨_,_,e,_⟩
   ·exact absurd e c
   ·exact e
   ·exact e
  have q2:=(Et m.test).2;have q3:=(Et (Ez m.value)).2;obtain⟨u,d1,d2,K⟩:=Ob i w B _ m.test ⟨ht.1,by omega⟩ b2 (by grind);obtain⟨U,n3⟩:=K.2 H.length (by simp at a;omega) (by omega) n2;have I:=U.trans x;have ab:=K.1;obtain⟨v,e1,e2,G⟩:=ZP u w B _ (b8 m.kind) d2 (by grind);obtain⟨c4,n4⟩:=G.2 H.length (by simp at a;omega) (by omega) n3;have J:=c4.trans I;have aa:=G.1;obtain⟨N,i1,i2,T⟩:=rF v w B _ m.value (Bw h5) e2 (by simp only[DC,Oh];omega);obtain⟨Q,n5⟩:=T.2 H.length (by simp at a;omega) (by omega) n4;have g5:=Q.trans J;obtain⟨H6,j1,j2,j3⟩:=ZO N w B _ m.dig i2 (by simp only[DC,Oh];omega);have y1:Ai none u (.hp H.length (5+0))=some (iD m.kind):=by rw[IM I];rfl
  have y2:Ai none v (.hp H.length (5+1))=some (iD m.value):=by rw[IM J];rfl
  have y3:Ai none N (.hp H.length 7)=some (sD m.dig):=by rw[IM g5];rfl
  have ut:Dk .u64 (iD m.test)=some (BO m.test):=Nz _ _ ht.1 (by omega);have uk:Dk .u8 (iD m.kind)=some (Gm (b8 m.kind)):=UG .i64 m.kind;have M:∀(off:Nat) (k:Af (D×Ae)),Eb (.hp H.length off) (some i) (some u) k=k:=fun off k=>Pe H.length off _ _ 153 8 (BL m) k x U (by simp[BL]);have P:∀(off:Nat) (k:Af (D×Ae)),Eb (.hp H.length off) (some u) (some v) k=k:=fun off k=>Pe H.length off _ _ 153 8 (BL m) k I c4 (by simp[BL]);have L:∀(off:Nat) (k:Af (D×Ae)),Eb (.hp H.length off) (some v) (some N) k=k:=fun off k=>Pe H.length off _ _ 153 8 (BL m) k J Q (by simp[BL]);refine⟨H6,?_,?_,k0.trans (C.trans (y.trans (K.trans (G.trans (T.trans j3)))))⟩
  ·rw[yB,CJ func87,Jca];unfold Eo AV;simp only[b,A7,f,AU,R,JeA m O,g,j,p,Bd,BF,BC,S,cM m z,Yr,MX,X,Z,uv,Y,r,wh,x3,WM,CZ c,Bv,x4,ut,d1,f5,y1,uk,e1,y2,i1,y3,j1,M,P,L]
  ·have e:l++Wh m=l++BU ((KH m.d).1.length:Nat)++(KH m.d).1++[b8 m.v]++BU m.test++[b8 m.kind]++BU (Ez m.value)++m.dig:=by
    unfold Wh;rw[Aw c];simp only[FV]
   rw[e];exact j2
 ·refine⟨i,?_,?_,k0.trans (C.trans y)⟩
  ·rw[yB,CJ func87,Jca];unfold Eo AV;simp only[b,A7,f,AU,R,JeA m O,g,j,p,Bd,BF,BC,S,cM m z,Yr,MX,X,Z,uv,Y,r,wh,x3,WM,Dc c]
  ·have e:l++Wh m=l++BU ((KH m.d).1.length:Nat)++(KH m.d).1++[b8 m.v]:=by
    unfold Wh;rw[Am c];simp only[FV,Lj]
   rw[e];exact b2
def JiY(P:Aj):Ac Cj:=(87,false,yB P)::YE P
def JtT:∀p∈JiY Aa,Ci Aa p:=AC (CB JsR)<|ZY
def VV(P:Aj):Tab:=⟨JiY P,BM,[]⟩
def Jrl:Bg Aa (VV Aa):=CU JtT
def kT:Ac Nat:=[2,3,4,5,16,17,18]
def Jvc(n:Nat)(c:D)(h:Ae):AB Aa (VV Aa) kT n f25 [c] h=
(Ad (Bq .sl c) fun j=>
Ad (Ag .int .gtr j (iD 2000)) fun k=>
Az k
(some (.tup [CS,(iD 24)],h))
(Ah ((OB Aa) [] h) fun p g=>
Ad (Bq .sl c) fun l=>
Ad (Dk .u64 l) fun q=>
Ah ((Kq Aa) [p,q] g) fun i m=>
Ad (Bq .sl c) fun r=>
Dy (BZ Aa (VV Aa) kT n f25 0 [CS,(iD 0),i,(.clo (.func 87) [] []),c,r,(iD 0)] m) (fun o a b=>
CW o 0
(Ah ((NS Aa) [(gD a 2)] b) fun d e=>
some (.tup [d,(iD 0)],e))
(none)) (fun a b=>
some (.tup [(gD a 0),(gD a 1)],b)))):=by kernel_rfl
def Jbv(n:Nat)(s0 g e d b c a:D)(h:Ae):BK Aa (VV Aa) kT n f25 0 [s0,g,e,d,b,c,a] h=
(Ad (Ag .int .lss a c) fun o=>
Az o
(Ce 8 (some 8) h b a fun q=>
Dw 107 [Aq,(iD 0),(iD 0),(iD 0),(iD 0),(iD 0),(iD 0),CS] 8 q h fun p l=>
Ad (Ai (some 8) l p) fun m=>
Ah (C9 (VV Aa) d [m,e] l) fun r k=>
Ad (Gn r) fun i=>
Az i
(some (.ret,[CS,(iD 24),e,d,b,c,a],k))
(Ad (Ag .int .add a (iD 1)) fun j=>
some (.normal,[s0,g,e,d,b,c,j],k)))
(some ((.exit 0),[s0,g,e,d,b,c,a],h))):=by kernel_rfl
end Go.Proofs.YtapdelkomkpgmaaGreatDoor
