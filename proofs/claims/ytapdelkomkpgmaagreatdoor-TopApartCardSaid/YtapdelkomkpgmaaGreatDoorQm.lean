import Derived.Test.YtapdelkomkpgmaaGreatDoorQl
namespace Go.Proofs.YtapdelkomkpgmaaGreatDoor
open Go.Proofs.Tryz
open Go.RowKit
set_option maxRecDepth 100000
set_option linter.all false
def U9(P:Aj):GT:=CO P YQ sM 0 204
def P6(P:Aj):GT:=CO P YQ Jbg 0 263
def jD(P:Aj):GT:=CO P YQ JhY 0 262
def Jqv:BN Aa 204 (U9 Aa):=CQ Cp AX func204
def Qc3:BN Aa 263 (P6 Aa):=CQ Cp AX func263
def Juk:BN Aa 262 (jD Aa):=CQ Cp AX func262
structure ML where
 dk:D
 dv:D
 da:D
 ds:D
 de:D
 ip:Nat
 ad:List D
 fd:List D
def mC(p:Pg)(fuel:Int)(L:ML)(m:MS):Ac D:=[iD p.params,AL p.vars,A8 p.body,L.dk,L.dv,L.da,iD fuel,L.ds,iD m.k,iD m.v,iD m.st.steps,L.de,bD m.over,.mp L.ip]
def mO(p:Pg)(fuel:Int)(L:ML)(m:MS):HO:= .cells 319 14 (mC p fuel L m)
def QQ(f:FM)(d:D):Ac D:=[iD f.i,iD f.kid,d]
def Pv:Ac FM->Ac D->Ac D
 |f::r,d::a=>Pv r a++QQ f d
 |_,_=>[]
def Jv(e:Int×Int×Int):Ac D:=[iD e.1,iD e.2.1,iD e.2.2]
def Sm(γ:Nat->Nat)(H:Ae):Ac FM->Ac D->Prop
 |f::r,d::a=>Ff γ (101+2*r.length) 3 1 d f.vals.length (f.vals.map iD) H/\Sm γ H r a
 |[],[]=>True
 |_,_=>False
def rH(γ:Nat->Nat)(H:Ae)(arrs:Ac (Ac Int))(ad:Ac D):Prop:=ad.length=arrs.length/\∀(j:Nat) r d,arrs[j]? =some r->ad[j]? =some d->Eh γ (100+2*j) 3 1 d r.length (r.map iD) H
def dN(l:Ac Nd):Ac D:=(List.range l.length).map fun(i:Nat)=>AL (AZ l (i:Int))
def CT:HO:= .cells 237 4 [iD 0,iD 0,iD 0,Aq]
structure MI(p:Pg)(fuel:Int)(im:Nat)(γ:Nat->Nat)(L:ML)(m:MS)(H:Ae):Prop where
 mach:At γ 0 im (mO p fuel L m) H
 kids:Eh γ 1 22 1 L.dk p.body.length (dN p.body) H
 vals:Eh γ 2 3 1 L.dv m.st.vals.length (m.st.vals.map iD) H
 arrs:Eh γ 3 22 1 L.da m.st.arrs.length L.ad H
 each:rH γ H m.st.arrs L.ad
 stk:Eh γ 4 322 3 L.ds m.stk.length (Pv m.stk L.fd) H
 frames:Sm γ H m.stk L.fd
 evs:Eh γ 5 433 3 L.de m.st.evs.length (m.st.evs.flatMap Jv) H
 pairs:At γ 6 L.ip (.map Yh YX) H
 ret:At γ 9 1 CT H
theorem Sm.stay{γ γ':Nat->Nat}{c:Nat}{H H':Ae}(hs:DZ γ γ' c H H'):∀{l:Ac FM} {ds:Ac D},Sm γ H l ds->(∀j,j<l.length->c≠101+2*j)->Sm γ' H' l ds
 |[],[],h,_=>trivial
 |f::r,d::g,h,a=>⟨h.1.stay hs (fun e=>a r.length (by simp) e.symm),Sm.stay hs h.2 fun j b=>a j (by simp;omega)⟩
 |[],_::_,h,_=>h.elim
 |_::_,[],h,_=>h.elim
def rH.stay{γ γ':Nat->Nat}{c:Nat}{H H':Ae}(hs:DZ γ γ' c H H'){l:Ac (Ac Int)}{ds:Ac D}(h:rH γ H l ds)(b:∀j,j<l.length->c≠100+2*j):rH γ' H' l ds:=
 ⟨h.1,fun j r d a f=>(h.2 j r d a f).stay hs fun e=>b j (CV.1 a).1 e.symm⟩
def JuE{l:Ac FM}{ds:Ac D}{γ:Nat->Nat}{H:Ae}(h:Sm γ H l ds):(Pv l ds).length=l.length*3:=by
 induction l generalizing ds with
 |nil=>cases ds<;>rfl
 |cons f r a=>
  cases ds with
  |nil=>exact h.elim
  |cons d b=>simp only[Pv,DC,a h.2,QQ,Ej,Hf];omega
section
variable {p : Pg} {fuel : Int} {im : Nat} {γ : Nat → Nat} {L : ML} {m : MS} {H : Ae}
def MI.own(h:MI p fuel im γ L m H)(m':MS)(b:m'.stk=m.stk)(c:m'.st.vals=m.st.vals)(a:m'.st.arrs=m.st.arrs)(d:m'.st.evs=m.st.evs):MI p fuel im γ L m' (H.set im (mO p fuel L m')):=by
 have hs:=DZ.put h.mach (mO p fuel L m');refine⟨h.mach.put _,h.kids.stay hs (by decide),?_,?_,?_,?_,?_,?_,hs.2 _ _ _ (by decide) h.pairs,hs.2 _ _ _ (by decide) h.ret⟩
 ·rw[c];exact h.vals.stay hs (by decide)
 ·rw[a];exact h.arrs.stay hs (by decide)
 ·rw[a];exact h.each.stay hs fun j _=>by omega
 ·rw[b];exact h.stk.stay hs (by decide)
 ·rw[b];exact h.frames.stay hs fun j _=>by omega
 ·rw[d];exact h.evs.stay hs (by decide)
def LH(h:MI p fuel im γ L m H)(k:Nat)(d:D)(a:(mC p fuel L m)[k]? =some d):Ai none H (.hp im k)=some d:=by
 rw[IM h.mach.2];simp_all
def O2(h:MI p fuel im γ L m H)(k:Nat)(x:D)(c:D7 x=some [x])(b:Df x=true)(e:k<14){cs':Ac D}(d:(mC p fuel L m).set k x=cs'):Bh 1 (.hp im k) x H=some (.v undef,H.set im (.cells 319 14 cs')):=by
 have a:(mC p fuel L m).take k++[x]++(mC p fuel L m).drop (k+1)=(mC p fuel L m).set k x:=by
  rw[Ay,Aw (by simp[mC];omega)];simp
 simp only[Bh,FI,c,h.mach.2,mO,Oh,Na,b,eX,pG,pR,pU];rw[Aw (by simp[mC];omega),a,d];rfl
def yR(n:Int)(b: -9223372036854775808<=n)(a:n<=9223372036854775807):Jw n=n:=by
 exact VK n b a
def ZH(h:MI p fuel im γ L m H)(k v:Int):U9 Aa [.hp im 0,iD k,iD v] H=some (.tup [],H.set im (mO p fuel L (m.stop k v)))/\MI p fuel im γ L (m.stop k v) (H.set im (mO p fuel L (m.stop k v))):=by
 have d:=h.own {m with k:=k,v:=v} rfl rfl rfl rfl;refine⟨?_,h.own (m.stop k v) rfl rfl rfl rfl⟩;unfold U9;rw[CJ func204,Qb2];unfold Ha JM;have b:CY [(0,1),(1,1)] [iD 0,iD 0] [(0,iD k),(1,iD v)]=some (.agg [iD k,iD v]):=rfl;have c:Bh 2 (.hp im 8) (.agg [iD k,iD v]) H=some (.v undef,H.set im (mO p fuel L {m with k:=k,v:=v})):=by
  simp only[Bh,FI,D7,h.mach.2,mO,mC];rfl
 have a:=O2 d 12 (bD true) rfl rfl (by decide) (cs':=mC p fuel L (m.stop k v)) rfl;rw[Nb]at a;simp only[b,AU,Dj,AP,EE,c,A7,a];rfl
def ZD{γ:Nat->Nat}{c:Nat}{e:AQ}{sz n:Nat}{d:D}{cs:Ac D}{H:Ae}(h:Eh γ c e sz d n cs H)(a:0<n):D7 d=some [d]/\Df d=true:=by
 obtain⟨_,⟨_,e⟩|⟨i,all,rfl,_⟩⟩:=h
 ·omega
 ·exact⟨rfl,rfl⟩
def lH(n:Nat)(a:n<=4000000):Ag .int .sub (iD ((n+1:Nat):Int)) (iD 1)=some (iD n):=by
 show some (iD (Jw _))=_;have:Jw (((n+1:Nat):Int)-1)=n:=by
  rw[show((n+1:Nat):Int)-1=n from by omega];exact yR _ (by omega) (by omega)
 rw[this]
def MI.top(h:MI p fuel im γ L m H){f:FM}{r:Ac FM}(hs:m.stk=f::r):∃d b i,L.fd=d::b/\Sm γ H r b/\Ff γ (101+2*r.length) 3 1 d f.vals.length (f.vals.map iD) H/\L.ds= .hs i (r.length+1)/\(Pv r b).length=r.length*3/\
  Bq .sl L.ds=some (iD ((r.length+1:Nat):Int))/\BG 3 L.ds (iD r.length)=some (.hp i (r.length*3))/\(∀k x,(QQ f d)[k]? =some x->Ai none H (.hp i (r.length*3+k))=some x)/\Ai (some 3) H (.hp i (r.length*3))=some (.agg (QQ f d)):=by
 have a:=h.frames;have e:=h.stk;rw[hs]at a e;cases s:L.fd with
 |nil=>rw[s]at a;exact a.elim
 |cons d b=>
  rw[s]at a e;have n:=JuE a.2;obtain⟨i,all,v,y,o,u,q⟩:=e.idx (j:=r.length) (by simp);have l:∀k,k<3->all[r.length*3+k]? =(QQ f d)[k]? :=by
   intro k c;rw[JiW u (by grind)];rw[Pv,SV (by omega),n];congr 1;omega
  refine⟨d,b,i,rfl,a.2,a.1,v,n,e.len,y,fun k x w=> ?_,?_⟩
  ·have c:k<3:=by have:=(CV.1 w).1;simpa[QQ]using this
   rw[IM o.2];simp_all
  ·rw[IM o.2];have g:(m.stk.length)*3<=all.length:=by rw[hs];exact q
   rw[hs]at g;simp only[Ej]at g q;have z:((all.drop (r.length*3)).drop 0).take 3=QQ f d:=by
    apply PU;intro k;by_cases c:k<3
    ·grind
    ·rw[UC (by simp;omega),UC (by simp[QQ];omega)]
   simp only[MW]
   grind
def Xo(h:MI p fuel im γ L m H){v:Int}{m':MS}(ht:Ky v m=some m')(O:∀f∈m.stk,f.vals.length<=1000000)(x:m.stk.length<=1000000):∃γ' P H',P6 Aa [.hp im 0,iD v] H=some (.tup [],H')/\MI p fuel im γ' P m' H':=by
 unfold Ky at ht;split at ht
 case h_2=>cases ht
 rename_i f r hs;cases ht;obtain⟨d,y,i,u,o,e,D,g,F,c,s,_⟩:=h.top hs;have M:=O f (by rw[hs];simp);rw[hs]at x;simp only[Ej]at x;obtain⟨q,T,γ2,N,z,b⟩:=e.row.pushX (by decide) (new:=[iD v]) rfl rfl (by omega);have l:=h.stk.stay b (by omega);obtain⟨I,Q⟩:=ZD z.row (by omega);obtain⟨S,U,K,w,B,J,C,a⟩:=l.write (j:=r.length) (k:=2) (by rw[hs];simp) (by decide) I Q;rw[c]at w;cases w;cases B;refine⟨γ2,{L with fd:=q::y},K,?_,?_⟩
 ·unfold P6;rw[CJ func263,QbD];unfold Dx Ha;have G:=LH h 7 L.ds rfl;have E:DI 3 1 1 [iD 0] [(0,iD v)] H=some (.hs H.length 1,H++[.cells 3 1 [iD v]]):=rfl;simp only[Dj,AU,AP,EE,G,F,lH _ (show r.length<=4000000 by omega),c,s 2 d rfl,E,A7,N,J]
 ·have n:(Pv m.stk L.fd).set (r.length*3+2) q=Pv ({f with vals:=f.vals++[v]}::r) (q::y):=by
   rw[hs,u];simp only[Pv];rw[Jkz _ _ (by omega),g,show r.length*3+2-r.length*3=2 from by omega];rfl
  rw[n]at C;refine⟨a.2 _ _ _ (by decide) (b.2 _ _ _ (by omega) h.mach),(h.kids.stay b (by omega)).stay a (by decide),(h.vals.stay b (by omega)).stay a (by decide),(h.arrs.stay b (by omega)).stay a (by decide),(h.each.stay b fun j _=>by omega).stay a fun j _=>by omega,?_,⟨?_,(o.stay b fun j R=>by omega).stay a fun j _=>by omega⟩,(h.evs.stay b (by omega)).stay a (by decide),a.2 _ _ _ (by decide) (b.2 _ _ _ (by omega) h.pairs),a.2 _ _ _ (by decide) (b.2 _ _ _ (by omega) h.ret)⟩
  ·grind
  ·have:=z.stay a (by omega);simpa using this
end
def JC(p:Pg)(a:Ac Int)(f:Int):Int:=
 if¬KL p=0 then 23 else if p.body.length=0 then 23 else if¬Bc p.body 0=p.body.length then 23 else
 if¬(Bj p.body 0).1=20 then 23 else if¬SK p 0=2 then 23 else if¬(a.length:Int)=p.params then 18 else if f<0 then 19 else if 10000<f then 19 else 0
def lC:Ac D->Af D:=F3 Ef OY BV fun p a f=>if p.body.length<=3000000 then some (iD (JC p a f))else none
def JcJ:Bz Aa 202 lC:=V4 (kp:=Jhx) Cp AX func202 fun p a f d h=>by
 split at h
 case isFalse=>cases h
 rename_i r;cases h;refine⟨0,iD (JC p a f),?_,AY.refl _⟩;show BB (AB _ _ _ _ _ [Be p,AL a,iD f] [])=_;rw[QcQ];unfold AV;have c:BA 25 (Be p) []=some (.hp 0 0,[.cells 25 3 [iD p.params,AL p.vars,A8 p.body]]):=rfl;have y:AP 2 (.hp 0 0)=some (.hp 0 2):=rfl;have u:AP 0 (.hp 0 0)=some (.hp 0 0):=rfl;have q:Ai (some 3) [.cells 25 3 [iD p.params,AL p.vars,A8 p.body]] (.hp 0 0)=some (Be p):=rfl;have s:Ai none [.cells 25 3 [iD p.params,AL p.vars,A8 p.body]] (.hp 0 2)=some (A8 p.body):=rfl;have B:Ai none [.cells 25 3 [iD p.params,AL p.vars,A8 p.body]] (.hp 0 0)=some (iD p.params):=rfl;have dk:∀x:Int,BB (some (iD x,[HO.cells 25 3 [iD p.params,AL p.vars,A8 p.body]]))=some (iD x):=fun x=>Gu _ _ rfl;have lss (a b:Int):Ag .int .lss (iD a) (iD b)=some (bD (decide (a<b))):=rfl;have gtr (a b:Int):Ag .int .gtr (iD a) (iD b)=some (bD (decide (b<a))):=rfl;simp only[c,A7,q,AU,rW,YO,Bd];unfold JC;by_cases j:KL p=0
 case neg=>rw[Aw (by simpa using j),Aw j];exact dk _
 rw[Am (by simpa using j),Am (by simpa using j)];simp only[y,s,AU,wE,Su,Bd];by_cases l:p.body.length=0
 ·rw[Aw (by simp[l]),Aw l];exact dk _
 rw[Am (by simpa using l),Am l];simp only[Wc _ _ r,A7,s,AU,wE,YO,Bd];by_cases k:Bc p.body 0=p.body.length
 case neg=>rw[Aw (by simpa using k),Aw k];exact dk _
 rw[Am (by simpa using k),Am (by simpa using k)];have w:BG 2 (A8 p.body) (iD 0)=some (.ptr (Cb p.body[0])):=Oi _ 0 (by omega);have z:AP 0 (.ptr (Cb p.body[0]))=some (.ptr (Cb p.body[0])):=rfl;have o:Ai none [.cells 25 3 [iD p.params,AL p.vars,A8 p.body]] (.ptr (Cb p.body[0]))=some (iD (p.body[0]).1):=rfl;have v:Bj p.body 0=p.body[0]:=by
  show p.body.getD 0 _=_;rw[Ed,FQ (by omega)];rfl
 simp only[w,z,o,AU,YO,Bd,v];by_cases i:(p.body[0]).1=20
 case neg=>rw[Aw (by simpa using i),Aw i];exact dk _
 rw[Am (by simpa using i),Am (by simpa using i)];simp only[q,AU,Sw p 0 r,A7,YO,Bd];by_cases n:SK p 0=2
 case neg=>rw[Aw (by simpa using n),Aw n];exact dk _
 rw[Am (by simpa using n),Am (by simpa using n)];simp only[Hs,AU,u,B,YO,Bd];by_cases e:(a.length:Int)=p.params
 case neg=>rw[Aw (by simpa using e),Aw e];exact dk _
 rw[Am (by simpa using e),Am (by simpa using e)];simp only[lss,gtr,AU,Bd];by_cases m:f<0
 ·rw[Aw (by simpa using m),Aw m];exact dk _
 rw[Am (by simpa using m),Am m];by_cases g:10000<f
 ·rw[Aw (by simpa using g),Aw g];exact dk _
 rw[Am (by simpa using g),Am g];exact dk _
def mK(P:Aj):Ac Cj:=(202,true,Ak lC)::(262,false,jD P)::(204,false,U9 P)::(263,false,P6 P)::S5
def Jhy:∀p∈mK Aa,Ci Aa p:=AC (Bf JcJ)<|AC (CB Juk)<|AC (CB Jqv)<|AC (CB Qc3)<|JgB
def Jl(P:Aj):Tab:=⟨mK P,BM,[]⟩
def jY:Bg Aa (Jl Aa):=CU Jhy
def VB:Ac Nat:=[1,3,7,19,20,38,39,40]
def QeW(n:Nat)(q s p:D)(h:Ae):AB Aa (Jl Aa) VB n f203 [q,s,p] h=
(Ah (BA 25 q h) fun g k=>
Ad (Ai (some 3) k g) fun y=>
Ah ((jD Aa) [] k) fun v o=>
Ad (CY [(0,3),(3,1),(4,1),(5,1),(6,1),(7,1),(8,4),(12,1),(13,1)] [(iD 0),Aq,Aq,Aq,Aq,Aq,(iD 0),Aq,(iD 0),(iD 0),(iD 0),Aq,(bD false),(.v (.map none))] [(0,y),(4,p),(8,v)]) fun w=>
Ah (BA 319 w o) fun u r=>
Eb g (some k) (some o)
(AV 2 none r g fun x=>
Ad (Bq .sl x) fun i=>
Dy (BZ Aa (Jl Aa) VB n f203 0 [s,g,u,i,(iD 0),.undef,.undef,.undef] r) (fun m a b=>
CW m 0
(AV 1 none b (gD a 1) fun e=>
Ad (Bq .sl e) fun l=>
Dy (BZ Aa (Jl Aa) VB n f203 1 [(gD a 0),(gD a 1),(gD a 2),(gD a 3),(gD a 4),e,l,(iD 0)] b) (fun j d c=>
CW j 2
(some ((gD d 2),c))
(none)) (fun d c=>
some (.undef,c)))
(none)) (fun a b=>
some (.undef,b)))):=by kernel_rfl
def JjZ(n:Nat)(s0 c a d b i e k:D)(h:Ae):BK Aa (Jl Aa) VB n f203 0 [s0,c,a,d,b,i,e,k] h=
(Ad (Ag .int .lss b d) fun s=>
Az s
(Dx 3 none h a fun q=>
AV 2 none h c fun r=>
Ah (DX Rj [r,b] h) fun o u=>
Ah (DI 22 1 1 [Aq] [(0,o)] u) fun w p=>
Ah (D5 22 1 q w p) fun g j=>
Ha 3 1 a g j fun v m=>
Ad (Ag .int .add b (iD 1)) fun l=>
some (.normal,[s0,c,a,d,l,i,e,k],m))
(some ((.exit 0),[s0,c,a,d,b,i,e,k],h))):=by kernel_rfl
def Jid(n:Nat)(s0 k a m l e j b:D)(h:Ae):BK Aa (Jl Aa) VB n f203 1 [s0,k,a,m,l,e,j,b] h=
(Ad (Ag .int .lss b j) fun y0=>
Az y0
(Ce 1 none h e b fun U=>
Ad (Bq .sl s0) fun y3=>
Ad (Ag .int .lss b y3) fun y4=>
Az y4
(Ce 1 none h s0 b fun V=>
Dx 4 none h a fun Z=>
Ah (DI 3 1 1 [(iD 0)] [(0,V)] h) fun p K=>
Ah (D5 3 1 Z p K) fun q J=>
Ha 4 1 a q J fun X i=>
Dx 5 none i a fun P=>
Ah (Ak V5 [U] i) fun c G=>
Ah (NV 3 1 [(iD 0)] c c G) fun w C=>
Ah (DI 22 1 1 [Aq] [(0,w)] C) fun S H=>
Ah (D5 22 1 P S H) fun T I=>
Ha 5 1 a T I fun W F=>
Ad (Ag .int .add b (iD 1)) fun x=>
some (.normal,[s0,k,a,m,l,e,j,x],F))
(Dx 4 none h a fun o=>
Ah (DI 3 1 1 [(iD 0)] [(0,(iD 0))] h) fun L u=>
Ah (D5 3 1 o L u) fun R Q=>
Ha 4 1 a R Q fun Y d=>
Dx 5 none d a fun E=>
Ah (Ak V5 [U] d) fun g s=>
Ah (NV 3 1 [(iD 0)] g g s) fun z B=>
Ah (DI 22 1 1 [Aq] [(0,z)] B) fun y r=>
Ah (D5 22 1 E y r) fun v N=>
Ha 5 1 a v N fun aa M=>
Ad (Ag .int .add b (iD 1)) fun O=>
some (.normal,[s0,k,a,m,l,e,j,O],M)))
(some ((.exit 2),[s0,k,a,m,l,e,j,b],h))):=by kernel_rfl
def Jc5:Ac Nat:=[]
def JeF(n:Nat)(a g b:D)(h:Ae):AB Aa (Jl Aa) Jc5 n f264 [a,g,b] h=
(Ad (Ag .int .lss b (iD 0)) fun l=>
Az l
(Ah ((U9 Aa) [a,(iD 2),(iD 0)] h) fun r m=>
some (Ic,m))
(Dx 5 none h a fun o=>
Ce 1 none h o g fun k=>
Ad (Bq .sl k) fun p=>
Ad (Ag .int .geq b p) fun q=>
Az q
(Ah ((U9 Aa) [a,(iD 2),(iD 0)] h) fun j d=>
some (Ic,d))
(Dx 5 none h a fun e=>
Ce 1 none h e g fun i=>
Ad (BG 1 i b) fun c=>
some (c,h)))):=by kernel_rfl
def Jht:Ac Nat:=[]
def Jwa(n:Nat)(e j m l a:D)(h:Ae):AB Aa (Jl Aa) Jht n f265 [e,j,m,l,a] h=
(Ad (Ag .ptr .neq j Ic) fun v=>
Az v
(Ad (Dj j) fun w=>
Ah (Bh 1 w a h) fun y o=>
Ad (Dj e) fun q=>
Ad (AP 8 q) fun r=>
AV 3 none o r fun p=>
Ad (CY [(0,1),(1,1),(2,1)] [(iD 0),(iD 0),(iD 0)] [(0,m),(1,l),(2,a)]) fun x=>
Ah (DI 433 3 1 [(iD 0),(iD 0),(iD 0)] [(0,x)] o) fun u g=>
Ah (D5 433 3 p u g) fun k c=>
Ad (Dj e) fun b=>
Ad (AP 8 b) fun i=>
JM 3 1 i k c fun s d=>
some (.tup [],d))
(some (.tup [],h))):=by kernel_rfl
def Jix:Ac Nat:=[1000000]
def Jf7(n:Nat)(a b i d:D)(h:Ae):AB Aa (Jl Aa) Jix n f266 [a,b,i,d] h=
(Ad (Ad (Ag .int .eql d (iD 0)) fun m=>
Az m
(Ad (Ag .int .eql b (iD 10)) fun o=>
Az o
(some (bD true))
(Ad (Ag .int .eql b (iD 11)) fun q=>
some q))
(some (bD false))) fun p=>
Az p
(Ah ((U9 Aa) [a,(iD 1),(iD 0)] h) fun u s=>
some (.tup [],s))
(Ad (Dj a) fun j=>
Ad (AP 13 j) fun l=>
Ad (Ai none h l) fun r=>
Ad (O8 BI false h r b) fun t=>
Ah (C9 (Jl Aa) t [i,d] h) fun c g=>
Ah ((P6 Aa) [a,c] g) fun k e=>
some (.tup [],e))):=by kernel_rfl
def Jd9:Ac Nat:=[]
def JjI(n:Nat)(a s:D)(h:Ae):AB Aa (Jl Aa) Jd9 n f205 [a,s] h=
(Ad (Dj a) fun z=>
Ad (AP 8 z) fun B=>
AV 2 none h B fun x=>
Dx 6 none h a fun u=>
Ad (Ag .int .eql x u) fun w=>
Az w
(Ah ((U9 Aa) [a,(iD 4),(iD 0)] h) fun E v=>
some (.tup [],v))
(Ad (Dj a) fun e=>
Ad (AP 8 e) fun r=>
AV 2 none h r fun g=>
Ad (Ag .int .add g (iD 1)) fun p=>
Ad (Dj a) fun q=>
Ad (AP 8 q) fun j=>
JM 2 1 j p h fun y b=>
Dx 7 none b a fun m=>
Ad (CY [(0,1),(1,1),(2,1)] [(iD 0),(iD 0),Aq] [(0,s)]) fun l=>
Ah (DI 322 3 1 [(iD 0),(iD 0),Aq] [(0,l)] b) fun k i=>
Ah (D5 322 3 m k i) fun c o=>
Ha 7 1 a c o fun C d=>
some (.tup [],d))):=by kernel_rfl
def JhZ:Ac Nat:=[1000001,1000002,1000003,1000005,1000007,1000009]
def JtV(n:Nat)(r b:D)(h:Ae):AB Aa (Jl Aa) JhZ n f206 [r,b] h=
(Ad (Dx 3 none h r fun y2=>
Dx 0 none h b fun y5=>
Ce 1 none h y2 y5 fun y7=>
some y7) fun t=>
Ad (Ad (Dj r) fun y9=>
Ad (AP 0 y9) fun J=>
AV 2 none h J fun K=>
Dx 0 none h b fun F=>
Ad (BG 2 K F) fun l=>
AV 0 none h l fun x=>
some x) fun a=>
Ad (Dx 1 none h b fun R=>
Ad (Ag .int .eql R (iD 1)) fun o=>
Az o
(Ad (Ag .int .eql a (iD 18)) fun ad=>
Az ad
(Dx 2 none h b fun G=>
Ce 1 none h G (iD 0) fun g=>
Ad (Ag .int .eql g (iD 0)) fun ag=>
Az ag
(some (bD true))
(Ad (Ag .int .eql a (iD 19)) fun i=>
Az i
(Dx 2 none h b fun H=>
Ce 1 none h H (iD 0) fun e=>
Ad (Ag .int .eql e (iD 1)) fun ac=>
Az ac
(some (bD true))
(Ad (Ag .int .eql a (iD 24)) fun ae=>
Az ae
(Dx 2 none h b fun aa=>
Ce 1 none h aa (iD 0) fun N=>
Ad (Ag .int .eql N (iD 0)) fun U=>
some U)
(some (bD false))))
(Ad (Ag .int .eql a (iD 24)) fun Z=>
Az Z
(Dx 2 none h b fun L=>
Ce 1 none h L (iD 0) fun P=>
Ad (Ag .int .eql P (iD 0)) fun B=>
some B)
(some (bD false)))))
(Ad (Ag .int .eql a (iD 19)) fun q=>
Az q
(Dx 2 none h b fun M=>
Ce 1 none h M (iD 0) fun Q=>
Ad (Ag .int .eql Q (iD 1)) fun C=>
Az C
(some (bD true))
(Ad (Ag .int .eql a (iD 24)) fun I=>
Az I
(Dx 2 none h b fun p=>
Ce 1 none h p (iD 0) fun ab=>
Ad (Ag .int .eql ab (iD 0)) fun E=>
some E)
(some (bD false))))
(Ad (Ag .int .eql a (iD 24)) fun S=>
Az S
(Dx 2 none h b fun m=>
Ce 1 none h m (iD 0) fun O=>
Ad (Ag .int .eql O (iD 0)) fun V=>
some V)
(some (bD false)))))
(some (bD false))) fun k=>
Az k
(some (.tup [(iD 0),(bD false)],h))
(Ad (Ad (Ag .int .eql a (iD 23)) fun y=>
Az y
(Dx 1 none h b fun w=>
Ad (Ag .int .gtr w (iD 1)) fun v=>
some v)
(some (bD false))) fun Y=>
Az Y
(some (.tup [(iD 0),(bD false)],h))
(Ad (Ad (Ag .int .eql a (iD 23)) fun u=>
Az u
(Dx 1 none h b fun aj=>
Ad (Ag .int .eql aj (iD 1)) fun ak=>
some ak)
(some (bD false))) fun ai=>
Az ai
(Dx 2 none h b fun W=>
Ce 1 none h W (iD 0) fun z=>
Ad (Ag .int .sub (iD 2) z) fun T=>
Ce 1 none h t T fun s=>
some (.tup [s,(bD true)],h))
(Ad (Dx 1 none h b fun af=>
Ad (Bq .sl t) fun j=>
Ad (Ag .int .lss af j) fun X=>
some X) fun ah=>
Az ah
(Dx 1 none h b fun c=>
Ce 1 none h t c fun d=>
some (.tup [d,(bD true)],h))
(some (.tup [(iD 0),(bD false)],h)))))):=by kernel_rfl
def XU(P:Aj):GT:=CO P (Jl P) Jc5 0 264
def Yo(P:Aj):GT:=CO P (Jl P) Jht 0 265
def fQ(P:Aj):GT:=CO P (Jl P) Jix 0 266
def Y8(P:Aj):GT:=CO P (Jl P) Jd9 0 205
def yN(P:Aj):GT:=CO P (Jl P) JhZ 0 206
def JwW:BN Aa 264 (XU Aa):=CQ jY AX func264
def Jk4:BN Aa 265 (Yo Aa):=CQ jY AX func265
def Qfl:BN Aa 266 (fQ Aa):=CQ jY AX func266
def Qa2:BN Aa 205 (Y8 Aa):=CQ jY AX func205
def Jro:BN Aa 206 (yN Aa):=CQ jY AX func206
def Jli(t a b:Int)(ht:7<=t/\t<=17)(h:¬(b=0/\(t=10\/t=11)))(H:Ae){i:Nat}(e:H[i]? =some (.map Yh YX)):∃f,O8 BI false H (.mp i) (iD t)=some f/\C9 (Jl Aa) f [iD a,iD b] H=some (iD (Js t a b),H):=by
 have key:∀n,Vo Yh YX t=some (.clo (.func n) [] [])->QC (Jl Aa) n [iD a,iD b] H=Ak (Jp t) [iD a,iD b] H->∃f,O8 BI false H (.mp i) (iD t)=some f/\C9 (Jl Aa) f [iD a,iD b] H=some (iD (Js t a b),H):=by
  intro n d c;refine⟨.clo (.func n) [] [],?_,?_⟩
  ·simp only[O8,Ye,e,BR,dK,d];rfl
  ·exact c.trans (Jq0 t a b h H)
 obtain⟨d,c⟩:=ht;have:t=7\/t=8\/t=9\/t=10\/t=11\/t=12\/t=13\/t=14\/t=15\/t=16\/t=17:=by omega
 rcases this with rfl|rfl|rfl|rfl|rfl|rfl|rfl|rfl|rfl|rfl|rfl
 ·exact key 296 rfl rfl
 ·exact key 297 rfl rfl
 ·exact key 298 rfl rfl
 ·exact key 306 rfl rfl
 ·exact key 307 rfl rfl
 ·exact key 299 rfl rfl
 ·exact key 301 rfl rfl
 ·exact key 302 rfl rfl
 ·exact key 303 rfl rfl
 ·exact key 304 rfl rfl
 ·exact key 305 rfl rfl
section
variable {p : Pg} {fuel : Int} {im : Nat} {γ : Nat → Nat} {L : ML} {m : MS} {H : Ae}
def JaD(a:Int):Ag .int .lss (iD a) (iD 0)=some (bD (decide (a<0))):=rfl
def AF(a b:Int):Ag .int .lss (iD a) (iD b)=some (bD (decide (a<b))):=rfl
def QcP(a b:Int):Ag .int .gtr (iD a) (iD b)=some (bD (decide (a>b))):=rfl
def JfK(a b:Int):Ag .int .geq (iD a) (iD b)=some (bD (decide (a>=b))):=rfl
def MI.arr(h:MI p fuel im γ L m H){n:Int}(g:0<=n){r:Ac Int}(c:m.st.arrs[n.toNat]? =some r):∃d q,L.ad[n.toNat]? =some d/\Eh γ (100+2*n.toNat) 3 1 d r.length (r.map iD) H/\BG 1 L.da (iD n)=some q/\Ai none H q=some d:=by
 have a:=(CV.1 c).1;have b:L.ad[n.toNat]? =some (L.ad[n.toNat]'(by rw[h.each.1];exact a)):=FQ _;obtain⟨q,f,e⟩:=h.arrs.load1 (j:=n.toNat) a;refine⟨_,q,b,h.each.2 _ _ _ c b,?_,by rw[e,b]⟩
 grind
def xD(h:MI p fuel im γ L m H){n a:Int}(j:0<=n){r:Ac Int}(g:m.st.arrs[n.toNat]? =some r)(s:¬(0<=a/\a<r.length)):XU Aa [.hp im 0,iD n,iD a] H=some (Ic,H.set im (mO p fuel L (m.stop 2 0))):=by
 obtain⟨e,u⟩:=ZH h 2 0;unfold XU;rw[CJ func264,JeF];unfold Dx Ce;obtain⟨d,q,t,l,c,k⟩:=h.arr j g;have o:=LH h 5 L.da rfl;by_cases i:a<0
 ·simp_all
 ·have b:a>=(r.length:Int):=by omega
  simp only[JaD,AU,Bd,Dc i,BF,BC,Dj,AP,EE,o,c,k,l.len,JfK,CZ b,Bv,e,A7]
def JhH(h:MI p fuel im γ L m H){n a:Int}(l:0<=n){r:Ac Int}(v:m.st.arrs[n.toNat]? =some r)(E:0<=a/\a<r.length):∃d i,L.ad[n.toNat]? =some d/\Eh γ (100+2*n.toNat) 3 1 d r.length (r.map iD) H/\BG 1 d (iD a)=some (.hp i (a.toNat*1))/\XU Aa [.hp im 0,iD n,iD a] H=some (.hp i (a.toNat*1),H)/\Ai none H (.hp i (a.toNat*1))=some (iD (r.getD a.toNat 0)):=by
 obtain⟨d,q,s,g,u,o⟩:=h.arr l v;have c:a.toNat<r.length:=by omega
 have b:((a.toNat:Nat):Int)=a:=by omega
 obtain⟨i,all,z,e,C,y,D⟩:=g.idx c;obtain⟨B,k,F⟩:=g.load1 c;rw[e]at k;cases k;rw[b]at e;refine⟨d,i,s,g,e,?_,?_⟩
 ·unfold XU;rw[CJ func264,JeF];unfold Dx Ce;have x:=LH h 5 L.da rfl;have w:¬a<0:=by omega
  have j:¬a>=(r.length:Int):=by omega
  simp only[JaD,AU,Bd,Dc w,BF,BC,Dj,AP,EE,x,u,o,g.len,JfK,Dc j,e]
 grind
def JiQ(h:MI p fuel im γ L m H){i k:Nat}{n a v:Int}{γ2:Nat->Nat}{l:ML}{d:MS}{r:Ae}(hs:Bh 1 (.hp i k) (iD v) H=some (.v undef,r))(c:MI p fuel im γ2 l d r)(I:d.st.evs.length<=1000000):
  ∃γ' o H',Yo Aa [.hp im 0,.hp i k,iD n,iD a,iD v] H=some (.tup [],H')/\MI p fuel im γ' o {d with st:={d.st with evs:=d.st.evs++[(n,a,v)]}} H':=by
 have y:=Xf 433 (sz:=3) (z:=[iD 0,iD 0,iD 0]) (x:= .agg [iD n,iD a,iD v]) (new:=[iD n,iD a,iD v]) rfl rfl rfl (by decide) rfl r;obtain⟨u,q,γ3,G,w,e⟩:=c.evs.push (by decide) (new:=[iD n,iD a,iD v]) rfl rfl (by omega);obtain⟨C,E⟩:=ZD w (by omega);have F:MI p fuel im γ3 {l with de:=l.de} d q->True:=fun _=>trivial;have g:At γ3 0 im (mO p fuel l d) q:=e.2 _ _ _ (by decide) c.mach;let m':MS:={d with st:={d.st with evs:=d.st.evs++[(n,a,v)]}};let o:ML:={l with de:=u};have s:Bh 1 (.hp im 11) u q=some (.v undef,q.set im (mO p fuel o m')):=by
  simp only[Bh,FI,C,g.2,mO,mC];simp only[Ej,Hf,Na,E,eX,pG];rfl
 have b:=DZ.put g (mO p fuel o m');refine⟨γ3,o,q.set im (mO p fuel o m'),?_,⟨g.put _,(c.kids.stay e (by decide)).stay b (by decide),(c.vals.stay e (by decide)).stay b (by decide),(c.arrs.stay e (by decide)).stay b (by decide),(c.each.stay e fun j _=>by omega).stay b fun j _=>by omega,(c.stk.stay e (by decide)).stay b (by decide),(c.frames.stay e fun j _=>by omega).stay b fun j _=>by omega,?_,b.2 _ _ _ (by decide) (e.2 _ _ _ (by decide) c.pairs),b.2 _ _ _ (by decide) (e.2 _ _ _ (by decide) c.ret)⟩⟩
 ·unfold Yo;rw[CJ func265,Jwa];unfold AV JM;have hp:Ag .ptr .neq (.hp i k) Ic=some (bD true):=rfl;have B:CY [(0,1),(1,1),(2,1)] [iD 0,iD 0,iD 0] [(0,iD n),(1,iD a),(2,iD v)]=some (.agg [iD n,iD a,iD v]):=rfl;have D:=LH c 11 l.de rfl;simp_all
 ·have:=w.stay b (by decide);simpa[m',eU,Jv]using this
def QdP(h:MI p fuel im γ L m H){t a b:Int}(ht:7<=t/\t<=17){m':MS}(c:(if b=0/\(t=10\/t=11)then some (m.stop 1 0)else Ky (Js t a b) m)=some m')(q:∀f∈m.stk,f.vals.length<=1000000)(j:m.stk.length<=1000000):
  ∃γ' e H',fQ Aa [.hp im 0,iD t,iD a,iD b] H=some (.tup [],H')/\MI p fuel im γ' e m' H':=by
 have g:(Ad (Ag .int .eql (iD b) (iD 0)) fun n=>Az n (Ad (Ag .int .eql (iD t) (iD 10)) fun o=>Az o (some (bD true)) (Ad (Ag .int .eql (iD t) (iD 11)) fun r=>some r)) (some (bD false)))=some (bD (decide (b=0/\(t=10\/t=11)))):=by
  simp only[Su,AU,Bd];by_cases k:b=0
  ·grind
  ·simp[k]
 by_cases d:b=0/\(t=10\/t=11)
 ·rw[Aw d]at c;cases c;obtain⟨s,l⟩:=ZH h 1 0;refine⟨γ,L,_,?_,l⟩;unfold fQ;rw[CJ func266,Jf7,g];simp_all
 ·rw[Am d]at c;obtain⟨γ',e,H',w,t2⟩:=Xo h c q j;obtain⟨f,u,v⟩:=Jli t a b ht d H h.pairs.2;refine⟨γ',e,H',?_,t2⟩;unfold fQ;rw[CJ func266,Jf7,g];have i:=LH h 13 (.mp L.ip) rfl;simp_all
def Wf(h:MI p fuel im γ L m H)(i:Int)(J:m.stk.length<=1000000)(G:0<=m.st.steps/\m.st.steps<=1000000):
  ∃γ' e H',Y8 Aa [.hp im 0,iD i] H=some (.tup [],H')/\MI p fuel im γ' e (Jz fuel i m) H':=by
 have k:=LH h 10 (iD m.st.steps) rfl;have w:=LH h 6 (iD fuel) rfl;by_cases q:m.st.steps=fuel
 ·obtain⟨r,C⟩:=ZH h 4 0;have v:Jz fuel i m=m.stop 4 0:=by unfold Jz;rw[Aw q]
  rw[v];refine⟨γ,L,_,?_,C⟩;unfold Y8;rw[CJ func205,JjI];unfold Dx AV Ha JM;simp only[Dj,AU,AP,EE,k,w,Su,Bd,CZ q,Bv,r,A7]
 ·have v:Jz fuel i m={m with st:=EZ m.st,stk:=⟨i,0,[]⟩::m.stk}:=by unfold Jz;rw[Am q]
  rw[v];have b:=h.own {m with st:=EZ m.st} rfl rfl rfl rfl;have r:=O2 h 10 (iD (m.st.steps+1)) rfl rfl (by decide) (cs':=mC p fuel L {m with st:=EZ m.st}) rfl;have D:=LH b 7 L.ds rfl;have n:=Xf 322 (sz:=3) (z:=[iD 0,iD 0,Aq]) (x:= .agg [iD i,iD 0,Aq]) (new:=[iD i,iD 0,Aq]) rfl rfl rfl (by decide) rfl (H.set im (mO p fuel L {m with st:=EZ m.st}));obtain⟨y,o,γ3,F,B,c⟩:=b.stk.push (by decide) (new:=[iD i,iD 0,Aq]) rfl rfl (by grind);obtain⟨E,I⟩:=ZD B (by omega);have d:At γ3 0 im (mO p fuel L {m with st:=EZ m.st}) o:=c.2 _ _ _ (by decide) b.mach;let m':MS:={m with st:=EZ m.st,stk:=⟨i,0,[]⟩::m.stk};let e:ML:={L with ds:=y,fd:=Aq::L.fd};have g:Bh 1 (.hp im 7) y o=some (.v undef,o.set im (mO p fuel e m')):=by
   simp only[Bh,FI,E,d.2,mO,mC];simp only[Ej,Hf,Na,I,eX,pG];rfl
  have a:=DZ.put d (mO p fuel e m');refine⟨γ3,e,o.set im (mO p fuel e m'),?_,⟨d.put _,(b.kids.stay c (by decide)).stay a (by decide),(b.vals.stay c (by decide)).stay a (by decide),(b.arrs.stay c (by decide)).stay a (by decide),(b.each.stay c fun j _=>by omega).stay a fun j _=>by omega,?_,⟨Ff.nil _ _ _ _ _,(b.frames.stay c fun j _=>by omega).stay a fun j _=>by omega⟩,(b.evs.stay c (by decide)).stay a (by decide),a.2 _ _ _ (by decide) (c.2 _ _ _ (by decide) b.pairs),a.2 _ _ _ (by decide) (c.2 _ _ _ (by decide) b.ret)⟩⟩
  ·unfold Y8;rw[CJ func205,JjI];unfold Dx AV Ha JM;have l:Ag .int .add (iD m.st.steps) (iD 1)=some (iD (m.st.steps+1)):=YR (by omega) (by omega);have s:CY [(0,1),(1,1),(2,1)] [iD 0,iD 0,Aq] [(0,iD i)]=some (.agg [iD i,iD 0,Aq]):=rfl;have u:Bh 1 (.hp im 10) (iD (m.st.steps+1)) H=some (.v undef,H.set im (mO p fuel L {m with st:=EZ m.st})):=r;simp only[Dj,AU,AP,EE,k,w,Su,Bd,Dc q,BF,BC,l,u,A7,D,s,n,F,g]
  ·have:=B.stay a (by decide);exact this
def QcX(h:MI p fuel im γ L m H){i:Int}(e:0<=i)(d:i<p.body.length):∃q,BG 1 L.dk (iD i)=some q/\Ai none H q=some (AL (AZ p.body i)):=by
 obtain⟨q,c,b⟩:=h.kids.load1 (j:=i.toNat) (by omega);have a:((i.toNat:Nat):Int)=i:=by omega
 refine⟨q,by rw[<-c,a],?_⟩;rw[b];simp only[dN,Xy,pI (show i.toNat<p.body.length by omega),Dt,a]
def JxF(l:Ac Nd)(H:Ae){i:Int}(d:0<=i)(e:i<l.length):∃q,BG 2 (A8 l) (iD i)=some q/\(∃b,AP 0 q=some b/\Ai none H b=some (iD (Bj l i).1))/\∃c,AP 1 q=some c/\Ai none H c=some (iD (Bj l i).2):=by
 have a:i.toNat<l.length:=by omega
 refine⟨_,Yu l i d a,?_⟩;have f:Bj l i=l[i.toNat]:=by simp[Bj,a]
 simp_all
def LB(l:Ac Int)(H:Ae){i v:Int}(d:0<=i)(c:l[i.toNat]? =some v):∃q,BG 1 (AL l) (iD i)=some q/\Ai none H q=some (iD v):=by
 obtain⟨b,a⟩:=CV.1 c;refine⟨_,Zv l i d b,?_⟩;rw[a];rfl
def Lp:Af Int->D
 |some k=> .tup [iD k,bD true]
 |none=> .tup [iD 0,bD false]
def EB(t:Int)(a:Ac Int)(f:FM):Af (Af Int):=
 if f.kid=1/\(t=18\/t=19\/t=23\/t=24)then
  match f.vals with
  |v::_=>
   if t=23 then(if v<=2 then(a[(2-v).toNat]?).map some else none)else
   if v=(if t=19 then 1 else 0)then some none else some a[1]?
  |[]=>none
 else if t=23/\1<f.kid then some none else some a[f.kid]?
def Jhp(h:MI p fuel im γ L m H){f:FM}{r:Ac FM}(hs:m.stk=f::r){o:Af Int}(l:Jg p.body f=some o)(R:0<=f.i/\f.i<p.body.length)(hp:(AZ p.body f.i).length<=3000000):
  ∃q,BG 3 L.ds (iD r.length)=some q/\yN Aa [.hp im 0,q] H=some (Lp o,H):=by
 obtain⟨d,dr,i,ag,ah,K,ad,ac,hl,N,E,_⟩:=h.top hs;refine⟨_,N,?_⟩;unfold yN;rw[CJ func206,JtV];unfold Dx AV Ce;have m3:=LH h 3 L.dk rfl;have m2:=LH h 2 (A8 p.body) rfl;have l0:=E 0 _ rfl;have l1:=E 1 _ rfl;have l2:=E 2 _ rfl;simp only[MZ]at l0;obtain⟨q1,k1,Z⟩:=QcX h R.1 R.2;obtain⟨q2,n1,⟨q3,n2,n3⟩,_⟩:=JxF p.body H R.1 R.2;have f0:∀a b c,AP c (.hp a b)=some (.hp a (b+c)):=fun _ _ _=>rfl;have nb:∀a b,Dj (.hp a b)=some (.hp a b):=fun _ _=>rfl;have F:Bq .sl (AL (AZ p.body f.i))=some (iD (AZ p.body f.i).length):=by simp
 rw[show Jg p.body f=EB (Bj p.body f.i).1 (AZ p.body f.i) f from rfl]at l;simp only[nb,AU,f0,EE,MZ,m3,m2,l0,l1,l2,k1,Z,n1,n2,n3,F];clear n1 n2 n3 R;revert l hp Z F;generalize AZ p.body f.i=s;generalize (Bj p.body f.i).1=t;intro l hp Z F;unfold EB at l;have C:∀k,s[f.kid]? =some k->∃q,BG 1 (AL s) (iD f.kid)=some q/\Ai none H q=some (iD k):=fun k G=>LB s H (by omega) (by simpa using G);by_cases x:f.kid=1/\(t=18\/t=19\/t=23\/t=24)
 ·obtain⟨O,M⟩:=x;rw[Aw ⟨O,M⟩]at l;cases U:f.vals with
  |nil=>rw[U]at l;cases l
  |cons v vr=>
   rw[U]at l;simp only at l;obtain⟨qv,v1,v2⟩:=K.row.load1 (j:=0) (by rw[U];simp);rw[U]at v2;have W:BG 1 d (iD 0)=some qv:=v1;have V:Ai none H qv=some (iD v):=v2;have J:((f.kid:Nat):Int)=1:=by omega
   have G:=C;rw[J]at G⊢;rw[O]at G;simp only[Su,W,V,AU,Bd,decide_true,Bv];rcases M with rfl|rfl|rfl|rfl
   ·by_cases u:v=0
    ·subst u;cases l;simp[Lp,AU,Bd]
    ·simp only[show¬((18:Int)=23)from by decide,show¬((18:Int)=19)from by decide,BC,Am u]at l;cases l;cases g:s[1]? with
     |none=>
      have:=sC.1 g;have n:¬((1:Int)<s.length):=by omega
      simp[Lp,AU,Bd,u,n]
     |some k=>
      have:=(CV.1 g).1;have n:(1:Int)<s.length:=by omega
      obtain⟨q,B,z⟩:=G k g;simp[Lp,AU,Bd,u,n,B,z]
   ·by_cases u:v=1
    ·subst u;cases l;simp[Lp,AU,Bd]
    ·simp only[show¬((19:Int)=23)from by decide,BC,Bv,Am u]at l;cases l;cases g:s[1]? with
     |none=>
      have:=sC.1 g;have n:¬((1:Int)<s.length):=by omega
      simp[Lp,AU,Bd,u,n]
     |some k=>
      have:=(CV.1 g).1;have n:(1:Int)<s.length:=by omega
      obtain⟨q,B,z⟩:=G k g;simp[Lp,AU,Bd,u,n,B,z]
   ·simp only[Bv]at l;split at l
    case isFalse=>cases l
    rename_i ae;cases g:s[(2-v).toNat]? with
    |none=>rw[g]at l;cases l
    |some k=>
     rw[g]at l;cases l;have af:=(CV.1 g).1;obtain⟨q,B,z⟩:=LB s H (i:=2-v) (by omega) g;have T:Ag .int .sub (iD 2) (iD v)=some (iD (2-v)):=by
      show some (iD (Jw (2-v)))=_;rw[yR _ (by omega) (by omega)]
     have X:Ag .int .gtr (iD 1) (iD 1)=some (bD false):=rfl;simp[Lp,AU,Bd,T,B,z,X]
   ·by_cases u:v=0
    ·subst u;cases l;simp[Lp,AU,Bd]
    ·simp only[show¬((24:Int)=23)from by decide,show¬((24:Int)=19)from by decide,BC,Am u]at l;cases l;cases g:s[1]? with
     |none=>
      have:=sC.1 g;have n:¬((1:Int)<s.length):=by omega
      simp[Lp,AU,Bd,u,n]
     |some k=>
      have:=(CV.1 g).1;have n:(1:Int)<s.length:=by omega
      obtain⟨q,B,z⟩:=G k g;simp[Lp,AU,Bd,u,n,B,z]
 ·rw[Am x]at l;simp only[Su,AU,Bd,AF,QcP];have Y:(if decide ((f.kid:Int)=1)=true then false else false)=false:=by simp
  have ab:(f.kid:Int)=1->t≠18/\t≠19/\t≠23/\t≠24:=fun e=>⟨fun D=>x ⟨by omega,by simp[D]⟩,fun D=>x ⟨by omega,by simp[D]⟩,fun D=>x ⟨by omega,by simp[D]⟩,fun D=>x ⟨by omega,by simp[D]⟩⟩;have w:∀l:some s[f.kid]? =some o,(Ad (some (bD (decide ((f.kid:Int)<s.length)))) fun aa=>Az aa (Ad (BG 1 (AL s) (iD f.kid)) fun S=>Ad (Ai none H S) fun P=>some (.tup [P,(bD true)],H)) (some (.tup [(iD 0),(bD false)],H)))=some (Lp o,H):=by
   intro l;cases l;cases g:s[f.kid]? with
   |none=>
    have:=sC.1 g;have n:¬((f.kid:Int)<s.length):=by omega
    simp[Lp,AU,Bd,n]
   |some k=>
    have:=(CV.1 g).1;have n:(f.kid:Int)<s.length:=by omega
    obtain⟨q,B,z⟩:=C k g;simp[Lp,AU,Bd,n,B,z]
  simp only[AU,Bd]at w;by_cases Q:(f.kid:Int)=1
  ·obtain⟨a1,a2,a3,a4⟩:=ab Q;rw[Am (fun e=>a3 e.1)]at l;simp only[CZ Q,Dc a1,Dc a2,Dc a3,Dc a4,Bv,BF,BC,AU,Bd];exact w l
  ·by_cases y:t=23
   ·by_cases h2:(1:Int)<f.kid
    ·rw[Aw ⟨y,by omega⟩]at l;cases l;have I:(f.kid:Int)>1:=h2;simp only[Lp,Dc Q,CZ y,CZ I,Bv,BF,BC,AU,Bd]
    ·rw[Am (fun e=>h2 (by omega))]at l;have I:¬(f.kid:Int)>1:=h2;simp only[Dc Q,CZ y,Dc I,Bv,BF,BC,AU,Bd];exact w l
   ·rw[Am (fun e=>y e.1)]at l;simp only[Dc Q,Dc y,BF,BC,AU,Bd];exact w l
end
def MD(P:Aj):Ac Cj:=(264,false,XU P)::(265,false,Yo P)::(266,false,fQ P)::(205,false,Y8 P)::(206,false,yN P)::mK P
def JfL:∀p∈MD Aa,Ci Aa p:=AC (CB JwW)<|AC (CB Jk4)<|AC (CB Qfl)<|AC (CB Qa2)<|AC (CB Jro)<|Jhy
def R5(P:Aj):Tab:=⟨MD P,BM,[]⟩
def Qb5:Bg Aa (R5 Aa):=CU JfL
def JbP:Ac Nat:=[]
def Qb1(n:Nat)(e:D)(h:Ae):AB Aa (R5 Aa) JbP n f207 [e] h=
(Dx 7 none h e fun y2=>
Dx 7 none h e fun y5=>
Ad (Bq .sl y5) fun y6=>
Ad (Ag .int .sub y6 (iD 1)) fun y7=>
Ce 3 (some 3) h y2 y7 fun y9=>
Dw 322 [(iD 0),(iD 0),Aq] 3 y9 h fun c q=>
Dx 7 none q e fun ar=>
Dx 7 none q e fun ay=>
Ad (Bq .sl ay) fun a3=>
Ad (Ag .int .sub a3 (iD 1)) fun a9=>
Ad (IJ 3 ar none (some a9)) fun bh=>
Ha 7 1 e bh q fun cd i=>
Ad (Dj e) fun a7=>
Ad (AP 0 a7) fun bc=>
AV 2 none i bc fun bu=>
AV 0 none i c fun bt=>
Ce 2 (some 2) i bu bt fun a8=>
Dw 44 [(iD 0),(iD 0)] 2 a8 i fun g a=>
AV 0 none a g fun d=>
Ad (Ag .int .eql d (iD 1)) fun bo=>
Az bo
(AV 1 none a g fun bf=>
Ah ((P6 Aa) [e,bf] a) fun cc br=>
some (.tup [],br))
(Ad (Ag .int .eql d (iD 2)) fun bv=>
Az bv
(AV 1 none a g fun ba=>
Ah ((P6 Aa) [e,ba] a) fun b9 av=>
some (.tup [],av))
(Ad (Ag .int .eql d (iD 3)) fun a4=>
Az a4
(Dx 4 none a e fun be=>
AV 1 none a g fun bp=>
Ce 1 none a be bp fun a5=>
Ah ((P6 Aa) [e,a5] a) fun ca bs=>
some (.tup [],bs))
(Ad (Ag .int .eql d (iD 4)) fun bb=>
Az bb
(AV 1 none a g fun a1=>
AV 2 none a c fun a6=>
Ce 1 none a a6 (iD 0) fun au=>
Ah ((XU Aa) [e,a1,au] a) fun U p=>
Ad (Ag .ptr .neq U Ic) fun a2=>
Az a2
(Ad (Dj U) fun bg=>
Ad (Ai none p bg) fun bk=>
Ah ((P6 Aa) [e,bk] p) fun b8 bw=>
some (.tup [],bw))
(some (.tup [],p)))
(Ad (Ag .int .eql d (iD 5)) fun bd=>
Az bd
(AV 2 none a c fun az=>
Ce 1 none a az (iD 0) fun bm=>
Ad (WG bm) fun ax=>
Ah ((P6 Aa) [e,ax] a) fun cb a0=>
some (.tup [],a0))
(Ad (Ag .int .eql d (iD 6)) fun b0=>
Az b0
(AV 2 none a c fun bz=>
Ce 1 none a bz (iD 0) fun bn=>
Ad (Ag .int .sub (iD 1) bn) fun bl=>
Ah ((P6 Aa) [e,bl] a) fun ce aq=>
some (.tup [],aq))
(Ad (Ag .int .eql d (iD 18)) fun bj=>
Az bj
(AV 2 none a c fun aw=>
AV 2 none a c fun bi=>
Ad (Bq .sl bi) fun bq=>
Ad (Ag .int .sub bq (iD 1)) fun ap=>
Ce 1 none a aw ap fun bx=>
Ah ((P6 Aa) [e,bx] a) fun b7 ab=>
some (.tup [],ab))
(Ad (Ag .int .eql d (iD 19)) fun L=>
Az L
(AV 2 none a c fun O=>
AV 2 none a c fun W=>
Ad (Bq .sl W) fun ac=>
Ad (Ag .int .sub ac (iD 1)) fun B=>
Ce 1 none a O B fun u=>
Ah ((P6 Aa) [e,u] a) fun b4 aj=>
some (.tup [],aj))
(Ad (Ag .int .eql d (iD 21)) fun V=>
Az V
(Dx 4 none a e fun ad=>
AV 1 none a g fun r=>
Ad (BG 1 ad r) fun K=>
AV 1 none a g fun am=>
AV 2 none a c fun E=>
Ce 1 none a E (iD 0) fun P=>
Ah ((Yo Aa) [e,K,am,(iD (-1)),P] a) fun b2 y=>
some (.tup [],y))
(Ad (Ag .int .eql d (iD 22)) fun al=>
Az al
(AV 1 none a g fun ae=>
AV 2 none a c fun s=>
Ce 1 none a s (iD 0) fun af=>
Ah ((XU Aa) [e,ae,af] a) fun H b=>
Ad (AP 1 g) fun m=>
Ad (Ai none b m) fun T=>
Ad (AP 2 c) fun k=>
Ad (Ai none b k) fun aa=>
Ad (BG 1 aa (iD 0)) fun j=>
Ad (Ai none b j) fun J=>
Ad (AP 2 c) fun o=>
Ad (Ai none b o) fun N=>
Ad (BG 1 N (iD 1)) fun l=>
Ad (Ai none b l) fun Q=>
Ah ((Yo Aa) [e,H,T,J,Q] b) fun b3 ak=>
Eb m (some a) (some b)
(Eb k (some a) (some b)
(Eb j (some a) (some b)
(Eb o (some a) (some b)
(Eb l (some a) (some b)
(some (.tup [],ak)))))))
(Ad (Ag .int .eql d (iD 24)) fun w=>
Az w
(AV 2 none a c fun Z=>
Ce 1 none a Z (iD 0) fun M=>
Ad (Ag .int .eql M (iD 1)) fun R=>
Az R
(AV 0 none a c fun z=>
Ah ((Y8 Aa) [e,z] a) fun b1 F=>
some (.tup [],F))
(some (.tup [],a)))
(Ad (Ag .int .eql d (iD 25)) fun ag=>
Az ag
(AV 2 none a c fun C=>
Ce 1 none a C (iD 0) fun x=>
Ah ((U9 Aa) [e,(iD 0),x] a) fun b6 Y=>
some (.tup [],Y))
(Ad (Ag .int .eql d (iD 20)) fun G=>
Az G
(some (.tup [],a))
(Ad (Ag .int .eql d (iD 23)) fun an=>
Az an
(some (.tup [],a))
(Ad (Ag .int .eql d (iD 26)) fun ai=>
Az ai
(some (.tup [],a))
(AV 0 none a g fun ao=>
AV 2 none a c fun I=>
Ce 1 none a I (iD 0) fun X=>
AV 2 none a c fun S=>
Ce 1 none a S (iD 1) fun ah=>
Ah ((fQ Aa) [e,ao,X,ah] a) fun b5 v=>
some (.tup [],v))))))))))))))))):=by kernel_rfl
def uQ(P:Aj):GT:=CO P (R5 P) JbP 0 207
def Jxe:BN Aa 207 (uQ Aa):=CQ Qb5 AX func207
def rE{γ:Nat->Nat}{c:Nat}{e:AQ}{sz n:Nat}{d:D}{cs:Ac D}{H:Ae}(h:Eh γ c e sz d n cs H):D7 d=some [d]/\Df d=true:=by
 obtain⟨_,⟨rfl,e⟩|⟨i,all,rfl,_⟩⟩:=h<;>exact⟨rfl,rfl⟩
def Eh.app{γ:Nat->Nat}{c:Nat}{e:AQ}{sz n:Nat}{d:D}{cs:Ac D}{H:Ae}(h:Eh γ c e sz d n cs H)(b:Nat)(t:Ae):Eh (FB γ H.length b) c e sz d n cs (H++t):=by
 obtain⟨a,h|⟨i,all,k,j,f,g⟩⟩:=h
 ·exact⟨a,.inl h⟩
 ·exact⟨a,.inr ⟨i,all,k,j.app b t,f,g⟩⟩
section
variable {p : Pg} {fuel : Int} {im : Nat} {γ : Nat → Nat} {L : ML} {m : MS} {H : Ae}
def MI.app(h:MI p fuel im γ L m H){c:Nat}(t:Ae):MI p fuel im (FB γ H.length c) L m (H++t):=by
 refine⟨h.mach.app c t,h.kids.app c t,h.vals.app c t,h.arrs.app c t,⟨h.each.1,fun j r d b a=>(h.each.2 j r d b a).app c t⟩,h.stk.app c t,?_,h.evs.app c t,h.pairs.app c t,h.ret.app c t⟩;have:∀(l:Ac FM) (ds:Ac D),Sm γ H l ds->Sm (FB γ H.length c) (H++t) l ds:=by
  intro l
  induction l with
  |nil=>intro ds h;cases ds with
   |nil=>exact trivial
   |cons _ _=>exact h.elim
  |cons f r e=>intro ds h;cases ds with
   |nil=>exact h.elim
   |cons d g=>exact⟨h.1.app c t,e g h.2⟩
 exact this _ _ h.frames
def Xr(L:ML)(i n:Nat):ML:={L with ds:= .hs i n,fd:=L.fd.tail}
def MI.pop(h:MI p fuel im γ L m H){f:FM}{r:Ac FM}(hs:m.stk=f::r){i:Nat}(l:L.ds= .hs i (r.length+1)):MI p fuel im γ (Xr L i r.length) {m with stk:=r} (H.set im (mO p fuel (Xr L i r.length) {m with stk:=r})):=by
 obtain⟨d,v,z,a,g,s,b,c,w,k,t,_⟩:=h.top hs;rw[l]at b;cases b;have st:=DZ.put h.mach (mO p fuel (Xr L i r.length) {m with stk:=r});have n:=h.stk;rw[hs,a,l]at n;refine⟨h.mach.put _,h.kids.stay st (by decide),h.vals.stay st (by decide),h.arrs.stay st (by decide),h.each.stay st fun j _=>by omega,?_,?_,h.evs.stay st (by decide),st.2 _ _ _ (by decide) h.pairs,st.2 _ _ _ (by decide) h.ret⟩
 ·show Eh γ 4 _ 3 (.hs i r.length) r.length (Pv r L.fd.tail) _;rw[a];refine Eh.stay ?_ st (by decide);obtain⟨y,⟨e,o⟩|⟨x,all,e,o,q,u⟩⟩:=n
  ·cases e
  ·cases e
   refine⟨c,.inr ⟨i,all,rfl,o,?_,?_⟩⟩
   ·have:all.take (r.length*3)=(all.take ((r.length+1)*3)).take (r.length*3):=by grind
    rw[this];simp only[Ej]at q;rw[q];simp only[Pv,List.tail_cons]
    grind
   grind
 ·show Sm γ _ r L.fd.tail;rw[a];exact g.stay st fun j _=>by omega
def Eh.int{c:Nat}{d:D}{l:Ac Int}(h:Eh γ c 3 1 d l.length (l.map iD) H){j:Nat}{v:Int}(a:l[j]? =some v):∃q,BG 1 d (iD j)=some q/\Ai none H q=some (iD v):=by
 obtain⟨q,e,b⟩:=h.load1 (j:=j) (CV.1 a).1
 grind
def Eh.intI{c:Nat}{d:D}{l:Ac Int}(h:Eh γ c 3 1 d l.length (l.map iD) H){n:Int}(f:0<=n){v:Int}(a:l[n.toNat]? =some v):∃q,BG 1 d (iD n)=some q/\Ai none H q=some (iD v):=by
 obtain⟨q,e,b⟩:=h.int a
 grind
def W6(i k:Nat)(H H':Ae):ZU (.hp i k) H H'=QR i k H H':=rfl
def JnX(i k:Nat):Ag .ptr .neq (.hp i k) Ic=some (bD true):=rfl
def Qfg:Ag .ptr .neq Ic Ic=some (bD false):=rfl
def Br{i:Nat}{H H':Ae}{t:AQ}{sz:Nat}{cs:Ac D}(h:H[i]? =some (.cells t sz cs))(a:H'[i]? =some (.cells t sz cs))(b:Gy cs cs=true)(off:Nat):QR i off H H'=true:=by
 unfold QR;rw[h,a];exact yJ off b
def Jq7(l:Ac Int):Gy (l.map iD) (l.map iD)=true:=by
 induction l with
 |nil=>rfl
 |cons x r a=>simp[a]
def Jnn{γ:Nat->Nat}{c:Nat}{e:AQ}{sz n:Nat}{d:D}{cs:Ac D}{H:Ae}(h:Ff γ c e sz d n cs H):eqB d d=true:=by
 obtain⟨_,⟨rfl,e⟩|⟨i,rfl,_⟩⟩:=h
 ·rfl
 ·simp
def JlH{γ γ':Nat->Nat}{c:Nat}{d:D}{l:Ac Int}{H H':Ae}(h:Ff γ c 3 1 d l.length (l.map iD) H)(r:Ff γ' c 3 1 d l.length (l.map iD) H')(j:Int)(q:D)(f:BG 1 d (iD j)=some q):ZU q H H'=true:=by
 obtain⟨_,⟨rfl,e⟩|⟨i,rfl,n⟩⟩:=h
 ·simp only[BG,Si]at f;split at f
  ·rename_i a b n p;have:a=[]:=by simpa[IU]using n.symm
   grind
  ·cases f
 ·obtain⟨_,⟨g,s⟩|⟨u,g,p⟩⟩:=r
  ·cases g
  ·cases g
   have m:∃k,q= .hp i k:=by
    simp only[BG]at f;obtain⟨k,_,o⟩:=Bi.1 f;split at o
    ·grind
    ·cases o
   obtain⟨k,rfl⟩:=m;exact Br n.2 p.2 (Jq7 l) k
def Jqo(d:Nat)(a b c:D)(H:Ae):Yo Aa [.hp d 0,Ic,a,b,c] H=some (.tup [],H):=by rfl
def MI.setVal(h:MI p fuel im γ L m H){n v:Int}(q:0<=n)(c:n.toNat<m.st.vals.length):∃i k H',BG 1 L.dv (iD n)=some (.hp i k)/\Bh 1 (.hp i k) (iD v) H=some (.v undef,H')/\MI p fuel im γ L {m with st:={m.st with vals:=m.st.vals.set n.toNat v}} H':=by
 obtain⟨t,u,H',b,d,f,g,a⟩:=h.vals.write (j:=n.toNat) (k:=0) c (by decide) (x:=iD v) rfl rfl;obtain⟨i,all,s,e,o,r,l⟩:=h.vals.idx (j:=n.toNat) c;rw[e]at b;cases b;cases d;refine⟨i,_,H',?_,f,⟨a.2 _ _ _ (by decide) h.mach,h.kids.stay a (by decide),?_,h.arrs.stay a (by decide),h.each.stay a fun j _=>by omega,h.stk.stay a (by decide),h.frames.stay a fun j _=>by omega,h.evs.stay a (by decide),a.2 _ _ _ (by decide) h.pairs,a.2 _ _ _ (by decide) h.ret⟩⟩
 ·grind
 simp_all
def MI.setArr(h:MI p fuel im γ L m H){n a v:Int}{r:Ac Int}(G:0<=n)(z:m.st.arrs[n.toNat]? =some r)(I:0<=a/\a<r.length){d:D}{i:Nat}(C:L.ad[n.toNat]? =some d)(f:Eh γ (100+2*n.toNat) 3 1 d r.length (r.map iD) H)(y:BG 1 d (iD a)=some (.hp i (a.toNat*1))):∃H',Bh 1 (.hp i (a.toNat*1)) (iD v) H=some (.v undef,H')/\MI p fuel im γ L {m with st:={m.st with arrs:=m.st.arrs.set n.toNat (r.set a.toNat v)}} H':=by
 obtain⟨F,J,H',q,w,B,E,c⟩:=f.write (j:=a.toNat) (k:=0) (by omega) (by decide) (x:=iD v) rfl rfl;rw[show((a.toNat:Nat):Int)=a from by omega,y]at q;cases q;cases w;refine⟨H',B,⟨c.2 _ _ _ (by omega) h.mach,h.kids.stay c (by omega),h.vals.stay c (by omega),?_,⟨by simp[h.each.1],fun j o A u l=> ?_⟩,h.stk.stay c (by omega),h.frames.stay c fun j _=>by omega,h.evs.stay c (by omega),c.2 _ _ _ (by omega) h.pairs,c.2 _ _ _ (by omega) h.ret⟩⟩
 ·simpa using h.arrs.stay c (by omega)
 ·by_cases s:j=n.toNat
  ·subst s;rw[C]at l;cases l;have g:=(CV.1 z).1;have b:(m.st.arrs.set n.toNat (r.set a.toNat v))[n.toNat]? =some o:=u;rw[Hw g]at b;cases b;simp_all
  ·have b:(m.st.arrs.set n.toNat (r.set a.toNat v))[j]? =some o:=u;rw[Ee (fun e=>s e.symm)]at b;exact(h.each.2 j o A b l).stay c (by omega)
def QcW(h:MI p fuel im γ L m H){m':MS}(e:Iy fuel p.body m=some m')(hi:∀f∈m.stk,0<=f.i/\f.i<p.body.length)(hb:∀f∈m.stk,f.vals.length<=1000000)(hn:m.stk.length<=1000000)(a8:0<=m.st.steps/\m.st.steps<=1000000)(he:m.st.evs.length<=1000000):
  ∃γ' w H',uQ Aa [.hp im 0] H=some (.tup [],H')/\MI p fuel im γ' w m' H':=by
 unfold Iy at e;split at e
 case h_1=>cases e
 rename_i f r hs;obtain⟨d,dr,i,bn,bo,ab,X,bd,hl,ac,bm,al⟩:=h.top hs;obtain⟨az,bp⟩:=hi f (by rw[hs];simp);rw[hs]at hb hn;have bt:=hb f (by simp);have G:∀g∈r,g.vals.length<=1000000:=fun g hg=>hb g (by simp[hg]);simp only[Ej]at hn;have a6:=(rE ab.row).2;rw[X]at hl ac;have m7:Ai none H (.hp im 7)=some (.hs i (r.length+1)):=by rw[LH h 7 L.ds rfl,X]
 let P:HO:= .cells 322 3 (QQ f d);have a1:BX 322 [iD 0,iD 0,Aq] H=some (.hp H.length 0,H++[.cells 322 3 [iD 0,iD 0,Aq]]):=rfl;have a2:Bh 3 (.hp H.length 0) (.agg (QQ f d)) (H++[.cells 322 3 [iD 0,iD 0,Aq]])=some (.v undef,H++[P]):=by
  simp only[Bh,FI,D7,QQ,SV (BQ _),oW,zO];simp only[Na,eX,a6];simp[Df,P,QQ]
 have h1:=h.app (c:=7) [P];have au:At (FB γ H.length 7) 7 H.length P (H++[P]):=At.new γ 7 P H;have Pc:=ab.app 7 [P];have aj:Ai none (H++[P]) (.hp im 7)=some (.hs i (r.length+1)):=by rw[LH h1 7 L.ds rfl,X]
 have ao:IJ 3 (.hs i (r.length+1)) none (some (iD r.length))=some (.hs i r.length):=by simp[IJ,Nu,KX]
 have h2:=h1.pop hs X;have s2:=O2 h1 7 (.hs i r.length) rfl rfl (by decide) (cs':=mC p fuel (Xr L i r.length) {m with stk:=r}) rfl;have ah:=DZ.put h1.mach (mO p fuel (Xr L i r.length) {m with stk:=r});have af:=ah.2 _ _ _ (by decide) au;have Vc:=Pc.stay ah (by omega);have ap:Bh 1 (.hp im 7) (.hs i r.length) (H++[P])=some (.v undef,(H++[P]).set im (mO p fuel (Xr L i r.length) {m with stk:=r})):=s2;generalize (H++[P]).set im (mO p fuel (Xr L i r.length) {m with stk:=r})=z at*;generalize FB γ H.length 7=γ1 at*;generalize bv:H.length=fi at*;clear ah s2;have S:=LH h2 2 (A8 p.body) rfl;have av:Ai none z (.hp fi 0)=some (iD f.i):=by rw[IM af.2];rfl
 obtain⟨O,ae⟩:∃x,Bj p.body f.i=x:=⟨_,rfl⟩;have aw:p.body[f.i.toNat]'(by omega)=O:=by rw[<-ae];simp[Bj,show f.i.toNat<p.body.length by omega]
 have ag:=Yu p.body f.i az (by omega);rw[aw]at ag;have am:Ai (some 2) z (.ptr (Cb O))=some (.agg [iD O.1,iD O.2]):=rfl;let M:HO:= .cells 44 2 [iD O.1,iD O.2];have a3:BX 44 [iD 0,iD 0] z=some (.hp z.length 0,z++[.cells 44 2 [iD 0,iD 0]]):=rfl;have a4:Bh 2 (.hp z.length 0) (.agg [iD O.1,iD O.2]) (z++[.cells 44 2 [iD 0,iD 0]])=some (.v undef,z++[M]):=by
  simp only[Bh,FI,D7,SV (BQ _),oW,zO];simp[Df,M]
 have l:=h2.app (c:=8) [M];have R:=af.app 8 [M];have IL:=Vc.app 8 [M];have K:At (FB γ1 z.length 8) 8 z.length M (z++[M]):=At.new γ1 8 M z;unfold uQ;rw[CJ func207,Qb1];unfold Dx AV Ce Dw Ha;have f0:∀a b c,AP c (.hp a b)=some (.hp a (b+c)):=fun _ _ _=>rfl;have nb:∀a b,Dj (.hp a b)=some (.hp a b):=fun _ _=>rfl;simp only[nb,f0,AU,EE,m7,hl,lH _ (show r.length<=4000000 by omega),ac,al,a1,A7,a2,aj,ao,ap,S,av,ag,am,a3,a4];have n0:Ai none (z++[M]) (.hp z.length 0)=some (iD O.1):=by rw[IM K.2];rfl
 have Z:Ai none (z++[M]) (.hp z.length 1)=some (iD O.2):=by rw[IM K.2];rfl
 have gi:Ai none (z++[M]) (.hp fi 0)=some (iD f.i):=by rw[IM R.2];rfl
 have N:Ai none (z++[M]) (.hp fi 2)=some d:=by rw[IM R.2];rfl
 have K:At (FB γ1 z.length 8) 8 z.length (.cells 44 2 [iD O.1,iD O.2]) (z++[M]):=K;simp only[ae]at e;have E:({m with stk:=r}:MS).stk.length<=1000000:=by show r.length<=_;omega
 generalize z++[M]=H3 at*;generalize FB γ1 z.length 8=γ3 at*;generalize z.length=ni at*;obtain⟨t,n⟩:=O;simp only at e n0 Z K;simp only[n0,Su,AU,Bd];clear a1 a2 a3 a4 m7 aj ap h2 af Vc h1 au Pc S av ag am aw ae;by_cases ht:t=1
 ·simp only[CZ ht,Bv];rw[Aw (by omega)]at e;obtain⟨γ',w,H',C,t2⟩:=Xo l e G E;exact⟨γ',w,H',by simp only[Z,C,AU,A7],t2⟩
 simp only[Dc ht,BF,BC];have bj:=ht;clear ht;by_cases ht:t=2
 ·simp only[CZ ht,Bv];rw[Aw (by omega)]at e;obtain⟨γ',w,H',C,t2⟩:=Xo l e G E;exact⟨γ',w,H',by simp only[Z,C,AU,A7],t2⟩
 simp only[Dc ht,BF,BC];have bq:=ht;clear ht;by_cases ht:t=3
 ·simp only[CZ ht,Bv];rw[Am (by omega),Aw ht]at e;split at e
  case isFalse=>cases e
  rename_i B;obtain⟨v,s,e⟩:=Bi.1 e;obtain⟨q,q1,q2⟩:=l.vals.intI B s;have q1:BG 1 L.dv (iD n)=some q:=q1;have m4:=LH l 4 L.dv rfl;obtain⟨γ',w,H',C,t2⟩:=Xo l e G E;exact⟨γ',w,H',by simp only[Z,m4,q1,q2,C,AU,A7],t2⟩
 simp only[Dc ht,BF,BC];have bw:=ht;clear ht;by_cases ht:t=4
 ·simp only[CZ ht,Bv];rw[Am (by omega),Am (by omega),Aw ht]at e;unfold Hl at e;split at e
  case h_2=>cases e
  rename_i v Y s;rw[s]at IL;obtain⟨W,y,D⟩:=IL.row.intI (n:=0) (v:=v) (by decide) rfl;split at e
  case isFalse=>cases e
  rename_i B;obtain⟨row,hr,e⟩:=Bi.1 e;split at e
  ·rename_i J;obtain⟨d',i',_,_,_,g1,g2⟩:=JhH l B hr J;obtain⟨γ',w,H',C,t2⟩:=Xo l e G E;exact⟨γ',w,H',by simp only[Z,N,y,D,g1,JnX,Bd,Bv,nb,g2,C,AU,A7],t2⟩
  ·rename_i J;cases e;have g1:=xD l B hr J;exact⟨_,_,_,by simp only[Z,N,y,D,g1,Qfg,Bd,BF,BC,AU,A7],(ZH l 2 0).2⟩
 simp only[Dc ht,BF,BC];have bu:=ht;clear ht;by_cases ht:t=5
 ·simp only[CZ ht,Bv];rw[Am (by omega),Am (by omega),Am (by omega),Aw ht]at e;unfold Hl at e;split at e
  case h_2=>cases e
  rename_i v Y s;rw[s]at IL;obtain⟨W,y,D⟩:=IL.row.intI (n:=0) (v:=v) (by decide) rfl;have aq:WG (iD v)=some (iD (Jw (0-v))):=rfl;obtain⟨γ',w,H',C,t2⟩:=Xo l e G E;exact⟨γ',w,H',by simp only[N,y,D,aq,C,AU,A7],t2⟩
 simp only[Dc ht,BF,BC];have bs:=ht;clear ht;by_cases ht:t=6
 ·simp only[CZ ht,Bv];rw[Am (by omega),Am (by omega),Am (by omega),Am (by omega),Aw ht]at e;unfold Hl at e;split at e
  case h_2=>cases e
  rename_i v Y s;rw[s]at IL;obtain⟨W,y,D⟩:=IL.row.intI (n:=0) (v:=v) (by decide) rfl;have ax:Ag .int .sub (iD 1) (iD v)=some (iD (Jw (1-v))):=rfl;obtain⟨γ',w,H',C,t2⟩:=Xo l e G E;exact⟨γ',w,H',by simp only[N,y,D,ax,C,AU,A7],t2⟩
 simp only[Dc ht,BF,BC];have bk:=ht;clear ht;by_cases ht:t=18
 ·simp only[CZ ht,Bv];rw[Am (by omega),Am (by omega),Am (by omega),Am (by omega),Am (by omega),Aw (by omega)]at e;obtain⟨v,s,e⟩:=Bi.1 e;obtain⟨k,hk⟩:∃k,f.vals.length=k+1:=by
   cases ai:f.vals with
   |nil=>rw[ai]at s;cases s
   |cons a b=>exact⟨b.length,rfl⟩
  have U:=IL.row.len;rw[List.getLast?_eq_getElem?,hk]at s;obtain⟨W,y,D⟩:=IL.row.intI (n:=(k:Int)) (v:=v) (by omega) (by simpa using s);rw[hk]at U;obtain⟨γ',w,H',C,t2⟩:=Xo l e G E;exact⟨γ',w,H',by simp only[N,U,lH k (by omega),y,D,C,AU,A7],t2⟩
 simp only[Dc ht,BF,BC];have bh:=ht;clear ht;by_cases ht:t=19
 ·simp only[CZ ht,Bv];rw[Am (by omega),Am (by omega),Am (by omega),Am (by omega),Am (by omega),Aw (by omega)]at e;obtain⟨v,s,e⟩:=Bi.1 e;obtain⟨k,hk⟩:∃k,f.vals.length=k+1:=by
   cases ai:f.vals with
   |nil=>rw[ai]at s;cases s
   |cons a b=>exact⟨b.length,rfl⟩
  have U:=IL.row.len;rw[List.getLast?_eq_getElem?,hk]at s;obtain⟨W,y,D⟩:=IL.row.intI (n:=(k:Int)) (v:=v) (by omega) (by simpa using s);rw[hk]at U;obtain⟨γ',w,H',C,t2⟩:=Xo l e G E;exact⟨γ',w,H',by simp only[N,U,lH k (by omega),y,D,C,AU,A7],t2⟩
 simp only[Dc ht,BF,BC];have bc:=ht;clear ht;by_cases ht:t=21
 ·simp only[CZ ht,Bv];rw[Am (by omega),Am (by omega),Am (by omega),Am (by omega),Am (by omega),Am (by omega),Aw ht]at e;unfold Hl at e;split at e
  case h_2=>cases e
  rename_i v Y s;rw[s]at IL;obtain⟨W,y,D⟩:=IL.row.intI (n:=0) (v:=v) (by decide) rfl;split at e
  case isFalse=>cases e
  rename_i B;cases e;obtain⟨iq,kq,H4,w1,w2,w3⟩:=l.setVal (v:=v) B.1 B.2;have w1:BG 1 L.dv (iD n)=some (.hp iq kq):=w1;obtain⟨γ',w,H',C,t2⟩:=JiQ l (n:=n) (a:= -1) w2 w3 he;have m4:=LH l 4 L.dv rfl;exact⟨γ',w,H',by simp only[Z,N,m4,y,D,w1,C,AU,A7],t2⟩
 simp only[Dc ht,BF,BC];have bi:=ht;clear ht;by_cases ht:t=22
 ·simp only[CZ ht,Bv];rw[Am (by omega),Am (by omega),Am (by omega),Am (by omega),Am (by omega),Am (by omega),Am (by omega),Aw ht]at e;unfold Vx at e;split at e
  case h_2=>cases e
  rename_i v u Y s;rw[s]at IL;obtain⟨W,y,D⟩:=IL.row.intI (n:=0) (v:=v) (by decide) rfl;obtain⟨qu,u1,u2⟩:=IL.row.intI (n:=1) (v:=u) (by decide) rfl;split at e
  case isFalse=>cases e
  rename_i B;obtain⟨row,hr,e⟩:=DV.1 e;have Q:∀H',At γ3 8 ni (.cells 44 2 [iD t,iD n]) H'->∀o,QR ni o H3 H'=true:=fun H' g=>Br K.2 g.2 (by simp[Gy]);have T:∀H',At γ3 7 fi P H'->∀o,QR fi o H3 H'=true:=fun H' g=>Br R.2 g.2 (by simp[Gy,QQ,Jnn IL]);have F:∀H',Ff γ3 (101+2*r.length) 3 1 d (v::u::Y).length ((v::u::Y).map iD) H'->∀j q,BG 1 d (iD j)=some q->ZU q H3 H'=true:=fun H' g=>JlH IL g;split at e
  ·rename_i J;cases e;obtain⟨d',i',g3,g4,g5,g1,g2⟩:=JhH l B hr J;obtain⟨H4,w2,w3⟩:=l.setArr (v:=u) B hr J g3 g4 g5;obtain⟨γ',w,H',C,t2⟩:=JiQ l (n:=n) (a:=v) w2 w3 he;have j1:=F _ IL 0 _ y;have j3:=F _ IL 1 _ u1;exact⟨γ',w,H',by simp only[Z,N,y,D,u1,u2,g1,C,AU,A7,Eb,uZ,W6,Q _ K,T _ R,j1,j3],t2⟩
  ·rename_i J;cases e;have g1:=xD l B hr J;obtain⟨_,s2⟩:=ZH l 2 0;have st:=DZ.put l.mach (mO p fuel (Xr L i r.length) (({m with stk:=r}:MS).stop 2 0));have aa:=st.2 _ _ _ (by decide) K;have ad:=st.2 _ _ _ (by decide) R;have I:=IL.stay st (by omega);obtain⟨br,ak,a5⟩:=I.row.intI (n:=0) (v:=v) (by decide) rfl;obtain⟨bl,ar,a0⟩:=I.row.intI (n:=1) (v:=u) (by decide) rfl;rw[y]at ak;cases ak;rw[u1]at ar;cases ar;have j1:=F _ I 0 _ y;have j3:=F _ I 1 _ u1;have k1:Ai none _ (.hp ni 1)=some (iD n):=(IM aa.2 none).trans rfl;have k2:Ai none _ (.hp fi 2)=some d:=(IM ad.2 none).trans rfl;have ay:∀a b c H,Yo Aa [.hp im 0,Ic,a,b,c] H=some (.tup [],H):=Jqo im;refine⟨_,_,_,?_,s2⟩;simp only[Z,N,y,D,u1,g1,k1,k2,a5,a0,ay,AU,A7,Eb,uZ,W6,Q _ aa,T _ ad,j1,j3]
 simp only[Dc ht,BF,BC];have be:=ht;clear ht;by_cases ht:t=24
 ·simp only[CZ ht,Bv];rw[Am (by omega),Am (by omega),Am (by omega),Am (by omega),Am (by omega),Am (by omega),Am (by omega),Am (by omega),Aw ht]at e;unfold Hl at e;split at e
  case h_2=>cases e
  rename_i v Y s;rw[s]at IL;obtain⟨W,y,D⟩:=IL.row.intI (n:=0) (v:=v) (by decide) rfl;cases e;by_cases V:v=1
  ·obtain⟨γ',w,H',C,t2⟩:=Wf l f.i (by show r.length<=_;omega) a8;refine⟨γ',w,H',by simp only[N,gi,y,D,Su,CZ V,Bd,Bv,C,AU,A7],?_⟩;rw[Aw V];exact t2
  ·refine⟨γ3,Xr L i r.length,H3,by simp only[N,y,D,Su,Dc V,Bd,BF,BC,AU],?_⟩;rw[Am V];exact l
 simp only[Dc ht,BF,BC];have a9:=ht;clear ht;by_cases ht:t=25
 ·simp only[CZ ht,Bv];rw[Am (by omega),Am (by omega),Am (by omega),Am (by omega),Am (by omega),Am (by omega),Am (by omega),Am (by omega),Am (by omega),Aw ht]at e;unfold Hl at e;split at e
  case h_2=>cases e
  rename_i v Y s;rw[s]at IL;obtain⟨W,y,D⟩:=IL.row.intI (n:=0) (v:=v) (by decide) rfl;cases e;obtain⟨s1,s2⟩:=ZH l 0 v;exact⟨_,_,_,by simp only[N,y,D,s1,AU,A7],s2⟩
 simp only[Dc ht,BF,BC];have bf:=ht;clear ht;by_cases ht:t=20
 ·simp only[CZ ht,Bv];rw[Am (by omega),Am (by omega),Am (by omega),Am (by omega),Am (by omega),Am (by omega),Am (by omega),Am (by omega),Am (by omega),Am (by omega),Aw (by omega)]at e;cases e;exact⟨_,_,_,rfl,l⟩
 simp only[Dc ht,BF,BC];have bg:=ht;clear ht;by_cases ht:t=23
 ·simp only[CZ ht,Bv];rw[Am (by omega),Am (by omega),Am (by omega),Am (by omega),Am (by omega),Am (by omega),Am (by omega),Am (by omega),Am (by omega),Am (by omega),Aw (by omega)]at e;cases e;exact⟨_,_,_,rfl,l⟩
 simp only[Dc ht,BF,BC];have bb:=ht;clear ht;by_cases ht:t=26
 ·simp only[CZ ht,Bv];rw[Am (by omega),Am (by omega),Am (by omega),Am (by omega),Am (by omega),Am (by omega),Am (by omega),Am (by omega),Am (by omega),Am (by omega),Aw (by omega)]at e;cases e;exact⟨_,_,_,rfl,l⟩
 simp only[Dc ht,BF,BC];have ba:=ht;clear ht;rw[Am (by omega),Am (by omega),Am (by omega),Am (by omega),Am (by omega),Am (by omega),Am (by omega),Am (by omega),Am (by omega),Am (by omega),Am (by omega)]at e;split at e
 case isFalse=>cases e
 rename_i a7;have an:7<=t/\t<=17:=by simpa[X6]using a7
 unfold Vx at e;split at e
 case h_2=>cases e
 rename_i v u Y s;rw[s]at IL;obtain⟨W,y,D⟩:=IL.row.intI (n:=0) (v:=v) (by decide) rfl;obtain⟨qu,u1,u2⟩:=IL.row.intI (n:=1) (v:=u) (by decide) rfl;obtain⟨γ',w,H',C,t2⟩:=QdP l an e G E;exact⟨γ',w,H',by simp only[N,y,D,u1,u2,C,AU,A7],t2⟩
end
end Go.Proofs.YtapdelkomkpgmaaGreatDoor
