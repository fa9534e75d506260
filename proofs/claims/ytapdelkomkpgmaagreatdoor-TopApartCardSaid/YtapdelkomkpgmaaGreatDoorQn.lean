import Derived.Test.YtapdelkomkpgmaaGreatDoorQm
namespace Go.Proofs.YtapdelkomkpgmaaGreatDoor
open Go.Proofs.Tryz
open Go.RowKit
set_option maxRecDepth 100000
set_option linter.all false
def wP(P:Aj):GT:=CO P (Jl P) VB 3000001 203
def Jpn:BN Aa 203 (wP Aa):=CQ jY AX func203
def JpC(H:Ae)(a:Ac Int)(vs:Ac D)(k:Int)(v:D):N9 (.mp H.length) (iD k) v (H++[.map a vs])=some (.v undef,H++[.map (Tu a vs k v).1 (Tu a vs k v).2]):=by
 simp[N9,dK]
def Jn7(H:Ae):jD Aa [] H=some (.mp H.length,H++[.map Yh YX]):=by
 unfold jD;rw[CJ func262,JxU];have a:bT H=some (.mp H.length,H++[.map [] []]):=rfl;simp only[a,A7,JpC];rfl
structure LI(γ0:Nat->Nat)(H0:Ae)(p:Pg)(fuel:Int)(im bi:Nat)(a:Nat)(γ:Nat->Nat)(L:ML)(m:MS)(H:Ae):Prop where
 mach:At γ 0 im (mO p fuel L m) H
 kids:Eh γ 1 22 1 L.dk a ((dN p.body).take a) H
 vals:Eh γ 2 3 1 L.dv m.st.vals.length (m.st.vals.map iD) H
 arrs:Eh γ 3 22 1 L.da m.st.arrs.length L.ad H
 each:rH γ H m.st.arrs L.ad
 pairs:At γ 6 L.ip (.map Yh YX) H
 box:At γ 8 bi (.cells 25 3 (DW p)) H
 out:∀i o,At γ0 9 i o H0->At γ 9 i o H
section
variable {γ0 : Nat → Nat} {H0 : Ae} {p : Pg} {fuel : Int} {im bi a : Nat} {γ : Nat → Nat} {L : ML} {m : MS} {H : Ae}
def LI.ld(h:LI γ0 H0 p fuel im bi a γ L m H)(k:Nat)(d:D)(b:(mC p fuel L m)[k]? =some d):Ai none H (.hp im k)=some d:=by
 rw[IM h.mach.2];simp_all
def LI.put(h:At γ 0 im (mO p fuel L m) H)(k:Nat)(x:D)(c:D7 x=some [x])(b:Df x=true)(e:k<14){cs':Ac D}(d:(mC p fuel L m).set k x=cs'):Bh 1 (.hp im k) x H=some (.v undef,H.set im (.cells 319 14 cs')):=by
 have a:(mC p fuel L m).take k++[x]++(mC p fuel L m).drop (k+1)=(mC p fuel L m).set k x:=by
  rw[Ay,Aw (by simp[mC];omega)];simp
 simp only[Bh,FI,c,h.2,mO,Oh,Na,b,eX,pG,pR,pU];rw[Aw (by simp[mC];omega),a,d];rfl
def LI.kid(h:LI γ0 H0 p fuel im bi a γ L m H)(n:a<p.body.length)(hp:p.body.length<=3000000):∃γ' b f,D5 22 1 L.dk (.hs H.length 1) (H++[.cells 22 1 [AL (AZ p.body a)]])=some (b,f)/\∃g,Bh 1 (.hp im 3) b f=some (.v undef,g)/\LI γ0 H0 p fuel im bi (a+1) γ' {L with dk:=b} m g:=by
 obtain⟨b,f,γ2,r,k,d⟩:=h.kids.push (by decide) (new:=[AL (AZ p.body a)]) rfl rfl (by omega);obtain⟨l,s⟩:=rE k;have c:=d.2 _ _ _ (by decide) h.mach;have q:=LI.put c 3 b l s (by decide) (cs':=mC p fuel {L with dk:=b} m) rfl;have st:=DZ.put c (mO p fuel {L with dk:=b} m);refine⟨γ2,b,f,r,_,q,⟨c.put _,?_,(h.vals.stay d (by decide)).stay st (by decide),(h.arrs.stay d (by decide)).stay st (by decide),(h.each.stay d fun j _=>by omega).stay st fun j _=>by omega,st.2 _ _ _ (by decide) (d.2 _ _ _ (by decide) h.pairs),st.2 _ _ _ (by decide) (d.2 _ _ _ (by decide) h.box),fun i o e=>st.2 _ _ _ (by decide) (d.2 _ _ _ (by decide) (h.out i o e))⟩⟩;have:=k.stay st (by decide);have e:(dN p.body).take (a+1)=(dN p.body).take a++[AL (AZ p.body a)]:=by
  rw[List.take_add_one];congr 1;simp[dN,pI n]
 rw[e];exact this
def LI.val(h:LI γ0 H0 p fuel im bi a γ L m H)(v:Int)(s:m.st.vals.length<=1000):∃γ' b f,D5 3 1 L.dv (.hs H.length 1) (H++[.cells 3 1 [iD v]])=some (b,f)/\∃g,Bh 1 (.hp im 4) b f=some (.v undef,g)/\LI γ0 H0 p fuel im bi a γ' {L with dv:=b} {m with st:={m.st with vals:=m.st.vals++[v]}} g:=by
 obtain⟨b,f,γ2,q,k,d⟩:=h.vals.push (by decide) (new:=[iD v]) rfl rfl (by omega);obtain⟨l,r⟩:=rE k;have c:=d.2 _ _ _ (by decide) h.mach;have n:=LI.put c 4 b l r (by decide) (cs':=mC p fuel {L with dv:=b} {m with st:={m.st with vals:=m.st.vals++[v]}}) rfl;have st:=DZ.put c (mO p fuel {L with dv:=b} {m with st:={m.st with vals:=m.st.vals++[v]}});refine⟨γ2,b,f,q,_,n,⟨c.put _,(h.kids.stay d (by decide)).stay st (by decide),?_,(h.arrs.stay d (by decide)).stay st (by decide),(h.each.stay d fun j _=>by omega).stay st fun j _=>by omega,st.2 _ _ _ (by decide) (d.2 _ _ _ (by decide) h.pairs),st.2 _ _ _ (by decide) (d.2 _ _ _ (by decide) h.box),fun i o e=>st.2 _ _ _ (by decide) (d.2 _ _ _ (by decide) (h.out i o e))⟩⟩;have:=k.stay st (by decide);simpa[mO]using this
def OZ(n:Nat):Ac Int:=List.replicate n 0
def LI.arr(h:LI γ0 H0 p fuel im bi a γ L m H)(t:Int)(V:m.st.arrs.length<=1000):∃s C,NV 3 1 [iD 0] (iD (JP t)) (iD (JP t)) H=some (s,C)/\D7 s=some [s]/\[s].all Df=true/\∃γ' n x,D5 22 1 L.da (.hs C.length 1) (C++[.cells 22 1 [s]])=some (n,x)/\∃F,Bh 1 (.hp im 5) n x=some (.v undef,F)/\
  LI γ0 H0 p fuel im bi a γ' {L with da:=n,ad:=L.ad++[s]} {m with st:={m.st with arrs:=m.st.arrs++[OZ (JP t).toNat]}} F:=by
 have hs:0<=JP t/\JP t<=8:=by unfold JP;split<;>omega
 generalize W:JP t=z at*;let c:=100+2*m.st.arrs.length;let y:HO:= .cells 3 1 ((OZ z.toNat).map iD);have v:(List.replicate z.toNat [iD 0]).flatten=(OZ z.toNat).map iD:=by simp[OZ]
 have u:((OZ z.toNat).map iD).all Df=true:=by simp
 have A:NV 3 1 [iD 0] (iD z) (iD z) H=some (.hs H.length z.toNat,H++[y]):=by
  simp only[NV];rw[Aw ⟨trivial,hs.1,by omega,rfl⟩,v];simp only[Gg,u,Bv,Dt];rfl
 refine⟨_,_,A,rfl,rfl,?_⟩;have b:=DZ.app γ c H [y];have w:Eh (FB γ H.length c) c 3 1 (.hs H.length z.toNat) (OZ z.toNat).length ((OZ z.toNat).map iD) (H++[y]):=
  ⟨by simp,.inr ⟨H.length,_,by simp[OZ],At.new γ c y H,by rw[Q4 (by simp)],by simp⟩⟩
 have q:=h.arrs.stay b (show(3:Nat)≠c by omega);obtain⟨n,x,γ2,T,G,k⟩:=q.push (by decide) (new:=[.hs H.length z.toNat]) rfl rfl (by omega);obtain⟨Q,U⟩:=rE G;have D:=b.2 _ _ _ (show(0:Nat)≠c by omega) h.mach;have l:=k.2 _ _ _ (by decide) D;let m':MS:={m with st:={m.st with arrs:=m.st.arrs++[OZ z.toNat]}};let E:ML:={L with da:=n,ad:=L.ad++[.hs H.length z.toNat]};have N:=LI.put l 5 n Q U (by decide) (cs':=mC p fuel E m') rfl;have st:=DZ.put l (mO p fuel E m');have M:(6:Nat)≠c:=by omega
 have S:(8:Nat)≠c:=by omega
 have P:(9:Nat)≠c:=by omega
 have R:(1:Nat)≠c:=by omega
 have O:(2:Nat)≠c:=by omega
 refine⟨γ2,n,x,T,_,N,⟨l.put _,((h.kids.stay b R).stay k (by decide)).stay st (by decide),((h.vals.stay b O).stay k (by decide)).stay st (by decide),?_,⟨by simp[h.each.1],fun j r d J K=> ?_⟩,st.2 _ _ _ (by decide) (k.2 _ _ _ (by decide) (b.2 _ _ _ M h.pairs)),st.2 _ _ _ (by decide) (k.2 _ _ _ (by decide) (b.2 _ _ _ S h.box)),fun i o e=>st.2 _ _ _ (by decide) (k.2 _ _ _ (by decide) (b.2 _ _ _ P (h.out i o e)))⟩⟩
 ·have:=G.stay st (by decide);simpa[m',E,mO]using this
 ·have f:(m.st.arrs++[OZ z.toNat])[j]? =some r:=J;have g:(L.ad++[.hs H.length z.toNat])[j]? =some d:=K;by_cases I:j<m.st.arrs.length
  ·rw[Ii I]at f;rw[Ii (by rw[h.each.1];exact I)]at g;exact(((h.each.2 j r d f g).stay b (by omega)).stay k (by omega)).stay st (by omega)
  ·have B:=(CV.1 f).1;simp only[DC,Oh]at B;obtain rfl:j=m.st.arrs.length:=by omega
   rw[rN]at f;rw[<-h.each.1,rN]at g;cases f;cases g;exact(w.stay k (by omega)).stay st (by omega)
end
def BJ:D:=Aq
def L6(p:Pg)(args:Ac Int):Ac Int:=(List.range p.vars.length).map fun(i:Nat)=>args.getD i 0
def LQ(p:Pg):Ac (Ac Int):=p.vars.map fun t=>OZ (JP t).toNat
def m0(vals:Ac Int)(arrs:Ac (Ac Int)):MS:=mk ⟨vals,arrs,0,[]⟩ []
def Jnr(l:Ac Nd)(i:Int)(h:l.length<=3000000)(H:Ae):DX Rj [A8 l,iD i] H=some (AL (AZ l i),H):=by
 rw[V9 _ _ _ rfl];simp[Rj,h]
def aM{γ:Nat->Nat}{a:Nat}{p:Pg}{H:Ae}(h:At γ 8 a (.cells 25 3 (DW p)) H)(k:Nat)(d:D)(b:(DW p)[k]? =some d):Ai none H (.hp a k)=some d:=by
 rw[IM h.2];simp_all
def Qcu{γ0:Nat->Nat}{k:Ae}{p:Pg}{fuel:Int}{b a ip:Nat}(i:D)(hp:p.body.length<=3000000){γ:Nat->Nat}{H:Ae}(h:LI γ0 k p fuel b a 0 γ ⟨BJ,BJ,BJ,BJ,BJ,ip,[],[]⟩ (m0 [] []) H):
  ∃H' γ' dk,BZ Aa (Jl Aa) VB 3000001 f203 0 [i,.hp a 0,.hp b 0,iD p.body.length,iD 0,.undef,.undef,.undef] H=some (.exit 0,[i,.hp a 0,.hp b 0,iD p.body.length,iD p.body.length,.undef,.undef,.undef],H')/\LI γ0 k p fuel b a p.body.length γ' ⟨dk,BJ,BJ,BJ,BJ,ip,[],[]⟩ (m0 [] []) H':=by
 have key:=NT (P:=Aa) (T:=Jl Aa) (kp:=VB) (fn:= f203) (li:=0) (fun(j:Nat)=>[i,.hp a 0,.hp b 0,iD p.body.length,iD j,.undef,.undef,.undef]) (fun j H=>∃γ dk,LI γ0 k p fuel b a j γ ⟨dk,BJ,BJ,BJ,BJ,ip,[],[]⟩ (m0 [] []) H)
  (fun r=>r.1= .exit 0/\r.2.1=[i,.hp a 0,.hp b 0,iD p.body.length,iD p.body.length,.undef,.undef,.undef]/\∃γ dk,LI γ0 k p fuel b a p.body.length γ ⟨dk,BJ,BJ,BJ,BJ,ip,[],[]⟩ (m0 [] []) r.2.2) p.body.length 3000001 ?_ ?_ (by omega) (H:=H) ⟨γ,BJ,h⟩
 ·grind
 ·rintro j H n ⟨γ,dk,h⟩;obtain⟨γ',q,v,m,s,l,u⟩:=h.kid n hp;refine⟨s,?_,γ',q,u⟩;have o:=h.ld 3 dk rfl;have lp:=aM h.box 2 (A8 p.body) rfl;have c:(j:Int)<(p.body.length:Int):=by omega
  have g:=Xf 22 (sz:=1) (z:=[Aq]) (x:=AL (AZ p.body j)) (new:=[AL (AZ p.body j)]) rfl rfl rfl (by decide) rfl H;have d:Ag .int .add (iD j) (iD 1)=some (iD ((j+1:Nat):Int)):=by
   show some (iD (Jw ((j:Int)+1)))=_;rw[yR _ (by omega) (by omega)];rfl
  rw[JjZ];unfold Dx AV Ha;simp only[AF,AU,Bd,CZ c,Bv,Dj,AP,EE,o,lp,Jnr p.body j hp H,A7,g,m,l,d]
 ·rintro H ⟨γ,dk,h⟩;have c:¬((p.body.length:Int)<(p.body.length:Int)):=by omega
  refine⟨(.exit 0,[i,.hp a 0,.hp b 0,iD p.body.length,iD p.body.length,.undef,.undef,.undef],H),?_,?_,rfl,rfl,γ,dk,h⟩
  ·rw[JjZ];unfold Dx AV Ha;simp
  ·intro e;cases e
def Jo5{γ0:Nat->Nat}{q:Ae}{p:Pg}{fuel:Int}{d c ip:Nat}(args:Ac Int)(hv:p.vars.length<=12)(o n dk:D){γ:Nat->Nat}{H:Ae}(h:LI γ0 q p fuel d c p.body.length γ ⟨dk,BJ,BJ,BJ,BJ,ip,[],[]⟩ (m0 [] []) H):
  ∃H' γ' dv da ad,BZ Aa (Jl Aa) VB 3000001 f203 1 [AL args,.hp c 0,.hp d 0,o,n,AL p.vars,iD p.vars.length,iD 0] H=some (.exit 2,[AL args,.hp c 0,.hp d 0,o,n,AL p.vars,iD p.vars.length,iD p.vars.length],H')/\LI γ0 q p fuel d c p.body.length γ' ⟨dk,dv,da,BJ,BJ,ip,ad,[]⟩ (m0 (L6 p args) (LQ p)) H':=by
 have m:(L6 p args).take p.vars.length=L6 p args:=Q4 (by simp[L6]);have g:(LQ p).take p.vars.length=LQ p:=Q4 (by simp[LQ]);have key:=NT (P:=Aa) (T:=Jl Aa) (kp:=VB) (fn:= f203) (li:=1) (fun(j:Nat)=>[AL args,.hp c 0,.hp d 0,o,n,AL p.vars,iD p.vars.length,iD j]) (fun j H=>∃γ dv da ad,LI γ0 q p fuel d c p.body.length γ ⟨dk,dv,da,BJ,BJ,ip,ad,[]⟩ (m0 ((L6 p args).take j) ((LQ p).take j)) H)
  (fun r=>r.1= .exit 2/\r.2.1=[AL args,.hp c 0,.hp d 0,o,n,AL p.vars,iD p.vars.length,iD p.vars.length]/\∃γ dv da ad,LI γ0 q p fuel d c p.body.length γ ⟨dk,dv,da,BJ,BJ,ip,ad,[]⟩ (m0 (L6 p args) (LQ p)) r.2.2) p.vars.length 3000001 ?_ ?_ (by omega) (H:=H) ⟨γ,BJ,BJ,[],h⟩
 ·grind
 ·rintro j H s ⟨γ,dv,da,ad,h⟩;have w:(m0 ((L6 p args).take j) ((LQ p).take j)).st.vals.length<=1000:=by simp[m0,mk,L6];omega
  obtain⟨γ1,Y,H2,E,H3,N,I⟩:=h.val (args.getD j 0) w;have u:(m0 ((L6 p args).take j) ((LQ p).take j)).st.arrs.length<=1000:=by simp[m0,mk,LQ];omega
  obtain⟨y,X,K,W,U,γ2,d2,H5,F,S,O,R⟩:=I.arr p.vars[j] u;have k:Ag .int .add (iD j) (iD 1)=some (iD ((j+1:Nat):Int)):=by
   show some (iD (Jw ((j:Int)+1)))=_;rw[yR _ (by omega) (by omega)];rfl
  have B:(L6 p args).take (j+1)=(L6 p args).take j++[args.getD j 0]:=by
   rw[List.take_add_one];congr 1;simp[L6,pI s]
  have C:(LQ p).take (j+1)=(LQ p).take j++[OZ (JP p.vars[j]).toNat]:=by
   rw[List.take_add_one];congr 1;simp[LQ,s]
  refine⟨S,?_,γ2,Y,d2,ad++[y],by rw[B,C];exact R⟩;have L:=h.ld 4 dv rfl;have Q:=I.ld 5 da rfl;have l:(j:Int)<(p.vars.length:Int):=by omega
  obtain⟨qv,M,G⟩:=LB p.vars H (i:=(j:Int)) (v:=p.vars[j]) (by omega) (by simp[s]);have a:=Xf 3 (sz:=1) (z:=[iD 0]) (x:=iD (args.getD j 0)) (new:=[iD (args.getD j 0)]) rfl rfl rfl (by decide) rfl H;have b:=Xf 22 (sz:=1) (z:=[Aq]) (x:=y) (new:=[y]) W rfl rfl (by decide) U X;rw[Jid];unfold Dx Ce Ha;by_cases J:(j:Int)<(args.length:Int)
  ·obtain⟨qa,Z,w2⟩:=LB args H (i:=(j:Int)) (v:=args.getD j 0) (by omega) (by grind);simp only[AF,AU,Bd,CZ l,CZ J,Bv,Dj,AP,EE,M,G,Hs,Z,w2,L,a,A7,E,N,Q,kD,K,b,F,O,k]
  ·have V:args.getD j 0=0:=by grind
   rw[V]at a E;simp only[AF,AU,Bd,CZ l,Dc J,BF,Bv,BC,Dj,AP,EE,M,G,Hs,L,a,A7,E,N,Q,kD,K,b,F,O,k]
 ·rintro H ⟨γ,dv,da,ad,h⟩;rw[m,g]at h;have l:¬((p.vars.length:Int)<(p.vars.length:Int)):=by omega
  refine⟨(.exit 2,[AL args,.hp c 0,.hp d 0,o,n,AL p.vars,iD p.vars.length,iD p.vars.length],H),?_,?_,rfl,rfl,γ,dv,da,ad,h⟩
  ·rw[Jid];unfold Dx Ce Ha;simp
  ·intro e;cases e
def JxA(p:Pg)(args:Ac Int)(fuel:Int)(hp:p.body.length<=3000000)(B:p.vars.length<=12){γ0:Nat->Nat}{H:Ae}(D:At γ0 9 1 CT H):∃y H' γ L,wP Aa [Be p,AL args,iD fuel] H=some (.hp y 0,H')/\MI p fuel y γ L (m0 (L6 p args) (LQ p)) H':=by
 let a:=H++[HO.cells 25 3 (DW p)];have m:BA 25 (Be p) H=some (.hp H.length 0,a):=rfl;let γ1:=FB γ0 H.length 8;have c:At γ1 8 H.length (.cells 25 3 (DW p)) a:=At.new γ0 8 _ H;have lp:Ai (some 3) a (.hp H.length 0)=some (Be p):=by rw[IM c.2];rfl
 let b:=a++[HO.map Yh YX];let γ2:=FB γ1 a.length 6;have u:jD Aa [] a=some (.mp a.length,b):=Jn7 a;have v:At γ2 6 a.length (.map Yh YX) b:=At.new γ1 6 _ a;let l:ML:=⟨BJ,BJ,BJ,BJ,BJ,a.length,[],[]⟩;let q:=b++[mO p fuel l (m0 [] [])];let γ3:=FB γ2 b.length 0;have w:At γ3 0 b.length (mO p fuel l (m0 [] [])) q:=At.new γ2 0 _ b;have s:CY [(0,3),(3,1),(4,1),(5,1),(6,1),(7,1),(8,4),(12,1),(13,1)] [(iD 0),Aq,Aq,Aq,Aq,Aq,(iD 0),Aq,(iD 0),(iD 0),(iD 0),Aq,(bD false),(.v (.map none))] [(0,Be p),(4,iD fuel),(8,.mp a.length)]=some (.agg (mC p fuel l (m0 [] []))):=rfl;have g:BA 319 (.agg (mC p fuel l (m0 [] []))) b=some (.hp b.length 0,q):=rfl;have z:LI γ0 H p fuel b.length H.length 0 γ3 l (m0 [] []) q:=⟨w,Eh.nil _ _ _ _ _,Eh.nil _ _ _ _ _,Eh.nil _ _ _ _ _,⟨rfl,fun j r d x n=>by cases x⟩,v.app 0 _,(c.app 6 _).app 0 _,fun i o e=>((e.app 8 _).app 6 _).app 0 _⟩;obtain⟨G,γ4,dk,x,n⟩:=Qcu (AL args) hp z;obtain⟨C,γ5,dv,da,ad,F,h⟩:=Jo5 args B (iD p.body.length) (iD p.body.length) dk n;refine⟨b.length,C,γ5,⟨dk,dv,da,BJ,BJ,a.length,ad,[]⟩,?_,⟨h.mach,?_,h.vals,h.arrs,h.each,Eh.nil _ _ _ _ _,trivial,Eh.nil _ _ _ _ _,h.pairs,h.out _ _ D⟩⟩
 ·unfold wP;rw[CJ func203,QeW];unfold AV;have k:∀o,QR H.length o a b=true:=Br c.2 (c.app 6 [HO.map Yh YX]).2 (by simp[DW,Gy]);have E:=aM z.box 2 (A8 p.body) rfl;have I:=aM n.box 1 (AL p.vars) rfl;simp only[m,A7,lp,AU,u,s,g,Eb,uZ,W6,k,AP,EE,E,wE];simp_all
 ·have:=h.kids;rw[Q4 (by simp[dN])]at this;exact this
def tW(P:Aj):Ac Cj:=(207,false,uQ P)::(203,false,wP P)::MD P
def Jmr:∀p∈tW Aa,Ci Aa p:=AC (CB Jxe)<|AC (CB Jpn)<|JfL
def U1(P:Aj):Tab:=⟨tW P,BM,[]⟩
def Jn3:Bg Aa (U1 Aa):=CU Jmr
def YL:Ac Nat:=[6,9,10]
def Jbj(n:Nat)(B s m:D)(h:Ae):AB Aa (U1 Aa) YL n f149 [B,s,m] h=
(Ah (BA 25 B h) fun z F=>
Ah (BX 237 [(iD 0),(iD 0),(iD 0),Aq] F) fun u y=>
Ad (Ai (some 3) y z) fun E=>
Ah (Ak lC [E,s,m] y) fun x l=>
Ad (Ag .int .neq x (iD 0)) fun C=>
Az C
(Ad (CY [(0,2),(2,1),(3,1)] [(iD 0),(iD 0),(iD 0),Aq] []) fun I=>
Ah (Bh 4 u I l) fun J d=>
Ad (Ai (some 4) d u) fun v=>
some (.tup [v,x],d))
(Ad (Ai (some 3) l z) fun j=>
Ah ((wP Aa) [j,s,m] l) fun c w=>
Ah ((Y8 Aa) [c,(iD 0)] w) fun H p=>
Dy (BZ Aa (U1 Aa) YL n f149 0 [u,c,(.clo (.func 204) [c] [])] p) (fun k a b=>
CW k 0
(Ad (Dj (gD a 1)) fun o=>
Ad (AP 8 o) fun i=>
Ad (Ai (some 4) b i) fun r=>
Ah (Bh 4 (gD a 0) r b) fun G e=>
Ad (Ai (some 4) e (gD a 0)) fun q=>
some (.tup [q,(iD 0)],e))
(none)) (fun a b=>
Ad (Ai (some 4) b (gD a 0)) fun g=>
some (.tup [g,.undef],b)))):=by kernel_rfl
def MA(n:Nat)(s0 a d:D)(h:Ae):BK Aa (U1 Aa) YL n f149 0 [s0,a,d] h=
(Dx 12 none h a fun B=>
Ad (Gn B) fun x=>
Az x
(Dx 7 none h a fun v=>
Ad (Bq .sl v) fun w=>
Ad (Ag .int .eql w (iD 0)) fun C=>
Az C
(Ah (C9 (U1 Aa) d [(iD 3),(iD 0)] h) fun E r=>
some ((.exit 0),[s0,a,d],r))
(Dx 7 none h a fun i=>
Dx 7 none h a fun j=>
Ad (Bq .sl j) fun q=>
Ad (Ag .int .sub q (iD 1)) fun k=>
Ad (BG 3 i k) fun b=>
Ah ((yN Aa) [a,b] h) fun o c=>
Eo o fun s p=>
Az p
(Dx 1 none c b fun e=>
Ad (Ag .int .add e (iD 1)) fun t=>
Ha 1 1 b t c fun z g=>
Ah ((Y8 Aa) [a,s] g) fun y l=>
some (.normal,[s0,a,d],l))
(Ah ((uQ Aa) [a] c) fun u m=>
some (.normal,[s0,a,d],m))))
(some ((.exit 0),[s0,a,d],h))):=by kernel_rfl
structure JQ(p:Pg)(fuel:Int)(j:Nat)(m:MS):Prop where
 steps:0<=m.st.steps/\m.st.steps<=fuel
 stk:m.stk.length<=j+1
 fr:∀f∈m.stk,(0<=f.i/\f.i<p.body.length)/\f.vals.length<=j/\f.kid<=j
 evs:m.st.evs.length<=j
section
variable {p : Pg} {fuel : Int} {j : Nat} {m m' : MS}
structure jT(p:Pg)(fuel:Int)(j:Nat)(m:MS):Prop where
 steps:0<=m.st.steps/\m.st.steps<=fuel
 stk:m.stk.length<=j
 fr:∀f∈m.stk,(0<=f.i/\f.i<p.body.length)/\f.vals.length<=j/\f.kid<=j
 evs:m.st.evs.length<=j
def jT.up(h:jT p fuel j m):JQ p fuel (j+1) m:=⟨h.steps,by have:=h.stk;omega,fun f a=>⟨(h.fr f a).1,by have:=(h.fr f a).2;omega,by have:=(h.fr f a).2;omega⟩,by have:=h.evs;omega⟩
def jT.stop(h:jT p fuel j m)(k v:Int):JQ p fuel (j+1) (m.stop k v):=⟨h.up.steps,h.up.stk,h.up.fr,h.up.evs⟩
def JQ.tell(h:jT p fuel j m){v:Int}(ht:Ky v m=some m'):JQ p fuel (j+1) m':=by
 unfold Ky at ht;split at ht
 case h_2=>cases ht
 rename_i f r hs;cases ht;have a:=h.up;refine⟨a.steps,?_,?_,a.evs⟩
 ·have:=a.stk;grind
 ·intro g b;rcases FY.1 b with rfl|b
  ·have:=h.fr f (by rw[hs];simp)
   grind
  ·exact a.fr g (by rw[hs];simp[b])
def JQ.enter{k:Int}(c:0<=m.st.steps/\m.st.steps<=fuel)(d:m.stk.length<=j+1)(b:∀f∈m.stk,(0<=f.i/\f.i<p.body.length)/\f.vals.length<=j+1/\f.kid<=j+1)(a:m.st.evs.length<=j+1)(e:0<=k/\k<p.body.length):JQ p fuel (j+1) (Jz fuel k m):=by
 unfold Jz;split
 ·exact⟨c,by show m.stk.length<=_;omega,b,a⟩
 ·refine⟨⟨by show 0<=m.st.steps+1;omega,by show m.st.steps+1<=fuel;omega⟩,by simp;omega,?_,a⟩
  grind
def JdA(fuel:Int)(m c:MS)(f:FM)(t n:Int):Af MS:=
 if t=1\/t=2 then Ky n c else
 if t=3 then(if 0<=n then(m.st.vals[n.toNat]?).bind fun v=>Ky v c else none)else
 if t=4 then Hl f fun v=>if 0<=n then(m.st.arrs[n.toNat]?).bind fun r=>if 0<=v/\v<r.length then Ky (r.getD v.toNat 0) c else some (c.stop 2 0)else none else
 if t=5 then Hl f fun v=>Ky (Jw (0-v)) c else
 if t=6 then Hl f fun v=>Ky (Jw (1-v)) c else
 if t=18\/t=19 then(f.vals.getLast?).bind fun v=>Ky v c else
 if t=21 then Hl f fun v=>if 0<=n/\n.toNat<m.st.vals.length then some {c with st:=lX n v m.st}else none else
 if t=22 then Vx f fun a v=>if 0<=n then(m.st.arrs[n.toNat]?).map fun r=>if 0<=a/\a<r.length then{c with st:=iI n a v r m.st}else c.stop 2 0 else none else
 if t=24 then Hl f fun v=>some (if v=1 then Jz fuel f.i c else c)else
 if t=25 then Hl f fun v=>some (c.stop 0 v)else
 if t=20\/t=23\/t=26 then some c else
 if X6 t then Vx f fun a b=>if b=0/\(t=10\/t=11)then some (c.stop 1 0)else Ky (Js t a b) c else none
def Jmb(h:JQ p fuel j m)(a:Iy fuel p.body m=some m'):JQ p fuel (j+1) m':=by
 unfold Iy at a;split at a
 ·cases a
 rename_i f r hs;have b:jT p fuel j {m with stk:=r}:=⟨h.steps,by have:=h.stk;grind,fun g B=>h.fr g (by rw[hs];simp[B]),h.evs⟩;have z:=(h.fr f (by rw[hs];simp)).1;have i:=fun(v:Int)=>JQ.tell (m':=m') (v:=v) b;have a:JdA fuel m {m with stk:=r} f (Bj p.body f.i).1 (Bj p.body f.i).2=some m':=a;revert a;generalize (Bj p.body f.i).1=t;generalize (Bj p.body f.i).2=n;intro a;unfold JdA at a;by_cases y:t=1\/t=2
 ·grind
 rw[Am y]at a;by_cases A:t=3
 ·grind
 rw[Am A]at a;by_cases s:t=4
 ·rw[Aw s]at a;unfold Hl at a;split at a
  case h_2=>cases a
  dsimp only at a;by_cases e:0<=n
  ·rw[Aw e]at a;obtain⟨r,_,a⟩:=Bi.1 a;split at a
   ·exact i _ a
   ·cases a;exact b.stop 2 0
  grind
 rw[Am s]at a;by_cases l:t=5
 ·rw[Aw l]at a;unfold Hl at a
  grind
 rw[Am l]at a;by_cases w:t=6
 ·rw[Aw w]at a;unfold Hl at a
  grind
 rw[Am w]at a;by_cases x:t=18\/t=19
 ·grind
 rw[Am x]at a;by_cases o:t=21
 ·rw[Aw o]at a;unfold Hl at a;split at a
  case h_2=>cases a
  dsimp only at a;split at a
  ·cases a
   exact⟨b.up.steps,b.up.stk,b.up.fr,by have:=b.evs;simp[lX];exact this⟩
  ·cases a
 rw[Am o]at a;by_cases q:t=22
 ·rw[Aw q]at a;unfold Vx at a;split at a
  case h_2=>cases a
  dsimp only at a;by_cases e:0<=n
  ·rw[Aw e]at a;obtain⟨r,_,a⟩:=DV.1 a;split at a
   ·cases a
    exact⟨b.up.steps,b.up.stk,b.up.fr,by have:=b.evs;simp[iI];exact this⟩
   ·cases a;exact b.stop 2 0
  grind
 rw[Am q]at a;by_cases u:t=24
 ·rw[Aw u]at a;unfold Hl at a;split at a
  case h_2=>cases a
  dsimp only at a;cases a;split
  ·exact JQ.enter b.steps (Nat.le_succ_of_le b.stk) b.up.fr b.up.evs z
  ·exact b.up
 rw[Am u]at a;by_cases k:t=25
 ·rw[Aw k]at a;unfold Hl at a;split at a
  case h_2=>cases a
  dsimp only at a;cases a;exact b.stop 0 _
 rw[Am k]at a;by_cases c:t=20\/t=23\/t=26
 ·rw[Aw c]at a;cases a;exact b.up
 rw[Am c]at a;by_cases d:X6 t=true
 ·rw[Aw d]at a;unfold Vx at a;split at a
  case h_2=>cases a
  dsimp only at a;split at a
  ·cases a;exact b.stop 1 0
  ·exact i _ a
 grind
def Jrv{l:Ac Nd}{i k:Int}(h:k∈AZ l i):0<=k/\k<l.length:=by
 obtain⟨j,b,rfl⟩:=Jkx h;have a:0<=i:=(Jg2 l i _ h).2.1;have:=jS l i.toNat j (by grind)
 grind
def Jws{body:Ac Nd}{f:FM}{k:Int}(h:Jg body f=some (some k)):k∈AZ body f.i:=by
 rw[show Jg body f=EB (Bj body f.i).1 (AZ body f.i) f from rfl]at h;revert h;generalize AZ body f.i=a;generalize (Bj body f.i).1=t;intro h;unfold EB at h
 grind
def Jfk(h:JQ p fuel j m)(a:aB fuel p.body m=some m'):JQ p fuel (j+1) m':=by
 unfold aB at a;split at a
 ·cases a
 rename_i f r hs;split at a
 ·rename_i k c;cases a;have d:=h.fr f (by rw[hs];simp);refine JQ.enter h.steps ?_ ?_ (by have:=h.evs;grind) (Jrv (Jws c))
  ·have:=h.stk;grind
  ·intro g b;rcases FY.1 b with rfl|b
   ·grind
   ·have:=h.fr g (by rw[hs];simp[b]);omega
 ·exact Jmb h a
 ·cases a
end
section
variable {p : Pg} {fuel : Int} {im : Nat} {γ : Nat → Nat} {L : ML} {m : MS} {H : Ae}
def MI.kidinc(h:MI p fuel im γ L m H){f:FM}{r:Ac FM}(hs:m.stk=f::r):∃q s H',BG 3 L.ds (iD r.length)=some q/\AP 1 q=some s/\Ai none H s=some (iD f.kid)/\Bh 1 s (iD ((f.kid+1:Nat):Int)) H=some (.v undef,H')/\MI p fuel im γ L {m with stk:={f with kid:=f.kid+1}::r} H':=by
 obtain⟨d,C,i,g,o,c,y,e,D,b,t,_⟩:=h.top hs;obtain⟨B,A,w,v,u,z,l,a⟩:=h.stk.write (j:=r.length) (k:=1) (by rw[hs];simp) (by decide) (x:=iD ((f.kid+1:Nat):Int)) rfl rfl;rw[b]at v;cases v;refine⟨_,A,w,b,u,?_,z,?_⟩
 ·cases u;exact t 1 _ rfl
 ·have n:(Pv m.stk L.fd).set (r.length*3+1) (iD ((f.kid+1:Nat):Int))=Pv ({f with kid:=f.kid+1}::r) L.fd:=by
   rw[hs,g];simp only[Pv];rw[Jkz _ _ (by omega),e,show r.length*3+1-r.length*3=1 from by omega];rfl
  rw[n]at l;refine⟨a.2 _ _ _ (by decide) h.mach,h.kids.stay a (by decide),h.vals.stay a (by decide),h.arrs.stay a (by decide),h.each.stay a fun j _=>by omega,?_,?_,h.evs.stay a (by decide),a.2 _ _ _ (by decide) h.pairs,a.2 _ _ _ (by decide) h.ret⟩
  ·rw[hs]at l;exact l
  ·show Sm γ w ({f with kid:=f.kid+1}::r) L.fd;rw[g];exact⟨c.stay a (by omega),o.stay a fun j _=>by omega⟩
def RD(a:Nat):Ac D:=[.hp 1 0,.hp a 0,(.clo (.func 204) [.hp a 0] [])]
def JyE(N:Nat)(h:MI p fuel im γ L m H){m':MS}(l:aB fuel p.body m=some m')(U:m.over=false){j:Nat}(o:JQ p fuel j m)(hj:j<=30000)(hp:p.body.length<=3000000)(hf:fuel<=10000):
  ∃γ' y H',BK Aa (U1 Aa) YL N f149 0 (RD im) H=some (.normal,RD im,H')/\MI p fuel im γ' y m' H':=by
 unfold aB at l;split at l
 ·cases l
 rename_i f r hs;have O:=o.fr f (by rw[hs];simp);have t:(AZ p.body f.i).length<=3000000:=by have:=FJ p.body f.i;omega
 have v:=o.stk;rw[hs]at v;simp only[Ej]at v;have n:=LH h 12 (bD m.over) rfl;rw[U]at n;have R:=LH h 7 L.ds rfl;have P:Bq .sl L.ds=some (iD ((r.length+1:Nat):Int)):=by have:=h.stk.len;rw[hs]at this;exact this
 have u:¬(((r.length+1:Nat):Int)=0):=by omega
 have e:Gn (bD false)=some (bD true):=rfl;have M:∀a b c,AP c (.hp a b)=some (.hp a (b+c)):=fun _ _ _=>rfl;have J:∀a b,Dj (.hp a b)=some (.hp a b):=fun _ _=>rfl;unfold RD;rw[MA];unfold Eo Dx Ha;obtain⟨q,q1,H1,s,k2,k3,k4,k5⟩:=h.kidinc hs;have z:∃a b,q= .hp a b:=by
  obtain⟨d,dr,i,W,X,K,T,S,Y,w,V,_⟩:=h.top hs;rw[w]at s;cases s;exact⟨_,_,rfl⟩
 obtain⟨qa,qb,rfl⟩:=z;split at l
 ·rename_i k F;cases l;obtain⟨Z,x,E⟩:=Jhp h hs F O.1 t;rw[s]at x;cases x;obtain⟨γ',y,H',I,B⟩:=Wf k5 k (by grind) (by have:=o.steps;grind)
  refine⟨γ',y,H',?_,B⟩;have Q:Ag .int .add (iD f.kid) (iD 1)=some (iD ((f.kid+1:Nat):Int)):=by
   show some (iD (Jw ((f.kid:Int)+1)))=_;rw[yR _ (by omega) (by omega)];rfl
  have C:DN (Lp (some k)) 0=some (iD k):=rfl;have D:DN (Lp (some k)) 1=some (bD true):=rfl;simp only[J,M,EE,n,e,AU,Bd,Bv,R,P,Su,Dc u,BF,BC,lH _ (show r.length<=4000000 by omega),s,E,A7,C,D];simp_all
 ·rename_i F;obtain⟨Z,x,E⟩:=Jhp h hs F O.1 t;rw[s]at x;cases x;obtain⟨γ',y,H',I,B⟩:=QcW h l (fun g G=>(o.fr g G).1) (fun g G=>by have:=(o.fr g G).2;omega) (by rw[hs];simp;omega) (by have:=o.steps;omega) (by have:=o.evs;omega);refine⟨γ',y,H',?_,B⟩;have C:DN (Lp none) 0=some (iD 0):=rfl;have D:DN (Lp none) 1=some (bD false):=rfl;simp only[J,M,EE,n,e,AU,Bd,Bv,R,P,Su,Dc u,BF,BC,lH _ (show r.length<=4000000 by omega),s,E,A7,C,D,I]
 ·cases l
end
def yD:D->Af D
 | .v y=>some (.v y)
 |_=>none
def Ia(H:Ae):Nat->D->Af D
 |0,d=>yD d
 |n+1,d=>
  match d with
  | .hs id k=>
   match H[id]? with
   |some (.cells _ sz cs)=>if k*sz<=cs.length then((cs.take (k*sz)).mapM (Ia H n)).map fun a=> .sl sz (G9 sz k a)else none
   |_=>none
  | .agg cs=>(cs.mapM (Ia H n)).map .agg
  | .tup cs=>(cs.mapM (Ia H n)).map .tup
  |d=>yD d
def JpN{d a:D}(h:yD d=some a):∃y,d= .v y/\a= .v y:=by
 unfold yD at h
 grind
section
variable {B : Nat} {S : Nat → Prop} {L : Ac (Nat × Nat)} {w : AA} {H : Ae}
def lO(z:BD B S L w H):∀(n:Nat) (d a:D) (x:Ap),Ia H n d=some a->Rep S L w x d->Rep (fun k=>B<=k/\k<w.heap.size) [] w x a:=by
 have m:∀(d a:D) (x:Ap),yD d=some a->Rep S L w x d->Rep (fun k=>B<=k/\k<w.heap.size) [] w x a:=by
  intro d a x h e;obtain⟨y,rfl,rfl⟩:=JpN h;simpa only[Rep]using e
 intro n
 induction n with
 |zero=>intro d a x h e;exact m d a x h e
 |succ n s=>
  intro d a x h e;simp only[Ia]at h;split at h
  ·rename_i id k;split at h
   ·rename_i t sz cs hid;split at h
    ·rename_i C;obtain⟨i,l,rfl⟩:=DV.1 h;simp only[Rep]at e;obtain⟨b,c,A,r,rfl⟩:=e;obtain⟨arr,G,J,K,M,F⟩:=SE z hid A;have E:=yK _ _ l;have p:i.length=k*sz:=by grind
     have q:=SH (fun d a x f g=>s d a x f g) _ i _ l (F.take (k*sz));have o:=z.lt hid A;simp only[Rep,W8];by_cases u:k=0
     ·subst u;exact .inl ⟨rfl,_,c,rfl,fun h=>by cases h⟩
     ·refine .inr ⟨b,0,c,rfl,by omega,r,⟨o.1,o.2.1⟩,EM.of (oR _ _ _ p) ?_⟩;rw[G4 _ _ _ p];refine Eg.of q fun j v I=> ?_;rw[EE,KZ G]
      grind
    ·cases h
   ·cases h
  ·rename_i cs;obtain⟨i,l,rfl⟩:=DV.1 h;simp only[Rep]at e⊢;obtain⟨xs,f,g⟩:=e;exact⟨xs,f,SH (fun d a x f g=>s d a x f g) _ i _ l g⟩
  ·rename_i cs;obtain⟨i,l,rfl⟩:=DV.1 h;simp only[Rep]at e⊢;obtain⟨xs,f,g⟩:=e;exact⟨xs,f,SH (fun d a x f g=>s d a x f g) _ i _ l g⟩
  grind
end
def Hr.ok{P:Aj}{f:CG}{F:Ac D->Af D}(h:Hr P f F):Bz P f F:=by
 refine⟨h.body,fun ds d j S vs w n a=>(h.calls ds d j S vs w n a).mono ?_⟩;rintro e l ⟨v,rfl,g,b⟩;exact⟨v,rfl,Rep.kept (Kept.refl _ l) (fun k m=> .inr m) (fun i p c=>c) _ _ g,b⟩
def JaI{P:Aj}{T:Tab}{kp:Ac Nat}(s:Bg P T)(A:P.follows .mixedOrders=true){f:CG}{fn:Func}(g:P.funcs[f]? =some fn)(i:fn.body.isSome=true)(a:fn.name≠ "runtime.NumGoroutine"){F:Ac D→Af D}
  (h:∀ds d,F ds=some d->∃b n r c,Gt ds b/\AB P T kp n fn b []=some r/\Ia r.2 9 r.1=some c/\AY c d):Hr P f F:=by
 refine⟨⟨fn,g,a,i⟩,fun ds d o S vs w q k=> ?_⟩;obtain⟨b,n,r,c,p,z,t,l⟩:=h ds d o;have x:BN P f (fun xs H=>AB P T kp n fn xs H):=Hx s A g i a fun xs H e H' u=>⟨n,u⟩;refine(x.calls b [] r.1 r.2 z w.heap.size S [] vs w (bM S w q) (p.rep k)).mono ?_;rintro e B ⟨v,C,E,rfl,y,j,m⟩;exact⟨v,rfl,l _ _ _ _ (lO j 9 _ _ _ t y),m.below⟩
def JhB{P:Aj}{f:CG}{G:GT}(c:BN P f G){F:Ac D->Af D}
  (h:∀ds d,F ds=some d->∃a r b,Gt ds a/\G a []=some r/\Ia r.2 9 r.1=some b/\AY b d):Hr P f F:=by
 refine⟨c.body,fun ds d l S vs w n i=> ?_⟩;obtain⟨a,r,b,m,q,o,j⟩:=h ds d l;refine(c.calls a [] r.1 r.2 q w.heap.size S [] vs w (bM S w n) (m.rep i)).mono ?_;rintro e s ⟨v,t,u,rfl,p,g,k⟩;exact⟨v,rfl,j _ _ _ _ (lO g 9 _ _ _ o p),k.below⟩
section
variable {α β γ : Type} {A : EU α} {B : EU β} {C : EU γ}
variable {P : Aj} {T : Tab} {kp : Ac Nat}
variable (hT : Bg P T) (hm : P.follows .mixedOrders = true) {f : CG} {fn : Func} (hf : P.funcs[f]? = some fn) (hb : fn.body.isSome = true) (hname : fn.name ≠ "runtime.NumGoroutine")
include hT hm hf hb hname
def JkD{g:α->Af D}(h:∀a d,g a=some d->∃n r c,AB P T kp n fn [A.enc a] []=some r/\Ia r.2 9 r.1=some c/\AY c d):Hr P f (F1 A g):=
 JaI hT hm hf hb hname fun ds d b=>by
  unfold F1 at b;split at b
  ·obtain⟨a,i,b⟩:=Bi.1 b;obtain⟨n,r,c,e⟩:=h a d b;exact⟨_,n,r,c,.cons (A.ok _ _ i) .nil,e⟩
  ·cases b
def Jg0{g:α->β->γ->Af D}(h:∀a b c d,g a b c=some d->∃n r i,AB P T kp n fn [A.enc a,B.enc b,C.enc c] []=some r/\Ia r.2 9 r.1=some i/\AY i d):Hr P f (F3 A B C g):=
 JaI hT hm hf hb hname fun ds d e=>by
  unfold F3 at e;split at e
  ·obtain⟨a,l,e⟩:=Bi.1 e;obtain⟨b,j,e⟩:=Bi.1 e;obtain⟨c,k,e⟩:=Bi.1 e;obtain⟨n,r,i,m⟩:=h a b c d e;exact⟨_,n,r,i,.cons (A.ok _ _ l) (.cons (B.ok _ _ j) (.cons (C.ok _ _ k) .nil)),m⟩
  ·cases e
end
theorem Vl(H:Ae):∀(n:Nat) (y:Ap),Ia H n (.v y)=some (.v y)
 |0,y=>rfl
 |n+1,y=>rfl
structure Rn where
 k:Int
 v:Int
 steps:Int
 evs:List (Int×Int×Int)
def MM(l:Ac (Int×Int×Int)):D:= .sl 3 (l.map Jv)
def Dn(r:Rn):Ac D:=[iD r.k,iD r.v,iD r.steps,MM r.evs]
def s0(p:Pg)(args:Ac Int):St:=⟨L6 p args,LQ p,0,[]⟩
def Qde:Af Ey->Af Rn
 |some (.unit s)=>some ⟨3,0,s.steps,s.evs⟩
 |some (.halt k v s)=>some ⟨k,v,s.steps,s.evs⟩
 |_=>none
def RY(p:Pg)(args:Ac Int)(fuel:Int):Af Rn:=Qde (ev fuel p.body (fuel.toNat+2) 0 (s0 p args))
def Xu:Ac D->Af D:=F3 Ef OY BV fun p a f=>if p.body.length<=3000000 then(if JC p a f=0 then(RY p a f).map fun r=> .tup [.agg (Dn r),iD 0]else some (.tup [.agg (Dn ⟨0,0,0,[]⟩),iD (JC p a f)]))else none
def JeU{p:Pg}{a:Ac Int}{f:Int}(h:JC p a f=0):KL p=0/\0<p.body.length/\Bc p.body 0=p.body.length/\(Bj p.body 0).1=20/\SK p 0=2/\(a.length:Int)=p.params/\0<=f/\f<=10000:=by
 unfold JC at h;omega
def Ji7{p:Pg}(h:KL p=0):p.vars.length<=12:=by
 by_cases a:0<=p.params/\p.params<=p.vars.length/\p.vars.length<=12
 ·exact a.2.2
 ·rw[qR a]at h;omega
section
variable {p : Pg} {fuel : Int} {im : Nat} {γ : Nat → Nat} {L : ML} {m : MS} {H : Ae}
def JuT(h:MI p fuel im γ L m H){J:Nat}{a:MS}(x:Fp fuel p.body J m=some a)(M:a.over=true\/a.stk=[])(F:JQ p fuel 0 m)(N:J<=30000)(hp:p.body.length<=3000000)(K:fuel<=10000):
  ∃γ' u H',BZ Aa (U1 Aa) YL 30002 f149 0 (RD im) H=some (.exit 0,RD im,H')/\MI p fuel im γ' u (if a.over then a else a.stop 3 0) H'/\JQ p fuel J a:=by
 have s:∀j,j<=J->∃d,Fp fuel p.body j m=some d/\Fp fuel p.body (J-j) d=some a:=by
  intro j z
  induction j with
  |zero=>exact⟨m,rfl,x⟩
  |succ j D=>
   obtain⟨d,q,b⟩:=D (by omega);rw[show J-j=(J-(j+1))+1 from by omega]at b;simp only[Fp]at b;split at b
   ·cases b
   rename_i k;obtain⟨mk,l,i⟩:=Bi.1 b;refine⟨mk,?_,i⟩;rw[PD j 1 q];simp only[Fp,k,BF,BC,l,BR]
 have key:=NT (P:=Aa) (T:=U1 Aa) (kp:=YL) (fn:= f149) (li:=0) (fun _=>RD im) (fun j H=>∃γ L d,Fp fuel p.body j m=some d/\Fp fuel p.body (J-j) d=some a/\JQ p fuel j d/\MI p fuel im γ L d H)
  (fun r=>r.1= .exit 0/\r.2.1=RD im/\∃γ L,MI p fuel im γ L (if a.over then a else a.stop 3 0) r.2.2/\JQ p fuel J a) J 30002 ?_ ?_ (by omega) (H:=H) ⟨γ,L,m,rfl,x,F,h⟩
 ·grind
 ·rintro j H z ⟨γ,L,d,q,b,l,i⟩;rw[show J-j=(J-(j+1))+1 from by omega]at b;simp only[Fp]at b;split at b
  ·cases b
  rename_i k;obtain⟨mk,v,C⟩:=Bi.1 b;have n:d.over=false:=by simpa using k
  obtain⟨γ',u,H',B,I⟩:=JyE 30002 i v n l (by omega) hp K;refine⟨H',B,γ',u,mk,?_,C,Jfk l v,I⟩;rw[PD j 1 q];simp only[Fp,n,BF,BC,v,BR]
 ·rintro H ⟨γ,L,d,q,b,l,i⟩;rw[oW]at b;cases b;have g:=LH i 12 (bD a.over) rfl;cases k:a.over with
  |true=>
   rw[k]at g;refine⟨(.exit 0,RD im,H),?_,(fun e=>by cases e),rfl,rfl,γ,L,by simpa[k]using i,l⟩;unfold RD;rw[MA];unfold Eo Dx Ha;have c:Gn (bD true)=some (bD false):=rfl;simp only[Dj,AP,EE,g,c,AU,Bd,BF,BC]
  |false=>
   rw[k]at g;have o:a.stk=[]:=by grind
   obtain⟨y,E⟩:=ZH i 3 0;refine⟨(.exit 0,RD im,_),?_,(fun e=>by cases e),rfl,rfl,γ,L,by simpa[k]using E,l⟩;unfold RD;rw[MA];unfold Eo Dx Ha;have c:Gn (bD false)=some (bD true):=rfl;have G:=LH i 7 L.ds rfl;have w:=i.stk.len;rw[o]at w;have t:C9 (U1 Aa) (.clo (.func 204) [.hp im 0] []) [iD 3,iD 0] H=U9 Aa [.hp im 0,iD 3,iD 0] H:=rfl;simp only[Dj,AP,EE,g,c,AU,Bd,Bv,G,w,Su,t,y,A7];rfl
end
theorem Kx{p:Pg}{fuel:Int}:∀(k:Nat) {j:Nat} {m m':MS},JQ p fuel j m->Fp fuel p.body k m=some m'->JQ p fuel (j+k) m'
 |0,j,m,m',h,a=>by cases a;exact h
 |k+1,j,m,m',h,a=>by
  simp only[Fp]at a;split at a
  ·cases a
  obtain⟨d,c,b⟩:=Bi.1 a;rw[show j+(k+1)=j+1+k from by omega];exact Kx k (Jfk h c) b
def Jdq(p:Pg)(a:Ac Int)(f:Int)(h:p.body.length<=3000000)(H:Ae):Ak lC [Be p,AL a,iD f] H=some (iD (JC p a f),H):=by
 rw[CP _ _ _ rfl];have:lC [Be p,AL a,iD f]=some (iD (JC p a f)):=by
  show F3 Ef OY BV _ [Ef.enc p,OY.enc a,BV.enc f]=_;simp[F3,Ef.back,OY.back,BV.back,h]
 rw[this];rfl
def Qe9(l:Ac (Int×Int×Int)):G9 3 l.length (l.flatMap Jv)=l.map Jv:=by
 induction l with
 |nil=>rfl
 |cons x r a=>
  rw[zM,Ej,G9,EP];simp only[Jv,Jd,JO,QX,pF,pJ,UB]at a⊢;rw[a]
def QdY(H:Ae)(n:Nat)(l:Ac (Int×Int×Int)):(l.flatMap Jv).mapM (Ia H n)=some (l.flatMap Jv):=by
 induction l with
 |nil=>rfl
 |cons x r a=>
  rw[zM];simp only[Jv,Jd,JO]at a⊢;rw[FZ,FZ,FZ,Vl,Vl,Vl,a];rfl
def Jsd{γ:Nat->Nat}{d:D}{l:Ac (Int×Int×Int)}{H:Ae}(h:Eh γ 5 433 3 d l.length (l.flatMap Jv) H)(n:Nat):∃a,Ia H (n+1) d=some a/\AY a (MM l):=by
 obtain⟨f,⟨rfl,e⟩|⟨i,all,rfl,c,b,g⟩⟩:=h
 ·have:l=[]:=NK.1 e;subst this;exact⟨_,Vl H (n+1) _,AY.nil 3⟩
 ·refine⟨MM l,?_,AY.refl _⟩;simp only[Ia,c.2];rw[Aw (by omega),b,QdY,Dt,Qe9];rfl
def QdT{p:Pg}{fuel:Int}{d:Nat}{γ:Nat->Nat}{L:ML}{m:MS}{H:Ae}(h:MI p fuel d γ L m H):
  Ai (some 4) H (.hp d 8)=some (.agg [iD m.k,iD m.v,iD m.st.steps,L.de])/\∃H',Bh 4 (.hp 1 0) (.agg [iD m.k,iD m.v,iD m.st.steps,L.de]) H=some (.v undef,H')/\Ai (some 4) H' (.hp 1 0)=some (.agg [iD m.k,iD m.v,iD m.st.steps,L.de])/\
  ∃a,Ia H' 9 (.tup [.agg [iD m.k,iD m.v,iD m.st.steps,L.de],iD 0])=some a/\AY a (.tup [.agg (Dn ⟨m.k,m.v,m.st.steps,m.st.evs⟩),iD 0]):=by
 have g:=(rE h.evs).2;have c:=DZ.put h.ret (.cells 237 4 [iD m.k,iD m.v,iD m.st.steps,L.de]);have b:=h.ret.put (.cells 237 4 [iD m.k,iD m.v,iD m.st.steps,L.de]);refine⟨by rw[IM h.mach.2];rfl,H.set 1 (.cells 237 4 [iD m.k,iD m.v,iD m.st.steps,L.de]),?_,by rw[IM b.2];rfl,?_⟩
 ·simp only[Bh,FI,D7,h.ret.2,CT];simp_all
 ·obtain⟨a,f,e⟩:=Jsd (h.evs.stay c (by decide)) 6;refine⟨.tup [.agg [iD m.k,iD m.v,iD m.st.steps,a],iD 0],?_,AY.tup (.cons (AY.agg (.cons (AY.refl _) (.cons (AY.refl _) (.cons (AY.refl _) (.cons e .nil))))) (.cons (AY.refl _) .nil))⟩;show(List.mapM (Ia _ 8) [.agg [iD m.k,iD m.v,iD m.st.steps,L.de],iD 0]).map D.tup=_;have:Ia (H.set 1 (.cells 237 4 [iD m.k,iD m.v,iD m.st.steps,L.de])) 8 (.agg [iD m.k,iD m.v,iD m.st.steps,L.de])=some (.agg [iD m.k,iD m.v,iD m.st.steps,a]):=by
   show(List.mapM (Ia _ 7) [iD m.k,iD m.v,iD m.st.steps,L.de]).map D.agg=_;simp only[FZ,VI,Vl,f];rfl
  simp only[FZ,VI,Vl,this];rfl
def Jb1:Hr Aa 149 Xu:=Jg0 (kp:=YL) Jn3 AX func149 (by kernel_rfl) (by decide) fun p a f d h=>by
 split at h
 case isFalse=>cases h
 rename_i u;show∃n r j,AB _ _ _ n _ [Be p,AL a,iD f] []=some r/\Ia r.2 9 r.1=some j/\AY j d;let m:Ae:=[.cells 25 3 (DW p),CT];have g:BA 25 (Be p) []=some (.hp 0 0,[.cells 25 3 (DW p)]):=rfl;have o:BX 237 [iD 0,iD 0,iD 0,Aq] [.cells 25 3 (DW p)]=some (.hp 1 0,m):=rfl;have lp:Ai (some 3) m (.hp 0 0)=some (Be p):=rfl;by_cases q:JC p a f=0
 case neg=>
  rw[Am q]at h;cases h;refine⟨0,(.tup [.agg [iD 0,iD 0,iD 0,Aq],iD (JC p a f)],m),.tup [.agg [iD 0,iD 0,iD 0,Aq],iD (JC p a f)],?_,rfl,AY.tup (.cons (AY.agg (.cons (AY.refl _) (.cons (AY.refl _) (.cons (AY.refl _) (.cons (AY.nil 3) .nil))))) (.cons (AY.refl _) .nil))⟩;rw[Jbj];have X:CY [(0,2),(2,1),(3,1)] [(iD 0),(iD 0),(iD 0),Aq] []=some (.agg [(iD 0),(iD 0),(iD 0),Aq]):=rfl;have D:Bh 4 (.hp 1 0) (.agg [(iD 0),(iD 0),(iD 0),Aq]) m=some (.v undef,m):=rfl;have S:Ai (some 4) m (.hp 1 0)=some (.agg [(iD 0),(iD 0),(iD 0),Aq]):=rfl;simp only[g,A7,o,lp,AU,Jdq p a f u,YO,Bd];simp_all
 case pos=>
  rw[Aw q]at h;obtain⟨r,i,rfl⟩:=DV.1 h;obtain⟨g1,g2,g3,g4,g5,g6,g7,V⟩:=JeU q;obtain⟨im,H1,γ1,L1,K,P⟩:=JxA p a f u (Ji7 g1) (γ0:=fun _=>9) (H:=m) ⟨rfl,rfl⟩;obtain⟨γ2,L2,H2,Q,W⟩:=Wf P 0 (by simp[m0,mk]) (by simp[m0,mk]);have F:JQ p f 0 (Jz f 0 (m0 (L6 p a) (LQ p))):=by
   unfold Jz;split
   ·exact⟨⟨by simp[m0,mk,MS.stop],by simpa[m0,mk,MS.stop]using g7⟩,by simp[m0,mk,MS.stop],by simp[m0,mk,MS.stop],by simp[m0,mk,MS.stop]⟩
   ·rename_i w;simp only[m0,mk]at w⊢;refine⟨⟨by simp[EZ],by simp[EZ];omega⟩,by simp,?_,by simp[EZ]⟩
    grind
  have DK:∀(J:Nat) (b:MS),Fp f p.body J (Jz f 0 (m0 (L6 p a) (LQ p)))=some b->(b.over=true\/b.stk=[])->(J:Int)<=2*b.st.steps->(if b.over then b else b.stop 3 0).k=r.k->(if b.over then b else b.stop 3 0).v=r.v->b.st.steps=r.steps->b.st.evs=r.evs->∃n B j,AB Aa (U1 Aa) YL n f149 [Be p,AL a,iD f] []=some B/\Ia B.2 9 B.1=some j/\AY j (.tup [.agg (Dn r),iD 0]):=by
   intro J b c he hJ R U L I;have z:=Kx J F c;have aa:=z.steps;obtain⟨γ3,M,H3,E,N,_⟩:=JuT W c he F (by omega) u V;obtain⟨O,Z,T,q3,j,Y,C⟩:=QdT N;have x:(⟨(if b.over then b else b.stop 3 0).k,(if b.over then b else b.stop 3 0).v,(if b.over then b else b.stop 3 0).st.steps,(if b.over then b else b.stop 3 0).st.evs⟩:Rn)=r:=by
    have hs:(if b.over then b else b.stop 3 0).st=b.st:=by split<;>rfl
    rw[R,U,hs,L,I]
   rw[x]at C;refine⟨30002,(.tup [.agg [iD _,iD _,iD _,M.de],iD 0],Z),j,?_,Y,C⟩;rw[Jbj];simp only[g,A7,o,lp,AU,Jdq p a f u,YO,Bd,q];rw[Am (by simp)];simp only[K,A7,Q];unfold RD at E;rw[E];simp only[Kw,Kv,NM,NJ,Dj,AU,AP,EE,O,T,A7,q3]
  unfold RY at i;cases l:ev f p.body (f.toNat+2) 0 (s0 p a)with
  |none=>rw[l]at i;cases i
  |some res=>
   rw[l]at i;have e:=dT (f.toNat+2) 0 (s0 p a) [] res l;cases res with
   |val v s=>cases i
   |unit s=>
    cases i
    obtain⟨j1,J,G,y⟩:=e;exact DK J _ y (.inr rfl) (by show(J:Int)<=2*s.steps;have:(s0 p a).steps=0:=rfl;omega) rfl rfl rfl rfl
   |halt k v s=>
    cases i
    obtain⟨j1,J,G,stk,y⟩:=e;exact DK J _ y (.inl rfl) (by show(J:Int)<=2*s.steps;have:(s0 p a).steps=0:=rfl;omega) rfl rfl rfl rfl
def BP(l:Ac Int):Ac D:=l.map fun n=>iD n
def Ei(l:Ac Nd):Ac D:=(l.map Cb).flatten
def TK(l:Ac Int):(BP l).length=l.length:=by simp[BP]
def Ur(l:Ac Nd):(Ei l).length=l.length*2:=by
 induction l with
 |nil=>rfl
 |cons x r a=>simp only[Ei,EP,IX,DC,Ej,Cb]at a⊢;simp at a⊢;omega
def JgJ(a b:Ac Int):BP (a++b)=BP a++BP b:=by simp[BP]
def hP(a b:Ac Nd):Ei (a++b)=Ei a++Ei b:=by simp[Ei]
def JjR(l:Ac Int):(BP l).all Df=true:=by
 induction l with
 |nil=>rfl
 |cons x r a=>simp only[BP,EP,Na]at a⊢;rw[a];rfl
def Jhq(l:Ac Nd):(Ei l).all Df=true:=by
 induction l with
 |nil=>rfl
 |cons x r a=>simp only[Ei,EP,IX,List.all_append]at a⊢;rw[a];rfl
def Jci(H:Ae)(n:Nat)(l:Ac Int):(BP l).mapM (Dh H n)=some (BP l):=by
 induction l with
 |nil=>rfl
 |cons x r a=>
  have e:BP (x::r)=iD x::BP r:=rfl;rw[e,FZ,Ji H n _ rfl,a];rfl
def Ja2(H:Ae)(n:Nat)(l:Ac Nd):(Ei l).mapM (Dh H n)=some (Ei l):=by
 induction l with
 |nil=>rfl
 |cons x r a=>
  have e:Ei (x::r)=iD x.1::iD x.2::Ei r:=rfl;rw[e,FZ,FZ,Ji H n _ rfl,Ji H n _ rfl,a];rfl
def tD(l:Ac Int):G9 1 l.length (BP l)=l.map IE:=by
 induction l with
 |nil=>rfl
 |cons x r a=>
  have e:BP (x::r)=iD x::BP r:=rfl;rw[e,Ej,G9,EP];simp only[QX,pF,pJ,UB,a,IE]
def Rv(l:Ac Nd):G9 2 l.length (Ei l)=l.map Cb:=by
 induction l with
 |nil=>rfl
 |cons x r a=>
  have e:Ei (x::r)=iD x.1::iD x.2::Ei r:=rfl;rw[e,Ej,G9,EP];simp only[QX,pF,pJ,UB,a,Cb]
def Buf.ints{e:AQ}{H:Ae}{B:Nat}{d:D}{l:Ac Int}(h:Buf e 1 H B d l.length (BP l))(n:Nat):∃a,Dh H (n+1) d=some a/\Hg a=some l:=by
 rcases h with⟨rfl,b,_⟩|⟨r,b,rfl,c,f⟩
 ·have:l=[]:=NK.1 b;subst this;exact⟨_,Ji H (n+1) _ rfl,rfl⟩
 ·refine⟨AL l,?_,uA l⟩;simp only[Dh,c];rw[Aw (by rw[TK];omega),Q4 (by rw[TK];omega),Jci,Dt,tD];rfl
def Buf.nodes{e:AQ}{H:Ae}{B:Nat}{d:D}{l:Ac Nd}(h:Buf e 2 H B d l.length (Ei l))(n:Nat):∃a,Dh H (n+1) d=some a/\Gv a=some l:=by
 rcases h with⟨rfl,b,_⟩|⟨r,b,rfl,c,f⟩
 ·have:l=[]:=NK.1 b;subst this;exact⟨_,Ji H (n+1) _ rfl,rfl⟩
 ·refine⟨A8 l,?_,Rr l⟩;simp only[Dh,c];rw[Aw (by rw[Ur];omega),Q4 (by rw[Ur];omega),Ja2,Dt,Rv];rfl
def Buf.eqB{e:AQ}{sz:Nat}{H:Ae}{B:Nat}{d:D}{n:Nat}{cs:Ac D}(h:Buf e sz H B d n cs):Go.Proofs.YtapdelkomkpgmaaGreatDoor.eqB d d=true:=by
 rcases h with⟨rfl,_,_⟩|⟨_,_,rfl,_,_⟩<;>simp
def Jok{k i:AQ}{H:Ae}{B1 B2:Nat}{f e:D}{a:Int}{vs:Ac Int}{b:Ac Nd}(p:Buf k 1 H B1 f vs.length (BP vs))(m:Buf i 2 H B2 e b.length (Ei b))(n:Nat):
  ∃g,Dh H (n+2) (.agg [iD a,f,e])=some g/\XH g=some ⟨a,vs,b⟩:=by
 obtain⟨d,h,o⟩:=p.ints n;obtain⟨c,j,l⟩:=m.nodes n;refine⟨.agg [iD a,d,c],?_,?_⟩
 ·show(List.mapM (Dh H (n+1)) [iD a,f,e]).map D.agg=_;simp only[FZ,VI,Ji H (n+1) (iD a) rfl,h,j];rfl
 ·simp[XH,UJ,Dz,o,l]
def Alike(l a:Ac Nd):Prop:=l.map ar=a.map ar
def Alike.len{l a:Ac Nd}(h:Alike l a):l.length=a.length:=by
 have:=congrArg List.length h;simpa using this
def Alike.drop{l a:Ac Nd}(h:Alike l a)(k:Nat):Alike (l.drop k) (a.drop k):=by
 unfold Alike at h⊢;rw[Mf,Mf,h]
theorem xV:∀(l b:Ac Nd) (a:Nat),Alike l b->EX a l=EX a b
 |[],[],a,h=>rfl
 |[],y::s,a,h=>by cases h
 |x::r,[],a,h=>by cases h
 |x::r,y::s,0,h=>by rw[RQ,RQ]
 |x::r,y::s,a+1,h=>by
  unfold Alike at h;simp only[EP,Q3]at h;rw[O6,O6,h.1,xV r s _ h.2]
def Jt1{l a:Ac Nd}(h:Alike l a)(i:Int):Bc l i=Bc a i:=by
 unfold Bc;rw[xV _ _ _ (h.drop i.toNat)]
def Juc(l:Ac Nd)(k:Nat)(y:Nd)(a:k<l.length)(h:ar y=ar l[k]):Alike l (l.set k y):=by
 unfold Alike;rw[zY,h];apply PU;intro j;by_cases e:k=j
 ·subst e;rw[Hw (by simpa using a)];simp[a]
 ·rw[Ee e]
def JuQ(k:Nat):∀(a:Nat) (l:Ac Nd) (t:Nat),EX a l=some t->k<t->∃w,1<=w/\∀s,EX a (l.take k++s)=(EX w s).map (k+ ·):=by
 induction k with
 |zero=>
  intro a l t h g;refine⟨a,?_,fun s=> ?_⟩
  ·cases a with
   |zero=>rw[RQ]at h;cases h;omega
   |succ a=>omega
  simp
 |succ k f=>
  intro a l t h g;cases a with
  |zero=>rw[RQ]at h;cases h;omega
  |succ a=>
   cases l with
   |nil=>rw[ZZ _ (by omega)]at h;cases h
   |cons x r=>
    rw[O6]at h;by_cases d:ar x<0
    ·grind
    ·rw[Am d]at h;cases hs:EX (a+(ar x).toNat) r with
     |none=>rw[hs]at h;cases h
     |some i=>
      rw[hs]at h;simp only[Dt,CE]at h;obtain⟨w,e,b⟩:=f _ _ _ hs (by omega);refine⟨w,e,fun s=> ?_⟩;rw[QX,Jd,O6,Am d,b];cases EX w s with
      |none=>rfl
      |some c=>grind
section
variable {l r : Ac Nd} {k : Nat}
def Ct(h:Bc r 0=r.length):EX 1 r=some r.length:=by
 obtain⟨m,hs,a⟩:=mF r 0 (by grind)
 grind
def D2(h:EX 1 r=some r.length):Bc r 0=r.length:=by
 have:=cI r 0 r.length (by grind)
 grind
def Qdl(b:0<=Bc l k):(I5 l k r).length+(Fb l k).length=l.length+r.length:=by
 have d:k<l.length:=by have:=(F6 l k b).2;simpa using this
 have a:¬Bc l k<0:=by omega
 have c:=UA l k;have e:=PH l k b;rw[I5,Am a,Fb,Am a];simp;omega
def Jxf(h:Bc l 0=l.length)(i:0<=Bc l k)(j:Bc r 0=r.length):Bc (I5 l k r) 0=(I5 l k r).length:=by
 have f:k<l.length:=by have:=(F6 l k i).2;simpa using this
 have d:¬Bc l k<0:=by omega
 obtain⟨m,hs,o⟩:=mF l k i;have n:=UA l k;obtain⟨w,s,a⟩:=JuQ k 1 l l.length (Ct h) f;have b:=a (l.drop k);rw[Zd,Ct h]at b;obtain⟨v,rfl⟩:∃v,w=1+v:=⟨w-1,by omega⟩;rw[Dr,hs]at b;simp only[BR,List.drop_drop]at b;have p:I5 l k r=l.take k++(r++l.drop (k+m)):=by rw[I5,Am d,o,FV];rfl
 have e:=a (r++l.drop (k+m));have q:EX 1 (r++l.drop (k+m))=some r.length:=by
  have:=Jkr 1 r r.length (Ct j) (l.drop (k+m))
  grind
 rw[Dr,q]at e;simp only[BR]at e;rw[pK rfl]at e;refine D2 ?_;rw[p,e];cases g:EX v (l.drop (k+m))with
 |none=>rw[g]at b;cases b
 |some c=>
  rw[g]at b;simp only[Dt,CE]at b⊢;simp;omega
def JtI(c:0<=Bc l k)(j:Nat)(b:j<k):(I5 l k r)[j]? =l[j]? :=by
 have a:k<l.length:=by have:=(F6 l k c).2;simpa using this
 rw[I5,Am (by omega),FV,Ii (by simp;omega)];simp[b]
def JkI(a:0<=Bc l k)(j:Nat)(e:Bc l k<=j):(I5 l k r)[j-(Bc l k).toNat+k+r.length]? =l[j]? :=by
 have c:k<l.length:=by have:=(F6 l k a).2;simpa using this
 obtain⟨m,b⟩:=Fq a;rw[b]at e⊢;have d:m<=j:=by omega
 rw[I5,Am (by omega),b,show((m:Int)).toNat=m from rfl,show((k:Int)).toNat=k from rfl,SV (by simp;omega)]
 grind
end
structure Dl where
 path:List Int
 op:Int
 n:Int
 deriving DecidableEq,Inhabited
def Iw(x:Nd)(op n:Int):Prop:=
 (op=1/\7<=x.1/\x.1<=11/\7<=n/\n<=11)\/(op=2/\12<=x.1/\x.1<=17/\12<=n/\n<=17)\/(op=3/\18<=x.1/\x.1<=19/\18<=n/\n<=19)\/
 (op=4/\(x.1=1\/(x.1=2/\0<=n/\n<=1)))\/(op=5/\(x.1=21\/x.1=22\/x.1=23\/x.1=24\/x.1=25)/\n=0)\/
 (op=6/\(x.1=23\/x.1=24)/\n=0)\/(op=7/\x.1=25)
instance (x:Nd)(op n:Int):Decidable (Iw x op n):=by unfold Iw;infer_instance
def Gw(l:Ac Nd)(k:Nat)(x:Nd)(op n:Int):Ac Nd:=
 if op=1\/op=2\/op=3 then l.set k (n,x.2)else if op=4 then l.set k (x.1,n)else
 if op=5 then I5 l k [(26,0)]else if op=6 then l.take (k+1)++(6,0)::l.drop (k+1)else I5 l ((k+1:Nat):Int) [(1,n)]
def JfQ{t m:Int}(b:7<=t)(a:t<=19):(ar (t,m)=2/\m=0)\/ar (t,m)= -1:=by
 have c:EF t m=(0,2):=by
  unfold EF
  grind
 unfold ar
 grind
def RA(n:Int):ar (1,n)=0:=rfl
def Jq6{n:Int}(b:0<=n)(a:n<=1):ar (2,n)=0:=by
 unfold ar;rw[Am (show¬((2:Int)=1)from by decide)];have:EF 2 n=(1,0):=rfl
 grind
def CA{t n:Int}{a b:Int}(c:EF t n=(a,b))(ht:t≠1)(h:0<=ar (t,n)):ar (t,n)=b:=by
 unfold ar at h⊢
 grind
def Jy1:ar (26,0)=0:=by decide
def Jen:ar (6,0)=1:=by decide
def JjF{n:Int}(h:0<=ar (25,n)):ar (25,n)=1:=CA (a:=0) (b:=1) rfl (by decide) h
def Jex{n:Int}(h:0<=ar (23,n)):ar (23,n)=3:=CA (a:=0) (b:=3) rfl (by decide) h
def JgM{n:Int}(h:0<=ar (24,n)):ar (24,n)=2:=CA (a:=0) (b:=2) rfl (by decide) h
def Jad{y:Nd}(a:ar y=0):Bc [y] 0=([y]:Ac Nd).length:=by
 refine D2 ?_;rw[show(1:Nat)=0+1 from rfl,O6,Am (by omega),a];rfl
section
variable {l : Ac Nd} {k : Nat} {op n : Int}
def wJ(b:0<=Bc l k):∃a:k<l.length,0<=ar l[k]/\Fv l k=ar l[k]:=by
 have a:k<l.length:=by have:=(F6 l k b).2;simpa using this
 have:=gU l k b;rw[XN _ _ a]at this;exact⟨a,this,XN _ _ a⟩
def CK(d:0<=Bc l k)(h:0<Fv l k):0<=Bc l ((k+1:Nat):Int)/\Bc l ((k+1:Nat):Int)<=Bc l k/\k+1<l.length:=by
 have:=aG l k d 0 (by omega);have c:Fz l (k+1) 0=((k+1:Nat):Int):=by simp[Fz]
 rw[c]at this;obtain⟨_,_,a,b⟩:=this;have:=(F6 l _ a).2;omega
def JpA(d:0<=Bc l k)(h:Fv l k=1):Bc l ((k+1:Nat):Int)=Bc l k:=by
 have a:=DG l k d;rw[h,show(1:Int).toNat=0+1 from rfl]at a;have c:Bc l (Fz l (k+1) 0)=Bc l k:=a;have b:Fz l (k+1) 0=((k+1:Nat):Int):=by simp[Fz]
 rw[<-b];exact c
def Js6(c:0<=Bc l ((k+1:Nat):Int)):l.take (k+1)++(6,0)::l.drop (k+1)=I5 l ((k+1:Nat):Int) ((6,0)::Fb l ((k+1:Nat):Int)):=by
 have b:=PH l _ c;have a:=UA l ((k+1:Nat):Int);obtain⟨m,d⟩:=Fq c;rw[d]at b a;rw[I5,Am (by omega),Fb,Am (by omega),d];simp only[NL,FV,Jd];congr 2;have e:l.drop (k+1)=((l.take m).drop (k+1))++l.drop m:=by
  conv=>lhs;rw[<-Zd m l]
  grind
 exact e
def Z6{q:Nat}(h:0<=Bc l q):Bc (Fb l q) 0=(Fb l q).length:=by
 obtain⟨m,hs,b⟩:=mF l q h;have a:=Jjw _ _ _ hs;have e:Fb l q=(l.drop q).take m:=by
  rw[Fb,Am (by omega),b];simp only[NL];rw[rR];congr 1;omega
 have:=Jkr 1 _ m hs [];rw[Lj]at this;refine D2 ?_
 grind
def JrQ(a:0<=Bc l ((k+1:Nat):Int)):Bc ((6,0)::Fb l ((k+1:Nat):Int)) 0=((6,0)::Fb l ((k+1:Nat):Int)).length:=by
 have hp:Bc (Fb l ((k+1:Nat):Int)) 0=(Fb l ((k+1:Nat):Int)).length:=Z6 a;refine D2 ?_;rw[show(1:Nat)=0+1 from rfl,O6,Am (by rw[Jen];omega),Jen];have:=Ct hp
 grind
def Jtq{x:Nd}(h:Iw x op n)(a:op<=4):(op=1\/op=2\/op=3)/\7<=x.1/\x.1<=19/\7<=n/\n<=19\/op=4/\(x.1=1\/(x.1=2/\0<=n/\n<=1)):=by
 rcases h with h|h|h|h|h|h|h
 ·omega
 ·omega
 ·omega
 ·exact .inr h
 ·omega
 ·omega
 ·omega
def Jez(u:0<=Bc l k)(x:Nd)(o:l[k]? =some x)(h:Iw x op n)(p:op<=4):∃y,Gw l k x op n=l.set k y/\ar y=ar x/\((op<=3/\y=(n,x.2))\/(op=4/\y=(x.1,n))):=by
 obtain⟨v,f,_⟩:=wJ u;have i:l[k]=x:=(CV.1 o).2;rw[i]at f;rcases Jtq h p with⟨j,a,b,c,d⟩|⟨j,h⟩
 ·refine⟨(n,x.2),by unfold Gw;rw[Aw j],?_,.inl ⟨by omega,rfl⟩⟩;obtain⟨t,m⟩:=x;simp only at a b f;rcases JfQ (m:=m) a b with⟨e,rfl⟩|e
  ·rcases JfQ (m:=0) c d with⟨g,_⟩|g
   ·simp only;rw[e,g]
   ·exfalso;have:ar (n,0)≠-1:=by
     have s:EF n 0=(0,2):=by
      unfold EF
      grind
     unfold ar;simp only[s];rw[Am (by omega),Am (by omega)];omega
    exact this g
  ·omega
 ·refine⟨(x.1,n),by unfold Gw;grind,?_,.inr ⟨j,rfl⟩⟩
  obtain⟨t,m⟩:=x;simp only at h f;rcases h with rfl|⟨rfl,r,q⟩
  ·rw[RA,RA]
  ·rw[Jq6 r q];exact(CA (a:=1) (b:=0) rfl (by decide) f).symm
def QeR(g:0<=Bc l k)(x:Nd)(b:l[k]? =some x)(h:Iw x op n)(c:op<=4):Alike l (Gw l k x op n):=by
 obtain⟨y,e,d,_⟩:=Jez g x b h c;obtain⟨f,a⟩:=CV.1 b;rw[e];exact Juc l k y f (by rw[d,a])
def Ja1(D:Bc l 0=l.length)(c:0<=Bc l k)(x:Nd)(A:l[k]? =some x)(h:Iw x op n):Bc (Gw l k x op n) 0=(Gw l k x op n).length/\(Gw l k x op n).length<=l.length+1/\
  (∀j,j<k->(Gw l k x op n)[j]? =l[j]?)/\∀j:Nat,Bc l k<=j->j<l.length->l.length<=(Gw l k x op n).length+j/\(Gw l k x op n)[(Gw l k x op n).length+j-l.length]? =l[j]? :=by
 obtain⟨M,p,f⟩:=wJ c;have v:l[k]=x:=(CV.1 A).2;rw[v]at p f;have K:=PH l k c;by_cases C:op<=4
 ·obtain⟨y,g,B,N⟩:=Jez c x A h C;have s:=QeR c x A h C;refine⟨by rw[<-Jt1 s,D,s.len],by rw[g,Za];omega,fun j u=>by rw[g,Ee (by omega)],fun j u w=>⟨by rw[g,Za];omega,?_⟩⟩;rw[g,Za,Nat.add_sub_cancel_left,Ee (by omega)]
 ·have a:∀(q:Nat) (r:Ac Nd),0<=Bc l q->Bc l q<=Bc l k->k<=q->Bc r 0=r.length->r.length<=(Fb l q).length+1->Gw l k x op n=I5 l q r->Bc (Gw l k x op n) 0=(Gw l k x op n).length/\(Gw l k x op n).length<=l.length+1/\
    (∀j,j<k->(Gw l k x op n)[j]? =l[j]?)/\∀j:Nat,Bc l k<=j->j<l.length->l.length<=(Gw l k x op n).length+j/\(Gw l k x op n)[(Gw l k x op n).length+j-l.length]? =l[j]? :=by
   intro q r b L J H G e;have E:=Qdl (r:=r) b;have F:(Fb l q).length=(Bc l q).toNat-q:=by
    have g:=UA l q;have B:=PH l q b;rw[Fb,Am (by omega)];simp;omega
   have B:=PH l q b;rw[e];refine⟨Jxf D b H,by omega,fun j u=>JtI b j (by omega),fun j u w=>⟨by omega,?_⟩⟩;have:=JkI (r:=r) b j (by omega);rw[<-this];congr 1;omega
  have d:∀q:Nat,0<=Bc l q->1<=(Fb l q).length:=fun q b=>by
   have g:=UA l q;have B:=PH l q b;rw[Fb,Am (by omega)];simp;omega
  have o:(op=5\/(op=6/\(x.1=23\/x.1=24))\/(op=7/\x.1=25)):=by
   rcases h with h|h|h|h|h|h|h
   ·omega
   ·omega
   ·omega
   ·omega
   ·exact .inl h.1
   ·exact .inr (.inl ⟨h.1,h.2.1⟩)
   ·exact .inr (.inr h)
  rcases o with o|⟨o,ht⟩|⟨o,ht⟩
  ·refine a k [(26,0)] c (Ab _) (BQ _) (Jad Jy1) (by have:=d k c;simp) ?_;unfold Gw;rw[Am (by omega),Am (by omega),Aw o]
  ·have s:0<Fv l k:=by
    rw[f];obtain⟨t,m⟩:=x;simp only at ht p;rcases ht with rfl|rfl
    ·rw[Jex p];omega
    ·rw[JgM p];omega
   obtain⟨i,z,I⟩:=CK c s;refine a (k+1) _ i z (by omega) (JrQ i) (by simp) ?_;unfold Gw;rw[Am (by omega),Am (by omega),Am (by omega),Aw o];exact Js6 i
  ·have s:Fv l k=1:=by
    rw[f];obtain⟨t,m⟩:=x;simp only at ht p;subst ht;exact JjF p
   obtain⟨i,z,I⟩:=CK c (by omega);refine a (k+1) [(1,n)] i z (by omega) (Jad (RA n)) (by have:=d _ i;simp) ?_;unfold Gw;rw[Am (by omega),Am (by omega),Am (by omega),Am (by omega)]
end
def Ie(d:Dl):Ac D:=[AL d.path,iD d.op,iD d.n]
def Em(d:Dl):D:= .agg (Ie d)
def OW:Ac D->Af Dl
 |[a,b,c]=>(Hg a).bind fun p=>(Dz b).bind fun o=>(Dz c).map fun n=>⟨p,o,n⟩
 |_=>none
def BS:D->Af Dl
 | .agg cs=>OW cs
 |_=>none
@[simp] theorem JqL(d:Dl):BS (Em d)=some d:=by simp[BS,Em,Ie,OW]
def JiH{cs:Ac D}{d:Dl}(h:OW cs=some d):Gt cs (Ie d):=by
 unfold OW at h;split at h
 ·rename_i a b c;obtain⟨p,g,h⟩:=Bi.1 h;obtain⟨o,f,h⟩:=Bi.1 h;obtain⟨n,e,h⟩:=DV.1 h;subst h;exact .cons (Ua g) (.cons (BV.ok _ _ f) (.cons (BV.ok _ _ e) .nil))
 ·cases h
def Pj:EU Dl:=⟨Em,BS,JqL,fun d a h=>by
 unfold BS at h;split at h
 ·exact AY.agg (JiH h)
 ·cases h⟩
@[simp] theorem QfH(d:Dl):EC (Em d)=true:=rfl
@[simp] theorem Qhm(d:Dl):Fj (Ie d)=true:=rfl
@[simp] theorem Qhk(t:AQ)(d:Dl)(H:Ae):BA t (Em d) H=some (.hp H.length 0,H++[.cells t 3 [AL d.path,iD d.op,iD d.n]]):=rfl
def JqN(d:Dl):D.agg [AL d.path,iD d.op,iD d.n]=Em d:=rfl
def JhL(p:Pg):D.agg [iD p.params,AL p.vars,A8 p.body]=Be p:=rfl
structure LZ where
 p:Pg
 k:Int
 n:Int
 deriving DecidableEq,Inhabited
def lK(c:LZ):Ac D:=[iD c.p.params,AL c.p.vars,A8 c.p.body,iD c.k,iD c.n]
def DT(c:LZ):D:= .agg (lK c)
def Ln:Ac D->Af LZ
 |[a,b,c,d,e]=>(Dz a).bind fun m=>(Hg b).bind fun vs=>(Gv c).bind fun l=>(Dz d).bind fun k=>(Dz e).map fun n=>⟨⟨m,vs,l⟩,k,n⟩
 |_=>none
def Dg:D->Af LZ
 | .agg cs=>Ln cs
 |_=>none
@[simp] theorem Jwh(c:LZ):Dg (DT c)=some c:=by simp[Dg,DT,lK,Ln]
def Jz9{cs:Ac D}{c:LZ}(h:Ln cs=some c):Gt cs (lK c):=by
 unfold Ln at h;split at h
 ·rename_i a b x d e;obtain⟨m,j,h⟩:=Bi.1 h;obtain⟨vs,i,h⟩:=Bi.1 h;obtain⟨l,f,h⟩:=Bi.1 h;obtain⟨k,g,h⟩:=Bi.1 h;obtain⟨n,o,h⟩:=DV.1 h;subst h;exact .cons (BV.ok _ _ j) (.cons (Ua i) (.cons (T7 f) (.cons (BV.ok _ _ g) (.cons (BV.ok _ _ o) .nil))))
 ·cases h
def KI:EU LZ:=⟨DT,Dg,Jwh,fun d a h=>by
 unfold Dg at h;split at h
 ·exact AY.agg (Jz9 h)
 ·cases h⟩
@[simp] theorem QfC(c:LZ):EC (DT c)=true:=rfl
@[simp] theorem Qhu(c:LZ):Fj (lK c)=true:=rfl
@[simp] theorem Qhp(t:AQ)(c:LZ)(H:Ae):BA t (DT c) H=some (.hp H.length 0,H++[.cells t 5 [iD c.p.params,AL c.p.vars,A8 c.p.body,iD c.k,iD c.n]]):=rfl
def LV(c:LZ):D.agg [iD c.p.params,AL c.p.vars,A8 c.p.body,iD c.k,iD c.n]=DT c:=rfl
def Qeo(l:Ac Nd)(k:Nat)(x:Nd)(f:k<l.length):Ei (l.set k x)=(Ei l).take (2*k)++Cb x++(Ei l).drop (2*k+2):=by
 have d:Ei l=Ei (l.take k)++(Cb l[k]++Ei (l.drop (k+1))):=by
  have e:l=l.take k++(l[k]::l.drop (k+1)):=by simp
  have a:Ei (l[k]::l.drop (k+1))=Cb l[k]++Ei (l.drop (k+1)):=rfl
  conv=>lhs;rw[e]
  rw[hP,a]
 have g:(Ei (l.take k)).length=2*k:=by rw[Ur,eG];omega
 have c:(Ei l).take (2*k)=Ei (l.take k):=by grind
 have b:(Ei l).drop (2*k+2)=Ei (l.drop (k+1)):=by
  rw[d,<-FV];exact pK (by simp[g,Cb])
 rw[c,b,Ay,Aw f,hP];have a:Ei (x::l.drop (k+1))=Cb x++Ei (l.drop (k+1)):=rfl
 grind
def Ju0(H:Ae)(n:Nat)(t:AQ)(id:Nat)(l:Ac Nd)(h:H[id]? =some (.cells t 2 (Ei l))):Dh H (n+1) (.hs id l.length)=some (A8 l):=by
 simp only[Dh,h];rw[Aw (by rw[Ur];omega),Q4 (by rw[Ur];omega),Ja2,Dt,Rv];rfl
def Jto(H:Ae)(t:AQ)(id:Nat)(l:Ac Nd)(h:H[id]? =some (.cells t 2 (Ei l))):BB (some (.hs id l.length,H))=some (A8 l):=Ju0 H 8 t id l h
def tS(H:Ae)(l:Ac Nd):GV 2 H (A8 l)=some (Ei l):=by rfl
def JlR{t:AQ}{H:Ae}{B:Nat}{d:D}{l:Ac Nd}(x:Nd)(h:Buf t 2 H B d l.length (Ei l))(c:B<=H.length)(n:l.length<=1000000):
  ∃a H',D5 t 2 d (.hs H.length 1) (H++[.cells t 2 [iD x.1,iD x.2]])=some (a,H')/\Buf t 2 H' B a (l.length+1) (Ei (l++[x]))/\Kp B H H'/\H.length<=H'.length/\(∀k,k<H.length->(∀q,d≠ .hs k q)->H'[k]? =H[k]?):=by
 obtain⟨a,H',f,e,b,i,o⟩:=nN (new:=[iD x.1,iD x.2]) (h.app [.cells t 2 [iD x.1,iD x.2]]) (by omega) (m:=1) rfl rfl (by rw[Ur];simp;omega) (by simp;omega);refine⟨a,H',?_,?_,(Kp.app B H _ c).trans b,?_,fun k j g=> ?_⟩
 ·unfold D5;have:GV 2 (H++[.cells t 2 [iD x.1,iD x.2]]) (.hs H.length 1)=some [iD x.1,iD x.2]:=by simp[GV]
  rw[this];exact f
 ·rw[hP];exact e
 ·have:=b.1;simp at this;omega
 grind
def Hc{P:Aj}{T:Tab}{kp:Ac Nat}{fn:Func}{li:Nat}(a:Nat->Ac D->Ae->Prop)(Q:Lv×Ac D×Ae->Prop)(k n:Nat)
  (b:∀j s H,j<k->a j s H->∃s' H',BK P T kp n fn li s H=some (.normal,s',H')/\a (j+1) s' H') (c:∀s H,a k s H->∃r,BK P T kp n fn li s H=some r/\r.1≠ .normal/\Q r) (g:k<n) {s:Ac D} {H:Ae} (h:a 0 s H):
  ∃r,BZ P T kp n fn li s H=some r/\Q r:=by
 have key:∀(m i:Nat) (s:Ac D) (H:Ae),i+m=k->a i s H->∀q,m<q->∃r,DY (BK P T kp n fn li) q s H=some r/\Q r:=by
  intro m
  induction m with
  |zero=>
   intro i s H l e q f;obtain⟨q,rfl⟩:∃x,q=x+1:=⟨q-1,by omega⟩;obtain rfl:i=k:=by omega
   obtain⟨⟨u,s',H'⟩,d,p,o⟩:=c s H e;refine⟨_,?_,o⟩;simp only[DY,d]
   grind
  |succ m t=>
   intro i s H l e q f;obtain⟨q,rfl⟩:∃x,q=x+1:=⟨q-1,by omega⟩;obtain⟨s',H',d,p⟩:=b i s H (by omega) e;rw[IQ d]
   grind
 exact key k 0 s H (by omega) h n g
def eO(t:AQ)(x:Nd)(H:Ae):DI t 2 1 [iD 0,iD 0] [(0,.agg (Cb x))] H=some (.hs H.length 1,H++[.cells t 2 [iD x.1,iD x.2]]):=rfl
def ZV(t:AQ)(H:Ae):BX t [iD 0,iD 0] H=some (.hp H.length 0,H++[.cells t 2 [iD 0,iD 0]]):=rfl
def JaA(H:Ae)(i:Nat)(t:AQ)(a b:D)(x:Nd)(h:H[i]? =some (.cells t 2 [a,b])):Bh 2 (.hp i 0) (.agg (Cb x)) H=some (.v undef,H.set i (.cells t 2 (Cb x))):=by
 simp[Bh,FI,h,Cb,D7]
def sW(a b:Int):CY [(0,1),(1,1)] [iD 0,iD 0] [(0,iD a),(1,iD b)]=some (.agg (Cb (a,b))):=rfl
def JmN(a:Int):CY [(0,1),(1,1)] [iD 0,iD 0] [(0,iD a)]=some (.agg (Cb (a,0))):=rfl
section
variable {α β γ δ : Type} {A : EU α} {B : EU β} {C : EU γ} {E : EU δ}
end
def EH(L:Ac Dl):D:= .sl 3 (L.map Ie)
def C2:D->Af (Ac Dl)
 | .sl _ els=>els.mapM OW
 | .v (.slice none 0 0)=>some []
 |_=>none
@[simp] theorem JpT(d:Dl):OW (Ie d)=some d:=by simp[Ie,OW]
@[simp] theorem Qd9(L:Ac Dl):C2 (EH L)=some L:=nA Ie OW (fun x=>JpT x) L
inductive Vj:List (List D)->List (List D)->Prop
 |nil:Vj [] []
 |cons {a b:List D} {r s:List (List D)} (h:Gt a b) (k:Vj r s):Vj (a::r) (b::s)
theorem Gt.len:∀{a b:Ac D},Gt a b->a.length=b.length
 |_,_,.nil=>rfl
 |_,_,.cons _ k=>by simp[Gt.len k]
theorem Vj.len:∀{a b:Ac (Ac D)},Vj a b->a.length=b.length
 |_,_,.nil=>rfl
 |_,_,.cons _ k=>by simp[Vj.len k]
theorem Jcj{S:Nat->Prop}{L:Ac (Nat×Nat)}{w:AA}{b:Nat}:∀{cs ds:Ac D} {o:Nat},Gt cs ds->Eg S L w b o cs->Eg S L w b o ds
 |_,_,o,.nil,h=>h
 |_,_,o,.cons h k,q=>by
  simp only[Eg]at q⊢;obtain⟨⟨x,a,d⟩,c⟩:=q;exact⟨⟨x,a,h _ _ _ _ d⟩,Jcj k c⟩
theorem Jby{S:Nat->Prop}{L:Ac (Nat×Nat)}{w:AA}{b sz:Nat}:∀{cs ds:Ac (Ac D)} {o:Nat},Vj cs ds->EM S L w b o sz cs->EM S L w b o sz ds
 |_,_,o,.nil,h=>h
 |_,_,o,.cons h k,q=>by
  simp only[EM]at q⊢;obtain⟨a,d,c⟩:=q;exact⟨by rw[<-h.len];exact a,Jcj h d,Jby k c⟩
def AY.slE(s sz:Nat){els a:Ac (Ac D)}(h:Vj els a)(hs:∀e∈els,e.length=s->s=sz):AY (.sl s els) (.sl sz a):=by
 intro S L w x g;have c:=AY.sl s sz els hs S L w x g;simp only[Rep]at c⊢;rcases c with⟨c,d⟩|⟨b,o,cap,c,d,f,i,j⟩
 ·subst c;cases h
  grind
 ·rw[h.len]at c d f;exact .inr ⟨b,o,cap,c,d,f,i,Jby h j⟩
theorem JjY:∀(els:Ac (Ac D)) (L:Ac Dl),els.mapM OW=some L->Vj els (L.map Ie)/\∀e∈els,e.length=3
 |[],L,h=>by simp at h;subst h;exact⟨.nil,fun e i=>by cases i⟩
 |e::r,L,h=>by
  simp only[FZ,eQ,Zb]at h;cases c:OW e with
  |none=>rw[c]at h;cases h
  |some a=>
   cases d:r.mapM OW with
   |none=>grind
   |some t=>
    rw[c,d]at h;cases h;obtain⟨j,g⟩:=JjY r t d;have f:=JiH c;refine⟨.cons f j,fun x b=> ?_⟩;rcases FY.1 b with rfl|b
    ·rw[f.len];rfl
    ·exact g x b
def Jxb{d:D}{L:Ac Dl}(h:C2 d=some L):AY d (EH L):=by
 unfold C2 at h;split at h
 ·rename_i s els;obtain⟨b,a⟩:=JjY els L h;exact AY.slE s 3 b fun e c f=>by rw[<-f,a e c]
 ·cases h;exact AY.nil 3
 ·cases h
def JcA:EU (Ac Dl):=⟨EH,C2,Qd9,fun d a h=>Jxb h⟩
@[simp] theorem Qgu(L:Ac Dl):EC (EH L)=true:=rfl
@[simp] theorem QgB(L:Ac Dl):Df (EH L)=true:=rfl
@[simp] theorem JcW(L:Ac Dl):Bq .sl (EH L)=some (iD L.length):=by simp[Bq,OT,EH]
@[simp] theorem Qgj(L:Ac Dl):IU 3 (EH L)=some (L.map Ie):=by simp[IU,EH]
def Jjq(L:Ac Dl)(i:Nat)(h:i<L.length):BG 3 (EH L) (iD i)=some (.ptr (Ie L[i])):=by
 have:BG 3 (EH L) (iD i)=Si 3 (EH L) (iD i):=rfl;rw[this];simp[Si,h]
def JcN(H:Ae)(d:Dl):Ai (some 3) H (.ptr (Ie d))=some (Em d):=rfl
def T9{B:Nat}{S:Nat->Prop}{L:Ac (Nat×Nat)}{w:AA}{H:Ae}(l:BD B S L w H){e:AQ}{sz n:Nat}{cs:Ac D}{els:Ac (Ac D)}{d:D}(s:0<sz)(C:Buf e sz H 0 d n cs)(h:els.length=n)(u:∀e∈els,e.length=sz)
  (a:∀xs,Au S L w xs cs->Au (fun k=>B<=k/\k<w.heap.size) [] w xs els.flatten) {v:Ap} (g:Rep S L w v d):Rep (fun k=>B<=k/\k<w.heap.size) [] w v (.sl sz els):=by
 rcases C with⟨rfl,t,_⟩|⟨r,t,rfl,i,F⟩
 ·have:els=[]:=NK.1 (by omega);subst this;simp only[Rep]at g;subst g;simp only[Rep]
  grind
 ·simp only[Rep]at g;obtain⟨b,c,m,y,rfl⟩:=g;obtain⟨arr,A,G,J,K,q⟩:=SE l i m;obtain⟨z,o,I⟩:=l.lt i m;by_cases p:els=[]
  ·subst p;simp only[Hf]at h;subst h;simp only[Rep]
   grind
  ·have f:0<els.length:=by grind
   simp only[Rep];refine .inr ⟨b,0,c,by rw[h],f,by omega,⟨z,o⟩,?_⟩;refine EM.of u ?_;refine Eg.of (a _ q) fun j x E=> ?_;rw[EE,KZ A]
   grind
def Qeu{P:Aj}{f:CG}{G:GT}{F:Ac D->Af D}(c:BN P f G)
  (h:∀ds d,F ds=some d->∃(sz n:Nat) (cs:Ac D) (els:Ac (Ac D)) (a:Ac D) (b:D) (H':Ae) (e:AQ),d= .sl sz els/\Gt ds a/\G a []=some (b,H')/\Buf e sz H' 0 b n cs/\0<sz/\els.length=n/\(∀e∈els,e.length=sz)/\
   ∀(S q:Nat->Prop) (L:Ac (Nat×Nat)) (w:AA) (xs:Ac Ap),Au S L w xs cs->Au q [] w xs els.flatten):Hr P f F:=by
 refine⟨c.body,fun ds d o S vs w r i=> ?_⟩;obtain⟨sz,n,cs,els,a,b,H',e,rfl,m,x,A,l,z,t,j⟩:=h ds d o;refine(c.calls a [] b H' x w.heap.size S [] vs w (bM S w r) (m.rep i)).mono ?_;rintro e p ⟨v,u,B,rfl,y,g,k⟩;exact⟨v,rfl,T9 g l A z t (fun xs s=>j u _ B p xs s) y,k.below⟩
end Go.Proofs.YtapdelkomkpgmaaGreatDoor
