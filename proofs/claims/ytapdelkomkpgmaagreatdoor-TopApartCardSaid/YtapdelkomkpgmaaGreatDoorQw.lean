import Derived.Test.YtapdelkomkpgmaaGreatDoorQv
namespace Go.Proofs.YtapdelkomkpgmaaGreatDoor
open Go.Proofs.Tryz
open Go.RowKit
set_option maxRecDepth 100000
set_option linter.all false
def JtZ{α:Type}{l:Ac α}{i:Nat}{x:α}(h:l[i]? =some x):l.set i x=l:=by
 apply PU
 grind
def Jwj{γ:Nat->Nat}(H:Ae)(R:Nat)(p:Pg)(a:D)(t:Ac (Ac Int))(f:Int)(al:Ac Dl)(n:Int)(o:Int×Int×Int)(b dm:D)(h:At γ 0 R (.cells 138 12 (FN p a f al n o b dm)) H)(ht:bW γ a t H)(j:xW p t f)
  (k:o=(0,0,0)\/(o=(1,0,0)/\b=A8 (FH p t f))):
  Ot 147 (Y6 Aa) [.hp R 7,.clo (.func 147) [.hp R 0] []] H=some (.tup [],H.set R (.cells 138 12 (FN p a f al n (1,0,0) (A8 (FH p t f)) dm))):=by
 unfold Ot;simp only[Bv,h.2];rcases k with rfl|⟨rfl,rfl⟩
 ·have i:=h.put (.cells 138 12 (FN p a f al n (0,1,0) b dm));have d:=DZ.put h (.cells 138 12 (FN p a f al n (0,1,0) b dm));have c:=ht.stay (d.toL (cs:=[0]) (by simp)) (by simp) (by simp);have g:Y6 Aa [.hp R 0] (H.set R (.cells 138 12 ((FN p a f al n (0,0,0) b dm).set (7+1) (.v (.int .i32 1)))))=some (.tup [],H.set R (.cells 138 12 (FN p a f al n (0,1,0) (A8 (FH p t f)) dm))):=by
   have:=Jnu (γ:=γ) (H.set R (.cells 138 12 (FN p a f al n (0,1,0) b dm))) R p a t f al n (0,1,0) b dm i.2 c j;rw[Nb]at this;exact this
  have e:=Jf3 (Gf:=Y6 Aa) (b:=R) (off:=7) (x:= .hp R 0) (H:=H) h.2 rfl rfl g (Hw h.lt) (y:= .int .u32 0) rfl rfl;rw[Nb,Nb]at e;exact e
 ·show some (D.tup [],H)=_;rw[JtZ h.2]
def vV(P:Aj):GT:=CO P (IB P) Jit 0 69
def Jm1:BN Aa 69 (vV Aa):=CQ C4 AX func69
def Qcw(l:Ac Dl):eqB (EH l) (EH l)=true:=by
 have:OX (l.map Ie) (l.map Ie)=true:=by
  induction l with
  |nil=>rfl
  |cons a r b=>simp[OX,Ie,b]
 simp[EH,eqB,this]
def Xe(d:D):Prop:=eqB d d=true
def Jkj{p:Pg}{a:D}{f:Int}{al:Ac Dl}{n:Int}{o:Int×Int×Int}{b dm:D}(e:Xe a)(d:Xe b)(c:Xe dm):Gy (FN p a f al n o b dm) (FN p a f al n o b dm)=true:=by
 unfold Xe at e d c;simp[FN,e,d,c,Qcw]
def Ff.slf{γ:Nat->Nat}{c sz n:Nat}{e:AQ}{d:D}{cs:Ac D}{H:Ae}(h:Ff γ c e sz d n cs H):Xe d:=by
 obtain⟨a,⟨rfl,e⟩|⟨i,rfl,b⟩⟩:=h<;>simp[Xe]
def Jp5(l:Ac Dl):Bq .sl (EH l)=some (iD l.length):=by simp[Bq,OT,EH]
def Jde(H:Ae)(R:Nat){p:Pg}{a:D}{f:Int}{al:Ac Dl}{n:Nat}{o:Int×Int×Int}{b dm:D}(h:H[R]? =some (.cells 138 12 (FN p a f al n o b dm)))(j:n<=al.length)(q:al.length<=1000000)(hs:Gy (FN p a f al n o b dm) (FN p a f al n o b dm)=true):
  vV Aa [.hp R 0] H=some (iD ((al.length-n:Nat):Int),H):=by
 rw[vV,CJ func69,Juf];have c:Ag .ptr .eql (.hp R 0) Ic=some (bD false):=rfl;have l:Dj (.hp R 0)=some (.hp R 0):=rfl;have i:AP 0 (.hp R 0)=some (.hp R 0):=rfl;have m:AP 5 (.hp R 0)=some (.hp R 5):=by simp
 have e:=D6 H R 5 _ _ _ (EH al) h rfl;have d:=Jfq H R _ n h rfl;have g:∀k:Af (D×Ae),Eb (.hp R 5) (some H) (some H) k=k:=fun k=>Pe R 5 _ _ _ _ _ k h rfl hs;simp only[c,AU,Bd,BF,BC,l,i,m,e,Jp5,d,A7,XR _ _ j (by omega),g]
def TV(d:Dl)(b:Nd)(r:Rn)(i:Nat)(best:Mu):Mu×Bool:=
 if LW b (r.k,r.v)=0 then(best,false)else if LW b (r.k,r.v)=2/\best.v=2 then(best,false)else(⟨d,LW b (r.k,r.v),i,r.k,r.v,Tv r⟩,decide (LW b (r.k,r.v)=1))
def Yp(d:Dl):Ac (Nd×Rn)->Nat->Mu->Mu
 |[],_,best=>best
 |(b,r)::l,i,best=>if(TV d b r i best).2 then(TV d b r i best).1 else Yp d l (i+1) (TV d b r i best).1
def rn0:Rn:=⟨0,0,0,[]⟩
def RJ(q:Pg)(a:Ac Int)(f:Int):Rn:=if JC q a f=0 then(RY q a f).getD rn0 else rn0
structure wX(q:Pg)(t:List (List Int))(f:Int)(rs:List Rn):Prop where
 len:rs.length=t.length
 one:∀j (h:j<t.length) (h':j<rs.length),(JC q t[j] f=0->(RY q t[j] f).isSome)/\rs[j]=RJ q t[j] f/\Ri rs[j]=true
 small:q.body.length<=3000000
def JwQ{γ:Nat->Nat}{H:Ae}{c:D}{l:Ac Int}(h:Ff γ 2 3 1 c l.length (BP l) H){q:Pg}{f:Int}{r:Rn}(o:JC q l f=0->(RY q l f).isSome)(i:r=RJ q l f)(n:q.body.length<=3000000):
  DX Xu [Be q,c,iD f] H=some (.tup [.agg (Dn r),iD (JC q l f)],H):=by
 obtain⟨a,e,j⟩:=h.intsN 8;have g:Xu [Be q,a,iD f]=some (.tup [.agg (Dn r),iD (JC q l f)]):=by
  show F3 Ef OY BV _ [Ef.enc q,a,BV.enc f]=_;have b:OY.dec a=some l:=j;simp only[F3,Ef.back,BV.back,b,BR];rw[Aw n,i,RJ];by_cases d:JC q l f=0
  ·obtain⟨p,m⟩:=Y9.1 (o d)
   grind
  ·rw[Am d,Am d];rfl
 cases hp:Fj [Be q,c,iD f]with
 |true=>
  have k:EC c=true:=by simp_all
  have:a=c:=by have:=Ji H 9 c k;rw[e]at this;cases this;rfl
  subst this;rw[V9 _ _ _ hp,g];rfl
 |false=>
  rw[KM _ _ [Be q,a,iD f] _ hp (by simp only[FZ,VI,e,Ji H 9 (Be q) rfl,Ji H 9 (iD f) rfl];rfl),g];rfl
structure JI(γ:Nat->Nat)(R a b c e:Nat)(cs:List D)(dt:D)(t:List (List Int))(q:Pg)(d:Dl)(z:List D)(best:Mu)(H:Ae):Prop where
 run:At γ 0 R (.cells 138 12 cs) H
 ts:bW γ dt t H
 del:At γ 10 a (.cells 103 3 (Ie d)) H
 res:At γ 11 b (.cells 107 8 z) H
 bst:At γ 12 c (.cells 107 8 (BL best)) H
 prg:At γ 13 e (.cells 25 3 (DW q)) H
def JI.stay{γ γ':Nat->Nat}{R a b c e:Nat}{cs:Ac D}{f:D}{t:Ac (Ac Int)}{q:Pg}{d:Dl}{z:Ac D}{best:Mu}{H H':Ae}(h:JI γ R a b c e cs f t q d z best H)(hs:Fg γ γ' [9] H H'):JI γ' R a b c e cs f t q d z best H':=
 ⟨hs.2 _ _ _ (by simp) h.run,h.ts.stay hs (by simp) (by simp),hs.2 _ _ _ (by simp) h.del,hs.2 _ _ _ (by simp) h.res,hs.2 _ _ _ (by simp) h.bst,hs.2 _ _ _ (by simp) h.prg⟩
def JI.best{γ:Nat->Nat}{R a b c e:Nat}{cs:Ac D}{f:D}{t:Ac (Ac Int)}{q:Pg}{d:Dl}{z:Ac D}{best:Mu}{H:Ae}(h:JI γ R a b c e cs f t q d z best H)(m:Mu):JI γ R a b c e cs f t q d z m (H.set c (.cells 107 8 (BL m)))/\Fg γ γ [12] H (H.set c (.cells 107 8 (BL m))):=by
 have hs:=(DZ.put h.bst (.cells 107 8 (BL m))).toL (cs:=[12]) (by simp);exact⟨⟨hs.2 _ _ _ (by simp) h.run,h.ts.stay hs (by simp) (by simp),hs.2 _ _ _ (by simp) h.del,hs.2 _ _ _ (by simp) h.res,h.bst.put _,hs.2 _ _ _ (by simp) h.prg⟩,hs⟩
def Ju7(a b:Nd):LW a b=0\/LW a b=1\/LW a b=2:=by
 unfold LW;omega
def Sk(a b:Int):Ag .int .eql (iD a) (iD b)=some (bD (decide (a=b))):=by
 rw[Nk];congr 2
def JrW{γ:Nat->Nat}{R a b c e:Nat}{p:Pg}{o:D}{f:Int}{al:Ac Dl}{n:Int}{bs:Ac Nd}{dm:D}{t:Ac (Ac Int)}{q:Pg}{d:Dl}{z:Ac D}{best:Mu}{H:Ae}{rs:Ac Rn}(x:wX q t f rs)(aa:bs.length=t.length)(m:Nat)
  (h:JI γ R a b c e (FN p o f al n (1,0,0) (A8 bs) dm) o t q d z best H) (j:Nat) (y:j<t.length) (hm:t.length<=1000000):
  ∃γ' H',JI γ' R a b c e (FN p o f al n (1,0,0) (A8 bs) dm) o t q d z (TV d (bs[j]'(by omega)) (rs[j]'(by rw[x.len];exact y)) j best).1 H'/\Fg γ γ' [9,12] H H'/\
   BK Aa (IB Aa) aS m f70 0 [.hp R 0,.hp a 0,.hp b 0,.hp c 0,.hp e 0,o,iD t.length,iD j] H=
    some (if(TV d (bs[j]'(by omega)) (rs[j]'(by rw[x.len];exact y)) j best).2 then(.exit 0,[.hp R 0,.hp a 0,.hp b 0,.hp c 0,.hp e 0,o,iD t.length,iD j],H')else(.normal,[.hp R 0,.hp a 0,.hp b 0,.hp c 0,.hp e 0,o,iD t.length,iD ((j+1:Nat):Int)],H')):=by
 have C:j<bs.length:=by omega
 have L:j<rs.length:=by rw[x.len];exact y
 obtain⟨r1,T,r3⟩:=x.one j y L;obtain⟨pp,cc,i1,W,i3⟩:=h.ts.at j y;have lp:=pX h.prg.2;have n0:Dj (.hp R 0)=some (.hp R 0):=rfl;have f0:∀k,AP 0 (.hp k 0)=some (.hp k 0):=fun _=>rfl;have f4:AP 4 (.hp R 0)=some (.hp R 4):=by simp
 have F:AP 10 (.hp R 0)=some (.hp R 10):=by simp
 have l4:=D6 H R 4 _ _ _ (iD f) h.run.2 rfl;have U:=JwQ i3 r1 T x.small;have E:=Oi bs j C;generalize JC q t[j] f=ec at*;generalize rs[j]=r at*;generalize bs[j]=l at*;have x0:∀e,DN (.tup [.agg (Dn r),iD e]) 0=some (.agg (Dn r)):=fun _=>rfl;have x1:∀e,DN (.tup [.agg (Dn r),iD e]) 1=some (iD e):=fun _=>rfl;have J:BX 237 [iD 0,iD 0,iD 0,Aq] H=some (.hp H.length 0,H++[.cells 237 4 [iD 0,iD 0,iD 0,Aq]]):=rfl;have Q:=WD r H;have i:=(DZ.app γ 9 H [.cells 237 4 (Dn r)]).toL (cs:=[9]) (by simp);have u:=h.stay i;have O:=Hz H (.cells 237 4 (Dn r));generalize H++[HO.cells 237 4 (Dn r)]=g at*;generalize FB γ H.length 9=γ1 at*;have I:=D6 g R 10 _ _ _ (A8 bs) u.run.2 rfl;have lb:Ai (some 2) g (.ptr (Cb l))=some (SB l):=rfl;have S:Ai (some 2) g (.hp H.length 0)=some (SB (r.k,r.v)):=by rw[Es,O];rfl
 have B:Ai (some 4) g (.hp H.length 0)=some (.agg (Dn r)):=by rw[Es,O];rfl
 have X:=JuI l (r.k,r.v) g;have ld:Ai (some 3) g (.hp a 0)=some (Em d):=by rw[Es,u.del.2];rfl
 have Z:AP 3 (.hp c 0)=some (.hp c 3):=by simp
 have lv:=D6 g c 3 _ _ _ (iD best.v) u.bst.2 rfl;have w:=Jn2 r r3 g;have N:∀v:Int,CY [(0,3),(3,1),(4,1),(5,2),(7,1)] [Aq,(iD 0),(iD 0),(iD 0),(iD 0),(iD 0),(iD 0),CS] [(0,Em d),(1,iD v),(2,iD j),(3,SB (r.k,r.v)),(4,sD (Tv r))]=some (.agg (BL ⟨d,v,j,r.k,r.v,Tv r⟩)):=fun v=>rfl;have st:∀v:Int,Bh 8 (.hp c 0) (.agg (BL ⟨d,v,j,r.k,r.v,Tv r⟩)) g=some (.v undef,g.set c (.cells 107 8 (BL ⟨d,v,j,r.k,r.v,Tv r⟩))):=fun v=>KG u.bst.2 rfl rfl (mD _);have nx:=G5 j (by omega);have s:((j+1:Nat):Int)=(j:Int)+1:=by omega
 have Y:Ag .int .lss (iD j) (iD t.length)=some (bD true):=G6 (by omega);rw[Jgh];unfold Eo Dx AV Ce Dw;simp only[Y,AU,Bd,Bv,i1,W,lp,n0,f0,f4,l4,U,A7,x0,x1,J,Q,F,I,E,lb,S,X,Sk];unfold TV;by_cases M:LW l (r.k,r.v)=0
 ·refine⟨γ1,g,?_,i.mono (by simp),?_⟩
  ·grind
  simp_all
 ·simp only[M,decide_false,BF,BC];by_cases P:LW l (r.k,r.v)=2
  ·simp only[P,decide_true,Bv,Z,AU,lv,Sk,Bd,pU];by_cases V:best.v=2
   ·refine⟨γ1,g,?_,i.mono (by simp),?_⟩
    ·grind
    simp_all
   ·obtain⟨k1,G⟩:=u.best ⟨d,2,j,r.k,r.v,Tv r⟩;refine⟨γ1,_,?_,(i.mono (by simp)).trans (G.mono (by simp)),?_⟩
    ·grind
    ·have K:¬((2:Int)=1):=by decide
     simp only[V,decide_false,BF,BC,ld,B,w,N,st,AU,A7,K,nx,s]
  ·have h1:LW l (r.k,r.v)=1:=(Ju7 l (r.k,r.v)).elim (fun h=>absurd h M) fun h=>h.elim id fun h=>absurd h P;obtain⟨k1,G⟩:=u.best ⟨d,1,j,r.k,r.v,Tv r⟩;refine⟨γ1,_,?_,(i.mono (by simp)).trans (G.mono (by simp)),?_⟩
   ·grind
   ·simp[h1,ld,B,w,N,st]
def aY{step:Ac D->Ae->Af (Lv×Ac D×Ae)}{n:Nat}{s:Ac D}{H:Ae}{r:Lv×Ac D×Ae}(h:step s H=some r)(a:r.1≠ .normal):DY step (n+1) s H=some r:=by
 unfold DY
 grind
theorem Jaj{R a b c e:Nat}{p:Pg}{i:D}{f:Int}{al:Ac Dl}{n:Int}{bs:Ac Nd}{dm:D}{t:Ac (Ac Int)}{q:Pg}{d:Dl}{z:Ac D}{rs:Ac Rn}(o:wX q t f rs)(g:bs.length=t.length)(m:Nat)(y:t.length<=1000000):
  ∀(k j:Nat) (γ:Nat->Nat) (best:Mu) (H:Ae) (fl:Nat),j+k=t.length->k<fl->JI γ R a b c e (FN p i f al n (1,0,0) (A8 bs) dm) i t q d z best H->
  ∃γ' H' s,DY (BK Aa (IB Aa) aS m f70 0) fl [.hp R 0,.hp a 0,.hp b 0,.hp c 0,.hp e 0,i,iD t.length,iD j] H=
    some (.exit 0,[.hp R 0,.hp a 0,.hp b 0,.hp c 0,.hp e 0,i,iD t.length,s],H')/\JI γ' R a b c e (FN p i f al n (1,0,0) (A8 bs) dm) i t q d z (Yp d ((bs.zip rs).drop j) j best) H'/\Fg γ γ' [9,12] H H'
 |0,j,γ,best,H,fl,G,K,h=>by
  obtain⟨fl,rfl⟩:∃x,fl=x+1:=⟨fl-1,by omega⟩;refine⟨γ,H,iD j,aY ?_ (by intro e;cases e),?_,Fg.refl _ _ _⟩
  ·rw[Jgh];unfold Eo Dx AV Ce Dw;simp only[Me (show¬(j:Int)<t.length by omega),AU,Bd,BF,BC]
  ·rw[rK (by simp[g,o.len];omega)];exact h
 |k+1,j,γ,best,H,fl,G,K,h=>by
  obtain⟨fl,rfl⟩:∃x,fl=x+1:=⟨fl-1,by omega⟩;have l:j<t.length:=by omega
  have E:j<bs.length:=by omega
  have M:j<rs.length:=by rw[o.len];exact l
  obtain⟨γ1,w,B,u,r⟩:=JrW o g m h j l y;have F:(bs.zip rs).drop j=(bs[j],rs[j])::(bs.zip rs).drop (j+1):=by
   rw[QW (by simp;omega),List.getElem_zip]
  rw[F];simp only[Yp];cases v:(TV d bs[j] rs[j] j best).2 with
  |true=>
   rw[v]at r;refine⟨γ1,w,iD j,aY r (by intro e;cases e),by simpa using B,u⟩
  |false=>
   rw[v]at r;obtain⟨γ2,L,s,J,C,I⟩:=Jaj o g m y k (j+1) γ1 _ w fl (by omega) (by omega) B;refine⟨γ2,L,s,?_,by simpa using C,u.trans I⟩;rw[IQ (by simpa using r)];exact J
def zJ(P:Aj):GT:=CO P (IB P) aS 1000 70
def Jtk:BN Aa 70 (zJ Aa):=CQ C4 AX func70
def Tm(d:Dl):Mu:=⟨d,0,-1,0,0,[]⟩
def Ul(bs:Ac Nd)(rs:Ac Rn)(d:Dl):Mu:=Yp d (bs.zip rs) 0 (Tm d)
def JG:Ac D:=[Aq,(iD 0),(iD 0),(iD 0),(iD 0),(iD 0),(iD 0),CS]
def At.dm{γ:Nat->Nat}{c i:Nat}{o:HO}{H:Ae}(h:At γ c i o H){γ':Nat->Nat}{l:Ac Nat}{H':Ae}(hs:Fg γ γ' l H H')(a:c∉l):At γ' c i o H':=hs.2 _ _ _ a h
def Jna{γ:Nat->Nat}{R:Nat}{p:Pg}{j:D}{t:Ac (Ac Int)}{f:Int}{al:Ac Dl}{n:Int}{o:Int×Int×Int}{b dm:D}{H:Ae}{d:Dl}{rs:Ac Rn}(h:At γ 0 R (.cells 138 12 (FN p j f al n o b dm)) H)(ht:bW γ j t H)(M:xW p t f)
  (ho:o=(0,0,0)\/(o=(1,0,0)/\b=A8 (FH p t f))) (hd:aW p d) (hr:wX (F7 p d).1 t f rs):
  ∃γ' H',zJ Aa [.hp R 0,Em d] H=some (FX (Ul (FH p t f) rs d),H')/\At γ' 0 R (.cells 138 12 (FN p j f al n (1,0,0) (A8 (FH p t f)) dm)) H'/\Fg γ γ' [0,9,10,11,12,13] H H':=by
 have b0:BA 103 (Em d) H=some (.hp H.length 0,H++[.cells 103 3 (Ie d)]):=rfl;have X:=(DZ.app γ 10 H [.cells 103 3 (Ie d)]).toL (cs:=[10]) (by simp);have a1:=At.new γ 10 (.cells 103 3 (Ie d)) H;generalize ab:FB γ H.length 10=γ1 at*;generalize ha:H.length=a at*;generalize H++[HO.cells 103 3 (Ie d)]=k at*;have b1:BX 107 JG k=some (.hp k.length 0,k++[.cells 107 8 JG]):=rfl;have T:=(DZ.app γ1 11 k [.cells 107 8 JG]).toL (cs:=[11]) (by simp);have a2:=At.new γ1 11 (.cells 107 8 JG) k;generalize FB γ1 k.length 11=γ2 at*;generalize aa:k.length=v at*;generalize k++[HO.cells 107 8 JG]=V at*;have r:=(X.mono (ds:=[10,11]) (by simp)).trans (T.mono (by simp));have J:=h.dm r (by simp);have x:=ht.stay r (by simp) (by simp);have e3:=Jwj V R p j t f al n o b dm J x M ho;have z:=(DZ.put J (.cells 138 12 (FN p j f al n (1,0,0) (A8 (FH p t f)) dm))).toL (cs:=[0]) (by simp);have a3:=J.put (.cells 138 12 (FN p j f al n (1,0,0) (A8 (FH p t f)) dm));generalize V.set R (HO.cells 138 12 (FN p j f al n (1,0,0) (A8 (FH p t f)) dm))=i at*;have U:=(a1.dm T (by simp)).dm z (by simp);have r3:=a2.dm z (by simp);have Q:=x.stay z (by simp) (by simp);have l3:Ai (some 3) i (.hp a 0)=some (Em d):=by rw[Es,U.2];rfl
 have bu:CY [(0,3),(3,1),(4,1),(5,2),(7,1)] JG [(0,Em d),(2,iD (-1))]=some (.agg (BL (Tm d))):=rfl;have b4:BX 107 JG i=some (.hp i.length 0,i++[.cells 107 8 JG]):=rfl;have N:Bh 8 (.hp i.length 0) (.agg (BL (Tm d))) (i++[.cells 107 8 JG])=some (.v undef,i++[.cells 107 8 (BL (Tm d))]):=by
  rw[KG (n:=8) (cs:=JG) (ds:=BL (Tm d)) (Hz i _) rfl rfl rfl,NP]
 have y:=(DZ.app γ2 12 i [.cells 107 8 (BL (Tm d))]).toL (cs:=[12]) (by simp);have a4:=At.new γ2 12 (.cells 107 8 (BL (Tm d))) i;generalize FB γ2 i.length 12=γ4 at*;generalize i.length=c at*;generalize i++[HO.cells 107 8 (BL (Tm d))]=g at*;have n0:Dj (.hp R 0)=some (.hp R 0):=rfl;have f0:AP 0 (.hp R 0)=some (.hp R 0):=rfl;have f7:AP 7 (.hp R 0)=some (.hp R 7):=by simp
 have Z:AP 3 (.hp R 0)=some (.hp R 3):=by simp
 have m:=a3.dm y (by simp);have W:=U.dm y (by simp);have r4:=r3.dm y (by simp);have L:=Q.stay y (by simp) (by simp);have F:Ai (some 3) g (.hp R 0)=some (Be p):=by rw[Es,m.2];rfl
 have G:Ai (some 3) g (.hp a 0)=some (Em d):=by rw[Es,W.2];rfl
 have em:=Qb9 p d hd g;have x0:DN (.tup [Be (F7 p d).1,iD (F7 p d).2]) 0=some (Be (F7 p d).1):=rfl;have x1:DN (.tup [Be (F7 p d).1,iD (F7 p d).2]) 1=some (iD (F7 p d).2):=rfl;have b5:BX 25 [(iD 0),Aq,Aq] g=some (.hp g.length 0,g++[.cells 25 3 [(iD 0),Aq,Aq]]):=rfl;generalize hq:(F7 p d).1=q at*;have K:Bh 3 (.hp g.length 0) (Be q) (g++[.cells 25 3 [(iD 0),Aq,Aq]])=some (.v undef,g++[.cells 25 3 (DW q)]):=by
  show Bh 3 _ (.agg (DW q)) _=_;rw[KG (n:=3) (cs:=[(iD 0),Aq,Aq]) (ds:=DW q) (Hz g _) rfl rfl rfl,NP]
 have s:=(DZ.app γ4 13 g [.cells 25 3 (DW q)]).toL (cs:=[13]) (by simp);have a5:=At.new γ4 13 (.cells 25 3 (DW q)) g;generalize FB γ4 g.length 13=γ5 at*;generalize g.length=e at*;generalize g++[HO.cells 25 3 (DW q)]=B at*;have I:=L.stay s (by simp) (by simp);have l:=m.dm s (by simp);have O:JI γ5 R a v c e (FN p j f al n (1,0,0) (A8 (FH p t f)) dm) j t q d JG (Tm d) B:=⟨l,I,W.dm s (by simp),r4.dm s (by simp),a4.dm s (by simp),a5⟩;have l5:=D6 B R 3 _ _ _ j l.2 rfl;have ln:Bq .sl j=some (iD t.length):=by
  obtain⟨cs,w,_⟩:=ht.row;exact w.row.len
 obtain⟨γ6,E,i',k1,u,Y⟩:=Jaj hr (by simp[FH]) 1000 (by have:=M.2.1;omega) t.length 0 γ5 (Tm d) B 1000 (by omega) (by have:=M.2.1;omega) O;have P:BZ Aa (IB Aa) aS 1000 f70 0 [.hp R 0,.hp a 0,.hp v 0,.hp c 0,.hp e 0,j,iD t.length,iD 0] B=some (.exit 0,[.hp R 0,.hp a 0,.hp v 0,.hp c 0,.hp e 0,j,iD t.length,i'],E):=k1;rw[UB]at u;have l6:Ai (some 8) E (.hp c 0)=some (.agg (BL (Ul (FH p t f) rs d))):=by rw[Es,u.bst.2];rfl
 have C:=KG u.res.2 (n:=8) (ds:=BL (Ul (FH p t f) rs d)) rfl rfl rfl;have S:=(DZ.put u.res (.cells 107 8 (BL (Ul (FH p t f) rs d)))).toL (cs:=[11]) (by simp);have r6:=u.res.put (.cells 107 8 (BL (Ul (FH p t f) rs d)));have l7:Ai (some 8) (E.set v (.cells 107 8 (BL (Ul (FH p t f) rs d)))) (.hp v 0)=some (FX (Ul (FH p t f) rs d)):=by rw[Es,r6.2];rfl
 refine⟨γ6,_,?_,u.run.dm S (by simp),?_⟩
 ·rw[zJ,CJ func70,Jpb];unfold Eo AV Dw;show Ah (BA _ _ _) _=_;simp only[b0,A7];show Ah (BX 107 JG k) _=_;simp only[b1,A7,n0,AU,f7,e3,l3];show Ad (CY [(0,3),(3,1),(4,1),(5,2),(7,1)] JG [(0,Em d),(2,iD (-1))]) _=_;simp only[bu,AU];show Ah (BX 107 JG i) _=_;simp only[b4,A7,N,AU,f0,F,G,em,x0,x1,b5,K,Z,l5,ln,P,Kw,Kv,NJ,NM,l6,C,l7]
 ·exact((((((r.mono (by simp)).trans (z.mono (by simp))).trans (y.mono (by simp))).trans (s.mono (by simp))).trans (Y.mono (by simp))).trans (S.mono (by simp)))
def Jfv(P:Aj):Ac Cj:=(69,false,vV P)::(70,false,zJ P)::NN P
def Jpl:∀p∈Jfv Aa,Ci Aa p:=AC (CB Jm1)<|AC (CB Jtk)<|JhC
def WK(P:Aj):Tab:=⟨Jfv P,BM,[]⟩
def Jrr:Bg Aa (WK Aa):=CU Jpl
def JhM:Ac Nat:=[]
def Jgw(n:Nat)(b:D)(h:Ae):AB Aa (WK Aa) JhM n f19 [b] h=
(Ad (Ag .ptr .eql b Ic) fun C=>
Az C
(some ((bD false),h))
(Ah ((vV Aa) [b] h) fun E c=>
Ad (Ag .int .eql E (iD 0)) fun y=>
Az y
(some ((bD false),c))
(Ad (Dj b) fun z=>
Ad (AP 11 z) fun m=>
Ad (Ai none c m) fun w=>
Ad (Dj b) fun x=>
Ad (AP 0 x) fun G=>
Ad (AP 5 G) fun v=>
Ad (Ai none c v) fun j=>
Ah ((kY Aa) [b] c) fun u a=>
Ce 3 (some 3) a j u fun r=>
Ah ((zJ Aa) [b,r] a) fun s d=>
Ah (DI 107 8 1 [Aq,(iD 0),(iD 0),(iD 0),(iD 0),(iD 0),(iD 0),CS] [(0,s)] d) fun o g=>
Ah (D5 107 8 w o g) fun i l=>
Ha 11 1 b i l fun B q=>
Eb m (some c) (some a)
(Eb v (some c) (some a)
(Eb m (some a) (some d)
(Ad (Dj b) fun p=>
Ad (AP 6 p) fun e=>
Ah (gV [e,(iD 1)] q) fun F k=>
some ((bD true),k))))))):=by kernel_rfl
def dZ(P:Aj):GT:=CO P (WK P) JhM 0 19
def JnQ:BN Aa 19 (dZ Aa):=CQ Jrr AX func19
def OH(l:Ac Mu):Ac D:=l.flatMap BL
def Jk6(a:Ac Mu)(m:Mu):OH (a++[m])=OH a++BL m:=by simp[OH]
structure bJ(γ:Nat->Nat)(R:Nat)(p:Pg)(dt:D)(t:List (List Int))(f:Int)(al:List Dl)(ms:List Mu)(H:Ae):Prop where
 ts:bW γ dt t H
 run:∃o b dm,At γ 0 R (.cells 138 12 (FN p dt f al ms.length o b dm)) H/\Ff γ 3 107 8 dm ms.length (OH ms) H/\(o=(0,0,0)/\b=Aq\/(o=(1,0,0)/\b=A8 (FH p t f)))
def Jhe{p:Pg}{t:Ac (Ac Int)}{f:Int}{o:Int×Int×Int}{b:D}(h:o=(0,0,0)/\b=Aq\/(o=(1,0,0)/\b=A8 (FH p t f))):Xe b:=by
 rcases h with⟨_,rfl⟩|⟨_,rfl⟩<;>simp[Xe]
def Jqz(l:Ac Dl)(i:Nat)(h:i<l.length):BG 3 (EH l) (iD i)=some (.ptr (Ie l[i])):=KO Ie 3 l i h
def QbK{γ:Nat->Nat}{R:Nat}{p:Pg}{e:D}{t:Ac (Ac Int)}{f:Int}{al:Ac Dl}{ms:Ac Mu}{H:Ae}(h:bJ γ R p e t f al ms H)(l:ms.length=al.length)(m:al.length<=100000):dZ Aa [.hp R 0] H=some (bD false,H):=by
 obtain⟨o,b,dm,c,k,i⟩:=h.run;obtain⟨cs,d,w2⟩:=h.ts.row;have hs:=Jkj (p:=p) (f:=f) (al:=al) (n:=ms.length) (o:=o) d.slf (Jhe i) k.slf;have a:=Jde H R c.2 (by omega) (by omega) hs;rw[dZ,CJ func19,Jgw];unfold Ce Ha;have g:Ag .ptr .eql (.hp R 0) Ic=some (bD false):=rfl;have j:Ag .int .eql (iD ((al.length-ms.length:Nat):Int)) (iD 0)=some (bD true):=by simp_all
 simp only[g,AU,Bd,BF,BC,a,A7,j,Bv]
def Jqi{γ:Nat->Nat}{R:Nat}{p:Pg}{c:D}{t:Ac (Ac Int)}{f:Int}{al:Ac Dl}{ms:Ac Mu}{H:Ae}{rs:Ac Rn}(h:bJ γ R p c t f al ms H)(hl:ms.length<al.length)(ha:al.length<=100000)(Y:xW p t f)(V:aW p al[ms.length])(Q:wX (F7 p al[ms.length]).1 t f rs):
  ∃γ' H',dZ Aa [.hp R 0] H=some (bD true,H')/\bJ γ' R p c t f al (ms++[Ul (FH p t f) rs al[ms.length]]) H'/\Fg γ γ' [0,3,9,10,11,12,13] H H':=by
 obtain⟨o,b,dm,i,E,K⟩:=h.run;obtain⟨cs,w1,w2⟩:=h.ts.row;have hs:=Jkj (p:=p) (f:=f) (al:=al) (n:=ms.length) (o:=o) w1.slf (Jhe K) E.slf;have N:=Jde H R i.2 (by omega) (by omega) hs;have S:=Jfq H R _ (ms.length:Int) i.2 rfl;obtain⟨γ1,s,j1,G,J⟩:=Jna i h.ts Y (K.imp And.left id) V Q;generalize Ul (FH p t f) rs al[ms.length]=m at*;have hi:=Jqz al ms.length hl;generalize al[ms.length]=d at*;have P:Ag .ptr .eql (.hp R 0) Ic=some (bD false):=rfl;have T:Ag .int .eql (iD ((al.length-ms.length:Nat):Int)) (iD 0)=some (bD false):=by rw[Sk,Dc (by omega)]
 have n0:Dj (.hp R 0)=some (.hp R 0):=rfl;have Z:AP 0 (.hp R 0)=some (.hp R 0):=rfl;have W:AP 5 (.hp R 0)=some (.hp R 5):=by simp
 have O:AP 6 (.hp R 0)=some (.hp R 6):=by simp
 have v:AP 11 (.hp R 0)=some (.hp R 11):=by simp
 have B:=D6 H R 11 _ _ _ dm i.2 rfl;have l5:=D6 H R 5 _ _ _ (EH al) i.2 rfl;have ld:Ai (some 3) H (.ptr (Ie d))=some (Em d):=rfl;have M:∀k:Af (D×Ae),Eb (.hp R 11) (some H) (some H) k=k:=fun k=>kR k i.2 i.2 (yJ 11 hs);have s2:∀k:Af (D×Ae),Eb (.hp R 5) (some H) (some H) k=k:=fun k=>kR k i.2 i.2 (yJ 5 hs);have X:∀k:Af (D×Ae),Eb (.hp R 11) (some H) (some s) k=k:=fun k=>kR k i.2 G.2 (by
  have:=E.slf;unfold Xe at this;show Gy [dm] [dm]=true;simp[this])
 have u:=Xf 107 (sz:=8) (z:=JG) (x:=FX m) (new:=BL m) rfl rfl rfl (by decide) (mD m) s;have F:Ff γ1 3 107 8 dm ms.length (OH ms) s:=E.stayL J (by simp);obtain⟨a,C,γ2,a1,w,I⟩:=F.row.pushX (by decide) (new:=BL m) rfl (mD m) (by omega);have g:=G.dm (I.toL (cs:=[3]) (by simp)) (by simp);have st:=IV C R 11 _ _ _ a g.2 (by simp[FN]) w.cell.1 w.cell.2;have y:(FN p c f al ms.length (1,0,0) (A8 (FH p t f)) dm).set 11 a=FN p c f al ms.length (1,0,0) (A8 (FH p t f)) a:=rfl;rw[y]at st;have e:=g.put (.cells 138 12 (FN p c f al ms.length (1,0,0) (A8 (FH p t f)) a));have r:=(DZ.put g (.cells 138 12 (FN p c f al ms.length (1,0,0) (A8 (FH p t f)) a))).toL (cs:=[0]) (by simp);have L:IntKind.i64.wrap ((ms.length:Int)+1)=((ms.length+1:Nat):Int):=by rw[VK _ (by omega) (by omega)];omega
 have ad:gV [.hp R 6,iD 1] (C.set R (.cells 138 12 (FN p c f al ms.length (1,0,0) (A8 (FH p t f)) a)))=some (iD ((ms.length+1:Nat):Int),(C.set R (.cells 138 12 (FN p c f al ms.length (1,0,0) (A8 (FH p t f)) a))).set R (.cells 138 12 (FN p c f al ((ms.length+1:Nat):Int) (1,0,0) (A8 (FH p t f)) a))):=by
  have U:(FN p c f al ms.length (1,0,0) (A8 (FH p t f)) a)[6]? =some (iD ms.length):=rfl;simp only[gV,e.2,U,L];rfl
 have l:=e.put (.cells 138 12 (FN p c f al ((ms.length+1:Nat):Int) (1,0,0) (A8 (FH p t f)) a));have j:=(DZ.put e (.cells 138 12 (FN p c f al ((ms.length+1:Nat):Int) (1,0,0) (A8 (FH p t f)) a))).toL (cs:=[0]) (by simp);have q:Fg γ γ2 [0,3,9,10,11,12,13] H _:=(((J.mono (by simp)).trans ((I.toL (cs:=[3]) (by simp)).mono (by simp))).trans (r.mono (by simp))).trans (j.mono (by simp));refine⟨γ2,_,?_,⟨h.ts.stay q (by simp) (by simp),(1,0,0),A8 (FH p t f),a,?_,?_,.inr ⟨rfl,rfl⟩⟩,q⟩
 ·rw[dZ,CJ func19,Jgw];unfold Ce Ha;simp only[P,AU,Bd,BF,BC,N,A7,T,n0,v,B,Z,W,l5,S,hi,ld,j1];show Ah (DI 107 8 1 JG [(0,FX m)] s) _=_;simp only[u,A7,a1,AU,st,M,s2,X,O,ad]
 ·rw[DC];exact l
 ·rw[DC,Jk6];exact(w.stayL r (by simp)).stayL j (by simp)
def Z8(P:Aj):GT:=CO P (IB P) aH 1000 18
def JmJ:BN Aa 18 (Z8 Aa):=CQ C4 AX func18
def Mi(γ:Nat->Nat)(k:Nat)(l:Ac Int)(g:l.length<=1000000)(H:Ae)(x:D)(a:GV 1 H x=some (BP l)):∃d H' γ',D5 3 1 BJ x H=some (d,H')/\Ff γ' k 3 1 d l.length (BP l) H'/\Fg γ γ' [] H H':=by
 have e:=TK l;have f:¬((1:Nat)=0\/(!(BP l).all Df)=true):=by rw[JjR];simp
 by_cases b:l=[]
 ·subst b;refine⟨BJ,H,γ,?_,Ff.nil _ _ _ _ _,Fg.refl _ _ _⟩;unfold D5;rw[a,BR];rfl
 ·have hp:l.length≠0:=fun h=>b (NK.1 h);refine⟨.hs H.length l.length,H++[.cells 3 1 (BP l)],FB γ H.length k,?_,⟨by omega,.inr ⟨_,rfl,At.new _ _ _ _⟩⟩,⟨by simp,fun c i o _ h=>h.app k _⟩⟩;unfold D5;rw[a,BR];unfold KW BJ
  grind
def QA(p:Pg)(a:D)(f:Int)(ad:D):Ac D:=[iD p.params,AL p.vars,A8 p.body,a,iD f,ad,iD 0,wZ,.v (.int .i32 0),wZ,BJ,BJ]
structure rC(γ:Nat->Nat)(a R:Nat)(p:Pg)(f:Int)(t:List (List Int))(dt:D)(H:Ae):Prop where
 prog:At γ 20 a (.cells 25 3 (DW p)) H
 run:At γ 0 R (.cells 138 12 (QA p dt f BJ)) H
 ts:bW γ dt t H
def QbY{γ:Nat->Nat}{a R:Nat}{p:Pg}{f:Int}{t:Ac (Ac Int)}{i:D}{H:Ae}(j:Nat)(v:j<t.length)(ht:t.length<=1000)(O:∀l∈t,l.length<=1000000)(h:rC γ a R p f (t.take j) i H)(m:Nat):
  ∃γ' b H',BK Aa (IB Aa) aH m f18 0 [.hp a 0,.hp R 0,BH t,iD t.length,iD j] H=some (.normal,[.hp a 0,.hp R 0,BH t,iD t.length,iD ((j+1:Nat):Int)],H')/\
   rC γ' a R p f (t.take (j+1)) b H'/\Fg γ γ' [0,1,2,9] H H':=by
 obtain⟨B,N,w2⟩:=h.ts.row;have K:BG 1 (BH t) (iD j)=some (.ptr (Iz t[j])):=KO Iz 1 t j v;have ld:Ai none H (.ptr (Iz t[j]))=some (AL t[j]):=rfl;have Q:Dj (.hp R 0)=some (.hp R 0):=rfl;have J:AP 0 (.hp R 0)=some (.hp R 0):=rfl;have F:AP 3 (.hp R 0)=some (.hp R 3):=by simp
 have M:=D6 H R 3 _ _ _ i h.run.2 rfl;have q:=O t[j] (Ih v);obtain⟨c,r,γ1,T,n,I⟩:=Mi γ 2 t[j] q H (AL t[j]) (A6 _ _);have o:=Xf 22 (sz:=1) (z:=[BJ]) (x:=c) (new:=[c]) n.cell.1 rfl rfl (by decide) (by simp[n.cell.2]) r;have g:=I;have w:Ff γ1 1 22 1 i (t.take j).length B r:=N.stayL g (by simp);have L:(t.take j).length=j:=by simp;omega
 obtain⟨b,S,γ2,C,u,P⟩:=w.row.pushX (by decide) (new:=[c]) rfl (by simp[n.cell.2]) (by omega);have y:=P.toL (cs:=[1]) (by simp);have d:=(h.run.dm g (by simp)).dm y (by simp);have st:=IV S R 3 _ _ _ b d.2 (by simp[QA]) u.cell.1 u.cell.2;have G:(QA p i f BJ).set 3 b=QA p b f BJ:=rfl;rw[G]at st;have s:=(DZ.put d (.cells 138 12 (QA p b f BJ))).toL (cs:=[0]) (by simp);have e:Fg γ γ2 [0,1,2,9] H _:=((g.mono (by simp)).trans (y.mono (by simp))).trans (s.mono (by simp));have E:∀k:Af (Lv×Ac D×Ae),MK (.hp R 3) BJ k=k:=fun k=>UP R 3 _ k;refine⟨γ2,b,_,?_,⟨h.prog.dm e (by simp),d.put _,⟨B++[c],?_,?_⟩⟩,e⟩
 ·rw[JeK];unfold Ce JM;simp only[G6 (show(j:Int)<t.length by omega),AU,Bd,Bv,K,ld,Q,J,F,M];show Ah (D5 3 1 BJ (AL t[j]) H) _=_;simp only[T,A7];show Ah (DI 22 1 1 [BJ] [(0,c)] r) _=_;simp only[o,A7,C,AU,st,G5 j (by omega)];exact E _
 ·have:(t.take (j+1)).length=(t.take j).length+1:=by grind
  rw[this];exact u.stayL s (by simp)
 ·rw[Ij v];exact(Iu.snoc n (w2.stay g (by simp))|>Iu.stay y (by simp))|>Iu.stay s (by simp)
def PS.nil(γ:Nat->Nat)(c k:Nat)(H:Ae):PS γ c k BJ [] H:=⟨[],Ff.nil _ _ _ _ _,trivial⟩
theorem JhP{a R:Nat}{p:Pg}{f:Int}{t:Ac (Ac Int)}(ht:t.length<=900)(i:∀l∈t,l.length<=1000000):∀(k j:Nat) (γ:Nat->Nat) (b:D) (H:Ae) (fl:Nat),j+k=t.length->k<fl->rC γ a R p f (t.take j) b H->
  ∃γ' c H',DY (BK Aa (IB Aa) aH 1000 f18 0) fl [.hp a 0,.hp R 0,BH t,iD t.length,iD j] H=some (.exit 0,[.hp a 0,.hp R 0,BH t,iD t.length,iD t.length],H')/\rC γ' a R p f t c H'/\Fg γ γ' [0,1,2,9] H H'
 |0,j,γ,b,H,fl,o,w,h=>by
  obtain⟨fl,rfl⟩:∃x,fl=x+1:=⟨fl-1,by omega⟩;obtain rfl:j=t.length:=by omega
  rw[II]at h;refine⟨γ,b,H,aY ?_ (by intro e;cases e),h,Fg.refl _ _ _⟩;rw[JeK];unfold Ce JM;simp
 |k+1,j,γ,b,H,fl,o,w,h=>by
  obtain⟨fl,rfl⟩:∃x,fl=x+1:=⟨fl-1,by omega⟩;obtain⟨γ1,g,u,q,s,n⟩:=QbY j (by omega) (by omega) i h 1000;obtain⟨γ2,d,y,v,m,r⟩:=JhP ht i k (j+1) γ1 g u fl (by omega) (by omega) s;refine⟨γ2,d,y,?_,m,n.trans r⟩;rw[IQ q];exact v
def GR(p:Pg)(t:Ac (Ac Int))(f:Int):Int:=if ED p≠0 then ED p else JJ p.params t f
def Jp8(p:Pg)(t:Ac (Ac Int))(f:Int)(g:p.body.length<=3000000)(ht:t.length<=1000)(h:GR p t f≠0)(H:Ae):Z8 Aa [Be p,BH t,iD f] H=some (.tup [Ic,iD (GR p t f)],H++[.cells 25 3 (DW p)]):=by
 rw[Z8,CJ func18,Jcw];unfold Eo AV JM;have j:BA 25 (Be p) H=some (.hp H.length 0,H++[.cells 25 3 (DW p)]):=rfl;have lp:=pX (Hz H (.cells 25 3 (DW p)));have c:∀H,Ak Ko [Be p] H=some (iD (ED p),H):=fun H=>by
  rw[CP _ _ _ rfl,show Ko [Be p]=_ from EO (A:=Ef) _ p,Aw g];rfl
 have d:∀i,AP 0 (.hp i 0)=some (.hp i 0):=fun _=>rfl;have e:=D6 (H++[.cells 25 3 (DW p)]) H.length 0 _ _ _ (iD p.params) (Hz H _) rfl;have b:=uG p.params t f ht (H++[.cells 25 3 (DW p)]);unfold GR at h⊢;simp only[j,A7,lp,AU,c,WM];by_cases a:ED p=0
 ·have hs:JJ p.params t f≠0:=by simpa[a]using h
  simp[a,Bd,d,e,b,hs]
 simp_all
def Jlh(γ:Nat->Nat)(p:Pg)(t:Ac (Ac Int))(f:Int)(G:p.body.length<=1000000)(x:p.vars.length<=1000000)(ht:t.length<=900)(M:∀l∈t,l.length<=1000000)(h:GR p t f=0)(H:Ae):
  ∃γ' R c H',Z8 Aa [Be p,BH t,iD f] H=some (.tup [.hp R 0,iD 0],H')/\bJ γ' R p c t f (Du p) [] H'/\Fg γ γ' [0,1,2,9,20] H H':=by
 have j:ED p=0:=by
  unfold GR at h;split at h
  ·omega
  ·omega
 have hs:JJ p.params t f=0:=by simpa[GR,j]using h
 have I:BA 25 (Be p) H=some (.hp H.length 0,H++[.cells 25 3 (DW p)]):=rfl;have s:=(DZ.app γ 20 H [.cells 25 3 (DW p)]).toL (cs:=[20]) (by simp);have k:=At.new γ 20 (.cells 25 3 (DW p)) H;generalize FB γ H.length 20=γ1 at*;generalize H.length=a at*;generalize H++[HO.cells 25 3 (DW p)]=b at*;have lp:=pX k.2;have v:∀H,Ak Ko [Be p] H=some (iD 0,H):=fun H=>by
  rw[CP _ _ _ rfl,show Ko [Be p]=_ from EO (A:=Ef) _ p,Aw (by omega),j];rfl
 have z:Ag .int .neq (iD 0) (iD 0)=some (bD false):=rfl;have K:∀i,AP 0 (.hp i 0)=some (.hp i 0):=fun _=>rfl;have E:=D6 b a 0 _ _ _ (iD p.params) k.2 rfl;have o:=uG p.params t f (by omega) b;rw[hs]at o;have D:=Jjm p x G b;have e:CY [(0,3),(3,1),(4,1),(5,1)] [iD 0,BJ,BJ,BJ,iD 0,BJ] [(0,Be p),(2,iD f)]=some (.agg [iD p.params,AL p.vars,A8 p.body,BJ,iD f,BJ]):=rfl;have J:CY [(0,6),(6,1),(7,3),(10,1),(11,1)] [iD 0,BJ,BJ,BJ,iD 0,BJ,iD 0,wZ,.v (.int .i32 0),wZ,BJ,BJ] [(0,.agg [iD p.params,AL p.vars,A8 p.body,BJ,iD f,BJ])]=some (.agg (QA p BJ f BJ)):=rfl;have S:BA 138 (.agg (QA p BJ f BJ)) b=some (.hp b.length 0,b++[.cells 138 12 (QA p BJ f BJ)]):=rfl;have r:=(DZ.app γ1 0 b [.cells 138 12 (QA p BJ f BJ)]).toL (cs:=[0]) (by simp);have u:=At.new γ1 0 (.cells 138 12 (QA p BJ f BJ)) b;generalize FB γ1 b.length 0=γ2 at*;generalize b.length=R at*;generalize b++[HO.cells 138 12 (QA p BJ f BJ)]=n at*;have m:rC γ2 a R p f (t.take 0) BJ n:=⟨k.dm r (by simp),u,PS.nil _ _ _ _⟩;have T:Bq .sl (BH t)=some (iD t.length):=by simp[Bq,OT,BH]
 obtain⟨γ3,c,g,F,d,y⟩:=JhP ht M t.length 0 γ2 BJ n 1000 (by omega) (by omega) m;have N:BZ Aa (IB Aa) aH 1000 f18 0 [.hp a 0,.hp R 0,BH t,iD t.length,iD 0] n=some (.exit 0,[.hp a 0,.hp R 0,BH t,iD t.length,iD t.length],g):=F;have B:=pX d.prog.2;have L:=Tp p (by omega) g;rw[j]at L;have O:DN (.tup [EH (Du p),iD 0]) 0=some (EH (Du p)):=rfl;have Q:DN (.tup [EH (Du p),iD 0]) 1=some (iD 0):=rfl;have U:Dj (.hp R 0)=some (.hp R 0):=rfl;have P:AP 5 (.hp R 0)=some (.hp R 5):=by simp
 have st:=IV g R 5 _ _ _ (EH (Du p)) d.run.2 (by simp[QA]) rfl rfl;have C:(QA p c f BJ).set 5 (EH (Du p))=FN p c f (Du p) 0 (0,0,0) BJ BJ:=rfl;rw[C]at st;have w:=d.run.put (.cells 138 12 (FN p c f (Du p) 0 (0,0,0) BJ BJ));have q:=(DZ.put d.run (.cells 138 12 (FN p c f (Du p) 0 (0,0,0) BJ BJ))).toL (cs:=[0]) (by simp);refine⟨γ3,R,c,_,?_,⟨d.ts.stay q (by simp) (by simp),(0,0,0),BJ,BJ,w,Ff.nil _ _ _ _ _,.inl ⟨rfl,rfl⟩⟩,(((s.mono (by simp)).trans (r.mono (by simp))).trans (y.mono (by simp))).trans (q.mono (by simp))⟩;rw[Z8,CJ func18,Jcw];unfold Eo AV JM;simp only[I,A7,lp,AU,v,z,Bd,BF,BC,K,E,o,D];show Ad (CY [(0,3),(3,1),(4,1),(5,1)] [iD 0,BJ,BJ,BJ,iD 0,BJ] [(0,Be p),(2,iD f)]) _=_;rw[e];simp only[AU];show Ad (CY [(0,6),(6,1),(7,3),(10,1),(11,1)] [iD 0,BJ,BJ,BJ,iD 0,BJ,iD 0,wZ,.v (.int .i32 0),wZ,BJ,BJ] [(0,.agg [iD p.params,AL p.vars,A8 p.body,BJ,iD f,BJ])]) _=_;simp_all
structure Cm where
 p:Pg
 t:List (List Int)
 f:Int
 ms:List Mu
 sc:KN
def Cf(c:Cm):Ac D:=[iD c.p.params,AL c.p.vars,A8 c.p.body,BH c.t,iD c.f,DR c.ms,iD c.sc.a,iD c.sc.b,iD c.sc.c]
def yA:Ac D->Af Cm
 |[a,b,c,d,e,f,g,h,i]=>(UJ [a,b,c]).bind fun p=>(JD.dec d).bind fun t=>(Dz e).bind fun j=>(MF.dec f).bind fun ms=>(Xg.dec (.agg [g,h,i])).map fun sc=>⟨p,t,j,ms,sc⟩
 |_=>none
def AR:D->Af Cm
 | .agg cs=>yA cs
 |_=>none
def JyY(c:Cm):AR (.agg (Cf c))=some c:=by
 have e:UJ [iD c.p.params,AL c.p.vars,A8 c.p.body]=some c.p:=Ef.back c.p;have d:JD.dec (BH c.t)=some c.t:=JD.back c.t;have b:Dz (iD c.f)=some c.f:=rfl;have a:MF.dec (DR c.ms)=some c.ms:=MF.back c.ms;have f:Xg.dec (.agg [iD c.sc.a,iD c.sc.b,iD c.sc.c])=some c.sc:=Xg.back c.sc;simp only[AR,yA,Cf,e,d,b,a,f,BR,Dt]
def OV:EU Cm:=⟨fun c=> .agg (Cf c),AR,JyY,fun d c h=>by
 unfold AR at h;split at h
 ·unfold yA at h;split at h
  ·rename_i G I H K F J j l k;obtain⟨p,r,h⟩:=Bi.1 h;obtain⟨t,A,h⟩:=Bi.1 h;obtain⟨f,v,h⟩:=Bi.1 h;obtain⟨ms,o,h⟩:=Bi.1 h;obtain⟨sc,E,h⟩:=DV.1 h;subst h;have g:=SO r;have u:=JD.ok _ _ A;have n:=BV.ok _ _ v;have s:=MF.ok _ _ o;have i:Gt [j,l,k] (He sc):=by
    have e:BT (.agg [j,l,k])=some sc:=E;unfold BT at e;simp only at e;obtain⟨a,B,e⟩:=Bi.1 e;obtain⟨b,q,e⟩:=Bi.1 e;obtain⟨c,w,e⟩:=DV.1 e;subst e;exact .cons (BV.ok _ _ B) (.cons (BV.ok _ _ q) (.cons (BV.ok _ _ w) .nil))
   refine AY.agg ?_;cases g with
   |cons D g=>cases g with
    |cons x g=>cases g with
     |cons C g=>cases i with
      |cons z i=>cases i with
       |cons y i=>cases i with
        |cons m i=>exact .cons D (.cons x (.cons C (.cons u (.cons n (.cons s (.cons z (.cons y (.cons m .nil))))))))
  ·cases h
 ·cases h⟩
def MV(a:D)(m:Mu):Ac D:=a::(BL m).tail
theorem Mr{sz:Nat}(hs:0<sz):∀(els:Ac (Ac D)),(∀e∈els,e.length=sz)->G9 sz els.length els.flatten=els
 |[],_=>rfl
 |e::r,h=>by
  have a:=h e KE;rw[Ej,G9,IX,Ax a,pK a,Mr hs r fun x b=>h x (QY _ b)]
theorem Jfy{γ:Nat->Nat}{k:Nat}{H:Ae}(n:Nat):∀{a:Ac D} {ms:Ac Mu},Iu γ k H a (ms.map (·.d.path))->∃els:Ac (Ac D),(List.zipWith MV a ms).flatten.mapM (Dh H (n+1))=some els.flatten/\els.length=ms.length/\(∀e∈els,e.length=8)/\els.mapM V3=some ms
 |[],[],_=>⟨[],rfl,rfl,(fun e h=>by cases h),rfl⟩
 |q::a,m::ms,h=>by
  obtain⟨b,l,p⟩:=h.1.intsN n;obtain⟨els,o,j,r,g⟩:=Jfy n h.2;refine⟨MV b m::els,?_,by simp[j],?_,?_⟩
  ·have i:∀v,Dh H (n+1) (.v v)=some (.v v):=fun v=>Ji H (n+1) _ rfl;simp only[List.zipWith_cons_cons,IX,List.mapM_append];have:(MV q m).mapM (Dh H (n+1))=some (MV b m):=by
    simp only[MV,BL,List.tail_cons,sD,FZ,VI,l,i];rfl
   rw[this,o];rfl
  ·intro e d;rcases FY.1 d with rfl|d
   ·rfl
   ·exact r e d
  ·simp only[FZ,g];have:V3 (MV b m)=some m:=by
    have c:∀n:Int,Dz (iD n)=some n:=BV.back;have f:MN (sD m.dig)=some m.dig:=Po.back _;simp only[MV,BL,List.tail_cons,V3,p,c,f,BR,Dt]
   rw[this];rfl
 |[],_::_,h=>h.elim
 |_::_,[],h=>h.elim
structure UD(γ:Nat->Nat)(c k:Nat)(dm:D)(ms:List Mu)(H:Ae):Prop where
 row:∃pds,Ff γ c 107 8 dm ms.length (List.zipWith MV pds ms).flatten H/\Iu γ k H pds (ms.map (·.d.path))
def UD.nil(γ:Nat->Nat)(c k:Nat)(H:Ae):UD γ c k BJ [] H:=⟨[],Ff.nil _ _ _ _ _,trivial⟩
def UD.stay{γ γ':Nat->Nat}{c k:Nat}{l:Ac Nat}{H H':Ae}{dm:D}{ms:Ac Mu}(h:UD γ c k dm ms H)(hs:Fg γ γ' l H H')(e:c∉l)(b:k∉l):UD γ' c k dm ms H':=by
 obtain⟨cs,a,d⟩:=h.row;exact⟨cs,a.stayL hs e,d.stay hs b⟩
def UD.deref{γ:Nat->Nat}{c k:Nat}{H:Ae}{dm:D}{ms:Ac Mu}(h:UD γ c k dm ms H)(n:Nat):∃a,Dh H (n+2) dm=some a/\MF.dec a=some ms:=by
 obtain⟨d,⟨g,⟨rfl,e⟩|⟨i,rfl,m⟩⟩,f⟩:=h.row
 ·have:ms=[]:=NK.1 e;subst this;exact⟨_,rfl,rfl⟩
 ·obtain⟨els,l,b,p,j⟩:=Jfy n f;refine⟨.sl 8 els,?_,j⟩;show(match H[i]? with|some (.cells _ sz cs)=>if ms.length*sz<=cs.length then((cs.take (ms.length*sz)).mapM (Dh H (n+1))).map fun o=>D.sl sz (G9 sz ms.length o)else none|_=>none)=_;rw[m.2];simp only[];rw[Aw (by omega),<-g,II,l,Dt,<-b,Mr (by decide) els p]
def EI(p:Pg)(a:D)(f:Int)(dm:D)(sc:KN):Ac D:=[iD p.params,AL p.vars,A8 p.body,a,iD f,dm,iD sc.a,iD sc.b,iD sc.c]
def Ht:Ac D:=[iD 0,BJ,BJ,BJ,iD 0,BJ,iD 0,iD 0,iD 0]
structure WS(γ:Nat->Nat)(R a b:Nat)(rc:List D)(p:Pg)(dt:D)(t:List (List Int))(f:Int)(dm:D)(ms:List Mu)(sc:KN)(dt2:D)(t2:List (List Int))(dm2:D)(ms2:List Mu)(H:Ae):Prop where
 run:At γ 0 R (.cells 138 12 rc) H
 ts:bW γ dt t H
 mus:Ff γ 3 107 8 dm ms.length (OH ms) H
 res:At γ 30 a (.cells 33 9 Ht) H
 cmp:At γ 31 b (.cells 33 9 (EI p dt2 f dm2 sc)) H
 ts2:PS γ 4 5 dt2 t2 H
 ms2:UD γ 6 7 dm2 ms2 H
def Jsj{γ:Nat->Nat}{R a b:Nat}{J:Ac D}{p:Pg}{s:D}{t:Ac (Ac Int)}{f:Int}{dm:D}{ms:Ac Mu}{sc:KN}{o n:D}{ms2:Ac Mu}{H:Ae}(j:Nat)(F:j<t.length)(ht:t.length<=900)(hl:∀l∈t,l.length<=1000000)(h:WS γ R a b J p s t f dm ms sc o (t.take j) n ms2 H)(m:Nat)(L M I:D):
  ∃γ' d H',BK Aa (IB Aa) Q7 m f20 0 [.hp R 0,.hp a 0,.hp b 0,s,iD t.length,iD j,L,M,I] H=some (.normal,[.hp R 0,.hp a 0,.hp b 0,s,iD t.length,iD ((j+1:Nat):Int),L,M,I],H')/\
   WS γ' R a b J p s t f dm ms sc d (t.take (j+1)) n ms2 H'/\Fg γ γ' [4,31] H H':=by
 obtain⟨pp,E,X,S,W⟩:=h.ts.at j F;obtain⟨V,w1,w2⟩:=h.ts2.row;have T:AP 3 (.hp b 0)=some (.hp b 3):=by simp
 have Z:=D6 H b 3 _ _ _ o h.cmp.2 rfl;have w:=hl t[j] (Ih F);have q:GV 1 H E=some (BP t[j]):=by
  obtain⟨h0,⟨rfl,e⟩|⟨i,rfl,h2⟩⟩:=W
  ·rw[NK.1 e];rfl
  ·simp only[GV,h2.2]
   grind
 obtain⟨c,K,γ1,a1,u,B⟩:=Mi γ 5 t[j] w H E q;have v:=Xf 22 (sz:=1) (z:=[BJ]) (x:=c) (new:=[c]) u.cell.1 rfl rfl (by decide) (by simp[u.cell.2]) K;have Y:(t.take j).length=j:=by simp;omega
 obtain⟨d,O,γ2,P,C,b3⟩:=(w1.stayL B (by simp)).row.pushX (by decide) (new:=[c]) rfl (by simp[u.cell.2]) (by omega);have N:=b3.toL (cs:=[4]) (by simp);have r:Fg γ γ2 [4] H O:=(B.mono (by simp)).trans N;have G:=h.cmp.dm r (by simp);have st:=IV O b 3 _ _ _ d G.2 (by simp[EI]) C.cell.1 C.cell.2;have U:(EI p o f n sc).set 3 d=EI p d f n sc:=rfl;rw[U]at st;have y:=(DZ.put G (.cells 33 9 (EI p d f n sc))).toL (cs:=[31]) (by simp);have g:Fg γ γ2 [4,31] H _:=(r.mono (by simp)).trans (y.mono (by simp));have Q:∀k:Af (Lv×Ac D×Ae),MK (.hp b 3) BJ k=k:=fun k=>UP b 3 _ k;refine⟨γ2,d,_,?_,⟨h.run.dm g (by simp),h.ts.stay g (by simp) (by simp),h.mus.stayL g (by simp),h.res.dm g (by simp),G.put _,⟨V++[c],?_,?_⟩,h.ms2.stay g (by simp) (by simp)⟩,g⟩
 ·rw[Jeb];unfold Ce JM;simp only[G6 (show(j:Int)<t.length by omega),AU,Bd,Bv,X,S,T,Z];show Ah (D5 3 1 BJ E H) _=_;simp only[a1,A7];show Ah (DI 22 1 1 [BJ] [(0,c)] K) _=_;simp only[v,A7,P,AU,st,G5 j (by omega)];exact Q _
 ·have:(t.take (j+1)).length=(t.take j).length+1:=by grind
  rw[this];exact C.stayL y (by simp)
 ·rw[Ij F];exact(Iu.snoc u (w2.stay B (by simp))|>Iu.stay N (by simp))|>Iu.stay y (by simp)
theorem JgU{R a b:Nat}{r:Ac D}{p:Pg}{m:D}{t:Ac (Ac Int)}{f:Int}{dm:D}{ms:Ac Mu}{sc:KN}{g:D}{ms2:Ac Mu}(ht:t.length<=900)(s:∀l∈t,l.length<=1000000)(n o i:D):∀(k j:Nat) (γ:Nat->Nat) (c:D) (H:Ae) (fl:Nat),j+k=t.length->k<fl->WS γ R a b r p m t f dm ms sc c (t.take j) g ms2 H->
  ∃γ' d H',DY (BK Aa (IB Aa) Q7 3000 f20 0) fl [.hp R 0,.hp a 0,.hp b 0,m,iD t.length,iD j,n,o,i] H=some (.exit 0,[.hp R 0,.hp a 0,.hp b 0,m,iD t.length,iD t.length,n,o,i],H')/\WS γ' R a b r p m t f dm ms sc d t g ms2 H'/\Fg γ γ' [4,31] H H'
 |0,j,γ,c,H,fl,w,F,h=>by
  obtain⟨fl,rfl⟩:∃x,fl=x+1:=⟨fl-1,by omega⟩;obtain rfl:j=t.length:=by omega
  rw[II]at h;refine⟨γ,c,H,aY ?_ (by intro e;cases e),h,Fg.refl _ _ _⟩;rw[Jeb];unfold Ce JM;simp
 |k+1,j,γ,c,H,fl,w,F,h=>by
  obtain⟨fl,rfl⟩:∃x,fl=x+1:=⟨fl-1,by omega⟩;obtain⟨γ1,q,C,y,B,v⟩:=Jsj j (by omega) ht s h 3000 n o i;obtain⟨γ2,c,G,E,u,z⟩:=JgU ht s n o i k (j+1) γ1 q C fl (by omega) (by omega) B;refine⟨γ2,c,G,?_,u,v.trans z⟩;rw[IQ y];exact E
theorem JjU:∀(ms:Ac Mu) (i:Nat) (h:i<ms.length),((OH ms).drop (i*8)).take 8=BL ms[i]
 |m::r,0,h=>by rfl
 |m::r,i+1,h=>by
  have a:i<r.length:=by simpa using h
  show((BL m++OH r).drop ((i+1)*8)).take 8=BL r[i];have e:(i+1)*8=(BL m).length+i*8:=by show _=8+i*8;omega
  rw[e,List.drop_length_add_append];exact JjU r i a
def Qfn{γ:Nat->Nat}{c:Nat}{dm:D}{ms:Ac Mu}{H:Ae}(h:Ff γ c 107 8 dm ms.length (OH ms) H)(i:Nat)(a:i<ms.length):∃q,BG 8 dm (iD i)=some q/\Ai (some 8) H q=some (FX ms[i]):=by
 obtain⟨d,⟨rfl,e⟩|⟨k,rfl,b⟩⟩:=h
 ·omega
 ·refine⟨.hp k (i*8),by simp[BG,IC,a],?_⟩;rw[Es,b.2];simp only[OK,EE,UB];rw[Aw (by rw[List.length_drop];omega),JjU ms i a];rfl
theorem Jgq(f:D->Mu->Ac D):∀(a:Ac D) (b:Ac Mu) (x:D) (y:Mu),a.length=b.length->List.zipWith f (a++[x]) (b++[y])=List.zipWith f a b++[f x y]
 |[],[],x,y,_=>rfl
 |_::a,_::b,x,y,h=>by simp[Jgq f a b x y (by simpa using h)]
def JxB{γ:Nat->Nat}{R a b:Nat}{Q:Ac D}{p:Pg}{T:D}{t:Ac (Ac Int)}{f:Int}{dm:D}{ms:Ac Mu}{sc:KN}{j o:D}{H:Ae}(i:Nat)(M:i<ms.length)(hm:ms.length<=2000)(hl:∀m∈ms,m.d.path.length<=1000000)(h:WS γ R a b Q p T t f dm ms sc j t o (ms.take i) H)(m:Nat)(P X S:D):
  ∃γ' d H',BK Aa (IB Aa) Q7 m f20 1 [.hp R 0,.hp a 0,.hp b 0,P,X,S,dm,iD ms.length,iD i] H=some (.normal,[.hp R 0,.hp a 0,.hp b 0,P,X,S,dm,iD ms.length,iD ((i+1:Nat):Int)],H')/\
   WS γ' R a b Q p T t f dm ms sc j t d (ms.take (i+1)) H'/\Fg γ γ' [6,31,32] H H':=by
 obtain⟨q,i1,i2⟩:=Qfn h.mus i M;obtain⟨u,w1,w2⟩:=h.ms2.row;have G:=hl ms[i] (Ih M);have F:ms.take (i+1)=ms.take i++[ms[i]]:=Ij M;rw[F];generalize ms[i]=c at*;have al:BX 107 JG H=some (.hp H.length 0,H++[.cells 107 8 JG]):=rfl;have s0:Bh 8 (.hp H.length 0) (FX c) (H++[.cells 107 8 JG])=some (.v undef,H++[.cells 107 8 (BL c)]):=by
  show Bh 8 _ (.agg (BL c)) _=_;rw[KG (n:=8) (cs:=JG) (ds:=BL c) (Hz H _) rfl rfl (mD c),NP]
 have s1:=(DZ.app γ 32 H [.cells 107 8 (BL c)]).toL (cs:=[32]) (by simp);have U:=At.new γ 32 (.cells 107 8 (BL c)) H;generalize FB γ H.length 32=γ1 at*;generalize H.length=x at*;generalize H++[HO.cells 107 8 (BL c)]=C at*;have f0:∀k,AP 0 (.hp k 0)=some (.hp k 0):=fun _=>rfl;have f5:AP 5 (.hp b 0)=some (.hp b 5):=by simp
 have l0:=D6 C x 0 _ _ _ (AL c.d.path) U.2 rfl;obtain⟨e,Z,γ2,a1,w,W⟩:=Mi γ1 7 c.d.path G C (AL c.d.path) (A6 _ _);have N:=U.dm W (by simp);have st:=IV Z x 0 _ _ _ e N.2 (by simp[BL]) w.cell.1 w.cell.2;have e0:(BL c).set 0 e=MV e c:=rfl;rw[e0]at st;have m3:=N.put (.cells 107 8 (MV e c));have V:=(DZ.put N (.cells 107 8 (MV e c))).toL (cs:=[32]) (by simp);have l:Fg γ γ2 [32] H _:=(s1.trans (W.mono (by simp))).trans V;have Y:=h.cmp.dm l (by simp);have K:=w1.stayL l (by simp);have L:=w2.stay l (by simp);have O:=w.stayL V (by simp);generalize Z.set x (HO.cells 107 8 (MV e c))=v at*;have l5:=D6 v b 5 _ _ _ o Y.2 rfl;have lm:Ai (some 8) v (.hp x 0)=some (.agg (MV e c)):=by rw[Es,m3.2];rfl
 have s:(MV e c).all Df=true:=by
  show(Df e&&((BL c).tail).all Df)=true;rw[w.cell.2];rfl
 have y:=Xf 107 (sz:=8) (z:=JG) (x:= .agg (MV e c)) (new:=MV e c) rfl rfl rfl (by decide) s v;have aa:(ms.take i).length=i:=by simp;omega
 obtain⟨d,H4,γ4,b1,J,b3⟩:=K.row.pushX (by decide) (new:=MV e c) rfl s (by omega);have E:=b3.toL (cs:=[6]) (by simp);have I:=Y.dm E (by simp);have r:=IV H4 b 5 _ _ _ d I.2 (by simp[EI]) J.cell.1 J.cell.2;have e5:(EI p j f o sc).set 5 d=EI p j f d sc:=rfl;rw[e5]at r;have B:=(DZ.put I (.cells 33 9 (EI p j f d sc))).toL (cs:=[31]) (by simp);have g:Fg γ γ4 [6,31,32] H _:=((l.mono (by simp)).trans (E.mono (by simp))).trans (B.mono (by simp));refine⟨γ4,d,_,?_,⟨h.run.dm g (by simp),h.ts.stay g (by simp) (by simp),h.mus.stayL g (by simp),h.res.dm g (by simp),I.put _,h.ts2.stay g (by simp) (by simp),⟨u++[e],?_,?_⟩⟩,g⟩
 ·rw[JgH];unfold AV Ce Dw JM;simp only[G6 (show(i:Int)<ms.length by omega),AU,Bd,Bv,i1,i2];show Ah (BX 107 JG H) _=_;simp only[al,A7,s0,f0,AU,l0];show Ah (D5 3 1 BJ (AL c.d.path) C) _=_;simp only[a1,A7,AU,st,f5,l5,lm];show Ah (DI 107 8 1 JG [(0,.agg (MV e c))] v) _=_;simp only[y,A7,b1,AU,r,G5 i (by omega)];rfl
 ·have hz:u.length=(ms.take i).length:=by have:=w2.len;simpa using this
  rw[Jgq _ _ _ _ _ hz,Xx,DC];simp only[IX,PT,Lj,Oh];exact J.stayL B (by simp)
 ·rw[JE];exact(Iu.snoc O L|>Iu.stay E (by simp))|>Iu.stay B (by simp)
theorem Jcs{R a b:Nat}{r:Ac D}{p:Pg}{u:D}{t:Ac (Ac Int)}{f:Int}{dm:D}{ms:Ac Mu}{sc:KN}{d:D}(v:ms.length<=2000)(s:∀m∈ms,m.d.path.length<=1000000)(j l n:D):∀(k i:Nat) (γ:Nat->Nat) (c:D) (H:Ae) (fl:Nat),i+k=ms.length->k<fl->WS γ R a b r p u t f dm ms sc d t c (ms.take i) H->
  ∃γ' g H',DY (BK Aa (IB Aa) Q7 3000 f20 1) fl [.hp R 0,.hp a 0,.hp b 0,j,l,n,dm,iD ms.length,iD i] H=some (.exit 2,[.hp R 0,.hp a 0,.hp b 0,j,l,n,dm,iD ms.length,iD ms.length],H')/\WS γ' R a b r p u t f dm ms sc d t g ms H'/\Fg γ γ' [6,31,32] H H'
 |0,i,γ,c,H,fl,z,I,h=>by
  obtain⟨fl,rfl⟩:∃x,fl=x+1:=⟨fl-1,by omega⟩;obtain rfl:i=ms.length:=by omega
  rw[II]at h;refine⟨γ,c,H,aY ?_ (by intro e;cases e),h,Fg.refl _ _ _⟩;rw[JgH];unfold AV Ce Dw JM;simp
 |k+1,i,γ,c,H,fl,z,I,h=>by
  obtain⟨fl,rfl⟩:∃x,fl=x+1:=⟨fl-1,by omega⟩;obtain⟨γ1,o,F,B,E,y⟩:=JxB i (by omega) v s h 3000 j l n;obtain⟨γ2,q,J,G,w,C⟩:=Jcs v s j l n k (i+1) γ1 o F fl (by omega) (by omega) E;refine⟨γ2,q,J,?_,w,y.trans C⟩;rw[IQ B];exact G
def Jt2{γ:Nat->Nat}{c:Nat}{dm:D}{ms:Ac Mu}{H:Ae}(h:Ff γ c 107 8 dm ms.length (OH ms) H)(n:Nat):∃d,Dh H (n+1) dm=some d/\MF.dec d=some ms:=by
 have l:∀ms:Ac Mu,(OH ms).mapM (Dh H n)=some (OH ms):=fun ms=>by
  induction ms with
  |nil=>rfl
  |cons m r o=>
   show(BL m++OH r).mapM _=some (BL m++OH r);have p:(BL m).mapM (Dh H n)=some (BL m):=by
    simp only[BL,sD,FZ,VI,Ji H n (AL _) rfl,Ji H n (.v _) rfl];rfl
   grind
 obtain⟨f,⟨rfl,e⟩|⟨k,rfl,i⟩⟩:=h
 ·have:ms=[]:=NK.1 e;subst this;exact⟨_,by cases n<;>rfl,rfl⟩
 ·refine⟨DR ms,?_,MF.back ms⟩;show(match H[k]? with|some (.cells _ sz cs)=>if ms.length*sz<=cs.length then((cs.take (ms.length*sz)).mapM (Dh H n)).map fun j=>D.sl sz (G9 sz ms.length j)else none|_=>none)=_;rw[i.2];simp only[];have b:OH ms=(ms.map BL).flatten:=by rfl
  have a:=Mr (sz:=8) (by decide) (ms.map BL) (fun e g=>by obtain⟨m,_,rfl⟩:=GN.1 g;rfl);rw[Aw (by omega),<-f,II,l,Dt];rw[Ju]at a;rw[b,a];rfl
def yS(P:Aj):GT:=CO P (IB P) Q7 3000 20
def Jw1:BN Aa 20 (yS Aa):=CQ C4 AX func20
def JxX{γ:Nat->Nat}{R:Nat}{p:Pg}{g:D}{t:Ac (Ac Int)}{f:Int}{al:Ac Dl}{ms:Ac Mu}{H:Ae}(h:bJ γ R p g t f al ms H)(hb:p.body.length<=1000000)(Y:p.vars.length<=1000000)(ht:t.length<=900)(hl:∀l∈t,l.length<=1000000)(hm:ms.length<=2000)(hp:∀m∈ms,m.d.path.length<=1000000):
  ∃γ' c d H',yS Aa [.hp R 0] H=some (.agg (EI p c f d (ER ms)),H')/\PS γ' 4 5 c t H'/\UD γ' 6 7 d ms H'/\Fg γ γ' [4,5,6,7,30,31,32] H H':=by
 obtain⟨o,bb,dm,h1,T,h3⟩:=h.run;have E:BX 33 Ht H=some (.hp H.length 0,H++[.cells 33 9 Ht]):=rfl;have s0:=(DZ.app γ 30 H [.cells 33 9 Ht]).toL (cs:=[30]) (by simp);have a0:=At.new γ 30 (.cells 33 9 Ht) H;generalize FB γ H.length 30=γ1 at*;generalize H.length=a at*;generalize H++[HO.cells 33 9 Ht]=e at*;have y:=h1.dm s0 (by simp);have N:=T.stayL s0 (by simp);have q0:Ag .ptr .eql (.hp R 0) Ic=some (bD false):=rfl;have S:Dj (.hp R 0)=some (.hp R 0):=rfl;have f0:AP 0 (.hp R 0)=some (.hp R 0):=rfl;have f3:AP 3 (.hp R 0)=some (.hp R 3):=by simp
 have f4:AP 4 (.hp R 0)=some (.hp R 4):=by simp
 have q:AP 11 (.hp R 0)=some (.hp R 11):=by simp
 have lp:Ai (some 3) e (.hp R 0)=some (Be p):=by rw[Es,y.2];rfl
 have W:=Jjm p Y hb e;have l4:=D6 e R 4 _ _ _ (iD f) y.2 rfl;have L:=D6 e R 11 _ _ _ dm y.2 rfl;obtain⟨i,P,d2⟩:=Jt2 N 8;have Q:Sj [i]=some (Gl (ER ms)):=by
  show F1 MF _ [i]=_;simp only[F1,d2,BR];rw[Aw (by omega)]
 have e2:DX Sj [dm] e=some (Gl (ER ms),e):=by
  cases hp:Fj [dm]with
  |true=>
   have hd:EC dm=true:=by simpa[Fj]using hp
   have:i=dm:=by have:=Ji e 9 dm hd;rw[P]at this;cases this;rfl
   subst this;rw[V9 _ _ _ hp,Q];rfl
  |false=>rw[KM _ _ [i] _ hp (by simp only[FZ,VI,P];rfl),Q];rfl
 have bu:CY [(0,3),(3,1),(4,1),(5,1),(6,3)] Ht [(0,Be p),(2,iD f),(4,Gl (ER ms))]=some (.agg (EI p BJ f BJ (ER ms))):=rfl;have J:BX 33 Ht e=some (.hp e.length 0,e++[.cells 33 9 Ht]):=rfl;have z:Bh 9 (.hp e.length 0) (.agg (EI p BJ f BJ (ER ms))) (e++[.cells 33 9 Ht])=some (.v undef,e++[.cells 33 9 (EI p BJ f BJ (ER ms))]):=by
  rw[KG (n:=9) (cs:=Ht) (ds:=EI p BJ f BJ (ER ms)) (Hz e _) rfl rfl rfl,NP]
 have v:=(DZ.app γ1 31 e [.cells 33 9 (EI p BJ f BJ (ER ms))]).toL (cs:=[31]) (by simp);have U:=At.new γ1 31 (.cells 33 9 (EI p BJ f BJ (ER ms))) e;generalize FB γ1 e.length 31=γ2 at*;generalize e.length=b at*;generalize e++[HO.cells 33 9 (EI p BJ f BJ (ER ms))]=s at*;have u:Fg γ γ2 [30,31] H s:=(s0.mono (by simp)).trans (v.mono (by simp));have r:WS γ2 R a b _ p g t f dm ms (ER ms) BJ (t.take 0) BJ (ms.take 0) s:=⟨y.dm v (by simp),h.ts.stay u (by simp) (by simp),N.stayL v (by simp),a0.dm v (by simp),U,PS.nil _ _ _ _,UD.nil _ _ _ _⟩;have l3:=D6 s R 3 _ _ _ g r.run.2 rfl;have ln:Bq .sl g=some (iD t.length):=by
  obtain⟨cs,w,_⟩:=h.ts.row;exact w.row.len
 obtain⟨γ3,c,x,k1,O,Z⟩:=JgU ht hl .undef .undef .undef t.length 0 γ2 BJ s 3000 (by omega) (by omega) r;have k:=D6 x R 11 _ _ _ dm O.run.2 rfl;have K:Bq .sl dm=some (iD ms.length):=T.row.len;obtain⟨γ4,d,G,j1,j,j3⟩:=Jcs hm hp g (iD t.length) (iD t.length) ms.length 0 γ3 BJ x 3000 (by omega) (by omega) O;have M:BZ Aa (IB Aa) Q7 3000 f20 0 [.hp R 0,.hp a 0,.hp b 0,g,iD t.length,iD 0,.undef,.undef,.undef] s=some (.exit 0,[.hp R 0,.hp a 0,.hp b 0,g,iD t.length,iD t.length,.undef,.undef,.undef],x):=k1;have B:BZ Aa (IB Aa) Q7 3000 f20 1 [.hp R 0,.hp a 0,.hp b 0,g,iD t.length,iD t.length,dm,iD ms.length,iD 0] x=some (.exit 2,[.hp R 0,.hp a 0,.hp b 0,g,iD t.length,iD t.length,dm,iD ms.length,iD ms.length],G):=j1;have lc:Ai (some 9) G (.hp b 0)=some (.agg (EI p c f d (ER ms))):=by rw[Es,j.cmp.2];rfl
 have I:(EI p c f d (ER ms)).all Df=true:=by
  obtain⟨_,w1,_⟩:=j.ts2.row;obtain⟨_,w2,_⟩:=j.ms2.row;simp only[EI,Na,eX,w1.cell.2,w2.cell.2];rfl
 have F:=KG j.res.2 (n:=9) (ds:=EI p c f d (ER ms)) rfl rfl I;have C:=(DZ.put j.res (.cells 33 9 (EI p c f d (ER ms)))).toL (cs:=[30]) (by simp);have X:=j.res.put (.cells 33 9 (EI p c f d (ER ms)));have V:Ai (some 9) (G.set a (.cells 33 9 (EI p c f d (ER ms)))) (.hp a 0)=some (.agg (EI p c f d (ER ms))):=by rw[Es,X.2];rfl
 refine⟨γ4,c,d,_,?_,j.ts2.stay C (by simp) (by simp),j.ms2.stay C (by simp) (by simp),((((u.mono (by simp)).trans (Z.mono (by simp))).trans (j3.mono (by simp))).trans (C.mono (by simp)))⟩;rw[yS,CJ func20,Jr6];unfold Dx AV Dw;show Ah (BX 33 Ht H) _=_;simp only[E,A7,q0,AU,Bd,BF,BC,S,f0,lp,W,f4,l4,q,L,e2];show Ad (CY [(0,3),(3,1),(4,1),(5,1),(6,3)] Ht [(0,Be p),(2,iD f),(4,Gl (ER ms))]) _=_;rw[bu];simp only[AU];show Ah (BX 33 Ht e) _=_;simp only[J,A7,z,S,AU,f3,l3,ln,M,Kw,Kv,NJ,NM,q,k,K,B,lc,F,V]
def JiL(P:Aj):Ac Cj:=(18,false,Z8 P)::(19,false,dZ P)::(20,false,yS P)::[]
def Qdc:∀p∈JiL Aa,Ci Aa p:=AC (CB JmJ)<|AC (CB JnQ)<|AC (CB Jw1)<|EN
def ZE(P:Aj):Tab:=⟨JiL P,BM,[]⟩
def Qca:Bg Aa (ZE Aa):=CU Qdc
def aK:Ac Nat:=[6,8]
def JgD(n:Nat)(u v q:D)(h:Ae):AB Aa (ZE Aa) aK n f6 [u,v,q] h=
(Ah (BA 25 u h) fun E B=>
Ah (BX 33 [(iD 0),Aq,Aq,Aq,(iD 0),Aq,(iD 0),(iD 0),(iD 0)] B) fun o s=>
Ad (Ai (some 3) s E) fun z=>
Ah ((Z8 Aa) [z,v,q] s) fun r p=>
Ad (DN r 0) fun y=>
Ad (DN r 1) fun w=>
Ad (Ag .int .neq w (iD 0)) fun C=>
Az C
(Ad (CY [(0,3),(3,1),(4,1),(5,1),(6,3)] [(iD 0),Aq,Aq,Aq,(iD 0),Aq,(iD 0),(iD 0),(iD 0)] []) fun i=>
Ah (Bh 9 o i p) fun F d=>
Ad (Ai (some 9) d o) fun j=>
some (.tup [j,w],d))
(Dy (BZ Aa (ZE Aa) aK n f6 0 [o,y] p) (fun k a b=>
CW k 0
(Ah ((yS Aa) [(gD a 1)] b) fun l e=>
Ah (Bh 9 (gD a 0) l e) fun x c=>
Ad (Ai (some 9) c (gD a 0)) fun g=>
some (.tup [g,(iD 0)],c))
(none)) (fun a b=>
Ad (Ai (some 9) b (gD a 0)) fun m=>
some (.tup [m,.undef],b)))):=by kernel_rfl
def Jb8(n:Nat)(s0 a:D)(h:Ae):BK Aa (ZE Aa) aK n f6 0 [s0,a] h=
(Ah ((dZ Aa) [a] h) fun c b=>
Az c
(some (.normal,[s0,a],b))
(some ((.exit 0),[s0,a],b))):=by kernel_rfl
end Go.Proofs.YtapdelkomkpgmaaGreatDoor
