import Derived.Test.YtapdelkomkpgmaaGreatDoorQt
namespace Go.Proofs.YtapdelkomkpgmaaGreatDoor
open Go.Proofs.Tryz
open Go.RowKit
set_option maxRecDepth 100000
set_option linter.all false
section
variable {l r : Ac Nd} {k : Nat}
end
section
set_option maxRecDepth 100000
end
def Jy6(p:Pg)(H:Ae):Ak dX [Be p] H=some (bD (lT p),H):=by
 rw[CP _ _ _ rfl];have:dX [Be p]=_:=EO (A:=Ef) _ p;rw[this];rfl
def Jo7(p q:Pg)(hp:p.fits)(a:q.fits)(H:Ae):Ak Ut [Be p,Be q] H=some (bD (decide (p=q)),H):=by
 rw[CP _ _ _ rfl];have:Ut [Be p,Be q]=_:=JU (A:=Ef) (B:=Ef) _ p q;rw[this,Aw ⟨hp,a⟩];rfl
@[simp] theorem Qga(p:Pg):D7 (Be p)=some [iD p.params,AL p.vars,A8 p.body]:=rfl
def Jd1(p:Pg)(h:p.body.length<=3000000)(H:Ae):Ak Ko [Be p] H=some (iD (ED p),H):=by
 rw[CP _ _ _ rfl];have:Ko [Be p]=_:=EO (A:=Ef) _ p;rw[this,Aw h];rfl
def Y5{p:Pg}(h:ED p=0):I4 p.body=0/\KL p=0/\(Bj p.body 0).1=20/\SK p 0=2:=by
 unfold ED at h;by_cases b:I4 p.body=0
 ·rw[Am (by simp[b])]at h;by_cases a:KL p=0
  ·rw[Am (by simp[a])]at h;split at h
   ·cases h
   ·rename_i c;rw[not_or]at c;exact⟨b,a,pO.1 c.1,pO.1 c.2⟩
  ·rw[Aw a]at h;exact absurd h a
 ·rw[Aw b]at h;exact absurd h b
def Fc{l:Ac Nd}(h:I4 l=0):Bc l 0=l.length:=by
 unfold I4 at h;split at h
 ·cases h
 split at h
 ·cases h
 split at h
 ·cases h
 split at h
 ·cases h
 ·rename_i a;exact pO.1 a
section
set_option linter.unusedSimpArgs false
end
def Lh(l:Ac Nd)(i:Int):Ac (Int×Int):=if Bc l i<0 then[]else PR (Bj l i) (Bj l (i+1))
def RG(l:Ac Nd)(i op n:Int):Prop:=0<=Bc l i/\wR (Bj l i) (Bj l (i+1)) op n
instance (l:Ac Nd)(i op n:Int):Decidable (RG l i op n):=by unfold RG;infer_instance
def Jfm(l:Ac Nd)(i op n:Int):(op,n)∈Lh l i↔RG l i op n:=by
 unfold Lh RG;split
 ·simp;omega
 ·rw[Jyp];grind
def JzV(l:Ac Nd)(i:Int):(Lh l i).Pairwise uV:=by
 unfold Lh;split
 ·simp
 ·exact Jpc _ _
def Pf(l:Ac Nd)(i:Int):(Lh l i).length<=5:=by
 unfold Lh;split
 ·simp
 ·exact Jn4 _ _
def QbM(x y z:Nd)(h:x.1=25->y=z):PR x y=PR x z:=by
 by_cases e:x.1=25
 ·rw[h e]
 ·unfold PR XM;rw[Am e,Am e]
def Qej(l:Ac Nd)(k:Nat)(c:0<=Bc l k)(j:Nat)(b:((k+j:Nat):Int)<Bc l k):(Fb l k)[j]? =l[k+j]? :=by
 have a:=UA l k;rw[Fb,Am (by omega)]
 grind
def Jfb(l:Ac Nd)(k:Nat)(b:0<=Bc l k)(j:Nat)(a:((k+j:Nat):Int)<Bc l k):Bj (Fb l k) j=Bj l ((k+j:Nat):Int):=by
 unfold Bj;rw[NL,NL,Ed,Ed,Qej l k b j a]
def Qbe(l:Ac Nd)(i:Int):Lh (Fb l i) 0=Lh l i:=by
 by_cases c:Bc l i<0
 ·have e:Fb l i=[]:=by rw[Fb,Aw c]
  unfold Lh;rw[Aw c,e,Aw (by decide)]
 ·have a:0<=Bc l i:=by omega
  obtain⟨k,rfl⟩:=Fq (F6 l i a).1;have g:=PH l k a;have f:=Z6 a;have d:=Jfb l k a 0 (by omega);unfold Lh;rw[Am (by rw[f];omega),Am c];rw[show((0:Nat):Int)=0 from rfl]at d;rw[d,MZ];refine QbM _ _ _ fun b=> ?_;obtain⟨h,j,m⟩:=Jdr l k a b;have n:=PH l _ h;have:=Jfb l k a 1 (by omega);rw[show(0:Int)+1=((1:Nat):Int)from rfl,this];rfl
def Bk(l:Ac Nd)(k:Nat)(op n:Int)(h:RG l k op n):Iw (Bj l k) op n/\1<=op/\op<=7:=by
 obtain⟨d,h⟩:=h;obtain⟨c,a,_⟩:=wJ d;rw[ZN l k c]at h⊢;generalize l[k]=x at*;rcases h with h|h|h|h|h|h|h
 ·exact⟨.inl ⟨h.1,h.2.1,h.2.2.1,h.2.2.2.1,h.2.2.2.2.1⟩,by omega,by omega⟩
 ·exact⟨.inr (.inl ⟨h.1,h.2.1,h.2.2.1,h.2.2.2.1,h.2.2.2.2.1⟩),by omega,by omega⟩
 ·exact⟨.inr (.inr (.inl ⟨h.1,h.2.1,h.2.2.1,h.2.2.2.1,h.2.2.2.2.1⟩)),by omega,by omega⟩
 ·refine⟨.inr (.inr (.inr (.inl ⟨h.1,?_⟩))),by omega,by omega⟩;rcases h.2 with b|b
  ·exact .inl b.1
  ·right;obtain⟨t,m⟩:=x;simp only at b a⊢;obtain⟨rfl,b⟩:=b;have g:0<=m/\m<=1:=by
    unfold ar at a;rw[Am (show¬((2:Int)=1)from by decide)]at a;have:EF 2 m=(1,0):=rfl;simp only[this]at a;split at a<;>omega
   have f:GX (1-0)=1:=by decide
   have e:GX (1-1)=0:=by decide
   grind
 ·exact⟨.inr (.inr (.inr (.inr (.inl h)))),by omega,by omega⟩
 ·exact⟨.inr (.inr (.inr (.inr (.inr (.inl h))))),by omega,by omega⟩
 ·exact⟨.inr (.inr (.inr (.inr (.inr (.inr ⟨h.1,h.2.1⟩))))),by omega,by omega⟩
def JdB{l:Ac Nd}{i:Int}(h:0<=Bc l i):Bc (Fb l i) 0=(Fb l i).length/\0<(Fb l i).length:=by
 obtain⟨k,rfl⟩:=Fq (F6 l i h).1;have a:=Z6 h;refine⟨a,?_⟩;have b:=PH (Fb l k) 0 (by rw[a];omega);rw[a]at b;omega
theorem Jkg(a:Int):∀l:Ac Int,(Nj a l).length<=l.length+1
 |[]=>by simp[Nj]
 |x::r=>by
  have:=Jkg a r;simp only[Nj]
  grind
def Jpo(l:Ac Int):(JF l).length<=l.length:=by
 induction l with
 |nil=>simp[JF]
 |cons a r b=>
  have:JF (a::r)=Nj a (JF r):=rfl;rw[this];have:=Jkg a (JF r);simp;omega
def Jc0(a:Int)(l:Ac Int):(Nr a l).length<=l.length:=Ig (Jk0 _ _) (Jpo l)
def Jvq(b c a:Int)(h:c-b<=5):(JL b c a).length<=6:=Ig (Jbf b (c-b+1).toNat a) (by omega)
def JmQ(y:Nd):(Nc y).length<=2:=by
 unfold Nc;split
 ·exact Jc0 _ _
 ·simp
def fl(L:Ac (Int×Ac Int)):Ac (Int×Int):=L.flatMap fun e=>e.2.map fun n=>(e.1,n)
def pA(x:Nd):Ac (Int×Ac Int):=
 if 7<=x.1/\x.1<=11 then[(1,JL 7 11 x.1)]else if 12<=x.1/\x.1<=17 then[(2,JL 12 17 x.1)]else if x.1=18\/x.1=19 then[(3,JL 18 19 x.1)]
  else if x.1=1 then[(4,Nr x.2 [0,1,-1,GX (x.2+1),GX (x.2-1)])]else if x.1=2 then[(4,[GX (1-x.2)])]else[]
def pB(x:Nd):Ac (Int×Ac Int):=if x.1=21\/x.1=22\/x.1=23\/x.1=24\/x.1=25 then[(5,[0])]else[]
def pC(x y:Nd):Ac (Int×Ac Int):=if x.1=23\/x.1=24 then[(6,[0])]else if x.1=25 then[(7,Nc y)]else[]
def Jme(x y:Nd):PR x y=fl (pA x)++(fl (pB x)++fl (pC x y)):=by
 unfold PR fl;rw[<-eU,<-eU];rfl
def Zm(op:Int)(a:Ac Int):fl [(op,a)]=a.map fun n=>(op,n):=by simp[fl]
def Im(t:AQ)(a:Int)(H:Ae):DI t 1 1 [iD 0] [(0,iD a)] H=some (.hs H.length 1,H++[.cells t 1 (BP [a])]):=rfl
def M0(t:AQ)(a:Ac Int)(H:Ae):J8 H.length (H++[.cells t 1 (BP a)]) (.hs H.length a.length) a:= .inr ⟨H.length,t,a,BQ _,rfl,by simp,II⟩
def Jil(l:Ac Nd)(x:Nd)(H:Ae)(out:Ac (Int×Int))(h:J5 l x H out)(s:x.1=25->1<l.length)(p:out.length<=90):
  ∃H',G0 Aa (Jm Aa) (.hp 1 0) (.hp 3 0) (.hp 4 0) (.hp 5 0) H=some (.tup [],H')/\J5 l x H' (out++fl (pC x (Bj l 1))):=by
 have i:AP 0 (.hp 4 0)=some (.hp 4 0):=rfl;have o:=Gs H 4 _ _ _ _ h.node;have C:=Gs H 1 _ _ _ _ h.row;have c:=iP l x H (H++[.cells 3 1 (BP [0])]) out 6 (.hs H.length 1) [0] h (Kp.app _ _ _ (BQ _)) (M0 3 [0] H) (by simp) (by omega);obtain⟨j,m,n⟩:=c;unfold G0 pC;by_cases b:x.1=23
 ·have f:(x.1==23)=true:=by rw[b];rfl
  refine⟨j,?_,by rw[Aw (.inl b),Zm];exact n⟩;simp only[i,AU,o,Nk,f,Bd,Bv,Im,A7,m]
 ·have f:(x.1==23)=false:=by grind
  by_cases e:x.1=24
  ·have g:(x.1==24)=true:=by rw[e];rfl
   refine⟨j,?_,by rw[Aw (.inr e),Zm];exact n⟩;simp only[i,AU,o,Nk,f,g,Bd,BF,BC,Bv,Im,A7,m]
  ·have g:(x.1==24)=false:=by grind
   rw[Am (by omega)];by_cases a:x.1=25
   ·have y:(x.1==25)=true:=by rw[a];rfl
    have k:=s a;have B:BG 2 (A8 l) (iD 1)=some (.ptr (Cb l[1])):=Oi l 1 k;have v:Bj l 1=l[1]:=ZN l 1 k;have G:Ai (some 2) H (.ptr (Cb l[1]))=some (.agg (Cb l[1])):=rfl;obtain⟨d,w,D,z,A,F⟩:=QaT l[1] H;have r:=JmQ l[1];obtain⟨q,E,u⟩:=iP l x H w out 7 d (Nc l[1]) h A z (by omega) (by omega);refine⟨q,?_,by rw[Aw a,Zm,v];exact u⟩;simp_all
   ·have y:(x.1==25)=false:=by grind
    refine⟨H,?_,by rw[Am a];simpa[fl]using h⟩;simp_all
def Jql(l:Ac Nd)(x:Nd)(H:Ae)(out:Ac (Int×Int))(h:J5 l x H out)(f:x.1=25->1<l.length)(a:out.length<=80):
  ∃H',ZL Aa (Jm Aa) (.hp 1 0) (.hp 3 0) (.hp 4 0) (.hp 5 0) H=some (.tup [],H')/\J5 l x H' (out++(fl [(5,[0])]++fl (pC x (Bj l 1)))):=by
 obtain⟨e,c,d⟩:=iP l x H (H++[.cells 3 1 (BP [0])]) out 5 (.hs H.length 1) [0] h (Kp.app _ _ _ (BQ _)) (M0 3 [0] H) (by simp) (by omega);obtain⟨b,g,i⟩:=Jil l x e _ d f (by simp;omega);refine⟨b,?_,by rw[Zm,<-FV];exact i⟩;unfold ZL;simp only[Im,A7,c,g]
def A9(l:Ac Nd)(x:Nd)(H:Ae)(out:Ac (Int×Int))(h:J5 l x H out)(g:x.1=25->1<l.length)(a:out.length<=80):
  ∃H',jJ Aa (Jm Aa) (.hp 1 0) (.hp 3 0) (.hp 4 0) (.hp 5 0) H=some (.tup [],H')/\J5 l x H' (out++(fl (pB x)++fl (pC x (Bj l 1)))):=by
 have i:AP 0 (.hp 4 0)=some (.hp 4 0):=rfl;have d:=Gs H 4 _ _ _ _ h.node;unfold jJ;by_cases b:x.1=21\/x.1=22\/x.1=23\/x.1=24\/x.1=25
 ·obtain⟨H',c,f⟩:=Jql l x H out h g a;refine⟨H',?_,by unfold pB;grind⟩
  rcases b with e|e|e|e|e<;>rw[e]at d<;>simp only[i,AU,d,Nk,Bd]<;>exact c
 ·obtain⟨H',c,f⟩:=Jil l x H out h g (by omega);refine⟨H',?_,by unfold pB;rw[Am b];simpa[fl]using f⟩;simp_all
def fL(l:Ac Nd)(x:Nd)(H:Ae)(a b op:Int)(h:J5 l x H [])(k:x.1=25->1<l.length)(m:0<=a/\b<=100)(e:b-a<=5):
  ∃H',gG Aa (Jm Aa) a b op (.hp 1 0) (.hp 3 0) (.hp 4 0) (.hp 5 0) (iD x.1) H=some (.tup [],H')/\J5 l x H' (fl [(op,JL a b x.1)]++(fl (pB x)++fl (pC x (Bj l 1)))):=by
 have c:=Jvq a b x.1 e;obtain⟨i,f,g⟩:=iP l x H H [] op (AL (JL a b x.1)) (JL a b x.1) h (Kp.refl _ _) (.inl rfl) c (by simp);obtain⟨d,j,n⟩:=A9 l x i _ g k (by simp;omega);refine⟨d,?_,by rw[Zm];simpa using n⟩;unfold gG;simp only[Jxt _ _ _ m,A7,f,j]
def Qfb(l:Ac Nd)(x:Nd)(H:Ae)(h:J5 l x H [])(g:x.1=25->1<l.length):
  ∃H',iA Aa (Jm Aa) (.hp 1 0) (.hp 3 0) (.hp 4 0) (.hp 5 0) (iD x.1) H=some (.tup [],H')/\J5 l x H' (fl (if x.1=2 then[(4,[GX (1-x.2)])]else[])++(fl (pB x)++fl (pC x (Bj l 1)))):=by
 have n:AP 1 (.hp 4 0)=some (.hp 4 1):=rfl;have m:Ai none H (.hp 4 1)=some (iD x.2):=D6 _ _ _ _ _ _ _ h.node rfl;unfold iA;by_cases c:x.1=2
 ·have b:(x.1==2)=true:=by rw[c];rfl
  have e:EJ .sub .i64 1 x.2=some (iD (GX (1-x.2))):=rfl;obtain⟨k,i,j⟩:=iP l x H (H++[.cells 3 1 (BP [GX (1-x.2)])]) [] 4 (.hs H.length 1) [GX (1-x.2)] h (Kp.app _ _ _ (BQ _)) (M0 3 [GX (1-x.2)] H) (by simp) (by simp);obtain⟨a,f,d⟩:=A9 l x k _ j g (by simp);refine⟨a,?_,by rw[Aw c,Zm];simpa using d⟩;simp only[Nk,b,AU,Bd,Bv,n,m,QE,e,Im,A7,i,f]
 ·have b:(x.1==2)=false:=by grind
  obtain⟨a,f,d⟩:=A9 l x H [] h g (by simp);refine⟨a,?_,by rw[Am c];simpa[fl]using d⟩;simp_all
def Jpe(l:Ac Nd)(x:Nd)(H:Ae)(h:J5 l x H [])(d:x.1=25->1<l.length):
  ∃H',N4 Aa (Jm Aa) (.hp 1 0) (.hp 3 0) (.hp 4 0) (.hp 5 0) (iD x.1) H=some (.tup [],H')/\J5 l x H' (fl (if x.1=1 then[(4,Nr x.2 [0,1,-1,GX (x.2+1),GX (x.2-1)])]else if x.1=2 then[(4,[GX (1-x.2)])]else[])++(fl (pB x)++fl (pC x (Bj l 1)))):=by
 have k:AP 1 (.hp 4 0)=some (.hp 4 1):=rfl;have r:Ai none H (.hp 4 1)=some (iD x.2):=D6 _ _ _ _ _ _ _ h.node rfl;unfold N4;by_cases g:x.1=1
 ·have b:(x.1==1)=true:=by rw[g];rfl
  have e:EJ .sub .i64 x.2 1=some (iD (GX (x.2-1))):=rfl;have n:EJ .add .i64 x.2 1=some (iD (GX (x.2+1))):=rfl;obtain⟨m,s,q,u,v⟩:=JaO 5 (.inr rfl) x.2 3 [0,1,-1,GX (x.2+1),GX (x.2-1)] H rfl;have a:=Jc0 x.2 [0,1,-1,GX (x.2+1),GX (x.2-1)];simp only[Ej,Hf]at a;obtain⟨j,o,p⟩:=iP l x H m [] 4 _ _ h u q (by omega) (by simp);obtain⟨c,i,f⟩:=A9 l x j _ p d (by simp;omega);refine⟨c,?_,by rw[Aw g,Zm];simpa using f⟩;simp only[Nk,b,AU,Bd,Bv,k,r,QE,Ll,e,n,JyD,A7,s,o,i]
 ·have b:(x.1==1)=false:=by grind
  obtain⟨c,i,f⟩:=Qfb l x H h d;simp_all
def JkP(l:Ac Nd)(x:Nd)(H:Ae)(h:J5 l x H [])(d:x.1=25->1<l.length):
  ∃H',rY Aa (Jm Aa) (.hp 1 0) (.hp 3 0) (.hp 4 0) (.hp 5 0) (iD x.1) H=some (.tup [],H')/\J5 l x H' (PR x (Bj l 1)):=by
 rw[Jme];by_cases n:7<=x.1/\x.1<=11
 ·obtain⟨a,f,g⟩:=fL l x H 7 11 1 h d (by omega) (by omega);refine⟨a,?_,by unfold pA;grind⟩
  unfold rY;simp_all
 have k:rY Aa (Jm Aa) (.hp 1 0) (.hp 3 0) (.hp 4 0) (.hp 5 0) (iD x.1) H=kM Aa (Jm Aa) (.hp 1 0) (.hp 3 0) (.hp 4 0) (.hp 5 0) (iD x.1) H:=by
  unfold rY;by_cases c:7<=x.1
  ·have b:¬x.1<=11:=fun e=>n ⟨c,e⟩;simp only[Zn,xN,c,b,decide_true,decide_false,AU,Bd,Bv,BF,BC]
  ·simp only[Zn,c,decide_false,AU,Bd,BF,BC]
 rw[k];by_cases j:12<=x.1/\x.1<=17
 ·obtain⟨a,f,g⟩:=fL l x H 12 17 2 h d (by omega) (by omega);refine⟨a,?_,by unfold pA;grind⟩
  unfold kM;simp_all
 have m:kM Aa (Jm Aa) (.hp 1 0) (.hp 3 0) (.hp 4 0) (.hp 5 0) (iD x.1) H=wV Aa (Jm Aa) (.hp 1 0) (.hp 3 0) (.hp 4 0) (.hp 5 0) (iD x.1) H:=by
  unfold kM;by_cases c:12<=x.1
  ·have b:¬x.1<=17:=fun e=>j ⟨c,e⟩;simp only[Zn,xN,c,b,decide_true,decide_false,AU,Bd,Bv,BF,BC]
  ·simp only[Zn,c,decide_false,AU,Bd,BF,BC]
 rw[m];by_cases o:x.1=18\/x.1=19
 ·obtain⟨a,f,g⟩:=fL l x H 18 19 3 h d (by omega) (by omega);refine⟨a,?_,by unfold pA;grind⟩
  unfold wV;by_cases i:x.1=18
  ·simp_all
  simp_all
 obtain⟨a,f,g⟩:=Jpe l x H h d;refine⟨a,?_,by unfold pA;grind⟩
 unfold wV;simp_all
def B9(e:Int×Int):Dl:=⟨[],e.1,e.2⟩
def NH(l:Ac Nd)(i:Int):Ac Dl:=(Lh l i).map B9
theorem Jdd{S i:Nat->Prop}{L:Ac (Nat×Nat)}{w:AA}:∀(out:Ac (Int×Int)) (xs:Ac Ap),Au S L w xs (Oz out)->Au i [] w xs ((out.map B9).map Ie).flatten
 |[],xs,h=>by simpa only[Oz,J7,PT,Au]using h
 |x::r,xs,h=>by
  have e:Oz (x::r)=Aq::iD x.1::iD x.2::Oz r:=rfl;have k:(((x::r).map B9).map Ie).flatten=AL []::iD x.1::iD x.2::((r.map B9).map Ie).flatten:=rfl;rw[e]at h;rw[k];simp only[Au,Rep]at h⊢;obtain⟨a,t,g,n,b,u,j,f,c,v,m,d,l⟩:=h;refine⟨a,t,g,?_,b,u,j,f,c,v,m,d,Jdd r v l⟩;simp only[AL,J7,Rep]
  grind
def My(P:Aj):GT:=CO P (Nh P (Jm P)) QG 0 284
def JzI(ds:Ac D)(H:Ae):My Aa ds H=AB Aa (Nh Aa (Jm Aa)) QG 0 f284 ds H:=CJ func284 ds H
def Jmh:BN Aa 284 (My Aa):=CQ (JiF (Jm Aa) Qeb) AX func284
def Qa5(l:Ac Nd)(i:Int)(h:l.length<=3000000)(H:Ae):DX Vt [A8 l,iD i] H=some (A8 (Fb l i),H):=by
 rw[V9 _ _ _ rfl];simp[Vt,h]
def Jwg(l:Ac Nd)(i:Int):Lh l i=if(Fb l i).length=0 then[]else PR (Bj (Fb l i) 0) (Bj (Fb l i) 1):=by
 by_cases a:0<=Bc l i
 ·obtain⟨c,b⟩:=JdB a;rw[Am (by omega),<-Qbe l i];unfold Lh
  grind
 ·have hp:Fb l i=[]:=by unfold Fb;rw[Aw (by omega)]
  rw[hp];unfold Lh
  grind
def Qat(l:Ac Nd)(i:Int)(h:l.length<=3000000):∃d H',My Aa [A8 l,iD i] []=some (d,H')/\Buf 103 3 H' 0 d (Lh l i).length (Oz (Lh l i)):=by
 rw[JzI,QcA,Jwg];have hp:=Qa5 l i h [.cells 118 1 [Aq]];have z:BX 118 [Aq] []=some (.hp 0 0,[.cells 118 1 [Aq]]):=rfl;have m:0<=Bc l i->Bc (Fb l i) 0=(Fb l i).length:=fun k=>(JdB k).1;have v:Bc l i<0->Fb l i=[]:=fun k=>by unfold Fb;rw[Aw k]
 by_cases s:(Fb l i).length=0
 ·rw[Aw s];refine⟨Aq,[.cells 118 1 [Aq]],?_,Buf.nil _ _ _ _⟩;have j:¬(0:Int)<((Fb l i).length:Int):=by omega
  have G:Ai none [.cells 118 1 [Aq]] (.hp 0 0)=some Aq:=rfl;simp only[z,A7,hp,wE,AU,tZ,j,decide_false,Bd,BF,BC,G]
 ·rw[Am s];have k:0<=Bc l i:=by grind
  have J:=m k;generalize Fb l i=a at*;have b:0<a.length:=by omega
  have j:(0:Int)<(a.length:Int):=by omega
  have p:Bj a 0=a[0]:=ZN a 0 b;have c:(Bj a 0).1=25->1<a.length:=fun e=>by
   have:=Jdr a 0 (by grind) e;omega
  have P:Hh Aa [A8 a] [.cells 118 1 [Aq]]=some (.clo (.func 353) [] [.hp 1 0],[.cells 118 1 [Aq],.cells 23 1 [A8 a]]):=by rfl
  have g:J5 a (Bj a 0) [.cells 118 1 [Aq],.cells 23 1 [A8 a],LG f284 .ready,.cells 477 1 [.yld 2],.cells 44 2 [iD (Bj a 0).1,iD (Bj a 0).2],.cells 4 1 [bD true]] []:=
   ⟨by simp,⟨_,rfl,Buf.nil _ _ _ _⟩,rfl,rfl,rfl,rfl,rfl⟩
  obtain⟨H',u,D⟩:=JkP a (Bj a 0) _ g c;have F:yL Aa (Jm Aa) [.yld 2,.hp 1 0] [.cells 118 1 [Aq],.cells 23 1 [A8 a],LG f284 .ready]=some (.tup [],H'):=by
   rw[QeU,Jlj];unfold AV Ce Dw;have w:BG 2 (A8 a) (iD 0)=some (.ptr (Cb a[0])):=Oi a 0 b;have x:BA 477 (.yld 2) [.cells 118 1 [Aq],.cells 23 1 [A8 a],LG f284 .ready]=some (.hp 3 0,[.cells 118 1 [Aq],.cells 23 1 [A8 a],LG f284 .ready,.cells 477 1 [.yld 2]]):=rfl;have n:Ai none [.cells 118 1 [Aq],.cells 23 1 [A8 a],LG f284 .ready,.cells 477 1 [.yld 2]] (.hp 1 0)=some (A8 a):=rfl;have o:Ai (some 2) [.cells 118 1 [Aq],.cells 23 1 [A8 a],LG f284 .ready,.cells 477 1 [.yld 2]] (.ptr (Cb a[0]))=some (.agg (Cb a[0])):=rfl;rw[p]at u;simp only[x,A7,n,AU,w,o];exact u
  obtain⟨H,⟨d,O,I⟩,Q,B,M,R,N⟩:=D;have K:IK (Nh Aa (Jm Aa)) (.clo (.func 353) [] [.hp 1 0]) [19,20] (ET f284 0) (EL f284 0) 35 QG [.hp 0 0,.undef,.undef,.undef,.undef] [.cells 118 1 [Aq],.cells 23 1 [A8 a]]=some (.normal,H'.set 2 .dead):=by
   have E:IK (Nh Aa (Jm Aa)) (.clo (.func 353) [] [.hp 1 0]) [19,20] (ET f284 0) (EL f284 0) 35 QG [.hp 0 0,.undef,.undef,.undef,.undef] [.cells 118 1 [Aq],.cells 23 1 [A8 a]]=
    MQ (yL Aa (Jm Aa) [.yld 2,.hp 1 0] [.cells 118 1 [Aq],.cells 23 1 [A8 a],LG f284 .ready]) 2:=rfl
   rw[E,F];unfold MQ;simp only[B];rfl
  have C:(H'.set 2 HO.dead)[0]? =some (.cells 118 1 [d]):=by grind
  have S:=Gs _ 0 _ _ _ _ C;refine⟨d,H'.set 2 .dead,?_,?_⟩
  ·simp_all
  ·rcases I.set 2 .dead (by omega)with q|⟨r,L,y⟩
   ·exact .inl q
   ·exact .inr ⟨r,F9 _,y⟩
def iR:Ac D->Af D:=F2 wO BV fun l i=>if l.length<=3000000 then some (EH (NH l i))else none
def JlU:Hr Aa 284 iR:=Qeu Jmh fun ds d a=>by
 unfold iR F2 at a;split at a
 ·obtain⟨l,n,a⟩:=Bi.1 a;obtain⟨i,j,a⟩:=Bi.1 a;simp only at a;split at a
  case isFalse=>cases a
  rename_i m;cases a;obtain⟨c,H',g,k⟩:=Qat l i m;exact⟨3,_,_,(NH l i).map Ie,[A8 l,iD i],c,H',_,rfl,.cons (wO.ok _ _ n) (.cons (BV.ok _ _ j) .nil),g,k,by omega,by simp[NH],fun e h=>by obtain⟨x,_,rfl⟩:=GN.1 h;rfl,fun S o L w xs b=>Jdd _ xs b⟩
 ·cases a
def JlT(l:Ac Nd)(i:Int)(h:l.length<=3000000)(H:Ae):DX iR [A8 l,iD i] H=some (EH (NH l i),H):=by
 rw[V9 _ _ _ rfl];have:iR [A8 l,iD i]=_:=JU (A:=wO) (B:=BV) _ l i
 grind
def Jhk(P:Aj):Ac Cj:=(284,true,DX iR)::yE P
def Qcd:∀p∈Jhk Aa,Ci Aa p:=AC (Jy JlU)<|CI
section
set_option maxRecDepth 100000
end
instance (l:Ac Nd)(i op n:Int):Decidable (RG l i op n):=by unfold RG;infer_instance
def Jbo(P:Aj):Ac Cj:=Jhk P
def Jnz:∀p∈Jbo Aa,Ci Aa p:=Qcd
section
set_option maxRecDepth 100000
end
def Up(l:Ac Int):Prop:=∀p q,p<q->q<l.length->l.getD p 0<l.getD q 0
def Jiq{t:AQ}{H:Ae}{B:Nat}{d x:D}{l new:Ac Int}(h:Buf t 1 H B d l.length (BP l))(hs:GV 1 H x=some (BP new))(n:l.length+new.length<=1000000)(c:B<=H.length):
  ∃a H',D5 t 1 d x H=some (a,H')/\Buf t 1 H' B a (l++new).length (BP (l++new))/\Kp B H H'/\H.length<=H'.length/\(∀k,k<H.length->(∀q,d≠ .hs k q)->H'[k]? =H[k]?)/\(∀k q,k<H.length->(∀q,d≠ .hs k q)->a≠ .hs k q):=by
 obtain⟨a,H',g,f,b,e,o⟩:=nN (m:=new.length) h (by omega) (by rw[TK];omega) (JjR new) (by rw[TK,TK];omega) c;refine⟨a,H',by unfold D5;rw[hs];exact g,by rw[DC,JgJ];exact f,b,b.1,e,fun k q j i=> ?_⟩
 grind
def Jeu(P:Aj):Ac Cj:=Jbo P
def Jry:∀p∈Jeu Aa,Ci Aa p:=Jnz
section
set_option maxRecDepth 100000
end
def JbG(P:Aj):Ac Cj:=Jeu P
def Jpv:∀p∈JbG Aa,Ci Aa p:=Jry
section
set_option maxRecDepth 100000
end
def Jjz(P:Aj):Ac Cj:=(328,true,DX Vt)::JbG P
def JlB:∀p∈Jjz Aa,Ci Aa p:=AC (Jy Jj9)<|Jpv
section
open Go.RowKit Go.Shelf
attribute [local go_sem] Oper.semAt_some
def Jp7(l:Ac Nd)(i:Int)(h:Bc l 0=l.length)(xs:Ac UW)(a:xs.map Rk=GL (l.length+1) l 0 [])(c:∀x∈xs,x.1≠i):Fa l i=none:=by
 rw[Fa,Aw h,<-a,Option.map_eq_none_iff,List.find?_eq_none];intro y b;obtain⟨x,a,rfl⟩:=GN.1 b;simpa[Rk]using c x a
def Jm7(l:Ac Nd)(i:Int)(h:Bc l 0=l.length)(pre:Ac UW)(x:UW)(a:(pre++[x]).map Rk<+:GL (l.length+1) l 0 [])(e:∀x∈pre,x.1≠i)(f:x.1=i):Fa l i=some x.2.2:=by
 obtain⟨r,c⟩:=a;rw[Fa,Aw h,<-c,JE,FV,List.find?_append];have d:(pre.map Rk).find? (fun x=>x.1==i)=none:=by
  rw[List.find?_eq_none];intro y b;obtain⟨x,a,rfl⟩:=GN.1 b;simpa[Rk]using e x a
 rw[d];simp[Rk,f]
def eC{fn:Func}{p q:Tmp}{e d:AQ}(h:fn.results= #[.cell p e,.cell q d])(tmps:CX Ap)(P:Aj)(w:AA){a b:Addr}{v u:Ap}
  (hp:tmps.getD p undef= .pointer (some a)) (c:tmps.getD q undef= .pointer (some b)) (g:(loadVar e a).run P w= .ok v w) (f:(loadVar d b).run P w= .ok u w):(results fn tmps).run P w= .ok (.tuple #[v,u]) w:=by
 rw[rA]at hp c;simp only[results,h];simp[Sem.run_bind,Result.andThen,hp,c,asAddr,g,f]
def eE(w:AA)(b:Nat)(v:Ap)(h:Boxed w b 22 v):(loadVar 22 ⟨b,0,none⟩).run prog w= .ok v w:=by
 have a:=h.cell;simp[loadVar,go_sem,a]
def iS(w:AA)(b:Nat)(v:Ap)(h:Boxed w b 4 v):(loadVar 4 ⟨b,0,none⟩).run prog w= .ok v w:=by
 have a:=h.cell;simp[loadVar,go_sem,a]
def O7(S:Nat->Prop)(s:Nat)(k:Nat):Prop:=k=s+1\/k=s+1+1\/(k<s/\¬S k)
def Jfl{S:Nat->Prop}{s k:Nat}(h:O7 S s k):k<s+3:=by unfold O7 at h;omega
def iV{S:Nat->Prop}{s k:Nat}(h:s+3<=k):¬O7 S s k:=fun q=>by have:=Jfl q;omega
def JtM{S:Nat->Prop}{s k:Nat}(h:S k)(a:k<s):¬O7 S s k:=by
 rintro(q|q|⟨_,q⟩)
 ·omega
 ·omega
 ·exact q h
def Jux{S:Nat->Prop}{s n k:Nat}(h:¬O7 S s k/\k<n):S k\/(s<=k/\k<n):=by
 by_cases a:k<s
 ·by_cases hs:S k
  ·exact .inl hs
  ·exact absurd (.inr (.inr ⟨a,hs⟩)) h.1
 omega
set_option maxRecDepth 100000 in
set_option maxHeartbeats 4000000 in
theorem QbF (l : Ac Nd) (i : Int) (v : Ap) (w : AA) (S : Nat → Prop) (hS : ∀ k, S k → k < w.heap.size) (hv : E8 S w v l) (hl : l.length ≤ 3000000) :
    Calls prog 283 #[v, .int .i64 i] w fun e w' => ∃ u, e = .returned (.tuple #[u, .bool (Fa l i).isSome]) ∧ IntsIn (fun k => S k ∨ (w.heap.size ≤ k ∧ k < w'.heap.size)) w' u ((Fa l i).getD []) ∧ Below w.heap.size w w' := by
  refine (callsIn_wide (n := 0)).1 ?_
  refine callsIn_of_wp_marks func283 rfl trivial ?_ rfl
  simp only [ntmps283, SX, Ej, Hf, Nat.reduceAdd, Nat.reduceSub, Zf, Zg, Zh, Zi, JO, Jd]
  have hvA : Ip w v l := hv.mono hS
  have hls := E8.isSlice hv
  have hlen : l.length ≤ 4000000 := by omega
  obtain ⟨W0, hW0⟩ : ∃ W0, ((w.alloc (.cells #[.int .i64 i] 3)).alloc (.cells #[.slice none 0 0] 22)).alloc (.cells #[.bool false] 4) = W0 := ⟨_, rfl⟩
  have b1 : Boxed W0 w.heap.size 3 (.int .i64 i) := by rw [← hW0]; exact ((Boxed.new _ _ _).alloc _).alloc _
  have b2 : Boxed W0 (w.heap.size + 1) 22 (.slice none 0 0) := by rw [← hW0]; have := Boxed.new (w.alloc (.cells #[.int .i64 i] 3)) 22 (.slice none 0 0); rw [S9] at this; exact this.alloc _
  have b3 : Boxed W0 (w.heap.size + 1 + 1) 4 (.bool false) := by rw [← hW0]; have := Boxed.new ((w.alloc (.cells #[.int .i64 i] 3)).alloc (.cells #[.slice none 0 0] 22)) 4 (.bool false); simp_all
  have hB0 : Below w.heap.size w W0 := by rw [← hW0]; exact (((Below.refl _ w).alloc (BQ _) _).alloc (by simp) _).alloc (by simp; omega) _
  have hv0 : Ip W0 v l := E8.below hvA hB0
  have HW := Lib.hid hW0
  clear hW0
  have hc1 := b1.cell
  by_cases hE : Bc l 0 = l.length
  · have hE' : (Bc l 0 != (l.length : Int)) = false := by simp [hE]
    have hEH := Lib.hid hE
    clear hE
    obtain ⟨pv, cv, hvs⟩ := E8.slice hv
    subst hvs
    gi_wp2_with (fail)
    rw [HW.out]
    refine (callsIn_wide.2 (LY l _ _ _ hv0 hlen)).mono ?_
    rintro e w1 ⟨rfl, hb1⟩
    have hB1 : Below w.heap.size w w1 := hB0.trans (hb1.mono hB0.size)
    have hz0 : w.heap.size + 2 < W0.heap.size := b3.lt
    have c1 := (hb1.cell (p := ⟨w.heap.size, 0, none⟩) (by grind)).trans b1.cell
    have hk1 := gX hb1
    have b1' : Boxed w1 w.heap.size 3 (.int .i64 i) := (hb1.block _ (by omega)).trans b1
    have b2' : Boxed w1 (w.heap.size + 1) 22 (.slice none 0 0) := (hb1.block _ (by omega)).trans b2
    have b3' : Boxed w1 (w.heap.size + 1 + 1) 4 (.bool false) := (hb1.block _ (by omega)).trans b3
    gi_wp2_with (gi_at_call 327; refine (callsIn_wide.2 (Jgf _ _ _ hls ⟨none, 0, 0, rfl⟩ _)).mono ?_; rintro e w2 ⟨rfl, rfl⟩)
    obtain ⟨w2, hw2⟩ : ∃ w2, ((w1.alloc (.cells #[.slice pv l.length cv] 23)).alloc (.cells #[.int .i64 0] 3)).alloc (.cells #[.slice none 0 0] 22) = w2 := ⟨_, rfl⟩
    rw [hw2]
    have hsz1 := hb1.size
    obtain ⟨q1, q2, q3⟩ := Jb4 w1 (.slice pv l.length cv) (.int .i64 0) (.slice none 0 0) 23 3 22
    rw [hw2] at q1 q2 q3
    have hb2 : Below w1.heap.size w1 w2 := by rw [← hw2]; exact (((Below.refl _ w1).alloc (BQ _) _).alloc (by simp) _).alloc (by simp; omega) _
    have hz2 : w2.heap.size = w1.heap.size + 3 := by rw [← hw2]; simp
    have hB2 : Below w.heap.size w w2 := hB1.trans (hb2.mono hB1.size)
    clear hw2
    have d1 : Boxed w2 w.heap.size 3 (.int .i64 i) := (hb2.block _ (by omega)).trans b1'
    have d2 : Boxed w2 (w.heap.size + 1) 22 (.slice none 0 0) := (hb2.block _ (by omega)).trans b2'
    have d3 : Boxed w2 (w.heap.size + 1 + 1) 4 (.bool false) := (hb2.block _ (by omega)).trans b3'
    have hXv : E8 (fun k => ¬ O7 S w.heap.size k ∧ k < w2.heap.size) w2 (.slice pv l.length cv) l := (E8.kept hv (Tq hB2 hS)).mono (fun k hk => ⟨JtM hk (hS k hk), by have := hS k hk; omega⟩)
    refine kI (gf := 352) (lb := #[.pointer (some ⟨w1.heap.size + 1, 0, none⟩), .pointer (some ⟨w1.heap.size + 1 + 1, 0, none⟩), .pointer (some ⟨w1.heap.size, 0, none⟩)]) rfl (enters_of func352 (by kernel_rfl) rfl)
      (encs := Z7) (G := yT (O7 S w.heap.size)) (Kp := GI (O7 S w.heap.size) (w2.heap.size + 2)) (N := (GL (l.length + 1) l 0 []).length) (R := U0 (GL (l.length + 1) l 0 [])) (fun _ => rfl)
      (fun W' hb' hs' => by
        have hkW : GI (O7 S w.heap.size) w2.heap.size w2 W' := TP hb'
        have := QaC l (.slice pv l.length cv) hlen (O7 S w.heap.size) (l.length + 1) 0 [] (.slice none 0 0) w1.heap.size (w1.heap.size + 1) (w1.heap.size + 1 + 1) W' (by omega) (by omega) (by omega) (by simp; omega) (fun k hk => by have := Jfl hk; omega)
          (iV (by omega)) (iV (by omega)) (iV (by omega)) (hkW.cell (p := ⟨w1.heap.size, 0, none⟩) (iV (by grind)) q1) (hkW.cell (p := ⟨w1.heap.size + 1, 0, none⟩) (iV (by grind)) q2) (hkW.cell (p := ⟨w1.heap.size + 1 + 1, 0, none⟩) (iV (by grind)) q3)
          (Gp.keptBut hXv hkW) (.inl ⟨none, 0, rfl, rfl, rfl, fun _ => rfl⟩)
        rwa [hs'] at this)
      (fun h h' => h.trans h') (fun U q o o' h1 h2 h3 h4 _ => Od U q o o' h2 h3 h4)
      (fun pre U => (∀ x, x ∈ pre → x.1 ≠ i) ∧ Below w.heap.size w U ∧ Boxed U w.heap.size 3 (.int .i64 i) ∧ Boxed U (w.heap.size + 1) 22 (.slice none 0 0) ∧ Boxed U (w.heap.size + 1 + 1) 4 (.bool false))
      (fun cc pre U => cc = .ret ∧ Below w.heap.size w U ∧ ∃ (pre0 : Ac UW) (x : UW), pre = pre0 ++ [x] ∧ (∀ x, x ∈ pre0 → x.1 ≠ i) ∧ x.1 = i ∧ Boxed U (w.heap.size + 1) 22 x.2.1 ∧ Boxed U (w.heap.size + 1 + 1) 4 (.bool true) ∧ yT (O7 S w.heap.size) x U)
      ?hI ?hIx ?hG ?h0
      (fun x => { tmps := #[.slice pv l.length cv, .int .i64 i, undef, .pointer (some ⟨w.heap.size, 0, none⟩), .pointer (some ⟨w.heap.size + 1, 0, none⟩), .pointer (some ⟨w.heap.size + 1 + 1, 0, none⟩), .int .i64 x.1, x.2.1, .slice pv l.length cv, .int .i64 (Bc l 0), .slice pv l.length cv, .int .i64 l.length, .bool false, .slice pv l.length cv, .func (.func 352) #[] #[.pointer (some ⟨w1.heap.size + 1, 0, none⟩), .pointer (some ⟨w1.heap.size + 1 + 1, 0, none⟩), .pointer (some ⟨w1.heap.size, 0, none⟩)], .int .i64 x.1, x.2.1, undef, undef, undef, undef], defers := [] }) ?assign ?body ?done ?stop
    case hI =>
      exact OwnFrom.and (ownFrom_pure _ _) (OwnFrom.and (ownFrom_below (BQ _) (by omega)) (OwnFrom.and (Own.from (boxed_own _ _ _) _) (OwnFrom.and (Own.from (boxed_own _ _ _) _) (Own.from (boxed_own _ _ _) _))))
    case hIx =>
      intro cc
      refine OwnFrom.and (ownFrom_pure _ _) (OwnFrom.and (ownFrom_below (BQ _) (by omega)) ?_)
      rintro pre A C row ⟨pre0, x, h1, h2, h3, h4, h5, h6⟩ hg hr
      exact ⟨pre0, x, h1, h2, h3, (Own.from (boxed_own _ _ (fun _ : Unit => x.2.1)) _) () A C row h4 hg hr, (Own.from (boxed_own _ _ (fun _ : Unit => Value.bool true)) _) () A C row h5 hg hr, LL () A C row h6 hg hr⟩
    case hG => exact fun x => LL
    case h0 => grind
    case assign =>
      intro lq x U K hK
      dsimp only [Z7]
      gi_wp2
      exact hK
    case body =>
      rintro lq pre ⟨xi, xv, xp⟩ U ⟨hn, hBU, e1, e2, e3⟩ hgx hlenN
      obtain ⟨px, cx, hxs⟩ := IntsIn.slice hgx
      dsimp only at hxs
      subst hxs
      have g1 := e1.cell
      by_cases hxi : xi = i
      · have hxb : (xi == i) = true := by simp [hxi]
        have HX := Lib.hid hxi
        clear hxi
        have g2 := e2.cell
        have g3 := e3.cell
        have f2 := e2.frozen
        have f3 := e3.frozen
        gi_wp2
        have k1 : GI (O7 S w.heap.size) (w2.heap.size + 2) U (U.setCell ⟨w.heap.size + 1, 0, none⟩ (.slice px xp.length cx)) := SP U (.inl rfl) _
        have k2 : GI (O7 S w.heap.size) (w2.heap.size + 2) U ((U.setCell ⟨w.heap.size + 1, 0, none⟩ (.slice px xp.length cx)).setCell ⟨w.heap.size + 1 + 1, 0, none⟩ (.bool true)) := k1.trans (SP _ (.inr (.inl rfl)) _)
        refine ⟨((KeepsOthers.setCell _ _ _).trans (KeepsOthers.setCell _ _ _)).from _, k2, rfl, (hBU.setCell (p := ⟨w.heap.size + 1, 0, none⟩) (by simp) _).setCell (p := ⟨w.heap.size + 1 + 1, 0, none⟩) (by grind) _, pre, (xi, .slice px xp.length cx, xp), rfl, hn, HX.out, ?_, ?_, Gp.keptBut hgx k2⟩
        · exact (e2.set _).other (by omega) _
        · exact (e3.other (by omega) _).set _
      · have hxb : (xi == i) = false := by simp [hxi]
        gi_wp2
        refine ⟨KeepsFrom.refl _ _, GI.refl _ _ _, fun y hy => ?_, hBU, e1, e2, e3⟩
        grind
    case done =>
      rintro D ys U hD hR ⟨hn, hBU, e1, e2, e3⟩ hK
      have g2 := e2.cell
      have g3 := e3.cell
      have f2 := e2.frozen
      have f3 := e3.frozen
      gi_wp2
      have hs1 := (e2.set (.slice none 0 0)).other (B' := w.heap.size + 1 + 1) (by omega) (.bool false)
      have hs2 := (e3.other (B' := w.heap.size + 1) (by omega) (.slice none 0 0)).set (.bool false)
      have hK' := ((KeepsOthers.setCell U ⟨w.heap.size + 1, 0, none⟩ (.slice none 0 0)).trans (KeepsOthers.setCell _ ⟨w.heap.size + 1 + 1, 0, none⟩ (.bool false))).same D _ hK rfl
      refine ⟨by simp, .inl ⟨_, _, rfl, run_takeDeferred hK', ?_⟩⟩
      have HO : Fa l i = none := Jp7 l i hEH.out ys (by simpa [U0] using hR) hn
      have hBs := (hBU.setCell (p := ⟨w.heap.size + 1, 0, none⟩) (by simp) (.slice none 0 0)).setCell (p := ⟨w.heap.size + 1 + 1, 0, none⟩) (by grind) (.bool false)
      exact ⟨_, eC rfl _ _ _ rfl rfl (eE _ _ _ (HP hs1 _ (by omega))) (iS _ _ _ (HP hs2 _ (by omega))), .slice none 0 0, by rw [HO]; rfl, by rw [HO]; exact .inl ⟨none, 0, rfl, rfl, rfl, fun _ => rfl⟩,
        hBs.trans (belowK_b (w := w) (BQ _) _ D _ _ (by omega) hK' rfl rfl)⟩
    case stop =>
      rintro D cc ys U hD hR ⟨rfl, hBU, pre0, x, h1, h2, h3, h4, h5, h6⟩ hK
      gi_wp2
      refine ⟨by simp, .inl ⟨_, _, rfl, run_takeDeferred hK, ?_⟩⟩
      have HO : Fa l i = some x.2.2 := Jm7 l i hEH.out pre0 x (by rw [← h1]; simpa [U0] using hR) h2 h3
      have h6' : yT (O7 S w.heap.size) x (U.putObj D (.deferred none)) := LL (B := w.heap.size) () U _ (some D) h6 (grownBy_putObj' U D _) (fun r e => by cases e; exact ⟨by omega, _, hK, rfl⟩)
      exact ⟨_, eC rfl _ _ _ rfl rfl (eE _ _ _ (HP h4 _ (by omega))) (iS _ _ _ (HP h5 _ (by omega))), x.2.1, by rw [HO]; rfl, by rw [HO]; exact IntsIn.mono h6' (fun k hk => Jux hk),
        hBU.trans (belowK_b (w := w) (BQ _) U D _ _ (by omega) hK rfl rfl)⟩
  · have hE' : (Bc l 0 != (l.length : Int)) = true := by simp [hE]
    have HO := Lib.hid (fT l i hE)
    clear hE
    obtain ⟨pv, cv, hvs⟩ := E8.slice hv
    subst hvs
    gi_wp2_with (fail)
    rw [HW.out]
    refine (callsIn_wide.2 (LY l _ _ _ hv0 hlen)).mono ?_
    rintro e w1 ⟨rfl, hb1⟩
    have hB1 : Below w.heap.size w w1 := hB0.trans (hb1.mono hB0.size)
    have hz0 : w.heap.size + 2 < W0.heap.size := b3.lt
    have b2' : Boxed w1 (w.heap.size + 1) 22 (.slice none 0 0) := (hb1.block _ (by omega)).trans b2
    have b3' : Boxed w1 (w.heap.size + 1 + 1) 4 (.bool false) := (hb1.block _ (by omega)).trans b3
    have c2 := b2'.cell
    have c3 := b3'.cell
    have f2 := b2'.frozen
    have f3 := b3'.frozen
    gi_wp2_with (fail)
    have hs1 := (b2'.set (.slice none 0 0)).other (B' := w.heap.size + 1 + 1) (by omega) (.bool false)
    have hs2 := (b3'.other (B' := w.heap.size + 1) (by omega) (.slice none 0 0)).set (.bool false)
    exact ⟨_, eC rfl _ _ _ rfl rfl (eE _ _ _ hs1) (iS _ _ _ hs2), .slice none 0 0, by rw [HO.out]; rfl, by rw [HO.out]; exact .inl ⟨none, 0, rfl, rfl, rfl, fun _ => rfl⟩,
      (hB1.setCell (p := ⟨w.heap.size + 1, 0, none⟩) (by simp) _).setCell (p := ⟨w.heap.size + 1 + 1, 0, none⟩) (by grind) _⟩
end
def Q8(l:Ac Nd)(t:Int):Nat->Nat->Int×Int
 |0,_=>(-1,0)
 |n+1,i=>match(AZ l i).findIdx? (· ==t)with|some k=>((i:Int),(k:Int))|none=>Q8 l t n (i+1)
section
def Vp(l:Ac Nd):Nat->Int->Af (Ac Int)
 |0,_=>none
 |f+1,i=>if Bc l 0=l.length/\0<=i/\i<l.length then(if i=0 then some []else(Vp l f (Q8 l i i.toNat 0).1).map (· ++[(Q8 l i i.toNat 0).2]))else none
theorem JcI(l:Ac Nd)(t:Int):∀(n i:Nat),(Q8 l t n i).1<i+n/\ -1<=(Q8 l t n i).1
 |0,i=>by simp only[Q8];omega
 |n+1,i=>by
  have:=JcI l t n (i+1);rw[Q8];split
  ·simp only[];omega
  ·omega
def Jdl(l:Ac Nd)(f:Nat)(i:Int)(h:¬(Bc l 0=l.length/\0<=i/\i<l.length)):Vp l f i=none:=by
 cases f with
 |zero=>rfl
 |succ f=>rw[Vp,Am h]
def JbS(l:Ac Nd)(f:Nat)(h:Bc l 0=l.length/\(0:Int)<=0/\(0:Int)<l.length):Vp l (f+1) 0=some []:=by rw[Vp,Aw h,Aw rfl]
def JjA(l:Ac Nd)(f:Nat)(i:Int)(h:Bc l 0=l.length/\0<=i/\i<l.length)(a:i≠0):Vp l (f+1) i=(Vp l f (Q8 l i i.toNat 0).1).map (· ++[(Q8 l i i.toNat 0).2]):=by rw[Vp,Aw h,Am a]
set_option maxRecDepth 100000
end
theorem Jke(l:Ac Nd)(t:Int):∀(n i:Nat),(∃j c:Nat,i<=j/\j<i+n/\∃b:c<(AZ l j).length,(AZ l j)[c]=t)->
  ∃j c:Nat,i<=j/\j<i+n/\Q8 l t n i=((j:Int),(c:Int))/\∃b:c<(AZ l j).length,(AZ l j)[c]=t
 |0,i,⟨j,c,m,s,_⟩=>by omega
 |n+1,i,⟨j,c,m,s,b,f⟩=>by
  cases a:(AZ l i).findIdx? (· ==t)with
  |some k=>
   obtain⟨o,e,_⟩:=List.findIdx?_eq_some_iff_getElem.1 a;exact⟨i,k,BQ _,by omega,by rw[Q8,a],o,by simpa using e⟩
  |none=>
   have d:=List.findIdx?_eq_none_iff.1 a;have h:j≠i:=by
    rintro rfl;have:=d _ (Ih b);rw[f]at this;simp at this
   obtain⟨r,g,v,u,p,q⟩:=Jke l t n (i+1) ⟨j,c,by omega,by omega,b,f⟩;exact⟨r,g,by omega,by omega,by rw[Q8,a];exact p,q⟩
theorem Jcl(l:Ac Nd):∀(f:Nat) (i:Int),-1<=i->i+1<f->Vp l f i=Fa l i
 |0,i,o,v=>by omega
 |f+1,i,o,v=>by
  by_cases d:Bc l 0=l.length/\0<=i/\i<l.length
  ·obtain⟨a,b,c⟩:=d;by_cases e:i=0
   ·subst e;rw[JbS l f ⟨a,b,c⟩,Q2 a (i:=0) (p:=[]) (by omega) rfl]
   ·obtain⟨t,rfl⟩:=Fq b;obtain⟨j,n,y,m,u⟩:=Qdp a (i:=t) (by omega) c;obtain⟨g,k,w,x,r,h,s⟩:=Jke l t t 0 ⟨j,n,by omega,by omega,m,u⟩;rw[JjA l f t ⟨a,b,c⟩ e,NL,r];simp only[];rw[Jcl l f g (by omega) (by omega)];obtain⟨p,hp⟩:=Y9.1 ((aZ a (g:Int)).2 ⟨by omega,by omega⟩);have:=Jvk a hp k h;rw[s]at this;rw[hp,this];rfl
  ·rw[Jdl l _ i d];by_cases a:Bc l 0=l.length
   ·cases q:Fa l i with
    |none=>rfl
    |some p=>exact absurd ⟨a,(aZ a i).1 (by rw[q];rfl)⟩ d
   ·rw[fT l i a]
def jI:Ac D->Af D:=F2 wO BV fun l i=>if l.length<=3000000 then some (.tup [AL ((Fa l i).getD []),bD (Fa l i).isSome])else none
def JlM{S:Nat->Prop}{w:AA}{u:Ap}{p:Ac Int}{b:Bool}(a:IntsIn S w u p):Rep S [] w (.tuple #[u,.bool b]) (.tup [AL p,bD b]):=by
 simp only[Rep];exact⟨[u,.bool b],rfl,Au.cons (lN a) (Au.cons (by simp only[Rep]) Au.nil)⟩
def Jy8:Bz Aa 283 jI:=by
 refine⟨⟨_,func283,by decide,rfl⟩,fun ds d a S vs W m g=> ?_⟩;unfold jI F2 at a;split at a
 ·rename_i t w;obtain⟨l,n,a⟩:=Bi.1 a;obtain⟨i,k,a⟩:=Bi.1 a;simp only at a;split at a
  case isFalse=>cases a
  rename_i G;cases a;simp only[Au]at g;obtain⟨b,r,rfl,q,⟨j,v,rfl,h,rfl⟩⟩:=g;have c:E8 S W b l:=Nq n q;obtain rfl:=Vz k h;refine(QbF l i b W S m c (by omega)).mono ?_;rintro e s ⟨u,rfl,o,p⟩;exact⟨_,rfl,JlM o,p⟩
 ·cases a
def QbJ(l:Ac Nd)(i:Int)(h:l.length<=3000000)(H:Ae):Ak jI [A8 l,iD i] H=some (.tup [AL ((Fa l i).getD []),bD (Fa l i).isSome],H):=by
 rw[CP _ _ _ rfl];have:jI [A8 l,iD i]=_:=JU (A:=wO) (B:=BV) _ l i;rw[this,Aw h];rfl
def Fw(P:Aj):Ac Cj:=(283,true,Ak jI)::(29,true,Ak Ko)::(96,true,Ak YA)::(133,true,Ak Ut)::(38,true,Ak Ut)::(143,true,Ak dX)::Jjz P
def T4:∀p∈Fw Aa,Ci Aa p:=AC (Bf Jy8)<|AC (Bf tN)<|AC (Bf nL)<|AC (Bf RC)<|AC (Bf gN)<|AC (Bf mI)<|JlB
def XB(P:Aj):Tab:=⟨Fw P,BM,[]⟩
def Ja0:Bg Aa (XB Aa):=CU T4
def Jlw:Ac Nat:=[]
def gQ:Ac Nat:=[0,3,5,6,7]
def JvB(n:Nat)(b c:D)(h:Ae):AB Aa (XB Aa) gQ n f74 [b,c] h=
(Ah (BA 103 c h) fun i e=>
Ad (Bq .sl b) fun g=>
Dy (BZ Aa (XB Aa) gQ n f74 0 [b,i,(iD 0),g,(iD (-1))] e) (fun j d a=>
CW j 0
(some ((gD d 4),a))
(none)) (fun d a=>
some (.undef,a))):=by kernel_rfl
def qV(n:Nat)(s0 b a c d:D)(h:Ae):BK Aa (XB Aa) gQ n f74 0 [s0,b,a,c,d] h=
(Ad (Ag .int .lss a c) fun m=>
Az m
(Ad (Ag .int .sub c a) fun o=>
Ad (Ag .int .quo o (iD 2)) fun q=>
Ad (Ag .int .add a q) fun e=>
Ad (BG 3 s0 e) fun p=>
Ad (Ai (some 3) h p) fun r=>
Ad (Ai (some 3) h b) fun l=>
Ah (Ak P8 [r,l] h) fun k i=>
Ad (Ag .int .eql k (iD 0)) fun s=>
Az s
(some ((.exit 0),[s0,b,a,c,e],i))
(Ad (Ag .int .lss k (iD 0)) fun g=>
Az g
(Ad (Ag .int .add e (iD 1)) fun j=>
some (.normal,[s0,b,j,c,d],i))
(some (.normal,[s0,b,a,e,d],i))))
(some ((.exit 0),[s0,b,a,c,d],h))):=by kernel_rfl
def Cw(P:Aj):GT:=CO P (XB P) Jlw 0 247
def Jrm:BN Aa 247 (Cw Aa):=CQ Ja0 AX func247
def tJ(P:Aj):Ac Cj:=(247,false,Cw P)::Fw P
def Fi:∀p∈tJ Aa,Ci Aa p:=AC (CB Jrm)<|T4
def P5(P:Aj)(Y:Nat->GT):Tab:=⟨tJ P,Y,[]⟩
def Jut(Y:Nat->GT)(a:FT Aa Y):Bg Aa (P5 Aa Y):=⟨Fi,a,fun _ h=>by cases h⟩
section
variable (Y : Nat → GT)
def U5:Ac Nat:=[0,1,4,13,14,33,34,35]
def Qc1(n:Nat)(c b:D)(h:Ae):AB Aa (P5 Aa Y) U5 n f282 [c,b] h=
(Ad (Ai none h b) fun e=>
Ad (Dj e) fun g=>
Ad (AP 0 g) fun l=>
Ad (AP 2 l) fun i=>
Ad (Ai none h i) fun j=>
Ad (Bq .sl j) fun m=>
Dy (BZ Aa (P5 Aa Y) U5 n f282 0 [c,b,.undef,m,(iD 0),.undef,.undef,.undef] h) (fun d k a=>
CW d 0
(some (.tup [],a))
(none)) (fun k a=>
some (.tup [],a))):=by kernel_rfl
def JiC(n:Nat)(s0 e w i d u t v:D)(h:Ae):BK Aa (P5 Aa Y) U5 n f282 0 [s0,e,w,i,d,u,t,v] h=
(Ad (Ag .int .lss d i) fun B=>
Az B
(Ad (Ai none h e) fun C=>
Ad (Dj C) fun E=>
Ad (AP 0 E) fun y=>
AV 2 none h y fun z=>
Ah (Ak jI [z,d] h) fun x q=>
Eo x fun F G=>
Ad (Ai none q e) fun k=>
Ad (Dj k) fun s=>
Ad (AP 0 s) fun l=>
AV 2 none q l fun r=>
Ah (DX iR [r,d] q) fun g m=>
Ad (Bq .sl g) fun o=>
Dy (BZ Aa (P5 Aa Y) U5 n f282 1 [s0,e,F,i,d,g,o,(iD 0)] m) (fun c a b=>
CW c 2
(Ad (Ag .int .add (gD a 4) (iD 1)) fun j=>
some (.normal,[(gD a 0),(gD a 1),(gD a 2),(gD a 3),j,(gD a 5),(gD a 6),(gD a 7)],b))
(CW c 1
(Ad (Ag .int .add (gD a 4) (iD 1)) fun p=>
some (.normal,[(gD a 0),(gD a 1),(gD a 2),(gD a 3),p,(gD a 5),(gD a 6),(gD a 7)],b))
(some ((.exit c),[(gD a 0),(gD a 1),(gD a 2),(gD a 3),(gD a 4),(gD a 5),(gD a 6),(gD a 7)],b)))) (fun a b=>
some (.ret,[(gD a 0),(gD a 1),(gD a 2),(gD a 3),(gD a 4),(gD a 5),(gD a 6),(gD a 7)],b)))
(some ((.exit 0),[s0,e,w,i,d,u,t,v],h))):=by kernel_rfl
def Jha(n:Nat)(s0 i e k j c b a:D)(h:Ae):BK Aa (P5 Aa Y) U5 n f282 1 [s0,i,e,k,j,c,b,a] h=
(Ad (Ag .int .lss a b) fun w=>
Az w
(Ce 3 (some 3) h c a fun x=>
Dw 103 [Aq,(iD 0),(iD 0)] 3 x h fun q u=>
Ah (D5 3 1 Aq e u) fun s v=>
JM 0 1 q s v fun r d=>
Ad (Ai (some 3) d q) fun l=>
Ah (C9 (P5 Aa Y) s0 [l] d) fun m g=>
Ad (Gn m) fun p=>
Az p
(some (.ret,[s0,i,e,k,j,c,b,a],g))
(Ad (Ag .int .add a (iD 1)) fun o=>
some (.normal,[s0,i,e,k,j,c,b,o],g)))
(some ((.exit 2),[s0,i,e,k,j,c,b,a],h))):=by kernel_rfl
end
def uT(P:Aj)(Y:Nat->GT):GT:=CO P (P5 P Y) U5 300 282
def Jng(Y:Nat->GT)(ds:Ac D)(H:Ae):uT Aa Y ds H=AB Aa (P5 Aa Y) U5 300 f282 ds H:=CJ func282 ds H
def Qda(Y:Nat->GT)(a:FT Aa Y):BN Aa 282 (uT Aa Y):=CQ (Jut Y a) AX func282
def PV(P:Aj)(Y:Nat->GT):Tab:=⟨(282,false,uT P Y)::tJ P,Y,[]⟩
def Jb2(Y:Nat->GT)(a:FT Aa Y):Bg Aa (PV Aa Y):=⟨AC (CB (Qda Y a)) Fi,a,fun _ h=>by cases h⟩
def OE(P:Aj):Nat->GT:=Yn P (PV P) 0 1
def Jrx:FT Aa (OE Aa):=TW Jb2 AX 0 1
section
variable (Y : Nat → GT)
def Xi:Ac Nat:=[1]
def Jre(n:Nat)(d:D)(h:Ae):AB Aa (PV Aa Y) Xi n f197 [d] h=
(Ah (BA 229 d h) fun c b=>
Ad (Ai none b c) fun j=>
Ah ((Cw Aa) [j] b) fun e g=>
PI (IK (PV Aa Y) e [5] (ET f197 0) (EL f197 0) 16 Xi [c] g) (fun a=>
some (.tup [],a)) (fun i a=>
CW i 0
(some (.tup [],a))
(none)) (fun a=>
some (.tup [],a))):=by kernel_rfl
def Jw9(n id:Nat)(s0:D)(j:D)(h:Ae):Mc Aa (PV Aa Y) n id [5] (ET f197 0) (EL f197 0) 16 Xi [s0] [j] h=
(Dw 103 [Aq,(iD 0),(iD 0)] 3 j h fun p l=>
IZ id l fun a=>
Ad (Ai none a s0) fun q=>
Ad (Ai none a s0) fun m=>
Dx 6 none a m fun k=>
Ad (Ai (some 3) a p) fun c=>
Ah (DI 103 3 1 [Aq,(iD 0),(iD 0)] [(0,c)] a) fun i e=>
Ah (D5 103 3 k i e) fun d g=>
Ha 6 1 q d g fun o b=>
MK s0 k
(J9 id .normal b)):=by kernel_rfl
end
def GM(e:AQ)(H:Ae)(B:Nat):Ac D->Ac Dl->Prop
 |[],[]=>True
 |b::o::n::r,x::a=>(Buf e 1 H B b x.path.length (BP x.path)/\o=iD x.op/\n=iD x.n)/\GM e H B r a
 |_,_=>False
def GM.nil(e:AQ)(H:Ae)(B:Nat):GM e H B [] []:=trivial
theorem GM.len{e:AQ}{H:Ae}{B:Nat}:∀{cs:Ac D} {a:Ac Dl},GM e H B cs a->cs.length=a.length*3
 |[],[],_=>rfl
 |b::o::n::r,x::a,h=>by
  have:=GM.len h.2
  grind
 |[],_::_,h=>h.elim
 |[_],_,h=>by cases h
 |[_,_],_,h=>by cases h
 |_::_::_::_,[],h=>h.elim
theorem GM.keep{e:AQ}{H H':Ae}{B:Nat}(k:∀(r:Nat) (l:Ac Int),H[r]? =some (.cells e 1 (BP l))->H'[r]? =H[r]?):∀{cs:Ac D} {a:Ac Dl},GM e H B cs a->GM e H' B cs a
 |[],[],_=>trivial
 |g::o::n::r,x::a,h=>by
  refine⟨⟨?_,h.1.2⟩,GM.keep k h.2⟩;rcases h.1.1 with q|⟨q,c,f,b,d⟩
  ·exact .inl q
  ·exact .inr ⟨q,c,f,(k q _ b).trans b,d⟩
 |[],_::_,h=>h.elim
 |[_],_,h=>by cases h
 |[_,_],_,h=>by cases h
 |_::_::_::_,[],h=>h.elim
theorem GM.app{e:AQ}{H:Ae}{B:Nat}{c:D}{x:Dl}(b:Buf e 1 H B c x.path.length (BP x.path)):∀{cs:Ac D} {a:Ac Dl},GM e H B cs a->GM e H B (cs++[c,iD x.op,iD x.n]) (a++[x])
 |[],[],_=>⟨⟨b,rfl,rfl⟩,trivial⟩
 |d::o::n::r,y::a,h=>⟨h.1,GM.app b h.2⟩
 |[],_::_,h=>h.elim
 |[_],_,h=>by cases h
 |[_,_],_,h=>by cases h
 |_::_::_::_,[],h=>h.elim
theorem GM.deref{e:AQ}{H:Ae}{B:Nat}(n:Nat):∀{cs:Ac D} {a:Ac Dl},GM e H B cs a->∃b,cs.mapM (Dh H (n+1))=some b/\(G9 3 a.length b).mapM OW=some a
 |[],[],_=>⟨[],rfl,rfl⟩
 |l::o::m::r,x::a,h=>by
  obtain⟨⟨k,rfl,rfl⟩,g⟩:=h;obtain⟨b,d,j⟩:=GM.deref n g;obtain⟨c,f,i⟩:=k.ints n;refine⟨c::iD x.op::iD x.n::b,?_,?_⟩
  ·rw[FZ,FZ,FZ,f,Ji H (n+1) _ rfl,Ji H (n+1) _ rfl,d];rfl
  ·rw[Ej,G9];simp only[QX,pF,pJ,UB,FZ];rw[j];have:OW [c,iD x.op,iD x.n]=some x:=by simp[OW,i,Dz]
   rw[this];rfl
 |[],_::_,h=>h.elim
 |[_],_,h=>by cases h
 |[_,_],_,h=>by cases h
 |_::_::_::_,[],h=>h.elim
def Jyo(H:Ae)(n id k:Nat)(t:AQ)(sz:Nat)(cs:Ac D)(h:H[id]? =some (.cells t sz cs))(b:k*sz<=cs.length):Dh H (n+1) (.hs id k)=((cs.take (k*sz)).mapM (Dh H n)).map fun a=> .sl sz (G9 sz k a):=by
 simp only[Dh,h];rw[Aw b]
theorem GM.own{e:AQ}{H:Ae}{B0 B:Nat}{S:Nat->Prop}{L:Ac (Nat×Nat)}{w:AA}(q:BD B0 S L w H):∀{cs:Ac D} {d:Ac Dl},GM e H B cs d->∀xs,Au S L w xs cs->Au (fun k=>B0<=k/\k<w.heap.size) [] w xs (d.map Ie).flatten
 |[],[],_,xs,i=>by simpa only[J7,PT,Au]using i
 |P::o::m::r,x::d,h,xs,i=>by
  obtain⟨⟨n,rfl,rfl⟩,E⟩:=h;have I:((x::d).map Ie).flatten=AL x.path::iD x.op::iD x.n::(d.map Ie).flatten:=rfl;rw[I];simp only[Au]at i⊢;obtain⟨a,t,s,A,b,u,K,C,c,v,F,O,G⟩:=i;refine⟨a,t,s,?_,b,u,K,by simpa only[Rep]using C,c,v,F,by simpa only[Rep]using O,GM.own q E v G⟩;have g:Buf e 1 H 0 P x.path.length (BP x.path):=by
   rcases n with z|⟨z,_,N⟩
   ·exact .inl z
   ·exact .inr ⟨z,F9 _,N⟩
  refine T9 q (by omega) g (els:=x.path.map IE) (by simp) (fun e M=>by obtain⟨y,_,rfl⟩:=GN.1 M;rfl) (fun j f=> ?_) A;have:(x.path.map IE).flatten=BP x.path:=by
   generalize x.path=p
   induction p with
   |nil=>rfl
   |cons y r l=>rw[EP,IX,l];rfl
  rw[this];clear this g A s n;revert j;generalize x.path=p
  induction p with
  |nil=>intro j f;simpa only[BP,J7,Au]using f
  |cons y r l=>
   intro j f;have J:BP (y::r)=iD y::BP r:=rfl;rw[J]at f⊢;simp only[Au,Rep]at f⊢
   grind
 |[],_::_,h,_,_=>h.elim
 |[_],_,h,_,_=>by cases h
 |[_,_],_,h,_,_=>by cases h
 |_::_::_::_,[],h,_,_=>h.elim
def Jza(t:AQ)(c:D)(a b:Int)(H:Ae)(h:Df c=true):DI t 3 1 [Aq,iD 0,iD 0] [(0,.agg [c,iD a,iD b])] H=some (.hs H.length 1,H++[.cells t 3 [c,iD a,iD b]]):=by
 show((Gg t 3 [c,iD a,iD b] H).map fun r=>(D.hs r.1 1,r.2))=_;unfold Gg;simp_all
def JhJ(t:AQ)(c x y z:D)(a b:Int)(H:Ae)(i:Nat)(d:H[i]? =some (.cells t 3 [x,y,z]))(h:Df c=true):Bh 3 (.hp i 0) (.agg [c,iD a,iD b]) H=some (.v undef,H.set i (.cells t 3 [c,iD a,iD b])):=by
 simp[Bh,FI,d,D7,h]
def JfH(t:AQ)(x y z:D)(H:Ae)(i:Nat)(a:H[i]? =some (.cells t 3 [x,y,z])):Ai (some 3) H (.hp i 0)=some (.agg [x,y,z]):=by
 simp[Ai,a,MW]
def Jck(H:Ae)(o a:HO):(H++[o]).set H.length a=H++[a]:=by simp
def A6(H:Ae)(l:Ac Int):GV 1 H (AL l)=some (BP l):=by
 show(IU 1 (.sl 1 (l.map IE))).map List.flatten=_;have:IU 1 (.sl 1 (l.map IE))=some (l.map IE):=Jff l;rw[this,Dt];congr 1
 induction l with
 |nil=>rfl
 |cons y r a=>rw[EP,IX,a (Jff r)];rfl
def Buf.low{e:AQ}{sz:Nat}{H:Ae}{B:Nat}{d:D}{n:Nat}{cs:Ac D}(h:Buf e sz H B d n cs):Buf e sz H 0 d n cs:=by
 rcases h with h|⟨r,_,h⟩
 ·exact .inl h
 ·exact .inr ⟨r,F9 _,h⟩
theorem GM.low{e:AQ}{H:Ae}{B:Nat}:∀{cs:Ac D} {a:Ac Dl},GM e H B cs a->GM e H 0 cs a
 |[],[],_=>trivial
 |b::o::n::r,x::a,h=>⟨⟨h.1.1.low,h.1.2⟩,GM.low h.2⟩
 |[],_::_,h=>h.elim
 |[_],_,h=>by cases h
 |[_,_],_,h=>by cases h
 |_::_::_::_,[],h=>h.elim
theorem Jeh(l:Ac Nd):∀(a b:Ac Int) (r:Int),0<=Bc l r->0<=F8 l r a->0<=F8 l r b->F8 l r a<F8 l r b->FO a b<0
 |[],[],r,_,_,_,h=>by omega
 |[],_::_,r,_,_,_,_=>by simp[FO]
 |m::a,[],r,c,d,_,h=>by
  have:=xH l (m::a) r c d;have e:F8 l r []=r:=rfl;omega
 |m::a,n::b,r,c,d,e,h=>by
  by_cases o:0<=m/\m.toNat<(AZ l r).length
  ·by_cases f:0<=n/\n.toNat<(AZ l r).length
   ·obtain⟨j,rfl⟩:=Fq o.1;obtain⟨k,rfl⟩:=Fq f.1;have q:j<(AZ l r).length:=by simpa using o.2
    have s:k<(AZ l r).length:=by simpa using f.2
    obtain⟨y,_⟩:=F6 l r c;obtain⟨t,rfl⟩:=Fq y;obtain⟨w,p⟩:=E6 l t c j q;obtain⟨z,i⟩:=E6 l t c k s;have u:=aG l t c j p;have v:=aG l t c k i;rw[Q9 l t j a j rfl q,w]at d h;rw[Q9 l t k b k rfl s,z]at e h;rcases Nat.lt_trichotomy j k with g|rfl|g
    ·rw[FO,Aw (by omega)];omega
    ·rw[FO,Am (by omega),Am (by omega)];exact Jeh l a b _ u.2.2.1 d e h
    ·have C:=xH l a _ u.2.2.1 d;have A:=xH l b _ v.2.2.1 e;have x:=DQ l t c (k+1) (j-(k+1)) (by omega);rw[show k+1+(j-(k+1))=j from by omega]at x;have B:Bc l (Fz l (t+1) k)=Fz l (t+1) (k+1):=rfl;omega
   ·rw[VJ l r n b f]at e;omega
  ·rw[VJ l r m a o]at d;omega
section whole
variable {l : Ac Nd} (hw : Bc l 0 = l.length)
include hw
def Jz3{i k:Int}{a b:Ac Int}(d:Fa l i=some a)(c:Fa l k=some b)(h:i<k):FO a b<0:=by
 have j:=qZ hw d;have f:=qZ hw c;have g:=(aZ hw i).1 (by rw[d];rfl);have e:=(aZ hw k).1 (by rw[c];rfl);exact Jeh l a b 0 (by omega) (by omega) (by omega) (by omega)
end whole
def Qew{a b:Dl}(h:a.path=b.path)(c:uV (a.op,a.n) (b.op,b.n)):GH a b<0:=by
 unfold GH;rw[Am (by simpa using(gM _ _).2 h)];unfold uV at c;rcases c with c|c
 ·have:=(Jab a.op b.op).2 c;omega
 ·simp only at c;rw[Am (by simpa using(yC _ _).2 c.1)];exact(Jab _ _).2 c.2
def Ro(l:Ac Nd)(k:Int):Ac Dl:=(Lh l k).map fun e=>⟨(Fa l k).getD [],e.1,e.2⟩
def LD(l:Ac Nd):Ac Dl:=(List.range l.length).flatMap fun k:Nat=>Ro l k
section whole
variable {l : Ac Nd} (hl : Bc l 0 = l.length)
include hl
def LO(k:Int)(d:Dl):d∈Ro l k↔Fa l k=some d.path/\RG l k d.op d.n:=by
 unfold Ro;rw[GN];constructor
 ·rintro⟨⟨o,n⟩,h,rfl⟩;rw[Jfm]at h;refine⟨?_,h⟩;obtain⟨p,hp⟩:=Y9.1 ((aZ hl k).2 ⟨(F6 l k h.1).1,by have:=(F6 l k h.1).2;omega⟩);rw[hp];rfl
 ·rintro⟨b,a⟩;exact⟨(d.op,d.n),(Jfm l k d.op d.n).2 a,by rw[b];rfl⟩
def I6(k:Int)(a:0<=k)(p:Ac Int):Fa l k=some p↔Jk l p=k:=by
 rw[Jk,Aw hl];exact⟨fun h=>qZ hl h,fun h=>Q2 hl a h⟩
def Pw(d:Dl):d∈LD l↔0<=Jk l d.path/\RG l (Jk l d.path) d.op d.n:=by
 unfold LD;rw[zV];constructor
 ·rintro⟨k,c,h⟩;obtain⟨b,a⟩:=(LO hl k d).1 h;rw[I6 hl k (by omega)]at b
  grind
 ·rintro⟨b,a⟩;obtain⟨k,c⟩:=Fq b;refine⟨k,?_,?_⟩
  ·rw[oZ];have:=(F6 l _ a.1).2;omega
  ·rw[LO hl,I6 hl k (by omega),<-c];exact⟨rfl,a⟩
omit hl in
def Jp3(k:Int):(Ro l k).Pairwise fun a b=>GH a b<0:=by
 unfold Ro;rw[sL];exact(JzV l k).imp fun{a b} h=>Qew (a:=⟨_,a.1,a.2⟩) (b:=⟨_,b.1,b.2⟩) rfl h
def Qa9:(LD l).Pairwise fun a b=>GH a b<0:=by
 unfold LD;rw[List.pairwise_flatMap];refine⟨fun k _=>Jp3 k,?_⟩;refine(List.pairwise_lt_range (n:=l.length)).imp fun{i k} h a f b e=> ?_;have d:=((LO hl i a).1 f).1;have c:=((LO hl k b).1 e).1;exact Jvs (Jz3 hl d c (by omega))
end whole
def Jih(l:Ac Nd)(k:Int):(Ro l k).length=(Lh l k).length:=by simp[Ro]
def Qfv(l:Ac Nd):(LD l).length=((List.range l.length).map fun k:Nat=>(Lh l k).length).sum:=by
 unfold LD;rw[List.length_flatMap];congr 1;exact SY fun k _=>Jih l k
def JhT(l:Ac Nd):(LD l).length<=5*l.length:=by
 rw[Qfv];have:∀n:Nat,((List.range n).map fun k:Nat=>(Lh l k).length).sum<=5*n:=by
  intro n
  induction n with
  |zero=>simp
  |succ n a=>
   rw[pP,JE,List.sum_append];have:=Pf l n;simp;omega
 exact this _
def QU(l:Ac Dl)(d:Dl):Nat->Nat->Nat->Int
 |0,_,_=> -1
 |f+1,a,b=>
  if a<b then
   (if GH (l.getD (a+(b-a)/2) default) d=0 then((a+(b-a)/2:Nat):Int)else
    if GH (l.getD (a+(b-a)/2) default) d<0 then QU l d f (a+(b-a)/2+1) b else QU l d f a (a+(b-a)/2))
  else-1
def QN(l:Ac Dl)(d:Dl):Int:=QU l d (l.length+1) 0 l.length
theorem Wa(l:Ac Dl)(d:Dl):∀(f a b:Nat),QU l d f a b= -1\/∃k:Nat,QU l d f a b=k/\a<=k/\k<b/\l.getD k default=d
 |0,_,_=> .inl rfl
 |f+1,a,b=>by
  unfold QU;split
  ·split
   ·rename_i e c;exact .inr ⟨_,rfl,by omega,by omega,(kH _ _).1 c⟩
   ·split
    ·rcases Wa l d f (a+(b-a)/2+1) b with h|⟨k,h,e,c,g⟩
     ·exact .inl h
     grind
    ·rcases Wa l d f a (a+(b-a)/2)with h|⟨k,h,e,c,g⟩
     ·exact .inl h
     grind
  ·exact .inl rfl
theorem gF(l:Ac Dl)(d:Dl)(hs:l.Pairwise fun a b=>GH a b<0):∀(f c e:Nat),e<=l.length->e<c+f->(∃i,c<=i/\i<e/\l.getD i default=d)->QU l d f c e≠-1
 |0,c,e,_,t,⟨i,q,p,_⟩=>by omega
 |f+1,c,e,m,t,⟨i,q,p,g⟩=>by
  have get:∀j,j<e->l.getD j default=l[j]! :=fun j o=>by simp
  have n:∀i j,i<j->j<l.length->GH (l.getD i default) (l.getD j default)<0:=fun i j h o=>by
   have:=(List.pairwise_iff_getElem.1 hs) i j (by omega) o h
   grind
  unfold QU;rw[Aw (by omega)];split
  ·omega
  ·rename_i k;have v:c+(e-c)/2≠i:=by
    rintro rfl;exact k ((kH _ _).2 g)
   split
   ·rename_i r;refine gF l d hs f _ e m (by omega) ⟨i,?_,p,g⟩;refine Decidable.byContradiction fun u=> ?_;have:=n i (c+(e-c)/2) (by omega) (by omega);rw[g,JkS]at this;omega
   ·rename_i s;refine gF l d hs f c _ (by omega) (by omega) ⟨i,q,?_,g⟩
    grind
def Jh6(l:Ac Dl)(d:Dl):QN l d= -1\/∃k:Nat,QN l d=k/\k<l.length/\l[k]? =some d:=by
 rcases Wa l d (l.length+1) 0 l.length with h|⟨k,h,_,a,b⟩
 ·exact .inl h
 ·refine .inr ⟨k,h,a,?_⟩
  grind
def Jaw(l:Ac Dl)(d:Dl)(hs:l.Pairwise fun a b=>GH a b<0):0<=QN l d↔d∈l:=by
 constructor
 ·intro h;rcases Jh6 l d with e|⟨k,_,g,e⟩
  ·omega
  grind
 ·intro h;obtain⟨i,f,e⟩:=oU.1 h;have:=gF l d hs (l.length+1) 0 l.length (BQ _) (by omega) ⟨i,by omega,f,by grind⟩;rcases Jh6 l d with c|⟨k,c,_⟩
  ·exact absurd c this
  ·omega
def JkO(p:Pg)(d:Dl)(e:Bc p.body 0=p.body.length)(h:d∈LD p.body):∃k:Nat,Jk p.body d.path=k/\k<p.body.length/\RG p.body k d.op d.n/\JK p d=(⟨p.params,p.vars,Gw p.body k (Bj p.body k) d.op d.n⟩,0):=by
 obtain⟨c,a⟩:=(Pw e d).1 h;obtain⟨k,b⟩:=Fq c;rw[b]at a;refine⟨k,b,by have:=(F6 _ _ a.1).2;omega,a,?_⟩;unfold JK;rw[b,Am (by omega),Aw (Bk _ k _ _ a).1];simp
def NW(fn:Func)(st:LS):HO:= .loop st [5] (ET fn 0) (EL fn 0) 16 Xi [.hp 2 0]
def Kr(p:Pg)(d:D):Ac D:=[iD p.params,AL p.vars,A8 p.body,wZ,.v (.int .i32 1),wZ,d]
structure Nl(p:Pg)(H:Ae)(ls:List Dl):Prop where
 len:5<=H.length
 book:∃d cs,H[1]? =some (.cells 231 7 (Kr p d))/\Buf 103 3 H 5 d ls.length cs/\GM 3 H 5 cs ls
 own:H[2]? =some (.cells 229 1 [.hp 1 0])
 ptr:H[3]? =some (.cells 229 1 [.hp 1 0])
 loop:H[4]? =some (NW f197 .ready)
def JnM{t e:AQ}{sz:Nat}{H:Ae}{B n:Nat}{d:D}{cs:Ac D}(h:Buf t sz H B d n cs)(a:sz≠1)(r:Nat)(l:Ac Int)(c:H[r]? =some (.cells e 1 (BP l)))(q:Nat):d≠ .hs r q:=by
 rintro rfl;rcases h with⟨h,_⟩|⟨f,j,i,b,g⟩
 ·cases h
 grind
def Jvv(p:Pg)(H:Ae)(j:Ac Dl)(a:D)(x:Dl)(h:Nl p H j)(B:Buf 3 1 H 5 a x.path.length (BP x.path))(hl:j.length<=100000):
  ∃H',OE Aa 4 [.agg [a,iD x.op,iD x.n]] H=some (bD true,H')/\Nl p H' (j++[x]):=by
 obtain⟨h0,⟨d,cs,h1,h2,h3⟩,h4,h5,M⟩:=h;have u:=B.ok;have hY:OE Aa 4 [.agg [a,iD x.op,iD x.n]] H=Jb Aa (PV Aa BM) 0 4 [.agg [a,iD x.op,iD x.n]] H:=rfl;have C:Jb Aa (PV Aa BM) 0 4 [.agg [a,iD x.op,iD x.n]] H=Mc Aa (PV Aa BM) 0 4 [5] (ET f197 0) (EL f197 0) 16 Xi [.hp 2 0] [.agg [a,iD x.op,iD x.n]] H:=by
  unfold Jb;rw[M];simp only[NW];rw[Aw];refine⟨rfl,?_,?_,?_,?_⟩<;>kernel_rfl
 rw[hY,C,Jw9];unfold Dx Dw Ha;have al:BX 103 [Aq,iD 0,iD 0] H=some (.hp H.length 0,H++[.cells 103 3 [Aq,iD 0,iD 0]]):=rfl;have w:=JhJ 103 a Aq (iD 0) (iD 0) x.op x.n (H++[.cells 103 3 [Aq,iD 0,iD 0]]) H.length (by simp) u;rw[Jck]at w;have g:∀k,k<H.length->(H++[HO.cells 103 3 [a,iD x.op,iD x.n]])[k]? =H[k]? :=fun k C=>Ii C;have gm:(H++[HO.cells 103 3 [a,iD x.op,iD x.n]])[H.length]? =some (.cells 103 3 [a,iD x.op,iD x.n]):=by simp
 have gl:(H++[HO.cells 103 3 [a,iD x.op,iD x.n]]).length=H.length+1:=by simp
 have V:Buf 103 3 (H++[HO.cells 103 3 [a,iD x.op,iD x.n]]) 5 d j.length cs:=h2.app _;have W:Buf 3 1 (H++[HO.cells 103 3 [a,iD x.op,iD x.n]]) 5 a x.path.length (BP x.path):=B.app _;have U:GM 3 (H++[HO.cells 103 3 [a,iD x.op,iD x.n]]) 5 cs j:=h3.keep fun r l c=>g r (CV.1 c).1;generalize H++[HO.cells 103 3 [a,iD x.op,iD x.n]]=b at*;have S:b[4]? =some (NW f197 .ready):=(g 4 (by omega)).trans M;have Z:IZ (α:=D×Ae) 4 b=fun k=>k (b.set 4 (NW f197 .busy)):=by
  funext k;unfold IZ;rw[S];rfl
 have q:∀k,k≠4->(b.set 4 (NW f197 .busy))[k]? =b[k]? :=fun k C=>Ee (Ne.symm C);have q4:(b.set 4 (NW f197 .busy))[4]? =some (NW f197 .busy):=Hw (by omega);have ql:(b.set 4 (NW f197 .busy)).length=b.length:=by simp
 have F:Buf 103 3 (b.set 4 (NW f197 .busy)) 5 d j.length cs:=V.set 4 _ (by omega);have K:Buf 3 1 (b.set 4 (NW f197 .busy)) 5 a x.path.length (BP x.path):=W.set 4 _ (by omega);have N:GM 3 (b.set 4 (NW f197 .busy)) 5 cs j:=U.keep fun r l c=>q r (fun e=>by subst e;rw[S]at c;cases c);generalize b.set 4 (NW f197 .busy)=i at*;have P:i[2]? =some (.cells 229 1 [.hp 1 0]):=by grind
 have b3:i[3]? =some (.cells 229 1 [.hp 1 0]):=by grind
 have L:i[1]? =some (.cells 231 7 (Kr p d)):=by grind
 have bm:i[H.length]? =some (.cells 103 3 [a,iD x.op,iD x.n]):=by grind
 have l2:=Gs i 2 _ _ _ _ P;have nd:Dj (.hp 1 0)=some (.hp 1 0):=rfl;have T:AP 6 (.hp 1 0)=some (.hp 1 6):=rfl;have Y:Ai none i (.hp 1 6)=some d:=D6 _ _ _ _ _ _ _ L rfl;have lm:=JfH 103 a (iD x.op) (iD x.n) i H.length bm;have G:=Jza 103 a x.op x.n i u;have aa:=N.len;obtain⟨s,n,a1,I,E,a4,X,a6⟩:=cW (new:=[a,iD x.op,iD x.n]) F (by omega) rfl (by simp[u]) (by simp;omega) (by omega);have c1:n[1]? =some (.cells 231 7 (Kr p d)):=by rw[E.2 1 (by omega)];exact L
 have st:=IV n 1 6 _ _ _ s c1 (by simp[Kr]) I.cells I.ok;have y:(Kr p d).set 6 s=Kr p s:=rfl;rw[y]at st;have o:∀(r:Nat) (l:Ac Int),i[r]? =some (.cells 3 1 (BP l))->n[r]? =i[r]? :=fun r l c=>X r (CV.1 c).1 (fun z=>JnM F (by omega) r l c z);have O:(n.set 1 (.cells 231 7 (Kr p s)))[4]? =some (NW f197 .busy):=by rw[Ee (by omega),E.2 4 (by omega)];exact q4
 have J:MK (α:=D×Ae) (.hp 2 0) d=fun k=>k:=by
  funext k;rcases F with⟨rfl,_⟩|⟨r,r1,rfl,_⟩
  ·rfl
  ·rw[JvW,Am (by omega)]
 have v:5<=n.length:=by omega
 refine⟨(n.set 1 (.cells 231 7 (Kr p s))).set 4 (NW f197 .ready),?_,by simpa using v,⟨s,cs++[a,iD x.op,iD x.n],?_,?_,?_⟩,?_,?_,?_⟩
 ·rw[al];simp only[A7,w,Z,l2,AU,nd,T,Y,lm,G,a1,st,J];unfold J9;rw[O];rfl
 ·grind
 ·rw[DC];exact(I.set 1 _ (by omega)).set 4 _ (by omega)
 ·have Q:GM 3 n 5 (cs++[a,iD x.op,iD x.n]) (j++[x]):=GM.app (K.keep fun r m e=>by
   subst e;rcases K with⟨z,_⟩|⟨r',Q,R,z3,z4⟩
   ·cases z
   grind) (N.keep o)
  have R:GM 3 (n.set 1 (.cells 231 7 (Kr p s))) 5 (cs++[a,iD x.op,iD x.n]) (j++[x]):=Q.keep fun r l c=>Ee (fun e=>by grind);exact R.keep fun r l c=>Ee (fun e=>by subst e;rw[O]at c;cases c)
 ·rw[Ee (by omega),Ee (by omega),E.2 2 (by omega)];exact P
 ·rw[Ee (by omega),Ee (by omega),E.2 3 (by omega)];exact b3
 grind
end Go.Proofs.YtapdelkomkpgmaaGreatDoor
