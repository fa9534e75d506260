import Derived.Test.YtapdelkomkpgmaaGreatDoorQu
namespace Go.Proofs.YtapdelkomkpgmaaGreatDoor
open Go.Proofs.Tryz
open Go.RowKit
set_option maxRecDepth 100000
set_option linter.all false
def Nl.kp{p:Pg}{H H':Ae}{a:Ac Dl}(h:Nl p H a)(k:Kp H.length H H'):Nl p H' a:=by
 obtain⟨g,⟨d,cs,n,b,c⟩,j,o,i⟩:=h;refine⟨Ig g k.1,⟨d,cs,by rw[k.2 1 (by omega)];exact n,b.keep fun r m e=>k.2 r ?_,c.keep fun r l f=>k.2 r (CV.1 f).1⟩,by rw[k.2 2 (by omega)];exact j,by rw[k.2 3 (by omega)];exact o,by rw[k.2 4 (by omega)];exact i⟩;subst e;exact b.lt.2
def qP(a:Ac Int)(d:Dl):Dl:=⟨a,d.op,d.n⟩
def Jll(l:Ac Nd)(k:Int):(NH l k).map (qP ((Fa l k).getD []))=Ro l k:=by
 unfold NH Ro;rw[List.map_map];rfl
def WU(l:Ac Nd)(k:Nat):Ac Dl:=(List.range k).flatMap fun j:Nat=>Ro l j
def JgF(l:Ac Nd)(k:Nat):WU l (k+1)=WU l k++Ro l k:=by
 unfold WU;rw[pP,eU];simp
theorem JfA(l:Ac Nd):∀k,(WU l k).length<=5*k
 |0=>by simp[WU]
 |k+1=>by
  have c:=JfA l k;have b:=Jih l k;have a:=Pf l k;rw[JgF,DC];omega
def JxQ(p:Pg)(H:Ae)(j:Ac Dl)(f:Ac Int)(c:Dl)(h:Nl p H j)(y:f.length<=3000)(O:j.length<=90000):
  ∃g b n a,BX 103 [Aq,iD 0,iD 0] H=some (.hp H.length 0,H++[.cells 103 3 [Aq,iD 0,iD 0]])/\
   Bh 3 (.hp H.length 0) (Em c) (H++[.cells 103 3 [Aq,iD 0,iD 0]])=some (.v undef,g)/\D5 3 1 Aq (AL f) g=some (a,b)/\
   Bh 1 (.hp H.length 0) a b=some (.v undef,b.set H.length (.cells 103 3 [a,iD c.op,iD c.n]))/\Ai (some 3) (b.set H.length (.cells 103 3 [a,iD c.op,iD c.n])) (.hp H.length 0)=some (.agg [a,iD c.op,iD c.n])/\
   OE Aa 4 [.agg [a,iD c.op,iD c.n]] (b.set H.length (.cells 103 3 [a,iD c.op,iD c.n]))=some (bD true,n)/\Nl p n (j++[qP f c]):=by
 have P:=h.len;have i:=JhJ 103 (AL c.path) Aq (iD 0) (iD 0) c.op c.n (H++[.cells 103 3 [Aq,iD 0,iD 0]]) H.length (by simp) rfl;rw[Jck]at i;have G:Kp H.length H (H++[HO.cells 103 3 [AL c.path,iD c.op,iD c.n]]):=Kp.app _ _ _ (BQ _);have J:(H++[HO.cells 103 3 [AL c.path,iD c.op,iD c.n]])[H.length]? =some (.cells 103 3 [AL c.path,iD c.op,iD c.n]):=by simp
 have N:(H++[HO.cells 103 3 [AL c.path,iD c.op,iD c.n]]).length=H.length+1:=by simp
 refine⟨H++[.cells 103 3 [AL c.path,iD c.op,iD c.n]],?_⟩;generalize H++[HO.cells 103 3 [AL c.path,iD c.op,iD c.n]]=g at*;obtain⟨a,b,K,u,Q,R,I,C⟩:=Jiq (t:= 3) (B:=5) (l:=[]) (new:=f) (d:=Aq) (x:=AL f) (H:=g) (Buf.nil _ _ _ _) (A6 g f) (by simp;omega) (by omega);have v:∀k,k<g.length->b[k]? =g[k]? :=fun k s=>I k s (fun q e=>by cases e);have A:∀q,a≠ .hs H.length q:=fun q=>C H.length q (by omega) (fun q e=>by cases e);have w:b[H.length]? =some (.cells 103 3 [AL c.path,iD c.op,iD c.n]):=(v _ (by omega)).trans J;have o:=IV b H.length 0 _ _ _ a w (by simp) u.cells u.ok;have E:(b.set H.length (.cells 103 3 [a,iD c.op,iD c.n]))[H.length]? =some (.cells 103 3 [a,iD c.op,iD c.n]):=Hw (CV.1 w).1;have z:Kp H.length H (b.set H.length (.cells 103 3 [a,iD c.op,iD c.n])):=⟨by simp;omega,fun k s=>by rw[Ee (by omega),v k (by omega),G.2 k s]⟩;have L:Buf 3 1 (b.set H.length (.cells 103 3 [a,iD c.op,iD c.n])) 5 a f.length (BP f):=(by simpa using u:Buf 3 1 b 5 a f.length (BP f)).keep fun r m e=>Ee (fun D=>A m (by rw[e,<-D]));obtain⟨n,F,M⟩:=Jvv p _ j a (qP f c) (h.kp z) L (by omega);exact⟨b,n,a,rfl,i,K,o,JfH _ _ _ _ _ _ E,F,M⟩
def Qc2(p:Pg)(H:Ae)(c:Ac Dl)(k:Nat)(n:D)(h:Nl p H c)(g:((Fa p.body k).getD []).length<=3000)(M:c.length<=80000):
  ∃H',BZ Aa (P5 Aa (OE Aa)) U5 300 f282 1 [.yld 4,.hp 3 0,AL ((Fa p.body k).getD []),n,iD k,EH (NH p.body k),iD (NH p.body k).length,iD 0] H=
   some (.exit 2,[.yld 4,.hp 3 0,AL ((Fa p.body k).getD []),n,iD k,EH (NH p.body k),iD (NH p.body k).length,iD (NH p.body k).length],H')/\Nl p H' (c++Ro p.body k):=by
 rw[<-Jll];have v:=Pf p.body k;have q:(NH p.body k).length<=5:=by simp[NH];omega
 generalize (Fa p.body k).getD []=a at*;generalize NH p.body k=L at*;have key:=Hc (P:=Aa) (T:=P5 Aa (OE Aa)) (kp:=U5) (fn:= f282) (li:=1)
  (fun j s H=>s=[.yld 4,.hp 3 0,AL a,n,iD k,EH L,iD L.length,iD j]/\Nl p H (c++(L.take j).map (qP a)))
  (fun r=>∃H',r=(.exit 2,[.yld 4,.hp 3 0,AL a,n,iD k,EH L,iD L.length,iD L.length],H')/\Nl p H' (c++L.map (qP a))) L.length 300
  (fun j s H l b=>by
   obtain⟨rfl,b⟩:=b;have d:(j:Int)<(L.length:Int):=by omega
   have z:=Jjq L j l;have J:=JcN H L[j];have m:=Jj (j:Int) 1 (by omega) (by omega);have B:(j:Int)+1=((j+1:Nat):Int):=by omega
   rw[B]at m;obtain⟨N,G,o,u,E,I,F,x,y,K,C⟩:=JxQ p H _ a L[j] b g (by simp;omega);have i:C9 (P5 Aa (OE Aa)) (.yld 4) [.agg [u,iD L[j].op,iD L[j].n]] (G.set H.length (.cells 103 3 [u,iD L[j].op,iD L[j].n]))=some (bD true,o):=K;have w:AP 0 (.hp H.length 0)=some (.hp H.length 0):=rfl;refine⟨[.yld 4,.hp 3 0,AL a,n,iD k,EH L,iD L.length,iD ((j+1:Nat):Int)],o,?_,rfl,?_⟩
   ·rw[Jha];unfold Ce Dw JM;simp only[JA,d,decide_true,AU,Bd,Bv,z,J,E,I,F,x,y,i,A7,w,nI,MX,BF,BC,Ll,m]
   ·rw[Ij l,JE,<-FV];exact C)
  (fun s H b=>by
   obtain⟨rfl,b⟩:=b;rw[II]at b;refine⟨(.exit 2,[.yld 4,.hp 3 0,AL a,n,iD k,EH L,iD L.length,iD L.length],H),?_,(by intro e;cases e),H,rfl,b⟩;rw[Jha];unfold Ce Dw JM;simp)
  (by omega) (s:=[.yld 4,.hp 3 0,AL a,n,iD k,EH L,iD L.length,iD 0]) (H:=H) ⟨rfl,by simpa using h⟩
 grind
def JqG(p:Pg)(H:Ae)(h:Nl p H [])(U:p.body.length<=250)(o:∀k,((Fa p.body k).getD []).length<=3000):
  ∃H',uT Aa (OE Aa) [.yld 4,.hp 3 0] H=some (.tup [],H')/\Nl p H' (LD p.body):=by
 rw[Jng,Qc1];have b:∀(H:Ae) (t:Ac Dl),Nl p H t->Ai none H (.hp 3 0)=some (.hp 1 0)/\Ai none H (.hp 1 2)=some (A8 p.body):=fun H t h=>by
  obtain⟨R,⟨d,cs,B,S,Q⟩,N,L,M⟩:=h;exact⟨Gs _ _ _ _ _ _ L,D6 _ _ _ _ _ _ _ B rfl⟩
 have w:Dj (.hp 1 0)=some (.hp 1 0):=rfl;have v:AP 0 (.hp 1 0)=some (.hp 1 0):=rfl;have x:AP 2 (.hp 1 0)=some (.hp 1 2):=rfl;have q:LD p.body=WU p.body p.body.length:=rfl;rw[q];have key:=Hc (P:=Aa) (T:=P5 Aa (OE Aa)) (kp:=U5) (fn:= f282) (li:=0)
  (fun k s H=>∃i c g j,s=[.yld 4,.hp 3 0,i,iD p.body.length,iD k,c,g,j]/\Nl p H (WU p.body k))
  (fun r=>∃s H',r=(.exit 0,s,H')/\Nl p H' (WU p.body p.body.length)) p.body.length 300
  (fun k s H O a=>by
   obtain⟨i,c,g,j,rfl,a⟩:=a;have n:(k:Int)<(p.body.length:Int):=by omega
   obtain⟨m,l⟩:=b H _ a;have K:=QbJ p.body k (by omega) H;have D:=JlT p.body k (by omega) H;have F:DN (.tup [AL ((Fa p.body k).getD []),bD (Fa p.body k).isSome]) 0=some (AL ((Fa p.body k).getD [])):=rfl;have J:DN (.tup [AL ((Fa p.body k).getD []),bD (Fa p.body k).isSome]) 1=some (bD (Fa p.body k).isSome):=rfl;have C:=JfA p.body k;obtain⟨H',E,I⟩:=Qc2 p H _ k (iD p.body.length) a (o k) (by omega);have u:=Jj (k:Int) 1 (by omega) (by omega);have z:(k:Int)+1=((k+1:Nat):Int):=by omega
   rw[z]at u;refine⟨[.yld 4,.hp 3 0,AL ((Fa p.body k).getD []),iD p.body.length,iD ((k+1:Nat):Int),EH (NH p.body k),iD (NH p.body k).length,iD (NH p.body k).length],H',?_,_,_,_,_,rfl,by rw[JgF];exact I⟩;rw[JiC];unfold Eo AV;simp only[JA,n,decide_true,AU,Bd,Bv,m,w,v,x,l,K,A7,F,J,D,JcW,E,Kw,Kv,NM,NJ,Ll,u])
  (fun s H a=>by
   obtain⟨i,c,g,j,rfl,a⟩:=a;refine⟨(.exit 0,[.yld 4,.hp 3 0,i,iD p.body.length,iD p.body.length,c,g,j],H),?_,(by intro e;cases e),_,H,rfl,a⟩;rw[JiC];unfold Eo AV;simp)
  (by omega) (s:=[.yld 4,.hp 3 0,.undef,iD p.body.length,iD 0,.undef,.undef,.undef]) (H:=H) ⟨_,_,_,_,rfl,by simpa[WU]using h⟩
 obtain⟨r,G,s,H',rfl,y⟩:=key;obtain⟨m,l⟩:=b H _ h;refine⟨H',?_,y⟩;simp only[m,AU,w,v,x,l,wE,G,Kw,Kv]
def YJ(P:Aj):GT:=CO P (PV P (OE P)) Xi 0 197
def JvJ(ds:Ac D)(H:Ae):YJ Aa ds H=AB Aa (PV Aa (OE Aa)) Xi 0 f197 ds H:=CJ func197 ds H
def JlW:BN Aa 197 (YJ Aa):=CQ (Jb2 (OE Aa) Jrx) AX func197
def JwK(p:Pg)(o:HO)(n:p.body.length<=250)(b:∀k,((Fa p.body k).getD []).length<=3000):
  ∃H' d cs,YJ Aa [.hp 1 0] [o,.cells 231 7 (Kr p Aq)]=some (.tup [],H')/\H'[1]? =some (.cells 231 7 (Kr p d))/\Buf 103 3 H' 5 d (LD p.body).length cs/\GM 3 H' 5 cs (LD p.body):=by
 have a:Nl p [o,.cells 231 7 (Kr p Aq),.cells 229 1 [.hp 1 0],.cells 229 1 [.hp 1 0],NW f197 .ready] []:=
  ⟨by simp,⟨_,[],rfl,Buf.nil _ _ _ _,trivial⟩,rfl,rfl,rfl⟩
 obtain⟨H',i,x,⟨d,cs,v,m,h⟩,u,y,c⟩:=JqG p _ a n b;have s:BA 229 (.hp 1 0) [o,.cells 231 7 (Kr p Aq)]=some (.hp 2 0,[o,.cells 231 7 (Kr p Aq),.cells 229 1 [.hp 1 0]]):=rfl;have z:Ai none [o,.cells 231 7 (Kr p Aq),.cells 229 1 [.hp 1 0]] (.hp 2 0)=some (.hp 1 0):=rfl;have w:Cw Aa [.hp 1 0] [o,.cells 231 7 (Kr p Aq),.cells 229 1 [.hp 1 0]]=some (.clo (.func 282) [] [.hp 3 0],[o,.cells 231 7 (Kr p Aq),.cells 229 1 [.hp 1 0],.cells 229 1 [.hp 1 0]]):=by rfl
 have q:IK (PV Aa (OE Aa)) (.clo (.func 282) [] [.hp 3 0]) [5] (ET f197 0) (EL f197 0) 16 Xi [.hp 2 0] [o,.cells 231 7 (Kr p Aq),.cells 229 1 [.hp 1 0],.cells 229 1 [.hp 1 0]]=some (.normal,H'.set 4 .dead):=by
  have j:IK (PV Aa (OE Aa)) (.clo (.func 282) [] [.hp 3 0]) [5] (ET f197 0) (EL f197 0) 16 Xi [.hp 2 0] [o,.cells 231 7 (Kr p Aq),.cells 229 1 [.hp 1 0],.cells 229 1 [.hp 1 0]]=
   MQ (uT Aa (OE Aa) [.yld 4,.hp 3 0] [o,.cells 231 7 (Kr p Aq),.cells 229 1 [.hp 1 0],.cells 229 1 [.hp 1 0],NW f197 .ready]) 4:=rfl
  rw[j,i];unfold MQ;simp only[c];rfl
 refine⟨H'.set 4 .dead,d,cs,?_,by grind,m.set 4 _ (by omega),h.keep fun r l g=>Ee (fun e=>by subst e;rw[c]at g;cases g)⟩;rw[JvJ,Jre];simp_all
def JjW(P:Aj):Ac Cj:=(146,false,Ot 197 (YJ P))::tJ P
def JoI:∀p∈JjW Aa,Ci Aa p:=AC (CB (Pt JlW))<|Fi
def sF(P:Aj):Tab:=⟨JjW P,BM,[]⟩
def JwC:Bg Aa (sF Aa):=CU JoI
def cS:Ac Nat:=[]
def QaA(n:Nat)(a:D)(h:Ae):AB Aa (sF Aa) cS n f145 [a] h=
(Ad (Dj a) fun d=>
Ad (AP 3 d) fun e=>
Ah ((Ot 197 (YJ Aa)) [e,(.clo (.func 197) [a] [])] h) fun g b=>
Dx 6 none b a fun c=>
some (c,b)):=by kernel_rfl
def JpE{Gf:GT}{b off:Nat}{x:D}{H a:Ae}{t t2:AQ}{sz sz2:Nat}{cs cs2:Ac D}{y:Ap}(f:H[b]? =some (.cells t sz cs))(c:cs[off]? =some wZ)(h:cs[off+1]? =some (.v (.int .i32 0)))
  (e:Gf [x] (H.set b (.cells t sz (cs.set (off+1) (.v (.int .i32 1)))))=some (.tup [],a)) (i:a[b]? =some (.cells t2 sz2 cs2)) (d:cs2[off]? =some (.v y)) (g:cs2[off+1]? =some (.v (.int .i32 1))):
  XY Gf b off x H=some (.tup [],(a.set b (.cells t2 sz2 (cs2.set off (.v (.int .u32 1))))).set b (.cells t2 sz2 ((cs2.set off (.v (.int .u32 1))).set (off+1) (.v (.int .i32 0))))):=by
 unfold XY;simp only[f,c,h,e,i,d,g]
def zG(P:Aj):GT:=CO P (sF P) cS 0 145
def JmE(ds:Ac D)(H:Ae):zG Aa ds H=AB Aa (sF Aa) cS 0 f145 ds H:=CJ func145 ds H
def JvY:BN Aa 145 (zG Aa):=CQ JwC AX func145
def Xn(p:Pg):Ac D:=[iD p.params,AL p.vars,A8 p.body,wZ,.v (.int .i32 0),wZ,Aq]
def Qbn(p:Pg)(o:HO)(F:p.body.length<=250)(j:∀k,((Fa p.body k).getD []).length<=3000):
  ∃d cs H',zG Aa [.hp 1 0] [o,.cells 231 7 (Xn p)]=some (d,H')/\Buf 103 3 H' 0 d (LD p.body).length cs/\GM 3 H' 0 cs (LD p.body):=by
 obtain⟨h,d,cs,A,m,C,v⟩:=JwK p o F j;have s:YJ Aa [.hp 1 0] (([o,.cells 231 7 (Xn p)]:Ae).set 1 (.cells 231 7 ((Xn p).set (3+1) (.v (.int .i32 1)))))=some (.tup [],h):=A;have c:=JpE (Gf:=YJ Aa) (b:=1) (off:=3) (x:= .hp 1 0) (H:=[o,.cells 231 7 (Xn p)]) (cs:=Xn p) rfl rfl rfl s m (y:= .int .u32 0) rfl rfl;rw[Nb]at c;have a:Ot 197 (YJ Aa) [.hp 1 3,.clo (.func 197) [.hp 1 0] []] [o,.cells 231 7 (Xn p)]=_:=c;have i:=(CV.1 m).1;have g:((Kr p d).set 3 (.v (.int .u32 1))).set (3+1) (.v (.int .i32 0))=[iD p.params,AL p.vars,A8 p.body,.v (.int .u32 1),.v (.int .i32 0),wZ,d]:=rfl;rw[g]at a;have q:(h.set 1 (.cells 231 7 [iD p.params,AL p.vars,A8 p.body,.v (.int .u32 1),.v (.int .i32 0),wZ,d]))[1]? =some (.cells 231 7 [iD p.params,AL p.vars,A8 p.body,.v (.int .u32 1),.v (.int .i32 0),wZ,d]):=Hw i;have D:Ai none (h.set 1 (.cells 231 7 [iD p.params,AL p.vars,A8 p.body,.v (.int .u32 1),.v (.int .i32 0),wZ,d])) (.hp 1 6)=some d:=D6 _ _ _ _ _ _ _ q rfl;have z:Dj (.hp 1 0)=some (.hp 1 0):=rfl;have B:AP 3 (.hp 1 0)=some (.hp 1 3):=rfl;have u:AP 6 (.hp 1 0)=some (.hp 1 6):=rfl;have w:Buf 103 3 (h.set 1 (.cells 231 7 [iD p.params,AL p.vars,A8 p.body,.v (.int .u32 1),.v (.int .i32 0),wZ,d])) 5 d (LD p.body).length cs:=C.set 1 _ (by omega);have E:GM 3 (h.set 1 (.cells 231 7 [iD p.params,AL p.vars,A8 p.body,.v (.int .u32 1),.v (.int .i32 0),wZ,d])) 5 cs (LD p.body):=v.keep fun r l n=>Ee (fun e=>by subst e;rw[m]at n;cases n);refine⟨d,cs,_,?_,w.low,E.low⟩;rw[JmE,QaA];unfold Dx;simp only[z,AU,B,a,A7,u,D]
def Jkn(P:Aj):Ac Cj:=(145,false,zG P)::tJ P
def Juw:∀p∈Jkn Aa,Ci Aa p:=AC (CB JvY)<|Fi
def zI(P:Aj):Tab:=⟨Jkn P,BM,[]⟩
def Jra:Bg Aa (zI Aa):=CU Juw
def cN:Ac Nat:=[]
def JxJ(n:Nat)(e:D)(h:Ae):AB Aa (zI Aa) cN n f68 [e] h=
(Ah (BA 25 e h) fun d i=>
Ad (Ai (some 3) i d) fun m=>
Ah (Ak Ko [m] i) fun g b=>
Ad (Ag .int .neq g (iD 0)) fun o=>
Az o
(some (.tup [Aq,g],b))
(Ad (Ai (some 3) b d) fun j=>
Ad (CY [(0,3),(3,3),(6,1)] [(iD 0),Aq,Aq,wZ,(.v (.int .i32 0)),wZ,Aq] [(0,j)]) fun l=>
Ah (BA 231 l b) fun p k=>
Ah ((zG Aa) [p] k) fun a c=>
some (.tup [a,(iD 0)],c))):=by kernel_rfl
theorem tB(l:Ac Nd):∀(f:Nat) (i:Int) (p:Ac Int),Vp l f i=some p->(p.length:Int)<=i/\i<l.length
 |0,i,p,h=>by cases h
 |f+1,i,p,h=>by
  by_cases a:Bc l 0=l.length/\0<=i/\i<l.length
  ·by_cases b:i=0
   ·subst b;rw[JbS l f a]at h;cases h;exact⟨by simp,a.2.2⟩
   ·rw[JjA l f i a b]at h;obtain⟨q,c,rfl⟩:=DV.1 h;have:=tB l f _ q c;have d:=JcI l i i.toNat 0;refine⟨?_,a.2.2⟩;simp only[DC,Ej,Hf];omega
  ·rw[Jdl l _ i a]at h;cases h
def eL(l:Ac Nd)(i:Int)(p:Ac Int)(h:Fa l i=some p):p.length<=l.length:=by
 by_cases b: -1<=i
 ·rw[<-Jcl l (i+2).toNat i b (by omega)]at h;have:=tB l _ i p h;omega
 ·by_cases a:Bc l 0=l.length
  ·have:=(aZ a i).1 (by rw[h];rfl);omega
  ·rw[fT l i a]at h;cases h
def K8{p:Pg}(h:ED p=0):p.body.length<=200/\Bc p.body 0=p.body.length:=by
 have e:=(Y5 h).1;unfold I4 at e;split at e
 ·omega
 ·split at e
  ·omega
  ·split at e
   ·omega
   ·split at e
    ·omega
    ·rename_i a b c d;exact⟨by omega,by omega⟩
def JkU(p:Pg)(h:p.body.length<=3000000)(H:Ae):Ak Ko [Be p] H=some (iD (ED p),H):=by
 rw[CP _ _ _ rfl];have:Ko [Be p]=_:=EO (A:=Ef) _ p;rw[this,Aw h];rfl
def Du(p:Pg):Ac Dl:=if ED p=0 then LD p.body else[]
def Vg:Ac D->Af D:=F1 Ef fun p=>if p.body.length<=3000000 then some (.tup [EH (Du p),iD (ED p)])else none
def iB(P:Aj):GT:=CO P (zI P) cN 0 68
def JqX(ds:Ac D)(H:Ae):iB Aa ds H=AB Aa (zI Aa) cN 0 f68 ds H:=CJ func68 ds H
def wD:BN Aa 68 (iB Aa):=CQ Jra AX func68
def JkW(p:Pg)(h:p.body.length<=3000000):∃d cs H',iB Aa [Be p] []=some (.tup [d,iD (ED p)],H')/\Buf 103 3 H' 0 d (Du p).length cs/\GM 3 H' 0 cs (Du p):=by
 rw[JqX,JxJ];have b:BA 25 (Be p) []=some (.hp 0 0,[.cells 25 3 [iD p.params,AL p.vars,A8 p.body]]):=rfl;have l:Ai (some 3) [.cells 25 3 [iD p.params,AL p.vars,A8 p.body]] (.hp 0 0)=some (Be p):=rfl;have j:=JkU p h [.cells 25 3 [iD p.params,AL p.vars,A8 p.body]];by_cases a:ED p=0
 ·have c:Du p=LD p.body:=by unfold Du;rw[Aw a]
  obtain⟨u,s⟩:=K8 a;have g:∀k,((Fa p.body k).getD []).length<=3000:=fun k=>by
   cases r:Fa p.body k with
   |none=>simp
   |some q=>
    have:=eL p.body k q r;simp;omega
  obtain⟨d,cs,H',m,o,n⟩:=Qbn p (.cells 25 3 [iD p.params,AL p.vars,A8 p.body]) (by omega) g;have f:CY [(0,3),(3,3),(6,1)] [iD 0,Aq,Aq,wZ,.v (.int .i32 0),wZ,Aq] [(0,Be p)]=some (.agg (Xn p)):=rfl;have i:BA 231 (.agg (Xn p)) [.cells 25 3 [iD p.params,AL p.vars,A8 p.body]]=some (.hp 1 0,[.cells 25 3 [iD p.params,AL p.vars,A8 p.body],.cells 231 7 (Xn p)]):=rfl;refine⟨d,cs,H',?_,by rw[c];exact o,by rw[c];exact n⟩;have e:((ED p) !=0)=false:=by rw[a];rfl
  simp only[b,A7,l,AU,j,Wl,e,Bd,BF,BC,f,i,m];rw[a]
 ·have c:Du p=[]:=by unfold Du;rw[Am a]
  refine⟨Aq,[],[.cells 25 3 [iD p.params,AL p.vars,A8 p.body]],?_,by rw[c];exact Buf.nil _ _ _ _,by rw[c];trivial⟩;have e:((ED p) !=0)=true:=bne_iff_ne.2 a;simp only[b,A7,l,AU,j,Wl,e,Bd,Bv]
def cK:Hr Aa 68 Vg:=by
 refine⟨wD.body,fun ds d c S vs w n k=> ?_⟩;unfold Vg F1 at c;split at c
 ·obtain⟨p,hp,c⟩:=Bi.1 c;split at c
  case isFalse=>cases c
  rename_i z;cases c;obtain⟨B,cs,H',q,x,r⟩:=JkW p z;refine(wD.calls [Be p] [] _ H' q w.heap.size S [] vs w (bM S w n) ((Gt.cons (Ef.ok _ _ hp) .nil).rep k)).mono ?_;rintro e A ⟨v,C,D,rfl,i,h,l⟩;simp only[Rep,Au]at i;obtain⟨xs,rfl,a,t,rfl,j,b,u,rfl,m,rfl⟩:=i;refine⟨_,rfl,?_,l.below⟩;have g:=T9 h (by omega) x (els:=(Du p).map Ie) (by simp) (fun e s=>by obtain⟨y,_,rfl⟩:=GN.1 s;rfl) (fun xs o=>r.own h xs o) j;simp only[Rep,Au];exact⟨[a,b],rfl,a,[b],rfl,g,b,[],rfl,m,rfl⟩
 ·cases c
def Tp(p:Pg)(h:p.body.length<=3000000)(H:Ae):DX Vg [Be p] H=some (.tup [EH (Du p),iD (ED p)],H):=by
 rw[V9 _ _ _ rfl];have:Vg [Be p]=_:=EO (A:=Ef) _ p;rw[this,Aw h];rfl
def X8(l:Ac Dl):Prop:=l.length<=100000/\∀x∈l,x.path.length<=3000000
instance (l:Ac Dl):Decidable (X8 l):=by unfold X8;infer_instance
def Jnb{l:Ac Dl}(h:X8 l)(i:Nat)(a:i<l.length):l[i].path.length<=3000000:=h.2 _ (Ih a)
def aA:Ac D->Af D:=F2 JcA Pj fun l d=>if X8 l/\d.path.length<=3000000 then some (iD (QN l d))else none
def Jtz(l:Ac Dl)(d:Dl)(C:X8 l)(I:d.path.length<=3000000):∀(f a b n:Nat),b<=l.length->b<a+f->f<n->
  ∃h e,DY (BK Aa (XB Aa) gQ 100002 f74 0) n [EH l,.hp 0 0,iD a,iD b,iD (-1)] [.cells 103 3 [AL d.path,iD d.op,iD d.n]]=
   some (.exit 0,[EH l,.hp 0 0,h,e,iD (QU l d f a b)],[.cells 103 3 [AL d.path,iD d.op,iD d.n]]):=by
 intro f
 induction f with
 |zero=>
  intro a b n B J G;obtain⟨n,rfl⟩:∃z,n=z+1:=⟨n-1,by omega⟩;have c:¬(a:Int)<(b:Int):=by omega
  refine⟨iD a,iD b,PP ?_⟩;rw[qV];simp only[JA,c,decide_false,AU,Bd,BF,BC,QU]
 |succ f y=>
  intro a b n B J G;obtain⟨n,rfl⟩:∃z,n=z+1:=⟨n-1,by omega⟩;have K:=C.1;by_cases g:a<b
  ·have c:(a:Int)<(b:Int):=by omega
   have p:=jB (b:Int) (a:Int) (by omega) (by omega);have s:EJ .quo .i64 ((b:Int)-(a:Int)) 2=some (iD (((b-a)/2:Nat):Int)):=by
    show(if(2:Int)=0 then none else some (D.v (.int .i64 (IntKind.i64.wrap (((b:Int)-(a:Int)).tdiv 2)))))=_;rw[Am (by omega)];have q:((b:Int)-(a:Int)).tdiv 2=(((b-a)/2:Nat):Int):=by
     rw[Int.tdiv_eq_ediv_of_nonneg (by omega)];omega
    rw[q,VK _ (by omega) (by omega)]
   have k:=Jj (a:Int) (((b-a)/2:Nat):Int) (by omega) (by omega);have F:(a:Int)+(((b-a)/2:Nat):Int)=((a+(b-a)/2:Nat):Int):=by omega
   rw[F]at k;have w:a+(b-a)/2<l.length:=by omega
   have r:=Jjq l (a+(b-a)/2) w;have u:=JcN [.cells 103 3 [AL d.path,iD d.op,iD d.n]] l[a+(b-a)/2];have v:Ai (some 3) [.cells 103 3 [AL d.path,iD d.op,iD d.n]] (.hp 0 0)=some (Em d):=rfl;have o:=AI l[a+(b-a)/2] d [.cells 103 3 [AL d.path,iD d.op,iD d.n]] (Jnb C _ w) I;have H:l.getD (a+(b-a)/2) default=l[a+(b-a)/2]:=by simp[w]
   have x:=Jj ((a+(b-a)/2:Nat):Int) 1 (by omega) (by omega);have L:((a+(b-a)/2:Nat):Int)+1=((a+(b-a)/2+1:Nat):Int):=by omega
   rw[L]at x;simp only[QU];rw[Aw g,H];by_cases i:GH l[a+(b-a)/2] d=0
   ·rw[Aw i];have m:(GH l[a+(b-a)/2] d==0)=true:=by rw[i];rfl
    refine⟨iD a,iD b,PP ?_⟩;rw[qV];simp only[JA,c,decide_true,AU,Bd,Bv,QE,p,EV,s,Ll,k,r,u,v,o,A7,Nk,m]
   ·rw[Am i];have m:(GH l[a+(b-a)/2] d==0)=false:=by rw[AD];exact i
    by_cases j:GH l[a+(b-a)/2] d<0
    ·rw[Aw j];obtain⟨h,e,q⟩:=y (a+(b-a)/2+1) b n B (by omega) (by omega);refine⟨h,e,?_⟩;rw[IQ]
     ·exact q
     ·rw[qV];simp only[JA,c,decide_true,AU,Bd,Bv,QE,p,EV,s,Ll,k,r,u,v,o,A7,Nk,m,BF,BC,j,x]
    ·rw[Am j];obtain⟨h,e,q⟩:=y a (a+(b-a)/2) n (by omega) (by omega) (by omega);refine⟨h,e,?_⟩;rw[IQ]
     ·exact q
     ·rw[qV];simp only[JA,c,decide_true,AU,Bd,Bv,QE,p,EV,s,Ll,k,r,u,v,o,A7,Nk,m,BF,BC,j,decide_false]
  ·have c:¬(a:Int)<(b:Int):=by omega
   have E:QU l d (f+1) a b= -1:=by simp only[QU];rw[Am g]
   refine⟨iD a,iD b,PP ?_⟩;rw[qV,E];simp only[JA,c,decide_false,AU,Bd,BF,BC]
def JeC:Bz Aa 74 aA:=GK (kp:=gQ) Ja0 AX func74 fun l d r h=>by
 split at h
 case isFalse=>cases h
 rename_i a;cases h;obtain⟨g,e,q⟩:=Jtz l d a.1 a.2 (l.length+1) 0 l.length 100002 (BQ _) (by omega) (by have:=a.1.1;omega);have c:BZ Aa (XB Aa) gQ 100002 f74 0 [EH l,.hp 0 0,iD 0,iD l.length,iD (-1)] [.cells 103 3 [AL d.path,iD d.op,iD d.n]]=_:=q;refine⟨100002,_,?_,AY.refl _⟩;show BB (AB _ _ _ _ _ [EH l,Em d] [])=_;rw[JvB];have b:BA 103 (Em d) []=some (.hp 0 0,[.cells 103 3 [AL d.path,iD d.op,iD d.n]]):=rfl;simp only[b,A7,JcW,AU,c,Kw,Kv,NM,NJ];rfl
def Ja7(l:Ac Dl)(d:Dl)(h:X8 l)(a:d.path.length<=3000000)(H:Ae):Ak aA [EH l,Em d] H=some (iD (QN l d),H):=by
 rw[CP _ _ _ rfl];have:aA [EH l,Em d]=_:=JU (A:=JcA) (B:=Pj) _ l d
 grind
def N7(p:Pg):HO:= .cells 25 3 [iD p.params,AL p.vars,A8 p.body]
def uY(p:Pg)(d:Dl):Bool:=decide (ED p=0/\0<=Jk p.body d.path/\RG p.body (Jk p.body d.path) d.op d.n)
def JiU(P:Aj):Ac Cj:=(68,true,DX Vg)::(74,true,Ak aA)::Fw P
def QeI:∀p∈JiU Aa,Ci Aa p:=AC (Jy cK)<|AC (Bf JeC)<|T4
def mR(P:Aj):Tab:=⟨JiU P,BM,[]⟩
def QbX:Bg Aa (mR Aa):=CU QeI
def Je7:Ac Nat:=[]
def Sc(n:Nat)(C E:D)(h:Ae):AB Aa (mR Aa) Je7 n f148 [C,E] h=
(Ah (BA 25 C h) fun B L=>
Ah (BA 103 E L) fun F N=>
Ah (BX 25 [(iD 0),Aq,Aq] N) fun b G=>
Ad (Ai (some 3) G B) fun H=>
Ah (DX Vg [H] G) fun J m=>
Eo J fun M d=>
Ad (Ag .int .neq d (iD 0)) fun z=>
Az z
(Ad (CY [(0,1),(1,1),(2,1)] [(iD 0),Aq,Aq] []) fun l=>
Ah (Bh 3 b l m) fun K g=>
Ad (Ai (some 3) g b) fun y=>
some (.tup [y,d],g))
(Ad (Ai (some 3) m F) fun p=>
Ah (Ak aA [M,p] m) fun u a=>
Ad (Ag .int .lss u (iD 0)) fun k=>
Az k
(Ad (CY [(0,1),(1,1),(2,1)] [(iD 0),Aq,Aq] []) fun r=>
Ah (Bh 3 b r a) fun I e=>
Ad (Ai (some 3) e b) fun s=>
some (.tup [s,(iD 17)],e))
(Ad (Ai (some 3) a B) fun q=>
Ad (Ai (some 3) a F) fun w=>
Ah (Ak qO [q,w] a) fun j x=>
Eo j fun o i=>
Ah (Bh 3 b o x) fun O c=>
Ad (Ai (some 3) c b) fun v=>
some (.tup [v,i],c)))):=by kernel_rfl
def F7(p:Pg)(d:Dl):Pg×Int:=if ED p≠0 then(⟨0,[],[]⟩,ED p)else if uY p d=true then JK p d else(⟨0,[],[]⟩,17)
def JdO{p:Pg}(h:ED p=0)(d:Dl):uY p d=true↔d∈Du p:=by
 unfold uY Du;rw[Aw h,Pw (K8 h).2,F5]
 grind
def cY(p:Pg):(Du p).Pairwise fun a b=>GH a b<0:=by
 unfold Du;split
 ·rename_i h;exact Qa9 (K8 h).2
 simp
def JhO(p:Pg):X8 (Du p):=by
 unfold Du;split
 ·rename_i h;obtain⟨c,b⟩:=K8 h;refine⟨by have:=JhT p.body;omega,fun x a=> ?_⟩;have q:=((Pw b x).1 a).1;have:=eL p.body _ _ ((I6 b _ q x.path).2 rfl);omega
 ·exact⟨by simp,fun x a=>by cases a⟩
def Jes{p:Pg}(h:ED p=0)(d:Dl):uY p d=true↔0<=QN (Du p) d:=by
 rw[JdO h,Jaw _ _ (cY p)]
def JmP(p:Pg)(d:Dl)(h:aW p d)(H:Ae):Ak qO [Be p,Em d] H=some (.tup [Be (JK p d).1,iD (JK p d).2],H):=by
 rw[CP _ _ _ rfl];have:qO [Be p,Em d]=_:=JU (A:=Ef) (B:=Pj) _ p d
 grind
def PN(d:Dl):HO:= .cells 103 3 [AL d.path,iD d.op,iD d.n]
def JaS(q:Pg):HO:= .cells 25 3 [iD q.params,AL q.vars,A8 q.body]
def Vy:HO:= .cells 25 3 [iD 0,Aq,Aq]
def nS:Ac D->Af D:=F2 Ef Pj fun p d=>if aW p d then some (.tup [Be (F7 p d).1,iD (F7 p d).2])else none
def tE:Bz Aa 148 nS:=GK (kp:=Je7) QbX AX func148 fun p d r h=>by
 split at h
 case isFalse=>cases h
 rename_i l;cases h;have a:BA 25 (Be p) []=some (.hp 0 0,[N7 p]):=rfl;have c:BA 103 (Em d) [N7 p]=some (.hp 1 0,[N7 p,PN d]):=rfl;have b:BX 25 [iD 0,Aq,Aq] [N7 p,PN d]=some (.hp 2 0,[N7 p,PN d,Vy]):=rfl;have n:Ai (some 3) [N7 p,PN d,Vy] (.hp 0 0)=some (Be p):=rfl;have v:Ai (some 3) [N7 p,PN d,Vy] (.hp 1 0)=some (Em d):=rfl;have m:=Tp p (by have:=l.2.1;omega) [N7 p,PN d,Vy];have s:=Ja7 (Du p) d (JhO p) (by have:=l.2.2;omega) [N7 p,PN d,Vy];have k:DN (.tup [EH (Du p),iD (ED p)]) 0=some (EH (Du p)):=rfl;have o:DN (.tup [EH (Du p),iD (ED p)]) 1=some (iD (ED p)):=rfl;have s0:Bh 3 (.hp 2 0) (.agg [iD 0,Aq,Aq]) [N7 p,PN d,Vy]=some (.v undef,[N7 p,PN d,Vy]):=rfl;have x:∀q,Bh 3 (.hp 2 0) (Be q) [N7 p,PN d,Vy]=some (.v undef,[N7 p,PN d,JaS q]):=fun q=>rfl;have w:Ai (some 3) [N7 p,PN d,Vy] (.hp 2 0)=some (.agg [iD 0,Aq,Aq]):=rfl;have y:∀q,Ai (some 3) [N7 p,PN d,JaS q] (.hp 2 0)=some (Be q):=fun q=>rfl;by_cases g:ED p=0
 ·have i:((ED p) !=0)=false:=by rw[g];rfl
  by_cases u:uY p d=true
  ·have e:F7 p d=JK p d:=by unfold F7;grind
   have j:¬QN (Du p) d<0:=by have:=(Jes g d).1 u;omega
   have B:=JmP p d l [N7 p,PN d,Vy];have z:DN (.tup [Be (JK p d).1,iD (JK p d).2]) 0=some (Be (JK p d).1):=rfl;have C:DN (.tup [Be (JK p d).1,iD (JK p d).2]) 1=some (iD (JK p d).2):=rfl;rw[e];refine⟨0,_,?_,AY.refl _⟩;show BB (AB _ _ _ _ _ [Be p,Em d] [])=_;rw[Sc];unfold Eo;simp only[a,c,b,A7,n,AU,m,k,o,Wl,i,Bd,BF,BC,v,s,JA,j,decide_false,B,z,C,x,y];rfl
  ·have j:QN (Du p) d<0:=by
    have:¬0<=QN (Du p) d:=fun q=>u ((Jes g d).2 q);omega
   have e:F7 p d=(⟨0,[],[]⟩,17):=by unfold F7;grind
   rw[e];refine⟨0,_,?_,AY.tup (.cons xU (.cons (AY.refl (iD 17)) .nil))⟩;show BB (AB _ _ _ _ _ [Be p,Em d] [])=_;rw[Sc];unfold Eo;simp only[a,c,b,A7,n,AU,m,k,o,Wl,i,Bd,BF,BC,v,s,JA,j,decide_true,Bv,nO,s0,w];rfl
 ·have i:((ED p) !=0)=true:=bne_iff_ne.2 g;have e:F7 p d=(⟨0,[],[]⟩,ED p):=by unfold F7;rw[Aw g]
  rw[e];refine⟨0,_,?_,AY.tup (.cons xU (.cons (AY.refl (iD (ED p))) .nil))⟩;show BB (AB _ _ _ _ _ [Be p,Em d] [])=_;rw[Sc];unfold Eo;simp only[a,c,b,A7,n,AU,m,k,o,Wl,i,Bd,Bv,nO,s0,w];rfl
def Qb9(p:Pg)(d:Dl)(h:aW p d)(H:Ae):Ak nS [Be p,Em d] H=some (.tup [Be (F7 p d).1,iD (F7 p d).2],H):=by
 rw[CP _ _ _ rfl];have:nS [Be p,Em d]=_:=JU (A:=Ef) (B:=Pj) _ p d
 grind
def ZK:GT
 |[.hp b off],H=>
  match H[b]? with
  |some (.cells _ _ cs)=>
   match cs[off]? with
   |some (.v (.int .i64 n))=>some (iD' n,H)
   |_=>none
  |_=>none
 |_,_=>none
where iD' (n:Int):D:= .v (.int .i64 n)
def gV:GT
 |[.hp b off,.v (.int .i64 m)],H=>
  match H[b]? with
  |some (.cells t sz cs)=>
   match cs[off]? with
   |some (.v (.int .i64 n))=>some (.v (.int .i64 (IntKind.i64.wrap (n+m))),H.set b (.cells t sz (cs.set off (.v (.int .i64 (IntKind.i64.wrap (n+m)))))))
   |_=>none
  |_=>none
 |_,_=>none
set_option maxRecDepth 100000 in
set_option maxHeartbeats 1600000 in
def QdF:BN prog 152 ZK:=by
 refine⟨⟨_,func152,by decide,rfl⟩,fun ds H d H' h B S L vs w e a=> ?_⟩;unfold ZK at h;split at h
 ·rename_i b off;split at h
  case h_2=>cases h
  rename_i t sz cs i;split at h
  case h_2=>cases h
  rename_i n g;cases h;simp only[Au]at a;obtain⟨r,o,rfl,j,rfl⟩:=a;simp only[Rep]at j;obtain⟨k,c,m,rfl⟩:=j;obtain⟨l,p⟩:=UY e i m off g;have q:=run_call_load (P:=prog) func210 (by kernel_rfl) (by kernel_rfl) (by kernel_rfl) .i64 (by kernel_rfl) l;clear g i;go_enter func152,ntmps152;go_wp2;go_ret;exact⟨_,S,L,rfl,by simp only[Rep,ZK.iD'];rfl,e,Later.refl⟩
 ·cases h
set_option maxRecDepth 100000 in
set_option maxHeartbeats 1600000 in
def JyU:BN prog 72 gV:=by
 refine⟨⟨_,func72,by decide,rfl⟩,fun ds H d H' h B S L vs w o l=> ?_⟩;unfold gV at h;split at h
 ·rename_i b off m;split at h
  case h_2=>cases h
  rename_i t sz cs j;split at h
  case h_2=>cases h
  rename_i n i;cases h;simp only[Au]at l;obtain⟨F,z,rfl,q,D,E,rfl,k,rfl⟩:=l;simp only[Rep]at q k;obtain⟨r,c,p,rfl⟩:=q;subst k;obtain⟨v,u⟩:=UY o j p off i;have g:=(CV.1 i).1;obtain⟨a,e⟩:=o.setCell j p off g (x:= .int .i64 (IntKind.i64.wrap (n+m))) (d:= .v (.int .i64 (IntKind.i64.wrap (n+m)))) rfl (by simp only[Rep]);have C:=run_call_add (P:=prog) func153 (by kernel_rfl) (by kernel_rfl) (by kernel_rfl) .i64 (by kernel_rfl) (y:=m) (s:=IntKind.i64.wrap (n+m)) v u rfl;clear i j;go_enter func72,ntmps72;go_wp2;go_ret;simp only[IntWalk.i64_left]at a e⊢;exact⟨_,S,L,rfl,by simp only[Rep];rfl,a,e⟩
 ·cases h
def R4(P:Aj):Ac Cj:=(152,false,ZK)::(72,false,gV)::(200,true,DX sG)::(149,true,DX Xu)::(150,true,Ak jF)::(151,true,Ak aI)::(57,true,DX Sj)::(68,true,DX Vg)::(148,true,Ak nS)::(29,true,Ak Ko)::(35,true,Ak RH)::[]
def Jdg:∀p∈R4 Aa,Ci Aa p:=AC (CB QdF)<|AC (CB JyU)<|AC (Jy QaB)<|AC (Jy Jb1)<|AC (Bf Jjs)<|AC (Bf Jj4)<|AC (Jy Lk)<|AC (Jy cK)<|AC (Bf tE)<|AC (Bf tN)<|AC (Bf GD)<|EN
def oN(P:Aj):Tab:=⟨R4 P,BM,[]⟩
def Rm:Bg Aa (oN Aa):=CU Jdg
def JjC:Ac Nat:=[]
def Jvu(n:Nat)(o:D)(h:Ae):AB Aa (oN Aa) JjC n f67 [o] h=
(Ah (BA 25 o h) fun g s=>
Ah (BX 25 [(iD 0),Aq,Aq] s) fun p c=>
Ad (AP 0 g) fun j=>
Ad (Ai none c j) fun v=>
Ad (AP 1 g) fun q=>
Ad (Ai none c q) fun r=>
Ah (D5 3 1 Aq r c) fun w m=>
Ad (AP 2 g) fun b=>
Ad (Ai none m b) fun l=>
Ah (D5 44 2 Aq l m) fun d i=>
Ad (CY [(0,1),(1,1),(2,1)] [(iD 0),Aq,Aq] [(0,v),(1,w),(2,d)]) fun k=>
Ah (Bh 3 p k i) fun u a=>
MK j Aq
(MK b Aq
(MK j Aq
(Ad (Ai (some 3) a p) fun e=>
some (e,a))))):=by kernel_rfl
def JeT:Ac Nat:=[]
def QdN(n:Nat)(a:D)(h:Ae):AB Aa (oN Aa) JeT n f71 [a] h=
(Ad (Ag .ptr .eql a Ic) fun e=>
Az e
(some ((iD 0),h))
(Ad (Dj a) fun g=>
Ad (AP 6 g) fun d=>
Ah (ZK [d] h) fun b c=>
some (b,c))):=by kernel_rfl
def JaZ:Ac Nat:=[]
def JzC(n:Nat)(a:D)(h:Ae):AB Aa (oN Aa) JaZ n f147 [a] h=
(Ad (Dj a) fun j=>
Ad (AP 0 j) fun k=>
AV 0 (some 3) h k fun l=>
Ad (Dj a) fun m=>
Ad (AP 0 m) fun p=>
AV 3 none h p fun i=>
Ad (Dj a) fun q=>
Ad (AP 0 q) fun s=>
AV 4 none h s fun g=>
Ah (DX sG [l,i,g] h) fun b c=>
Eo b fun e o=>
Ha 10 1 a e c fun r d=>
some (.tup [],d)):=by kernel_rfl
def Fg(γ γ':Nat->Nat)(cs:Ac Nat)(H H':Ae):Prop:=H.length<=H'.length/\∀c i o,c∉cs->At γ c i o H->At γ' c i o H'
def Fg.refl(γ:Nat->Nat)(cs:Ac Nat)(H:Ae):Fg γ γ cs H H:=⟨BQ _,fun _ _ _ _ h=>h⟩
def Fg.trans{γ γ' γ'':Nat->Nat}{cs:Ac Nat}{H H' a:Ae}(h:Fg γ γ' cs H H')(k:Fg γ' γ'' cs H' a):Fg γ γ'' cs H a:=⟨Ig h.1 k.1,fun c i o b d=>k.2 c i o b (h.2 c i o b d)⟩
def DZ.toL{γ γ':Nat->Nat}{c:Nat}{cs:Ac Nat}{H H':Ae}(h:DZ γ γ' c H H')(a:c∈cs):Fg γ γ' cs H H':=⟨h.1,fun b i o d f=>h.2 b i o (fun e=>d (e▸a)) f⟩
def Fg.mono{γ γ':Nat->Nat}{cs ds:Ac Nat}{H H':Ae}(h:Fg γ γ' cs H H')(a:∀c∈cs,c∈ds):Fg γ γ' ds H H':=⟨h.1,fun c i o b d=>h.2 c i o (fun e=>b (a c e)) d⟩
def Eh.stayL{γ γ':Nat->Nat}{c sz n:Nat}{e:AQ}{d:D}{cs:Ac D}{l:Ac Nat}{H H':Ae}(h:Eh γ c e sz d n cs H)(hs:Fg γ γ' l H H')(f:c∉l):Eh γ' c e sz d n cs H':=by
 obtain⟨a,h|⟨i,all,k,j,b,g⟩⟩:=h
 ·exact⟨a,.inl h⟩
 ·exact⟨a,.inr ⟨i,all,k,hs.2 c i _ f j,b,g⟩⟩
def Ff.stayL{γ γ':Nat->Nat}{c sz n:Nat}{e:AQ}{d:D}{cs:Ac D}{l:Ac Nat}{H H':Ae}(h:Ff γ c e sz d n cs H)(hs:Fg γ γ' l H H')(b:c∉l):Ff γ' c e sz d n cs H':=by
 obtain⟨a,h|⟨i,g,f⟩⟩:=h
 ·exact⟨a,.inl h⟩
 ·exact⟨a,.inr ⟨i,g,hs.2 c i _ b f⟩⟩
def Iu(γ:Nat->Nat)(k:Nat)(H:Ae):Ac D->Ac (Ac Int)->Prop
 |[],[]=>True
 |c::cs,l::t=>Ff γ k 3 1 c l.length (BP l) H/\Iu γ k H cs t
 |_,_=>False
theorem Iu.stay{γ γ':Nat->Nat}{k:Nat}{l:Ac Nat}{H H':Ae}(hs:Fg γ γ' l H H')(b:k∉l):∀{cs:Ac D} {t:Ac (Ac Int)},Iu γ k H cs t->Iu γ' k H' cs t
 |[],[],_=>trivial
 |c::cs,a::t,h=>⟨h.1.stayL hs b,Iu.stay hs b h.2⟩
 |[],_::_,h=>h.elim
 |_::_,[],h=>h.elim
theorem Iu.len{γ:Nat->Nat}{k:Nat}{H:Ae}:∀{cs:Ac D} {t:Ac (Ac Int)},Iu γ k H cs t->cs.length=t.length
 |[],[],_=>rfl
 |c::cs,a::t,h=>by simp[Iu.len h.2]
 |[],_::_,h=>h.elim
 |_::_,[],h=>h.elim
theorem Iu.get{γ:Nat->Nat}{k:Nat}{H:Ae}:∀{cs:Ac D} {t:Ac (Ac Int)} (j:Nat) (b:j<t.length),Iu γ k H cs t->∃c,cs[j]? =some c/\Ff γ k 3 1 c t[j].length (BP t[j]) H
 |c::cs,a::t,0,b,h=>⟨c,rfl,h.1⟩
 |c::cs,a::t,j+1,b,h=>Iu.get j (by simpa using b) h.2
 |[],_::_,_,_,h=>h.elim
 |_::_,[],_,b,_=>by simp at b
theorem Iu.snoc{γ:Nat->Nat}{k:Nat}{H:Ae}{c:D}{l:Ac Int}(b:Ff γ k 3 1 c l.length (BP l) H):∀{cs:Ac D} {t:Ac (Ac Int)},Iu γ k H cs t->Iu γ k H (cs++[c]) (t++[l])
 |[],[],_=>⟨b,trivial⟩
 |d::cs,a::t,h=>⟨h.1,Iu.snoc b h.2⟩
 |[],_::_,h=>h.elim
 |_::_,[],h=>h.elim
def Ff.intsN{γ:Nat->Nat}{c:Nat}{d:D}{l:Ac Int}{H:Ae}{e:AQ}(h:Ff γ c e 1 d l.length (BP l) H)(n:Nat):∃a,Dh H (n+1) d=some a/\Hg a=some l:=by
 obtain⟨g,⟨rfl,e⟩|⟨i,rfl,f⟩⟩:=h
 ·have:l=[]:=NK.1 e;subst this;exact⟨_,rfl,rfl⟩
 ·refine⟨AL l,?_,uA l⟩;simp only[Dh,f.2];have b:=TK l;rw[Aw (by omega),Ze,<-b,II,Jci,Dt,b,tD];rfl
def Ff.cell{γ:Nat->Nat}{c sz n:Nat}{e:AQ}{d:D}{cs:Ac D}{H:Ae}(h:Ff γ c e sz d n cs H):D7 d=some [d]/\Df d=true:=by
 obtain⟨a,⟨rfl,e⟩|⟨i,rfl,b⟩⟩:=h<;>exact⟨rfl,rfl⟩
theorem Iu.deref{γ:Nat->Nat}{k:Nat}{H:Ae}(n:Nat):∀{cs:Ac D} {t:Ac (Ac Int)},Iu γ k H cs t->∃b,cs.mapM (Dh H (n+1))=some b/\(b.map fun e=>[e]).mapM KB=some t
 |[],[],_=>⟨[],rfl,rfl⟩
 |c::cs,a::t,h=>by
  obtain⟨d,j,g⟩:=h.1.intsN n;obtain⟨b,i,f⟩:=Iu.deref n h.2;refine⟨d::b,?_,?_⟩
  ·simp_all
  ·simp only[EP,FZ,f,KB,g];rfl
 |[],_::_,h=>h.elim
 |_::_,[],h=>h.elim
theorem tP:∀(a:Ac D),G9 1 a.length a=a.map fun e=>[e]
 |[]=>rfl
 |e::r=>by
  rw[Ej,G9,EP];simp only[QX,pF,pJ,UB];rw[tP r]
structure PS(γ:Nat->Nat)(c k:Nat)(dt:D)(t:List (List Int))(H:Ae):Prop where
 row:∃cs,Ff γ c 22 1 dt t.length cs H/\Iu γ k H cs t
abbrev bW(γ:Nat->Nat)(a:D)(t:Ac (Ac Int))(H:Ae):Prop:=PS γ 1 2 a t H
def PS.stay{γ γ':Nat->Nat}{c k:Nat}{l:Ac Nat}{H H':Ae}{a:D}{t:Ac (Ac Int)}(h:PS γ c k a t H)(hs:Fg γ γ' l H H')(f:c∉l)(d:k∉l):PS γ' c k a t H':=by
 obtain⟨cs,b,e⟩:=h.row;exact⟨cs,b.stayL hs f,e.stay hs d⟩
def PS.deref{γ:Nat->Nat}{c k:Nat}{H:Ae}{g:D}{t:Ac (Ac Int)}(h:PS γ c k g t H)(n:Nat):∃d,Dh H (n+2) g=some d/\JD.dec d=some t:=by
 obtain⟨cs,⟨o,⟨rfl,e⟩|⟨i,rfl,l⟩⟩,b⟩:=h.row
 ·have:t=[]:=NK.1 e;subst this;exact⟨_,rfl,rfl⟩
 ·obtain⟨a,f,j⟩:=b.deref n;have m:=yK _ _ f;refine⟨.sl 1 (a.map fun e=>[e]),?_,j⟩;show(match H[i]? with|some (.cells _ sz cs)=>if t.length*sz<=cs.length then((cs.take (t.length*sz)).mapM (Dh H (n+1))).map fun a=>D.sl sz (G9 sz t.length a)else none|_=>none)=_;rw[l.2];simp only[];rw[Aw (by omega),Ze,show t.length=cs.length from b.len.symm,II,f,Dt,<-m,tP]
def PS.at{γ:Nat->Nat}{c k:Nat}{H:Ae}{b:D}{t:Ac (Ac Int)}(h:PS γ c k b t H)(j:Nat)(a:j<t.length):∃p x,BG 1 b (iD j)=some p/\Ai none H p=some x/\Ff γ k 3 1 x t[j].length (BP t[j]) H:=by
 obtain⟨cs,e,d⟩:=h.row;obtain⟨c,f,i⟩:=d.get j a;obtain⟨p,l,g⟩:=e.row.load1 a
 grind
def mQ:Ac D->Af D:=F1 Ef fun p=>if p.vars.length<=1000000/\p.body.length<=1000000 then some (Be p)else none
def JyK:Bz Aa 67 mQ:=FC (kp:=JjC) Rm AX func67 fun p d h=>by
 split at h
 case isFalse=>cases h
 rename_i T;cases h;have v:BA 25 (Be p) []=some (.hp 0 0,[.cells 25 3 (DW p)]):=rfl;have s:BX 25 [iD 0,Aq,Aq] [.cells 25 3 (DW p)]=some (.hp 1 0,[.cells 25 3 (DW p),.cells 25 3 [iD 0,Aq,Aq]]):=rfl;have Q:AP 0 (.hp 0 0)=some (.hp 0 0):=rfl;have I:AP 1 (.hp 0 0)=some (.hp 0 1):=rfl;have V:AP 2 (.hp 0 0)=some (.hp 0 2):=rfl;have K:Ai none [.cells 25 3 (DW p),.cells 25 3 [iD 0,Aq,Aq]] (.hp 0 0)=some (iD p.params):=rfl;have Z:Ai none [.cells 25 3 (DW p),.cells 25 3 [iD 0,Aq,Aq]] (.hp 0 1)=some (AL p.vars):=rfl;obtain⟨c,g,a1,k,z,a4,a5,a6⟩:=Jiq (t:= 3) (B:=2) (l:=[]) (new:=p.vars) (d:=Aq) (x:=AL p.vars) (H:=[.cells 25 3 (DW p),.cells 25 3 [iD 0,Aq,Aq]]) (Buf.nil _ _ _ _) (A6 _ _) (by simp;omega) (by simp);have E:g[0]? =some (.cells 25 3 (DW p)):=z.2 0 (by omega);have g1:g[1]? =some (.cells 25 3 [iD 0,Aq,Aq]):=z.2 1 (by omega);have l2:=D6 g 0 2 _ _ _ (A8 p.body) E rfl;obtain⟨b,i,G,C,W,b4,b5⟩:=nN (e:= 44) (sz:=2) (H:=g) (B:=g.length) (d:=Aq) (n:=0) (m:=p.body.length) (cs:=[]) (new:=Ei p.body) (Buf.nil _ _ _ _) (by decide) (Ur _) (Jhq _) (by rw[Ur];simp;omega) (BQ _);have y:D5 44 2 Aq (A8 p.body) g=some (b,i):=by unfold D5;rw[tS];exact G
 have u:c=Aq\/∃q r,c= .hs q r:=by
  rcases k with⟨rfl,_⟩|⟨r,_,rfl,_⟩
  ·exact .inl rfl
  ·simp
 have R:=k.ok;have Y:=C.ok;have N:CY [(0,1),(1,1),(2,1)] [iD 0,Aq,Aq] [(0,iD p.params),(1,c),(2,b)]=some (.agg [iD p.params,c,b]):=by
  have w:b=Aq\/∃q r,b= .hs q r:=by grind
  rcases u with j|⟨q,r,j⟩<;>rcases w with o|⟨q',r',o⟩<;>rw[j,o]<;>rfl
 have D:i[1]? =some (.cells 25 3 [iD 0,Aq,Aq]):=by grind
 have F:=KG (n:=3) (ds:=[iD p.params,c,b]) D rfl rfl (by simp_all);have S:Ai (some 3) (i.set 1 (.cells 25 3 [iD p.params,c,b])) (.hp 1 0)=some (.agg [iD p.params,c,b]):=by
  rw[Es,Hw (CV.1 D).1];rfl
 have L:Buf 3 1 (i.set 1 (.cells 25 3 [iD p.params,c,b])) 2 c p.vars.length (BP p.vars):=by
  have j:Buf 3 1 i 2 c p.vars.length (BP p.vars):=(by simpa using k:Buf 3 1 g 2 c p.vars.length (BP p.vars)).keep fun r m e=>by
   subst e;exact W.2 r k.lt.2
  exact j.set 1 _ (by omega)
 have O:Buf 44 2 (i.set 1 (.cells 25 3 [iD p.params,c,b])) 2 b p.body.length (Ei p.body):=by
  have T:2<=g.length:=by omega
  have j:Buf 44 2 i g.length b p.body.length (Ei p.body):=by simpa using C
  have o:Buf 44 2 i 2 b p.body.length (Ei p.body):=by
   rcases j with h|⟨r,q1,M,X,P⟩
   ·exact .inl h
   ·exact .inr ⟨r,by omega,M,X,P⟩
  exact o.set 1 _ (by omega)
 obtain⟨J,o1,U⟩:=Jok (a:=p.params) L O 7;refine⟨0,J,?_,Ef.ok _ _ U⟩;show BB (AB _ _ _ _ _ [Be p] [])=_;rw[Jvu];simp only[v,A7,s,Q,AU,K,I,Z,a1,V,l2,y,N,F,UP,S];exact o1
def Jjm(p:Pg)(b:p.vars.length<=1000000)(a:p.body.length<=1000000)(H:Ae):Ak mQ [Be p] H=some (Be p,H):=by
 rw[CP _ _ _ rfl,show mQ [Be p]=_ from EO (A:=Ef) _ p,Aw ⟨b,a⟩];rfl
def FN(p:Pg)(a:D)(f:Int)(al:Ac Dl)(n:Int)(o:Int×Int×Int)(base dm:D):Ac D:=[iD p.params,AL p.vars,A8 p.body,a,iD f,EH al,iD n,.v (.int .u32 o.1),.v (.int .i32 o.2.1),.v (.int .u32 o.2.2),base,dm]
def kY(P:Aj):GT:=CO P (oN P) JeT 0 71
def Qc6:BN Aa 71 (kY Aa):=CQ Rm AX func71
def Jfq(H:Ae)(R:Nat)(cs:Ac D)(n:Int)(h:H[R]? =some (.cells 138 12 cs))(a:cs[6]? =some (iD n)):kY Aa [.hp R 0] H=some (iD n,H):=by
 rw[kY,CJ func71,QdN];have b:Ag .ptr .eql (.hp R 0) Ic=some (bD false):=rfl;have c:Dj (.hp R 0)=some (.hp R 0):=rfl;have e:AP 6 (.hp R 0)=some (.hp R 6):=by simp
 have d:ZK [.hp R 6] H=some (iD n,H):=by unfold ZK;simp only[h,a];rfl
 simp_all
def Y6(P:Aj):GT:=CO P (oN P) JaZ 0 147
def Jxu:BN Aa 147 (Y6 Aa):=CQ Rm AX func147
def xW(p:Pg)(t:Ac (Ac Int))(f:Int):Prop:=p.body.length<=3000000/\t.length<=900/\ED p=0/\JJ p.params t f=0/\tV p t f=true
def Jnu{γ:Nat->Nat}(H:Ae)(R:Nat)(p:Pg)(c:D)(t:Ac (Ac Int))(f:Int)(al:Ac Dl)(n:Int)(o:Int×Int×Int)(b dm:D)(h:H[R]? =some (.cells 138 12 (FN p c f al n o b dm)))(ht:bW γ c t H)(y:xW p t f):
  Y6 Aa [.hp R 0] H=some (.tup [],H.set R (.cells 138 12 (FN p c f al n o (A8 (FH p t f)) dm))):=by
 rw[Y6,CJ func147,JzC];unfold Eo AV Ha;have u:Dj (.hp R 0)=some (.hp R 0):=rfl;have j:AP 0 (.hp R 0)=some (.hp R 0):=rfl;have l:AP 3 (.hp R 0)=some (.hp R 3):=by simp
 have v:AP 4 (.hp R 0)=some (.hp R 4):=by simp
 have d:AP 10 (.hp R 0)=some (.hp R 10):=by simp
 have r:Ai (some 3) H (.hp R 0)=some (Be p):=by rw[Es,h];rfl
 have k:=D6 H R 3 _ _ _ c h rfl;have x:=D6 H R 4 _ _ _ (iD f) h rfl;obtain⟨a,e,m⟩:=ht.deref 7;have g:sG [Be p,a,iD f]=some (.tup [A8 (FH p t f),iD 0]):=by
  show F3 Ef JD BV _ [Ef.enc p,a,BV.enc f]=_;simp only[F3,Ef.back,BV.back,m,BR];exact Aw y
 have i:DX sG [Be p,c,iD f] H=some (.tup [A8 (FH p t f),iD 0],H):=by
  cases hp:Fj [Be p,c,iD f]with
  |true=>
   have q:EC c=true:=by simp_all
   have:a=c:=by have:=Ji H 9 c q;rw[e]at this;cases this;rfl
   subst this;rw[V9 _ _ _ hp,g];rfl
  |false=>
   rw[KM _ _ [Be p,a,iD f] _ hp (by simp only[FZ,VI,e,Ji H 9 (Be p) rfl,Ji H 9 (iD f) rfl];rfl),g];rfl
 have s:DN (.tup [A8 (FH p t f),iD 0]) 0=some (A8 (FH p t f)):=rfl;have w:DN (.tup [A8 (FH p t f),iD 0]) 1=some (iD 0):=rfl;have s0:=IV H R 10 _ _ _ (A8 (FH p t f)) h (by simp[FN]) rfl rfl;simp only[u,AU,j,r,l,k,v,x,i,A7,s,w,d,s0];rfl
def NN(P:Aj):Ac Cj:=(67,true,Ak mQ)::(71,false,kY P)::(146,false,Ot 147 (Y6 P))::R4 P
def JhC:∀p∈NN Aa,Ci Aa p:=AC (Bf JyK)<|AC (CB Qc6)<|AC (CB (Pt Jxu))<|Jdg
def IB(P:Aj):Tab:=⟨NN P,BM,[]⟩
def C4:Bg Aa (IB Aa):=CU JhC
def Jit:Ac Nat:=[]
def Juf(n:Nat)(a:D)(h:Ae):AB Aa (IB Aa) Jit n f69 [a] h=
(Ad (Ag .ptr .eql a Ic) fun j=>
Az j
(some ((iD 0),h))
(Ad (Dj a) fun l=>
Ad (AP 0 l) fun i=>
Ad (AP 5 i) fun b=>
Ad (Ai none h b) fun e=>
Ad (Bq .sl e) fun g=>
Ah ((kY Aa) [a] h) fun d c=>
Ad (Ag .int .sub g d) fun k=>
Eb b (some h) (some c)
(some (k,c)))):=by kernel_rfl
def aS:Ac Nat:=[0,3,4,5,6,35,36,37]
def Jpb(n:Nat)(d F:D)(h:Ae):AB Aa (IB Aa) aS n f70 [d,F] h=
(Ah (BA 103 F h) fun v I=>
Ah (BX 107 [Aq,(iD 0),(iD 0),(iD 0),(iD 0),(iD 0),(iD 0),CS] I) fun N L=>
Ad (Dj d) fun H=>
Ad (AP 7 H) fun J=>
Ah ((Ot 147 (Y6 Aa)) [J,(.clo (.func 147) [d] [])] L) fun P E=>
Ad (Ai (some 3) E v) fun O=>
Ad (CY [(0,3),(3,1),(4,1),(5,2),(7,1)] [Aq,(iD 0),(iD 0),(iD 0),(iD 0),(iD 0),(iD 0),CS] [(0,O),(2,(iD (-1)))]) fun K=>
Dw 107 [Aq,(iD 0),(iD 0),(iD 0),(iD 0),(iD 0),(iD 0),CS] 8 K E fun l c=>
Ad (Dj d) fun y=>
Ad (AP 0 y) fun z=>
AV 0 (some 3) c z fun w=>
Ad (Ai (some 3) c v) fun r=>
Ah (Ak nS [w,r] c) fun j p=>
Eo j fun k M=>
Dw 25 [(iD 0),Aq,Aq] 3 k p fun u e=>
Ad (Dj d) fun B=>
Ad (AP 0 B) fun q=>
AV 3 none e q fun i=>
Ad (Bq .sl i) fun m=>
Dy (BZ Aa (IB Aa) aS n f70 0 [d,v,N,l,u,i,m,(iD 0)] e) (fun C a b=>
CW C 0
(Ad (Ai (some 8) b (gD a 3)) fun o=>
Ah (Bh 8 (gD a 2) o b) fun G g=>
Ad (Ai (some 8) g (gD a 2)) fun s=>
some (s,g))
(none)) (fun a b=>
Ad (Ai (some 8) b (gD a 2)) fun x=>
some (x,b))):=by kernel_rfl
def Jgh(n:Nat)(s0 g m e j i k c:D)(h:Ae):BK Aa (IB Aa) aS n f70 0 [s0,g,m,e,j,i,k,c] h=
(Ad (Ag .int .lss c k) fun y0=>
Az y0
(Ce 1 none h i c fun X=>
Ad (Ai (some 3) h j) fun Z=>
Ad (Dj s0) fun y4=>
Ad (AP 0 y4) fun V=>
AV 4 none h V fun U=>
Ah (DX Xu [Z,X,U] h) fun Y T=>
Eo Y fun v ab=>
Dw 237 [(iD 0),(iD 0),(iD 0),Aq] 4 v T fun d l=>
Dx 10 none l s0 fun K=>
Ce 2 (some 2) l K c fun M=>
AV 0 (some 2) l d fun F=>
Ah (Ak jF [M,F] l) fun b a=>
Ad (Ag .int .eql b (iD 0)) fun Q=>
Az Q
(Ad (Ag .int .add c (iD 1)) fun q=>
some (.normal,[s0,g,m,e,j,i,k,q],a))
(Ad (Ag .int .eql b (iD 2)) fun R=>
Az R
(AV 3 none a e fun r=>
Ad (Ag .int .eql r (iD 2)) fun P=>
Az P
(Ad (Ag .int .add c (iD 1)) fun w=>
some (.normal,[s0,g,m,e,j,i,k,w],a))
(Ad (Ai (some 3) a g) fun N=>
AV 0 (some 2) a d fun s=>
Ad (Ai (some 4) a d) fun y=>
Ah (Ak aI [y] a) fun u z=>
Ad (CY [(0,3),(3,1),(4,1),(5,2),(7,1)] [Aq,(iD 0),(iD 0),(iD 0),(iD 0),(iD 0),(iD 0),CS] [(0,N),(1,b),(2,c),(3,s),(4,u)]) fun L=>
Ah (Bh 8 e L z) fun aa p=>
Ad (Ag .int .eql b (iD 1)) fun I=>
Az I
(some ((.exit 0),[s0,g,m,e,j,i,k,c],p))
(Ad (Ag .int .add c (iD 1)) fun S=>
some (.normal,[s0,g,m,e,j,i,k,S],p))))
(Ad (Ai (some 3) a g) fun C=>
AV 0 (some 2) a d fun H=>
Ad (Ai (some 4) a d) fun O=>
Ah (Ak aI [O] a) fun G J=>
Ad (CY [(0,3),(3,1),(4,1),(5,2),(7,1)] [Aq,(iD 0),(iD 0),(iD 0),(iD 0),(iD 0),(iD 0),CS] [(0,C),(1,b),(2,c),(3,H),(4,G)]) fun B=>
Ah (Bh 8 e B J) fun W o=>
Ad (Ag .int .eql b (iD 1)) fun E=>
Az E
(some ((.exit 0),[s0,g,m,e,j,i,k,c],o))
(Ad (Ag .int .add c (iD 1)) fun x=>
some (.normal,[s0,g,m,e,j,i,k,x],o)))))
(some ((.exit 0),[s0,g,m,e,j,i,k,c],h))):=by kernel_rfl
def aH:Ac Nat:=[3,10,32,33,34]
def Jcw(n:Nat)(G d m:D)(h:Ae):AB Aa (IB Aa) aH n f18 [G,d,m] h=
(Ah (BA 25 G h) fun c F=>
Ad (Ai (some 3) F c) fun M=>
Ah (Ak Ko [M] F) fun E l=>
Ad (Ag .int .neq E (iD 0)) fun K=>
Az K
(some (.tup [Ic,E],l))
(AV 0 none l c fun J=>
Ah (Ak RH [J,d,m] l) fun H g=>
Ad (Ag .int .neq H (iD 0)) fun i=>
Az i
(some (.tup [Ic,H],g))
(Ad (Ai (some 3) g c) fun C=>
Ah (Ak mQ [C] g) fun j k=>
Ad (CY [(0,3),(3,1),(4,1),(5,1)] [(iD 0),Aq,Aq,Aq,(iD 0),Aq] [(0,j),(2,m)]) fun y=>
Ad (CY [(0,6),(6,1),(7,3),(10,1),(11,1)] [(iD 0),Aq,Aq,Aq,(iD 0),Aq,(iD 0),wZ,(.v (.int .i32 0)),wZ,Aq,Aq] [(0,y)]) fun z=>
Ah (BA 138 z k) fun p s=>
Ad (Bq .sl d) fun q=>
Dy (BZ Aa (IB Aa) aH n f18 0 [c,p,d,q,(iD 0)] s) (fun w a b=>
CW w 0
(Ad (Ai (some 3) b (gD a 0)) fun v=>
Ah (DX Vg [v] b) fun r x=>
Eo r fun u I=>
Ad (Dj (gD a 1)) fun B=>
Ad (AP 0 B) fun o=>
JM 5 1 o u x fun L e=>
some (.tup [(gD a 1),(iD 0)],e))
(none)) (fun a b=>
some (.tup [.undef,.undef],b))))):=by kernel_rfl
def JeK(n:Nat)(s0 a c d b:D)(h:Ae):BK Aa (IB Aa) aH n f18 0 [s0,a,c,d,b] h=
(Ad (Ag .int .lss b d) fun x=>
Az x
(Ce 1 none h c b fun y=>
Ad (Dj a) fun r=>
Ad (AP 0 r) fun s=>
Ad (AP 3 s) fun o=>
Ad (Ai none h o) fun p=>
Ah (D5 3 1 Aq y h) fun q u=>
Ah (DI 22 1 1 [Aq] [(0,q)] u) fun w k=>
Ah (D5 22 1 p w k) fun m g=>
Ad (Dj a) fun e=>
Ad (AP 0 e) fun l=>
JM 3 1 l m g fun v j=>
MK o Aq
(Ad (Ag .int .add b (iD 1)) fun i=>
some (.normal,[s0,a,c,d,i],j)))
(some ((.exit 0),[s0,a,c,d,b],h))):=by kernel_rfl
def Q7:Ac Nat:=[0,2,3,32,33,34,49,50,51]
def Jr6(n:Nat)(e:D)(h:Ae):AB Aa (IB Aa) Q7 n f20 [e] h=
(Ah (BX 33 [(iD 0),Aq,Aq,Aq,(iD 0),Aq,(iD 0),(iD 0),(iD 0)] h) fun G C=>
Ad (Ag .ptr .eql e Ic) fun Q=>
Az Q
(Ad (CY [(0,3),(3,1),(4,1),(5,1),(6,3)] [(iD 0),Aq,Aq,Aq,(iD 0),Aq,(iD 0),(iD 0),(iD 0)] []) fun S=>
Ah (Bh 9 G S C) fun T M=>
Ad (Ai (some 9) M G) fun N=>
some (N,M))
(Ad (Dj e) fun O=>
Ad (AP 0 O) fun R=>
AV 0 (some 3) C R fun m=>
Ah (Ak mQ [m] C) fun K g=>
Ad (Dj e) fun p=>
Ad (AP 0 p) fun v=>
AV 4 none g v fun q=>
Dx 11 none g e fun z=>
Ah (DX Sj [z] g) fun F J=>
Ad (CY [(0,3),(3,1),(4,1),(5,1),(6,3)] [(iD 0),Aq,Aq,Aq,(iD 0),Aq,(iD 0),(iD 0),(iD 0)] [(0,K),(2,q),(4,F)]) fun u=>
Dw 33 [(iD 0),Aq,Aq,Aq,(iD 0),Aq,(iD 0),(iD 0),(iD 0)] 9 u J fun s j=>
Ad (Dj e) fun I=>
Ad (AP 0 I) fun r=>
AV 3 none j r fun l=>
Ad (Bq .sl l) fun o=>
Dy (BZ Aa (IB Aa) Q7 n f20 0 [e,G,s,l,o,(iD 0),.undef,.undef,.undef] j) (fun y a d=>
CW y 0
(Dx 11 none d (gD a 0) fun k=>
Ad (Bq .sl k) fun E=>
Dy (BZ Aa (IB Aa) Q7 n f20 1 [(gD a 0),(gD a 1),(gD a 2),(gD a 3),(gD a 4),(gD a 5),k,E,(iD 0)] d) (fun x c b=>
CW x 2
(Ad (Ai (some 9) b (gD c 2)) fun L=>
Ah (Bh 9 (gD c 1) L b) fun P i=>
Ad (Ai (some 9) i (gD c 1)) fun B=>
some (B,i))
(none)) (fun c b=>
Ad (Ai (some 9) b (gD c 1)) fun H=>
some (H,b)))
(none)) (fun a d=>
Ad (Ai (some 9) d (gD a 1)) fun w=>
some (w,d)))):=by kernel_rfl
def Jeb(n:Nat)(s0 e b d c a g j m:D)(h:Ae):BK Aa (IB Aa) Q7 n f20 0 [s0,e,b,d,c,a,g,j,m] h=
(Ad (Ag .int .lss a c) fun x=>
Az x
(Ce 1 none h d a fun y=>
Ad (AP 3 b) fun o=>
Ad (Ai none h o) fun s=>
Ah (D5 3 1 Aq y h) fun v r=>
Ah (DI 22 1 1 [Aq] [(0,v)] r) fun q u=>
Ah (D5 22 1 s q u) fun w k=>
JM 3 1 b w k fun p i=>
MK o Aq
(Ad (Ag .int .add a (iD 1)) fun l=>
some (.normal,[s0,e,b,d,c,l,g,j,m],i)))
(some ((.exit 0),[s0,e,b,d,c,a,g,j,m],h))):=by kernel_rfl
def JgH(n:Nat)(s0 i b y x r d e c:D)(h:Ae):BK Aa (IB Aa) Q7 n f20 1 [s0,i,b,y,x,r,d,e,c] h=
(Ad (Ag .int .lss c e) fun F=>
Az F
(Ce 8 (some 8) h d c fun H=>
Dw 107 [Aq,(iD 0),(iD 0),(iD 0),(iD 0),(iD 0),(iD 0),CS] 8 H h fun p z=>
Ad (AP 0 p) fun B=>
AV 0 none z B fun C=>
Ah (D5 3 1 Aq C z) fun l s=>
Ad (AP 0 p) fun o=>
JM 0 1 o l s fun G a=>
AV 5 none a b fun w=>
Ad (Ai (some 8) a p) fun v=>
Ah (DI 107 8 1 [Aq,(iD 0),(iD 0),(iD 0),(iD 0),(iD 0),(iD 0),CS] [(0,v)] a) fun j q=>
Ah (D5 107 8 w j q) fun k m=>
JM 5 1 b k m fun E u=>
Ad (Ag .int .add c (iD 1)) fun g=>
some (.normal,[s0,i,b,y,x,r,d,e,g],u))
(some ((.exit 2),[s0,i,b,y,x,r,d,e,c],h))):=by kernel_rfl
end Go.Proofs.YtapdelkomkpgmaaGreatDoor
