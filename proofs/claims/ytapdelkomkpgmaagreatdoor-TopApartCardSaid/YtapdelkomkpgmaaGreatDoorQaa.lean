import Derived.ScopeJumps
import Derived.Test.YtapdelkomkpgmaaGreatDoorQz
namespace Go.Proofs.YtapdelkomkpgmaaGreatDoor
open Go.Proofs.Tryz
open Go.RowKit
set_option maxRecDepth 100000
set_option linter.all false
structure iQ(d:Dl)(n:Nat)(m:Mu):Prop where
 d:m.d=d
 right:VZ m
 test:m.test<n
 value:Ib m.value=true
def Jwr(d:Dl)(n:Nat):iQ d n (Tm d):=⟨rfl,.inl ⟨rfl,rfl,rfl,rfl,rfl⟩,by show(-1:Int)<n;omega,rfl⟩
def JxE(a b:Nd):LW a b=0\/(LW a b=1/\b.1≠4)\/(LW a b=2/\b.1=4):=by
 unfold LW;omega
def JwP{d:Dl}{b:Nd}{r:Rn}{i n:Nat}{best:Mu}(e:iQ d n best)(o:i<n)(l:n<=20)(k:0<=r.k)(m:r.k<=4)(f:r.k≠0->r.v=0)(a:Ib r.v=true):iQ d n (TV d b r i best).1:=by
 have dl:=Jm8 r;unfold TV;split
 ·exact e
 ·rename_i g;split
  ·exact e
  ·rcases JxE b (r.k,r.v)with h|⟨h,c⟩|⟨h,c⟩
   ·exact absurd h g
   ·refine⟨rfl,.inr (.inl ⟨h,⟨by simp,by grind⟩,dl,⟨k,by grind⟩,?_⟩),by grind,a⟩
    grind
   ·have j:r.k=4:=c;exact⟨rfl,.inr (.inr ⟨h,⟨by simp,by grind⟩,dl,j,f (by omega)⟩),by grind,a⟩
theorem JcZ{d:Dl}{n:Nat}(f:n<=20):∀(l:Ac (Nd×Rn)) (i:Nat) (best:Mu),i+l.length<=n->(∀x∈l,0<=x.2.k/\x.2.k<=4/\(x.2.k≠0->x.2.v=0)/\Ib x.2.v=true)->iQ d n best->iQ d n (Yp d l i best)
 |[],i,best,_,_,c=>c
 |(b,r)::l,i,best,o,e,c=>by
  obtain⟨m,k,j,h⟩:=e (b,r) (KE ..);simp only[Ej]at o;have g:=JwP (b:=b) c (show i<n by omega) f m k j h;simp only[Yp];split
  ·exact g
  ·exact JcZ f l (i+1) _ (by omega) (fun x a=>e x (QY _ a)) g
def fI{p:Pg}{t:Ac (Ac Int)}{f:Int}{d:Dl}(c:RunIn p t)(j:GR p t f=0)(m:d∈Du p):iQ d t.length (NI p t f d):=by
 obtain⟨v,o⟩:=WF j;obtain⟨⟨_,h⟩,w2,w3,w4⟩:=Zu o;obtain⟨g,s⟩:=Jb6 m c.nums;refine JcZ h _ 0 _ ?_ (fun x i=> ?_) (Jwr d _)
 ·have:(Xq (F7 p d).1 t f).length=t.length:=by simp[Xq]
  grind
 ·have b:=(List.of_mem_zip (show(x.1,x.2)∈_ from i)).2;obtain⟨a,n,e⟩:=GN.1 b;rw[<-e];have l:=Jj3 (f:=f) g (c.args a n);simp only[Ri,DJ]at l;have k:0<=(RJ (F7 p d).1 a f).k/\(RJ (F7 p d).1 a f).k<=4/\((RJ (F7 p d).1 a f).k≠0->(RJ (F7 p d).1 a f).v=0):=by
   unfold RJ;split
   ·rename_i b;obtain⟨r,w,y,q,u,_⟩:=ID b
    grind
   ·exact⟨by decide,by decide,fun _=>rfl⟩
  grind
theorem JaE{p:Pg}{t:Ac (Ac Int)}{f:Int}:∀(l:Ac Dl),(l.Pairwise fun a b=>GH a b<0)->SG (l.map (NI p t f))=true
 |[],_=>rfl
 |[a],_=>rfl
 |a::b::r,h=>by
  rw[oQ]at h;have d:=h.1 b (KE ..);have c:=JaE (p:=p) (t:=t) (f:=f) (b::r) h.2;simp only[EP]at c⊢;rw[SG,c,Y4,Y4,CZ d];rfl
def vC{p:Pg}{t:Ac (Ac Int)}{f:Int}{m:Mu}(h:m∈(Dq p t f).ms):∃d∈Du p,NI p t f d=m:=GN.1 h
def N5{p:Pg}{t:Ac (Ac Int)}{f:Int}(c:RunIn p t)(e:GR p t f=0):Wq (Dq p t f):=by
 obtain⟨i,h⟩:=WF e;have g:=nG (p:=p) c.body;refine⟨i,h,?_,?_,JaE _ (cY p),fun m b=> ?_,fun m b=> ?_,fun m b=> ?_,rfl⟩
 ·show((Du p).map _).length<=2000
  grind
 ·rw[aF,Ew];intro m b;obtain⟨d,a,rfl⟩:=vC b;rw[Y4];exact CZ (by have:=(Lw a c.body).2;omega)
 ·obtain⟨d,a,rfl⟩:=vC b;rw[Y4];exact(Jaw _ _ (cY p)).2 a
 ·obtain⟨d,a,rfl⟩:=vC b;exact(fI c e a).right
 ·obtain⟨d,a,rfl⟩:=vC b;exact(fI c e a).test
def JuV{p:Pg}{t:Ac (Ac Int)}{f:Int}(g:RunIn p t)(h:GR p t f=0){m:Mu}(i:m∈(Dq p t f).ms):Q5 m:=by
 obtain⟨d,a,rfl⟩:=vC i;have c:=fI g h a;obtain⟨b,j⟩:=Lw a g.body;have hp:KH (NI p t f d).d=(aN d,0):=by rw[Y4,KH,Aw b]
 have e:=JfW a;refine⟨c.right,by rw[hp],by rw[Y4];omega,?_,c.value,?_⟩
 ·rw[Y4];unfold Dv at e;simpa[Ib]using e
 ·rw[hp];have:=Jug b;show(aN d).length<=2000;omega
theorem JhD:∀(l:Ac Mu),(∀m∈l,Q5 m)->(Kz l).length<=2100*l.length
 |[],_=>by simp[Kz]
 |m::r,h=>by
  have c:=Jve m (h m (KE ..));have b:=JhD r fun x a=>h x (QY _ a);simp only[Kz,EP,IX,DC,Ej]at b⊢;omega
def Jqk{p:Pg}(h:ED p=0):p.params<=12:=by
 have b:=(Y5 h).2.1;by_cases a:0<=p.params/\p.params<=p.vars.length/\p.vars.length<=12
 ·omega
 ·rw[qR a]at b;omega
theorem JeM:∀(l:Ac (Ac Int)),(∀x∈l,x.length<=12)->(KC l).length<=120*l.length
 |[],_=>by simp[KC]
 |a::r,h=>by
  have e:=Sq a;have c:=JeM r fun x b=>h x (QY _ b);have d:=h a (KE ..);simp only[KC,EP,IX,DC,Ej]at c⊢;omega
def Jzz(l:Ac EW)(h:QJ l)(g:l.length<=4)(f:(l.map fun x=>x.b.length).sum<=1000000):(KD l).length<=1048576:=by
 have c:∀m:Ac EW,(Jn m).length<=15*m.length+(m.map fun x=>x.b.length).sum:=by
  intro m
  induction m with
  |nil=>simp[Jn]
  |cons a r b=>
   have:=XL a;have:=(WX a).2;simp only[Jn,EP,IX,DC,Ej,List.sum_cons]at b⊢;omega
 have d:=c l;have e:=Pp l h;have i:(Lr l).length<=600:=by
  simp only[Lr,DC,Sg,wS];show _+_+_+4<=_;omega
 simp only[KD,DC];show 7+_+_<=_;omega
def rG{p:Pg}{t:Ac (Ac Int)}{f:Int}(d:RunIn p t)(j:GR p t f=0):TG (Dq p t f):=by
 obtain⟨k,s⟩:=WF j;obtain⟨⟨H,L⟩,w2,w3,w4⟩:=Zu s;have D:=N5 d j;have h:=nG (p:=p) d.body;have z:(Dq p t f).ms.length<=150:=by show((Du p).map _).length<=150;rw[Ju];exact h
 have i:∀m∈(Dq p t f).ms,Q5 m:=fun m I=>JuV d j I;have u:=JhD _ i;have o:=Jqk k;have g:PB p:=fun x b=>d.nums x b;have e:wK (Dq p t f).sc:=by
  have key:∀v,0<=Og (Dq p t f).ms v/\Og (Dq p t f).ms v<=2000:=fun v=>by
   have:=Jep (Dq p t f).ms v;omega
  have G:(0:Int)<=((Og (Dq p t f).ms 0:Nat):Int)/\((Og (Dq p t f).ms 0:Nat):Int)<=2000:=by have:=key 0;omega
  have E:(0:Int)<=((Og (Dq p t f).ms 1:Nat):Int)/\((Og (Dq p t f).ms 1:Nat):Int)<=2000:=by have:=key 1;omega
  have w:(0:Int)<=((Og (Dq p t f).ms 2:Nat):Int)/\((Og (Dq p t f).ms 2:Nat):Int)<=2000:=by have:=key 2;omega
  exact⟨G,E,w⟩
 have c:((t.headD []).length:Int)=p.params:=by
  cases t with
  |nil=>simp at H
  |cons a r=>grind
 have N:(G8 p).length<=3000:=Jtv (D4 k g);have J:(Il t f).length<=3000:=by
  have r:=JeM t fun x b=>by have:=w2 x b;omega
  have q:=(Et f).2;have F:=(Et (t.length:Nat)).2;have C:=(Et ((t.headD []).length:Nat)).2;simp only[Il,DC];omega
 have M:(LM (Dq p t f).ms).length<=320000:=by
  have q:=(Et ((Dq p t f).ms.length:Nat)).2;simp only[LM,DC];omega
 have K:(Lm (Dq p t f).sc).length<=30:=by
  have q:=(Et (Dq p t f).sc.a).2;have F:=(Et (Dq p t f).sc.b).2;have C:=(Et (Dq p t f).sc.c).2;simp only[Lm,DC];omega
 refine⟨D,by have:=d.body;show p.body.length<=_;omega,by show t.length<=_;omega,?_,?_,?_,?_,by omega,e,?_⟩
 ·rw[eY,Ew];exact fun x b=>CZ (g x b)
 ·rw[Ew];intro l A;rw[Ew];intro x b;have:=d.args l A x b;unfold Dv at this;simpa[Ib]using this
 ·show Xt t f=_;have ht:t≠[]:=by grind
  rw[Xt,Am ht,Am (by omega),c,Am (by rw[s];simp)];rfl
 ·grind
 ·have B:∀x∈Gi (Ku (Dq p t f)),Oc x:=fun y n=>by
   simp only[Gi,Ku,FY,QZ,or_false]at n;rcases n with rfl|rfl|rfl|rfl
   ·exact⟨by simp,by simp,by show(G8 p).length<=_;omega⟩
   ·exact⟨by simp,by simp,by show(Il t f).length<=_;omega⟩
   ·exact⟨by simp,by simp,by grind⟩
   ·exact⟨by simp,by simp,by grind⟩
  refine⟨by show(G8 p).length<=_;omega,by show(Il t f).length<=_;omega,by show(LM (Dq p t f).ms).length<=_;omega,by show(Lm (Dq p t f).sc).length<=_;omega,Jzz _ ⟨by simp[Gi],B⟩ (by simp[Gi]) ?_⟩;simp only[Gi,Ku,EP,J7,List.sum_cons,List.sum_nil];show(G8 p).length+((Il t f).length+((LM (Dq p t f).ms).length+((Lm (Dq p t f).sc).length+0)))<=_;omega
def xE{a b:Int}{s t:By}(d:0<=a/\a<=18446744073709551615)(c:0<=b/\b<=18446744073709551615)(h:BU a++s=BU b++t):a=b/\s=t:=by
 have f:=Ca [] s a d.1 d.2;have e:=Ca [] t b c.1 c.2;simp_all
def kN{n:Nat}(h:n<=2000000000):0<=(n:Int)/\(n:Int)<=18446744073709551615:=by omega
theorem Ji6:∀(a b:Ac Int) (s t:By),a.length=b.length->(∀x∈a,Dv x)->(∀x∈b,Dv x)->La a++s=La b++t->a=b/\s=t
 |[],[],s,t,_,_,_,h=>⟨rfl,h⟩
 |x::a,y::b,s,t,o,f,g,h=>by
  have d:=f x (KE ..);have e:=g y (KE ..);have n:BU (Ez x)++(La a++s)=BU (Ez y)++(La b++t):=by
   simpa[La,FV]using h
  obtain⟨m,i⟩:=xE (Hp x d.1 d.2) (Hp y e.1 e.2) n;have k:x=y:=by rw[<-lA x,m,lA y]
  obtain⟨l,j⟩:=Ji6 a b s t (by simpa using o) (fun z c=>f z (QY _ c)) (fun z c=>g z (QY _ c)) i;exact⟨by rw[k,l],j⟩
theorem JfV(n:Nat):∀(a b:Ac (Ac Int)),a.length=b.length->(∀x∈a,x.length=n/\∀y∈x,Dv y)->(∀x∈b,x.length=n/\∀y∈x,Dv y)->KC a=KC b->a=b
 |[],[],_,_,_,_=>rfl
 |x::a,y::b,l,f,g,h=>by
  have d:=f x (KE ..);have e:=g y (KE ..);have k:La x++KC a=La y++KC b:=by simpa[KC]using h
  obtain⟨j,i⟩:=Ji6 x y _ _ (by rw[d.1,e.1]) d.2 e.2 k;rw[j,JfV n a b (by simpa using l) (fun z c=>f z (QY _ c)) (fun z c=>g z (QY _ c)) i]
def JjH{t:Ac (Ac Int)}{n:Int}(b:1<=t.length)(h:∀l∈t,(l.length:Int)=n):((t.headD []).length:Int)=n:=by
 cases t with
 |nil=>simp at b
 |cons a r=>grind
def Jvr{p q:Pg}{s t:Ac (Ac Int)}{f g:Int}(d:RunIn p s)(c:RunIn q t)(hs:JJ p.params s f=0)(ht:JJ q.params t g=0)(h:Il s f=Il t g):s=t/\f=g:=by
 obtain⟨⟨k,z⟩,e,A,C⟩:=Zu hs;obtain⟨⟨m,o⟩,b,v,n⟩:=Zu ht;have y:=JjH k e;have B:=JjH m b;have l:(s.headD []).length<=1000000:=by
  cases s with
  |nil=>simp
  |cons x r=>exact d.lens x (KE ..)
 have j:(t.headD []).length<=1000000:=by
  cases t with
  |nil=>simp
  |cons x r=>exact c.lens x (KE ..)
 simp only[Il,FV]at h;obtain⟨i,h⟩:=xE ⟨by omega,by omega⟩ ⟨by omega,by omega⟩ h;obtain⟨u,h⟩:=xE (kN (by omega)) (kN (by omega)) h;obtain⟨w,h⟩:=xE (kN (by omega)) (kN (by omega)) h;refine⟨JfV (s.headD []).length s t (by omega) (fun x a=>⟨by have:=e x a;omega,d.args x a⟩) (fun x a=>⟨by have:=b x a;omega,c.args x a⟩) h,i⟩
def B5{x y:EW}{s t:By}(a:Oc x)(b:Oc y)(h:GU x++s=GU y++t):x.b=y.b/\s=t:=by
 have f:=a.2.2;have c:=b.2.2;simp only[GU,Md,FV,Jd,JO,Q3]at h;obtain⟨_,h⟩:=h;obtain⟨e,h⟩:=xE (kN (by omega)) (kN (by omega)) h;obtain⟨d,h⟩:=List.append_inj h (by omega);simp_all
def Jss{x y:S4}(g:Yj x)(i:Yj y)(h:KD (Gi x)=KD (Gi y)):x=y:=by
 have f:=(Te g).one;have e:=(Te i).one;simp only[KD,Jn,Gi,EP,J7,IX,PT,FV,Lj]at h;have h:=List.append_cancel_left h;obtain⟨m,h⟩:=B5 (f _ (by simp[Gi])) (e _ (by simp[Gi])) h;obtain⟨j,h⟩:=B5 (f _ (by simp[Gi])) (e _ (by simp[Gi])) h;obtain⟨k,h⟩:=B5 (f _ (by simp[Gi])) (e _ (by simp[Gi])) h;obtain⟨l,h⟩:=B5 (f _ (by simp[Gi])) (e _ (by simp[Gi])) h;obtain⟨a,b,c,d⟩:=x;simp_all
def Jrs{p q:Pg}{s t:Ac (Ac Int)}(c:RunIn p s)(d:RunIn q t)(hp:ED p=0)(b:ED q=0)(h:G8 p=G8 q):p=q:=
 (Jxz p q (D4 hp fun x a=>c.nums x a) (D4 b fun x a=>d.nums x a) [] (by grind)).2
def RS(p:Pg)(t:Ac (Ac Int))(f:Int):By:=KD (Gi (Ku (Dq p t f)))
def Ju5{p q:Pg}{s t:Ac (Ac Int)}{f g:Int}(b:RunIn p s)(a:RunIn q t)(hp:GR p s f=0)(c:GR q t g=0):
  (RS p s f=RS q t g↔G8 p=G8 q/\Il s f=Il t g)/\(RS p s f=RS q t g↔Dq p s f=Dq q t g):=by
 obtain⟨o,k⟩:=WF hp;obtain⟨i,n⟩:=WF c;have back:G8 p=G8 q/\Il s f=Il t g->Dq p s f=Dq q t g:=fun⟨m,l⟩=>by
  have e:=Jrs b a o i m;obtain⟨d,j⟩:=Jvr b a k n l;subst e d j;rfl
 have up:RS p s f=RS q t g->G8 p=G8 q/\Il s f=Il t g:=fun h=>by
  have:=Jss (rG b hp).whole (rG a c).whole h;exact⟨congrArg S4.a this,congrArg S4.b this⟩
 have r:Dq p s f=Dq q t g->RS p s f=RS q t g:=fun h=>by unfold RS;rw[h]
 grind
def pL(P:Aj):Ac Cj:=(110,true,Ak XP)::(176,true,Ak P8)::(38,true,Ak Ut)::(143,true,Ak dX)::[]
def JiD:∀p∈pL Aa,Ci Aa p:=AC (Bf Jco)<|AC (Bf JhF)<|AC (Bf gN)<|AC (Bf mI)<|EN
def PE(P:Aj):Tab:=⟨pL P,BM,[]⟩
def ST:Bg Aa (PE Aa):=CU JiD
def ZJ:Ac Nat:=[0,1,4,5]
def JuY(n:Nat)(c a:D)(h:Ae):AB Aa (PE Aa) ZJ n f39 [c,a] h=
(Ad (Bq .sl c) fun g=>
Ad (Bq .sl a) fun i=>
Ad (Ag .int .neq g i) fun e=>
Az e
(some ((bD false),h))
(Dy (BZ Aa (PE Aa) ZJ n f39 0 [c,a,(bD false),(iD 0)] h) (fun j d b=>
CW j 0
(some ((bD true),b))
(none)) (fun d b=>
some ((gD d 2),b)))):=by kernel_rfl
def Jhb(n:Nat)(s0 b c a:D)(h:Ae):BK Aa (PE Aa) ZJ n f39 0 [s0,b,c,a] h=
(Ad (Bq .sl s0) fun g=>
Ad (Ag .int .lss a g) fun i=>
Az i
(Ad (BG 1 s0 a) fun l=>
Ad (Ai none h l) fun j=>
Ad (BG 1 b a) fun k=>
Ad (Ai none h k) fun m=>
Ah (Ak XP [j,m] h) fun e d=>
Ad (Gn e) fun o=>
Az o
(some (.ret,[s0,b,(bD false),a],d))
(Ad (Ag .int .add a (iD 1)) fun p=>
some (.normal,[s0,b,c,p],d)))
(some ((.exit 0),[s0,b,c,a],h))):=by kernel_rfl
def dI:Ac Nat:=[0,2,3]
def QcJ(n:Nat)(b:D)(h:Ae):AB Aa (PE Aa) dI n f144 [b] h=
(Ad (Bq .sl b) fun e=>
Ad (Ag .int .gtr e (iD 40)) fun g=>
Az g
(some ((bD false),h))
(Dy (BZ Aa (PE Aa) dI n f144 0 [b,(bD false),(iD 0)] h) (fun d c a=>
CW d 0
(some ((bD true),a))
(none)) (fun c a=>
some ((gD c 1),a)))):=by kernel_rfl
def JbF(n:Nat)(s0 b a:D)(h:Ae):BK Aa (PE Aa) dI n f144 0 [s0,b,a] h=
(Ad (Bq .sl s0) fun j=>
Ad (Ag .int .lss a j) fun k=>
Az k
(Ad (BG 1 s0 a) fun i=>
Ad (Ai none h i) fun c=>
Ad (Bq .sl c) fun e=>
Ad (Ag .int .gtr e (iD 40)) fun g=>
Az g
(some (.ret,[s0,(bD false),a],h))
(Ad (Ag .int .add a (iD 1)) fun d=>
some (.normal,[s0,b,d],h)))
(some ((.exit 0),[s0,b,a],h))):=by kernel_rfl
def JgX:Ac Nat:=[]
def QeE(n:Nat)(v w:D)(h:Ae):AB Aa (PE Aa) JgX n f112 [v,w] h=
(Ah (BA 107 v h) fun b y=>
Ah (BA 107 w y) fun c k=>
AV 0 (some 3) k b fun z=>
AV 0 (some 3) k c fun x=>
Ah (Ak P8 [z,x] k) fun B a=>
Ad (Ag .int .eql B (iD 0)) fun g=>
Az g
(AV 3 none a b fun i=>
AV 3 none a c fun r=>
Ad (Ag .int .eql i r) fun s=>
Az s
(AV 4 none a b fun m=>
AV 4 none a c fun e=>
Ad (Ag .int .eql m e) fun l=>
Az l
(AV 5 (some 2) a b fun q=>
AV 5 (some 2) a c fun j=>
Ad (Ag (.ints 2) .eql q j) fun p=>
Az p
(AV 7 none a b fun u=>
AV 7 none a c fun d=>
Ad (Ag .str .eql u d) fun o=>
some (o,a))
(some ((bD false),a)))
(some ((bD false),a)))
(some ((bD false),a)))
(some ((bD false),a))):=by kernel_rfl
def UL(t:Ac (Ac Int)):Bool:=decide (t.length<=1000)&&t.all fun l=>decide (l.length<=1000000)
def pW:Ac D->Af D:=F2 JD JD fun a b=>if UL a=true/\UL b=true then some (bD (decide (a=b)))else none
def El(a b:Int):Ag .int .neq (iD a) (iD b)=some (bD (decide (a≠b))):=by rw[WM]
def JlA(a b:Ac (Ac Int))(l:UL a=true)(n:UL b=true)(H:Ae):AB Aa (PE Aa) ZJ 1001 f39 [BH a,BH b] H=some (bD (decide (a=b)),H):=by
 rw[JuY];simp only[UL,DJ,F5,Ew]at l n;by_cases o:a.length=b.length
 case neg=>
  have:¬a=b:=fun e=>o (by rw[e]);simp only[MG,AU,El,CZ (show(a.length:Int)≠b.length by omega),Bd,Bv,Dc this]
 have step:∀j (k:j<a.length) (i:j<b.length),BK Aa (PE Aa) ZJ 1001 f39 0 [BH a,BH b,bD false,iD j] H=
   if a[j]=b[j]then some (.normal,[BH a,BH b,bD false,iD (j+1)],H)else some (.ret,[BH a,BH b,bD false,iD j],H):=by
  intro j k i;rw[Jhb];have m:BG 1 (BH a) (iD j)=some (.ptr (Iz a[j])):=KO Iz 1 a j k;have p:BG 1 (BH b) (iD j)=some (.ptr (Iz b[j])):=KO Iz 1 b j i;have ld:∀x,Ai none H (.ptr (Iz x))=some (AL x):=fun x=>rfl;have r:=JbO a[j] b[j] H (by grind) (by grind);simp only[MG,G6 (show(j:Int)<a.length by omega),AU,Bd,Bv,m,p,ld,r,A7,nI,G5 j (by omega)];simp
 have hs:=VO (P:=Aa) (T:=PE Aa) (kp:=ZJ) (fn:= f39) (li:=0) (fun j=>[BH a,BH b,bD false,iD j]) H a.length (fun j=>decide (a[j]? =b[j]?))
  (fun j=>(.ret,[BH a,BH b,bD false,iD j],H)) (.exit 0,[BH a,BH b,bD false,iD a.length],H) (fun j e=>by cases e) (fun e=>by cases e) 0 1001 (F9 _) (by omega)
  (fun j _ h hp=>by grind)
  (fun j _ h hp=>by grind)
  (by
   rw[Jhb];simp only[MG,Me (show¬(a.length:Int)<a.length by omega),AU,Bd,BF,BC])
 simp only[MG,AU,El,Dc (show¬(a.length:Int)≠b.length by omega),Bd,BF,BC];have d:iD ((0:Nat):Int)=iD 0:=rfl;rcases hs with⟨g,c⟩|⟨j,_,h,hp,_,c⟩
 ·rw[d]at c;rw[c];have:a=b:=PU fun j=>by grind
  simp[this]
 ·rw[d]at c;rw[c];have:¬a=b:=fun e=>by grind
  simp[this]
def JmI:Bz Aa 39 pW:=GK (kp:=ZJ) ST AX func39 fun a b d h=>by
 split at h
 case isFalse=>cases h
 rename_i c;cases h;refine⟨1001,bD (decide (a=b)),?_,AY.refl _⟩;show BB (AB _ _ _ _ _ [BH a,BH b] [])=_;rw[JlA a b c.1 c.2];exact Gu _ _ rfl
def Jqh(a b:Ac (Ac Int))(d:UL a=true)(c:UL b=true)(H:Ae):Ak pW [BH a,BH b] H=some (bD (decide (a=b)),H):=by
 rw[CP _ _ _ rfl];have:pW [BH a,BH b]=_:=JU (A:=JD) (B:=JD) _ a b
 grind
def Rq(t:Ac (Ac Int)):Bool:=decide (t.length<=40)&&t.all fun l=>decide (l.length<=40)
def tC:Ac D->Af D:=F1 JD fun t=>some (bD (Rq t))
def Qfd(a:Ac (Ac Int))(H:Ae):AB Aa (PE Aa) dI 1001 f144 [BH a] H=some (bD (Rq a),H):=by
 rw[QcJ];by_cases k:a.length<=40
 case neg=>
  simp only[MG,AU,aQ,CZ (show(40:Int)<a.length by omega),Bd,Bv,Rq,Dc k,Bool.false_and]
 have step:∀j (i:j<a.length),BK Aa (PE Aa) dI 1001 f144 0 [BH a,bD false,iD j] H=
   if a[j].length<=40 then some (.normal,[BH a,bD false,iD (j+1)],H)else some (.ret,[BH a,bD false,iD j],H):=by
  intro j i;rw[JbF];have m:BG 1 (BH a) (iD j)=some (.ptr (Iz a[j])):=KO Iz 1 a j i;have ld:∀x,Ai none H (.ptr (Iz x))=some (AL x):=fun x=>rfl;simp only[MG,lW,G6 (show(j:Int)<a.length by omega),AU,Bd,Bv,m,ld,aQ,G5 j (by omega)];by_cases e:a[j].length<=40
  ·grind
  ·grind
 have hs:=VO (P:=Aa) (T:=PE Aa) (kp:=dI) (fn:= f144) (li:=0) (fun j=>[BH a,bD false,iD j]) H a.length (fun j=>decide ((a.getD j []).length<=40))
  (fun j=>(.ret,[BH a,bD false,iD j],H)) (.exit 0,[BH a,bD false,iD a.length],H) (fun j e=>by cases e) (fun e=>by cases e) 0 1001 (F9 _) (by omega)
  (fun j _ b hp=>by grind)
  (fun j _ b hp=>by grind)
  (by
   rw[JbF];simp only[MG,Me (show¬(a.length:Int)<a.length by omega),AU,Bd,BF,BC])
 simp only[MG,AU,aQ,Dc (show¬(40:Int)<a.length by omega),Bd,BF,BC];have h:iD ((0:Nat):Int)=iD 0:=rfl;rcases hs with⟨d,c⟩|⟨j,_,b,hp,_,c⟩
 ·rw[h]at c;rw[c];have:Rq a=true:=by
   rw[Rq,CZ k,Bool.true_and,Ew];intro l g;obtain⟨j,b,rfl⟩:=oU.1 g;have:=d j (F9 _) b;rw[Ed,FQ b]at this;exact this
  simp[this]
 ·rw[h]at c;rw[c];have:Rq a=false:=by
   have e:=of_decide_eq_false hp;rw[Ed,FQ b]at e;rw[Rq,Bool.and_eq_false_iff];right;rw[List.all_eq_false];exact⟨a[j],Ih b,by simpa using e⟩
  simp[this]
def Jmq:Bz Aa 144 tC:=FC (kp:=dI) ST AX func144 fun a d h=>by
 cases h
 refine⟨1001,bD (Rq a),?_,AY.refl _⟩;show BB (AB _ _ _ _ _ [BH a] [])=_;rw[Qfd a];exact Gu _ _ rfl
def Qb0(a:Ac (Ac Int))(H:Ae):Ak tC [BH a] H=some (bD (Rq a),H):=by
 rw[CP _ _ _ rfl];have:tC [BH a]=_:=EO (A:=JD) _ a;rw[this];rfl
def zD:Ac D->Af D:=F2 mX mX fun a b=>if a.d.path.length<=3000000/\b.d.path.length<=3000000 then some (bD (decide (a=b)))else none
def JvG(a b:Mu):a=b↔a.d=b.d/\a.v=b.v/\a.test=b.test/\(a.kind=b.kind/\a.value=b.value)/\a.dig=b.dig:=by
 obtain⟨_,_,_,_,_,_⟩:=a;obtain⟨_,_,_,_,_,_⟩:=b;simp[and_assoc]
def Ju9(a b c d:Int):Ag (.ints 2) .eql (.agg [iD a,iD b]) (.agg [iD c,iD d])=some (bD (decide (a=c/\b=d))):=by
 simp[Ag,Ug,Sl]
def Jsg:Bz Aa 112 zD:=GK (kp:=JgX) ST AX func112 fun a b d h=>by
 split at h
 case isFalse=>cases h
 rename_i l;cases h;refine⟨0,bD (decide (a=b)),?_,AY.refl _⟩;show BB (AB _ _ _ _ _ [FX a,FX b] [])=_;rw[QeE];unfold AV;have C:BA 107 (FX a) []=some (.hp 0 0,[.cells 107 8 (BL a)]):=rfl;have n:BA 107 (FX b) [.cells 107 8 (BL a)]=some (.hp 1 0,[.cells 107 8 (BL a),.cells 107 8 (BL b)]):=rfl;generalize c:([.cells 107 8 (BL a),.cells 107 8 (BL b)]:Ae)=H;have o:∀i k,AP k (.hp i 0)=some (.hp i (0+k)):=fun i k=>rfl;have v:Ai (some 3) H (.hp 0 (0+0))=some (Em a.d):=by rw[<-c];rfl
 have B:Ai none H (.hp 0 (0+3))=some (iD a.v):=by rw[<-c];rfl
 have E:Ai none H (.hp 0 (0+4))=some (iD a.test):=by rw[<-c];rfl
 have z:Ai (some 2) H (.hp 0 (0+5))=some (.agg [iD a.kind,iD a.value]):=by rw[<-c];rfl
 have x:Ai none H (.hp 0 (0+7))=some (sD a.dig):=by rw[<-c];rfl
 have q:Ai (some 3) H (.hp 1 (0+0))=some (Em b.d):=by rw[<-c];rfl
 have r:Ai none H (.hp 1 (0+3))=some (iD b.v):=by rw[<-c];rfl
 have F:Ai none H (.hp 1 (0+4))=some (iD b.test):=by rw[<-c];rfl
 have m:Ai (some 2) H (.hp 1 (0+5))=some (.agg [iD b.kind,iD b.value]):=by rw[<-c];rfl
 have w:Ai none H (.hp 1 (0+7))=some (sD b.dig):=by rw[<-c];rfl
 rw[C];simp only[A7];rw[n,c];simp only[A7,AU,o,v,B,E,z,x,q,r,F,m,w,AI _ _ _ l.1 l.2,TS,Ju9,Sd,Bd];simp only[JvG a b];by_cases g:a.d=b.d
 ·have j:GH a.d b.d=0:=(kH _ _).2 g;have u:GH b.d b.d=0:=(kH _ _).2 rfl;by_cases y:a.v=b.v<;>by_cases s:a.test=b.test<;>by_cases p:a.kind=b.kind/\a.value=b.value<;>by_cases D:a.dig=b.dig<;>simp[u,g,y,s,p,D]
 ·have j:¬GH a.d b.d=0:=fun e=>g ((kH _ _).1 e);simp[j,g]
def Jlk(a b:Mu)(d:a.d.path.length<=3000000)(c:b.d.path.length<=3000000)(H:Ae):Ak zD [FX a,FX b] H=some (bD (decide (a=b)),H):=by
 rw[CP _ _ _ rfl];have:zD [FX a,FX b]=_:=JU (A:=mX) (B:=mX) _ a b
 grind
def PJ(P:Aj):Ac Cj:=(39,true,Ak pW)::(144,true,Ak tC)::(112,true,Ak zD)::pL P
def Jg4:∀p∈PJ Aa,Ci Aa p:=AC (Bf JmI)<|AC (Bf Jmq)<|AC (Bf Jsg)<|JiD
def YW(P:Aj):Tab:=⟨PJ P,BM,[]⟩
def tR:Bg Aa (YW Aa):=CU Jg4
def dQ:Ac Nat:=[0,1,4,5]
def Jrd(n:Nat)(c a:D)(h:Ae):AB Aa (YW Aa) dQ n f40 [c,a] h=
(Ad (Bq .sl c) fun g=>
Ad (Bq .sl a) fun i=>
Ad (Ag .int .neq g i) fun e=>
Az e
(some ((bD false),h))
(Dy (BZ Aa (YW Aa) dQ n f40 0 [c,a,(bD false),(iD 0)] h) (fun j d b=>
CW j 0
(some ((bD true),b))
(none)) (fun d b=>
some ((gD d 2),b)))):=by kernel_rfl
def Jgp(n:Nat)(s0 b c a:D)(h:Ae):BK Aa (YW Aa) dQ n f40 0 [s0,b,c,a] h=
(Ad (Bq .sl s0) fun g=>
Ad (Ag .int .lss a g) fun i=>
Az i
(Ad (BG 8 s0 a) fun l=>
Ad (Ai (some 8) h l) fun j=>
Ad (BG 8 b a) fun k=>
Ad (Ai (some 8) h k) fun m=>
Ah (Ak zD [j,m] h) fun e d=>
Ad (Gn e) fun o=>
Az o
(some (.ret,[s0,b,(bD false),a],d))
(Ad (Ag .int .add a (iD 1)) fun p=>
some (.normal,[s0,b,c,p],d)))
(some ((.exit 0),[s0,b,c,a],h))):=by kernel_rfl
def Jfr:Ac Nat:=[]
def QdC(n:Nat)(l g i:D)(h:Ae):AB Aa (YW Aa) Jfr n f66 [l,g,i] h=
(Ah (BA 25 l h) fun k o=>
Ad (Ai (some 3) o k) fun r=>
Ah (Ak dX [r] o) fun q m=>
Az q
(Ah (Ak tC [g] m) fun s a=>
Az s
(Ad (AP 2 k) fun p=>
Ad (Ai none a p) fun u=>
Ad (Bq .sl u) fun v=>
Ad (Ag .int .leq v (iD 40)) fun b=>
Az b
(Ad (Bq .sl g) fun j=>
Ad (Ag .int .leq j (iD 5)) fun c=>
Az c
(Ad (Ag .int .leq i (iD 200)) fun d=>
Az d
(some ((bD true),a))
(Ad (Ag .int .gtr i (iD 10000)) fun e=>
some (e,a)))
(some ((bD false),a)))
(some ((bD false),a)))
(some ((bD false),a)))
(some ((bD false),m))):=by kernel_rfl
def UT(t:Ac Mu):Bool:=decide (t.length<=3000)&&t.all fun m=>decide (m.d.path.length<=3000000)
def uO:Ac D->Af D:=F2 MF MF fun a b=>if UT a=true/\UT b=true then some (bD (decide (a=b)))else none
def QcG(a b:Ac Mu)(l:UT a=true)(n:UT b=true)(H:Ae):AB Aa (YW Aa) dQ 3001 f40 [DR a,DR b] H=some (bD (decide (a=b)),H):=by
 rw[Jrd];simp only[UT,DJ,F5,Ew]at l n;by_cases o:a.length=b.length
 case neg=>
  have:¬a=b:=fun e=>o (by rw[e]);simp only[VU,AU,El,CZ (show(a.length:Int)≠b.length by omega),Bd,Bv,Dc this]
 have step:∀j (k:j<a.length) (i:j<b.length),BK Aa (YW Aa) dQ 3001 f40 0 [DR a,DR b,bD false,iD j] H=
   if a[j]=b[j]then some (.normal,[DR a,DR b,bD false,iD (j+1)],H)else some (.ret,[DR a,DR b,bD false,iD j],H):=by
  intro j k i;rw[Jgp];have m:BG 8 (DR a) (iD j)=some (.ptr (BL a[j])):=KO BL 8 a j k;have p:BG 8 (DR b) (iD j)=some (.ptr (BL b[j])):=KO BL 8 b j i;have ld:∀x,Ai (some 8) H (.ptr (BL x))=some (FX x):=fun x=>rfl;have r:=Jlk a[j] b[j] (by grind) (by grind) H;simp only[VU,G6 (show(j:Int)<a.length by omega),AU,Bd,Bv,m,p,ld,r,A7,nI,G5 j (by omega)];simp
 have hs:=VO (P:=Aa) (T:=YW Aa) (kp:=dQ) (fn:= f40) (li:=0) (fun j=>[DR a,DR b,bD false,iD j]) H a.length (fun j=>decide (a[j]? =b[j]?))
  (fun j=>(.ret,[DR a,DR b,bD false,iD j],H)) (.exit 0,[DR a,DR b,bD false,iD a.length],H) (fun j e=>by cases e) (fun e=>by cases e) 0 3001 (F9 _) (by omega)
  (fun j _ h hp=>by grind)
  (fun j _ h hp=>by grind)
  (by
   rw[Jgp];simp only[VU,Me (show¬(a.length:Int)<a.length by omega),AU,Bd,BF,BC])
 simp only[VU,AU,El,Dc (show¬(a.length:Int)≠b.length by omega),Bd,BF,BC];have d:iD ((0:Nat):Int)=iD 0:=rfl;rcases hs with⟨g,c⟩|⟨j,_,h,hp,_,c⟩
 ·rw[d]at c;rw[c];have:a=b:=PU fun j=>by grind
  simp[this]
 ·rw[d]at c;rw[c];have:¬a=b:=fun e=>by grind
  simp[this]
def QeT:Bz Aa 40 uO:=GK (kp:=dQ) tR AX func40 fun a b d h=>by
 split at h
 case isFalse=>cases h
 rename_i c;cases h;refine⟨3001,bD (decide (a=b)),?_,AY.refl _⟩;show BB (AB _ _ _ _ _ [DR a,DR b] [])=_;rw[QcG a b c.1 c.2];exact Gu _ _ rfl
def Jys(a b:Ac Mu)(d:UT a=true)(c:UT b=true)(H:Ae):Ak uO [DR a,DR b] H=some (bD (decide (a=b)),H):=by
 rw[CP _ _ _ rfl];have:uO [DR a,DR b]=_:=JU (A:=MF) (B:=MF) _ a b
 grind
def Z9(p:Pg)(t:Ac (Ac Int))(f:Int):Bool:=lT p&&(Rq t&&(decide ((p.body.length:Int)<=40)&&(decide ((t.length:Int)<=5)&&(decide (f<=200)||decide (10000<f)))))
def vY:Ac D->Af D:=F3 Ef JD BV fun p t f=>some (bD (Z9 p t f))
def Jnd:Bz Aa 66 vY:=V4 (kp:=Jfr) tR AX func66 fun p t f d h=>by
 cases h
 refine⟨0,bD (Z9 p t f),?_,AY.refl _⟩;show BB (AB _ _ _ _ _ [Be p,BH t,iD f] [])=_;rw[QdC];have j:BA 25 (Be p) []=some (.hp 0 0,[.cells 25 3 (DW p)]):=rfl;have e:Ai (some 3) [.cells 25 3 (DW p)] (.hp 0 0)=some (Be p):=rfl;have a:AP 2 (.hp 0 0)=some (.hp 0 2):=rfl;have k:Ai none [.cells 25 3 (DW p)] (.hp 0 2)=some (A8 p.body):=rfl;have c:Bq .sl (A8 p.body)=some (iD p.body.length):=by simp
 simp only[j,A7,AU,e,Jy6,Qb0,a,k,c,MG,Ve,aQ,Bd,Z9];cases lT p<;>cases Rq t<;>by_cases i:(p.body.length:Int)<=40<;>by_cases g:(t.length:Int)<=5<;>by_cases b:f<=200<;>simp[i,g,b]
def JlP(p:Pg)(t:Ac (Ac Int))(f:Int)(H:Ae):Ak vY [Be p,BH t,iD f] H=some (bD (Z9 p t f),H):=by
 rw[CP _ _ _ rfl];have:vY [Be p,BH t,iD f]=_:=V6 (A:=Ef) (B:=JD) (C:=BV) _ p t f;rw[this];rfl
def Jhi(P:Aj):Ac Cj:=(40,true,Ak uO)::(66,true,Ak vY)::PJ P
def Jl5:∀p∈Jhi Aa,Ci Aa p:=AC (Bf QeT)<|AC (Bf Jnd)<|Jg4
def cF(P:Aj):Tab:=⟨Jhi P,BM,[]⟩
def Jel:Bg Aa (cF Aa):=CU Jl5
def Jaa:Ac Nat:=[]
def Qbf(n:Nat)(w x:D)(h:Ae):AB Aa (cF Aa) Jaa n f10 [w,x] h=
(Ah (BA 33 w h) fun c z=>
Ah (BA 33 x z) fun d m=>
AV 0 (some 3) m c fun B=>
AV 0 (some 3) m d fun y=>
Ah (Ak Ut [B,y] m) fun C i=>
AV 3 none i c fun v=>
AV 3 none i d fun k=>
Ah (Ak pW [v,k] i) fun u b=>
AV 5 none b c fun q=>
AV 5 none b d fun g=>
Ah (Ak uO [q,g] b) fun o a=>
Az C
(Az u
(Az o
(AV 4 none a c fun p=>
AV 4 none a d fun s=>
Ad (Ag .int .eql p s) fun e=>
Az e
(AV 6 (some 3) a c fun l=>
AV 6 (some 3) a d fun r=>
Ad (Ag (.ints 3) .eql l r) fun j=>
some (j,a))
(some ((bD false),a)))
(some ((bD false),a)))
(some ((bD false),a)))
(some ((bD false),a))):=by kernel_rfl
def Jdj:Ac Nat:=[]
def QaO(n:Nat)(j e b:D)(h:Ae):AB Aa (cF Aa) Jdj n f17 [j,e,b] h=
(Ah (BA 25 j h) fun i k=>
Ad (Ai (some 3) k i) fun p=>
Ah (Ak vY [p,e,b] k) fun o a=>
Az o
(Ad (AP 2 i) fun q=>
Ad (Ai none a q) fun l=>
Ad (Bq .sl l) fun m=>
Ad (Ag .int .leq m (iD 20)) fun r=>
Az r
(Ad (Bq .sl e) fun s=>
Ad (Ag .int .leq s (iD 3)) fun c=>
Az c
(Ad (Ag .int .leq b (iD 80)) fun g=>
Az g
(some ((bD true),a))
(Ad (Ag .int .gtr b (iD 10000)) fun d=>
some (d,a)))
(some ((bD false),a)))
(some ((bD false),a)))
(some ((bD false),a))):=by kernel_rfl
def dE(c:Cm):Bool:=decide (c.p.fits)&&(UL c.t&&UT c.ms)
def sX(a b:Cm):a=b↔a.p=b.p/\a.t=b.t/\a.ms=b.ms/\a.f=b.f/\a.sc=b.sc:=by
 obtain⟨_,_,_,_,_⟩:=a;obtain⟨_,_,_,_,_⟩:=b;simp only[Cm.mk.injEq];exact⟨fun⟨f,e,d,c,g⟩=>⟨f,e,c,d,g⟩,fun⟨f,e,c,d,g⟩=>⟨f,e,d,c,g⟩⟩
instance:DecidableEq Cm:=fun a b=>decidable_of_iff _ (sX a b).symm
def cO:Ac D->Af D:=F2 OV OV fun a b=>if dE a=true/\dE b=true then some (bD (decide (a=b)))else none
def Jpg(x y:KN):Ag (.ints 3) .eql (Gl x) (Gl y)=some (bD (decide (x=y))):=by
 obtain⟨_,_,_⟩:=x;obtain⟨_,_,_⟩:=y;simp[Ag,Ug,Gl,He,Sl]
def Jdb:Bz Aa 10 cO:=GK (kp:=Jaa) Jel AX func10 fun a b d h=>by
 split at h
 case isFalse=>cases h
 rename_i w;obtain⟨e,g⟩:=w;simp only[dE,DJ,F5]at e g;cases h;refine⟨0,bD (decide (a=b)),?_,AY.refl _⟩;show BB (AB _ _ _ _ _ [.agg (Cf a),.agg (Cf b)] [])=_;rw[Qbf];unfold AV;have B:BA 33 (.agg (Cf a)) []=some (.hp 0 0,[.cells 33 9 (Cf a)]):=rfl;have l:BA 33 (.agg (Cf b)) [.cells 33 9 (Cf a)]=some (.hp 1 0,[.cells 33 9 (Cf a),.cells 33 9 (Cf b)]):=rfl;generalize c:([.cells 33 9 (Cf a),.cells 33 9 (Cf b)]:Ae)=H;have m:∀i k,AP k (.hp i 0)=some (.hp i (0+k)):=fun i k=>rfl;have v:Ai (some 3) H (.hp 0 (0+0))=some (Be a.p):=by rw[<-c];rfl
 have z:Ai none H (.hp 0 (0+3))=some (BH a.t):=by rw[<-c];rfl
 have D:Ai none H (.hp 0 (0+4))=some (iD a.f):=by rw[<-c];rfl
 have y:Ai none H (.hp 0 (0+5))=some (DR a.ms):=by rw[<-c];rfl
 have s:Ai (some 3) H (.hp 0 (0+6))=some (Gl a.sc):=by rw[<-c];rfl
 have o:Ai (some 3) H (.hp 1 (0+0))=some (Be b.p):=by rw[<-c];rfl
 have q:Ai none H (.hp 1 (0+3))=some (BH b.t):=by rw[<-c];rfl
 have E:Ai none H (.hp 1 (0+4))=some (iD b.f):=by rw[<-c];rfl
 have j:Ai none H (.hp 1 (0+5))=some (DR b.ms):=by rw[<-c];rfl
 have r:Ai (some 3) H (.hp 1 (0+6))=some (Gl b.sc):=by rw[<-c];rfl
 rw[B];simp only[A7];rw[l,c];simp only[A7,AU,m,v,z,D,y,s,o,q,E,j,r,Jo7 _ _ e.1 g.1,Jqh _ _ e.2.1 g.2.1,Jys _ _ e.2.2 g.2.2,TS,Jpg,Bd];simp only[sX a b];by_cases p:a.p=b.p<;>by_cases x:a.t=b.t<;>by_cases u:a.ms=b.ms<;>by_cases n:a.f=b.f<;>by_cases C:a.sc=b.sc<;>simp[p,x,u,n,C]
def JsA(a b:Cm)(d:dE a=true)(c:dE b=true)(H:Ae):Ak cO [.agg (Cf a),.agg (Cf b)] H=some (bD (decide (a=b)),H):=by
 rw[CP _ _ _ rfl];have:cO [.agg (Cf a),.agg (Cf b)]=_:=JU (A:=OV) (B:=OV) _ a b;rw[this,Aw ⟨d,c⟩];rfl
def Xc(p:Pg)(t:Ac (Ac Int))(f:Int):Bool:=Z9 p t f&&(decide ((p.body.length:Int)<=20)&&(decide ((t.length:Int)<=3)&&(decide (f<=80)||decide (10000<f))))
def WY:Ac D->Af D:=F3 Ef JD BV fun p t f=>some (bD (Xc p t f))
def JuM:Bz Aa 17 WY:=V4 (kp:=Jdj) Jel AX func17 fun p t f d h=>by
 cases h
 refine⟨0,bD (Xc p t f),?_,AY.refl _⟩;show BB (AB _ _ _ _ _ [Be p,BH t,iD f] [])=_;rw[QaO];have j:BA 25 (Be p) []=some (.hp 0 0,[.cells 25 3 (DW p)]):=rfl;have e:Ai (some 3) [.cells 25 3 (DW p)] (.hp 0 0)=some (Be p):=rfl;have a:AP 2 (.hp 0 0)=some (.hp 0 2):=rfl;have k:Ai none [.cells 25 3 (DW p)] (.hp 0 2)=some (A8 p.body):=rfl;have c:Bq .sl (A8 p.body)=some (iD p.body.length):=by simp
 simp only[j,A7,AU,e,JlP,a,k,c,MG,Ve,aQ,Bd,Xc];cases Z9 p t f<;>by_cases i:(p.body.length:Int)<=20<;>by_cases g:(t.length:Int)<=3<;>by_cases b:f<=80<;>simp[i,g,b]
def GS(p:Pg)(t:Ac (Ac Int))(f:Int)(H:Ae):Ak WY [Be p,BH t,iD f] H=some (bD (Xc p t f),H):=by
 rw[CP _ _ _ rfl];have:WY [Be p,BH t,iD f]=_:=V6 (A:=Ef) (B:=JD) (C:=BV) _ p t f;rw[this];rfl
def Jcx(P:Aj):Ac Cj:=(10,true,Ak cO)::(17,true,Ak WY)::[]
def Jtd:∀p∈Jcx Aa,Ci Aa p:=AC (Bf Jdb)<|AC (Bf JuM)<|EN
def Jdp(P:Aj):Tab:=⟨Jcx P,BM,[]⟩
def JzD:Bg Aa (Jdp Aa):=CU Jtd
def Jj1:Ac Nat:=[]
def Jk7(n:Nat)(d c b:D)(h:Ae):AB Aa (Jdp Aa) Jj1 n f5 [d,c,b] h=
(Ah (BA 25 d h) fun j a=>
Ad (Ai (some 3) a j) fun i=>
Ah (Ak WY [i,c,b] a) fun e g=>
some (e,g)):=by kernel_rfl
def JpW:Bz Aa 5 WY:=V4 (kp:=Jj1) JzD AX func5 fun p t f d h=>by
 cases h
 refine⟨0,bD (Xc p t f),?_,AY.refl _⟩;show BB (AB _ _ _ _ _ [Be p,BH t,iD f] [])=_;rw[Jk7];have a:BA 25 (Be p) []=some (.hp 0 0,[.cells 25 3 (DW p)]):=rfl;have b:Ai (some 3) [.cells 25 3 (DW p)] (.hp 0 0)=some (Be p):=rfl;simp only[a,A7,AU,b,GS];exact Gu _ _ rfl
def nD:Ac D->Af D:=F0 (some (bD true))
def Z1(H:Ae):Ak nD [] H=some (bD true,H):=by rw[CP _ _ _ rfl];rfl
noncomputable def Jbi(P:Aj):Ac Cj:=(5,true,Ak WY)::(6,true,Ak YN)::(7,true,Ak PY)::(10,true,Ak cO)::(4,true,Ak nD)::E3 P
def Qcm(h:Bz Aa 4 nD):∀p∈Jbi Aa,Ci Aa p:=AC (Bf JpW)<|AC (Bf Jdv)<|AC (Bf JdM)<|AC (Bf Jdb)<|AC (Bf h)<|hO
noncomputable def On(P:Aj):Tab:=⟨Jbi P,BM,[]⟩
def Jxm(h:Bz Aa 4 nD):Bg Aa (On Aa):=CU (Qcm h)
def sT:Ac Nat:=[]
def Jqj(n:Nat)(x0 r x2 s e:D)(h:Ae):AB Aa (On Aa) sT n f3 [x0,r,x2,s,e] h=
(Ah (BA 25 x0 h) fun y0 h1=>
Ah (BA 25 x2 h1) fun y2 h3=>
Ah (Ak nD [] h3) fun k h5=>
Ad (Gn k) fun y6=>
Az y6
(some ((bD false),h5))
(Ad (Ai (some 3) h5 y0) fun y7=>
Ah (Ak WY [y7,r,e] h5) fun y8 y=>
Ad (Gn y8) fun x=>
Az x
(some (k,y))
(Ad (Ai (some 3) y y2) fun a5=>
Ah (Ak WY [a5,s,e] y) fun z g=>
Ad (Gn z) fun Z=>
Az Z
(some (k,g))
(Ad (Ai (some 3) g y0) fun a1=>
Ah (Ak YN [a1,r,e] g) fun M X=>
Eo M fun ao ag=>
Dw 33 [(iD 0),Aq,Aq,Aq,(iD 0),Aq,(iD 0),(iD 0),(iD 0)] 9 ao X fun j l=>
Ad (Ai (some 3) l y2) fun ap=>
Ah (Ak YN [ap,s,e] l) fun az ah=>
Eo az fun a2 N=>
Dw 33 [(iD 0),Aq,Aq,Aq,(iD 0),Aq,(iD 0),(iD 0),(iD 0)] 9 a2 ah fun c o=>
Ad (Ai (some 9) o j) fun U=>
Ah (Ak PY [U] o) fun u q=>
Eo u fun d al=>
Ad (Ai (some 9) q c) fun au=>
Ah (Ak PY [au] q) fun aw b=>
Eo aw fun i a4=>
Ad (Ag .int .neq ag (iD 0)) fun Q=>
Az Q
(some (k,b))
(Ad (Ag .int .neq N (iD 0)) fun ac=>
Az ac
(some (k,b))
(Ad (Ai (some 3) b y0) fun aj=>
Ah (Ak UU [aj] b) fun ay p=>
Eo ay fun I G=>
Ad (Ai (some 3) p y2) fun W=>
Ah (Ak UU [W] p) fun av H=>
Eo av fun C P=>
Ah (Ak Xl [r,e] H) fun O ae=>
Eo O fun V ax=>
Ah (Ak Xl [s,e] ae) fun w a=>
Eo w fun K S=>
Ad (Ag .int .neq al (iD 0)) fun am=>
Az am
(some ((bD false),a))
(Ad (Ag .int .neq a4 (iD 0)) fun ak=>
Az ak
(some ((bD false),a))
(Ad (Ag .int .neq G (iD 0)) fun a0=>
Az a0
(some ((bD false),a))
(Ad (Ag .int .neq P (iD 0)) fun Y=>
Az Y
(some ((bD false),a))
(Ad (Ag .int .neq ax (iD 0)) fun R=>
Az R
(some ((bD false),a))
(Ad (Ag .int .neq S (iD 0)) fun v=>
Az v
(some ((bD false),a))
(Az k
(Ad (Ag .str .eql d i) fun m=>
Ad (Ag .str .eql I C) fun ar=>
Az ar
(Ad (Ag .str .eql V K) fun T=>
Ad (Ag .bool .eql m T) fun ab=>
Az ab
(Ad (Ag .str .eql d i) fun E=>
Ad (Ai (some 9) a j) fun aq=>
Ad (Ai (some 9) a c) fun L=>
Ah (Ak cO [aq,L] a) fun F an=>
Ad (Ag .bool .eql E F) fun af=>
some (af,an))
(some ((bD false),a)))
(Ad (Ag .bool .eql m (bD false)) fun ai=>
Az ai
(Ad (Ag .str .eql d i) fun ad=>
Ad (Ai (some 9) a j) fun J=>
Ad (Ai (some 9) a c) fun aa=>
Ah (Ak cO [J,aa] a) fun a6 B=>
Ad (Ag .bool .eql ad a6) fun a3=>
some (a3,B))
(some ((bD false),a))))
(some ((bD false),a)))))))))))))):=by kernel_rfl
def Jap{p:Pg}{t:Ac (Ac Int)}{f:Int}(h:Yt p t=true)(H:Ae):Ak YN [Be p,BH t,iD f] H=some (.tup [.agg (Cf (RF p t f)),iD (GR p t f)],H):=by
 rw[CP _ _ _ rfl];have:YN [Be p,BH t,iD f]=_:=V6 (A:=Ef) (B:=JD) (C:=BV) _ p t f
 grind
def Jmd(H:Ae):Ak PY [.agg (Cf YI)] H=some (.tup [sD [],iD 23],H):=by
 rw[CP _ _ _ rfl];have:PY [.agg (Cf YI)]=_:=EO (A:=OV) _ YI;have a:ED YI.p≠0:=by decide
 rw[this,Am (fun h=>a h.good.prog),Aw rfl];rfl
def JoG{c:Cm}(h:TG c)(H:Ae):Ak PY [.agg (Cf c)] H=some (.tup [sD (KD (Gi (Ku c))),iD 0],H):=by
 rw[CP _ _ _ rfl];have:PY [.agg (Cf c)]=_:=EO (A:=OV) _ c
 grind
def lG(p:Pg)(t:Ac (Ac Int))(f:Int):By×Int:=if GR p t f=0 then(RS p t f,0)else([],23)
def Jg3{p:Pg}{t:Ac (Ac Int)}{f:Int}(h:Yt p t=true)(H:Ae):Ak PY [.agg (Cf (RF p t f))] H=some (.tup [sD (lG p t f).1,iD (lG p t f).2],H):=by
 by_cases a:GR p t f=0
 ·rw[RF,lG,Aw a,Aw a];exact JoG (rG (jO h) a) H
 ·rw[RF,lG,Am a,Am a];exact Jmd H
def Jdt{p:Pg}{t:Ac (Ac Int)}{f:Int}(h:Xc p t f=true)(hp:∀x∈p.body,Dv x.2)(ht:∀l∈t,∀x∈l,Dv x):Yt p t=true:=by
 simp only[Xc,Z9,lT,Rq,DJ,zN,F5,Ew]at h;obtain⟨⟨⟨_,d⟩,⟨b,c⟩,_⟩,e,_⟩:=h;simp only[Yt,DJ,F5,Ew];have a:∀{x:Int},Dv x->Ib x=true:=fun{x} h=>by unfold Dv at h;simpa[Ib]using h
 grind
def JfT{p:Pg}{t:Ac (Ac Int)}(a:RunIn p t)(h:ED p=0)(H:Ae):Ak UU [Be p] H=some (.tup [sD (G8 p),iD 0],H):=by
 rw[CP _ _ _ rfl];have:UU [Be p]=_:=EO (A:=Ef) _ p;have c:eY p=true:=by
  rw[eY,Ew];exact fun x b=>CZ (a.nums x b)
 rw[this,Aw ⟨c,by have:=a.body;omega⟩,Kk,Aw h,h];rfl
def JbW{p:Pg}{t:Ac (Ac Int)}{f:Int}(a:RunIn p t)(b:GR p t f=0)(H:Ae):Ak Xl [BH t,iD f] H=some (.tup [sD (Il t f),iD 0],H):=by
 have e:=rG a b;rw[JbC t f e.tests e.args];exact congrArg (fun x=>some (x,H)) e.suite
def Jf6{p:Pg}{t:Ac (Ac Int)}{f:Int}(b:RunIn p t)(e:GR p t f=0):dE (Dq p t f)=true:=by
 have c:=(N5 b e);have i:=b.body;have h:=b.vars;have ht:=b.tests;have a:(Dq p t f).p.fits:=⟨by show p.vars.length<=_;omega,by show p.body.length<=_;omega⟩;have g:UL (Dq p t f).t=true:=by
  simp only[UL,DJ,F5,Ew];exact⟨by show t.length<=_;omega,b.lens⟩
 have d:UT (Dq p t f).ms=true:=by
  simp only[UT,DJ,F5];exact⟨by have:=c.few;omega,c.paths⟩
 rw[dE,CZ a,g,d];rfl
def JuK(a b:Bool):Ag .bool .eql (bD a) (bD b)=some (bD (decide (a=b))):=by rfl
def FU(p:Pg):HO:= .cells 25 3 (DW p)
def Nw(c:Cm):HO:= .cells 33 9 (Cf c)
def Qdg(p q:Pg)(s t:Ac (Ac Int))(f:Int)(hp:∀x∈p.body,Dv x.2)(hs:∀l∈s,∀x∈l,Dv x)(K:∀x∈q.body,Dv x.2)(ht:∀l∈t,∀x∈l,Dv x):
  ∃H,AB Aa (On Aa) sT 0 f3 [Be p,BH s,Be q,BH t,iD f] []=some (bD true,H):=by
 rw[Jqj];unfold Eo Dw;have B:BA 25 (Be p) []=some (.hp 0 0,[FU p]):=rfl;have j:BA 25 (Be q) [FU p]=some (.hp 1 0,[FU p,FU q]):=rfl;have u:Ai (some 3) [FU p,FU q] (.hp 0 0)=some (Be p):=rfl;have F:Ai (some 3) [FU p,FU q] (.hp 1 0)=some (Be q):=rfl;have z:Gn (bD true)=some (bD false):=rfl;have J:Gn (bD false)=some (bD true):=rfl;cases h:Xc p s f with
 |false=>
  refine⟨[FU p,FU q],?_⟩;simp only[B,j,A7,Z1,z,J,AU,Bd,BF,BC,Bv,u,GS,h]
 |true=>
  cases w:Xc q t f with
  |false=>
   refine⟨[FU p,FU q],?_⟩;simp only[B,j,A7,Z1,z,J,AU,Bd,BF,BC,Bv,u,F,GS,h,w]
  |true=>
   have m:=Jdt h hp hs;have o:=Jdt w K ht;have E:∀(x y:D),DN (.tup [x,y]) 0=some x:=fun _ _=>rfl;have I:∀(x y:D),DN (.tup [x,y]) 1=some y:=fun _ _=>rfl;have v:BX 33 [iD 0,Aq,Aq,Aq,iD 0,Aq,iD 0,iD 0,iD 0] [FU p,FU q]=some (.hp 2 0,[FU p,FU q,.cells 33 9 [iD 0,Aq,Aq,Aq,iD 0,Aq,iD 0,iD 0,iD 0]]):=rfl;have k:∀c:Cm,Bh 9 (.hp 2 0) (.agg (Cf c)) [FU p,FU q,.cells 33 9 [iD 0,Aq,Aq,Aq,iD 0,Aq,iD 0,iD 0,iD 0]]=some (.v undef,[FU p,FU q,Nw c]):=fun c=>rfl;have R:∀c:Cm,Ai (some 3) [FU p,FU q,Nw c] (.hp 1 0)=some (Be q):=fun c=>rfl;have n:∀c:Cm,BX 33 [iD 0,Aq,Aq,Aq,iD 0,Aq,iD 0,iD 0,iD 0] [FU p,FU q,Nw c]=some (.hp 3 0,[FU p,FU q,Nw c,.cells 33 9 [iD 0,Aq,Aq,Aq,iD 0,Aq,iD 0,iD 0,iD 0]]):=fun c=>rfl;have r:∀c e:Cm,Bh 9 (.hp 3 0) (.agg (Cf e)) [FU p,FU q,Nw c,.cells 33 9 [iD 0,Aq,Aq,Aq,iD 0,Aq,iD 0,iD 0,iD 0]]=some (.v undef,[FU p,FU q,Nw c,Nw e]):=fun c e=>rfl;have C:∀c e:Cm,Ai (some 9) [FU p,FU q,Nw c,Nw e] (.hp 2 0)=some (.agg (Cf c)):=fun c e=>rfl;have G:∀c e:Cm,Ai (some 9) [FU p,FU q,Nw c,Nw e] (.hp 3 0)=some (.agg (Cf e)):=fun c e=>rfl;have N:∀c e:Cm,Ai (some 3) [FU p,FU q,Nw c,Nw e] (.hp 0 0)=some (Be p):=fun c e=>rfl;have O:∀c e:Cm,Ai (some 3) [FU p,FU q,Nw c,Nw e] (.hp 1 0)=some (Be q):=fun c e=>rfl;refine⟨[FU p,FU q,Nw (RF p s f),Nw (RF q t f)],?_⟩;simp only[B,j,A7,Z1,z,AU,Bd,BF,BC,Bv,u,F,GS,h,w,Jap m,Jap o,E,I,v,k,R,n,r,C,G,N,Jg3 m,Jg3 o,WM];by_cases a:GR p s f=0
   case neg=>grind
   by_cases b:GR q t f=0
   case neg=>grind
   have i:=jO m;have d:=jO o;have P:lG p s f=(RS p s f,0):=Aw a;have L:lG q t f=(RS q t f,0):=Aw b;have M:RF p s f=Dq p s f:=Aw a;have Q:RF q t f=Dq q t f:=Aw b;simp only[ne_eq,a,b,not_true_eq_false,decide_false,BF,BC,P,L,M,Q,JfT i (WF a).1,JfT d (WF b).1,JbW i a,JbW d b,A7,AU,E,I,Sd,Bd,C,G,O,WM,JsA _ _ (Jf6 i a) (Jf6 d b),JuK];obtain⟨T,S⟩:=Ju5 (f:=f) (g:=f) i d a b
   grind
section
variable {F : Fence} {n : Nat} {P : Aj} {Q : Exit → Act → AA → Prop}
def LF(F:Fence)(n:Nat)(P:Aj)(b:Code)(l:Nat)(Q:Exit->Act->AA->Prop):Nat->Act->AA->Prop
 |0,_,_=>False
 |m+1,a,w=>b.wpIn F n P (Exit.jump l (LF F n P b l Q m) Q) a w
def Jop{a:Act}{w:AA}{c f:Code}(l:Nat)(M:findLabel c l=some f)(m:Nat)(s:c.wpIn F n P (Exit.jump l (LF F n P f l Q m) Q) a w):(Code.scope c).wpIn F n P Q a w:=by
 intro b k cs v z x;have I:gotoIn l (.inScope c::k)=some (.code f:: .inScope c::k):=by simp[gotoIn,M]
 have y:(lone (b.atR a (.code (.scope c)::k)) cs w).fenced P F:=fenced_calm z x rfl;have out:∀{a w} {mm:Machine} e g i,(∀t,e= .goto t->False)->Q e g i->ArrivesIn (Machine.fenced P F) P (lone (b.atR a (.code f:: .inScope c::k)) cs w) b (.inScope c::k) cs e g i->ArrivesIn (Machine.fenced P F) P (lone (b.atR a (.code f:: .inScope c::k)) cs w) b k cs e g i:=by
  intro a w mm e g i N o d;cases e with
  |normal=>exact StepsIn.trans d (.one (fenced_calm z x rfl) cC)
  |exit id=>
   have u:exitTo id (.inScope c::k)=exitTo id k:=by simp[exitTo]
   exact⟨fun A q=>d.1 A (by rw[u];exact q),fun p q=>d.2 p (by rw[u];exact q)⟩
  |goto t=>exact(N t rfl).elim
  |_=>exact d
 have key:∀m a w,LF F n P f l Q m a w->∃e H G,Q e H G/\ArrivesIn (Machine.fenced P F) P (lone (b.atR a (.code f:: .inScope c::k)) cs w) b k cs e H G:=by
  intro m
  induction m with
  |zero=>intro a w h;exact h.elim
  |succ m K=>
   intro a w h;obtain⟨e,g,i,o,d⟩:=h b (.inScope c::k) cs v z x;cases e with
   |goto t=>
    obtain⟨rfl,E⟩:=o;obtain⟨B,C,D,r,j⟩:=K g i E;exact⟨B,C,D,r,.of_steps (d.1 _ I) j⟩
   |normal=>exact⟨_,g,i,o,out (mm:=default) _ _ _ (fun _ e=>by cases e) o d⟩
   |exit id=>exact⟨_,g,i,o,out (mm:=default) _ _ _ (fun _ e=>by cases e) o d⟩
   |ret=>exact⟨_,g,i,o,d⟩
   |panic R=>exact⟨_,g,i,o,d⟩
   |outgrown=>exact⟨_,g,i,o,d⟩
 obtain⟨e,g,i,o,d⟩:=s b (.inScope c::k) cs v z x;cases e with
 |normal=>exact⟨.normal,g,i,o,.head y V7 (StepsIn.trans d (.one (fenced_calm z x rfl) cC))⟩
 |exit id=>
  have u:exitTo id (.inScope c::k)=exitTo id k:=by simp[exitTo]
  exact⟨.exit id,g,i,o,fun A q=> .head y V7 (d.1 A (by rw[u];exact q)),
   fun p q=>let⟨J,L,O⟩:=d.2 p (by rw[u];exact q);⟨J,L,.head y V7 O⟩⟩
 |goto t=>
  obtain⟨rfl,E⟩:=o;obtain⟨B,C,D,r,j⟩:=key m g i E;exact⟨B,C,D,r,.of_steps (.head y V7 (d.1 _ I)) j⟩
 |_=>exact⟨_,g,i,o,.of_steps (.one y V7) d⟩
end
def GE{α:Type}(l:Nat)(a stop:En->Ae->Af α):Lv->En->Ae->Af α
 | .goto b,e,H=>CW b l (a e H) none
 | .normal,e,H| .ret,e,H=>stop e H
 |_,_,_=>none
def GB(fn:Func):Code:=
 match Kt fn with
 | .scope c=>c
 |_=> .skip
def N6(fn:Func)(l:Nat):Code:=(findLabel (GB fn) l).getD .skip
def pY(P:Aj)(T:Tab)(kp:Ac Nat)(n:Nat)(fn:Func)(l:Nat)(s:Ac D)(H:Ae):Af (Lv×Ac D×Ae):=
 IR P T kp n fn.ntmps (N6 fn l) (KR kp s 0) H (GE l (fun e H=>some (.normal,kp.map (Fh e),H)) fun e H=>some (.ret,kp.map (Fh e),H))
def JeH(P:Aj)(T:Tab)(kp:Ac Nat)(n:Nat)(fn:Func)(l:Nat)(s:Ac D)(H:Ae):Af (Lv×Ac D×Ae):=DY (pY P T kp n fn l) n s H
def Jbu(r:Af (Lv×Ac D×Ae)):Af (D×Ae):=
 match r with
 |some (.ret,_,H)=>some (.tup [],H)
 |_=>none
def kA(P:Aj)(T:Tab)(kp:Ac Nat)(n:Nat)(fn:Func)(l:Nat)(ds:Ac D)(H:Ae):Af (D×Ae):=
 if ds.length<=fn.ntmps then IR P T kp n fn.ntmps (GB fn) (Us ds 0) H (GE l (fun e H=>Jbu (JeH P T kp n fn l (kp.map (Fh e)) H)) fun _ H=>some (.tup [],H))else none
def QdD{P:Aj}{T:Tab}{kp:Ac Nat}{l:Nat}(hT:Bg P T)(hm:P.follows .mixedOrders=true){f:CG}{fn:Func}{c:Code}(hf:P.funcs[f]? =some fn)(E:fn.body=some (.scope c))(hl:(findLabel c l).isSome=true)(K:fn.results= #[])(z:fn.name≠ "runtime.NumGoroutine"){G:GT}
  (h:∀ds H d H',G ds H=some (d,H')->∃n,kA P T kp n fn l ds H=some (d,H')):BN P f G:=by
 refine⟨⟨fn,hf,z,by rw[E];rfl⟩,fun ds H d H' hG B S L vs w N hv=> ?_⟩;obtain⟨n,M⟩:=h ds H d H' hG;obtain⟨j,p⟩:=Y9.1 hl;have J:GB fn=c:=by unfold GB Kt;rw[E];rfl
 have ab:N6 fn l=j:=by unfold N6;rw[J,p];rfl
 have C:∀tm W,(results fn tm).run P W= .ok (.tuple #[]) W:=by
  intro tm W;simp[results,K]
 unfold kA at M;split at M
 case isFalse=>cases M
 rename_i O;rw[J]at M;obtain⟨I,fr,e,h1,h2,s⟩:=V8 c _ _ _ _ _ (B7 ds _ O) M;let R:Ending->AA->Prop:=fun e a=>∃v b g,e= .returned v/\Rep b g a v d/\BD B b g a H'/\Later B S b L g w a;let Q:=bodyPostM Fence.wide 1 P fn R;have DK:∀(I:Lv) i a b g (fr:Fr),I= .normal\/I= .ret->d= .tup []->H'=fr.2->EY B ⟨w.heap.size,[],false⟩ b g a i fr->Later B S b L g w a->Q I.toExit i a:=by
  intro I i a b g fr aa hd hH A t;subst hd;subst hH;have:LeavesInM Fence.wide 1 P fn i.tmps R i.defers .returning a:=by
   refine A.shut (by simp) t (BQ _) N.base fun W i1 i2 i3=> ?_;exact⟨_,C _ _,_,b,g,rfl,by simp only[Rep];exact⟨[],rfl,by simp only[Au]⟩,i2,i3⟩
  rcases aa with rfl|rfl<;>exact this
 have key:∀(m:Nat) (e:En) (F:Ae) (fr:Ac D) i a b g r,Rl fn.ntmps e fr->DY (pY P T kp n fn l) m (kp.map (Fh e)) F=some r->Jbu (some r)=some (d,H')->EY B ⟨w.heap.size,[],false⟩ b g a i (fr,F)->Later B S b L g w a->LF Fence.wide 1 P j l Q m i a:=by
  intro m
  induction m with
  |zero=>intro e F fr i a b g r _ h;cases h
  |succ m ih=>
   intro e F fr i a b g r Y o k A t;simp only[DY]at o;cases x:pY P T kp n fn l (kp.map (Fh e)) F with
   |none=>grind
   |some q=>
    rw[x]at o;unfold pY at x;rw[ab]at x;obtain⟨X,u,e1,k1,k2,y⟩:=V8 j _ _ _ _ q (Y.kept kp) x;refine SN hT hm .wide N.base j k1 (.inl ⟨rfl,rfl⟩) t.kept.size (show EY _ _ _ _ _ _ (forget kp (fr,F))from A.forget) fun V w2 S2 U g1 Z=> ?_;cases X with
    |goto l'=>
     simp only[GE,CW]at y;split at y
     ·rename_i E;have:=OO E;subst this;cases y;exact⟨rfl,ih e1 u.2 u.1 V w2 S2 U r k2 o k g1 (t.trans Z)⟩
     ·cases y
    |normal=>
     cases y
     cases o
     cases k
     exact DK .normal V w2 S2 U u (.inl rfl) rfl rfl g1 (t.trans Z)
    |ret=>
     cases y
     cases o
     cases k
     exact DK .ret V w2 S2 U u (.inr rfl) rfl rfl g1 (t.trans Z)
    |_=>cases y
 refine callsIn_wide.1 (callsIn_of_wp_marks (n:=1) hf E trivial (Jop l p n (SN hT hm .wide N.base c h1 (.inl ⟨rfl,rfl⟩) (BQ _) (CC fn N hv) fun i a b g A t=> ?_)));cases I with
 |goto l'=>
  simp only[GE,CW]at s;split at s
  ·rename_i E;have:=OO E;subst this;unfold JeH at s;cases x:DY (pY P T kp n fn l') n (kp.map (Fh e)) fr.2 with
   |none=>rw[x]at s;cases s
   |some r=>
    rw[x]at s;exact⟨rfl,key n e fr.2 fr.1 i a b g r h2 x s A t⟩
  ·cases s
 |normal=>cases s;exact DK .normal i a b g fr (.inl rfl) rfl rfl A t
 |ret=>cases s;exact DK .ret i a b g fr (.inr rfl) rfl rfl A t
 |_=>cases s
section
variable {P : Aj} {T : Tab}
def Jmw(Y:Bg P T)(V:P.follows .mixedOrders=true){F:Fence}(X:Wd F){n id B:Nat}{N:NB}{ops:CX Oper}{Q:Exit->Act->AA->Prop}{a:Act}{w:AA}{S:Nat->Prop}{L:Ac (Nat×Nat)}{fr:Ac D}{H:Ae}(J:(Nat->Bool)->Ac D->Ae->Prop)
  (z:(ops.toList.zipIdx.all fun x=>x.1.after.all fun e=>decide (e.on<x.2)|| !Region.binds .any e)=true) (y:(ops.toList.all fun o=>o.guard.isNone)=true)
  (p:EY B N S L w a (fr,H)) (O:J (fun _=>false) fr H)
  (h:∀i o,ops.toList[i]? =some o->∀d fr H,d i=false->(∀e∈o.after,Region.binds .any e=true->d e.on=true)->J d fr H->∃v H',DF P T o.op (DU fr) H=some (v,H')/\J (OC d i) (JV fr o.dst v) H')
  (G:∀d c H' m j f k,(∀i,i<ops.size->d i=true)->J d c H'->EY B N f k j m (c,H')->Later B S f L k w j->Q .normal m j):(Code.region id ops true).wpIn F n P Q a w:=by
 obtain⟨s,g⟩:=p.objs.drew;refine cL V (fun d m j=>∃f k c H',EY B N f k j m (c,H')/\Later B S f L k w j/\J d c H') z ⟨S,L,fr,H,⟨p.defers.later g,g.repA p.tmps,s⟩,g,O⟩ ?_ ?_
 ·refine gS _ 0 fun i o E=> ?_;rw[EE];rintro d a1 w1 K A l ⟨S1,L1,r,M,b,C,U⟩ R;have Z:o.guard=none:=by
   have:=Ew.1 y o (pQ.2 ⟨i,E⟩);simpa using this
  have I:Region.wanted o (yielded ops a1.tmps)=true:=by unfold Region.wanted;rw[Z]
  rw[Aw I];obtain⟨v,H',hs,q⟩:=h i o E d r M A l U;refine Zk Y X hs (fun x=>XO b.tmps x) b.objs fun u j f k W h2 t=>R _ _ ⟨f,k,_,H',⟨?_,(t.repA b.tmps).put o.dst W,h2⟩,C.trans t,q⟩;rw[UH];exact b.defers.later t
 grind
def qG:Nat->Code->Code
 |0,_=> .exit 999999
 |k+1,.seq x y=> .seq x (qG k y)
 |_,c=>c
def Z2:Nat->Code->Code
 |0,c=>c
 |k+1,.seq _ y=>Z2 k y
 |_,c=>c
def kG:Code->Bool
 | .skip| .region _ _ _| .ret=>true
 | .seq x y| .cond _ x y=>kG x&&kG y
 |_=>false
def zL:Nat->Code->Bool
 |0,_=>true
 |k+1,.seq x y=>kG x&&zL k y
 |_,_=>false
def Jp1{kp:Ac Nat}{n:Nat}(c:Code):∀{fr a:Fr} {j:Nat},kG c=true->Ep P T kp n c fr≠some (.exit j,a):=by
 induction c with
 |skip=>intro fr a j _ h;simp[Ep]at h
 |ret=>intro fr a j _ h;simp[Ep]at h
 |region id ops f=>
  intro fr a j _ h;simp only[Ep]at h;obtain⟨o,h,_⟩:=JgS h;cases k:PW P T ops.toList f fr with
  |none=>
   rw[k]at h;simp only[Y2,HZ]at h;obtain⟨r,_,h⟩:=Bi.1 h
   grind
  |some r=>
  rw[k]at h;simp only[Y2]at h;rw[h]at k;have h:=k;simp only[PW]at h;split at h
  ·cases m:GG P T ops.toList ops.toList fr with
   |none=>rw[m]at h;cases h
   |some s=>
    grind
  ·cases h
 |seq x y g d=>
  intro fr a j b h;simp only[kG,DJ]at b;simp only[Ep]at h;cases l:Ep P T kp n x fr with
  |none=>rw[l]at h;cases h
  |some p=>
   obtain⟨e,q⟩:=p;rw[l]at h;cases e with
   |normal=>exact d b.2 h
   |exit i=>exact g b.1 l
   |_=>simp[DS]at h
 |cond c x y g d=>
  intro fr a j b h;simp only[kG,DJ]at b;simp only[Ep]at h;unfold oF at h
  grind
 |_=>intro fr a j b h;cases b
theorem JiE{kp:Ac Nat}(F:Bg P T)(I:P.follows .mixedOrders=true){n m B:Nat}{N:NB}(H:B<=N.n)(s:N.no=false){x:Lv}{f:Fr}{Q:Exit->Act->AA->Prop}:∀(k:Nat) (c:Code) {fr:Fr} {a:Act} {w:AA} {S:Nat->Prop} {L:Ac (Nat×Nat)},zL k c=true->Ep P T kp n (qG k c) fr=some (x,f)->N.n<=w.heap.size->EY B N S L w a fr->
  (x= .exit 999999->∀i b o r,EY B N o r b i f->Later B S o L r w b->(Z2 k c).wpIn Fence.wide m P Q i b)->
  (x≠ .exit 999999->∀i b o r,EY B N o r b i f->Later B S o L r w b->Q x.toExit i b)->c.wpIn Fence.wide m P Q a w
 |0,c,fr,a,w,S,L,hs,h,q,z,v,D=>by
  simp only[qG,Ep,CE,Hu]at h;obtain⟨rfl,rfl⟩:=h;exact v rfl a w S L z Later.refl
 |k+1,c,fr,a,w,S,L,hs,h,q,z,v,D=>by
  cases c with
  |seq C y=>
   simp only[zL,DJ]at hs;simp only[qG,Ep]at h;refine wpIn_seq ?_;cases u:Ep P T kp n C fr with
   |none=>rw[u]at h;cases h
   |some p=>
    obtain⟨J,K⟩:=p;refine SN F I .wide H C u (.inl ⟨rfl,s⟩) q z fun i b o r G t=> ?_;rw[u]at h;cases J with
    |normal=>exact JiE F I H s k y hs.2 h (Ig q t.kept.size) G (fun e d j g l A E=>v e d j g l A (t.trans E)) (fun e d j g l A E=>D e d j g l A (t.trans E))
    |exit id=>exact absurd u (Jp1 C hs.1)
    |_=>
     simp only[DS,CE,Hu]at h;obtain⟨rfl,rfl⟩:=h;exact D (by intro e;cases e) i b o r G t
  |_=>simp[zL]at hs
end
structure LJ where
 m:List Bool
 fr:List D
 H:Ae
def Bm:Ac Bool->Ac Bool->Bool
 |[],[]=>true
 |a::r,b::s=>(a==b)&&Bm r s
 |_,_=>false
theorem Jkq:∀(a b:Ac Bool),Bm a b=true->a=b
 |[],[],_=>rfl
 |a::r,b::s,h=>by
  simp only[Bm,DJ,beq_iff_eq]at h;rw[h.1,Jkq r s h.2]
 |[],_::_,h=>by cases h
 |_::_,[],h=>by cases h
def T6:HO->HO->Bool
 | .cells t s cs,.cells a s' cs'=>Nat.beq t a&&(Nat.beq s s'&&Gy cs cs')
 |_,_=>false
def Jte(a b:HO)(h:T6 a b=true):a=b:=by
 unfold T6 at h;split at h
 ·simp only[DJ,Nat.beq_eq]at h;obtain⟨rfl,rfl,c⟩:=h;rw[Va _ _ c]
 ·cases h
def DH:Ae->Ae->Bool
 |[],[]=>true
 |a::r,b::s=>T6 a b&&DH r s
 |_,_=>false
theorem JjG:∀(a b:Ae),DH a b=true->a=b
 |[],[],_=>rfl
 |a::r,b::s,h=>by
  simp only[DH,DJ]at h;rw[Jte _ _ h.1,JjG r s h.2]
 |[],_::_,h=>by cases h
 |_::_,[],h=>by cases h
def sQ:Ac D->Ac D->Bool
 |[],[]=>true
 | .undef::r,.undef::s=>sQ r s
 |a::r,b::s=>eqB a b&&sQ r s
 |_,_=>false
def Jvy(a b:Ac D):sQ a b=true->a=b:=by
 fun_induction sQ a b with
 |case1=>intro _;rfl
 |case2 r s c=>intro h;rw[c h]
 |case3 a r b s d c=>
  intro h;rw[DJ]at h;rw[E4 _ _ h.1,c h.2]
 |case4=>intro h;cases h
def Rg(a b:LJ):Bool:=Bm a.m b.m&&(DH a.H b.H&&sQ a.fr b.fr)
def Jsy{a b:LJ}(h:Rg a b=true):a=b:=by
 simp only[Rg,DJ]at h;obtain⟨e,d,c⟩:=h;cases a;cases b;simp only[LJ.mk.injEq];exact⟨Jkq _ _ e,Jvy _ _ c,JjG _ _ d⟩
def Lz:Ac LJ->Ac LJ->Ac LJ
 |[],a=>a
 |s::r,a=>Lz r (if a.any (Rg s)then a else s::a)
theorem Mv:∀(a b:Ac LJ) (s:LJ),s∈a\/s∈b->s∈Lz a b
 |[],b,s,h=>by
  rcases h with h|h
  ·cases h
  ·exact h
 |x::r,b,s,h=>by
  rw[Lz];refine Mv r _ s ?_;rcases h with h|h
  ·rcases FY.1 h with rfl|h
   ·right;split
    ·rename_i e;obtain⟨y,c,d⟩:=List.any_eq_true.1 e;rw[Jsy d];exact c
    simp
   ·exact .inl h
  grind
section
variable {P : Aj} {T : Tab}
def tK(m:Ac Bool)(o:Oper):Bool:=o.after.toList.all fun e=> !(Region.binds .any e)||m.getD e.on false
def kF(P:Aj)(T:Tab)(s:LJ):Ac (Oper×Nat)->Af (Ac LJ)
 |[]=>some []
 |(o,i)::r=>
  if !(s.m.getD i true)&&tK s.m o then(DF P T o.op (DU s.fr) s.H).bind fun q=>(kF P T s r).map fun l=>⟨s.m.set i true,JV s.fr o.dst q.1,q.2⟩::l
  else kF P T s r
theorem Nm{s:LJ}:∀{l:Ac (Oper×Nat)} {a:Ac LJ},kF P T s l=some a->∀o i,(o,i)∈l->s.m.getD i true=false->tK s.m o=true->∃v H',DF P T o.op (DU s.fr) s.H=some (v,H')/\⟨s.m.set i true,JV s.fr o.dst v,H'⟩∈a
 |[],a,_,o,i,b,_,_=>by cases b
 |(j,g)::r,a,h,o,i,b,f,d=>by
  simp only[kF]at h;by_cases c:(!(s.m.getD g true)&&tK s.m j)=true
  ·rw[Aw c]at h;obtain⟨q,m,h⟩:=Bi.1 h;obtain⟨l,k,rfl⟩:=DV.1 h;rcases FY.1 b with e|b
   ·grind
   ·obtain⟨v,H',p,n⟩:=Nm k o i b f d
    grind
  ·rw[Am c]at h;rcases FY.1 b with e|b
   ·grind
   ·exact Nm h o i b f d
def GO(P:Aj)(T:Tab)(ops:Ac (Oper×Nat)):Ac LJ->Af (Ac LJ)
 |[]=>some []
 |s::r=>(kF P T s ops).bind fun a=>(GO P T ops r).map fun b=>Lz a b
theorem Jio{ops:Ac (Oper×Nat)}:∀{l r:Ac LJ},GO P T ops l=some r->∀s∈l,∃a,kF P T s ops=some a/\∀x∈a,x∈r
 |[],r,_,s,hs=>by cases hs
 |t::q,r,h,s,hs=>by
  simp only[GO]at h;obtain⟨a,e,h⟩:=Bi.1 h;obtain⟨b,g,rfl⟩:=DV.1 h;rcases FY.1 hs with rfl|hs
  ·exact⟨a,e,fun x c=>Mv _ _ _ (.inl c)⟩
  ·obtain⟨i,d,f⟩:=Jio g s hs;exact⟨i,d,fun x c=>Mv _ _ _ (.inr (f x c))⟩
def lQ(P:Aj)(T:Tab)(ops:Ac (Oper×Nat)):Nat->Ac LJ->Af (Ac LJ)
 |0,l=>some l
 |k+1,l=>(GO P T ops l).bind (lQ P T ops k)
def Qed(m:Ac Bool)(i j:Nat)(h:i<m.length):(m.set i true).getD j true=if j=i then true else m.getD j true:=by grind
def JvT(hT:Bg P T)(hm:P.follows .mixedOrders=true){F:Fence}(hF:Wd F){n id B:Nat}{N:NB}{ops:CX Oper}{Q:Exit->Act->AA->Prop}{a:Act}{w:AA}{S:Nat->Prop}{L:Ac (Nat×Nat)}{fr:Ac D}{H:Ae}{b:Ac LJ}
  (h:(ops.toList.zipIdx.all fun x=>x.1.after.all fun e=>decide (e.on<x.2)|| !Region.binds .any e)=true) (I:(ops.toList.all fun o=>o.guard.isNone)=true)
  (hl:lQ P T ops.toList.zipIdx ops.size [⟨List.replicate ops.size false,fr,H⟩]=some b)
  (hr:EY B N S L w a (fr,H))
  (M:∀s∈b,∀y t A J,EY B N A J t y (s.fr,s.H)->Later B S A L J w t->Q .normal y t):(Code.region id ops true).wpIn F n P Q a w:=by
 refine Jmw hT hm hF (fun d E H'=>∃k l s,lQ P T ops.toList.zipIdx k l=some b/\s∈l/\s.fr=E/\s.H=H'/\s.m.length=ops.size/\(∀i,i<ops.size->s.m.getD i true=d i)/\s.m.count false=k) h I hr ?_ ?_ ?_
 ·refine⟨_,_,_,hl,KE ..,rfl,rfl,by simp,fun i r=> ?_,by simp⟩
  grind
 ·rintro i o K d G H1 hd g ⟨k,l,s,c,W,rfl,rfl,U,q,h7⟩;have r:i<ops.size:=by grind
  have C:s.m.getD i true=false:=by rw[q i r,hd]
  have z:tK s.m o=true:=by
   unfold tK;rw[Ew];intro e u;cases R:Region.binds .any e with
   |false=>rfl
   |true=>
    have aa:=g e (by simpa using u) R;have Y:e.on<ops.size:=by
     have:=Ew.1 h (o,i) (pQ.2 ⟨i,by simp[K]⟩);have:=Array.all_eq_true'.1 this e (by simpa using u);simp only[R,MX,Bool.or_false,F5]at this;omega
    grind
  cases k with
  |zero=>
   grind
  |succ k=>
   simp only[lQ]at c;obtain⟨X,hn,c⟩:=Bi.1 c;obtain⟨as',ha,m⟩:=Jio hn s W;obtain⟨v,H',Z,e2⟩:=Nm ha o i (pQ.2 ⟨i,by simp[K]⟩) C z;refine⟨v,H',Z,k,X,_,c,m _ e2,rfl,rfl,by simpa using U,fun j hj=> ?_,by grind⟩;show(s.m.set i true).getD j true=_;rw[Qed _ _ _ (by omega)];by_cases e:j=i
   ·rw[Aw e,e,Lu]
   ·rw[Am e,JW d e,q j hj]
 ·rintro d G H1 y t A J f ⟨k,l,s,c,W,rfl,rfl,U,q,h7⟩ O V;have h0:s.m.count false=0:=by
   rw[List.count_eq_zero];intro p;obtain⟨i,r,u⟩:=oU.1 p;have:=q i (by omega);rw[f i (by omega),Ed,FQ r,u]at this;cases this
  obtain rfl:k=0:=by omega
  simp only[lQ,CE]at c
  grind
def Ka:Ac (Af D)->Af D
 |[]=>none
 |[x]=>x
 |x::r=>x.bind fun d=>(Ka r).bind fun e=>if eqB d e then some d else none
theorem Jiy:∀{l:Ac (Af D)} {d:D},Ka l=some d->∀x∈l,x=some d
 |[],d,h,x,a=>by cases a
 |[y],d,h,x,a=>by
  rw[oV.1 a];exact h
 |y::z::r,d,h,x,a=>by
  simp only[Ka]at h;obtain⟨g,f,h⟩:=Bi.1 h;obtain⟨e,c,h⟩:=Bi.1 h;split at h
  case isFalse=>cases h
  rename_i b;cases h;have:=E4 _ _ b;subst this;rcases FY.1 a with rfl|a
  ·exact f
  ·exact Jiy c x a
def JbQ(P:Aj)(T:Tab)(kp:Ac Nat)(n:Nat)(a:Code)(rs:Ac ResultVar)(s:LJ):Af D:=
 match Ep P T kp n a (s.fr,s.H)with
 |some (.normal,fr)|some (.ret,fr)=>(UI P rs fr).bind (Ia fr.2 9)
 |_=>none
def Fs(P:Aj)(T:Tab)(n k:Nat)(fn:Func)(ds:Ac D):Af D:=
 match Z2 k (Kt fn)with
 | .seq (.region _ ops true) b=>
  if zL k (Kt fn)=true/\(ops.toList.zipIdx.all fun x=>x.1.after.all fun e=>decide (e.on<x.2)|| !Region.binds .any e)=true/\(ops.toList.all fun o=>o.guard.isNone)=true then
   match Ep P T (List.range fn.ntmps) n (qG k (Kt fn)) (ds++List.replicate (fn.ntmps-ds.length) .undef,[])with
   |some (.exit 999999,fr)=>(lQ P T ops.toList.zipIdx ops.size [⟨List.replicate ops.size false,fr.1,fr.2⟩]).bind fun a=>Ka (a.map (JbQ P T (List.range fn.ntmps) n b fn.results.toList))
   |_=>none
  else none
 |_=>none
def QdQ(E:Bg P T)(D:P.follows .mixedOrders=true){n k:Nat}{f:CG}{fn:Func}(hf:P.funcs[f]? =some fn)(M:fn.body.isSome=true)(l:fn.name≠ "runtime.NumGoroutine"):Hr P f (Fs P T n k fn):=by
 refine⟨⟨fn,hf,l,M⟩,fun ds d h S vs w hS hv=> ?_⟩;cases H:fn.body with
 |none=>rw[H]at M;cases M
 |some c=>
 have O:Kt fn=c:=by unfold Kt;rw[H];rfl
 unfold Fs at h;rw[O]at h;split at h
 case h_2=>cases h
 rename_i id ops j q;split at h
 case isFalse=>cases h
 rename_i hh;obtain⟨U,aa,L⟩:=hh;split at h
 case h_2=>cases h
 rename_i fr u;obtain⟨ab,hl,J⟩:=Bi.1 h;have ho:BD w.heap.size S [] w []:=bM S w hS;have z:=hv.length;have y:EY w.heap.size ⟨w.heap.size,[],false⟩ S [] w {tmps:=vs.toArray++Array.replicate (fn.ntmps-vs.toArray.size) undef,defers:=[]} (ds++List.replicate (fn.ntmps-ds.length) .undef,[]):=by
  refine⟨Pq.nil,?_,ho⟩;have X:∀k,Au S [] w (List.replicate k undef) (List.replicate k .undef):=by
   intro k
   induction k with
   |zero=>exact Au.nil
   |succ k ih=>exact Au.cons (by simp only[Rep]) ih
  have F:=hv.append (X (fn.ntmps-ds.length));rw[<-z]at F⊢;simpa using F
 let R:Ending->AA->Prop:=fun e i=>∃v,e= .returned v/\Rep (fun k=>w.heap.size<=k/\k<i.heap.size) [] i v d/\Below w.heap.size w i;have DK:∀(x:Act) i I L' (fr:Fr) p,UI P fn.results.toList fr=some p->Ia fr.2 9 p=some d->EY w.heap.size ⟨w.heap.size,[],false⟩ I L' i x fr->Later w.heap.size S I [] L' w i->
   LeavesInM Fence.wide 1 P fn x.tmps R x.defers .returning i:=by
  intro x i I L' fr p Z g h1 X;refine h1.shut (by simp) X (BQ _) ho.base fun W i1 i2 i3=> ?_;obtain⟨v,F,h4⟩:=aD (fn:=fn) (a:=⟨x.tmps,[]⟩) (N:=⟨0,[],false⟩) ⟨Pq.nil,i1,i2⟩ Z;exact⟨v,F,v,rfl,lO i2 9 _ _ _ g h4,i3.below⟩
 refine callsIn_wide.1 (callsIn_of_wp_marks (n:=1) hf H trivial ?_);refine JiE (m:=1) (B:=w.heap.size) (N:=⟨w.heap.size,[],false⟩) E D (BQ _) rfl k c U u (BQ _) y (fun _ a1 w1 S1 L1 q1 C=> ?_) (fun e=>absurd rfl e);rw[q];refine wpIn_seq ?_;refine JvT E D .wide aa L hl q1 fun s hs a2 w2 S2 L2 p1 A=> ?_;have b:=Jiy J _ (List.mem_map_of_mem hs);unfold JbQ at b;split at b
 ·rename_i r t;obtain⟨p,o,g⟩:=Bi.1 b;refine SN (B:=w.heap.size) (N:=⟨w.heap.size,[],false⟩) E D .wide (BQ _) j t (.inl ⟨rfl,rfl⟩) (Ig C.kept.size A.kept.size) p1 fun K w3 V G Y Q=> ?_;exact DK K w3 V G r p o g Y ((C.trans A).trans Q)
 ·rename_i r t;obtain⟨p,o,g⟩:=Bi.1 b;refine SN (B:=w.heap.size) (N:=⟨w.heap.size,[],false⟩) E D .wide (BQ _) j t (.inl ⟨rfl,rfl⟩) (Ig C.kept.size A.kept.size) p1 fun K w3 V G Y Q=> ?_;exact DK K w3 V G r p o g Y ((C.trans A).trans Q)
 ·cases b
end
end Go.Proofs.YtapdelkomkpgmaaGreatDoor
