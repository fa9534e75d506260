import Derived.Test.YtapdelkomkpgmaaGreatDoorQs
namespace Go.Proofs.YtapdelkomkpgmaaGreatDoor
open Go.Proofs.Tryz
open Go.RowKit
set_option maxRecDepth 100000
set_option linter.all false
def kW{H:Ae}{id:Nat}{o:HO}(h:H[id]? =some o):H.set id o=H:=by
 apply PU;intro k;by_cases a:id=k
 ·subst a;rw[Hw (CV.1 h).1,h]
 ·rw[Ee a]
def RI(a:Ac Int)(x:Int):Ac Int:=if a.getLast?=some x then a else a++[x]
def IA(l:Ac Int)(m:Nat):Ac Int:=(l.take m).foldl RI []
def JN(l:Ac Int):IA l 0=[]:=by simp[IA]
def dF(l:Ac Int)(m:Nat)(h:m<l.length):IA l (m+1)=RI (IA l m) (l.getD m 0):=by
 unfold IA;rw[Ij h,List.foldl_append,G7 _ _ _ h];rfl
def JwD(a:Ac Int)(x:Int):(RI a x).getLast?=some x:=by
 unfold RI;split
 ·assumption
 ·simp
def HQ(l:Ac Int)(m:Nat)(h:m<l.length):(IA l (m+1)).getLast?=some (l.getD m 0):=by
 rw[dF l m h];exact JwD _ _
theorem JfN(l:Ac Int):∀m,m<=l.length->(IA l m).length<=m
 |0,_=>by simp[JN]
 |m+1,h=>by
  rw[dF l m h];have:=JfN l m (by omega);unfold RI;split
  ·omega
  ·simp;omega
def Jr7{l:Ac Int}{x:Int}(h:l.Pairwise (· < ·))(d:l.getLast?=some x):∀y∈l,y<=x:=by
 intro y c;obtain⟨a,rfl⟩:∃a,l=a++[x]:=by
  rcases List.eq_nil_or_concat l with rfl|⟨a,b,rfl⟩
  ·simp at d
  ·rw[List.concat_eq_append,List.getLast?_append]at d;simp at d;subst d;exact⟨a,List.concat_eq_append⟩
 rw[Jk3]at h;simp only[OQ,oV]at c;rcases c with c|rfl
 ·have:=h.2.2 y c x (by simp);omega
 ·omega
theorem JbT(l:Ac Int):∀m,m<=l.length->WL l m->(IA l m).Pairwise (· < ·)/\∀x,x∈IA l m↔x∈l.take m
 |0,_,_=>by simp[JN]
 |m+1,h,k=>by
  obtain⟨i,g⟩:=JbT l m (by omega) fun p q a b=>k p q a (by omega);rw[dF l m h,Ij h];have f:l[m]=l.getD m 0:=(G7 _ _ _ h).symm;rw[f];unfold RI;by_cases c:(IA l m).getLast?=some (l.getD m 0)
  ·rw[Aw c];refine⟨i,fun x=> ?_⟩;rw[g,OQ,oV];constructor
   ·exact .inl
   ·rintro(d|rfl)
    ·exact d
    ·exact(g _).1 (List.mem_of_getLast? c)
  ·rw[Am c];refine⟨?_,fun x=>by rw[OQ,OQ,g]⟩;rw[Jk3];refine⟨i,by simp,fun y j x d=> ?_⟩;rw[oV]at d;subst d;cases m with
   |zero=>simp[JN]at j
   |succ m=>
    have n:=HQ l m (by omega);rw[n]at c;have s:=Jr7 i n y j;have o:=k m (m+1) (by omega) (by omega);have r:l.getD m 0≠l.getD (m+1) 0:=fun e=>c (by rw[e]);omega
def JvR(l s:Ac Int)(e:WL s s.length)(f:∀x,x∈s↔x∈l):IA s s.length=JF l:=by
 obtain⟨d,c⟩:=JbT s s.length (BQ _) e;refine Jb7 (· < ·) (fun a (h:a<a)=>by omega) (fun a b (d:a<b) (c:b<a)=>by omega) _ _ d (JcK l) fun x=> ?_;rw[c,II,f,Jc7]
def Jbw(c:Ac Int)(k:Nat)(x:Int)(h:k<c.length):(c.set k x).take (k+1)=c.take k++[x]:=by
 rw[Ij (by simpa using h),List.take_set_of_le (BQ _)];simp
def wH:Ac D->Af D:=F1 BV fun _=>some (bD false)
def JsV:Bz Aa 273 wH:=FC (kp:=Ji9) vF AX func273 fun a d h=>by
 cases h
 refine⟨0,_,?_,AY.refl _⟩;show BB (AB _ _ _ _ _ [iD a] [])=_;rw[JuU];simp
def Qbr(a:Int)(H:Ae):Ak wH [iD a] H=some (bD false,H):=by rfl
def Jgm(P:Aj):GT:=CO P (Jh P) [] 0 348
def Jvl:BN Aa 348 (Jgm Aa):=CQ vF AX func348
def vJ(P:Aj):GT:=CO P (Jh P) Oy 1001 370
def Jru(ds:Ac D)(H:Ae):vJ Aa ds H=AB Aa (Jh Aa) Oy 1001 f370 ds H:=CJ func370 ds H
def Jlg:BN Aa 370 (vJ Aa):=CQ vF AX func370
def JgV(id o n i:Nat)(h:i<n):BG 1 (.ht id o n) (iD i)=some (.hp id (o+i)):=by simp[BG,h]
def JcM{H:Ae}{id:Nat}{t:AQ}{c:Ac Int}(h:H[id]? =some (.cells t 1 (BP c)))(o n:Nat)(b:o+n<=c.length):∃z,WO 1 [iD 0] (.ht id o n) H=some (.v undef,H.set id (.cells t 1 (BP (c.take o++z)))):=by
 refine⟨List.replicate n 0++c.drop (o+n),?_⟩;have a:(BP c).length=c.length:=TK c;simp only[WO,WQ,BR,h];rw[Aw ⟨trivial,rfl,by simp[a];omega,rfl⟩];congr 3;simp[BP,Mf]
def QdW{H:Ae}{id:Nat}{t:AQ}{c:Ac Int}(h:H[id]? =some (.cells t 1 (BP c)))(n:Nat)(b:n<=c.length):∃z,WO 1 [iD 0] (.hs id n) H=some (.v undef,H.set id (.cells t 1 (BP z))):=by
 refine⟨List.replicate n 0++c.drop n,?_⟩;have a:(BP c).length=c.length:=TK c;simp only[WO,WQ,BR,h];rw[Aw ⟨trivial,rfl,by simp[a];omega,rfl⟩];congr 3;simp[BP,Mf]
def Vn(id n k:Nat)(a:0<k)(h:k<=n):IJ 1 (.hs id n) (some (iD k)) none=some (.ht id k (n-k)):=by
 simp[IJ,Nu,KX,h];omega
def JlO(id n:Nat):IJ 1 (.hs id n) (some (iD 0)) none=some (.hs id n):=by
 simp[IJ,Nu,KX]
def Jgn(id n k:Nat)(h:k<=n):IJ 1 (.hs id n) none (some (iD k))=some (.hs id k):=by
 simp[IJ,Nu,KX,h]
def JtP(id n a:Nat)(t:AQ)(l:Ac Int)(h:Ae)(X:D)(hid:∃o,h[id]? =some o)(Q:l.length=n)(Y:n<=1000)(V:0<a)(Z:a<n)(J:IA l a=l.take a)(T:l.getD a 0=l.getD (a-1) 0):
  ∃(k:Nat) (c:Ac Int),DY (BK Aa (Jh Aa) Oy 1001 f370 1) 1001 [.hs id n,X,iD a,.ht id a (n-a),iD 1] (h.set id (.cells t 1 (BP l)))=
   some (.exit 2,[.hs id n,X,iD k,.ht id a (n-a),iD ((n-a:Nat):Int)],h.set id (.cells t 1 (BP c)))/\c.length=n/\c.take k=IA l n/\0<k/\k<=n:=by
 have key:∀(m j:Nat) (k:Nat) (c:Ac Int) (f:Nat),j+m=n-a->1<=j->m<f->c.length=n->c.take k=IA l (a+j)->a<=k->k<a+j->(∀p,a+j-1<=p->c.getD p 0=l.getD p 0)->
   ∃(d:Nat) (g:Ac Int),DY (BK Aa (Jh Aa) Oy 1001 f370 1) f [.hs id n,X,iD k,.ht id a (n-a),iD j] (h.set id (.cells t 1 (BP c)))=
   some (.exit 2,[.hs id n,X,iD d,.ht id a (n-a),iD ((n-a:Nat):Int)],h.set id (.cells t 1 (BP g)))/\g.length=n/\g.take d=IA l n/\0<d/\d<=n:=by
  intro m
  induction m with
  |zero=>
   intro j k c f O P U s ht B F hp;obtain⟨f,rfl⟩:∃x,f=x+1:=⟨f-1,by omega⟩;obtain rfl:j=n-a:=by omega
   refine⟨k,c,PP ?_,s,by rw[ht,show a+(n-a)=n by omega],by omega,by omega⟩;rw[hU];unfold Ce;simp
  |succ m K=>
   intro j k c f O P U s ht B F hp;obtain⟨f,rfl⟩:∃x,f=x+1:=⟨f-1,by omega⟩;have C:(h.set id (.cells t 1 (BP c)))[id]? =some (.cells t 1 (BP c)):=Wp hid;have L:=JgV id a (n-a) j (by omega);have H:=JgV id a (n-a) (j-1) (by omega);have N:=Vr id n k (by omega);have E:=VA C (a+j) (by omega);have G:=VA C (a+(j-1)) (by omega);have u:=jB (j:Int) 1 (by omega) (by omega);have w:=Jj (j:Int) 1 (by omega) (by omega);have I:=Jj (k:Int) 1 (by omega) (by omega);have S:((j:Nat):Int)-1=((j-1:Nat):Int):=by omega
   have W:((j:Nat):Int)+1=((j+1:Nat):Int):=by omega
   have R:((k:Nat):Int)+1=((k+1:Nat):Int):=by omega
   rw[S]at u;rw[W]at w;rw[R]at I;have i:(j:Int)<((n-a:Nat):Int):=by omega
   have q:IA l (a+(j+1))=RI (IA l (a+j)) (l.getD (a+j) 0):=dF l (a+j) (by omega);have b:(IA l (a+j)).getLast?=some (l.getD (a+(j-1)) 0):=by
    have:=HQ l (a+(j-1)) (by omega);rwa[show a+(j-1)+1=a+j by omega]at this
   rw[hp (a+j) (by omega)]at E;rw[hp (a+(j-1)) (by omega)]at G;by_cases r:l.getD (a+j) 0=l.getD (a+(j-1)) 0
   ·obtain⟨d,g,v,z⟩:=K (j+1) k c f (by omega) (by omega) (by omega) s (by rw[q,ht];unfold RI;rw[Aw (by rw[b,r])]) (by omega) (by omega) (fun p y=>hp p (by omega));refine⟨d,g,?_,z⟩;rw[IQ]
    ·exact v
    ·rw[hU];unfold Ce;simp only[JaR,AU,JA,i,decide_true,Bd,Bv,L,E,QE,u,H,G,Wl,r,bne_self_eq_false,BF,BC,Ll,w]
   ·have st:=G3 C k (by omega) (l.getD (a+j) 0);rw[Nb]at st;obtain⟨d,g,v,z⟩:=K (j+1) (k+1) (c.set k (l.getD (a+j) 0)) f (by omega) (by omega) (by omega) (by simpa using s)
     (by rw[q,Jbw _ _ _ (by omega),ht];unfold RI;rw[Am (by rw[b];intro e;exact r (Option.some.inj e).symm)]) (by omega) (by omega) (fun p y=>by rw[D3 _ _ _ _ (by omega)];exact hp p (by omega))
    refine⟨d,g,?_,z⟩;rw[IQ]
    ·exact v
    ·rw[hU];unfold Ce;have M:(l.getD (a+j) 0 !=l.getD (a+(j-1)) 0)=true:=bne_iff_ne.2 r;simp only[JaR,AU,JA,i,decide_true,Bd,Bv,L,E,QE,u,H,G,Wl,M,N,st,A7,Ll,w,I]
 refine key (n-a-1) 1 a l 1001 (by omega) (by omega) (by omega) Q ?_ (BQ _) (by omega) (fun p _=>rfl);have:=dF l a (by omega);rw[this,J];unfold RI;rw[Aw];have b:=HQ l (a-1) (by omega);rw[show a-1+1=a by omega,J]at b;rw[b,T]
def Jpk(id n:Nat)(t:AQ)(l:Ac Int)(H:Ae)(hid:H[id]? =some (.cells t 1 (BP l)))(E:l.length=n)(K:2<=n)(M:n<=1000):
  ∃(c:Ac Int),vJ Aa [.hs id n] H=some (.hs id (IA l n).length,H.set id (.cells t 1 (BP c)))/\c.take (IA l n).length=IA l n:=by
 rw[Jru,Juo];have key:∀(m k f:Nat),k+m=n->1<=k->m<f->IA l k=l.take k->(∃(c:Ac Int),DY (BK Aa (Jh Aa) Oy 1001 f370 0) f [.hs id n,Aq,iD k,.undef,.undef] H=
   some (.exit 0,[.hs id n,Aq,iD n,.undef,.undef],H)/\IA l n=l)\/
   (∃(c:Ac Int) (s0 C w v:D),DY (BK Aa (Jh Aa) Oy 1001 f370 0) f [.hs id n,Aq,iD k,.undef,.undef] H=
   some (.ret,[s0,.hs id (IA l n).length,C,w,v],H.set id (.cells t 1 (BP c)))/\c.take (IA l n).length=IA l n):=by
  intro m
  induction m with
  |zero=>
   intro k f P O S g;obtain⟨f,rfl⟩:∃x,f=x+1:=⟨f-1,by omega⟩;obtain rfl:k=n:=by omega
   refine .inl ⟨[],PP ?_,by grind⟩;rw[Q6];simp
  |succ m N=>
   intro k f P O S g;obtain⟨f,rfl⟩:∃x,f=x+1:=⟨f-1,by omega⟩;have B:=Vr id n k (by omega);have r:=Vr id n (k-1) (by omega);have F:=VA hid k (by omega);have G:=VA hid (k-1) (by omega);have i:=jB (k:Int) 1 (by omega) (by omega);have u:=Jj (k:Int) 1 (by omega) (by omega);have Q:((k:Nat):Int)-1=((k-1:Nat):Int):=by omega
   have V:((k:Nat):Int)+1=((k+1:Nat):Int):=by omega
   rw[Q]at i;rw[V]at u;have a:(k:Int)<(n:Int):=by omega
   by_cases s:l.getD k 0=l.getD (k-1) 0
   ·right;obtain⟨d,c,e,h,Y,X,W⟩:=JtP id n k t l H Aq ⟨_,hid⟩ E M (by omega) (by omega) g s;rw[kW hid]at e;have j:BZ Aa (Jh Aa) Oy 1001 f370 1 [.hs id n,Aq,iD k,.ht id k (n-k),iD 1] H=_:=e;have o:(IA l n).length=d:=by grind
    have T:(H.set id (.cells t 1 (BP c)))[id]? =some (.cells t 1 (BP c)):=Wp ⟨_,hid⟩;obtain⟨z,y⟩:=JcM T d (n-d) (by omega);rw[Nb]at y;have I:=Vn id n k (by omega) (by omega);have R:=Vn id n d (by omega) (by omega);have J:=Jgn id n d (by omega);refine⟨c.take d++z,.hs id n,iD d,.ht id k (n-k),iD ((n-k:Nat):Int),?_,?_⟩
    ·refine nH ?_;rw[Q6];simp only[WP,AU,JA,a,decide_true,Bd,Bv,B,F,QE,i,r,G,Nk,s,beq_self_eq_true,I,j,Kw,Kv,NM,NJ,R,y,A7,J,o]
    grind
   ·have U:IA l (k+1)=l.take (k+1):=by
     rw[dF l k (by omega),g,Ij (by omega)];have p:=HQ l (k-1) (by omega);rw[show k-1+1=k by omega,g]at p;unfold RI
     grind
    have q:BK Aa (Jh Aa) Oy 1001 f370 0 [.hs id n,Aq,iD k,.undef,.undef] H=some (.normal,[.hs id n,Aq,iD ((k+1:Nat):Int),.undef,.undef],H):=by
     rw[Q6];have L:(l.getD k 0==l.getD (k-1) 0)=false:=by grind
     simp only[WP,AU,JA,a,decide_true,Bd,Bv,B,F,QE,i,r,G,Nk,L,BF,BC,Ll,u]
    rw[IQ q];exact N (k+1) f (by omega) (by omega) (by omega) U
 have a:¬(n:Int)<2:=by omega
 rcases key (n-1) 1 1001 (by omega) (by omega) (by omega) (by
  rw[dF l 0 (by omega),JN,Ij (by omega),G7 _ _ _ (by omega:0<l.length)];simp[RI])with⟨c,e,h⟩|⟨c,s0,C,w,v,e,h⟩
 ·refine⟨l,?_,by grind⟩;have b:BZ Aa (Jh Aa) Oy 1001 f370 0 [.hs id n,Aq,iD 1,.undef,.undef] H=_:=e;simp only[WP,AU,JA,a,decide_false,Bd,BF,BC,b,Kw,Kv,NM,h,E,kW hid]
 ·refine⟨c,?_,h⟩;have b:BZ Aa (Jh Aa) Oy 1001 f370 0 [.hs id n,Aq,iD 1,.undef,.undef] H=_:=e;simp only[WP,AU,JA,a,decide_false,Bd,BF,BC,b,lP,NM,NJ]
def nZ(P:Aj):GT:=CO P (Jh P) mB 0 372
def Jta(ds:Ac D)(H:Ae):nZ Aa ds H=AB Aa (Jh Aa) mB 0 f372 ds H:=CJ func372 ds H
def JpI:BN Aa 372 (nZ Aa):=CQ vF AX func372
def gL(x a:Int)(b:Nat)(t:AQ)(H:Ae)(d:H[b]? =some (.cells t 1 [iD a])):nZ Aa [iD x,.hp b 0] H=some (bD (decide (x=a)),H):=by
 rw[Jta,Ju3];have c:=Gs H b _ _ _ _ d;simp only[c,AU,Nk];rfl
def SU(P:Aj):Ac Cj:=(273,true,Ak wH)::(348,false,Jgm P)::(370,false,vJ P)::(372,false,nZ P)::(328,true,DX Vt)::yE P
def JbA:∀p∈SU Aa,Ci Aa p:=AC (Bf JsV)<|AC (CB Jvl)<|AC (CB Jlg)<|AC (CB JpI)<|AC (Jy Jj9)<|CI
def Rf(P:Aj):Tab:=⟨SU P,BM,[]⟩
def Ww:Bg Aa (Rf Aa):=CU JbA
def JjQ:Ac Nat:=[]
def JvL(n:Nat)(b a:D)(h:Ae):AB Aa (Rf Aa) JjQ n f383 [b,a] h=
(Ah (Ak wH [b] h) fun k d=>
Az k
(Ah (Ak wH [a] d) fun j c=>
Ad (Gn j) fun g=>
Az g
(some ((bD true),c))
(Ad (Ag .int .lss b a) fun i=>
some (i,c)))
(Ad (Ag .int .lss b a) fun e=>
some (e,d))):=by kernel_rfl
def gZ:Ac Nat:=[0,1,4,7,8]
def JmM(n:Nat)(b c:D)(h:Ae):AB Aa (Rf Aa) gZ n f243 [b,c] h=
(Ad (Bq .sl b) fun g=>
Dy (BZ Aa (Rf Aa) gZ n f243 0 [b,c,(iD 0),g,(iD 0)] h) (fun e d a=>
CW e 0
(some ((iD (-1)),a))
(none)) (fun d a=>
some ((gD d 2),a))):=by kernel_rfl
def Wk(n:Nat)(s0 b d c a:D)(h:Ae):BK Aa (Rf Aa) gZ n f243 0 [s0,b,d,c,a] h=
(Ad (Ag .int .lss a c) fun g=>
Az g
(Ad (BG 1 s0 a) fun i=>
Ad (Ai none h i) fun k=>
Ah (C9 (Rf Aa) b [k] h) fun j e=>
Az j
(some (.ret,[s0,b,a,c,a],e))
(Ad (Ag .int .add a (iD 1)) fun l=>
some (.normal,[s0,b,d,c,l],e)))
(some ((.exit 0),[s0,b,d,c,a],h))):=by kernel_rfl
def qJ:Ac D->Af D:=F2 BV BV fun a b=>some (bD (decide (a<b)))
def JrF:Bz Aa 383 qJ:=GK (kp:=JjQ) Ww AX func383 fun a b d h=>by
 cases h
 refine⟨0,_,?_,AY.refl _⟩;show BB (AB _ _ _ _ _ [iD a,iD b] [])=_;rw[JvL];simp[Qbr]
def JeJ(a b:Int)(H:Ae):Ak qJ [iD a,iD b] H=some (bD (decide (a<b)),H):=by
 rw[CP _ _ _ rfl];have:qJ [iD a,iD b]=_:=JU (A:=BV) (B:=BV) _ a b;rw[this];rfl
def Jkf(P:Aj):GT:=CO P (Rf P) [] 0 376
def Jsc:BN Aa 376 (Jkf Aa):=CQ Ww AX func376
def Uj(b:Nat):D:= .clo (.func 372) [] [.hp b 0]
def JhE(x:Int)(b:Nat)(H:Ae):C9 (Rf Aa) (Uj b) [iD x] H=nZ Aa [iD x,.hp b 0] H:=rfl
def iK(P:Aj):GT:=CO P (Rf P) gZ 1001 243
def JvS(ds:Ac D)(H:Ae):iK Aa ds H=AB Aa (Rf Aa) gZ 1001 f243 ds H:=CJ func243 ds H
def Jnt:BN Aa 243 (iK Aa):=CQ Ww AX func243
def JuF(id n b:Nat)(t g:AQ)(c:Ac Int)(a:Int)(H:Ae)(hid:H[id]? =some (.cells t 1 (BP c)))(s:H[b]? =some (.cells g 1 [iD a]))(x:n<=c.length)(w:n<=1000):
  (iK Aa [.hs id n,Uj b] H=some (iD (-1),H)/\∀p,p<n->c.getD p 0≠a)\/
  ∃i,i<n/\iK Aa [.hs id n,Uj b] H=some (iD i,H)/\c.getD i 0=a/\∀p,p<i->c.getD p 0≠a:=by
 rw[JvS,JmM];have hs:=VO (P:=Aa) (T:=Rf Aa) (kp:=gZ) (fn:= f243) (li:=0) (fun i=>[.hs id n,Uj b,iD 0,iD n,iD i]) H n (fun i=> !decide (c.getD i 0=a))
  (fun i=>(.ret,[.hs id n,Uj b,iD i,iD n,iD i],H)) (.exit 0,[.hs id n,Uj b,iD 0,iD n,iD n],H)
  (fun i=>by intro e;cases e) (by intro e;cases e) 0 1001 (F9 _) (by omega)
  (fun i _ k hp=>by
   have u:=Jj (i:Int) 1 (by omega) (by omega);have h:(i:Int)<n:=by omega
   have j:=Vr id n i k;have o:=VA hid i (by omega);have q:=gL (c.getD i 0) a b g H s;rw[zU,decide_eq_false_iff_not]at hp;have m:decide (c.getD i 0=a)=false:=by rw[decide_eq_false_iff_not];exact hp
   rw[Wk];simp only[JA,h,decide_true,AU,Bd,Bv,j,o,JhE,q,A7,m,BF,BC,Ll,u];rfl)
  (fun i _ k hp=>by
   have h:(i:Int)<n:=by omega
   have j:=Vr id n i k;have o:=VA hid i (by omega);have q:=gL (c.getD i 0) a b g H s;rw[Ao,F5]at hp;have m:decide (c.getD i 0=a)=true:=by rw[F5];exact hp
   rw[Wk];simp only[JA,h,decide_true,AU,Bd,Bv,j,o,JhE,q,A7,m])
  (by rw[Wk];simp)
 rcases hs with⟨l,d⟩|⟨i,y,l,d,v,r⟩
 ·refine .inl ⟨?_,fun p hp=> ?_⟩
  ·simp only[Td]at d;simp only[WP,AU,d,Kw,Kv]
  ·have:=l p (F9 _) hp;simpa using this
 ·refine .inr ⟨i,l,?_,?_,fun p hp=> ?_⟩
  ·simp only[Td]at r;simp only[WP,AU,r,lP,NM,NJ]
  ·simpa using d
  ·have:=v p (F9 _) hp;simpa using this
def Q0(P:Aj):Ac Cj:=(383,true,Ak qJ)::(376,false,Jkf P)::(243,false,iK P)::SU P
def JiX:∀p∈Q0 Aa,Ci Aa p:=AC (Bf JrF)<|AC (CB Jsc)<|AC (CB Jnt)<|JbA
def J3(P:Aj):Tab:=⟨Q0 P,BM,[]⟩
def Jh0:Bg Aa (J3 Aa):=CU JiX
def TZ:Ac Nat:=[0,1,2,6,7]
def Jov(n:Nat)(d b c:D)(h:Ae):AB Aa (J3 Aa) TZ n f377 [d,b,c] h=
(Ad (Ag .int .add b (iD 1)) fun i=>
Dy (BZ Aa (J3 Aa) TZ n f377 0 [d,b,c,i,.undef] h) (fun e g a=>
CW e 0
(some (.tup [],a))
(none)) (fun g a=>
some (.tup [],a))):=by kernel_rfl
def JdY(n:Nat)(s0 d a c g:D)(h:Ae):BK Aa (J3 Aa) TZ n f377 0 [s0,d,a,c,g] h=
(Ad (Ag .int .lss c a) fun k=>
Az k
(Dy (BZ Aa (J3 Aa) TZ n f377 1 [s0,d,a,c,c] h) (fun e a b=>
CW e 2
(Ad (Ag .int .add (gD a 3) (iD 1)) fun i=>
some (.normal,[(gD a 0),(gD a 1),(gD a 2),i,(gD a 4)],b))
(CW e 1
(Ad (Ag .int .add (gD a 3) (iD 1)) fun j=>
some (.normal,[(gD a 0),(gD a 1),(gD a 2),j,(gD a 4)],b))
(some ((.exit e),[(gD a 0),(gD a 1),(gD a 2),(gD a 3),(gD a 4)],b)))) (fun a b=>
some (.ret,[(gD a 0),(gD a 1),(gD a 2),(gD a 3),(gD a 4)],b)))
(some ((.exit 0),[s0,d,a,c,g],h))):=by kernel_rfl
def oT(n:Nat)(s0 b c e a:D)(h:Ae):BK Aa (J3 Aa) TZ n f377 1 [s0,b,c,e,a] h=
(Ad (Ag .int .gtr a b) fun u=>
Az u
(Ce 1 none h s0 a fun w=>
Ad (Ag .int .sub a (iD 1)) fun q=>
Ce 1 none h s0 q fun r=>
Ah (Ak qJ [w,r] h) fun p d=>
Az p
(Ad (Ag .int .sub a (iD 1)) fun x=>
Ad (Ag .int .sub a (iD 1)) fun t=>
Ce 1 none d s0 t fun o=>
Ce 1 none d s0 a fun g=>
Ad (BG 1 s0 a) fun m=>
Ah (Bh 1 m o d) fun v k=>
Ad (BG 1 s0 x) fun l=>
Ah (Bh 1 l g k) fun s i=>
Ad (Ag .int .sub a (iD 1)) fun j=>
some (.normal,[s0,b,c,e,j],i))
(some ((.exit 2),[s0,b,c,e,a],d)))
(some ((.exit 2),[s0,b,c,e,a],h))):=by kernel_rfl
def bU:Ac Nat:=[0,1,5,6]
def JmC(n:Nat)(b g:D)(h:Ae):AB Aa (J3 Aa) bU n f371 [b,g] h=
(Ah ((iK Aa) [b,g] h) fun d i=>
Ad (Ag .int .eql d (iD (-1))) fun o=>
Az o
(some (b,i))
(Ad (Ag .int .add d (iD 1)) fun m=>
Dy (BZ Aa (J3 Aa) bU n f371 0 [b,g,d,m] i) (fun j a e=>
CW j 0
(Ad (IJ 1 (gD a 0) (some (gD a 2)) none) fun l=>
Ah (WO 1 [(iD 0)] l e) fun p k=>
Ad (IJ 1 (gD a 0) none (some (gD a 2))) fun c=>
some (c,k))
(none)) (fun a e=>
some (.undef,e)))):=by kernel_rfl
def TH(n:Nat)(s0 b c a:D)(h:Ae):BK Aa (J3 Aa) bU n f371 0 [s0,b,c,a] h=
(Ad (Bq .sl s0) fun o=>
Ad (Ag .int .lss a o) fun p=>
Az p
(Ad (BG 1 s0 a) fun r=>
Ad (Ai none h r) fun i=>
Ah (C9 (J3 Aa) b [i] h) fun q j=>
Ad (Gn q) fun k=>
Az k
(Ad (BG 1 s0 c) fun m=>
Ah (Bh 1 m i j) fun s l=>
Ad (Ag .int .add c (iD 1)) fun d=>
Ad (Ag .int .add a (iD 1)) fun g=>
some (.normal,[s0,b,d,g],l))
(Ad (Ag .int .add a (iD 1)) fun e=>
some (.normal,[s0,b,c,e],j)))
(some ((.exit 0),[s0,b,c,a],h))):=by kernel_rfl
def Y3(P:Aj):GT:=CO P (J3 P) TZ 1001 377
def Qdi(ds:Ac D)(H:Ae):Y3 Aa ds H=AB Aa (J3 Aa) TZ 1001 f377 ds H:=CJ func377 ds H
def Jx5:BN Aa 377 (Y3 Aa):=CQ Jh0 AX func377
def Jy3(id n i:Nat)(t:AQ)(b:Ae)(hid:∃o,b[id]? =some o)(I:i<n)(H:n<=1000):∀(j:Nat) (l:Ac Int) (f:Nat),j<f->j<=i->l.length=n->rU l i j->
  ∃(a:Ac Int) (q:Nat),DY (BK Aa (J3 Aa) TZ 1001 f377 1) f [.hs id n,iD 0,iD n,iD i,iD j] (b.set id (.cells t 1 (BP l)))=
   some (.exit 2,[.hs id n,iD 0,iD n,iD i,iD q],b.set id (.cells t 1 (BP a)))/\a.length=n/\WL a (i+1)/\∀x,x∈a↔x∈l:=by
 intro j
 induction j with
 |zero=>
  intro l f F c e g;obtain⟨f,rfl⟩:∃x,f=x+1:=⟨f-1,by omega⟩;refine⟨l,0,PP ?_,e,JcS g (by omega) (.inl rfl),fun x=>Iff.rfl⟩;rw[oT];unfold Ce;simp
 |succ j B=>
  intro l f F c e g;obtain⟨f,rfl⟩:∃x,f=x+1:=⟨f-1,by omega⟩;have p:(b.set id (.cells t 1 (BP l)))[id]? =some (.cells t 1 (BP l)):=Wp hid;have s:=Vr id n (j+1) (by omega);have v:=Vr id n j (by omega);have w:=VA p (j+1) (by omega);have y:=VA p j (by omega);have k:=jB ((j+1:Nat):Int) 1 (by omega) (by omega);have C:((j+1:Nat):Int)-1=((j:Nat):Int):=by omega
  rw[C]at k;have d:(0:Int)<((j+1:Nat):Int):=by omega
  by_cases m:l.getD (j+1) 0<l.getD j 0
  ·have r:=G3 p (j+1) (by omega) (l.getD j 0);rw[Nb]at r;have h:(b.set id (.cells t 1 (BP (l.set (j+1) (l.getD j 0)))))[id]? =some (.cells t 1 (BP (l.set (j+1) (l.getD j 0)))):=Wp hid;have u:=G3 h j (by simp;omega) (l.getD (j+1) 0);rw[Nb]at u;obtain⟨a,q,D,G,E,z⟩:=B (Zq l j) f (by omega) (by omega) (by rw[JiK];exact e) (Jwp (by omega) (by omega) g m);refine⟨a,q,?_,G,E,fun x=>(z x).trans (QbA l j (by omega) x)⟩;rw[IQ]
   ·exact D
   ·rw[oT];unfold Ce;simp only[tZ,d,decide_true,AU,Bd,Bv,s,w,QE,k,v,y,JeJ,A7,m,r,u];rfl
  ·refine⟨l,j+1,PP ?_,e,JcS g c (.inr (by grind)),fun x=>Iff.rfl⟩;rw[oT];unfold Ce;simp only[tZ,d,decide_true,AU,Bd,Bv,s,w,QE,k,v,y,JeJ,A7,m,decide_false,BF,BC]
def Jpf(id n:Nat)(t:AQ)(l:Ac Int)(H:Ae)(hid:H[id]? =some (.cells t 1 (BP l)))(z:l.length=n)(d:1<=n)(v:n<=1000):
  ∃s:Ac Int,Y3 Aa [.hs id n,iD 0,iD n] H=some (.tup [],H.set id (.cells t 1 (BP s)))/\s.length=n/\WL s n/\∀x,x∈s↔x∈l:=by
 rw[Qdi,Jov];have key:∀(m i:Nat) (s:Ac Int) (u:D) (f:Nat),i+m=n->1<=i->m<f->s.length=n->WL s i->(∀x,x∈s↔x∈l)->
   ∃(s':Ac Int) (a:D),DY (BK Aa (J3 Aa) TZ 1001 f377 0) f [.hs id n,iD 0,iD n,iD i,u] (H.set id (.cells t 1 (BP s)))=
   some (.exit 0,[.hs id n,iD 0,iD n,iD n,a],H.set id (.cells t 1 (BP s')))/\s'.length=n/\WL s' n/\∀x,x∈s'↔x∈l:=by
  intro m
  induction m with
  |zero=>
   intro i s u f y d I hs e j;obtain⟨f,rfl⟩:∃x,f=x+1:=⟨f-1,by omega⟩;obtain rfl:i=n:=by omega
   refine⟨s,u,PP ?_,hs,e,j⟩;rw[JdY];simp
  |succ m w=>
   intro i s u f y d I hs e j;obtain⟨f,rfl⟩:∃x,f=x+1:=⟨f-1,by omega⟩;have k:=Jj (i:Int) 1 (by omega) (by omega);have B:((i:Nat):Int)+1=((i+1:Nat):Int):=by omega
   rw[B]at k;have c:(i:Int)<(n:Int):=by omega
   obtain⟨o,K,E,L,G,r⟩:=Jy3 id n i t H ⟨_,hid⟩ (by omega) v i s 1001 (by omega) (BQ _) hs (Js2 e);have h:BZ Aa (J3 Aa) TZ 1001 f377 1 [.hs id n,iD 0,iD n,iD i,iD i] (H.set id (.cells t 1 (BP s)))=_:=E;obtain⟨s',a,b,g⟩:=w (i+1) o (iD K) f (by omega) (by omega) (by omega) L G (fun x=>(r x).trans (j x));refine⟨s',a,?_,g⟩;rw[IQ]
   ·exact b
   ·rw[JdY];simp only[JA,c,decide_true,AU,Bd,Bv,h,Kw,Kv,NM,NJ,Ll,k]
 have M:=Jj (0:Int) 1 (by omega) (by omega);obtain⟨s',a,b,g,J,F⟩:=key (n-1) 1 l .undef 1001 (by omega) (BQ _) (by omega) z (fun p q d N=>by omega) (fun x=>Iff.rfl);rw[kW hid]at b;have C:BZ Aa (J3 Aa) TZ 1001 f377 0 [.hs id n,iD 0,iD n,iD 1,.undef] H=_:=b;refine⟨s',?_,g,J,F⟩;simp_all
def iL(P:Aj):GT:=CO P (J3 P) bU 1001 371
def Jsu(ds:Ac D)(H:Ae):iL Aa ds H=AB Aa (J3 Aa) bU 1001 f371 ds H:=CJ func371 ds H
def Qbh:BN Aa 371 (iL Aa):=CQ Jh0 AX func371
def zE(x:Int)(b:Nat)(H:Ae):C9 (J3 Aa) (Uj b) [iD x] H=nZ Aa [iD x,.hp b 0] H:=rfl
def sY(l:Ac Int)(k:Nat)(p:Int->Bool)(h:k<l.length):(l.take (k+1)).filter p=if p (l.getD k 0)=true then(l.take k).filter p++[l.getD k 0]else(l.take k).filter p:=by
 rw[Ij h,Jk1,G7 _ _ _ h]
 grind
def Qal(id n b:Nat)(t F:AQ)(c:Ac Int)(a:Int)(H:Ae)(hid:H[id]? =some (.cells t 1 (BP c)))(hb:H[b]? =some (.cells F 1 [iD a]))(aa:b≠id)(hn:n<=c.length)(K:n<=1000):
  ∃T:Ac Int,iL Aa [.hs id n,Uj b] H=some (.hs id ((c.take n).filter fun x=>decide (x≠a)).length,H.set id (.cells t 1 (BP T)))/\T.take ((c.take n).filter fun x=>decide (x≠a)).length=(c.take n).filter fun x=>decide (x≠a):=by
 rw[Jsu,JmC];rcases JuF id n b t F c a H hid hb hn K with⟨I,M⟩|⟨i,q0,I,M,q3⟩
 ·have Q:((c.take n).filter fun x=>decide (x≠a))=c.take n:=by
   rw[List.filter_eq_self];intro x q;obtain⟨p,hp,e⟩:=(C7 _ _).1 q;have u:p<n:=by simp at hp;omega
   have:=M p u;have w:(c.take n).getD p 0=c.getD p 0:=by grind
   rw[<-e,w];simpa using this
  refine⟨c,?_,?_⟩
  ·rw[Q,kW hid,I];simp_all
  grind
 ·have l:((c.take (i+1)).filter fun x=>decide (x≠a))=c.take i:=by
   rw[sY _ _ _ (by omega),M];simp only[ne_eq,not_true_eq_false,decide_false,BF,BC];rw[List.filter_eq_self];intro x q;obtain⟨p,hp,e⟩:=(C7 _ _).1 q;have u:p<i:=by simp at hp;omega
   have:=q3 p u;have w:(c.take i).getD p 0=c.getD p 0:=by grind
   rw[<-e,w];simpa using this
  have key:∀(m j k:Nat) (x:Ac Int) (f:Nat),j+m=n->i+1<=j->m<f->k<j->x.length=c.length->x.take k=((c.take j).filter fun x=>decide (x≠a))->(∀p,j<=p->x.getD p 0=c.getD p 0)->
    ∃(d:Nat) (g:Ac Int),DY (BK Aa (J3 Aa) bU 1001 f371 0) f [.hs id n,Uj b,iD k,iD j] (H.set id (.cells t 1 (BP x)))=
     some (.exit 0,[.hs id n,Uj b,iD d,iD n],H.set id (.cells t 1 (BP g)))/\d<n/\g.length=c.length/\g.take d=((c.take n).filter fun x=>decide (x≠a)):=by
   intro m
   induction m with
   |zero=>
    intro j k x f hj hi Q W q ht hp;obtain⟨f,rfl⟩:∃z,f=z+1:=⟨f-1,by omega⟩;obtain rfl:j=n:=by omega
    refine⟨k,x,PP ?_,W,q,ht⟩;rw[TH];simp
   |succ m U=>
    intro j k x f hj hi Q W q ht hp;obtain⟨f,rfl⟩:∃z,f=z+1:=⟨f-1,by omega⟩;have E:(H.set id (.cells t 1 (BP x)))[id]? =some (.cells t 1 (BP x)):=Wp ⟨_,hid⟩;have S:(H.set id (.cells t 1 (BP x)))[b]? =some (.cells F 1 [iD a]):=by grind
    have V:=Vr id n j (by omega);have Z:=Vr id n k (by omega);have R:=VA E j (by omega);rw[hp j (BQ _)]at R;have Y:=gL (c.getD j 0) a b F _ S;have s:=Jj (j:Int) 1 (by omega) (by omega);have w:=Jj (k:Int) 1 (by omega) (by omega);have P:((j:Nat):Int)+1=((j+1:Nat):Int):=by omega
    have c2:((k:Nat):Int)+1=((k+1:Nat):Int):=by omega
    rw[P]at s;rw[c2]at w;have B:(j:Int)<(n:Int):=by omega
    have o:=sY c j (fun x=>decide (x≠a)) (by omega);by_cases G:c.getD j 0=a
    ·have L:decide (c.getD j 0=a)=true:=CZ G;have v:¬(decide (c.getD j 0≠a)=true):=fun h=>(L8 h) G;rw[Am v]at o;obtain⟨d,g,y,J⟩:=U (j+1) k x f (by omega) (by omega) (by omega) (by omega) q (by rw[o];exact ht) (fun p h=>hp p (by omega));refine⟨d,g,?_,J⟩;rw[IQ]
     ·exact y
     ·rw[TH];simp only[WP,AU,JA,B,decide_true,Bd,Bv,V,R,zE,Y,A7,nI,L,MX,BF,BC,Ll,s]
    ·have L:decide (c.getD j 0=a)=false:=Dc G;have v:decide (c.getD j 0≠a)=true:=CZ G;rw[Aw v]at o;have st:=G3 E k (by omega) (c.getD j 0);rw[Nb]at st;obtain⟨d,g,y,J⟩:=U (j+1) (k+1) (x.set k (c.getD j 0)) f (by omega) (by omega) (by omega) (by omega) (by simpa using q) (by rw[o,Jbw _ _ _ (by omega),ht]) (fun p h=>by rw[D3 _ _ _ _ (by omega)];exact hp p (by omega));refine⟨d,g,?_,J⟩;rw[IQ]
     ·exact y
     ·rw[TH];simp only[WP,AU,JA,B,decide_true,Bd,Bv,V,R,zE,Y,A7,nI,L,zT,Z,st,Ll,s,w]
  obtain⟨d,g,y,J,z3,X⟩:=key (n-(i+1)) (i+1) i c 1001 (by omega) (BQ _) (by omega) (by omega) rfl l.symm (fun p _=>rfl);rw[kW hid]at y;have D:BZ Aa (J3 Aa) bU 1001 f371 0 [.hs id n,Uj b,iD i,iD ((i+1:Nat):Int)] H=_:=y;have s:=Jj (i:Int) 1 (by omega) (by omega);have P:((i:Nat):Int)+1=((i+1:Nat):Int):=by omega
  rw[P]at s;have N:((c.take n).filter fun x=>decide (x≠a)).length=d:=by rw[<-X,eG];omega
  have r:((i:Int)== -1)=false:=by rfl
  have E:(H.set id (.cells t 1 (BP g)))[id]? =some (.cells t 1 (BP g)):=Wp ⟨_,hid⟩;have f3:=Jgn id n d (by omega);rw[N];by_cases h0:d=0
  ·subst h0;obtain⟨z,C⟩:=QdW E n (by omega);rw[Nb]at C;have O:=JlO id n;refine⟨z,?_,by rw[<-X];simp⟩;simp only[I,A7,Nk,AU,r,Bd,BF,BC,Ll,s,D,Kw,Kv,NM,NJ,Td,O,C];rfl
  ·obtain⟨z,C⟩:=JcM E d (n-d) (by omega);rw[Nb]at C;have O:=Vn id n d (by omega) (by omega);refine⟨g.take d++z,?_,by grind⟩;simp only[I,A7,Nk,AU,r,Bd,BF,BC,Ll,s,D,Kw,Kv,NM,NJ,O,C,f3]
def SW(P:Aj):Ac Cj:=(377,false,Y3 P)::(371,false,iL P)::Q0 P
def Ji1:∀p∈SW Aa,Ci Aa p:=AC (CB Jx5)<|AC (CB Qbh)<|JiX
def UV(P:Aj):Tab:=⟨SW P,BM,[]⟩
def Jk5:Bg Aa (UV Aa):=CU Ji1
def Yq:Ac Nat:=[0,1,2,3,8,9]
def iM(P:Aj):GT:=CO P (UV P) Yq 2 375
def Qcq:BN Aa 375 (iM Aa):=CQ Jk5 AX func375
def JoM(ds:Ac D)(H:Ae):iM Aa ds H=AB Aa (UV Aa) Yq 2 f375 ds H:=CJ func375 ds H
def Jub(n:Nat)(e c b d:D)(h:Ae):AB Aa (UV Aa) Yq n f375 [e,c,b,d] h=
(Dy (BZ Aa (UV Aa) Yq n f375 0 [e,c,b,d,(bD true),(bD true)] h) (fun i g a=>
CW i 0
(some (.tup [],a))
(none)) (fun g a=>
some (.tup [],a))):=by kernel_rfl
def Jt8(n id:Nat)(h:Ae):BK Aa (UV Aa) Yq n f375 0 [.hs id 2,iD 0,iD 2,iD 2,bD true,bD true] h=
 Ah (Y3 Aa [.hs id 2,iD 0,iD 2] h) fun _ a=>some (.ret,[.hs id 2,iD 0,iD 2,iD 2,bD true,bD true],a):=by kernel_rfl
def QbW(n id:Nat)(h:Ae):BK Aa (UV Aa) Yq n f375 0 [.hs id 5,iD 0,iD 5,iD 3,bD true,bD true] h=
 Ah (Y3 Aa [.hs id 5,iD 0,iD 5] h) fun _ a=>some (.ret,[.hs id 5,iD 0,iD 5,iD 3,bD true,bD true],a):=by kernel_rfl
def JcT{b c d a:D}{H H':Ae}{s:Ac D}(h:BK Aa (UV Aa) Yq 2 f375 0 [b,c,d,a,bD true,bD true] H=some (.ret,s,H')):iM Aa [b,c,d,a] H=some (.tup [],H'):=by
 rw[JoM,Jub];have q:BZ Aa (UV Aa) Yq 2 f375 0 [b,c,d,a,bD true,bD true] H=some (.ret,s,H'):=nH h;rw[q,lP]
def RK(P:Aj):Ac Cj:=(375,false,iM P)::SW P
def Jc8:∀p∈RK Aa,Ci Aa p:=AC (CB Qcq)<|Ji1
def Je6(P:Aj):Tab:=⟨RK P,BM,[]⟩
def Qee:Bg Aa (Je6 Aa):=CU Jc8
def nX(P:Aj):GT:=CO P (Je6 P) [] 0 369
def Qbd:BN Aa 369 (nX Aa):=CQ Qee AX func369
def Jnm(id:Nat)(H:Ae):nX Aa [.hs id 2] H=Ah (iM Aa [.hs id 2,iD 0,iD 2,iD 2] H) fun _ h=>some (.tup [],h):=by kernel_rfl
def Jv0(id:Nat)(H:Ae):nX Aa [.hs id 5] H=Ah (iM Aa [.hs id 5,iD 0,iD 5,iD 3] H) fun _ h=>some (.tup [],h):=by kernel_rfl
def Qbz(id n:Nat)(f:n=2\/n=5)(t:AQ)(l:Ac Int)(H:Ae)(hid:H[id]? =some (.cells t 1 (BP l)))(h:l.length=n):
  ∃s:Ac Int,nX Aa [.hs id n] H=some (.tup [],H.set id (.cells t 1 (BP s)))/\s.length=n/\WL s n/\∀x,x∈s↔x∈l:=by
 obtain⟨s,c,g,d,e⟩:=Jpf id n t l H hid h (by omega) (by omega);refine⟨s,?_,g,d,e⟩;rcases f with rfl|rfl
 ·have b:Y3 Aa [.hs id 2,iD 0,iD 2] H=_:=c;have a:=Jt8 2 id H;rw[b,A7]at a;have:=Jnm id H;rw[this,JcT a];rfl
 ·have b:Y3 Aa [.hs id 5,iD 0,iD 5] H=_:=c;have a:=QbW 2 id H;rw[b,A7]at a;have:=Jv0 id H;rw[this,JcT a];rfl
def M1(P:Aj):Ac Cj:=(369,false,nX P)::RK P
def Jiu:∀p∈M1 Aa,Ci Aa p:=AC (CB Qbd)<|Jc8
def mW(P:Aj):Tab:=⟨M1 P,BM,[]⟩
def Jew:Bg Aa (mW Aa):=CU Jiu
def Sx:Ac Nat:=[]
def Jw5(n:Nat)(b a:D)(h:Ae):AB Aa (mW Aa) Sx n f356 [b,a] h=
(Ah (BA 3 b h) fun j i=>
Ah ((nX Aa) [a] i) fun l e=>
Ah ((vJ Aa) [a] e) fun d k=>
Ah ((iL Aa) [d,(.clo (.func 372) [] [j])] k) fun c g=>
some (c,g)):=by kernel_rfl
def Jp0:Ac Nat:=[]
def cW{t:AQ}{sz:Nat}{H:Ae}{B:Nat}{d:D}{n:Nat}{cs new:Ac D}(h:Buf t sz H B d n cs)(b:0<sz)(l:new.length=sz)(g:new.all Df=true)(s:cs.length+new.length<=4000000)(j:B<=H.length):
  ∃a H',D5 t sz d (.hs H.length 1) (H++[.cells t sz new])=some (a,H')/\Buf t sz H' B a (n+1) (cs++new)/\Kp B H H'/\H.length<=H'.length/\(∀k,k<H.length->(∀q,d≠ .hs k q)->H'[k]? =H[k]?)/\(∀k q,k<H.length->d≠ .hs k q->(∀q,d≠ .hs k q)->a≠ .hs k q):=by
 obtain⟨a,H',p,r,i,o,u⟩:=nN (m:=1) (h.app [.cells t sz new]) b (by rw[l];omega) g s (by simp;omega);refine⟨a,H',?_,r,(Kp.app B H _ j).trans i,?_,fun k c f=> ?_,fun k q c _ f=> ?_⟩
 ·unfold D5;have:GV sz (H++[.cells t sz new]) (.hs H.length 1)=some new:=by
   simp only[GV,rN];rw[Aw ⟨trivial,by omega⟩,Q4 (by omega)]
  rw[this];exact p
 ·have:=i.1;simp at this;omega
 ·rw[o k (by simp;omega) f,Ii c]
 ·rcases u with rfl|⟨v,rfl⟩
  ·exact f q
  ·intro e;cases e;simp at c;omega
def Qfo(t:AQ)(x:Int)(H:Ae):DI t 1 1 [iD 0] [(0,iD x)] H=some (.hs H.length 1,H++[.cells t 1 [iD x]]):=rfl
def J8(B:Nat)(H:Ae)(d:D)(a:Ac Int):Prop:=
 d=AL a\/∃(id:Nat) (t:AQ) (c:Ac Int),B<=id/\d= .hs id a.length/\H[id]? =some (.cells t 1 (BP c))/\c.take a.length=a
def J8.len{B:Nat}{H:Ae}{d:D}{a:Ac Int}(h:J8 B H d a):Bq .sl d=some (iD a.length):=by
 rcases h with rfl|⟨id,t,c,f,rfl,e,b⟩
 ·exact Hs a
 ·rfl
def J8.get{B:Nat}{H:Ae}{d:D}{a:Ac Int}(h:J8 B H d a)(i:Nat)(b:i<a.length):∃p,BG 1 d (iD i)=some p/\Ai none H p=some (iD (a.getD i 0)):=by
 rcases h with rfl|⟨id,t,c,j,rfl,f,e⟩
 ·refine⟨_,GY a i b,?_⟩;rw[G7 _ _ _ b];rfl
 ·have g:a.length<=c.length:=by
   have:=congrArg List.length e;simp at this;omega
  refine⟨_,Vr id _ i b,?_⟩;rw[VA f i (by omega)];have:a.getD i 0=(c.take a.length).getD i 0:=by rw[e]
  rw[this,Ed,Ed,Xw b]
def J8.keep{B:Nat}{H H':Ae}{d:D}{b:Ac Int}(h:J8 B H d b)(k:∀r,B<=r->r<H.length->H'[r]? =H[r]?):J8 B H' d b:=by
 rcases h with h|⟨id,t,c,e,g,a,f⟩
 ·exact .inl h
 ·exact .inr ⟨id,t,c,e,g,(k id e (CV.1 a).1).trans a,f⟩
def J8.mono{B C:Nat}{H:Ae}{d:D}{a:Ac Int}(h:J8 B H d a)(e:C<=B):J8 C H d a:=by
 rcases h with h|⟨id,t,c,f,b⟩
 ·exact .inl h
 ·exact .inr ⟨id,t,c,by omega,b⟩
def J8.keep2{B:Nat}{H H':Ae}{d:D}{b:Ac Int}(h:J8 B H d b)(k:∀r m,d= .hs r m->B<=r->r<H.length->H'[r]? =H[r]?):J8 B H' d b:=by
 rcases h with h|⟨id,t,c,f,e,a,g⟩
 ·exact .inl h
 ·exact .inr ⟨id,t,c,f,e,(k id _ e f (CV.1 a).1).trans a,g⟩
def J8.lt{B:Nat}{H:Ae}{k m:Nat}{b:Ac Int}(h:J8 B H (.hs k m) b):B<=k/\k<H.length:=by
 rcases h with h|⟨id,t,c,e,d,a,f⟩
 ·cases h
 ·cases d
  exact⟨e,(CV.1 a).1⟩
def Qdv(a:Ac Int)(i:Nat)(b:i<a.length)(op:Int):(a.take (i+1)).map (fun n=>(op,n))=(a.take i).map (fun n=>(op,n))++[(op,a.getD i 0)]:=by
 rw[Ij b,JE,G7 _ _ _ b];rfl
def YK(b:Int)(j:Nat)(a:Int):Ac Int:=((List.range j).map fun i:Nat=>b+(i:Int)).filter fun n=>decide (n≠a)
def JjN(b:Int)(j:Nat)(a:Int):YK b (j+1) a=if b+(j:Int)=a then YK b j a else YK b j a++[b+(j:Int)]:=by
 unfold YK;rw[pP,JE,Jk1]
 grind
def Jbf(b:Int)(j:Nat)(a:Int):(YK b j a).length<=j:=by
 unfold YK
 grind
def vN:Ac D->Af D:=F3 BV BV BV fun c b a=>if 0<=c/\b<=100 then some (AL (JL c b a))else none
def QdM:Bz Aa 355 vN:=V4 (kp:=qU) vF AX func355 fun b c a d h=>by
 split at h
 case isFalse=>cases h
 rename_i E;cases h;have key:=Hc (P:=Aa) (T:=Jh Aa) (kp:=qU) (fn:= f355) (li:=0)
  (fun j s H=>∃d,s=[iD c,iD a,d,iD (b+(j:Int))]/\Buf 3 1 H 0 d (YK b j a).length (BP (YK b j a)))
  (fun r=>∃s H d,r=(.exit 0,s,H)/\s.getD 2 .undef=d/\Buf 3 1 H 0 d (JL b c a).length (BP (JL b c a))) (c-b+1).toNat 102
  (fun j s H B m=>by
   obtain⟨d,rfl,k⟩:=m;have g:b+(j:Int)<=c:=by omega
   have o:=Jj (b+(j:Int)) 1 (by omega) (by omega);have u:b+(j:Int)+1=b+((j+1:Nat):Int):=by omega
   rw[u]at o;have C:=Jbf b j a;rw[JbR];by_cases n:b+(j:Int)=a
   ·refine⟨[iD c,iD a,d,iD (b+((j+1:Nat):Int))],H,?_,d,rfl,?_⟩
    ·simp_all
    ·rw[JjN,Aw n];exact k
   ·obtain⟨i,H',z,w,D⟩:=cW (new:=[iD (b+(j:Int))]) k (by omega) rfl rfl (by rw[TK];simp;omega) (F9 _);refine⟨[iD c,iD a,i,iD (b+((j+1:Nat):Int))],H',?_,i,rfl,?_⟩
    ·have l:(b+(j:Int) !=a)=true:=bne_iff_ne.2 n;simp only[xN,g,decide_true,AU,Bd,Bv,Wl,l,Qfo,A7,z,Ll,o]
    ·rw[JjN,Am n,JgJ,DC];exact w)
  (fun s H m=>by
   obtain⟨d,rfl,k⟩:=m;rw[JbR];have g:¬(b+(((c-b+1).toNat:Nat):Int)<=c):=by omega
   refine⟨(.exit 0,[iD c,iD a,d,iD (b+(((c-b+1).toNat:Nat):Int))],H),?_,(by intro e;cases e),_,_,d,rfl,rfl,k⟩;simp only[xN,g,decide_false,AU,Bd,BF,BC])
  (by omega) (s:=[iD c,iD a,Aq,iD b]) (H:=[]) ⟨_,by simp,Buf.nil _ _ _ _⟩
 obtain⟨r,x,s,H,d,rfl,p,q⟩:=key;obtain⟨i,v,y⟩:=q.ints 8;refine⟨102,i,?_,Ua y⟩;show BB (AB _ _ _ _ _ [iD b,iD c,iD a] [])=_;rw[Jle,x];simp only[Kw,Kv,p];exact v
def Jxt(c b a:Int)(h:0<=c/\b<=100)(H:Ae):Ak vN [iD c,iD b,iD a] H=some (AL (JL c b a),H):=by
 rw[CP _ _ _ rfl];have:vN [iD c,iD b,iD a]=_:=V6 (A:=BV) (B:=BV) (C:=BV) _ c b a
 grind
def Zo(P:Aj):GT:=CO P (mW P) Sx 0 356
def Qen(ds:Ac D)(H:Ae):Zo Aa ds H=AB Aa (mW Aa) Sx 0 f356 ds H:=CJ func356 ds H
def JsD:BN Aa 356 (Zo Aa):=CQ Jew AX func356
def JoW(id n:Nat)(C:n=2\/n=5)(a:Int)(t:AQ)(l:Ac Int)(H:Ae)(hid:H[id]? =some (.cells t 1 (BP l)))(E:l.length=n):
  ∃H',Zo Aa [iD a,.hs id n] H=some (.hs id (Nr a l).length,H')/\H'.length=H.length+1/\(∃c:Ac Int,H'[id]? =some (.cells t 1 (BP c))/\c.take (Nr a l).length=Nr a l)/\∀k,k<H.length->k≠id->H'[k]? =H[k]? :=by
 have A:id<H.length:=(CV.1 hid).1;have b:(H++[HO.cells 3 1 [iD a]])[id]? =some (.cells t 1 (BP l)):=by grind
 have z:(H++[HO.cells 3 1 [iD a]])[H.length]? =some (.cells 3 1 [iD a]):=by simp
 have e:(H++[HO.cells 3 1 [iD a]]).length=H.length+1:=by simp
 have D:∀k,k<H.length->(H++[HO.cells 3 1 [iD a]])[k]? =H[k]? :=fun k y=>Ii y;have j:BA 3 (iD a) H=some (.hp H.length 0,H++[HO.cells 3 1 [iD a]]):=rfl;generalize H++[HO.cells 3 1 [iD a]]=g at*;obtain⟨s,J,m,G,F⟩:=Qbz id n C t l g b E;have h:(g.set id (.cells t 1 (BP s)))[id]? =some (.cells t 1 (BP s)):=Wp ⟨_,b⟩;obtain⟨c,r,u⟩:=Jpk id n t s _ h m (by omega) (by omega);rw[Nb]at r;have d:IA s n=JF l:=by
  have:=JvR l s (by rw[m];exact G) F;rwa[m]at this
 rw[d]at r u;have p:(JF l).length<=c.length:=by grind
 have I:(JF l).length<=n:=by rw[<-d];exact JfN s n (by omega)
 have i:(g.set id (.cells t 1 (BP c)))[id]? =some (.cells t 1 (BP c)):=Wp ⟨_,b⟩;have q:(g.set id (.cells t 1 (BP c)))[H.length]? =some (.cells 3 1 [iD a]):=by grind
 obtain⟨w,x,v⟩:=Qal id (JF l).length H.length t 3 c a _ i q (by omega) p (by omega);rw[Nb,u]at x;rw[u]at v;refine⟨g.set id (.cells t 1 (BP w)),?_,by simpa using e,⟨w,Wp ⟨_,b⟩,v⟩,fun k y B=>by grind⟩;rw[Qen,Jw5];have o:iL Aa [.hs id (JF l).length,.clo (.func 372) [] [.hp H.length 0]] (g.set id (.cells t 1 (BP c)))=_:=x;simp only[j,A7,J,r,o];rfl
def Hh(P:Aj):GT:=CO P (mW P) Jp0 0 329
def JyA:BN Aa 329 (Hh Aa):=CQ Jew AX func329
def W4(P:Aj):Ac Cj:=(355,true,Ak vN)::(356,false,Zo P)::(329,false,Hh P)::M1 P
def Jfn:∀p∈W4 Aa,Ci Aa p:=AC (Bf QdM)<|AC (CB JsD)<|AC (CB JyA)<|Jiu
def qY(P:Aj):Tab:=⟨W4 P,BM,[]⟩
def Jr1:Bg Aa (qY Aa):=CU Jfn
def eK:Ac Nat:=[]
def Jth(n:Nat)(g:D)(h:Ae):AB Aa (qY Aa) eK n f357 [g] h=
(Ah (BA 44 g h) fun e a=>
AV 0 none a e fun k=>
Ad (Ag .int .eql k (iD 1)) fun l=>
Az l
(AV 1 none a e fun i=>
Ah (DI 3 1 2 [(iD 0)] [(0,(iD 0)),(1,(iD 1))] a) fun j m=>
Ah ((Zo Aa) [i,j] m) fun o b=>
some (o,b))
(Ah (DI 3 1 2 [(iD 0)] [(0,(iD 0)),(1,(iD 1))] a) fun d c=>
some (d,c))):=by kernel_rfl
def qB(P:Aj):GT:=CO P (qY P) eK 0 357
def Jqp(ds:Ac D)(H:Ae):qB Aa ds H=AB Aa (qY Aa) eK 0 f357 ds H:=CJ func357 ds H
def Jly:BN Aa 357 (qB Aa):=CQ Jr1 AX func357
def Jjh(t:AQ)(a b:Int)(H:Ae):DI t 1 2 [iD 0] [(0,iD a),(1,iD b)] H=some (.hs H.length 2,H++[.cells t 1 (BP [a,b])]):=rfl
def JyD(t:AQ)(a b c d e:Int)(H:Ae):DI t 1 5 [iD 0] [(0,iD a),(1,iD b),(2,iD c),(3,iD d),(4,iD e)] H=some (.hs H.length 5,H++[.cells t 1 (BP [a,b,c,d,e])]):=rfl
def JaO(n:Nat)(f:n=2\/n=5)(a:Int)(t:AQ)(l:Ac Int)(H:Ae)(j:l.length=n):
  ∃H',Zo Aa [iD a,.hs H.length n] (H++[.cells t 1 (BP l)])=some (.hs H.length (Nr a l).length,H')/\J8 H.length H' (.hs H.length (Nr a l).length) (Nr a l)/\Kp H.length H H'/\H.length<H'.length:=by
 obtain⟨H',b,h,⟨c,d,e⟩,g⟩:=JoW H.length n f a t l (H++[.cells t 1 (BP l)]) (by simp) j;simp only[DC,Oh]at h;refine⟨H',b,.inr ⟨H.length,t,c,BQ _,rfl,d,e⟩,⟨by omega,fun k i=> ?_⟩,by omega⟩;rw[g k (by simp;omega) (by omega),Ii i]
def QaT(y:Nd)(H:Ae):∃d H',qB Aa [.agg (Cb y)] H=some (d,H')/\J8 H.length H' d (Nc y)/\Kp H.length H H'/\H.length<=H'.length:=by
 rw[Jqp,Jth];unfold AV;have a:BA 44 (.agg (Cb y)) H=some (.hp H.length 0,H++[.cells 44 2 [iD y.1,iD y.2]]):=Jwy _ y H;have c:Kp H.length H (H++[.cells 44 2 [iD y.1,iD y.2]]):=Kp.app _ _ _ (BQ _);have g:(H++[HO.cells 44 2 [iD y.1,iD y.2]])[H.length]? =some (.cells 44 2 [iD y.1,iD y.2]):=by simp
 have m:(H++[HO.cells 44 2 [iD y.1,iD y.2]]).length=H.length+1:=by simp
 generalize H++[HO.cells 44 2 [iD y.1,iD y.2]]=b at*;have j:Ai none b (.hp H.length 0)=some (iD y.1):=Gs _ _ _ _ _ _ g;have o:Ai none b (.hp H.length 1)=some (iD y.2):=D6 _ _ _ _ _ _ _ g rfl;have i:AP 0 (.hp H.length 0)=some (.hp H.length 0):=rfl;have p:AP 1 (.hp H.length 0)=some (.hp H.length 1):=rfl;by_cases h:y.1=1
 ·obtain⟨H',k,n,l,q⟩:=JaO 2 (.inl rfl) y.2 3 [0,1] b rfl;have e:Nc y=Nr y.2 [0,1]:=by unfold Nc;rw[Aw h]
  have f:(y.1==1)=true:=by rw[h];rfl
  refine⟨_,H',?_,by rw[e];exact n.mono (by omega),c.trans (l.mono (by omega)),by omega⟩;simp only[a,A7,i,p,AU,j,o,Nk,f,Bd,Bv,Jjh,k]
 ·have e:Nc y=[0,1]:=by unfold Nc;rw[Am h]
  have f:(y.1==1)=false:=by rw[AD];exact h
  refine⟨.hs b.length 2,b++[.cells 3 1 (BP [0,1])],?_,?_,c.trans (Kp.app _ b [.cells 3 1 (BP [0,1])] (by omega)),by simp;omega⟩
  ·simp only[a,A7,i,AU,j,Nk,f,Bd,BF,BC,Jjh]
  ·rw[e];exact .inr ⟨b.length,3,[0,1],by omega,rfl,by simp,rfl⟩
def CM(P:Aj):Ac Cj:=(357,false,qB P)::W4 P
def ON:∀p∈CM Aa,Ci Aa p:=AC (CB Jly)<|Jfn
def jV(P:Aj)(Y:Nat->GT):Tab:=⟨CM P,Y,[]⟩
def Qel(Y:Nat->GT)(a:FT Aa Y):Bg Aa (jV Aa Y):=⟨ON,a,fun _ h=>by cases h⟩
section
variable (Y : Nat → GT)
def fW:Ac Nat:=[]
def JvO(n:Nat)(d b a c:D)(h:Ae):AB Aa (jV Aa Y) fW n f354 [d,b,a,c] h=
(Ad (Ai none h a) fun i=>
Az i
(Ad (Ai none h c) fun k=>
Ah (C9 (jV Aa Y) k [d,b] h) fun g e=>
Ah (Bh 1 a g e) fun l j=>
some (.tup [],j))
(some (.tup [],h))):=by kernel_rfl
end
section
abbrev KF:=Nat->GT
def CF(P:Aj)(Y:KF):GT:=CO P (jV P Y) fW 0 354
def Jz0(Y:KF)(ds:Ac D)(H:Ae):CF Aa Y ds H=AB Aa (jV Aa Y) fW 0 f354 ds H:=CJ func354 ds H
def JtG(Y:KF)(a:FT Aa Y):BN Aa 354 (CF Aa Y):=CQ (Qel Y a) AX func354
def zC(P:Aj)(Y:KF):Tab:=⟨(354,false,CF P Y)::CM P,Y,[]⟩
def Jsp(Y:KF)(a:FT Aa Y):Bg Aa (zC Aa Y):=⟨AC (CB (JtG Y a)) ON,a,fun _ h=>by cases h⟩
def VW(P:Aj)(Y:KF)(b a op n:D)(h:Ae):Af (D×Ae):=C9 (zC P Y) (.clo (.func 354) [] [b,a]) [op,n] h
def G0(P:Aj)(Y:KF)(i f j g:D)(h:Ae):Af (D×Ae):=
 Ad (AP 0 j) fun a=>
 Ad (Ai none h a) fun t=>
 Ad (Ag .int .eql t (iD 23)) fun c=>
 Az c
 (Ah (DI 3 1 1 [(iD 0)] [(0,(iD 0))] h) fun r d=>
 Ah (VW P Y g f (iD 6) r d) fun _ b=>
 some (.tup [],b))
 (Ad (Ag .int .eql t (iD 24)) fun m=>
 Az m
 (Ah (DI 3 1 1 [(iD 0)] [(0,(iD 0))] h) fun r d=>
 Ah (VW P Y g f (iD 6) r d) fun _ b=>
 some (.tup [],b))
 (Ad (Ag .int .eql t (iD 25)) fun l=>
 Az l
 (Ad (Ai none h i) fun y=>
 Ad (BG 2 y (iD 1)) fun e=>
 Ad (Ai (some 2) h e) fun k=>
 Ah (qB P [k] h) fun n d=>
 Ah (VW P Y g f (iD 7) n d) fun _ b=>
 some (.tup [],b))
 (some (.tup [],h))))
def ZL(P:Aj)(Y:KF)(e a f b:D)(h:Ae):Af (D×Ae):=
 Ah (DI 3 1 1 [(iD 0)] [(0,(iD 0))] h) fun r d=>
 Ah (VW P Y b a (iD 5) r d) fun _ c=>
 G0 P Y e a f b c
def jJ(P:Aj)(Y:KF)(d e b f:D)(h:Ae):Af (D×Ae):=
 Ad (AP 0 b) fun a=>
 Ad (Ai none h a) fun t=>
 Ad (Ag .int .eql t (iD 21)) fun c=>
 Az c
 (ZL P Y d e b f h)
 (Ad (Ag .int .eql t (iD 22)) fun c=>
 Az c
 (ZL P Y d e b f h)
 (Ad (Ag .int .eql t (iD 23)) fun c=>
 Az c
 (ZL P Y d e b f h)
 (Ad (Ag .int .eql t (iD 24)) fun c=>
 Az c
 (ZL P Y d e b f h)
 (Ad (Ag .int .eql t (iD 25)) fun c=>
 Az c
 (ZL P Y d e b f h)
 (G0 P Y d e b f h)))))
def gG(P:Aj)(Y:KF)(c e op:Int)(g a i b t:D)(h:Ae):Af (D×Ae):=
 Ah (Ak vN [(iD c),(iD e),t] h) fun r f=>
 Ah (VW P Y b a (iD op) r f) fun _ d=>
 jJ P Y g a i b d
def iA(P:Aj)(Y:KF)(f b d e t:D)(h:Ae):Af (D×Ae):=
 Ad (Ag .int .eql t (iD 2)) fun c=>
 Az c
 (Ad (AP 1 d) fun a=>
 Ad (Ai none h a) fun n=>
 Ad (Ag .int .sub (iD 1) n) fun m=>
 Ah (DI 3 1 1 [(iD 0)] [(0,m)] h) fun r i=>
 Ah (VW P Y e b (iD 4) r i) fun _ g=>
 jJ P Y f b d e g)
 (jJ P Y f b d e h)
def N4(P:Aj)(Y:KF)(f d b e t:D)(h:Ae):Af (D×Ae):=
 Ad (Ag .int .eql t (iD 1)) fun c=>
 Az c
 (Ad (AP 1 b) fun a=>
 Ad (Ai none h a) fun n=>
 Ad (AP 1 b) fun j=>
 Ad (Ai none h j) fun o=>
 Ad (Ag .int .add o (iD 1)) fun u=>
 Ad (AP 1 b) fun m=>
 Ad (Ai none h m) fun i=>
 Ad (Ag .int .sub i (iD 1)) fun v=>
 Ah (DI 3 1 5 [(iD 0)] [(0,(iD 0)),(1,(iD 1)),(2,(iD (-1))),(3,u),(4,v)] h) fun r l=>
 Ah ((Zo P) [n,r] l) fun q k=>
 Ah (VW P Y e d (iD 4) q k) fun _ g=>
 jJ P Y f d b e g)
 (iA P Y f d b e t h)
def wV(P:Aj)(Y:KF)(a d b e t:D)(h:Ae):Af (D×Ae):=
 Ad (Ag .int .eql t (iD 18)) fun c=>
 Az c
 (gG P Y 18 19 3 a d b e t h)
 (Ad (Ag .int .eql t (iD 19)) fun c=>
 Az c
 (gG P Y 18 19 3 a d b e t h)
 (N4 P Y a d b e t h))
def kM(P:Aj)(Y:KF)(a d b e t:D)(h:Ae):Af (D×Ae):=
 Ad (Ag .int .geq t (iD 12)) fun c=>
 Az c
 (Ad (Ag .int .leq t (iD 17)) fun c=>
 Az c
 (gG P Y 12 17 2 a d b e t h)
 (wV P Y a d b e t h))
 (wV P Y a d b e t h)
def rY(P:Aj)(Y:KF)(a d b e t:D)(h:Ae):Af (D×Ae):=
 Ad (Ag .int .geq t (iD 7)) fun c=>
 Az c
 (Ad (Ag .int .leq t (iD 11)) fun c=>
 Az c
 (gG P Y 7 11 1 a d b e t h)
 (kM P Y a d b e t h))
 (kM P Y a d b e t h)
variable (Y : KF)
def Jlj(n:Nat)(e d:D)(h:Ae):AB Aa (zC Aa Y) [] n f353 [e,d] h=
(Ah (BA 477 e h) fun i c=>
Ad (Ai none c d) fun l=>
Ce 2 (some 2) c l (iD 0) fun j=>
Dw 44 [(iD 0),(iD 0)] 2 j c fun g k=>
Dw 4 [(bD false)] 1 (bD true) k fun m a=>
AV 0 none a g fun b=>
rY Aa Y d i g m b a):=by kernel_rfl
def yL(P:Aj)(Y:KF):GT:=CO P (zC P Y) [] 0 353
def QeU(ds:Ac D)(H:Ae):yL Aa Y ds H=AB Aa (zC Aa Y) [] 0 f353 ds H:=CJ func353 ds H
def Jz1(a:FT Aa Y):BN Aa 353 (yL Aa Y):=CQ (Jsp Y a) AX func353
def Nh(P:Aj)(Y:KF):Tab:=⟨(353,false,yL P Y)::CM P,Y,[]⟩
def JiF(Y:KF)(a:FT Aa Y):Bg Aa (Nh Aa Y):=⟨AC (CB (Jz1 Y a)) ON,a,fun _ h=>by cases h⟩
end
def JgE(P:Aj)(T:Tab)(kp:Ac Nat)(n:Nat)(fn:Func)(r i:Nat)(s:Ac D)(H:Ae):Af (Lv×Ac D×Ae):=
 DY (Kc P T kp n fn.ntmps ((Vk (EL fn r)).getD i .skip)) n s H
def JeG(P:Aj)(T:Tab)(kp:Ac Nat)(n:Nat)(fn:Func)(r i:Nat)(s:Ac D)(H:Ae):Af (Lv×Ac D×Ae):=
 Kc P T kp n fn.ntmps ((Vk (EL fn r)).getD i .skip) s H
def JzQ{step:Ac D->Ae->Af (Lv×Ac D×Ae)}(a:Nat->Ac D->Ae->Prop)(Q:Lv×Ac D×Ae->Prop)(k n:Nat)
  (b:∀j s H,j<k->a j s H->∃s' H',step s H=some (.normal,s',H')/\a (j+1) s' H') (c:∀s H,a k s H->∃r,step s H=some r/\r.1≠ .normal/\Q r) (l:k<n) {s:Ac D} {H:Ae} (h:a 0 s H):
  ∃r,DY step n s H=some r/\Q r:=by
 have key:∀(m i:Nat) (s:Ac D) (H:Ae),i+m=k->a i s H->∀q,m<q->∃r,DY step q s H=some r/\Q r:=by
  intro m
  induction m with
  |zero=>
   intro i s H p e q g;obtain⟨q,rfl⟩:∃x,q=x+1:=⟨q-1,by omega⟩;obtain rfl:i=k:=by omega
   obtain⟨⟨u,s',H'⟩,d,f,t⟩:=c s H e;refine⟨_,?_,t⟩;simp only[DY,d];cases u with
   |normal=>exact absurd rfl f
   |_=>rfl
  |succ m o=>
   intro i s H p e q g;obtain⟨q,rfl⟩:∃x,q=x+1:=⟨q-1,by omega⟩;obtain⟨s',H',d,f⟩:=b i s H (by omega) e;rw[IQ d];exact o (i+1) s' H' (by omega) f q (by omega)
 exact key k 0 s H (by omega) h n l
section
variable (Y : Nat → GT)
def QG:Ac Nat:=[5,7,21,22,23]
def QcA(n:Nat)(i j:D)(h:Ae):AB Aa (Nh Aa Y) QG n f284 [i,j] h=
(Ah (BX 118 [Aq] h) fun b p=>
Ah (DX Vt [i,j] p) fun k c=>
Ad (Bq .sl k) fun m=>
Ad (Ag .int .gtr m (iD 0)) fun q=>
Az q
(Ah ((Hh Aa) [k] c) fun l o=>
PI (IK (Nh Aa Y) l [19,20] (ET f284 0) (EL f284 0) 35 QG [b,.undef,.undef,.undef,.undef] o) (fun a=>
Ad (Ai none a b) fun d=>
some (d,a)) (fun r a=>
CW r 0
(Ad (Ai none a b) fun g=>
some (g,a))
(none)) (fun a=>
some (Aq,a)))
(Ad (Ai none c b) fun e=>
some (e,c))):=by kernel_rfl
def JvX(n id:Nat)(s0 g l c j:D)(e d:D)(h:Ae):Mc Aa (Nh Aa Y) n id [19,20] (ET f284 0) (EL f284 0) 35 QG [s0,g,l,c,j] [e,d] h=
(IZ id h fun i=>
Ad (Bq .sl d) fun k=>
Dy (JgE Aa (Nh Aa Y) QG n f284 0 0 [s0,e,d,k,(iD 0)] i) (fun b c a=>
CW b 2
(J9 id .normal a)
(CW b 1
(J9 id .normal a)
(J9 id (.exit b) a))) (fun c a=>
J9 id .ret a)):=by kernel_rfl
def Jb9(n:Nat)(s0 b d c a:D)(h:Ae):JeG Aa (Nh Aa Y) QG n f284 0 0 [s0,b,d,c,a] h=
(Ad (Ag .int .lss a c) fun j=>
Az j
(Ad (BG 1 d a) fun k=>
Ad (Ai none h k) fun q=>
Ad (Ai none h s0) fun m=>
Ad (CY [(0,1),(1,1),(2,1)] [Aq,(iD 0),(iD 0)] [(1,b),(2,q)]) fun p=>
Ah (DI 103 3 1 [Aq,(iD 0),(iD 0)] [(0,p)] h) fun r l=>
Ah (D5 103 3 m r l) fun i o=>
Ah (Bh 1 s0 i o) fun s e=>
Ad (Ag .int .add a (iD 1)) fun g=>
some (.normal,[s0,b,d,c,g],e))
(some ((.exit 2),[s0,b,d,c,a],h))):=by kernel_rfl
end
def Jm(P:Aj):KF:=Yn P (Nh P) 8 1
def Qeb:FT Aa (Jm Aa):=TW JiF AX 8 1
def LG(fn:Func)(st:LS):HO:= .loop st [19,20] (ET fn 0) (EL fn 0) 35 QG [.hp 0 0,.undef,.undef,.undef,.undef]
def Oz(out:Ac (Int×Int)):Ac D:=(out.map fun e=>[Aq,iD e.1,iD e.2]).flatten
def Qdw(out:Ac (Int×Int)):(Oz out).length=out.length*3:=by
 induction out with
 |nil=>rfl
 |cons x r a=>simp only[Oz,EP,IX,DC,Ej]at a⊢;simp at a⊢;omega
def Qfq(a b:Ac (Int×Int)):Oz (a++b)=Oz a++Oz b:=by simp[Oz]
structure J5(l:List Nd)(x:Nd)(H:Ae)(out:List (Int×Int)):Prop where
 len:6<=H.length
 box:∃d,H[0]? =some (.cells 118 1 [d])/\Buf 103 3 H 6 d out.length (Oz out)
 row:H[1]? =some (.cells 23 1 [A8 l])
 loop:H[2]? =some (LG f284 .ready)
 yld:H[3]? =some (.cells 477 1 [.yld 2])
 node:H[4]? =some (.cells 44 2 [iD x.1,iD x.2])
 more:H[5]? =some (.cells 4 1 [bD true])
def JoL(a b:Int):CY [(0,1),(1,1),(2,1)] [Aq,iD 0,iD 0] [(1,iD a),(2,iD b)]=some (.agg [Aq,iD a,iD b]):=rfl
def Qcn(t:AQ)(a b:Int)(H:Ae):DI t 3 1 [Aq,iD 0,iD 0] [(0,.agg [Aq,iD a,iD b])] H=some (.hs H.length 1,H++[.cells t 3 [Aq,iD a,iD b]]):=rfl
def Jr0(l:Ac Nd)(x:Nd)(H:Ae)(out:Ac (Int×Int))(op:Int)(c:D)(b:Ac Int)(B:Nat)(h:J5 l x H out)(O:J8 B H c b)(aa:b.length<=6)(U:out.length<=100)
  (v:∀d k q,H[0]? =some (.cells 118 1 [d])->d= .hs k q->k<B) (hB:6<=B):
  ∃H',Jm Aa 2 [iD op,c] H=some (bD true,H')/\J5 l x H' (out++b.map fun n=>(op,n)):=by
 obtain⟨h0,⟨d,h1,h2⟩,h3,V,h5,h6,h7⟩:=h;have hY:Jm Aa 2 [iD op,c] H=Jb Aa (Nh Aa BM) 8 2 [iD op,c] H:=rfl;have z:Jb Aa (Nh Aa BM) 8 2 [iD op,c] H=Mc Aa (Nh Aa BM) 8 2 [19,20] (ET f284 0) (EL f284 0) 35 QG [.hp 0 0,.undef,.undef,.undef,.undef] [iD op,c] H:=by
  unfold Jb;rw[V];simp only[LG];rw[Aw];refine⟨rfl,?_,?_,?_,?_⟩<;>kernel_rfl
 rw[hY,z,JvX];have hb:IZ (α:=D×Ae) 2 H=fun k=>k (H.set 2 (LG f284 .busy)):=by
  funext k;unfold IZ;rw[V];rfl
 rw[hb];have g:∀k,k≠2->(H.set 2 (LG f284 .busy))[k]? =H[k]? :=fun k z=>Ee (Ne.symm z);have g2:(H.set 2 (LG f284 .busy))[2]? =some (LG f284 .busy):=Hw (by omega);have gl:(H.set 2 (LG f284 .busy)).length=H.length:=by simp
 have gb:Buf 103 3 (H.set 2 (LG f284 .busy)) 6 d out.length (Oz out):=h2.set 2 _ (by omega);generalize H.set 2 (LG f284 .busy)=F at*;have C:=O.len;have key:=JzQ (step:=JeG Aa (Nh Aa BM) QG 8 f284 0 0)
  (fun i s a=>s=[.hp 0 0,iD op,c,iD b.length,iD i]/\6<=a.length/\(∃d,a[0]? =some (.cells 118 1 [d])/\Buf 103 3 a 6 d (out.length+i) (Oz (out++(b.take i).map fun n=>(op,n)))/\∀k m q,c= .hs k m->d≠ .hs k q)/\(∀k,1<=k->k<6->a[k]? =F[k]?)/\J8 B a c b)
  (fun r=>∃s a,r=(.exit 2,s,a)/\6<=a.length/\(∃d,a[0]? =some (.cells 118 1 [d])/\Buf 103 3 a 6 d (out.length+b.length) (Oz (out++b.map fun n=>(op,n))))/\(∀k,1<=k->k<6->a[k]? =F[k]?)) b.length 8
  (fun i s a W Q=>by
   obtain⟨rfl,u,⟨d,w,j,Y⟩,G,E⟩:=Q;have J:(i:Int)<(b.length:Int):=by omega
   obtain⟨p,p1,X⟩:=E.get i W;have l0:=Gs a 0 _ _ _ _ w;have S:=Jj (i:Int) 1 (by omega) (by omega);have c1:((i:Nat):Int)+1=((i+1:Nat):Int):=by omega
   rw[c1]at S;have N:=Qdw (out++(b.take i).map fun n=>(op,n));obtain⟨o,L,a1,M,T,a4,a5,a6⟩:=cW (new:=[Aq,iD op,iD (b.getD i 0)]) j (by omega) rfl rfl (by rw[N];simp;omega) u;have Z:L[0]? =some (.cells 118 1 [d]):=by rw[T.2 0 (by omega)];exact w
   have st:=IV L 0 0 _ _ _ o Z (by simp) M.cells M.ok;refine⟨_,L.set 0 (.cells 118 1 [o]),?_,rfl,by simp;omega,⟨o,Hw (by omega),?_,fun k m q e=> ?_⟩,fun k P y=> ?_,?_⟩
   ·rw[Jb9];simp only[JA,J,decide_true,AU,Bd,Bv,p1,X,l0,JoL,Qcn,A7,a1,st,Ll,S,Zj]
   ·rw[Qdv b i W,<-FV,Qfq];exact M.set 0 _ (by omega)
   ·have hl:=(e▸E).lt
    grind
   ·rw[Ee (by omega),T.2 k y,G k P y]
   ·exact E.keep2 fun r m e I R=>by grind)
  (fun s a Q=>by
   obtain⟨rfl,u,⟨d,w,j,Y⟩,G,E⟩:=Q;rw[II]at j;refine⟨(.exit 2,[.hp 0 0,iD op,c,iD b.length,iD b.length],a),?_,(by intro e;cases e),_,a,rfl,u,⟨d,w,j⟩,G⟩;rw[Jb9];simp)
  (by omega) (s:=[.hp 0 0,iD op,c,iD b.length,iD 0]) (H:=F)
  ⟨rfl,by omega,⟨d,by grind,by simpa using gb,fun k m q e e2=>by
   have:=v d k q h1 e2;have hl:=(e▸O).lt;omega⟩,fun _ _ _=>rfl,O.keep2 fun r m e I R=>g r (by omega)⟩
 obtain⟨r,r1,s,a,rfl,u,⟨o,w,j⟩,G⟩:=key;have K:JgE Aa (Nh Aa BM) QG 8 f284 0 0 [.hp 0 0,iD op,c,iD b.length,iD 0] F=_:=r1;have c2:a[2]? =some (LG f284 .busy):=by grind
 have q:∀k,k≠2->(a.set 2 (LG f284 .ready))[k]? =a[k]? :=fun k z=>Ee (Ne.symm z);refine⟨a.set 2 (LG f284 .ready),?_,by simpa using u,⟨o,by grind,?_⟩,?_,?_,?_,?_,?_⟩
 ·simp only[C,AU,K,Kw,Kv];unfold J9;rw[c2];rfl
 ·rw[DC,Ju];exact j.set 2 _ (by omega)
 ·grind
 ·grind
 ·grind
 ·grind
 grind
def J5.kp{l:Ac Nd}{x:Nd}{H H':Ae}{out:Ac (Int×Int)}(h:J5 l x H out)(k:Kp H.length H H'):J5 l x H' out:=by
 obtain⟨c,⟨d,j,a⟩,b,g,n,f,i⟩:=h;refine⟨Ig c k.1,⟨d,by rw[k.2 0 (by omega)];exact j,a.keep fun r m e=>k.2 r ?_⟩,by rw[k.2 1 (by omega)];exact b,by rw[k.2 2 (by omega)];exact g,by rw[k.2 3 (by omega)];exact n,by rw[k.2 4 (by omega)];exact f,by rw[k.2 5 (by omega)];exact i⟩;subst e;exact a.lt.2
def iP(l:Ac Nd)(x:Nd)(H a:Ae)(out:Ac (Int×Int))(op:Int)(b:D)(e:Ac Int)(h:J5 l x H out)(k:Kp H.length H a)(p:J8 H.length a b e)(i:e.length<=6)(c:out.length<=100):
  ∃H',VW Aa (Jm Aa) (.hp 5 0) (.hp 3 0) (iD op) b a=some (.tup [],H')/\J5 l x H' (out++e.map fun n=>(op,n)):=by
 have g:=h.kp k;obtain⟨H',v,j⟩:=Jr0 l x a out op b e H.length g p i c (fun d r q f u=>by
  obtain⟨A,o,m⟩:=h.box;rw[k.2 0 (by have:=h.len;omega),o]at f;cases f;subst u;exact m.lt.2) h.len
 refine⟨H',?_,j⟩;have s:VW Aa (Jm Aa) (.hp 5 0) (.hp 3 0) (iD op) b a=CF Aa (Jm Aa) [iD op,b,.hp 5 0,.hp 3 0] a:=rfl;have z:=Gs a 5 _ _ _ _ g.more;have y:=Gs a 3 _ _ _ _ g.yld;have f:C9 (jV Aa (Jm Aa)) (.yld 2) [iD op,b] a=some (bD true,H'):=v;have st:=IV H' 5 0 _ _ _ (bD true) j.more (by simp) rfl rfl;have w:H'.set 5 (.cells 4 1 [bD true])=H':=kW j.more;rw[s,Jz0,JvO];simp_all
def kv(vs:Ac Int)(l:Ac Nd)(i:Int):Int:=KA (l.length+1) vs l i
def Rb(vs:Ac Int)(x:Nd)(a b:Ac Int):Int:=
 if KT vs x.2 (Gx x.1)= -1\/(IG vs x a.length (Gx x.1)).length≠a.length then-1 else
 if(List.range a.length).all (fun j=>decide (a.getD j 0=(IG vs x a.length (Gx x.1)).getD j 0)&& !(YU x.1&&decide (0<j)&& !decide (b.getD j 0=20)))
  then KT vs x.2 (Gx x.1)else-1
def JzK(n:Nat)(f g:Nat->Bool)(h:∀j,j<n->f j=g j):(List.range n).all f=(List.range n).all g:=by grind
def Qez(vs:Ac Int)(l:Ac Nd)(k:Nat)(h:0<=Bc l k):kv vs l k=Rb vs (Bj l k) ((AZ l k).map (kv vs l)) ((AZ l k).map fun j=>(Bj l j).1):=by
 have b:k<l.length:=by have:=(F6 l k h).2;simpa using this
 rw[kv,KA,Am (by omega),Rb];simp only[Ju];rw[JzK _ _ (fun j=>decide (((AZ l k).map (kv vs l)).getD j 0=(IG vs (Bj l k) (AZ l k).length (Gx (Bj l k).1)).getD j 0)&& !(YU (Bj l k).1&&decide (0<j)&& !decide (((AZ l k).map fun j=>(Bj l j).1).getD j 0=20))) fun j a=> ?_];have c:=jS l k j a;rw[G7 _ _ _ a,G7 ((AZ l k).map (kv vs l)) _ _ (by simpa using a),G7 ((AZ l k).map fun j=>(Bj l j).1) _ _ (by simpa using a)];simp only[pT];rw[kv,Jd5 (l.length) (l.length+1) vs l _ c.2.1 (by omega) (by omega)]
def Seg(l b:Ac Nd)(i a m:Nat):Prop:=∀x,x<m->l[i+x]? =b[a+x]?
def R0(l b:Ac Nd)(i a:Nat):Prop:=∃m,Bc l i=((i+m:Nat):Int)/\Seg l b i a m
section
variable {l r : Ac Nd} {k : Nat}
def R1(l:Ac Nd)(k:Nat)(r:Ac Nd)(i a:Nat):Prop:=R0 l (I5 l k r) i a\/(i<=k/\a=i/\Bc l k<=Bc l i)
end
section
set_option linter.unusedSimpArgs false
end
section
variable {l r : Ac Nd} {k : Nat}
end
end Go.Proofs.YtapdelkomkpgmaaGreatDoor
