import Derived.Test.YtapdelkomkpgmaaGreatDoorQp
namespace Go.Proofs.YtapdelkomkpgmaaGreatDoor
open Go.Proofs.Tryz
open Go.RowKit
set_option maxRecDepth 100000
set_option linter.all false
section
variable (Y : Nat → GT)
def Y0:Ac Nat:=[4]
def JvH(n:Nat)(w:D)(h:Ae):AB Aa (SI Aa Y) Y0 n f209 [w] h=
(Ah (BA 237 w h) fun v u=>
Ah ((OB Aa) [] u) fun C l=>
Ad (AP 3 v) fun s=>
Ad (Ai none l s) fun B=>
Ad (Bq .sl B) fun r=>
Ad (Dk .u64 r) fun z=>
Ah ((Kq Aa) [C,z] l) fun q x=>
Eb s (some u) (some l)
(JS r
(Ah (BX 77 [BI] x) fun b k=>
Ah (Bh 1 b (.clo (.func 37) [q] []) k) fun y c=>
Ad (Ai (some 4) c v) fun o=>
Ah ((yI Aa) [o] c) fun p m=>
PI (IK (SI Aa Y) p [16] (ET f209 0) (EL f209 0) 22 Y0 [b] m) (fun a=>
Ah ((NS Aa) [q] a) fun d i=>
some (d,i)) (fun j a=>
CW j 0
(Ah ((NS Aa) [q] a) fun e g=>
some (e,g))
(none)) (fun a=>
some (CS,a))))):=by kernel_rfl
def Jpj(n id:Nat)(s0:D)(a:D)(h:Ae):Mc Aa (SI Aa Y) n id [16] (ET f209 0) (EL f209 0) 22 Y0 [s0] [a] h=
(IZ id h fun b=>
Ad (Ai none b s0) fun d=>
Ah (C9 (SI Aa Y) d [a] b) fun e c=>
J9 id .normal c):=by kernel_rfl
end
def Obj(w k:Nat)(o:HO)(H:Ae):Prop:=H[k]? =some o/\k≠w/\Yz H w k
def Obj.lt{w k:Nat}{o:HO}{H:Ae}(h:Obj w k o H):k<H.length:=(CV.1 h.1).1
def Obj.kpw{w k:Nat}{o:HO}{H H':Ae}(h:Obj w k o H)(q:Hq w H H'):Obj w k o H':=by
 have:=q.2 k h.lt h.2.1 h.2.2;exact⟨this.1.trans h.1,h.2.1,this.2⟩
def Obj.set{w k j:Nat}{o c:HO}{H:Ae}(h:Obj w k o H)(b:j≠k)(a:j≠w):Obj w k o (H.set j c):=
 ⟨by rw[Ee b];exact h.1,h.2.1,fun t sz q=>by rw[Ee a];exact h.2.2 t sz q⟩
def Obj.put{w k:Nat}{o:HO}{H:Ae}(h:Obj w k o H)(a:HO):Obj w k a (H.set k a):=
 ⟨Hw h.lt,h.2.1,fun t sz q=>by rw[Ee h.2.1];exact h.2.2 t sz q⟩
def Obj.app{w k:Nat}{o:HO}{H:Ae}(h:Obj w k o H)(a:w<H.length)(t:Ae):Obj w k o (H++t):=
 ⟨by rw[Ii h.lt];exact h.1,h.2.1,fun u sz q=>by rw[Ii a];exact h.2.2 u sz q⟩
def Ea.obj{w B:Nat}{l:By}{H:Ae}(h:Ea H w B l)(o:HO):Obj w H.length o (H++[o]):=
 ⟨by simp,by have:=h.lt;omega,fun t sz q=>by rw[Ii h.lt];exact h.notRow H.length (.inr (BQ _)) t sz q⟩
def Ea.old{w B k:Nat}{l:By}{H:Ae}{o:HO}(h:Ea H w B l)(b:k<B)(a:k≠w)(c:H[k]? =some o):Obj w k o H:=⟨c,a,h.notRow k (.inl b)⟩
def Ea.put{w B j:Nat}{l:By}{H:Ae}{o:HO}(h:Ea H w B l)(a:Obj w j o H)(c:HO):Ea (H.set j c) w B l:=
 h.keep (by simp) (Ee a.2.1) fun r m d b e=>Ee (fun x=>a.2.2 _ _ m (by subst e;subst x;exact b))
def Obj.kp{w k j:Nat}{o:HO}{H:Ae}(d:Obj w j o H)(b:HO):∀k a,Obj w k a H->k≠j->Obj w k a (H.set j b):=fun k a h c=>h.set (Ne.symm c) d.2.1
def I9(w:Nat)(a:Ac Nat)(H H':Ae):Prop:=H.length<=H'.length/\∀k o,Obj w k o H->k∉a->Obj w k o H'
def I9.refl(w:Nat)(a:Ac Nat)(H:Ae):I9 w a H H:=⟨BQ _,fun _ _ h _=>h⟩
def I9.trans{w:Nat}{b:Ac Nat}{H H' a:Ae}(h:I9 w b H H')(k:I9 w b H' a):I9 w b H a:=⟨Ig h.1 k.1,fun i o d c=>k.2 i o (h.2 i o d c) c⟩
def I9.kpw{w:Nat}{H H':Ae}(a:Ac Nat)(q:Hq w H H'):I9 w a H H':=⟨q.1,fun k o h _=>h.kpw q⟩
def I9.put{w j:Nat}{o:HO}{H:Ae}(h:Obj w j o H)(d:HO){a:Ac Nat}(b:j∈a):I9 w a H (H.set j d):=⟨by simp,fun k g c f=>c.set (fun e=>f (e▸b)) h.2.1⟩
def I9.app{w:Nat}{b:Ac Nat}{H:Ae}(a:w<H.length)(t:Ae):I9 w b H (H++t):=⟨by simp,fun k o h _=>h.app a t⟩
def Ry:Ac Nat:=[7,46,47,48,52,53,54]
def Jn1(n:Nat)(c m:D)(h:Ae):AB Aa (QB Aa) Ry n f9 [c,m] h=
(Ad (Bq .sl c) fun J=>
Ad (Ag .int .eql J (iD 0)) fun K=>
Az K
(some (.tup [CS,(iD 18)],h))
(Ce 1 none h c (iD 0) fun G=>
Ad (Bq .sl G) fun H=>
Ad (Ag .int .gtr H (iD 12)) fun I=>
Az I
(some (.tup [CS,(iD 18)],h))
(Ce 1 none h c (iD 0) fun F=>
Ad (Bq .sl F) fun L=>
Ah (Ak RH [L,c,m] h) fun E k=>
Ad (Ag .int .neq E (iD 0)) fun B=>
Az B
(some (.tup [CS,E],k))
(Ah ((OB Aa) [] k) fun q e=>
Ad (Dk .u64 m) fun x=>
Ah ((Kq Aa) [q,x] e) fun y i=>
Ad (Bq .sl c) fun j=>
Ad (Dk .u64 j) fun t=>
Ah ((Kq Aa) [y,t] i) fun o g=>
Ad (BG 1 c (iD 0)) fun a=>
Ad (Ai none g a) fun w=>
Ad (Bq .sl w) fun b=>
Ad (Dk .u64 b) fun u=>
Ah ((Kq Aa) [o,u] g) fun v p=>
JS m
(JS j
(JS j
(Eb a (some k) (some e)
(Eb a (some e) (some i)
(Eb a (some i) (some g)
(JS b
(JS b
(JS b
(Ad (Bq .sl c) fun z=>
Dy (BZ Aa (QB Aa) Ry n f9 0 [v,c,z,(iD 0),.undef,.undef,.undef] p) (fun s l d=>
CW s 0
(Ah ((NS Aa) [(gD l 0)] d) fun r C=>
some (.tup [r,(iD 0)],C))
(none)) (fun l d=>
some (.tup [.undef,.undef],d))))))))))))))):=by kernel_rfl
def Jfg(n:Nat)(s0 d e c j a i:D)(h:Ae):BK Aa (QB Aa) Ry n f9 0 [s0,d,e,c,j,a,i] h=
(Ad (Ag .int .lss c e) fun m=>
Az m
(Ad (BG 1 d c) fun o=>
Ad (Ai none h o) fun k=>
Ad (Bq .sl k) fun p=>
Dy (BZ Aa (QB Aa) Ry n f9 1 [s0,d,e,c,k,p,(iD 0)] h) (fun g a b=>
CW g 2
(Ad (Ag .int .add (gD a 3) (iD 1)) fun l=>
some (.normal,[(gD a 0),(gD a 1),(gD a 2),l,(gD a 4),(gD a 5),(gD a 6)],b))
(CW g 1
(Ad (Ag .int .add (gD a 3) (iD 1)) fun q=>
some (.normal,[(gD a 0),(gD a 1),(gD a 2),q,(gD a 4),(gD a 5),(gD a 6)],b))
(some ((.exit g),[(gD a 0),(gD a 1),(gD a 2),(gD a 3),(gD a 4),(gD a 5),(gD a 6)],b)))) (fun a b=>
some (.ret,[(gD a 0),(gD a 1),(gD a 2),(gD a 3),(gD a 4),(gD a 5),(gD a 6)],b)))
(some ((.exit 0),[s0,d,e,c,j,a,i],h))):=by kernel_rfl
def Jim(n:Nat)(s0 d g e b c a:D)(h:Ae):BK Aa (QB Aa) Ry n f9 1 [s0,d,g,e,b,c,a] h=
(Ad (Ag .int .lss a c) fun i=>
Az i
(Ad (BG 1 b a) fun j=>
Ad (Ai none h j) fun m=>
Ah ((bY Aa) [s0,m] h) fun o k=>
Ad (Ag .int .add a (iD 1)) fun l=>
some (.normal,[s0,d,g,e,b,c,l],k))
(some ((.exit 2),[s0,d,g,e,b,c,a],h))):=by kernel_rfl
def Ib(n:Int):Bool:=decide (-9223372036854775808<=n)&&decide (n<=9223372036854775807)
def Bw{n:Int}(h:Ib n=true): -9223372036854775808<=n/\n<=9223372036854775807:=by simpa[Ib]using h
def La(l:Ac Int):By:=(l.map fun n=>BU (Ez n)).flatten
def KC(t:Ac (Ac Int)):By:=(t.map La).flatten
def Il(t:Ac (Ac Int))(f:Int):By:=BU f++BU t.length++BU (t.headD []).length++KC t
def Sq(l:Ac Int):(La l).length<=10*l.length:=by
 induction l with
 |nil=>simp[La]
 |cons a r b=>
  have:=(Et (Ez a)).2;simp only[La,EP,IX,DC,Ej]at b⊢;omega
def Qa4(l:Ac Int)(j:Nat)(h:j<l.length):La (l.take (j+1))=La (l.take j)++BU (Ez l[j]):=by
 rw[La,Ij h];simp only[La,JE,EP,J7,Xx,IX,PT,Lj]
def Jzl(t:Ac (Ac Int))(j:Nat)(h:j<t.length):KC (t.take (j+1))=KC (t.take j)++La t[j]:=by
 rw[KC,Ij h];simp only[KC,JE,EP,J7,Xx,IX,PT,Lj]
def JuB(t:Ac (Ac Int))(h:∀l∈t,l.length<=12):(KC t).length<=120*t.length:=by
 induction t with
 |nil=>simp[KC]
 |cons a r c=>
  have f:=Sq a;have e:=h a KE;have b:=c fun l d=>h l (QY _ d);simp only[KC,EP,IX,DC,Ej]at b⊢;omega
def JnL(t:Ac (Ac Int))(l:Ac Int)(i:Int)(H:Ae)(pre:By)(h:Ea H 0 1 pre)(d:pre.length+10*l.length+10<=3000000)(o:∀n∈l,Ib n=true)(s:l.length<=12):
  ∃H',BZ Aa (QB Aa) Ry 1001 f9 1 [.hp 0 0,BH t,iD t.length,iD i,AL l,iD l.length,iD 0] H=some (.exit 2,[.hp 0 0,BH t,iD t.length,iD i,AL l,iD l.length,iD l.length],H')/\Ea H' 0 1 (pre++La l):=by
 have q:=NT (P:=Aa) (T:=QB Aa) (kp:=Ry) (fn:= f9) (li:=1) (fun j=>[.hp 0 0,BH t,iD t.length,iD i,AL l,iD l.length,iD j]) (fun j H=>Ea H 0 1 (pre++La (l.take j)))
  (fun r=>∃H',r=(.exit 2,[.hp 0 0,BH t,iD t.length,iD i,AL l,iD l.length,iD l.length],H')/\Ea H' 0 1 (pre++La l)) l.length 1001 (fun j H a c=> ?_) (fun H c=> ?_) (by omega) (H:=H) (by simpa[La]using h)
 ·grind
 ·have v:=Sq (l.take j);have k:(l.take j).length<=l.length:=by simp;omega
  obtain⟨H',p,m,u⟩:=rF H 0 1 _ l[j] (Bw (o _ (Ih a))) c (by grind);refine⟨H',?_,by rw[Qa4 l j a,<-FV];exact m⟩;rw[Jim];have g:BG 1 (AL l) (iD j)=some (.ptr (IE l[j])):=GY l j a;have b:Ai none H (.ptr (IE l[j]))=some (iD l[j]):=rfl;simp only[G6 (show(j:Int)<l.length by omega),AU,Bd,Bv,g,b,p,A7,G5 j (by omega)];rfl
 ·refine⟨_,?_,?_,H,rfl,by grind⟩
  ·rw[Jim];simp
  ·intro e;cases e
def jP(t:Ac (Ac Int))(j:Nat):Ac D:=[.hp 0 0,BH t,iD t.length,iD j]++(match j with|0=>[.undef,.undef,.undef]|j+1=>[AL (t.getD j []),iD (t.getD j []).length,iD (t.getD j []).length])
def tL(t:Ac (Ac Int))(j:Nat):∃a b c,jP t j=[.hp 0 0,BH t,iD t.length,iD j,a,b,c]:=by
 cases j<;>exact⟨_,_,_,rfl⟩
def QcF(t:Ac (Ac Int))(H:Ae)(pre:By)(h:Ea H 0 1 pre)(p:pre.length<=1000)(ht:t.length<=20)(B:∀l∈t,∀n∈l,Ib n=true)(o:∀l∈t,l.length<=12):
  ∃H',BZ Aa (QB Aa) Ry 1001 f9 0 [.hp 0 0,BH t,iD t.length,iD 0,.undef,.undef,.undef] H=some (.exit 0,jP t t.length,H')/\Ea H' 0 1 (pre++KC t):=by
 have w:=NT (P:=Aa) (T:=QB Aa) (kp:=Ry) (fn:= f9) (li:=0) (jP t) (fun j H=>Ea H 0 1 (pre++KC (t.take j)))
  (fun r=>∃H',r=(.exit 0,jP t t.length,H')/\Ea H' 0 1 (pre++KC t)) t.length 1001 (fun j H g m=> ?_) (fun H m=> ?_) (by omega) (H:=H) (by simpa[KC]using h)
 ·obtain⟨r,v,C⟩:=w;obtain⟨H',rfl,y⟩:=C;exact⟨H',v,y⟩
 ·have F:=JuB (t.take j) fun l i=>o l (qD i);have x:(t.take j).length<=t.length:=by simp;omega
  have q:=Ih g;obtain⟨H',E,z⟩:=JnL t t[j] j H _ m (by grind) (B _ q) (o _ q);refine⟨H',?_,by rw[Jzl t j g,<-FV];exact z⟩;have d:t.getD j []=t[j]:=by grind
  have key:∀a b c:D,BK Aa (QB Aa) Ry 1001 f9 0 [.hp 0 0,BH t,iD t.length,iD j,a,b,c] H=some (.normal,[.hp 0 0,BH t,iD t.length,iD (j+1),AL t[j],iD t[j].length,iD t[j].length],H'):=by
   intro a b c;rw[Jfg];have u:BG 1 (BH t) (iD j)=some (.ptr (Iz t[j])):=KO Iz 1 t j g;have k:Ai none H (.ptr (Iz t[j]))=some (AL t[j]):=rfl;simp only[G6 (show(j:Int)<t.length by omega),AU,Bd,Bv,u,k,lW,E];have s:=G5 j (by omega);simp[s]
  have hs:jP t (j+1)=[.hp 0 0,BH t,iD t.length,iD (j+1),AL t[j],iD t[j].length,iD t[j].length]:=by
   simp only[jP,d];rfl
  rw[hs];cases j with
  |zero=>exact key _ _ _
  |succ j=>exact key _ _ _
 ·refine⟨_,?_,?_,H,rfl,by grind⟩
  ·have key:∀a b c:D,BK Aa (QB Aa) Ry 1001 f9 0 [.hp 0 0,BH t,iD t.length,iD t.length,a,b,c] H=some (.exit 0,[.hp 0 0,BH t,iD t.length,iD t.length,a,b,c],H):=by
    intro a b c;rw[Jfg];simp only[Me (show¬(t.length:Int)<t.length by omega),AU,Bd,BF,BC]
   obtain⟨a,b,c,e⟩:=tL t t.length
   grind
  ·intro e;cases e
def Xt(t:Ac (Ac Int))(f:Int):D:=
 if t=[]then .tup [sD [],iD 18]else if 12<(t.headD []).length then .tup [sD [],iD 18]else if JJ (t.headD []).length t f≠0 then .tup [sD [],iD (JJ (t.headD []).length t f)]else .tup [sD (Il t f),iD 0]
def Xl:Ac D->Af D:=F2 JD BV fun t f=>if t.length<=1000/\(t.all fun l=>l.all Ib)=true then some (Xt t f)else none
def Zu{p:Int}{t:Ac (Ac Int)}{f:Int}(h:JJ p t f=0):(1<=t.length/\t.length<=20)/\(∀l∈t,(l.length:Int)=p)/\1<=f/\f<=10000:=by
 unfold JJ at h;by_cases b:w2 t≠0
 ·omega
 ·rw[Am b]at h;by_cases a:w3 p t≠0
  ·omega
  ·rw[Am a]at h;refine⟨?_,?_,?_⟩
   ·have:=pO.1 b;unfold w2 at this;omega
   ·have:=pO.1 a;unfold w3 at this;simp_all
   ·unfold w4 at h;omega
def JsE{α:Type}(cs:Ac D)(H H':Ae)(k:Af α):Eb (.ptr cs) (some H) (some H') k=k:=rfl
theorem JbU:Bz Aa 9 Xl:=GK (kp:=Ry) Jmy AX func9 fun t f d h=>by
 split at h
 case isFalse=>cases h
 rename_i M;obtain⟨T,V⟩:=M;cases h;refine⟨1001,Xt t f,?_,AY.refl _⟩;show BB (AB _ _ _ _ _ [BH t,iD f] [])=_;rw[Jn1];unfold Ce;have m:∀a b:Int,Ag .int .eql (iD a) (iD b)=some (bD (decide (a=b))):=fun a b=>by rfl
 have o:∀a b:Int,Ag .int .gtr (iD a) (iD b)=some (bD (decide (b<a))):=fun a b=>rfl;have es:(CS)=sD []:=rfl;cases t with
 |nil=>rfl
 |cons a r=>
  have i:¬(((a::r).length:Nat):Int)=0:=by grind
  have z:BG 1 (BH (a::r)) (iD 0)=some (.ptr (Iz a)):=KO Iz 1 (a::r) 0 (by simp);have g:∀H,Ai none H (.ptr (Iz a))=some (AL a):=fun _=>rfl;have N:(a::r).headD []=a:=rfl;unfold Xt;rw[Am (by simp),N];by_cases s:12<a.length
  ·have c:(12:Int)<a.length:=by omega
   simp only[MG,AU,m,Dc i,Bd,BF,BC,z,g,lW,o,CZ c,Bv,Aw s];exact Gu _ _ rfl
  ·have c:¬(12:Int)<a.length:=by omega
   rw[Am s];have u:=uG a.length (a::r) f T [];by_cases q:JJ a.length (a::r) f≠0
   ·rw[Aw q];simp only[MG,AU,m,Dc i,Bd,BF,BC,z,g,lW,o,Dc c,u,A7,WM,CZ q,Bv];exact Gu _ _ rfl
   ·rw[Am q];have x:=pO.1 q;obtain⟨⟨t1,t2⟩,O,t4,t5⟩:=Zu x;have B:=Wy [];have v:=VT [];obtain⟨G,Y,L,a3⟩:=Ob _ _ _ _ f ⟨by omega,by omega⟩ B (by simp);have q1:=(Et f).2;have q2:=(Et ((a::r).length:Nat)).2;have q3:=(Et (a.length:Nat)).2;obtain⟨X,E,P,b3⟩:=Ob G _ _ _ ((a::r).length:Int) ⟨by omega,by omega⟩ L (by grind);obtain⟨J,U,Z,c3⟩:=Ob X _ _ _ (a.length:Int) ⟨by omega,by omega⟩ P (by grind);have w:∀l∈a::r,l.length<=12:=fun l j=>by have:=O l j;omega
    have p:∀l∈a::r,∀n∈l,Ib n=true:=fun l j n R=>Ew.1 (Ew.1 V l j) n R;obtain⟨Q,S,W⟩:=QcF (a::r) J _ Z (by grind) t2 p w;have y:=Xh Q _ _ _ W;have I:Dk .u64 (iD f)=some (BO f):=Nz _ _ (by omega) (by omega);have K:Dk .u64 (iD (a::r).length)=some (BO (a::r).length):=Nz _ _ (by omega) (by omega);have C:Dk .u64 (iD a.length)=some (BO a.length):=Nz _ _ (by omega) (by omega);have e:Il (a::r) f=[]++BU f++BU ((a::r).length:Nat)++BU (a.length:Nat)++KC (a::r):=by simp[Il]
    obtain⟨s1,s2,s3,F⟩:=tL (a::r) (a::r).length;rw[F]at S;have wh:∀(n:Int) (k:Af (D×Ae)),JS (iD n) k=k:=fun n k=>aJ _ k;rw[<-e]at y;simp only[MG,AU,m,Dc i,Bd,BF,BC,z,g,lW,o,Dc c,u,A7,WM,Dc q,v,I,Y,K,E,C,U,wh,JsE];simp_all
def JbC(t:Ac (Ac Int))(f:Int)(b:t.length<=1000)(a:(t.all fun l=>l.all Ib)=true)(H:Ae):Ak Xl [BH t,iD f] H=some (Xt t f,H):=by
 have hp:EC (Xt t f)=true:=by
  unfold Xt;split
  ·rfl
  ·split
   ·rfl
   ·split<;>rfl
 rw[CP _ _ _ rfl];have:Xl [BH t,iD f]=_:=JU (A:=JD) (B:=BV) _ t f
 grind
def Sv(fn:Func)(c:Nat)(st:LS):HO:= .loop st [16] (ET fn 0) (EL fn 0) 22 Y0 [.hp c 0]
def Uw:D:= .clo (.func 37) [.hp 1 0] []
structure QL(r:Rn)(c:Nat)(H:Ae)(l:By):Prop where
 wr:Ea H 1 2 l
 clo:Obj 1 c (.cells 77 1 [Uw]) H
 run:Obj 1 (c+1) (.cells 237 4 (Dn r)) H
 loop:Obj 1 (c+2) (Sv f209 c .ready) H
def QL.next{r:Rn}{c:Nat}{H H':Ae}{l a:By}(h:QL r c H l)(k:I9 1 [] H H')(w:Ea H' 1 2 a):QL r c H' a:=
 ⟨w,k.2 _ _ h.clo (by simp),k.2 _ _ h.run (by simp),k.2 _ _ h.loop (by simp)⟩
def qQ(r:Rn)(c:Nat)(H:Ae)(l:By)(n:Int)(h:QL r c H l)(m:Ib n=true)(y:l.length<=3000000):
  ∃H',YT Aa (c+2) [iD n] H=some (bD true,H')/\QL r c H' (l++BU (Ez n))/\I9 1 [c+2] H H':=by
 have q:YT Aa (c+2) [iD n] H=Jb Aa (SI Aa BM) 0 (c+2) [iD n] H:=rfl;have o:Jb Aa (SI Aa BM) 0 (c+2) [iD n] H=Mc Aa (SI Aa BM) 0 (c+2) [16] (ET f209 0) (EL f209 0) 22 Y0 [.hp c 0] [iD n] H:=by
  unfold Jb;rw[h.loop.1];simp only[Sv];rw[Aw];refine⟨rfl,?_,?_,?_,?_⟩<;>kernel_rfl
 rw[q,o,Jpj];have e:IZ (α:=D×Ae) (c+2) H=fun k=>k (H.set (c+2) (Sv f209 c .busy)):=by
  funext k;unfold IZ;rw[h.loop.1];rfl
 have p:=h.wr.put h.loop (Sv f209 c .busy);have g:I9 1 [c+2] H (H.set (c+2) (Sv f209 c .busy)):=I9.put h.loop _ (by simp);have w:=h.loop.put (Sv f209 c .busy);have s:=g.2 _ _ h.clo (by simp);have x:=g.2 _ _ h.run (by simp);obtain⟨b,v,t,i⟩:=rF _ 1 2 l n (Bw m) p (by omega);have ld:=Gs _ c _ _ _ _ s.1;have u:C9 (SI Aa BM) Uw [iD n] (H.set (c+2) (Sv f209 c .busy))=some (.hp 1 0,b):=v;have a:=w.kpw i;have j:I9 1 [c+2] H b:=g.trans (I9.kpw _ i);have d:I9 1 [c+2] H (b.set (c+2) (Sv f209 c .ready)):=j.trans (I9.put a _ (by simp));refine⟨b.set (c+2) (Sv f209 c .ready),?_,⟨t.put a _,d.2 _ _ h.clo (by simp),d.2 _ _ h.run (by simp),a.put _⟩,d⟩;simp only[e,ld,AU,u,A7];unfold J9;rw[a.1];rfl
def jH(e:Int×Int×Int):By:=BU (Ez e.1)++BU (Ez e.2.1)++BU (Ez e.2.2)
def RN(l:Ac (Int×Int×Int)):By:=(l.map jH).flatten
def mZ(r:Rn):By:=BU (r.evs.length:Nat)++RN r.evs++BU (Ez r.k)++BU (Ez r.v)
def xQ(e:Int×Int×Int):Bool:=Ib e.1&&Ib e.2.1&&Ib e.2.2
def JrM(e:Int×Int×Int):(jH e).length<=30:=by
 have c:=(Et (Ez e.1)).2;have b:=(Et (Ez e.2.1)).2;have a:=(Et (Ez e.2.2)).2;simp only[jH,DC];omega
def oB(l:Ac (Int×Int×Int)):(RN l).length<=30*l.length:=by
 induction l with
 |nil=>simp[RN]
 |cons a r b=>
  have:=JrM a;simp only[RN,EP,IX,DC,Ej]at b⊢;omega
def QbT(l:Ac (Int×Int×Int))(j:Nat)(h:j<l.length):RN (l.take (j+1))=RN (l.take j)++jH l[j]:=by
 rw[RN,Ij h];simp only[RN,JE,EP,J7,Xx,IX,PT,Lj]
def Qft(r:Rn)(c:Nat)(H:Ae)(l:By)(j:Nat)(L:j<r.evs.length)(x:xQ r.evs[j]=true)(h:QL r c H l)(hl:l.length<=2000000)(Z:j<=1000000)(m:Nat):
  ∃H',BK Aa (Lc Aa (YT Aa)) Zl m f312 0 [.yld (c+2),.hp (c+1) 0,MM r.evs,iD r.evs.length,iD j] H=
   some (.normal,[.yld (c+2),.hp (c+1) 0,MM r.evs,iD r.evs.length,iD ((j+1:Nat):Int)],H')/\QL r c H' (l++jH r.evs[j]):=by
 have P:=KO Jv 3 r.evs j L;generalize r.evs[j]=e at*;obtain⟨a,b,d⟩:=e;simp only[xQ,DJ]at x;obtain⟨⟨C,R⟩,E⟩:=x;have al:BX 433 [iD 0,iD 0,iD 0] H=some (.hp H.length 0,H++[.cells 433 3 [iD 0,iD 0,iD 0]]):=rfl;have st:Bh 3 (.hp H.length 0) (.agg (Jv (a,b,d))) (H++[.cells 433 3 [iD 0,iD 0,iD 0]])=some (.v undef,H++[.cells 433 3 (Jv (a,b,d))]):=by
  rw[KG (n:=3) (cs:=[iD 0,iD 0,iD 0]) (ds:=Jv (a,b,d)) (Hz H _) rfl rfl rfl,NP]
 have O:QL r c (H++[.cells 433 3 (Jv (a,b,d))]) l:=h.next (I9.app h.wr.lt _) (h.wr.app _);have s:=h.wr.obj (.cells 433 3 (Jv (a,b,d)));have z:c+2<H.length:=h.loop.lt;generalize H++[HO.cells 433 3 (Jv (a,b,d))]=u at*;have X:=(Et (Ez a)).2;have Y:=(Et (Ez b)).2;obtain⟨p,S,D,J⟩:=qQ r c u l a O C (by omega);have v:=J.2 _ _ s (by simp;omega);obtain⟨g,I,K,B⟩:=qQ r c p _ b D R (by simp only[DC];omega);have F:=B.2 _ _ v (by simp;omega);obtain⟨w,M,Q,W⟩:=qQ r c g _ d K E (by simp only[DC];omega);refine⟨w,?_,by simpa[jH,FV]using Q⟩;rw[Jki];unfold AV Ce Dw;have ld:∀H:Ae,Ai (some 3) H (.ptr (Jv (a,b,d)))=some (.agg (Jv (a,b,d))):=fun _=>rfl;have y:AP 0 (.hp H.length 0)=some (.hp H.length 0):=rfl;have T:AP 1 (.hp H.length 0)=some (.hp H.length 1):=rfl;have N:AP 2 (.hp H.length 0)=some (.hp H.length 2):=rfl;have G:=D6 _ _ 0 _ _ _ (iD a) s.1 rfl;have U:=D6 _ _ 1 _ _ _ (iD b) v.1 rfl;have V:=D6 _ _ 2 _ _ _ (iD d) F.1 rfl;have k:C9 (Lc Aa (YT Aa)) (.yld (c+2)) [iD a] u=some (bD true,p):=S;have i:C9 (Lc Aa (YT Aa)) (.yld (c+2)) [iD b] p=some (bD true,g):=I;have q:C9 (Lc Aa (YT Aa)) (.yld (c+2)) [iD d] g=some (bD true,w):=M;have o:BG 3 (MM r.evs) (iD j)=some (.ptr (Jv (a,b,d))):=P;simp only[G6 (show(j:Int)<r.evs.length by omega),AU,Bd,Bv,o,ld,al,A7,st,y,G,k,Yr,MX,BF,BC,T,U,i,N,V,q,G5 j (by omega)];rfl
def Qar(r:Rn)(c:Nat)(H:Ae)(l:By)(h:QL r c H l)(F:r.evs.all xQ=true)(y:Ib r.k=true)(v:Ib r.v=true)(O:l.length<=1000)(S:r.evs.length<=20000):
  ∃H',wY Aa (YT Aa) [.yld (c+2),.hp (c+1) 0] H=some (.tup [],H')/\QL r c H' (l++RN r.evs++BU (Ez r.k)++BU (Ez r.v)):=by
 have loop:=NT (P:=Aa) (T:=Lc Aa (YT Aa)) (kp:=Zl) (fn:= f312) (li:=0) (fun j=>[.yld (c+2),.hp (c+1) 0,MM r.evs,iD r.evs.length,iD j]) (fun j H=>QL r c H (l++RN (r.evs.take j)))
  (fun x=>∃H',x=(.exit 0,[.yld (c+2),.hp (c+1) 0,MM r.evs,iD r.evs.length,iD r.evs.length],H')/\QL r c H' (l++RN r.evs)) r.evs.length 30000 (fun j H d a=>by
   have M:=oB (r.evs.take j);have L:(r.evs.take j).length<=20000:=by simp;omega
   obtain⟨H',q,z⟩:=Qft r c H _ j d (Ew.1 F _ (Ih d)) a (by grind) (by omega) 30000;exact⟨H',q,by rw[QbT _ j d,<-FV];exact z⟩) (fun H a=>by
   rw[II]at a;refine⟨_,?_,?_,H,rfl,a⟩
   ·rw[Jki];unfold AV Ce Dw;simp
   ·intro e;cases e) (by omega) (H:=H) (by simpa[RN]using h)
 obtain⟨x,I,g,rfl,n⟩:=loop;have Q:=(Et (Ez r.k)).2;have R:=oB r.evs;obtain⟨k,G,o,K⟩:=qQ r c g _ r.k n y (by grind);obtain⟨p,J,t,N⟩:=qQ r c k _ r.v o v (by grind);refine⟨p,?_,t⟩;rw[wY,CJ func312,Jmz];unfold AV;have E:AP 3 (.hp (c+1) 0)=some (.hp (c+1) 3):=rfl;have u:AP 0 (.hp (c+1) 0)=some (.hp (c+1) 0):=rfl;have B:AP 1 (.hp (c+1) 0)=some (.hp (c+1) 1):=rfl;have D:=D6 _ _ 3 _ _ _ (MM r.evs) h.run.1 rfl;have s:=D6 _ _ 0 _ _ _ (iD r.k) n.run.1 rfl;have w:=D6 _ _ 1 _ _ _ (iD r.v) o.run.1 rfl;have C:Bq .sl (MM r.evs)=some (iD r.evs.length):=by simp[Bq,OT,MM]
 have m:C9 (Lc Aa (YT Aa)) (.yld (c+2)) [iD r.k] g=some (bD true,k):=G;have i:C9 (Lc Aa (YT Aa)) (.yld (c+2)) [iD r.v] k=some (bD true,p):=J;have b:BZ Aa (Lc Aa (YT Aa)) Zl 30000 f312 0 [.yld (c+2),.hp (c+1) 0,MM r.evs,iD r.evs.length,iD 0] H=some (.exit 0,[.yld (c+2),.hp (c+1) 0,MM r.evs,iD r.evs.length,iD r.evs.length],g):=I;simp only[E,AU,D,C,b,Kw,Kv,NJ,NM,u,s,m,A7,Bd,Bv,B,w,i]
def xF:Ac D->Af (Int×Int×Int)
 |[a,b,c]=>(Dz a).bind fun x=>(Dz b).bind fun y=>(Dz c).map fun z=>(x,y,z)
 |_=>none
def sV:EU (Ac (Int×Int×Int)):=Cs Jv xF 3 (fun _=>rfl) (fun e a h=>by
 unfold xF at h;split at h
 ·rename_i x y z;cases b:Dz x with
  |none=>rw[b]at h;cases h
  |some f=>
   cases c:Dz y with
   |none=>grind
   |some i=>
    cases d:Dz z with
    |none=>grind
    |some g=>
     rw[b,c,d]at h;cases h;exact .cons (BV.ok _ _ b) (.cons (BV.ok _ _ c) (.cons (BV.ok _ _ d) .nil))
 ·cases h) (fun _=>rfl)
def Sn:Ac D->Af Rn
 |[a,b,c,d]=>(Dz a).bind fun k=>(Dz b).bind fun v=>(Dz c).bind fun s=>(sV.dec d).map fun l=>⟨k,v,s,l⟩
 |_=>none
def FR:D->Af Rn
 | .agg cs=>Sn cs
 |_=>none
def JoO(r:Rn):FR (.agg (Dn r))=some r:=by
 have:sV.dec (MM r.evs)=some r.evs:=sV.back r.evs;simp[FR,Sn,Dn,this,Dz]
def GJ:EU Rn:=⟨fun r=> .agg (Dn r),FR,JoO,fun d r h=>by
 unfold FR at h;split at h
 ·rename_i cs;unfold Sn at h;split at h
  ·rename_i a b c d;cases e:Dz a with
   |none=>rw[e]at h;cases h
   |some m=>
    cases i:Dz b with
    |none=>grind
    |some k=>
     cases f:Dz c with
     |none=>grind
     |some l=>
      cases g:sV.dec d with
      |none=>grind
      |some j=>
       rw[e,i,f,g]at h;cases h;exact AY.agg (.cons (BV.ok _ _ e) (.cons (BV.ok _ _ i) (.cons (BV.ok _ _ f) (.cons (sV.ok _ _ g) .nil))))
  ·cases h
 ·cases h⟩
theorem Je8:∀l:Ac (Int×Int×Int),OX (l.map Jv) (l.map Jv)=true
 |[]=>rfl
 |e::r=>by simp[OX,Jv,Je8 r]
def Ri(r:Rn):Bool:=r.evs.all xQ&&Ib r.k&&Ib r.v&&decide (r.evs.length<=20000)
def uU:Ac D->Af D:=F1 GJ fun r=>if Ri r=true then some (sD (mZ r))else none
def Jpu:Bz Aa 209 uU:=FC (kp:=Y0) (Jjg _ Jrf) AX func209 fun r d h=>by
 split at h
 case isFalse=>cases h
 rename_i q;cases h;simp only[Ri,DJ,F5]at q;obtain⟨⟨⟨y,E⟩,G⟩,K⟩:=q;refine⟨0,_,?_,AY.refl _⟩;show BB (AB _ _ _ _ _ [.agg (Dn r)] [])=_;rw[JvH];have N:BA 237 (.agg (Dn r)) []=some (.hp 0 0,[.cells 237 4 (Dn r)]):=rfl;have s:=VT [.cells 237 4 (Dn r)];have p:Ea [.cells 237 4 (Dn r),.cells 164 1 [Aq]] 1 2 []:=Wy [.cells 237 4 (Dn r)];have H:AP 3 (.hp 0 0)=some (.hp 0 3):=rfl;have J:Ai none [.cells 237 4 (Dn r),.cells 164 1 [Aq]] (.hp 0 3)=some (MM r.evs):=rfl;have F:Bq .sl (MM r.evs)=some (iD r.evs.length):=by simp[Bq,OT,MM]
 have u:Dk .u64 (iD r.evs.length)=some (BO r.evs.length):=Nz _ _ (by omega) (by omega);have Q:Obj 1 0 (.cells 237 4 (Dn r)) [.cells 237 4 (Dn r),.cells 164 1 [Aq]]:=p.old (by omega) (by omega) rfl;obtain⟨a,L,m,M⟩:=Ob _ 1 2 [] r.evs.length ⟨by omega,by omega⟩ p (by simp);have B:=Q.kpw M;have v:∀k:Af (D×Ae),Eb (.hp 0 3) (some [.cells 237 4 (Dn r)]) (some [.cells 237 4 (Dn r),.cells 164 1 [Aq]]) k=k:=fun k=>Pe 0 3 _ _ _ _ _ k rfl rfl (by
  simp[Dn,MM,eqB,Je8,Xd])
 have al:BX 77 [BI] a=some (.hp a.length 0,a++[.cells 77 1 [BI]]):=rfl;have st:Bh 1 (.hp a.length 0) Uw (a++[.cells 77 1 [BI]])=some (.v undef,a++[.cells 77 1 [Uw]]):=by
  rw[IV _ a.length 0 _ _ [BI] Uw (Hz a _) (by simp) rfl rfl,NP];rfl
 have C:=m.obj (.cells 77 1 [Uw]);have w2:=m.app [.cells 77 1 [Uw]];have z:=B.app m.lt [.cells 77 1 [Uw]];have b:(a++[HO.cells 77 1 [Uw]]).length=a.length+1:=by simp
 generalize S:a.length=c at*;generalize a++[HO.cells 77 1 [Uw]]=e at*;have x:Ai (some 4) e (.hp 0 0)=some (.agg (Dn r)):=by rw[Es,z.1];rfl
 have w:yI Aa [.agg (Dn r)] e=some (.clo (.func 312) [] [.hp (c+1) 0],e++[.cells 237 4 (Dn r)]):=by
  rw[yI,CJ func272,JnE];have:BA 237 (.agg (Dn r)) e=some (.hp (c+1) 0,e++[.cells 237 4 (Dn r)]):=by rw[<-b];rfl
  rw[this];rfl
 have o:=w2.obj (.cells 237 4 (Dn r));rw[b]at o;have w3:=w2.app [.cells 237 4 (Dn r)];have P:=C.app w2.lt [.cells 237 4 (Dn r)];have i:(e++[HO.cells 237 4 (Dn r)]).length=c+2:=by simp[b]
 generalize e++[HO.cells 237 4 (Dn r)]=g at*;have lp:=w3.obj (Sv f209 c .ready);rw[i]at lp;have j:QL r c (g++[Sv f209 c .ready]) (BU r.evs.length):=⟨by simpa using w3.app _,P.app w3.lt _,o.app w3.lt _,lp⟩;have R:=(Et (r.evs.length:Nat)).2;obtain⟨O,I,n⟩:=Qar r c _ _ j y E G (by omega) K;have l:IK (SI Aa (YT Aa)) (.clo (.func 312) [] [.hp (c+1) 0]) [16] (ET f209 0) (EL f209 0) 22 Y0 [.hp c 0] g=some (.normal,O.set (c+2) .dead):=by
  have:IK (SI Aa (YT Aa)) (.clo (.func 312) [] [.hp (c+1) 0]) [16] (ET f209 0) (EL f209 0) 22 Y0 [.hp c 0] g=
   MQ (wY Aa (YT Aa) [.yld g.length,.hp (c+1) 0] (g++[Sv f209 c .ready])) g.length:=rfl
  rw[this,i,I];unfold MQ;simp only[n.loop.1];rfl
 have DK:=Xh _ 1 2 _ (n.wr.put n.loop .dead);rw[show Uw=D.clo (.func 37) [.hp 1 0] []from rfl]at st;simp only[N,A7,s,Oh,Jkt,H,AU,J,F,u,L,v,aJ,al,st,x,w,l,mP,DK];exact ZT _ _
def Jie(P:Aj):Ac Cj:=(209,true,Ak uU)::(208,true,Ak (oK P))::[]
def Joa:∀p∈Jie Aa,Ci Aa p:=AC (Bf Jpu)<|AC (Bf JvU)<|EN
def TTd(P:Aj):Tab:=⟨Jie P,BM,[]⟩
def Jpt:Bg Aa (TTd Aa):=CU Joa
def Jal:Ac Nat:=[]
def JtE(n:Nat)(b:D)(h:Ae):AB Aa (TTd Aa) Jal n f151 [b] h=
(Ah (BA 237 b h) fun i a=>
Ad (Ai (some 4) a i) fun g=>
Ah (Ak uU [g] a) fun c d=>
Ah (Ak (oK Aa) [c] d) fun e j=>
some (e,j)):=by kernel_rfl
def Tv(r:Rn):By:=HC (mZ r)
def Jm8(r:Rn):(Tv r).length=32:=QcB _
def JoV(r:Rn)(h:Ri r=true):(mZ r).length<=700000:=by
 simp only[Ri,DJ,F5]at h;have d:=(Et (r.evs.length:Nat)).2;have c:=oB r.evs;have b:=(Et (Ez r.k)).2;have a:=(Et (Ez r.v)).2;simp only[mZ,DC];omega
def aI:Ac D->Af D:=F1 GJ fun r=>if Ri r=true then some (sD (Tv r))else none
def Jj4:Bz Aa 151 aI:=FC (kp:=Jal) Jpt AX func151 fun r d h=>by
 split at h
 case isFalse=>cases h
 rename_i a;cases h;refine⟨0,_,?_,AY.refl _⟩;show BB (AB _ _ _ _ _ [.agg (Dn r)] [])=_;rw[JtE];have c:BA 237 (.agg (Dn r)) []=some (.hp 0 0,[.cells 237 4 (Dn r)]):=rfl;have g:Ai (some 4) [.cells 237 4 (Dn r)] (.hp 0 0)=some (.agg (Dn r)):=rfl;have e:Ak uU [.agg (Dn r)] [.cells 237 4 (Dn r)]=some (sD (mZ r),[.cells 237 4 (Dn r)]):=by
  rw[CP _ _ _ rfl,show uU [.agg (Dn r)]=_ from EO (A:=GJ) _ r,Aw a];rfl
 have b:Ak (oK Aa) [sD (mZ r)] [.cells 237 4 (Dn r)]=some (sD (Tv r),[.cells 237 4 (Dn r)]):=by
  rw[CP _ _ _ rfl,Qb3 _ (by have:=JoV r a;omega)];rfl
 simp only[c,A7,g,AU,e,b];exact ZT _ _
def Jn2(r:Rn)(h:Ri r=true)(H:Ae):Ak aI [.agg (Dn r)] H=some (sD (Tv r),H):=by
 rw[CP _ _ _ rfl,show aI [.agg (Dn r)]=_ from EO (A:=GJ) _ r,Aw h];rfl
def Jej:Ac Nat:=[]
def Jwz(n:Nat)(x0:D)(h:Ae):AB Aa TE Jej n f76 [x0] h=
(Ah (BA 107 x0 h) fun b a=>
AV 4 none a b fun y3=>
Ad (Ag .int .geq y3 (iD 0)) fun y4=>
Az y4
(AV 4 none a b fun y6=>
Ad (Ag .int .lss y6 (iD 20)) fun y7=>
Az y7
(AV 7 none a b fun y9=>
Ad (Bq .str y9) fun p=>
Ad (Ag .int .eql p (iD 32)) fun g=>
AV 3 none a b fun c=>
Ad (Ag .int .eql c (iD 0)) fun J=>
Az J
(AV 4 none a b fun x=>
Ad (Ag .int .eql x (iD (-1))) fun Y=>
Az Y
(AV 5 (some 2) a b fun L=>
Ad (CY [(0,1),(1,1)] [(iD 0),(iD 0)] []) fun X=>
Ad (Ag (.ints 2) .eql L X) fun o=>
Az o
(AV 7 none a b fun E=>
Ad (Ag .str .eql E CS) fun S=>
some (S,a))
(some ((bD false),a)))
(some ((bD false),a)))
(Ad (Ag .int .eql c (iD 1)) fun ae=>
Az ae
(Az g
(Ad (AP 5 b) fun i=>
AV 0 none a i fun y=>
Ad (Ag .int .geq y (iD 0)) fun j=>
Az j
(Ad (AP 5 b) fun ad=>
AV 0 none a ad fun ab=>
Ad (Ag .int .leq ab (iD 3)) fun G=>
Az G
(Ad (AP 5 b) fun k=>
AV 0 none a k fun l=>
Ad (Ag .int .eql l (iD 0)) fun Q=>
Az Q
(some ((bD true),a))
(Ad (AP 5 b) fun V=>
AV 1 none a V fun M=>
Ad (Ag .int .eql M (iD 0)) fun P=>
some (P,a)))
(some ((bD false),a)))
(some ((bD false),a)))
(some ((bD false),a)))
(Ad (Ag .int .eql c (iD 2)) fun af=>
Az af
(Az g
(AV 5 (some 2) a b fun K=>
Ad (CY [(0,1),(1,1)] [(iD 0),(iD 0)] [(0,(iD 4))]) fun N=>
Ad (Ag (.ints 2) .eql K N) fun ac=>
some (ac,a))
(some ((bD false),a)))
(some ((bD false),a)))))
(AV 3 none a b fun d=>
Ad (Ag .int .eql d (iD 0)) fun s=>
Az s
(AV 4 none a b fun Z=>
Ad (Ag .int .eql Z (iD (-1))) fun H=>
Az H
(AV 5 (some 2) a b fun B=>
Ad (CY [(0,1),(1,1)] [(iD 0),(iD 0)] []) fun z=>
Ad (Ag (.ints 2) .eql B z) fun W=>
Az W
(AV 7 none a b fun aa=>
Ad (Ag .str .eql aa CS) fun m=>
some (m,a))
(some ((bD false),a)))
(some ((bD false),a)))
(Ad (Ag .int .eql d (iD 1)) fun R=>
Az R
(some ((bD false),a))
(Ad (Ag .int .eql d (iD 2)) fun u=>
Az u
(some ((bD false),a))
(some ((bD false),a))))))
(AV 3 none a b fun e=>
Ad (Ag .int .eql e (iD 0)) fun O=>
Az O
(AV 4 none a b fun I=>
Ad (Ag .int .eql I (iD (-1))) fun C=>
Az C
(AV 5 (some 2) a b fun w=>
Ad (CY [(0,1),(1,1)] [(iD 0),(iD 0)] []) fun U=>
Ad (Ag (.ints 2) .eql w U) fun F=>
Az F
(AV 7 none a b fun q=>
Ad (Ag .str .eql q CS) fun T=>
some (T,a))
(some ((bD false),a)))
(some ((bD false),a)))
(Ad (Ag .int .eql e (iD 1)) fun v=>
Az v
(some ((bD false),a))
(Ad (Ag .int .eql e (iD 2)) fun r=>
Az r
(some ((bD false),a))
(some ((bD false),a)))))):=by kernel_rfl
def JbD(m:Mu):Prop:=m.v=0/\m.test= -1/\m.kind=0/\m.value=0/\m.dig=[]
def Jji(m:Mu):Prop:=m.v=1/\(0<=m.test/\m.test<20)/\m.dig.length=32/\(0<=m.kind/\m.kind<=3)/\(m.kind=0\/m.value=0)
def JcG(m:Mu):Prop:=m.v=2/\(0<=m.test/\m.test<20)/\m.dig.length=32/\m.kind=4/\m.value=0
def VZ(m:Mu):Prop:=JbD m\/Jji m\/JcG m
instance (m:Mu):Decidable (VZ m):=by unfold VZ JbD Jji JcG;exact inferInstance
def bZ:Ac D->Af D:=F1 mX fun m=>if VZ m then some (bD true)else none
def TS(a b:Int):Ag .int .eql (iD a) (iD b)=some (bD (decide (a=b))):=by
 show some (bD (a==b))=_;congr 2
def Jg1:Bz Aa 76 bZ:=FC (kp:=Jej) wG AX func76 fun m d h=>by
 split at h
 case isFalse=>cases h
 rename_i J;cases h;refine⟨0,bD true,?_,AY.refl _⟩;show BB (AB _ _ _ _ _ [FX m] [])=_;rw[Jwz];unfold AV;have a:BA 107 (FX m) []=some (.hp 0 0,[.cells 107 8 (BL m)]):=rfl;have s:AP 3 (.hp 0 0)=some (.hp 0 3):=rfl;have v:AP 4 (.hp 0 0)=some (.hp 0 4):=rfl;have w:AP 5 (.hp 0 0)=some (.hp 0 5):=rfl;have j:AP 0 (.hp 0 5)=some (.hp 0 5):=rfl;have k:AP 1 (.hp 0 5)=some (.hp 0 6):=rfl;have p:AP 7 (.hp 0 0)=some (.hp 0 7):=rfl;have n:Ai none [.cells 107 8 (BL m)] (.hp 0 3)=some (iD m.v):=rfl;have x:Ai none [.cells 107 8 (BL m)] (.hp 0 4)=some (iD m.test):=rfl;have C:Ai none [.cells 107 8 (BL m)] (.hp 0 5)=some (iD m.kind):=rfl;have D:Ai none [.cells 107 8 (BL m)] (.hp 0 6)=some (iD m.value):=rfl;have i:Ai (some 2) [.cells 107 8 (BL m)] (.hp 0 5)=some (.agg [iD m.kind,iD m.value]):=rfl;have u:Ai none [.cells 107 8 (BL m)] (.hp 0 7)=some (sD m.dig):=rfl;have H:(CS)=sD []:=rfl;rw[H];rcases J with⟨b,e,c,y,g⟩|⟨b,⟨e,c⟩,y,⟨g,l⟩,G⟩|⟨b,⟨e,c⟩,y,g,l⟩
 ·have B:CY [(0,1),(1,1)] [iD 0,iD 0] []=some (.agg [iD 0,iD 0]):=rfl;have q:Ag (.ints 2) .eql (.agg [iD 0,iD 0]) (.agg [iD 0,iD 0])=some (bD true):=rfl;have E:¬(0:Int)<=m.test:=by omega
  simp only[a,A7,s,v,w,p,AU,n,x,i,u,PQ,TS,Dc E,CZ b,CZ e,Bd,BF,BC,Bv,c,y,g,B,q,Sd];exact Gu _ _ rfl
 ·have r:((m.dig.length:Nat):Int)=32:=by omega
  have o:¬m.v=0:=by omega
  by_cases z:m.kind=0
  ·simp only[a,A7,s,v,w,j,k,p,AU,n,x,C,D,u,Ue,PQ,Ve,TS,G6 c,CZ e,CZ r,Dc o,CZ b,CZ g,CZ l,CZ z,Bd,BF,BC,Bv];exact Gu _ _ rfl
  ·have F:=G.resolve_left z;simp only[a,A7,s,v,w,j,k,p,AU,n,x,C,D,u,Ue,PQ,Ve,TS,G6 c,CZ e,CZ r,Dc o,CZ b,CZ g,CZ l,Dc z,CZ F,Bd,BF,BC,Bv];exact Gu _ _ rfl
 ·have r:((m.dig.length:Nat):Int)=32:=by omega
  have o:¬m.v=0:=by omega
  have I:¬m.v=1:=by omega
  have B:CY [(0,1),(1,1)] [iD 0,iD 0] [(0,iD 4)]=some (.agg [iD 4,iD 0]):=rfl;have q:Ag (.ints 2) .eql (.agg [iD 4,iD 0]) (.agg [iD 4,iD 0])=some (bD true):=rfl;simp only[a,A7,s,v,w,p,AU,n,x,i,u,Ue,PQ,TS,G6 c,CZ e,CZ r,Dc o,Dc I,CZ b,Bd,BF,BC,Bv,g,l,B,q];exact Gu _ _ rfl
def cM(m:Mu)(h:VZ m)(H:Ae):Ak bZ [FX m] H=some (bD true,H):=by
 rw[CP _ _ _ rfl];have:bZ [FX m]=_:=EO (A:=mX) _ m;rw[this,Aw h];rfl
def Jfj:Ac Nat:=[]
def Jvt(n:Nat)(g i:D)(h:Ae):AB Aa TE Jfj n f150 [g,i] h=
(Ah (BA 105 g h) fun e l=>
Ah (BA 105 i l) fun j a=>
AV 0 none a e fun m=>
Ad (Ag .int .eql m (iD 4)) fun k=>
Az k
(some ((iD 0),a))
(AV 0 none a j fun o=>
Ad (Ag .int .eql o (iD 4)) fun p=>
Az p
(some ((iD 2),a))
(Ad (Ai (some 2) a j) fun b=>
Ad (Ai (some 2) a e) fun d=>
Ad (Ag (.ints 2) .neq b d) fun c=>
Az c
(some ((iD 1),a))
(some ((iD 0),a))))):=by kernel_rfl
def SB(x:Nd):D:= .agg (Cb x)
def Jf1:D->Af Nd
 | .agg [a,b]=>(Dz a).bind fun a=>(Dz b).map fun b=>(a,b)
 |_=>none
def K9:EU Nd:=⟨SB,Jf1,fun _=>rfl,fun d x h=>by
 unfold Jf1 at h;split at h
 ·obtain⟨a,e,h⟩:=Bi.1 h;obtain⟨b,c,h⟩:=DV.1 h;subst h;exact AY.agg (.cons (BV.ok _ _ e) (.cons (BV.ok _ _ c) .nil))
 ·cases h⟩
def LW(a b:Nd):Int:=if a.1=4 then 0 else if b.1=4 then 2 else if b=a then 0 else 1
def jF:Ac D->Af D:=F2 K9 K9 fun a b=>some (iD (LW a b))
def Jjs:Bz Aa 150 jF:=GK (kp:=Jfj) wG AX func150 fun a b d h=>by
 cases h
 refine⟨0,iD (LW a b),?_,AY.refl _⟩;show BB (AB _ _ _ _ _ [SB a,SB b] [])=_;rw[Jvt];unfold AV;have j:BA 105 (SB a) []=some (.hp 0 0,[.cells 105 2 (Cb a)]):=rfl;have g:BA 105 (SB b) [.cells 105 2 (Cb a)]=some (.hp 1 0,[.cells 105 2 (Cb a),.cells 105 2 (Cb b)]):=rfl;have k:AP 0 (.hp 0 0)=some (.hp 0 0):=rfl;have m:AP 0 (.hp 1 0)=some (.hp 1 0):=rfl;have l:Ai none [.cells 105 2 (Cb a),.cells 105 2 (Cb b)] (.hp 0 0)=some (iD a.1):=rfl;have n:Ai none [.cells 105 2 (Cb a),.cells 105 2 (Cb b)] (.hp 1 0)=some (iD b.1):=rfl;have p:Ai (some 2) [.cells 105 2 (Cb a),.cells 105 2 (Cb b)] (.hp 0 0)=some (.agg (Cb a)):=rfl;have o:Ai (some 2) [.cells 105 2 (Cb a),.cells 105 2 (Cb b)] (.hp 1 0)=some (.agg (Cb b)):=rfl;unfold LW;by_cases c:a.1=4
 ·simp only[j,g,A7,k,m,AU,l,TS,CZ c,Bd,Bv,Aw c];exact Gu _ _ rfl
 ·by_cases e:b.1=4
  ·simp only[j,g,A7,k,m,AU,l,n,TS,Dc c,CZ e,Bd,Bv,BF,BC,Am c,Aw e];exact Gu _ _ rfl
  ·by_cases i:b=a
   ·simp only[j,g,A7,k,m,AU,l,n,p,o,TS,Dc c,Dc e,CZ i,Jfc,MX,Bd,BF,BC,Am c,Am e,Aw i];exact Gu _ _ rfl
   ·simp only[j,g,A7,k,m,AU,l,n,p,o,TS,Dc c,Dc e,Dc i,Jfc,zT,Bd,Bv,BF,BC,Am c,Am e,Am i];exact Gu _ _ rfl
def JuI(a b:Nd)(H:Ae):Ak jF [SB a,SB b] H=some (iD (LW a b),H):=by
 rw[CP _ _ _ rfl];have:jF [SB a,SB b]=_:=JU (A:=K9) (B:=K9) _ a b;rw[this];rfl
def GL:Nat->Ac Nd->Int->Ac Int->Ac (Int×Ac Int)
 |0,_,i,own=>[(i,own)]
 |f+1,l,i,own=>(i,own)::(AZ l i).zipIdx.flatMap fun x=>GL f l x.1 (own++[(x.2:Int)])
def TB(f:Nat)(l:Ac Nd)(i:Int)(own:Ac Int)(c:Nat):Ac (Int×Ac Int):=((AZ l i).zipIdx.take c).flatMap fun x=>GL f l x.1 (own++[(x.2:Int)])
def Jxw(f:Nat)(l:Ac Nd)(i:Int)(own:Ac Int):TB f l i own 0=[]:=rfl
def Cz(f:Nat)(l:Ac Nd)(i:Int)(own:Ac Int)(c:Nat)(h:c<(AZ l i).length):
  TB f l i own (c+1)=TB f l i own c++GL f l (AZ l i)[c] (own++[(c:Int)]):=by
 unfold TB;rw[Ij (by simpa using h),eU];simp
def JgW(f:Nat)(l:Ac Nd)(i:Int)(own:Ac Int):(i,own)::TB f l i own (AZ l i).length=GL (f+1) l i own:=by
 rw[GL,TB,Q4 (by simp)]
def Jc4(f:Nat)(l:Ac Nd)(i:Int)(own:Ac Int)(c:Nat):(i,own)::TB f l i own c<+:GL (f+1) l i own:=by
 rw[GL];refine List.cons_prefix_cons.2 ⟨rfl,?_⟩;unfold TB;have h:=Zd c (AZ l i).zipIdx
 conv=>rhs;rw[<-h,eU]
 exact zW _ _
def QaR(f:Nat)(l:Ac Nd)(i:Int)(own:Ac Int)(c:Nat)(h:c<(AZ l i).length)(q:Ac (Int×Ac Int))(a:q<+:GL f l (AZ l i)[c] (own++[(c:Int)])):
  (i,own)::TB f l i own c++q<+:GL (f+1) l i own:=by
 refine List.IsPrefix.trans ?_ (Jc4 f l i own (c+1));rw[Cz f l i own c h];obtain⟨r,b⟩:=a;exact⟨r,by rw[<-b];simp⟩
def Jw8(f:Nat)(l:Ac Nd)(i:Int)(own:Ac Int):0<(GL f l i own).length:=by cases f<;>simp[GL]
section
open Go.RowKit Go.Shelf
attribute [local go_sem] Oper.semAt_some
set_option maxHeartbeats 1000000 in
def JdI(l:Ac Int)(v:Ap)(w:AA)(S:Nat->Prop)(hS:∀k,S k->k<w.heap.size)(hv:IntsIn S w v l)(hl:l.length<=4000000):
  Calls prog 261 #[v] w fun e w'=>∃u,e= .returned u/\w'.ownsRow w.heap.size 3 1 u l.length (l.map (Value.int .i64))/\Below w.heap.size w w':=by
 obtain⟨i0,hi,hz0,hz1,hz2⟩:=info_parts NA;have qT:∀(w:AA) (a:Af Addr) (n c n' c':Nat),(binOp .eql 22 (.slice a n c) (.slice none n' c')).run prog w= .ok (.bool a.isNone) w:=fun w a n c n' c'=>Lib.run_eql_slice_nil w _ _ a n c n' c' underlying22;obtain⟨p,cap,hpc⟩:=hv.slice;subst hpc;cases p with
 |none=>
  have hl0:l=[]:=by
   rcases hv.open with⟨rfl,_⟩|⟨b,o,cap',hsl,_⟩
   ·rfl
   ·cases hsl
  subst hl0;go_enter func261,ntmps261;go_wp2;go_ret;exact⟨_,rfl,World.ownsRow_nil _ _ _ _,Below.refl _ _⟩
 |some ad=>
  go_enter func261,ntmps261;have hv2:=hv.kept (Tq (NZ w (.cells #[] 3)) hS);go_wp2_with (at_builtin;refine PA rfl _ _ 22 rfl w.heap.size 3 i0 (.int .i64 0) 1 8 underlying22 hi hz0 hz1 hz2 rfl (by decide) _ _ _ rfl (Dm w w.heap.size 3 1 (BQ _)) _ l.length _ rfl hv2 (by simp) (Jvb l) (by unfold maxLen;omega) (by omega) (by simp) ?_;intro v' w3 hown' hgrow);go_ret;refine⟨_,rfl,by simpa using hown',((Below.refl _ _).alloc (BQ _) _).grown hgrow (by simp) (fun j hj=> ?_)⟩;exact((Dm w w.heap.size 3 1 (BQ _)).lt j hj).1
def Jb4(w:AA)(a b c:Ap)(d e f:AQ):
  (((w.alloc (.cells #[a] d)).alloc (.cells #[b] e)).alloc (.cells #[c] f)).cell? ⟨w.heap.size,0,none⟩=some a/\
  (((w.alloc (.cells #[a] d)).alloc (.cells #[b] e)).alloc (.cells #[c] f)).cell? ⟨w.heap.size+1,0,none⟩=some b/\
  (((w.alloc (.cells #[a] d)).alloc (.cells #[b] e)).alloc (.cells #[c] f)).cell? ⟨w.heap.size+1+1,0,none⟩=some c:=by
 have i:=Boxed.new w d a;have h:=Boxed.new (w.alloc (.cells #[a] d)) e b;have g:=Boxed.new ((w.alloc (.cells #[a] d)).alloc (.cells #[b] e)) f c;rw[S9]at h;rw[S9,S9]at g;exact⟨((i.alloc _).alloc _).cell,(h.alloc _).cell,g.cell⟩
def FF(v:Ap):Prop:=∃(p:Af Addr) (n c:Nat),v= .slice p n c
def IntsIn.isSlice{S:Nat->Prop}{w:AA}{v:Ap}{l:Ac Int}(h:IntsIn S w v l):FF v:=by obtain⟨p,c,h⟩:=h.slice;exact⟨_,_,_,h⟩
def E8.isSlice{S:Nat->Prop}{w:AA}{v:Ap}{l:Ac Nd}(h:E8 S w v l):FF v:=by obtain⟨p,c,h⟩:=h.slice;exact⟨_,_,_,h⟩
def Jgf(a b:Ap)(i:Int)(g:FF a)(h:FF b)(w:AA):
  Calls prog 327 #[a,.int .i64 i,b] w fun e d=>
   e= .returned (.func (.func 352) #[] #[.pointer (some ⟨w.heap.size+1,0,none⟩),.pointer (some ⟨w.heap.size+1+1,0,none⟩),.pointer (some ⟨w.heap.size,0,none⟩)])/\
   d=((w.alloc (.cells #[a] 23)).alloc (.cells #[.int .i64 i] 3)).alloc (.cells #[b] 22):=by
 obtain⟨p,n,c,rfl⟩:=g;obtain⟨q,n',j,rfl⟩:=h;go_enter func327,ntmps327;go_wp2;go_ret;exact⟨rfl,rfl⟩
abbrev UW:=Int×Ap×Ac Int
def Z7(x:UW):CX Ap:= #[.int .i64 x.1,x.2.1]
def Rk(x:UW):Int×Ac Int:=(x.1,x.2.2)
def yT(X:Nat->Prop)(x:UW)(W:AA):Prop:=IntsIn (fun k=>¬X k/\k<W.heap.size) W x.2.1 x.2.2
def U0(a:Ac (Int×Ac Int))(xs:Ac UW)(b:Bool):Prop:=if b=true then xs.map Rk=a else xs.map Rk<+:a
def Jcm{w:AA}{base a:Nat}{e:AQ}{size:Nat}{v:Ap}{n:Nat}{xs:Ac Ap}(h:w.ownsRow base e size v n xs)(i:a<=base):w.ownsRow a e size v n xs:=by
 refine⟨h.1,?_⟩;rcases h.2 with b|⟨g,cap,c,f,b,d⟩
 ·exact .inl b
 ·exact .inr ⟨g,cap,c,f,Ig i b,d⟩
def Mz{B:Nat}{w b:AA}{v:Ap}{l:Ac Int}(h:IntsIn (fun k=>B<=k/\k<w.heap.size) w v l)(c:Below w.heap.size w b):IntsIn (fun k=>B<=k/\k<b.heap.size) b v l:=
 (IntsIn.kept h (Tq c (fun k a=>a.2))).mono (fun k a=>⟨a.1,OM a.2 c.size⟩)
def Jsq{F:Fence}{n:Nat}{P:Aj}{o:Oper}{a:Act}{w d:AA}{K:Act->AA->Prop}{Q:Exit->Act->AA->Prop}{s x:Operand}{t:AQ}{v u e:Ap}
  (c:o.op=Op.call {callee:=Callee.builtin Builtin.append,args:= #[s,x],argTypes:= #[t,t]}) (b:(Builtin.append_ #[t,t] o.type #[v,u]).run P w= .ok e d) (hs:a.eval s=v) (f:a.eval x=u) (g:K (a.put o.dst e) d):o.wpIn F n P a w K Q:=by
 unfold Oper.wpIn;refine⟨?_,?_⟩
 ·simp[Oper.about,c,resolve,Target.leads,Sem.run_pure]
 ·rw[Oper.semAt_plain F _ _ (by grind)];simp[execOp,c,resolve,invoke,builtin,hs,f,b,Result.andThen];exact g
set_option maxRecDepth 100000 in
set_option maxHeartbeats 4000000 in
def QaC(l:Ac Nd)(lv:Ap)(hl:l.length<=4000000)(X:Nat->Prop):∀(f:Nat) (i:Int) (own:Ac Int) (Y:Ap) (Bl Ba Bo:Nat) (W:AA),
  0<=i->i<=l.length->(l.length:Int)<i+f->own.length+f<=4000000->(∀k,X k->k<W.heap.size)->¬X Bl->¬X Ba->¬X Bo->
  W.cell? ⟨Bl,0,none⟩=some lv->W.cell? ⟨Ba,0,none⟩=some (.int .i64 i)->W.cell? ⟨Bo,0,none⟩=some Y->
  E8 (fun k=>¬X k/\k<W.heap.size) W lv l->IntsIn (fun k=>¬X k/\k<W.heap.size) W Y own->
  Cr prog 352 #[.pointer (some ⟨Ba,0,none⟩),.pointer (some ⟨Bo,0,none⟩),.pointer (some ⟨Bl,0,none⟩)] Z7 (yT X) (GI X W.heap.size) (GL f l i own).length (U0 (GL f l i own)) W:=by
 obtain⟨i0,hi,c5,c1,bc⟩:=info_parts NA;intro f
 induction f with
 |zero=>
  intro i own Y Bl Ba Bo W _ h1 h2;exfalso;omega
 |succ f ih=>
  intro i own Y Bl Ba Bo W dh dn dj dg hX be bj a8 bs cj bo bf b7 lp J hJ hY cq;refine callsIn_of_wp_marks func352 rfl trivial ?_ rfl;simp only[ntmps352,SX,Ej,Hf,Nat.reduceAdd,Nat.reduceSub,Zf,Zg,Zh,Zi,JO,Jd];have ca:Below W.heap.size W (W.alloc (.cells #[.func (.yield lp) #[] #[]] 477)):=NZ _ _;have ax:=TP (X:=X) (B:=W.heap.size) ca;have cx:=fF (hJ true) cq ca;obtain⟨fn,tmps,assign,body,hy,hR⟩:=hY [] (i,Y,own) _ cx (Gp.keptBut b7 ax) (Jw8 _ _ _ _);dsimp only[Z7]at hy;have dc:=ax.cell (p:=⟨Ba,0,none⟩) bj cj;have db:=ax.cell (p:=⟨Bo,0,none⟩) a8 bo
  gi_wp2
  refine hR.mono ?_;rintro e W2 ⟨b,rfl,aa,O⟩;cases b with
  |false=>
   gi_wp2
   exact⟨_,results_none rfl _ _ _,⟨_,rfl⟩,[(i,Y,own)],false,by simp[U0,Rk,GL],aa⟩
  |true=>
   have a5:=O
   replace O:=ax.trans O
   have da:=O.cell (p:=⟨Bl,0,none⟩) be bs;have c7:=O.cell (p:=⟨Ba,0,none⟩) bj cj;have bh:Ip W2 lv l:=E8.mono (Gp.keptBut bf O) (fun _ h=>h.2)
   gi_wp2_with (gi_at_call 219;refine(callsIn_wide.2 (nT l _ _ _ bh hl)).mono ?_;rintro e W3 ⟨u,rfl,bi,av⟩;obtain⟨pk,ck,a0⟩:=bi.slice;subst a0)
   have ai:GI X W.heap.size W W3:=O.trans (TP av);have ct:=fF (hJ true) aa av;have bl:=ai.cell (p:=⟨Bl,0,none⟩) be bs;have bt:=ai.cell (p:=⟨Bo,0,none⟩) a8 bo;have a6:W3.cell? ⟨W.heap.size,0,none⟩=some (.func (.yield lp) #[] #[]):=(a5.trans (TP av)).cell (p:=⟨W.heap.size,0,none⟩) (fun s=>absurd (hX _ s) (rB _)) (Boxed.new W 477 (.func (.yield lp) #[] #[])).cell;have dr:W.heap.size<W3.heap.size:=by have h1:=a5.size;rw[S9]at h1;have h2:=av.size;omega
   have cf:IntsIn (fun k=>¬X k/\k<W3.heap.size) W3 (.slice pk (AZ l i).length ck) (AZ l i):=bi.mono (fun k hk=>⟨fun s=>by have:=hX k s;have:=O.size;omega,hk.2⟩);refine wpIn_loop (fun a V=>∃(c:Nat) (Ds:Ac Nat) (xs:Ac UW) (u5 u6 u7 u8 cg bu b8 cd b9 bz ci bp b2 b4 b0 b3 ay u32 ao an ae al ag ad:Ap),
    a={tmps:= #[.func (.yield lp) #[] #[],.pointer (some ⟨Ba,0,none⟩),.pointer (some ⟨Bo,0,none⟩),.pointer (some ⟨Bl,0,none⟩),.pointer (some ⟨W.heap.size,0,none⟩),u5,u6,u7,u8,.func (.yield lp) #[] #[],.int .i64 i,Y,.bool true,.bool false,lv,.int .i64 i,.slice pk (AZ l i).length ck,.int .i64 (AZ l i).length,.int .i64 c,cg,bu,b8,cd,b9,bz,ci,bp,b2,b4,b0,b3,ay,u32,ao,an,ae,al,ag,ad],defers:=marks Ds}/\
    c<=(AZ l i).length/\Ds.Nodup/\(∀D,D∈Ds->V.heap[D]? =some (.deferred (some []))/\W.heap.size<=D)/\Hid (xs.map Rk=(i,own)::TB f l i own c)/\J xs true V/\GI X W.heap.size W3 V)
    (fun a _=>(AZ l i).length-(intOf (a.tmps.getD 18 undef)).toNat) ?_ ?_
   ·exact⟨0,[],[(i,Y,own)],_,_,_,_,_,_,_,_,_,_,_,_,_,_,_,_,_,_,_,_,_,_,_,_,rfl,F9 _,List.nodup_nil,(fun _ h=>by cases h),Lib.hid rfl,ct,GI.refl _ _ _⟩
   ·rintro a V ⟨c,Ds,xs,u5,u6,u7,u8,cg,bu,b8,cd,b9,bz,ci,bp,b2,b4,b0,b3,ay,u32,ao,an,ae,al,ag,ad,rfl,hc,a9,M,ap,bx,y⟩;have a2:=y.cell (p:=⟨Bl,0,none⟩) be bl;have a7:=y.cell (p:=⟨Bo,0,none⟩) a8 bt;have c9:=y.cell (p:=⟨W.heap.size,0,none⟩) (fun s=>absurd (hX _ s) (rB _)) a6;have bq:IntsIn (fun k=>¬X k/\k<V.heap.size) V (.slice pk (AZ l i).length ck) (AZ l i):=Gp.keptBut cf y;have bv:IntsIn (fun k=>¬X k/\k<V.heap.size) V Y own:=Gp.keptBut b7 (ai.trans y);have ch:Bl<V.heap.size:=by obtain⟨o,ho,_⟩:=cJ a2;exact(IY.1 ho).1
    have br:Bo<V.heap.size:=by obtain⟨o,ho,_⟩:=cJ a7;exact(IY.1 ho).1
    by_cases L:c<(AZ l i).length
    ·rcases bq.open with⟨h0,_⟩|⟨bk,ok,co,a0,du,dp,dv,Z⟩
     ·rw[h0]at L;simp at L
     have c8:=Z c L;obtain⟨rfl,rfl⟩:pk=some ⟨bk,ok,none⟩/\ck=co:=by simpa using a0
     clear Z a0
     gi_wp2
     refine Code.wpIn_mono (Q:=fun e a' m=>e= .normal/\∃(B:Nat) (w I S:Ap),
      a'={tmps:= #[.func (.yield lp) #[] #[],.pointer (some ⟨Ba,0,none⟩),.pointer (some ⟨Bo,0,none⟩),.pointer (some ⟨Bl,0,none⟩),.pointer (some ⟨W.heap.size,0,none⟩),.int .i64 c,.int .i64 (AZ l i)[c],u7,u8,.func (.yield lp) #[] #[],.int .i64 i,Y,.bool true,.bool false,lv,.int .i64 i,.slice (some ⟨bk,ok,none⟩) (AZ l i).length ck,.int .i64 (AZ l i).length,.int .i64 c,.bool true,.int .i64 c,.pointer (some ⟨bk,ok+c,none⟩),.int .i64 (AZ l i)[c],lv,.int .i64 (AZ l i)[c],Y,w,.int .i64 c,I,S,.func (.func 352) #[] #[.pointer (some ⟨B+1,0,none⟩),.pointer (some ⟨B+1+1,0,none⟩),.pointer (some ⟨B,0,none⟩)],ay,u32,ao,an,ae,al,ag,ad],defers:=marks Ds}/\Below V.heap.size V m/\V.heap.size<=B/\B+2<m.heap.size/\m.cell? ⟨B,0,none⟩=some lv/\m.cell? ⟨B+1,0,none⟩=some (.int .i64 (AZ l i)[c])/\m.cell? ⟨B+1+1,0,none⟩=some S/\
      IntsIn (fun k=>V.heap.size<=k/\k<m.heap.size) m S (own++[(c:Int)])) ?_ ?_
     ·rintro e a' m ⟨rfl,B,w,I,S,rfl,ab,di,de,c2,cw,c0,b1⟩
      gi_wp2
      have dq:=dY l i c L;have dm:=FJ l i;have cv:IntsIn (fun k=>¬X k/\k<m.heap.size) m S (own++[(c:Int)]):=b1.mono (fun k hk=>⟨fun s=>by have:=hX k s;have:=(ai.trans y).size;omega,hk.2⟩);have a3:GI X W.heap.size W m:=(ai.trans y).trans (TP ab);have dl:W.heap.size<V.heap.size:=by have:=y.size;omega
      have bm:=ab.size;have aw:∀D,D∈Ds->D<m.heap.size:=fun D H=>OM (IY.1 (M D H).1).1 bm;refine kI (gf:= 352) (lb:= #[.pointer (some ⟨B+1,0,none⟩),.pointer (some ⟨B+1+1,0,none⟩),.pointer (some ⟨B,0,none⟩)]) rfl (enters_of func352 (by kernel_rfl) rfl)
       (encs:=Z7) (G:=yT X) (Kp:=GI X (m.heap.size+2)) (N:=(GL f l (AZ l i)[c] (own++[(c:Int)])).length) (R:=U0 (GL f l (AZ l i)[c] (own++[(c:Int)]))) (fun _=>rfl)
       (fun W' cp cu=>by
        have ac:GI X W.heap.size m W':=TP cp;have:=ih (AZ l i)[c] (own++[(c:Int)]) S B (B+1) (B+1+1) W' (by omega) (by omega) (by omega) (by simp;omega) (fun k hk=>by have:=hX k hk;have:=(a3.trans ac).size;omega)
         (fun s=>by have:=hX _ s;omega) (fun s=>by have:=hX _ s;omega) (fun s=>by have:=hX _ s;omega)
         (ac.cell (p:=⟨B,0,none⟩) (fun s=>by have:=hX _ s;simp at this;omega) c2) (ac.cell (p:=⟨B+1,0,none⟩) (fun s=>by have:=hX _ s;simp at this;omega) cw) (ac.cell (p:=⟨B+1+1,0,none⟩) (fun s=>by have:=hX _ s;simp at this;omega) c0)
         (Gp.keptBut bf (a3.trans ac)) (Gp.keptBut cv ac)
        rwa[cu]at this)
       (fun h h'=>h.trans h') (fun U q o o' h1 h2 h3 h4 _=>Od U q o o' h2 h3 h4)
       (fun pre U=>J (xs++pre) true U/\GI X W.heap.size W3 U/\(∀D,D∈Ds->U.heap[D]? =some (.deferred (some []))))
       (fun cc pre U=>cc= .ret/\J (xs++pre) false U/\(∀D,D∈Ds->U.heap[D]? =some (.deferred (some []))))
       ?hI ?hIx ?hG ?h0
       (fun x=>{tmps:= #[.func (.yield lp) #[] #[],.pointer (some ⟨Ba,0,none⟩),.pointer (some ⟨Bo,0,none⟩),.pointer (some ⟨Bl,0,none⟩),.pointer (some ⟨W.heap.size,0,none⟩),.int .i64 c,.int .i64 (AZ l i)[c],.int .i64 x.1,x.2.1,.func (.yield lp) #[] #[],.int .i64 i,Y,.bool true,.bool false,lv,.int .i64 i,.slice (some ⟨bk,ok,none⟩) (AZ l i).length ck,.int .i64 (AZ l i).length,.int .i64 c,.bool true,.int .i64 c,.pointer (some ⟨bk,ok+c,none⟩),.int .i64 (AZ l i)[c],lv,.int .i64 (AZ l i)[c],Y,w,.int .i64 c,I,S,.func (.func 352) #[] #[.pointer (some ⟨B+1,0,none⟩),.pointer (some ⟨B+1+1,0,none⟩),.pointer (some ⟨B,0,none⟩)],.int .i64 x.1,x.2.1,ao,an,ae,al,ag,ad],defers:=[]}) ?assign ?body ?done ?stop
      case hI=>
       exact OwnFrom.and (fun pre A C row hs hg hr=>hJ true (xs++pre) A C row hs hg (fun r e=>by obtain⟨h1,h2⟩:=hr r e;exact⟨by omega,h2⟩))
        (OwnFrom.and (Jul (by have:=y.size;have:=ab.size;omega)) (fun pre A C row hs hg hr D H=>JdX (β:=Unit) (aw D H) () A C row (hs D H) hg hr))
      case hIx=>
       exact fun cc=>OwnFrom.and (fun _ _ _ _ hs _ _=>hs)<|OwnFrom.and (fun pre A C row hs hg hr=>hJ false (xs++pre) A C row hs hg (fun r e=>by obtain⟨h1,h2⟩:=hr r e;exact⟨by omega,h2⟩))
        (fun pre A C row hs hg hr D H=>JdX (β:=Unit) (aw D H) () A C row (hs D H) hg hr)
      case hG=>exact fun x=>LL
      case h0=>
       refine⟨by rw[Lj];exact fF (hJ true) bx ab,y.trans (TP ab),fun D H=> ?_⟩;exact(ab.block D (IY.1 (M D H).1).1).trans (M D H).1
      case assign=>
       intro lq x U K hK;dsimp only[Z7]
       gi_wp2
       exact hK
      case body=>
       rintro lq pre x U ⟨aj,am,ah⟩ cm dd;have bd:(xs++pre).length<(GL (f+1) l i own).length:=by
        have h1:=(Jc4 f l i own (c+1)).length_le;rw[Cz f l i own c L]at h1;have h2:=congrArg List.length ap.out;simp only[Ju,Ej,DC]at h1 h2⊢;omega
       obtain⟨ds,cn,dk,dt,cy,cr⟩:=hY (xs++pre) x U aj cm bd;dsimp only[Z7]at cy;have c6:=am.cell (p:=⟨W.heap.size,0,none⟩) (fun s=>absurd (hX _ s) (rB _)) a6
       gi_wp2
       refine(Jl0 cr).mono ?_;rintro e U2 ⟨b,rfl,aa,F⟩;have b6:KeepsFrom m.heap.size U U2:=⟨F.size,fun k o v hk ho=>F.other k o (by omega) hk ho⟩;have cb:∀D,D∈Ds->U2.heap[D]? =some (.deferred (some [])):=fun D H=>F.other D _ (M D H).2 (ah D H) rfl;rw[FV]at aa;cases b with
       |true=>
        gi_wp2
        exact⟨b6,F.mono (by omega),aa,am.trans F,cb⟩
       |false=>
        gi_wp2
        exact⟨b6,F.mono (by omega),rfl,aa,cb⟩
      case done=>
       rintro D ys U H hR ⟨aj,am,ah⟩ hK
       gi_wp2
       have df:=am.size;refine⟨⟨c+1,D::Ds,xs++ys,_,_,_,_,_,_,_,_,_,_,_,_,_,_,_,_,_,_,_,_,_,_,_,_,rfl,L,Ma.2 ⟨fun h=>by have:=aw D h;omega,a9⟩,?_,?_,aj,am⟩,?_⟩
       ·intro E hE;rcases FY.1 hE with rfl|hE
        ·exact⟨hK,by omega⟩
        ·exact⟨ah E hE,(M E hE).2⟩
       ·refine Lib.hid ?_;have bb:ys.map Rk=GL f l (AZ l i)[c] (own++[(c:Int)]):=by simpa[U0]using hR
        rw[JE,ap.out,bb,Cz f l i own c L,Jd]
       ·simp[intOf];omega
      case stop=>
       rintro D cc ys U H hR ⟨rfl,aj,ah⟩ hK
       gi_wp2
       have bb:ys.map Rk<+:GL f l (AZ l i)[c] (own++[(c:Int)]):=by simpa[U0]using hR
       refine mL _ (J (xs++ys) false) (D::Ds) U (Ma.2 ⟨fun h=>by have:=aw D h;omega,a9⟩) ?_ ?_ aj
        (fun W' hj=>⟨results_none rfl _ _ _,⟨_,rfl⟩,xs++ys,false,?_,hj⟩)
       ·intro E hE;rcases FY.1 hE with rfl|hE
        ·exact hK
        ·exact ah E hE
       ·intro A E hE ho hj;refine(hJ false).putObj _ hj ?_ ho rfl;rcases FY.1 hE with rfl|hE
        ·omega
        ·exact(M E hE).2
       ·rw[U0,Am (by decide),JE,ap.out];exact QaR f l i own c L _ bb
     ·have bn:prog.follows .mixedOrders=true:=by kernel_rfl
      obtain⟨ba,a4⟩:∃ba:(Nat->Bool)->Act->AA->Prop,ba=(fun d a' m=>∃(af aq ak w au I T ar:Ap),a'={tmps:= #[.func (.yield lp) #[] #[],.pointer (some ⟨Ba,0,none⟩),.pointer (some ⟨Bo,0,none⟩),.pointer (some ⟨Bl,0,none⟩),.pointer (some ⟨W.heap.size,0,none⟩),.int .i64 c,.int .i64 (AZ l i)[c],u7,u8,.func (.yield lp) #[] #[],.int .i64 i,Y,.bool true,.bool false,lv,.int .i64 i,.slice (some ⟨bk,ok,none⟩) (AZ l i).length ck,.int .i64 (AZ l i).length,.int .i64 c,.bool true,.int .i64 c,.pointer (some ⟨bk,ok+c,none⟩),.int .i64 (AZ l i)[c],af,aq,ak,w,au,I,T,ar,ay,u32,ao,an,ae,al,ag,ad],defers:=marks Ds}/\Below V.heap.size V m/\
       (d 0=true->af=lv)/\(d 1=true->aq= .int .i64 (AZ l i)[c])/\(d 2=true->ak=Y)/\(d 3=true->d 6=false->m.ownsRow V.heap.size 3 1 w own.length (own.map (Value.int .i64)))/\
       (d 4=true->au= .int .i64 c)/\(d 5=true->d 6=false->∃b5,I= .slice (some ⟨b5,0,none⟩) 1 1/\m.cell? ⟨b5,0,none⟩=some (.int .i64 c)/\b5<m.heap.size)/\
       (d 6=true->IntsIn (fun k=>V.heap.size<=k/\k<m.heap.size) m T (own++[(c:Int)]))/\
       (d 7=true->d 6=true/\∃B,ar= .func (.func 352) #[] #[.pointer (some ⟨B+1,0,none⟩),.pointer (some ⟨B+1+1,0,none⟩),.pointer (some ⟨B,0,none⟩)]/\V.heap.size<=B/\B+2<m.heap.size/\
        m.cell? ⟨B,0,none⟩=some lv/\m.cell? ⟨B+1,0,none⟩=some (.int .i64 (AZ l i)[c])/\m.cell? ⟨B+1+1,0,none⟩=some T)):=⟨_,rfl⟩
      have HI:=Lib.hid a4;clear a4;refine Jkb bn ba (by kernel_rfl) ?_ ?_ ?_
      ·rw[HI.out];exact⟨_,_,_,_,_,_,_,_,rfl,(Below.refl _ _).drew,(fun h=>by cases h),(fun h=>by cases h),(fun h=>by cases h),(fun h=>by cases h),(fun h=>by cases h),(fun h=>by cases h),(fun h=>by cases h),(fun h=>by cases h)⟩
      ·refine⟨?_,?_,?_,?_,?_,?_,?_,?_,trivial⟩
       all_goals
        intro d a' m K hd n hI hK;rw[HI.out]at hI;obtain⟨af,aq,ak,w,au,I,T,ar,rfl,v,f0,f1,f2,f3,f4,f5,f6,f7⟩:=hI;rw[Aw (show Region.wanted _ _=true from rfl)]
       ·have s:=(v.cell (p:=⟨Bl,0,none⟩) ch).trans a2
        gi_wp2
        rw[HI.out];exact⟨_,_,_,_,_,_,_,_,rfl,v,(fun _=>rfl),f1,f2,f3,f4,f5,f6,f7⟩
       ·gi_wp2
        rw[HI.out];exact⟨_,_,_,_,_,_,_,_,rfl,v,f0,(fun _=>rfl),f2,f3,f4,f5,f6,f7⟩
       ·have s:=(v.cell (p:=⟨Bo,0,none⟩) br).trans a7
        gi_wp2
        rw[HI.out];exact⟨_,_,_,_,_,_,_,_,rfl,v,f0,f1,(fun _=>rfl),f3,f4,f5,f6,f7⟩
       ·obtain rfl:=f2 (n ⟨2,.data⟩ (by simp) rfl);have ce:IntsIn (fun k=>¬X k/\k<V.heap.size) m ak own:=bv.kept (Tq v (fun k hk=>hk.2))
        gi_wp2_with (gi_at_call 261;refine(callsIn_wide.2 (JdI own _ _ _ (fun k hk=>OM hk.2 v.size) ce (by omega))).mono ?_;rintro e V2 ⟨u2,rfl,cs,g⟩)
        rw[HI.out];exact⟨_,_,_,_,_,_,_,_,rfl,v.trans (g.mono v.size),f0,f1,(fun _=>rfl),(fun _ _=>Jcm cs v.size),f4,((fun h h'=>by obtain⟨b5,g1,g2,g3⟩:=f5 h h';exact⟨b5,g1,(g.cell (p:=⟨b5,0,none⟩) g3).trans g2,OM g3 g.size⟩)),((fun h=>Mz (f6 h) g)),(fun h=>by obtain⟨g0,B,g1,g2,g3,g4,g5,g6⟩:=f7 h;have bc:=g.size;exact⟨g0,B,g1,g2,by omega,(g.cell (p:=⟨B,0,none⟩) (by show B<_;omega)).trans g4,(g.cell (p:=⟨B+1,0,none⟩) (by show B+1<_;omega)).trans g5,(g.cell (p:=⟨B+1+1,0,none⟩) (by show B+1+1<_;omega)).trans g6⟩)⟩
       ·gi_wp2
        rw[HI.out];exact⟨_,_,_,_,_,_,_,_,rfl,v,f0,f1,f2,f3,(fun _=>rfl),f5,f6,f7⟩
       ·obtain rfl:=f4 (n ⟨4,.data⟩ (by simp) rfl);have g:=NZ m (.cells #[.int .i64 c] 3)
        gi_wp2
        rw[HI.out];exact⟨_,_,_,_,_,_,_,_,rfl,v.trans (g.mono v.size),f0,f1,f2,((fun h h'=>SZ (f3 h h') g)),(fun _=>rfl),(fun _ _=>⟨_,rfl,by simp,by simp⟩),((fun h=>Mz (f6 h) g)),(fun h=>by obtain⟨g0,B,g1,g2,g3,g4,g5,g6⟩:=f7 h;have bc:=g.size;exact⟨g0,B,g1,g2,by omega,(g.cell (p:=⟨B,0,none⟩) (by show B<_;omega)).trans g4,(g.cell (p:=⟨B+1,0,none⟩) (by show B+1<_;omega)).trans g5,(g.cell (p:=⟨B+1+1,0,none⟩) (by show B+1+1<_;omega)).trans g6⟩)⟩
       ·have a1:=f3 (n ⟨3,.data⟩ (by simp) rfl) hd;obtain⟨b5,rfl,cz,c4⟩:=f5 (n ⟨5,.data⟩ (by simp) rfl) hd;have bw:Gp (fun k=>k<m.heap.size) m (.slice (some ⟨b5,0,none⟩) 1 1) 1 [.int .i64 (c:Int)]:= .inr ⟨b5,0,1,rfl,by omega,by omega,c4,fun j hj=>by
         have c3:j=0:=by simpa using hj
         subst c3;simpa using cz⟩
        obtain⟨v',w',bg,r1,r2⟩:=JcU (P:=prog) V.heap.size 22 22 3 i0 (.int .i64 0) 1 8 underlying22 hi c5 c1 bc rfl (by decide) w own.length _ a1 _ 1 _ bw (by simp) (by simp[Value.oneCell']) (by unfold maxLen;omega) (by omega) v.size;refine Jsq rfl bg rfl rfl (hK _ _ ?_);rw[HI.out];have g:Below V.heap.size V w':=v.grown r2 v.size (fun j hj=>(a1.lt j hj).1);have az:IntsIn (fun k=>V.heap.size<=k/\k<w'.heap.size) w' v' (own++[(c:Int)]):=oE (by simpa using r1);exact⟨_,_,_,_,_,_,_,_,rfl,g,f0,f1,f2,(fun _ h=>by rw[Lu]at h;cases h),f4,(fun _ h=>by rw[Lu]at h;cases h),(fun _=>az),(fun h=>by have:=(f7 h).1;rw[hd]at this;cases this)⟩
       ·obtain rfl:=f0 (n ⟨0,.data⟩ (by simp) rfl);obtain rfl:=f1 (n ⟨1,.data⟩ (by simp) rfl);have h6:=n ⟨6,.data⟩ (by simp) rfl;have az:=f6 h6;have h9:=IntsIn.isSlice az;have cl:=E8.isSlice bf
        gi_wp2_with (gi_at_call 327;refine(callsIn_wide.2 (Jgf _ _ _ cl h9 _)).mono ?_;rintro e V2 ⟨rfl,rfl⟩)
        rw[HI.out];exact by
         have g:Below m.heap.size m (((m.alloc (.cells #[af] 23)).alloc (.cells #[.int .i64 (AZ l i)[c]] 3)).alloc (.cells #[T] 22)):=(((Below.refl _ _).alloc (BQ _) _).alloc (by simp) _).alloc (by simp;omega) _;exact⟨_,_,_,_,_,_,_,_,rfl,v.trans (g.mono v.size),(fun _=>rfl),(fun _=>rfl),f2,((fun h h'=>SZ (f3 h h') g)),f4,(fun _ h=>by rw[JW d (by decide),h6]at h;cases h),(fun _=>Mz az g),(fun _=>⟨h6,m.heap.size,rfl,v.size,by simp,Jb4 _ _ _ _ _ _ _⟩)⟩
      ·intro d a' m z hI;rw[HI.out]at hI;obtain⟨af,aq,ak,w,au,I,T,ar,rfl,v,f0,f1,f2,f3,f4,f5,f6,f7⟩:=hI;obtain rfl:=f0 (z 0 (by decide));obtain rfl:=f1 (z 1 (by decide));obtain rfl:=f2 (z 2 (by decide));obtain rfl:=f4 (z 4 (by decide));obtain⟨_,B,rfl,g1,g2,g3,g4,g5⟩:=f7 (z 7 (by decide));exact⟨rfl,B,w,I,T,rfl,v,g1,g2,g3,g4,g5,f6 (z 6 (by decide))⟩
    ·gi_wp2
     obtain rfl:c=(AZ l i).length:=by omega
     exact mL _ (J xs true) Ds V a9 (fun D H=>(M D H).1) (fun A D H ho hj=>(hJ true).putObj _ hj (M D H).2 ho rfl) bx
      (fun W' hj=>⟨results_none rfl _ _ _,⟨_,rfl⟩,xs,true,by rw[U0,Aw rfl,ap.out,JgW],hj⟩)
end
def FP(x y:Int):Int:=if x<y then-1 else if y<x then 1 else 0
def FO:Ac Int->Ac Int->Int
 |[],[]=>0
 |[],_::_=> -1
 |_::_,[]=>1
 |x::a,y::b=>if x<y then-1 else if y<x then 1 else FO a b
def Jbp(a b:Ac Int)(k:Nat)(d:k<a.length)(c:k<b.length)(h:a[k]=b[k]):FO (a.drop k) (b.drop k)=FO (a.drop (k+1)) (b.drop (k+1)):=by
 rw[QW d,QW c,FO,h,Am (by omega),Am (by omega)]
def RT(a b:Ac Int)(k:Nat)(d:k<a.length)(c:k<b.length)(h:a[k]≠b[k]):FO (a.drop k) (b.drop k)=FP a[k] b[k]:=by
 rw[QW d,QW c,FO,FP];split
 ·rfl
 ·rw[Aw (by omega),Aw (by omega)]
def Jkp(a b:Ac Int)(k:Nat)(e:k<=a.length)(d:k<=b.length)(h:k=a.length\/k=b.length):FO (a.drop k) (b.drop k)=FP a.length b.length:=by
 rcases h with rfl|rfl
 ·rw[Mh];by_cases c:b.length=a.length
  ·rw[<-c,Mh];simp[FO,FP]
  ·rw[QW (by omega),FO,FP,Aw (by omega)]
 ·rw[Mh];by_cases c:b.length=a.length
  ·rw[c,Mh];simp[FO,FP]
  ·rw[QW (by omega),FO,FP,Am (by omega),Aw (by omega)]
def F8(l:Ac Nd):Int->Ac Int->Int
 |i,[]=>i
 |i,n::r=>if 0<=n/\n.toNat<(AZ l i).length then F8 l ((AZ l i).getD n.toNat 0) r else-1
def Jk(l:Ac Nd)(p:Ac Int):Int:=if Bc l 0=l.length then F8 l 0 p else-1
def Q9(l:Ac Nd)(i:Int)(n:Int)(r:Ac Int)(j:Nat)(b:n=j)(a:j<(AZ l i).length):F8 l i (n::r)=F8 l (AZ l i)[j] r:=by
 subst b;rw[F8,Aw ⟨by omega,by simpa using a⟩];simp[a]
def VJ(l:Ac Nd)(i:Int)(n:Int)(r:Ac Int)(h:¬(0<=n/\n.toNat<(AZ l i).length)):F8 l i (n::r)= -1:=by rw[F8,Am h]
def Fa(l:Ac Nd)(i:Int):Af (Ac Int):=if Bc l 0=l.length then((GL (l.length+1) l 0 []).find? fun x=>x.1==i).map (·.2)else none
def fT(l:Ac Nd)(i:Int)(h:Bc l 0≠l.length):Fa l i=none:=by rw[Fa,Am h]
theorem Jh1:∀a b:Ac Int,FO b a= -FO a b
 |[],[]=>rfl
 |[],_::_=>rfl
 |_::_,[]=>rfl
 |x::a,y::b=>by
  have:=Jh1 a b;simp only[FO];rcases sI x y with h|h|h
  ·rw[Aw h,Am (by omega),Aw h];rfl
  ·rw[Am (by omega),Am (by omega),Am (by omega),Am (by omega)];exact this
  ·rw[Aw h,Am (by omega),Aw h]
theorem gM:∀a b:Ac Int,FO a b=0↔a=b
 |[],[]=>by simp[FO]
 |[],_::_=>by simp[FO]
 |_::_,[]=>by simp[FO]
 |x::a,y::b=>by
  have:=gM a b;simp only[FO,Q3];rcases sI x y with h|h|h
  ·rw[Aw h];exact⟨fun c=>by omega,fun c=>by omega⟩
  ·rw[Am (by omega),Am (by omega),this];exact⟨fun c=>⟨h,c⟩,fun c=>c.2⟩
  ·rw[Am (by omega),Aw h];exact⟨fun c=>by omega,fun c=>by omega⟩
end Go.Proofs.YtapdelkomkpgmaaGreatDoor
