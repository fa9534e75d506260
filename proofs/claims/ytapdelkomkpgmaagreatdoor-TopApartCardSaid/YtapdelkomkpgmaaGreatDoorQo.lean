import Derived.RecoverIn
import Derived.Test.YtapdelkomkpgmaaGreatDoorQn
namespace Go.Proofs.YtapdelkomkpgmaaGreatDoor
open Go.Proofs.Tryz
open Go.RowKit
set_option maxRecDepth 100000
set_option linter.all false
section
variable {α : Type} (c : α → Ac D) (dec : Ac D → Af α) (k : Nat)
def Jdc(l:Ac α):D:= .sl k (l.map c)
def lB:D->Af (Ac α)
 | .sl _ els=>els.mapM dec
 | .v (.slice none 0 0)=>some []
 |_=>none
def JsZ(back:∀a,dec (c a)=some a)(l:Ac α):lB dec (Jdc c k l)=some l:=by
 show(l.map c).mapM dec=some l
 induction l with
 |nil=>rfl
 |cons a r b=>simp[FZ,back,b]
theorem Jfh(ok:∀e a,dec e=some a->Gt e (c a))(len:∀a,(c a).length=k):∀(els:Ac (Ac D)) (L:Ac α),els.mapM dec=some L->Vj els (L.map c)/\∀e∈els,e.length=k
 |[],L,h=>by simp at h;subst h;exact⟨.nil,fun e j=>by cases j⟩
 |e::r,L,h=>by
  simp only[FZ,eQ,Zb]at h;cases b:dec e with
  |none=>rw[b]at h;cases h
  |some a=>
   cases f:r.mapM dec with
   |none=>rw[b,f]at h;cases h
   |some t=>
    rw[b,f]at h;cases h;obtain⟨l,i⟩:=Jfh ok len r t f;have g:=ok e a b;refine⟨.cons g l,fun x d=> ?_⟩;rcases FY.1 d with rfl|d
    ·rw[g.len];exact len a
    ·exact i x d
def Cs(back:∀a,dec (c a)=some a)(ok:∀e a,dec e=some a->Gt e (c a))(len:∀a,(c a).length=k):EU (Ac α):=⟨Jdc c k,lB dec,JsZ c dec k back,fun d L h=>by
 unfold lB at h;split at h
 ·rename_i s els;obtain⟨g,b⟩:=Jfh c dec k ok len els L h;exact AY.slE s k g fun e f i=>by rw[<-i,b e f]
 ·cases h;exact AY.nil k
 ·cases h⟩
end
def KO{α:Type}(c:α->Ac D)(k:Nat)(l:Ac α)(j:Nat)(h:j<l.length):BG k (.sl k (l.map c)) (iD j)=some (.ptr (c l[j])):=by
 have e:BG k (.sl k (l.map c)) (iD j)=Si k (.sl k (l.map c)) (iD j):=rfl;have b:IU k (.sl k (l.map c))=some (l.map c):=Aw (Or.inl rfl);have a:IC (iD j)=some j:=by simp[IC]
 rw[e];simp only[Si,b,a];rw[Xy,FQ h];rfl
def Iz(l:Ac Int):Ac D:=[AL l]
def KB:Ac D->Af (Ac Int)
 |[x]=>Hg x
 |_=>none
def JD:EU (Ac (Ac Int)):=Cs Iz KB 1 (fun l=>uA l) (fun e a h=>by
 unfold KB at h;split at h
 ·exact .cons (Ua h) .nil
 ·cases h) (fun _=>rfl)
def BH(t:Ac (Ac Int)):D:= .sl 1 (t.map Iz)
structure Mu where
 d:Dl
 v:Int
 test:Int
 kind:Int
 value:Int
 dig:By
 deriving DecidableEq,Inhabited
def BL(m:Mu):Ac D:=[AL m.d.path,iD m.d.op,iD m.d.n,iD m.v,iD m.test,iD m.kind,iD m.value,sD m.dig]
def V3:Ac D->Af Mu
 |[a,b,c,d,e,f,g,h]=>(Hg a).bind fun p=>(Dz b).bind fun o=>(Dz c).bind fun n=>(Dz d).bind fun v=>(Dz e).bind fun t=>(Dz f).bind fun k=>(Dz g).bind fun x=>(MN h).map fun s=>⟨⟨p,o,n⟩,v,t,k,x,s⟩
 |_=>none
def JfD(m:Mu):V3 (BL m)=some m:=by
 have c:=uA m.d.path;have b:MN (sD m.dig)=some m.dig:=Po.back _;have a:∀n:Int,Dz (iD n)=some n:=BV.back;simp only[BL,V3,c,b,a,BR,Dt]
def Jdy(e:Ac D)(m:Mu)(h:V3 e=some m):Gt e (BL m):=by
 unfold V3 at h;split at h
 ·obtain⟨p,i,h⟩:=Bi.1 h;obtain⟨o,f,h⟩:=Bi.1 h;obtain⟨n,a,h⟩:=Bi.1 h;obtain⟨v,d,h⟩:=Bi.1 h;obtain⟨t,j,h⟩:=Bi.1 h;obtain⟨k,b,h⟩:=Bi.1 h;obtain⟨x,g,h⟩:=Bi.1 h;obtain⟨s,c,h⟩:=DV.1 h;subst h;exact .cons (Ua i) (.cons (BV.ok _ _ f) (.cons (BV.ok _ _ a) (.cons (BV.ok _ _ d) (.cons (BV.ok _ _ j) (.cons (BV.ok _ _ b) (.cons (BV.ok _ _ g) (.cons (Po.ok _ _ c) .nil)))))))
 ·cases h
def MF:EU (Ac Mu):=Cs BL V3 8 JfD Jdy (fun _=>rfl)
def DR(l:Ac Mu):D:= .sl 8 (l.map BL)
def FX(m:Mu):D:= .agg (BL m)
def Jaz:D->Af Mu
 | .agg cs=>V3 cs
 |_=>none
def mX:EU Mu:=⟨FX,Jaz,JfD,fun d a h=>by
 unfold Jaz at h;split at h
 ·exact AY.agg (Jdy _ _ h)
 ·cases h⟩
def TE:Tab:=⟨[],BM,[]⟩
def wG:Bg Aa TE:=CU EN
def JbE:Ac Nat:=[]
def JyO(n:Nat)(b a:D)(h:Ae):AB Aa TE JbE n f103 [b,a] h=
(Az b
(some ((iD 0),h))
(some (a,h))):=by kernel_rfl
def JiT:Ac Nat:=[]
def Jln(n:Nat)(b a:D)(h:Ae):AB Aa TE JiT n f100 [b,a] h=
(Ad (Bq .sl b) fun d=>
Ad (Ai none h a) fun e=>
Ad (Ag .int .neq d e) fun c=>
some (c,h)):=by kernel_rfl
def WC:Ac D->Af D:=F2 oJ BV fun b e=>some (iD (if b then 0 else e))
def Jrh:Bz Aa 103 WC:=GK (kp:=JbE) wG AX func103 fun b e d h=>by
 cases h
 refine⟨0,iD (if b then 0 else e),?_,AY.refl _⟩;show BB (AB _ _ _ _ _ [bD b,iD e] [])=_;rw[JyO];cases b<;>exact Gu _ _ rfl
def bV(b:Bool)(e:Int)(H:Ae):Ak WC [bD b,iD e] H=some (iD (if b then 0 else e),H):=by
 rw[CP _ _ _ rfl];have:WC [bD b,iD e]=_:=JU (A:=oJ) (B:=BV) _ b e;rw[this];rfl
def DP(P:Aj):GT:=CO P TE JiT 0 100
def Qbu:BN Aa 100 (DP Aa):=CQ wG AX func100
def MG(t:Ac (Ac Int)):Bq .sl (BH t)=some (iD t.length):=by
 show some (iD ((t.map Iz).length:Nat))=_;rw[Ju]
def lW(l:Ac Int):Bq .sl (AL l)=some (iD l.length):=by
 show some (iD ((l.map IE).length:Nat))=_;rw[Ju]
def Jz2(l:Ac Int)(b:Nat)(p:Int)(H:Ae)(h:Ai none H (.hp b 0)=some (iD p)):DP Aa [AL l,.hp b 0] H=some (bD (decide ((l.length:Int)≠p)),H):=by
 rw[DP,CJ func100,Jln];have:Ag .int .neq (iD l.length) (iD p)=some (bD ((l.length:Int) !=p)):=rfl;simp only[lW,h,AU,this];congr 3;simp[decide_not];rfl
def Joy(P:Aj):Ac Cj:=[(100,false,DP P)]
def U7(P:Aj):Tab:=⟨Joy P,BM,[]⟩
def JsM:Bg Aa (U7 Aa):=CU (AC (CB Qbu) EN)
def gB:Ac Nat:=[0,1,4,7,8]
def Jno(n:Nat)(b c:D)(h:Ae):AB Aa (U7 Aa) gB n f173 [b,c] h=
(Ad (Bq .sl b) fun g=>
Dy (BZ Aa (U7 Aa) gB n f173 0 [b,c,(iD 0),g,(iD 0)] h) (fun e d a=>
CW e 0
(some ((iD (-1)),a))
(none)) (fun d a=>
some ((gD d 2),a))):=by kernel_rfl
def JjT(n:Nat)(s0 b d c a:D)(h:Ae):BK Aa (U7 Aa) gB n f173 0 [s0,b,d,c,a] h=
(Ad (Ag .int .lss a c) fun g=>
Az g
(Ad (BG 1 s0 a) fun i=>
Ad (Ai none h i) fun k=>
Ah (C9 (U7 Aa) b [k] h) fun j e=>
Az j
(some (.ret,[s0,b,a,c,a],e))
(Ad (Ag .int .add a (iD 1)) fun l=>
some (.normal,[s0,b,d,c,l],e)))
(some ((.exit 0),[s0,b,d,c,a],h))):=by kernel_rfl
def uN(P:Aj):GT:=CO P (U7 P) gB 1001 173
def QbL:BN Aa 173 (uN Aa):=CQ JsM AX func173
def QaV(t:Ac (Ac Int))(b:Nat)(p:Int)(H:Ae)(h:Ai none H (.hp b 0)=some (iD p))(o:t.length<=1000):
  ∃k:Int,uN Aa [BH t,.clo (.func 100) [] [.hp b 0]] H=some (iD k,H)/\(0<=k↔∃l∈t,(l.length:Int)≠p):=by
 rw[uN,CJ func173,Jno];let cl:D:= .clo (.func 100) [] [.hp b 0];have step:∀j (a:j<t.length) (i:D),BK Aa (U7 Aa) gB 1001 f173 0 [BH t,cl,i,iD t.length,iD j] H=
   if(t[j].length:Int)≠p then some (.ret,[BH t,cl,iD j,iD t.length,iD j],H)else some (.normal,[BH t,cl,i,iD t.length,iD (j+1)],H):=by
  intro j a i;rw[JjT];have q:BG 1 (BH t) (iD j)=some (.ptr (Iz t[j])):=KO Iz 1 t j a;have n:Ai none H (.ptr (Iz t[j]))=some (AL t[j]):=rfl;have r:C9 (U7 Aa) cl [AL t[j]] H=some (bD (decide ((t[j].length:Int)≠p)),H):=Jz2 t[j] b p H h;simp only[G6 (show(j:Int)<t.length by omega),AU,Bd,Bv,q,n,r,A7,G5 j (by omega)];by_cases e:(t[j].length:Int)≠p
  ·simp only[Aw e,CZ e,Bv]
  ·simp only[Am e,Dc e,BF,BC]
 have hs:=VO (P:=Aa) (T:=U7 Aa) (kp:=gB) (fn:= f173) (li:=0) (fun j=>[BH t,cl,iD 0,iD t.length,iD j]) H t.length (fun j=>decide ((t.getD j []).length=p))
  (fun j=>(.ret,[BH t,cl,iD j,iD t.length,iD j],H)) (.exit 0,[BH t,cl,iD 0,iD t.length,iD t.length],H) (fun j e=>by cases e) (fun e=>by cases e) 0 1001 (F9 _) (by omega)
  (fun j _ a hp=>by
   have e:((t.getD j []).length:Int)=p:=L8 hp;rw[Ed,FQ a]at e;rw[step j a];exact Am (fun c=>c e))
  (fun j _ a hp=>by
   have e:¬((t.getD j []).length:Int)=p:=of_decide_eq_false hp;rw[Ed,FQ a]at e;rw[step j a];exact Aw e)
  (by
   rw[JjT];simp only[Me (show¬(t.length:Int)<t.length by omega),AU,Bd,BF,BC])
 simp only[MG,AU];rcases hs with⟨d,g⟩|⟨j,_,a,hp,_,g⟩
 ·refine⟨-1,?_,by omega,?_⟩
  ·have m:iD ((0:Nat):Int)=iD 0:=rfl;rw[m]at g;rw[g];simp
  ·rintro⟨l,o,c⟩;obtain⟨j,a,rfl⟩:=oU.1 o;have:=L8 (d j (F9 _) a);rw[Ed,FQ a]at this;exact absurd this c
 ·refine⟨j,?_,fun _=> ?_,fun _=>by omega⟩
  ·have m:iD ((0:Nat):Int)=iD 0:=rfl;rw[m]at g;rw[g];simp
  ·have e:¬((t.getD j []).length:Int)=p:=of_decide_eq_false hp;rw[Ed,FQ a]at e;exact⟨t[j],Ih a,e⟩
def EA(P:Aj):Tab:=⟨[(173,false,uN P)],BM,[]⟩
def Jr3:Bg Aa (EA Aa):=CU (AC (CB QbL) EN)
def JfC:Ac Nat:=[]
def JlG(n:Nat)(b a:D)(h:Ae):AB Aa (EA Aa) JfC n f105 [b,a] h=
(Ah (uN Aa [b,a] h) fun e c=>
Ad (Ag .int .geq e (iD 0)) fun d=>
some (d,c)):=by kernel_rfl
def qK(P:Aj):GT:=CO P (EA P) JfC 0 105
def JlE:BN Aa 105 (qK Aa):=CQ Jr3 AX func105
def QeB(t:Ac (Ac Int))(b:Nat)(p:Int)(H:Ae)(h:Ai none H (.hp b 0)=some (iD p))(d:t.length<=1000):
  qK Aa [BH t,.clo (.func 100) [] [.hp b 0]] H=some (bD (decide (∃l∈t,(l.length:Int)≠p)),H):=by
 obtain⟨k,c,a⟩:=QaV t b p H h d;rw[qK,CJ func105,JlG];have:Ag .int .geq (iD k) (iD 0)=some (bD (decide (0<=k))):=rfl;simp only[c,A7,this,AU];congr 3;exact decide_eq_decide.2 a
def JdQ(P:Aj):Ac Cj:=(105,false,qK P)::(103,true,Ak WC)::[]
def Jst:∀p∈JdQ Aa,Ci Aa p:=AC (CB JlE)<|AC (Bf Jrh)<|EN
def Yx(P:Aj):Tab:=⟨JdQ P,BM,[]⟩
def OF:Bg Aa (Yx Aa):=CU Jst
def JbM:Ac Nat:=[]
def JnA(n:Nat)(a:D)(h:Ae):AB Aa (Yx Aa) JbM n f102 [a] h=
(Ad (Ai none h a) fun d=>
Ad (Bq .sl d) fun e=>
Ad (Ag .int .geq e (iD 1)) fun k=>
Az k
(Ad (Ai none h a) fun g=>
Ad (Bq .sl g) fun i=>
Ad (Ag .int .leq i (iD 20)) fun l=>
Ah (Ak WC [l,(iD 18)] h) fun b j=>
some (b,j))
(Ah (Ak WC [(bD false),(iD 18)] h) fun m c=>
some (m,c))):=by kernel_rfl
def Jah:Ac Nat:=[]
def Qd8(n:Nat)(b a:D)(h:Ae):AB Aa (Yx Aa) Jah n f104 [b,a] h=
(Ad (Ai none h b) fun i=>
Ad (Ai none h a) fun j=>
Ah (qK Aa [i,j] h) fun g d=>
Ad (Gn g) fun c=>
Ah (Ak WC [c,(iD 18)] d) fun e k=>
some (e,k)):=by kernel_rfl
def Jc1:Ac Nat:=[]
def Jmg(n:Nat)(a:D)(h:Ae):AB Aa (Yx Aa) Jc1 n f106 [a] h=
(Ad (Ai none h a) fun i=>
Ad (Ag .int .geq i (iD 1)) fun k=>
Az k
(Ad (Ai none h a) fun g=>
Ad (Ag .int .leq g (iD 10000)) fun b=>
Ah (Ak WC [b,(iD 19)] h) fun d j=>
some (d,j))
(Ah (Ak WC [(bD false),(iD 19)] h) fun c e=>
some (c,e))):=by kernel_rfl
def AW(P:Aj):GT:=CO P (Yx P) JbM 0 102
def Jwe:BN Aa 102 (AW Aa):=CQ OF AX func102
def Bb(P:Aj):GT:=CO P (Yx P) Jah 0 104
def JmL:BN Aa 104 (Bb Aa):=CQ OF AX func104
def BE(P:Aj):GT:=CO P (Yx P) Jc1 0 106
def JwI:BN Aa 106 (BE Aa):=CQ OF AX func106
def Jb5:D:= .clo (.func 102) [] [.hp 1 0]
def JjP:D:= .clo (.func 104) [] [.hp 1 0,.hp 3 0]
def Jam:D:= .clo (.func 106) [] [.hp 2 0]
def I8(p:Int)(t:Ac (Ac Int))(f:Int):Ae:=[.cells 3 1 [iD p],.cells 26 1 [BH t],.cells 3 1 [iD f],.cells 167 1 [.clo (.func 100) [] [.hp 0 0]],.cells 147 1 [Jb5,JjP,Jam]]
def w2(t:Ac (Ac Int)):Int:=if 1<=t.length/\t.length<=20 then 0 else 18
def w3(p:Int)(t:Ac (Ac Int)):Int:=if∃l∈t,(l.length:Int)≠p then 18 else 0
def w4(f:Int):Int:=if 1<=f/\f<=10000 then 0 else 19
def Qac(p:Int)(t:Ac (Ac Int))(f:Int):AW Aa [.hp 1 0] (I8 p t f)=some (iD (w2 t),I8 p t f):=by
 rw[AW,CJ func102,JnA];have c:Ai none (I8 p t f) (.hp 1 0)=some (BH t):=rfl;unfold w2;by_cases b:(1:Int)<=t.length
 ·by_cases d:(t.length:Int)<=20
  ·have a:1<=t.length/\t.length<=20:=⟨by omega,by omega⟩;simp only[c,AU,MG,PQ,Ve,CZ b,CZ d,Bd,Bv,bV,A7,Aw a]
  ·have a:¬(1<=t.length/\t.length<=20):=by omega
   simp only[c,AU,MG,PQ,Ve,CZ b,Dc d,Bd,Bv,bV,A7,Am a,BF,BC]
 ·have a:¬(1<=t.length/\t.length<=20):=by omega
  simp only[c,AU,MG,PQ,Dc b,Bd,bV,A7,Am a,BF,BC]
def JuN(p:Int)(t:Ac (Ac Int))(f:Int)(c:t.length<=1000):Bb Aa [.hp 1 0,.hp 3 0] (I8 p t f)=some (iD (w3 p t),I8 p t f):=by
 rw[Bb,CJ func104,Qd8];have a:Ai none (I8 p t f) (.hp 1 0)=some (BH t):=rfl;have b:Ai none (I8 p t f) (.hp 3 0)=some (.clo (.func 100) [] [.hp 0 0]):=rfl;have hs:=QeB t 0 p (I8 p t f) rfl c;unfold w3;simp only[a,b,AU,hs,A7,Yr,bV];by_cases h:∃l∈t,(l.length:Int)≠p
 ·simp only[CZ h,Aw h,MX,BF,BC]
 ·simp only[Dc h,Am h,zT,Bv]
def QeK(p:Int)(t:Ac (Ac Int))(f:Int):BE Aa [.hp 2 0] (I8 p t f)=some (iD (w4 f),I8 p t f):=by
 rw[BE,CJ func106,Jmg];have c:Ai none (I8 p t f) (.hp 2 0)=some (iD f):=rfl;unfold w4;by_cases a:(1:Int)<=f
 ·by_cases b:f<=10000
  ·simp only[c,AU,PQ,Ve,CZ a,CZ b,Bd,Bv,bV,A7,Aw (And.intro a b)]
  ·have d:¬(1<=f/\f<=10000):=fun h=>b h.2;simp only[c,AU,PQ,Ve,CZ a,Dc b,Bd,Bv,bV,A7,Am d,BF,BC]
 ·have d:¬(1<=f/\f<=10000):=fun h=>a h.1;simp only[c,AU,PQ,Dc a,Bd,bV,A7,Am d,BF,BC]
def Jz5(P:Aj):Ac Cj:=[(102,false,AW P),(104,false,Bb P),(106,false,BE P)]
def SL(P:Aj):Tab:=⟨Jz5 P,BM,[]⟩
def JnR:Bg Aa (SL Aa):=CU (AC (CB Jwe)<|AC (CB JmL)<|AC (CB JwI)<|EN)
def Xz:Ac Nat:=[2,6,7,8]
def JtF(n:Nat)(b:D)(h:Ae):AB Aa (SL Aa) Xz n f101 [b] h=
(Ad (Bq .sl b) fun e=>
Dy (BZ Aa (SL Aa) Xz n f101 0 [(iD 0),b,e,(iD 0)] h) (fun d c a=>
CW d 0
(some ((iD 0),a))
(none)) (fun c a=>
some ((gD c 0),a))):=by kernel_rfl
def Jhr(n:Nat)(s0 b c a:D)(h:Ae):BK Aa (SL Aa) Xz n f101 0 [s0,b,c,a] h=
(Ad (Ag .int .lss a c) fun i=>
Az i
(Ad (BG 1 b a) fun j=>
Ad (Ai none h j) fun k=>
Ah (C9 (SL Aa) k [] h) fun d e=>
Ad (Ag .int .neq d (iD 0)) fun l=>
Az l
(some (.ret,[d,b,c,a],e))
(Ad (Ag .int .add a (iD 1)) fun g=>
some (.normal,[s0,b,c,g],e)))
(some ((.exit 0),[s0,b,c,a],h))):=by kernel_rfl
def JJ(p:Int)(t:Ac (Ac Int))(f:Int):Int:=if w2 t≠0 then w2 t else if w3 p t≠0 then w3 p t else w4 f
def sN(P:Aj):GT:=CO P (SL P) Xz 9 101
def Jmc:BN Aa 101 (sN Aa):=CQ JnR AX func101
def Nn(p:Int)(t:Ac (Ac Int))(f:Int)(j:Nat)(d:j<3)(c:D)(e:Int)(g:Ai none (I8 p t f) (.hp 4 j)=some c)(b:C9 (SL Aa) c [] (I8 p t f)=some (iD e,I8 p t f)):
  BK Aa (SL Aa) Xz 9 f101 0 [iD 0,.hs 4 3,iD 3,iD j] (I8 p t f)=if e≠0 then some (.ret,[iD e,.hs 4 3,iD 3,iD j],I8 p t f)else some (.normal,[iD 0,.hs 4 3,iD 3,iD (j+1)],I8 p t f):=by
 rw[Jhr];have i:BG 1 (.hs 4 3) (iD j)=some (.hp 4 j):=by
  have a:IC (iD j)=some j:=by simp[IC]
  simp only[BG,a,BR];rw[Aw d,Ze]
 simp only[G6 (show(j:Int)<3 by omega),AU,Bd,Bv,i,g,b,A7,WM,G5 j (by omega)];by_cases h:e≠0
 ·simp only[Aw h,CZ h,Bv]
 ·simp only[Am h,Dc h,BF,BC]
def JkH(p:Int)(t:Ac (Ac Int))(f:Int)(o:t.length<=1000):sN Aa [.hs 4 3] (I8 p t f)=some (iD (JJ p t f),I8 p t f):=by
 rw[sN,CJ func101,JtF];have s0:=Nn p t f 0 (by decide) Jb5 (w2 t) rfl (Qac p t f);have d:=Nn p t f 1 (by decide) JjP (w3 p t) rfl (JuN p t f o);have g:=Nn p t f 2 (by decide) Jam (w4 f) rfl (QeK p t f);have n:BK Aa (SL Aa) Xz 9 f101 0 [iD 0,.hs 4 3,iD 3,iD 3] (I8 p t f)=some (.exit 0,[iD 0,.hs 4 3,iD 3,iD 3],I8 p t f):=by
  rw[Jhr];simp only[Me (show¬(3:Int)<3 by omega),AU,Bd,BF,BC]
 have key:BZ Aa (SL Aa) Xz 9 f101 0 [iD 0,.hs 4 3,iD 3,iD 0] (I8 p t f)=if JJ p t f≠0 then(if w2 t≠0 then some (.ret,[iD (w2 t),.hs 4 3,iD 3,iD 0],I8 p t f)else if w3 p t≠0 then some (.ret,[iD (w3 p t),.hs 4 3,iD 3,iD 1],I8 p t f)else some (.ret,[iD (w4 f),.hs 4 3,iD 3,iD 2],I8 p t f))else some (.exit 0,[iD 0,.hs 4 3,iD 3,iD 3],I8 p t f):=by
  show DY (BK Aa (SL Aa) Xz 9 f101 0) 9 _ _=_;unfold JJ;have k:iD ((0:Nat):Int)=iD 0:=rfl;have l:iD ((1:Nat):Int)=iD 1:=rfl;have m:iD ((2:Nat):Int)=iD 2:=rfl;have h:iD (((0:Nat):Int)+1)=iD 1:=rfl;have j:iD (((1:Nat):Int)+1)=iD 2:=rfl;have i:iD (((2:Nat):Int)+1)=iD 3:=rfl;rw[k,h]at s0;rw[l,j]at d;rw[m,i]at g;by_cases a:w2 t≠0
  ·rw[Aw a]at s0;rw[Aw a,Aw a,Aw a];exact nH s0
  ·rw[Am a]at s0;rw[Am a,Am a,IQ s0];by_cases b:w3 p t≠0
   ·rw[Aw b]at d;rw[Aw b,Aw b,Aw b];exact nH d
   ·rw[Am b]at d;rw[Am b,Am b,IQ d];by_cases c:w4 f≠0
    ·rw[Aw c]at g;rw[Aw c];exact nH g
    ·rw[Am c]at g;rw[Am c,IQ g];exact PP n
 have e:Bq .sl (.hs 4 3)=some (iD 3):=rfl;rw[e];simp only[AU,key];unfold JJ;by_cases a:w2 t≠0
 ·simp[a]
 ·by_cases b:w3 p t≠0
  ·simp[a,b]
  ·by_cases c:w4 f≠0
   ·simp[a,b,c]
   ·simp[a,b,pO.1 c]
def Tx(P:Aj):Tab:=⟨[(101,false,sN P)],BM,[]⟩
def Jm2:Bg Aa (Tx Aa):=CU (AC (CB Jmc) EN)
def Jgs:Ac Nat:=[]
def Jyw(n:Nat)(g i j:D)(h:Ae):AB Aa (Tx Aa) Jgs n f35 [g,i,j] h=
(Ah (BA 3 g h) fun o r=>
Ah (BA 26 i r) fun k l=>
Ah (BA 3 j l) fun p s=>
Ah (BX 167 [BI] s) fun e q=>
Ah (Bh 1 e (.clo (.func 100) [] [o]) q) fun u m=>
Ah (DI 147 1 3 [BI] [(0,(.clo (.func 102) [] [k])),(1,(.clo (.func 104) [] [k,e])),(2,(.clo (.func 106) [] [p]))] m) fun a d=>
Ah (sN Aa [a] d) fun b c=>
some (b,c)):=by kernel_rfl
def RH:Ac D->Af D:=F3 BV JD BV fun p t f=>if t.length<=1000 then some (iD (JJ p t f))else none
def GD:Bz Aa 35 RH:=V4 (kp:=Jgs) Jm2 AX func35 fun p t f d h=>by
 split at h
 case isFalse=>cases h
 rename_i j;cases h;refine⟨0,iD (JJ p t f),?_,AY.refl _⟩;show BB (AB _ _ _ _ _ [iD p,BH t,iD f] [])=_;rw[Jyw];have c:BA 3 (iD p) []=some (.hp 0 0,[.cells 3 1 [iD p]]):=rfl;have a:BA 26 (BH t) [.cells 3 1 [iD p]]=some (.hp 1 0,[.cells 3 1 [iD p],.cells 26 1 [BH t]]):=rfl;have e:BA 3 (iD f) [.cells 3 1 [iD p],.cells 26 1 [BH t]]=some (.hp 2 0,[.cells 3 1 [iD p],.cells 26 1 [BH t],.cells 3 1 [iD f]]):=rfl;have b:BX 167 [BI] [.cells 3 1 [iD p],.cells 26 1 [BH t],.cells 3 1 [iD f]]=some (.hp 3 0,[.cells 3 1 [iD p],.cells 26 1 [BH t],.cells 3 1 [iD f],.cells 167 1 [BI]]):=rfl;have g:Bh 1 (.hp 3 0) (.clo (.func 100) [] [.hp 0 0]) [.cells 3 1 [iD p],.cells 26 1 [BH t],.cells 3 1 [iD f],.cells 167 1 [BI]]=some (.v undef,[.cells 3 1 [iD p],.cells 26 1 [BH t],.cells 3 1 [iD f],.cells 167 1 [.clo (.func 100) [] [.hp 0 0]]]):=rfl;have i:DI 147 1 3 [BI] [(0,.clo (.func 102) [] [.hp 1 0]),(1,.clo (.func 104) [] [.hp 1 0,.hp 3 0]),(2,.clo (.func 106) [] [.hp 2 0])] [.cells 3 1 [iD p],.cells 26 1 [BH t],.cells 3 1 [iD f],.cells 167 1 [.clo (.func 100) [] [.hp 0 0]]]=some (.hs 4 3,I8 p t f):=rfl;simp only[c,a,e,b,g,i,A7,JkH p t f j];exact Gu _ _ rfl
def uG(p:Int)(t:Ac (Ac Int))(f:Int)(a:t.length<=1000)(H:Ae):Ak RH [iD p,BH t,iD f] H=some (iD (JJ p t f),H):=by
 rw[CP _ _ _ rfl];have:RH [iD p,BH t,iD f]=_:=V6 (A:=BV) (B:=JD) (C:=BV) _ p t f;rw[this,Aw a];rfl
def JaP(P:Aj):Ac Cj:=(35,true,Ak RH)::YE P
def QbN:∀p∈JaP Aa,Ci Aa p:=AC (Bf GD)<|ZY
def QB(P:Aj):Tab:=⟨JaP P,BM,[]⟩
def Jmy:Bg Aa (QB Aa):=CU QbN
def eV(P:Aj):Ac Cj:=(149,true,DX Xu)::(29,true,Ak Ko)::(35,true,Ak RH)::[]
def Jj2:∀p∈eV Aa,Ci Aa p:=AC (Jy Jb1)<|AC (Bf tN)<|AC (Bf GD)<|EN
def Uz(P:Aj)(Y:Nat->GT):Tab:=⟨eV P,Y,[]⟩
def Jax(Y:Nat->GT)(a:FT Aa Y):Bg Aa (Uz Aa Y):=⟨Jj2,a,fun _ h=>by cases h⟩
section
variable (Y : Nat → GT)
def Jba:Ac Nat:=[]
def Jpa(n:Nat)(c b a:D)(h:Ae):AB Aa (Uz Aa Y) Jba n f252 [c,b,a] h=
(Ah (BA 25 c h) fun j g=>
Ah (BA 26 b g) fun i e=>
Ah (BA 3 a e) fun d k=>
some ((.clo (.func 289) [] [i,j,d]),k)):=by kernel_rfl
def oO:Ac Nat:=[0,2,3,9,10,11]
def JqK(n:Nat)(g c b e:D)(h:Ae):AB Aa (Uz Aa Y) oO n f289 [g,c,b,e] h=
(Ad (Ai none h c) fun d=>
Ad (Bq .sl d) fun k=>
Dy (BZ Aa (Uz Aa Y) oO n f289 0 [g,b,e,d,k,(iD 0)] h) (fun i j a=>
CW i 0
(some (.tup [],a))
(none)) (fun j a=>
some (.tup [],a))):=by kernel_rfl
def Jhl(n:Nat)(s0 b d i e a:D)(h:Ae):BK Aa (Uz Aa Y) oO n f289 0 [s0,b,d,i,e,a] h=
(Ad (Ag .int .lss a e) fun v=>
Az v
(Ce 1 none h i a fun w=>
Ad (Ai (some 3) h b) fun q=>
Ad (Ai none h d) fun r=>
Ah (DX Xu [q,w,r] h) fun s p=>
Eo s fun o x=>
Dw 237 [(iD 0),(iD 0),(iD 0),Aq] 4 o p fun u c=>
Ad (Ai (some 4) c u) fun j=>
Ah (C9 (Uz Aa Y) s0 [a,j] c) fun m g=>
Ad (Gn m) fun k=>
Az k
(some (.ret,[s0,b,d,i,e,a],g))
(Ad (Ag .int .add a (iD 1)) fun l=>
some (.normal,[s0,b,d,i,e,l],g)))
(some ((.exit 0),[s0,b,d,i,e,a],h))):=by kernel_rfl
end
def xC(P:Aj)(Y:Nat->GT):GT:=CO P (Uz P Y) oO 1000 289
def Jyy(Y:Nat->GT)(a:FT Aa Y):BN Aa 289 (xC Aa Y):=CQ (Jax Y a) AX func289
def yP(P:Aj):GT:=CO P (Uz P BM) Jba 0 252
def Qao:BN Aa 252 (yP Aa):=CQ (Jax BM (cZ _)) AX func252
def UK(P:Aj)(Y:Nat->GT):Tab:=⟨(289,false,xC P Y)::(252,false,yP P)::eV P,Y,[]⟩
def Jbe(Y:Nat->GT)(a:FT Aa Y):Bg Aa (UK Aa Y):=⟨AC (CB (Jyy Y a))<|AC (CB Qao) Jj2,a,fun _ h=>by cases h⟩
def YV(P:Aj):Nat->GT:=Yn P (UK P) 0 1
def Jlc:FT Aa (YV Aa):=TW Jbe AX 0 1
section
variable (Y : Nat → GT)
def XF:Ac Nat:=[10]
def Jrb(n:Nat)(v q k:D)(h:Ae):AB Aa (UK Aa Y) XF n f200 [v,q,k] h=
(Ah (BA 25 v h) fun m u=>
Ad (Ai (some 3) u m) fun B=>
Ah (Ak Ko [B] u) fun s j=>
Ad (Ag .int .neq s (iD 0)) fun z=>
Az z
(some (.tup [Aq,s],j))
(Ad (AP 0 m) fun x=>
Ad (Ai none j x) fun y=>
Ah (Ak RH [y,q,k] j) fun w r=>
Ad (Ag .int .neq w (iD 0)) fun g=>
Az g
(some (.tup [Aq,w],r))
(Ah (BX 136 [Aq] r) fun b c=>
Ad (Ai (some 3) c m) fun i=>
Ah ((yP Aa) [i,q,k] c) fun p o=>
PI (IK (UK Aa Y) p [30,31] (ET f200 0) (EL f200 0) 38 XF [b] o) (fun a=>
Ad (Ai none a b) fun l=>
some (.tup [l,(iD 0)],a)) (fun d a=>
CW d 0
(Ad (Ai none a b) fun e=>
some (.tup [e,(iD 0)],a))
(none)) (fun a=>
some (.tup [Aq,(iD 0)],a))))):=by kernel_rfl
def Jq8(n id:Nat)(s0:D)(i e:D)(h:Ae):Mc Aa (UK Aa Y) n id [30,31] (ET f200 0) (EL f200 0) 38 XF [s0] [i,e] h=
(Dw 237 [(iD 0),(iD 0),(iD 0),Aq] 4 e h fun m g=>
IZ id g fun c=>
Ad (Ai none c s0) fun o=>
AV 0 (some 2) c m fun l=>
Ah (DI 105 2 1 [(iD 0),(iD 0)] [(0,l)] c) fun p j=>
Ah (D5 105 2 o p j) fun a d=>
Ah (Bh 1 s0 a d) fun k b=>
J9 id .normal b):=by kernel_rfl
end
section
variable {α : Type}
@[congr] theorem QgY{o a:Af (Out×Ae)}(kp:Ap->Ae->Af α)(k:D->Ae->Af α)(h:o=a):jM o kp k=jM a kp k:=by rw[h]
@[congr] theorem QfN{o a:Af Ap}(k:Ap->Af α)(h:o=a):rJ o k=rJ a k:=by rw[h]
@[congr] theorem QgS{r a:Af (Lv×Ac D×Ae)}(x:Nat->Ac D->Ae->Af α)(y:Ac D->Ae->Af α)(z:Ap->Ac D->Ae->Af α)(h:r=a):aO r x y z=aO a x y z:=by rw[h]
@[simp] theorem Qh2(d:D)(H:Ae)(kp:Ap->Ae->Af α)(k:D->Ae->Af α):jM (some (.ret d,H)) kp k=k d H:=rfl
@[simp] theorem QgW(x:Ap)(H:Ae)(kp:Ap->Ae->Af α)(k:D->Ae->Af α):jM (some (.pan x,H)) kp k=kp x H:=rfl
@[simp] theorem QfI(x:Ap)(k:Ap->Af α):rJ (some x) k=k x:=rfl
@[simp] theorem Qg4(j:Nat)(s:Ac D)(H:Ae)(x:Nat->Ac D->Ae->Af α)(y:Ac D->Ae->Af α)(z:Ap->Ac D->Ae->Af α):aO (some (.exit j,s,H)) x y z=x j s H:=rfl
@[simp] theorem Qh4(s:Ac D)(H:Ae)(x:Nat->Ac D->Ae->Af α)(y:Ac D->Ae->Af α)(z:Ap->Ac D->Ae->Af α):aO (some (.ret,s,H)) x y z=y s H:=rfl
@[simp] theorem Qf1(v:Ap)(s:Ac D)(H:Ae)(x:Nat->Ac D->Ae->Af α)(y:Ac D->Ae->Af α)(z:Ap->Ac D->Ae->Af α):aO (some (.pan v,s,H)) x y z=z v s H:=rfl
end
def K6(P:Aj)(e:En)(H:Ae):Ac ResultVar->Af (Out×Ae)
 |[r]=>Ad (NY P e H r) fun d=>some (.ret d,H)
 |[f,b]=>Ad (NY P e H f) fun a=>Ad (NY P e H b) fun c=>some (.ret (.tup [a,c]),H)
 |[f,b,h]=>Ad (NY P e H f) fun a=>Ad (NY P e H b) fun c=>Ad (NY P e H h) fun g=>some (.ret (.tup [a,c,g]),H)
 |[]=>some (.ret (.tup []),H)
 |_=>none
def Jtu(P:Aj)(rs:Ac ResultVar):Lv->En->Ae->Af (Out×Ae)
 | .exit _,_,_| .goto _,_,_=>none
 | .pan x,_,H=>some (.pan x,H)
 |_,e,H=>K6 P e H rs
def kZ{α:Type}{o:Af D}{k:D->Af α}{r:α}(h:Ad o k=some r):∃d,o=some d/\k d=some r:=by
 cases o with
 |none=>cases h
 |some d=>exact⟨d,rfl,h⟩
def JnK{P:Aj}{e:En}{H:Ae}{rs:Ac ResultVar}{o:Out}{H':Ae}(h:K6 P e H rs=some (o,H')):∃d,o= .ret d/\Vq P e H rs=some (d,H'):=by
 unfold K6 at h;unfold Vq;split at h
 ·obtain⟨d,a,h⟩:=kZ h;simp_all
 ·obtain⟨d,a,h⟩:=kZ h;obtain⟨b,c,h⟩:=kZ h;simp_all
 ·obtain⟨d,a,h⟩:=kZ h;obtain⟨b,c,h⟩:=kZ h;obtain⟨g,f,h⟩:=kZ h;simp_all
 ·grind
 ·cases h
def eZ(P:Aj)(T:Tab)(kp:Ac Nat)(n:Nat)(fn:Func)(ds:Ac D)(H:Ae):Af (Out×Ae):=
 if ds.length<=fn.ntmps then IR P T kp n fn.ntmps (Kt fn) (Us ds 0) H (Jtu P fn.results.toList)else none
section
variable {P : Aj} {T : Tab}
def B7(ds:Ac D)(n:Nat)(h:ds.length<=n):Rl n (Us ds 0) (ds++List.replicate (n-ds.length) .undef):=by
 refine⟨by simp;omega,fun t=> ?_⟩;rw[Jea,Aw (F9 _),Nat.sub_zero,Ed,Ed]
 grind
def CC{B:Nat}{S:Nat->Prop}{L:Ac (Nat×Nat)}{w:AA}{H:Ae}{vs:Ac Ap}{ds:Ac D}(fn:Func)(d:BD B S L w H)(a:Au S L w vs ds):
  EY B ⟨w.heap.size,[],false⟩ S L w {tmps:=vs.toArray++Array.replicate (fn.ntmps-vs.toArray.size) undef,defers:=[]} (ds++List.replicate (fn.ntmps-ds.length) .undef,H):=by
 have f:=a.length;refine⟨Pq.nil,?_,d⟩;have b:∀k,Au S L w (List.replicate k undef) (List.replicate k .undef):=by
  intro k
  induction k with
  |zero=>exact Au.nil
  |succ k c=>exact Au.cons (by simp only[Rep]) c
 have e:=a.append (b (fn.ntmps-ds.length));simp_all
def Jfe{fn:Func}{B:Nat}{S:Nat->Prop}{L:Ac (Nat×Nat)}{W:AA}{b:CX Ap}{fr:Fr}{e:En}{sz:Nat}(c:Rl sz e fr.1){d:D}{H':Ae}(h:Vq P e fr.2 fn.results.toList=some (d,H'))(i:Au S L W b.toList fr.1)(k:BD B S L W fr.2):
  H'=fr.2/\∃v,(results fn b).run P W= .ok v W/\Rep S L W v d:=by
 have j:=Jd4 c h;obtain⟨l,g,f⟩:=DV.1 j;cases f;exact⟨rfl,aD (fn:=fn) (a:=⟨b,[]⟩) (N:=⟨0,[],false⟩) ⟨Pq.nil,i,k⟩ g⟩
def JmH{kp:Ac Nat}(Q:Bg P T)(M:P.follows .mixedOrders=true){f:CG}{fn:Func}(F:P.funcs[f]? =some fn)(u:fn.body.isSome=true)(a:fn.name≠ "runtime.NumGoroutine"){G:Ac D→Ae→Af (Out×Ae)}
  (h:∀ds H o H',G ds H=some (o,H')->∃n,eZ P T kp n fn ds H=some (o,H')):ZB P f G:=by
 refine⟨⟨fn,F,a,u⟩,fun ds H o H' I B S L vs w p J=> ?_⟩;obtain⟨n,g⟩:=h ds H o H' I;unfold eZ at g;split at g
 case isFalse=>cases g
 rename_i r;cases t:fn.body with
 |none=>rw[t]at u;cases u
 |some c=>
  unfold Kt at g;rw[t]at g;obtain⟨R,fr,e,O,U,m⟩:=V8 c _ _ _ _ _ (B7 ds _ r) g;refine callsIn_wide.1 (callsIn_of_wp_marks (n:=1) F t trivial (SN Q M .wide p.base c O (.inl ⟨rfl,rfl⟩) (BQ _) (CC fn p J) fun z k b i A C=> ?_));have DK:∀o,K6 P e fr.2 fn.results.toList=some (o,H')->LeavesInM Fence.wide 1 P fn z.tmps (fun e k=>∃b i,Jdm b i k e o/\BD B b i k H'/\Later B S b L i w k) z.defers .returning k:=by
   intro o j;obtain⟨d,rfl,s⟩:=JnK j;refine A.shut (by simp) C (BQ _) p.base fun W E q y=> ?_;obtain⟨rfl,v,N,K⟩:=Jfe (fn:=fn) U s E q;exact⟨v,N,b,i,⟨v,rfl,K⟩,q,y⟩
  cases R with
  |exit id=>cases m
  |goto l=>cases m
  |normal=>exact DK _ m
  |ret=>exact DK _ m
  |pan x=>
   cases m
   refine A.shut (by simp) C (BQ _) p.base fun W E q y=> ?_;exact⟨b,i,rfl,q,y⟩
def bS:Ap->D
 | .agg xs=> .agg (xs.toList.map fun x=>match x with| .agg a=> .agg (a.toList.map .v)|x=> .v x)
 |x=> .v x
def bE:Ap->D
 | .iface t x=> .ifc t (bS x)
 |x=> .v x
def JpL{S:Nat->Prop}{L:Ac (Nat×Nat)}{w:AA}(x:Ap):Rep S L w x (bE x):=by
 have e:∀b:Ac Ap,Au S L w b (b.map .v):=by
  intro b
  induction b with
  |nil=>exact Au.nil
  |cons a r c=>exact Au.cons (by simp only[Rep]) c
 have d:∀y:Ap,Rep S L w y (bS y):=by
  intro y;unfold bS;split
  ·rename_i xs;simp only[Rep];refine⟨xs.toList,by simp,?_⟩;generalize xs.toList=l
   induction l with
   |nil=>exact Au.nil
   |cons a r c=>
    refine Au.cons ?_ c;dsimp only;split
    ·rename_i b;simp only[Rep]
     grind
    ·simp only[Rep]
  ·simp only[Rep]
 unfold bE;split
 ·rename_i t y;simp only[Rep]
  grind
 ·simp only[Rep]
def T0:Tab:=⟨[],BM,[]⟩
def bC:Bg P T0:=⟨(fun p h=>by cases h),cZ P,(fun p h=>by cases h)⟩
def Qbo:Lv->Ae->Af Ae
 | .normal,H| .ret,H=>some H
 |_,_=>none
def ZQ(P:Aj)(kp:Ac Nat)(n:Nat)(fn:Func)(v:D)(ds:Ac D)(H:Ae):Af Ae:=
 match Kt fn,fn.results.toList with
 | .seq (.region _ ops false) a,[]=>
  match ops.toList with
  |o::r=>
   match o.op,o.dst,o.guard with
   | .call {callee:= .builtin .recover,.. },some t,none=>
    if ds.length<=fn.ntmps/\t<fn.ntmps then NC P T0 fn.ntmps ops.toList (fun _ _ _ _ _=>none) r [] 1 ((t,v)::Us ds 0) H [] fun e H' _=>IR P T0 kp n fn.ntmps a e H' fun b _ c=>Qbo b c else none
   |_,_,_=>none
  |_=>none
 |_,_=>none
def Jue{n B:Nat}{N:NB}(ops:CX Oper){Q:Exit->Act->Ac Frame->AA->Prop}{cs:Ac Frame}:∀(l:Ac Nat) (m:Ac Oper) (a:Act) (w:AA) (S:Nat->Prop) (L:Ac (Nat×Nat)) (s s':Fr),l.map (ops[·]?)=m.map some->GG P T0 ops.toList m s=some s'->EY B N S L w a s->
  (∀A p u z,EY B N u z p A s'->Later B S u L z w p->Q .normal A cs p)->wpOpsSIn Fence.wide n P ops Q l a cs w:=by
 intro l
 induction l with
 |nil=>
  intro m a w S L s s' k h g C;cases m with
  |nil=>
   simp only[GG,CE]at h;subst h;exact C a w S L g Later.refl
  |cons o r=>cases k
 |cons i y M=>
  intro m a w S L s s' k h g C;cases m with
  |nil=>cases k
  |cons o r=>
   simp only[EP,Q3]at k;obtain⟨T,k⟩:=k;simp only[wpOpsSIn,T];refine⟨fun f _=>trivial,?_⟩;simp only[GG]at h;cases c:Iq P T0 ops.toList o s.1 s.2 with
   |none=>rw[c]at h;cases h
   |some d=>
    rw[c,BR]at h;have e:∀b,Ns ops.toList o s.1=some b->Region.wanted o (yielded ops a.tmps)=b:=fun b q=>iH q fun j J t v _ _ R=>by
     obtain⟨x,X,V⟩:=g.tmps.get t _ R;simp only[Rep]at V
     grind
    unfold Iq at c;split at c
    ·rename_i q;rw[e _ q];simp only[Bv];obtain⟨d,H'⟩:=d;have H:Cc P o.op (DU s.1) s.2=some (d,H'):=by
      unfold DF at c;split at c
      ·cases c
      ·unfold C9 at c;split at c<;>cases c
      ·unfold XI at c;split at c
       ·obtain⟨f,_,c⟩:=Bi.1 c;cases c
       ·cases c
      ·rename_i I;rw[I];exact c
      ·exact c
     obtain⟨x,p,u,z,Z,K,U,G⟩:=nB (o:=o) H (XO g.tmps) g.objs;have Y:∀x,Rep u z p x d->wpOpsSIn Fence.wide n P ops Q y (a.put o.dst x) cs p:=fun x K=>
      M r _ _ u z _ _ k h ⟨by rw[UH];exact g.defers.later G,(G.repA g.tmps).put o.dst K,U⟩ fun A E D F W O=>C A E D F W (G.trans O)
     grind
    ·rename_i q;rw[e _ q];simp only[BF,BC];cases c;exact M r _ _ S L _ _ k h ⟨by rw[UH];exact g.defers,g.tmps.put o.dst (v:=undef) (d:= .v undef) (by simp only[Rep]),g.objs⟩ C
    ·cases c
def Jrk(hm:P.follows .mixedOrders=true){kp:Ac Nat}{n:Nat}{f:CG}{fn:Func}(hf:P.funcs[f]? =some fn)(C:LK (Kt fn)=true){v:D}{ds:Ac D}{H H':Ae}(h:ZQ P kp n fn v ds H=some H'){u s:FrameMode}{y:Ap}
  (hu:∀(q:Frame) (cs:Ac Frame),q.mode=u->(recoverD (q::cs)=none/\y= .nilIface/\s=u)\/recoverD (q::cs)=some (y,{q with mode:=s}::cs))
  {B:Nat} {S:Nat->Prop} {L:Ac (Nat×Nat)} {vs:Ac Ap} {w:AA} (Y:BD B S L w H) (hv:Au S L w vs ds) (hy:Rep S L w y v):
  CallsDIn Fence.wide 0 P f vs.toArray u w fun e m k=>∃x,e= .returned x/\m=s/\∃p l,BD B p l k H'/\Later B S p L l w k:=by
 unfold ZQ at h;split at h
 case h_2=>cases h
 rename_i id ops b a G;split at h
 case h_2=>cases h
 rename_i o r d;split at h
 case h_2=>cases h
 rename_i args ag t I J hg;split at h
 case isFalse=>cases h
 rename_i E;have hb:fn.body=some (.seq (.region id ops false) b):=by
  unfold Kt at a;cases hc:fn.body with
  |none=>rw[hc]at a;cases a
  |some c=>rw[hc]at a;exact congrArg some a
 have g:∀tm W,(results fn tm).run P W= .ok (.tuple #[]) W:=by
  intro tm W;have:fn.results= #[]:=by
   apply Al;rw[G]
  simp[results,this]
 have ab:=(B7 ds fn.ntmps E.1).set t E.2 v;rcases kJ _ _ _ _ _ _ _ _ _ _ ab h with⟨aa,e1,h1,h2,V⟩|⟨j,x,ae,e',h1,h2,V⟩
 case inr=>cases V
 obtain⟨lv,ah,e2,k1,k2,T⟩:=V8 b _ _ _ _ _ h2 V;refine callsDIn_of_wpSIn hf hb trivial fun q cs K=> ?_;refine wpSIn_seq (wpSIn_region ?_);have X:ops[0]? =some o:=by rw[<-Zc,d];rfl
 have ac:ops.size=r.length+1:=by rw[<-eP,d];rfl
 rw[ac,Jkv,List.range'_succ];simp only[wpOpsSIn,X];refine⟨fun _ _=>trivial,?_⟩;have hw:Region.wanted o (yielded ops ({tmps:=vs.toArray++Array.replicate (fn.ntmps-vs.toArray.size) undef,defers:=[]}:Act).tmps)=true:=by unfold Region.wanted;rw[hg]
 rw[hw];simp only[Bv];have z:(execOp ({tmps:=vs.toArray++Array.replicate (fn.ntmps-vs.toArray.size) undef,defers:=[]}:Act).eval o).run P w= .ok .recover w:=by
  obtain⟨dst,op,type,ad,after,guard⟩:=o;simp only at I;subst I;rfl
 rw[z];have F:=CC fn Y hv;have M:LK b=true:=by
  rw[a]at C;simp only[LK,DJ]at C;exact C.2
 have DK:∀(cs':Ac Frame),cs'={q with mode:=s}::cs->wpOpsSIn Fence.wide 0 P ops (Exit.thenS (b.wpSIn Fence.wide 0 P (bodyPostS P fn q cs fun e m k=>∃x,e= .returned x/\m=s/\∃p l,BD B p l k H'/\Later B S p L l w k)) (bodyPostS P fn q cs fun e m k=>∃x,e= .returned x/\m=s/\∃p l,BD B p l k H'/\Later B S p L l w k)) (List.range' (0+1) r.length) (({tmps:=vs.toArray++Array.replicate (fn.ntmps-vs.toArray.size) undef,defers:=[]}:Act).put o.dst y) cs' w:=by
  intro cs' R;refine Jue (N:=⟨w.heap.size,[],true⟩) ops _ r _ w S L _ aa ?_ h1 ⟨by rw[UH];exact Pq.nil,?_,Y⟩ fun a' k p l q1 q2=> ?_
  ·apply PU;intro i;rw[Xy,Xy];by_cases hi:i<r.length
   ·rw[List.getElem?_range' hi,Dt];have:ops[0+1+1*i]? =some r[i]:=by
     rw[<-Zc,d,show 0+1+1*i=i+1 from by omega,Jkw,FQ hi]
    rw[this,FQ hi];rfl
   ·rw[UC (by simp;omega),UC (by omega)];rfl
  ·have:=F.tmps.put o.dst hy;rw[J]at this⊢;exact this
  ·refine wpSIn_of_wpIn rfl (SN bC hm .wide Y.base b k1 (.inr M) q2.kept.size q1 fun Z af O Q A U=> ?_);obtain⟨Ds,m1,_,_,m4⟩:=A.defers;have hd:Z.defers=[]:=by rw[m1,m4 rfl];rfl
   have all:=q2.trans U;cases lv with
   |normal=>cases T;exact⟨hd,s,R,_,g _ _,_,rfl,rfl,O,Q,A.objs,all⟩
   |ret=>cases T;exact⟨hd,s,R,_,g _ _,_,rfl,rfl,O,Q,A.objs,all⟩
   |_=>cases T
 rcases hu q cs K with⟨A,U,g3⟩|A
 ·rw[A];subst U;subst g3;exact DK _ (by subst K;rfl)
 ·rw[A];exact DK _ rfl
def ZM{α:Type}(o:Af Ae)(k:Ae->Af α):Af α:=
 match o with
 |some H=>k H
 |none=>none
def JrD(P:Aj)(rs:Ac ResultVar)(cl:D->Ae->Af Ae):Lv->En->Ae->Af (D×Ae)
 | .normal,e,H| .ret,e,H=>ZM (cl (.v .nilIface) H) fun a=>Vq P e a rs
 | .pan x,e,H=>ZM (cl (bE x) H) fun a=>Vq P e a rs
 |_,_,_=>none
def Jat{α:Type}(k:En->Ae->Af α):Lv->En->Ae->Af α
 | .normal,e,H=>k e H
 |_,_,_=>none
def oG(P:Aj)(T:Tab)(kp:Ac Nat)(n:Nat)(fn:Func)(g:CG)(cl:D->Ac D->Ae->Af Ae)(ds:Ac D)(H:Ae):Af (D×Ae):=
 match Kt fn with
 | .seq k (.seq (.region _ ops false) c)=>
  match ops.toList with
  |[e,f]=>
   match e.op,e.dst,e.guard,f.op,f.dst,f.guard with
   | .makeFunc (.func j) b a,some t,none,.defer {callee:= .value (.tmp i),args,.. },none,none=>
    match b.toList,args.toList with
    |[],[]=>
     if j=g/\i=t/\t<fn.ntmps/\ds.length<=fn.ntmps then
      IR P T kp n fn.ntmps k (Us ds 0) H (Jat fun d h=>IR P T kp n fn.ntmps c ((t,.clo (.func g) [] (a.toList.map (JB d)))::d) h (JrD P fn.results.toList fun v=>cl v (a.toList.map (JB d))))else none
    |_,_=>none
   |_,_,_,_,_,_=>none
  |_=>none
 |_=>none
def JsW{α:Type}{o:Af Ae}{k:Ae->Af α}{r:α}(h:ZM o k=some r):∃H,o=some H/\k H=some r:=by
 cases o with
 |none=>cases h
 |some H=>exact⟨H,rfl,h⟩
def Jf8{kp:Ac Nat}(hT:Bg P T)(hm:P.follows .mixedOrders=true){f g:CG}{fn gn:Func}(hf:P.funcs[f]? =some fn)(hb:fn.body.isSome=true)(hname:fn.name≠ "runtime.NumGoroutine")(hg:P.funcs[g]? =some gn)(hgb:gn.body.isSome=true)(hgn:gn.name≠ "runtime.NumGoroutine")(hgr:LK (Kt gn)=true){kp':Ac Nat}{n':Nat}{G:GT}
  (h:∀ds H d H',G ds H=some (d,H')->∃n,oG P T kp n fn g (ZQ P kp' n' gn) ds H=some (d,H')):BN P f G:=by
 refine⟨⟨fn,hf,hname,hb⟩,fun ds H d H' hG B S L vs w ho hv=> ?_⟩;obtain⟨n,hn⟩:=h ds H d H' hG;unfold oG at hn;split at hn
 case h_2=>cases hn
 rename_i r0 id ops rest hbody;split at hn
 case h_2=>cases hn
 rename_i o1 o2 hops;split at hn
 case h_2=>cases hn
 rename_i g' first caps t t' args ats hop1 hdst1 hg1 hop2 hdst2 hg2
 split at hn
 case h_2=>cases hn
 rename_i hfirst hargs;split at hn
 case isFalse=>cases hn
 rename_i hc;obtain⟨rfl,rfl,htl,hle⟩:=hc;have hbd:fn.body=some (.seq r0 (.seq (.region id ops false) rest)):=by
  unfold Kt at hbody;cases hc:fn.body with
  |none=>grind
  |some c=>grind
 obtain⟨lv0,fr1,e1,k1,k2,k3⟩:=V8 r0 _ _ _ _ _ (B7 ds _ hle) hn;cases lv0 with
 |normal=>
  simp only[Jat]at k3;have hrl2:=k2.set t' htl (.clo (.func g') [] (caps.toList.map (JB e1)));obtain⟨lv,fr2,e2,m1,m2,m3⟩:=V8 rest _ _ _ _ _ hrl2 k3;have hlen1:fr1.1.length=fn.ntmps:=k2.len;refine callsIn_wide.1 (callsIn_of_wp_marks (n:=1) hf hbd trivial (wpIn_seq (SN hT hm .wide ho.base r0 k1 (.inl ⟨rfl,rfl⟩) (BQ _) (CC fn ho hv) fun a1 w1 S1 L1 q1 q2=>wpIn_seq (wpIn_region ?_))));have hsz:ops.size=2:=by rw[<-eP,hops];rfl
  have ho1:ops[0]? =some o1:=by rw[<-Zc,hops];rfl
  have ho2:ops[1]? =some o2:=by rw[<-Zc,hops];rfl
  have hr2:List.range 2=[0,1]:=rfl;rw[hsz,hr2];simp only[wpOpsIn,ho1];have hw1:Region.wanted o1 (yielded ops a1.tmps)=true:=by unfold Region.wanted;rw[hg1]
  rw[Aw hw1];have hst:DF P T0 o1.op (DU fr1.1) fr1.2=some (.clo (.func g') [] (caps.toList.map (DU fr1.1)),fr1.2):=by
   rw[hop1];simp only[DF,Cc,hfirst,J7]
  refine Zk bC .wide hst (XO q1.tmps) q1.objs fun v w2 S2 L2 g1 g2 g3=> ?_;simp only[ho2];have hw2:Region.wanted o2 (yielded ops (a1.put o1.dst v).tmps)=true:=by unfold Region.wanted;rw[hg2]
  rw[Aw hw2];have g1':=g1;simp only[Rep,Au]at g1;obtain⟨ys,zs,rfl,rfl,hzs⟩:=g1;refine⟨fun _ _=>trivial,?_⟩;have htm:t'<a1.tmps.size:=by
   have h0:=q1.tmps.length;rw[eP,hlen1]at h0;rw[h0];exact htl
  have hev:(a1.put o1.dst (.func (.func g') #[] zs.toArray)).eval (.tmp t')= .func (.func g') #[] zs.toArray:=by
   rw[hdst1];simp[Act.put,Act.eval,htm]
  have hexec:((Oper.semAt (Fence.round Fence.wide) (a1.put o1.dst (.func (.func g') #[] zs.toArray)).eval o2)).run P w2= .ok (.defer {target:= .fn (.func g') zs.toArray,args:= #[]}) w2:=by
   show((Oper.semAt none _ o2)).run P w2=_;rw[Oper.semAt_none];have hargs':args= #[]:=Al hargs;obtain⟨dst,op,type,pos,after,guard⟩:=o2;simp only at hop2;subst hop2;subst hargs';have:(execOp (a1.put o1.dst (.func (.func g') #[] zs.toArray)).eval {dst,op:= .defer {callee:= .value (.tmp t'),args:= #[],argTypes:=ats},type,pos,after,guard})=(do pure (.defer (<-resolve (a1.put o1.dst (.func (.func g') #[] zs.toArray)).eval {callee:= .value (.tmp t'),args:= #[],argTypes:=ats} type))):=rfl;rw[this];simp[resolve,hev,Deferred.ofValue]
  have hlist:(List.toArray ([]:Ac Ap))= #[]:=rfl;rw[hlist]at*;rw[hexec,Oper.uponIn_defer];show rest.wpIn Fence.wide 1 P _ _ _;have hput:∀a:Act,a.put o2.dst undef=a:=by intro a;rw[hdst2];rfl
  rw[hput];have hq12:=q2.trans g3;have hdf:(a1.put o1.dst (.func (.func g') #[] zs.toArray)).defers=a1.defers:=UH _ _ _;let N':NB:=⟨w2.heap.size,{target:= .fn (.func g') zs.toArray,args:= #[]}::a1.defers,false⟩;have hrep2:EY B N' S2 L2 w2 {(a1.put o1.dst (.func (.func g') #[] zs.toArray))with defers:={target:= .fn (.func g') zs.toArray,args:= #[]}::(a1.put o1.dst (.func (.func g') #[] zs.toArray)).defers} (fr1.1.set t' (.clo (.func g') [] (caps.toList.map (JB e1))),fr1.2):=by
   refine⟨⟨[],by rw[hdf];rfl,List.nodup_nil,fun D h=>by(cases h),fun _=>rfl⟩,?_,g2⟩;have:=(g3.repA q1.tmps).put (a:=a1) o1.dst g1';rw[hdst1]at this⊢;rw[k2.eval];exact this
  have hB2:B<=N'.n:=Ig ho.base hq12.kept.size;refine SN hT hm .wide hB2 rest m1 (.inl ⟨rfl,rfl⟩) (BQ _) hrep2 fun a3 w3 S3 L3 p1 p2=> ?_;have DK:∀(u u':FrameMode) (y:Ap) (vd:D),u≠ .run->settle u'= .returning->(∀(c₀:Frame) (cs:Ac Frame),c₀.mode=u->(recoverD (c₀::cs)=none/\y= .nilIface/\u'=u)\/recoverD (c₀::cs)=some (y,{c₀ with mode:=u'}::cs))->(∀S L w,Rep S L w y vd)->
    (ZM (ZQ P kp' n' gn vd (caps.toList.map (JB e1)) fr2.2) fun H2=>Vq P e2 H2 fn.results.toList)=some (d,H')->
    LeavesInM Fence.wide 1 P fn a3.tmps (fun e w'=>∃v S' L',e= .returned v/\Rep S' L' w' v d/\BD B S' L' w' H'/\Later B S S' L L' w w') a3.defers u w3:=by
   intro u u' y vd hu hset hrec hy hcl;obtain⟨H2,hR,hks⟩:=JsW hcl;refine p1.shut hu p2 (BQ _) hB2 fun W i1 i2 i3=> ?_;have hgb':gn.body≠none:=by grind
   refine⟨hu,.inr ⟨(fun h=>by cases h),.func g',zs.toArray,g',zs.toArray,rfl,?_,fun _ _=>trivial,?_⟩⟩
   ·simp[invoke,callFunc,run_program,hg,hgb',hgn]
   ·have hzs':Au S3 L3 W zs (caps.toList.map (JB e1)):=by
     rw[k2.eval];exact i3.repA hzs
    refine(Jrk hm hg hgr hR hrec i2 hzs' (hy _ _ _)).mono ?_;rintro e m w4 ⟨x,rfl,rfl,S4,L4,r1,r2⟩;show LeavesInM Fence.wide 1 P fn a3.tmps _ a1.defers (settle m) w4;rw[hset];have hl4:=(g3.trans i3).trans r2;have hrep4:EY B ⟨w.heap.size,[],false⟩ S4 L4 w4 {tmps:=a3.tmps,defers:=a1.defers} (fr2.1,H2):=⟨q1.defers.later hl4,r2.repA i1,r1⟩;refine hrep4.shut (by simp) (q2.trans hl4) (BQ _) ho.base fun W2 j1 j2 j3=> ?_;obtain⟨rfl,v,h4,h5⟩:=Jfe (fn:=fn) (fr:=(fr2.1,H2)) m2 hks j1 j2;exact⟨v,h4,v,S4,L4,rfl,h5,j2,j3⟩
  cases lv with
  |exit id=>cases m3
  |goto l=>cases m3
  |normal=>exact DK .returning .returning .nilIface _ (by simp) rfl (fun c₀ cs hc=> .inl ⟨by simp[recoverD,hc],rfl,rfl⟩) (fun _ _ _=>by simp only[Rep]) m3
  |ret=>exact DK .returning .returning .nilIface _ (by simp) rfl (fun c₀ cs hc=> .inl ⟨by simp[recoverD,hc],rfl,rfl⟩) (fun _ _ _=>by simp only[Rep]) m3
  |pan x=>exact DK (.panicking [{v:=x,recovered:=false}]) (.panicking [{v:=x,recovered:=true}]) x _ (by simp) rfl (fun c₀ cs hc=> .inr (by simp[recoverD,hc])) (fun _ _ _=>JpL x) m3
 |_=>cases k3
end
def O4(P:Aj)(T:Tab)(kp:Ac Nat)(n:Nat)(f:CG)(ds:Ac D):Af D:=BB (CO P T kp n f ds [])
def ZF{P:Aj}{T:Tab}{kp:Ac Nat}{n:Nat}(c:Bg P T)(g:P.follows .mixedOrders=true){f:CG}{fn:Func}(b:P.funcs[f]? =some fn)(e:fn.body.isSome=true:=by kernel_rfl)(a:fn.name≠ "runtime.NumGoroutine" :=by decide):Bz P f (O4 P T kp n f):=
 wL (kp:=kp) c g b e a fun ds d h=>⟨n,by unfold O4 at h;rw[CJ b]at h;exact h⟩
def Qc7:Ac Nat:=[]
def JgR:Ac Nat:=[]
def JyL(n:Nat)(h:Ae):AB Aa T0 JgR n f310 [] h=
(Ad (XX 1 [wZ,wZ,wZ,wZ,wZ,wZ,wZ,wZ,wZ,wZ,wZ,wZ,wZ,wZ,wZ,wZ,wZ,wZ,wZ,wZ,wZ,wZ,wZ,wZ,wZ,wZ,wZ,wZ,wZ,wZ,wZ,wZ,wZ,wZ,wZ,wZ,wZ,wZ,wZ,wZ,wZ,wZ,wZ,wZ,wZ,wZ,wZ,wZ,wZ,wZ,wZ,wZ,wZ,wZ,wZ,wZ,wZ,wZ,wZ,wZ,wZ,wZ,wZ,wZ] [(0,(.v (.int .u32 1116352408))),(1,(.v (.int .u32 1899447441))),(2,(.v (.int .u32 3049323471))),(3,(.v (.int .u32 3921009573))),(4,(.v (.int .u32 961987163))),(5,(.v (.int .u32 1508970993))),(6,(.v (.int .u32 2453635748))),(7,(.v (.int .u32 2870763221))),(8,(.v (.int .u32 3624381080))),(9,(.v (.int .u32 310598401))),(10,(.v (.int .u32 607225278))),(11,(.v (.int .u32 1426881987))),(12,(.v (.int .u32 1925078388))),(13,(.v (.int .u32 2162078206))),(14,(.v (.int .u32 2614888103))),(15,(.v (.int .u32 3248222580))),(16,(.v (.int .u32 3835390401))),(17,(.v (.int .u32 4022224774))),(18,(.v (.int .u32 264347078))),(19,(.v (.int .u32 604807628))),(20,(.v (.int .u32 770255983))),(21,(.v (.int .u32 1249150122))),(22,(.v (.int .u32 1555081692))),(23,(.v (.int .u32 1996064986))),(24,(.v (.int .u32 2554220882))),(25,(.v (.int .u32 2821834349))),(26,(.v (.int .u32 2952996808))),(27,(.v (.int .u32 3210313671))),(28,(.v (.int .u32 3336571891))),(29,(.v (.int .u32 3584528711))),(30,(.v (.int .u32 113926993))),(31,(.v (.int .u32 338241895))),(32,(.v (.int .u32 666307205))),(33,(.v (.int .u32 773529912))),(34,(.v (.int .u32 1294757372))),(35,(.v (.int .u32 1396182291))),(36,(.v (.int .u32 1695183700))),(37,(.v (.int .u32 1986661051))),(38,(.v (.int .u32 2177026350))),(39,(.v (.int .u32 2456956037))),(40,(.v (.int .u32 2730485921))),(41,(.v (.int .u32 2820302411))),(42,(.v (.int .u32 3259730800))),(43,(.v (.int .u32 3345764771))),(44,(.v (.int .u32 3516065817))),(45,(.v (.int .u32 3600352804))),(46,(.v (.int .u32 4094571909))),(47,(.v (.int .u32 275423344))),(48,(.v (.int .u32 430227734))),(49,(.v (.int .u32 506948616))),(50,(.v (.int .u32 659060556))),(51,(.v (.int .u32 883997877))),(52,(.v (.int .u32 958139571))),(53,(.v (.int .u32 1322822218))),(54,(.v (.int .u32 1537002063))),(55,(.v (.int .u32 1747873779))),(56,(.v (.int .u32 1955562222))),(57,(.v (.int .u32 2024104815))),(58,(.v (.int .u32 2227730452))),(59,(.v (.int .u32 2361852424))),(60,(.v (.int .u32 2428436474))),(61,(.v (.int .u32 2756734187))),(62,(.v (.int .u32 3204031479))),(63,(.v (.int .u32 3329325298)))]) fun b=>
Ah (BA 468 b h) fun c a=>
some (c,a)):=by kernel_rfl
def WN:Ac Nat:=[3,4,5]
def Jvm(n:Nat)(c:D)(h:Ae):AB Aa T0 WN n f269 [c] h=
(Ad (Ag .int .lss c (iD 0)) fun q=>
Az q
(some (CS,h))
(Ad (Ag .int .rem c (iD 64)) fun r=>
Ad (Ag .int .add r (iD 8)) fun v=>
Ad (Ag .int .rem v (iD 64)) fun u=>
Ad (Ag .int .sub (iD 72) u) fun m=>
Ah (NV 5 1 [yZ] m m h) fun l s=>
Ad (BG 1 l (iD 0)) fun p=>
Ah (Bh 1 p (.v (.int .u8 128)) s) fun w o=>
Ad (Bq .sl l) fun d=>
Ad (Ag .int .sub d (iD 1)) fun k=>
Ad (Dk .u64 c) fun g=>
Ad (Ag .int .shl g (.v (.int .u64 3))) fun j=>
Dy (BZ Aa T0 WN n f269 0 [l,k,j] o) (fun e b a=>
CW e 0
(Ad (MH a (gD b 0)) fun i=>
some (i,a))
(none)) (fun b a=>
some (.undef,a)))):=by kernel_rfl
def Q1(n:Nat)(s0 b a:D)(h:Ae):BK Aa T0 WN n f269 0 [s0,b,a] h=
(Ad (Ag .int .gtr a (.v (.int .u64 0))) fun d=>
Az d
(Ad (Dk .u8 a) fun e=>
Ad (BG 1 s0 b) fun i=>
Ah (Bh 1 i e h) fun k g=>
Ad (Ag .int .sub b (iD 1)) fun j=>
Ad (Ag .int .shr a (.v (.int .u64 8))) fun c=>
some (.normal,[s0,j,c],g))
(some ((.exit 0),[s0,b,a],h))):=by kernel_rfl
def Jii:Ac Nat:=[]
def Jyc(n:Nat)(a b:D)(h:Ae):AB Aa T0 Jii n f342 [a,b] h=
(Ad (Dk .u64 b) fun j=>
Ad (Ag .int .and j (.v (.int .u64 31))) fun c=>
Ad (Ag .int .shl a c) fun i=>
Ad (Ag .int .sub (.v (.int .u64 32)) c) fun d=>
Ad (Ag .int .shr a d) fun e=>
Ad (Ag .int .or i e) fun g=>
some (g,h)):=by kernel_rfl
def yU(P:Aj):Ac D->Af D:=O4 P T0 Qc7 0 267
def kV(P:Aj):Ac D->Af D:=O4 P T0 WN 20 269
def fE(P:Aj):Ac D->Af D:=O4 P T0 Jii 0 342
def fG(P:Aj):GT:=CO P T0 JgR 0 310
def Jo8:Bz Aa 267 (yU Aa):=ZF bC AX func267
def Qa3:Bz Aa 269 (kV Aa):=ZF bC AX func269
def JrE:Bz Aa 342 (fE Aa):=ZF bC AX func342
def JoZ:BN Aa 310 (fG Aa):=CQ bC AX func310
def BW(P:Aj):Ac Cj:=(267,true,Ak (yU P))::(269,true,Ak (kV P))::(342,true,Ak (fE P))::(310,false,fG P)::[]
def MY:∀p∈BW Aa,Ci Aa p:=AC (Bf Jo8)<|AC (Bf Qa3)<|AC (Bf JrE)<|AC (CB JoZ)<|EN
def S8(P:Aj):Tab:=⟨BW P,BM,[]⟩
def QdV:Bg Aa (S8 Aa):=CU MY
def Jem:Ac Nat:=[]
def Jyr(n:Nat)(b a:D)(h:Ae):AB Aa (S8 Aa) Jem n f311 [b,a] h=
(Ad (WG a) fun d=>
Ah (Ak (fE Aa) [b,d] h) fun e c=>
some (e,c)):=by kernel_rfl
def Ol(P:Aj):Ac D->Af D:=O4 P (S8 P) Jem 0 311
def Qbx:Bz Aa 311 (Ol Aa):=ZF QdV AX func311
def OR(P:Aj):Ac Cj:=(311,true,Ak (Ol P))::BW P
def Jbb:∀p∈OR Aa,Ci Aa p:=AC (Bf Qbx)<|MY
def WB(P:Aj):Tab:=⟨OR P,BM,[]⟩
def JoQ:Bg Aa (WB Aa):=CU Jbb
def Yw:Ac Nat:=[3,6,9,10]
def QcU(n:Nat)(e:D)(h:Ae):AB Aa (WB Aa) Yw n f309 [e] h=
(Ah (BX 468 [wZ,wZ,wZ,wZ,wZ,wZ,wZ,wZ,wZ,wZ,wZ,wZ,wZ,wZ,wZ,wZ,wZ,wZ,wZ,wZ,wZ,wZ,wZ,wZ,wZ,wZ,wZ,wZ,wZ,wZ,wZ,wZ,wZ,wZ,wZ,wZ,wZ,wZ,wZ,wZ,wZ,wZ,wZ,wZ,wZ,wZ,wZ,wZ,wZ,wZ,wZ,wZ,wZ,wZ,wZ,wZ,wZ,wZ,wZ,wZ,wZ,wZ,wZ,wZ] h) fun k j=>
Dy (BZ Aa (WB Aa) Yw n f309 0 [k,.undef,e,(iD 0)] j) (fun g a b=>
CW g 0
(Dy (BZ Aa (WB Aa) Yw n f309 1 [(gD a 0),(iD 16),(gD a 2),(gD a 3)] b) (fun i d c=>
CW i 2
(some ((gD d 0),c))
(none)) (fun d c=>
some (.undef,c)))
(none)) (fun a b=>
some (.undef,b))):=by kernel_rfl
def Jvd(n:Nat)(s0 c b a:D)(h:Ae):BK Aa (WB Aa) Yw n f309 0 [s0,c,b,a] h=
(Ad (Ag .int .lss a (iD 64)) fun m=>
Az m
(Ad (Dj b) fun o=>
Ad (Ec 64 1 o a) fun r=>
Ad (Ai none h r) fun p=>
Ad (Ag .int .quo a (iD 4)) fun q=>
Ad (Ag .int .quo a (iD 4)) fun s=>
Ad (Ec 64 1 s0 s) fun j=>
Ad (Ai none h j) fun l=>
Ad (Ag .int .shl l (.v (.int .u64 8))) fun t=>
Ad (Dk .u32 p) fun u=>
Ad (Ag .int .or t u) fun d=>
Ad (Ec 64 1 s0 q) fun i=>
Ah (Bh 1 i d h) fun k e=>
Ad (Ag .int .add a (iD 1)) fun g=>
some (.normal,[s0,c,b,g],e))
(some ((.exit 0),[s0,c,b,a],h))):=by kernel_rfl
def JsT(n:Nat)(s0 a q C:D)(h:Ae):BK Aa (WB Aa) Yw n f309 1 [s0,a,q,C] h=
(Ad (Ag .int .lss a (iD 64)) fun M=>
Az M
(Ad (Ag .int .sub a (iD 15)) fun N=>
Ad (Ec 64 1 s0 N) fun O=>
Ad (Ai none h O) fun l=>
Ad (Ag .int .sub a (iD 2)) fun J=>
Ad (Ec 64 1 s0 J) fun K=>
Ad (Ai none h K) fun e=>
Ad (Ag .int .sub a (iD 16)) fun I=>
Ad (Ec 64 1 s0 I) fun P=>
Ad (Ai none h P) fun L=>
Ah (Ak (Ol Aa) [l,(iD 7)] h) fun j m=>
Ah (Ak (Ol Aa) [l,(iD 18)] m) fun k b=>
Ad (Ag .int .xor j k) fun B=>
Ad (Ag .int .shr l (.v (.int .u64 3))) fun E=>
Ad (Ag .int .xor B E) fun s=>
Ad (Ag .int .add L s) fun w=>
Ad (Ag .int .sub a (iD 7)) fun t=>
Ad (Ec 64 1 s0 t) fun g=>
Ad (Ai none b g) fun v=>
Ad (Ag .int .add w v) fun i=>
Ah (Ak (Ol Aa) [e,(iD 17)] b) fun z p=>
Ah (Ak (Ol Aa) [e,(iD 19)] p) fun u o=>
Ad (Ag .int .xor z u) fun d=>
Ad (Ag .int .shr e (.v (.int .u64 10))) fun F=>
Ad (Ag .int .xor d F) fun r=>
Ad (Ag .int .add i r) fun c=>
Ad (Ec 64 1 s0 a) fun y=>
Ah (Bh 1 y c o) fun H G=>
Ad (Ag .int .add a (iD 1)) fun x=>
some (.normal,[s0,x,q,C],G))
(some ((.exit 2),[s0,a,q,C],h))):=by kernel_rfl
def fA(P:Aj):GT:=CO P (WB P) Yw 65 309
def JuZ:BN Aa 309 (fA Aa):=CQ JoQ AX func309
def Jd3(P:Aj):Ac Cj:=(309,false,fA P)::OR P
def Jvw:∀p∈Jd3 Aa,Ci Aa p:=AC (CB JuZ)<|Jbb
def Rh(P:Aj):Tab:=⟨Jd3 P,BM,[]⟩
def Jh7:Bg Aa (Rh Aa):=CU Jvw
def Jzs:Ac Nat:=[3,7,8]
def VF:Ac Nat:=[2,4,5,6,7,18,96,2000007,2000008]
def JqZ(n:Nat)(u v:D)(h:Ae):AB Aa (Rh Aa) VF n f270 [u,v] h=
(Ah (BA 401 u h) fun s y=>
Ah (BA 406 v y) fun E z=>
Ah (BX 401 [wZ,wZ,wZ,wZ,wZ,wZ,wZ,wZ] z) fun x G=>
Ah ((fA Aa) [E] G) fun w C=>
Ah ((fG Aa) [] C) fun F r=>
AV 0 (some 8) r s fun q=>
Dw 399 [wZ,wZ,wZ,wZ,wZ,wZ,wZ,wZ] 8 q r fun i k=>
Dy (BZ Aa (Rh Aa) VF n f270 0 [s,x,w,F,i,(iD 0),.undef,.undef,.undef] k) (fun j a d=>
CW j 0
(Dy (BZ Aa (Rh Aa) VF n f270 1 [(gD a 0),(gD a 1),(gD a 2),(gD a 3),(gD a 4),(gD a 5),(iD 0),(gD a 7),(gD a 8)] d) (fun o b c=>
CW o 2
(Ad (Ai (some 8) c (gD b 0)) fun m=>
Ah (Bh 8 (gD b 1) m c) fun B e=>
Ad (Ai (some 8) e (gD b 1)) fun l=>
some (l,e))
(none)) (fun b c=>
Ad (Ai (some 8) c (gD b 1)) fun g=>
some (g,c)))
(none)) (fun a d=>
Ad (Ai (some 8) d (gD a 1)) fun p=>
some (p,d))):=by kernel_rfl
def Jzm(n:Nat)(s0 r l j a d Y s7 V:D)(h:Ae):BK Aa (Rh Aa) VF n f270 0 [s0,r,l,j,a,d,Y,s7,V] h=
(Ad (Ag .int .lss d (iD 64)) fun y0=>
Az y0
(Ad (Ec 8 1 a (iD 0)) fun y1=>
Ad (Ai none h y1) fun g=>
Ad (Ec 8 1 a (iD 4)) fun y3=>
Ad (Ai none h y3) fun k=>
Ah (Ad (Ec 8 1 a (iD 7)) fun y5=>
Ad (Ai none h y5) fun y6=>
Ah (Ak (Ol Aa) [k,(iD 6)] h) fun y7 h8=>
Ah (Ak (Ol Aa) [k,(iD 11)] h8) fun y9 ap=>
Ad (Ag .int .xor y7 y9) fun az=>
Ah (Ak (Ol Aa) [k,(iD 25)] ap) fun t b=>
Ad (Ag .int .xor az t) fun Q=>
Ad (Ag .int .add y6 Q) fun ax=>
Ad (Ec 8 1 a (iD 6)) fun B=>
Ad (Ai none b B) fun am=>
Ad (Ec 8 1 a (iD 5)) fun ae=>
Ad (Ai none b ae) fun W=>
Ad (Ec 8 1 a (iD 6)) fun al=>
Ad (Ai none b al) fun s=>
Ad (Ag .int .xor W s) fun O=>
Ad (Ag .int .and k O) fun I=>
Ad (Ag .int .xor am I) fun ag=>
Ad (Ag .int .add ax ag) fun av=>
Ad (Dj j) fun m=>
Ad (Ec 64 1 m d) fun ay=>
Ad (Ai none b ay) fun C=>
Ad (Ag .int .add av C) fun o=>
Ad (Dj l) fun au=>
Ad (Ec 64 1 au d) fun u=>
Ad (Ai none b u) fun aq=>
Ad (Ag .int .add o aq) fun K=>
some (K,b)) fun e ai=>
Ah (Ah (Ak (Ol Aa) [g,(iD 2)] ai) fun p w=>
Ah (Ak (Ol Aa) [g,(iD 13)] w) fun aj U=>
Ad (Ag .int .xor p aj) fun X=>
Ah (Ak (Ol Aa) [g,(iD 22)] U) fun ab c=>
Ad (Ag .int .xor X ab) fun G=>
Ad (Ec 8 1 a (iD 1)) fun T=>
Ad (Ai none c T) fun Z=>
Ad (Ag .int .and g Z) fun ar=>
Ad (Ec 8 1 a (iD 2)) fun S=>
Ad (Ai none c S) fun y=>
Ad (Ag .int .and g y) fun x=>
Ad (Ag .int .xor ar x) fun N=>
Ad (Ec 8 1 a (iD 1)) fun an=>
Ad (Ai none c an) fun M=>
Ad (Ec 8 1 a (iD 2)) fun v=>
Ad (Ai none c v) fun F=>
Ad (Ag .int .and M F) fun E=>
Ad (Ag .int .xor N E) fun ak=>
Ad (Ag .int .add G ak) fun L=>
some (L,c)) fun ao ad=>
Ad (VN 8 1 a (some (iD 1)) none) fun af=>
Ad (VN 8 1 a none (some (iD 7))) fun z=>
Ah (QD 1 af z ad) fun a1 i=>
Ad (Ag .int .add e ao) fun aa=>
Ad (Ec 8 1 a (iD 4)) fun aw=>
Ad (Ai none i aw) fun P=>
Ad (Ag .int .add P e) fun H=>
Ad (Ec 8 1 a (iD 0)) fun q=>
Ah (Bh 1 q aa i) fun a0 ac=>
Ad (Ec 8 1 a (iD 4)) fun J=>
Ah (Bh 1 J H ac) fun a2 R=>
Ad (Ag .int .add d (iD 1)) fun ah=>
some (.normal,[s0,r,l,j,a,ah,Y,s7,V],R))
(some ((.exit 0),[s0,r,l,j,a,d,Y,s7,V],h))):=by kernel_rfl
def Jo4(n:Nat)(s0 c k i b e a g l:D)(h:Ae):BK Aa (Rh Aa) VF n f270 1 [s0,c,k,i,b,e,a,g,l] h=
(Ad (Ag .int .lss a (iD 8)) fun p=>
Az p
(Ad (AP 0 s0) fun q=>
Ad (Ec 8 1 q a) fun u=>
Ad (Ai none h u) fun r=>
Ad (Ec 8 1 b a) fun s=>
Ad (Ai none h s) fun t=>
Ad (Ag .int .add r t) fun m=>
Ad (AP 0 s0) fun o=>
Ad (Ec 8 1 o a) fun v=>
Ah (Bh 1 v m h) fun w d=>
Ad (Ag .int .add a (iD 1)) fun j=>
some (.normal,[s0,c,k,i,b,e,j,g,l],d))
(some ((.exit 2),[s0,c,k,i,b,e,a,g,l],h))):=by kernel_rfl
def Ou(x k:Nat):Nat:=(x*2^(32-k))%4294967296|||x/2^k
def MR{x:Nat}(k:Nat)(a:x<4294967296):Ou x k<4294967296:=cX (SS _ (by decide)) (Mg (sB _ _) a)
def W32(n:Nat)(l:Ac Nat):Prop:=l.length=n/\∀x∈l,x<4294967296
def W32.get{n:Nat}{l:Ac Nat}(h:W32 n l)(i:Nat):l.getD i 0<4294967296:=by
 by_cases a:i<l.length
 ·rw[Ed,FQ a];exact h.2 _ (Ih a)
 ·rw[Ed,UC (by omega)];decide
def W32.set{n:Nat}{l:Ac Nat}(h:W32 n l)(i:Nat){x:Nat}(b:x<4294967296):W32 n (l.set i x):=
 ⟨by simp[h.1],fun y a=>(sE a).elim (h.2 y) (fun e=>e▸b)⟩
def JnN(w:Ac Nat)(i c:Nat):Ac Nat:=w.set (i/4) (w.getD (i/4) 0*256%4294967296|||c)
def VL(b:Ac Nat):Nat->Ac Nat
 |0=>List.replicate 64 0
 |j+1=>JnN (VL b j) j (b.getD j 0)
def Jv7(x:Nat):Nat:=Ou x 7^^^Ou x 18^^^x/2^3
def JqY(y:Nat):Nat:=Ou y 17^^^Ou y 19^^^y/2^10
def RE(w:Ac Nat)(t:Nat):Nat:=(((w.getD (t-16) 0+Jv7 (w.getD (t-15) 0))%4294967296+w.getD (t-7) 0)%4294967296+JqY (w.getD (t-2) 0))%4294967296
def WR(b:Ac Nat):Nat->Ac Nat
 |0=>VL b 64
 |j+1=>(WR b j).set (16+j) (RE (WR b j) (16+j))
def Gj(b:Ac Nat):Ac Nat:=WR b 48
def B8(n:Nat)(l:Ac Nat):Prop:=l.length=n/\∀x∈l,x<256
def B8.get{n:Nat}{l:Ac Nat}(h:B8 n l)(i:Nat):l.getD i 0<256:=by
 by_cases a:i<l.length
 ·rw[Ed,FQ a];exact h.2 _ (Ih a)
 ·rw[Ed,UC (by omega)];decide
theorem T3{b:Ac Nat}(a:B8 64 b):∀j,W32 64 (VL b j)
 |0=>⟨by simp[VL],fun x c=>by simp[VL]at c;omega⟩
 |j+1=>(T3 a j).set _ (cX (SS _ (by decide)) (Nat.lt_trans (a.get j) (by decide)))
theorem cU{b:Ac Nat}(a:B8 64 b):∀j,W32 64 (WR b j)
 |0=>T3 a 64
 |j+1=>(cU a j).set _ (SS _ (by decide))
def Qfr{b:Ac Nat}(a:B8 64 b):W32 64 (Gj b):=cU a 48
def Jti(e:Nat):Nat:=Ou e 6^^^Ou e 11^^^Ou e 25
def Jm6(a:Nat):Nat:=Ou a 2^^^Ou a 13^^^Ou a 22
def Jxi(e f g:Nat):Nat:=g^^^(e&&&(f^^^g))
def JrR(a b c:Nat):Nat:=(a&&&b)^^^(a&&&c)^^^(b&&&c)
def t1V(k w:Ac Nat)(v:Ac Nat)(t:Nat):Nat:=((((v.getD 7 0+Jti (v.getD 4 0))%4294967296+Jxi (v.getD 4 0) (v.getD 5 0) (v.getD 6 0))%4294967296+k.getD t 0)%4294967296+w.getD t 0)%4294967296
def t2V(v:Ac Nat):Nat:=(Jm6 (v.getD 0 0)+JrR (v.getD 0 0) (v.getD 1 0) (v.getD 2 0))%4294967296
def HS(k w v:Ac Nat)(t:Nat):Ac Nat:=
 [(t1V k w v t+t2V v)%4294967296,v.getD 0 0,v.getD 1 0,v.getD 2 0,(v.getD 3 0+t1V k w v t)%4294967296,v.getD 4 0,v.getD 5 0,v.getD 6 0]
def Ox(k w v:Ac Nat):Nat->Ac Nat
 |0=>v
 |j+1=>HS k w (Ox k w v j) j
def JmG{k w v:Ac Nat}(a:W32 8 v)(t:Nat):W32 8 (HS k w v t):=⟨rfl,fun x b=>by
 simp only[HS,FY,QZ,or_false]at b;rcases b with h|h|h|h|h|h|h|h<;>subst h
 ·exact SS _ (by decide)
 ·exact a.get 0
 ·exact a.get 1
 ·exact a.get 2
 ·exact SS _ (by decide)
 ·exact a.get 4
 ·exact a.get 5
 ·exact a.get 6⟩
theorem Bp{k w v:Ac Nat}(a:W32 8 v):∀j,W32 8 (Ox k w v j)
 |0=>a
 |j+1=>JmG (Bp a j) j
def nK(h v:Ac Nat):Nat->Ac Nat
 |0=>h
 |j+1=>(nK h v j).set j (((nK h v j).getD j 0+v.getD j 0)%4294967296)
theorem Mq{h v:Ac Nat}(a:W32 8 h):∀j,W32 8 (nK h v j)
 |0=>a
 |j+1=>(Mq a j).set _ (SS _ (by decide))
def Jq(k h b:Ac Nat):Ac Nat:=nK h (Ox k (Gj b) h 64) 8
def Kg{k h b:Ac Nat}(a:W32 8 h):W32 8 (Jq k h b):=Mq a 8
end Go.Proofs.YtapdelkomkpgmaaGreatDoor
