import Derived.Test.YtapdelkomkpgmaaGreatDoorQx
namespace Go.Proofs.YtapdelkomkpgmaaGreatDoor
open Go.Proofs.Tryz
open Go.RowKit
set_option maxRecDepth 100000
set_option linter.all false
def Kz(l:Ac Mu):By:=(l.map Wh).flatten
def LM(l:Ac Mu):By:=BU (l.length:Nat)++Kz l
def Jls(l:Ac Mu)(j:Nat)(h:j<l.length):Kz (l.take (j+1))=Kz (l.take j)++Wh l[j]:=by
 rw[Kz,Ij h];simp only[Kz,JE,EP,J7,Xx,IX,PT,Lj]
def QcL(l:Ac Mu)(j:Nat):(Kz (l.take j)).length<=(Kz l).length:=by
 have:Kz l=Kz (l.take j)++Kz (l.drop j):=by
  simp only[Kz,<-Xx,<-JE,Zd]
 rw[this,DC];omega
def fZ:D:= .clo (.func 87) [] []
def QdU(l:Ac Mu)(w:l.length<=2000)(v:∀m∈l,Q5 m)(hs:(Kz l).length<=1000000)(j:Nat)(d:j<l.length)(H:Ae)(o:Ea H 0 1 (BU (l.length:Nat)++Kz (l.take j))):
  ∃H',BK Aa (VV Aa) kT 2001 f25 0 [sD [],iD 0,.hp 0 0,fZ,DR l,iD l.length,iD j] H=some (.normal,[sD [],iD 0,.hp 0 0,fZ,DR l,iD l.length,iD (j+1)],H')/\Ea H' 0 1 (BU (l.length:Nat)++Kz (l.take (j+1))):=by
 have i:BG 8 (DR l) (iD j)=some (.ptr (BL l[j])):=KO BL 8 l j d;have h:Ai (some 8) H (.ptr (BL l[j]))=some (FX l[j]):=rfl;have e:BX 107 [Aq,iD 0,iD 0,iD 0,iD 0,iD 0,iD 0,CS] H=some (.hp H.length 0,H++[.cells 107 8 [Aq,iD 0,iD 0,iD 0,iD 0,iD 0,iD 0,CS]]):=rfl;have s:(H++[HO.cells 107 8 [Aq,iD 0,iD 0,iD 0,iD 0,iD 0,iD 0,CS]])[H.length]? =some (.cells 107 8 [Aq,iD 0,iD 0,iD 0,iD 0,iD 0,iD 0,CS]):=by simp
 have c:=KG s (n:=8) (ds:=BL l[j]) rfl rfl (mD _);have b:(H++[HO.cells 107 8 [Aq,iD 0,iD 0,iD 0,iD 0,iD 0,iD 0,CS]]).set H.length (.cells 107 8 (BL l[j]))=H++[.cells 107 8 (BL l[j])]:=by simp
 rw[b]at c;have a:Bh 8 (.hp H.length 0) (FX l[j]) (H++[HO.cells 107 8 [Aq,iD 0,iD 0,iD 0,iD 0,iD 0,iD 0,CS]])=_:=c;have k:(H++[HO.cells 107 8 (BL l[j])])[H.length]? =some (.cells 107 8 (BL l[j])):=by simp
 have g:Ai (some 8) (H++[HO.cells 107 8 (BL l[j])]) (.hp H.length 0)=some (FX l[j]):=by rw[IM k];rfl
 have q:=(Et (l.length:Nat)).2;have hp:=QcL l j;obtain⟨H',u,p,x⟩:=Jod l[j] (v _ (Ih d)) (H++[HO.cells 107 8 (BL l[j])]) 0 1 _ (o.app _) (by simp) (by simp only[DC];omega);refine⟨H',?_,by rw[Jls l j d,<-FV];exact p⟩;have r:C9 (VV Aa) fZ [FX l[j],.hp 0 0] (H++[HO.cells 107 8 (BL l[j])])=some (bD true,H'):=u;rw[Jbv];unfold Ce Dw;simp only[G6 (show(j:Int)<l.length by omega),AU,Bd,Bv,i,h,e,A7,a,g,r,Yr,MX,BF,BC,G5 j (by omega)]
def rX:Ac D->Af D:=F1 MF fun l=>if l.length<=2000/\(l.all fun m=>decide (Q5 m))=true/\(Kz l).length<=1000000 then some (.tup [sD (LM l),iD 0])else none
def JlY:Bz Aa 25 rX:=FC (kp:=kT) Jrl AX func25 fun l d h=>by
 split at h
 case isFalse=>cases h
 rename_i B;obtain⟨w,F,hs⟩:=B;cases h;have g:∀m∈l,Q5 m:=fun m y=>L8 (Ew.1 F m y);have q:=Wy [];have b:=VT [];obtain⟨o,E,z,G⟩:=Ob _ _ _ _ (l.length:Int) ⟨by omega,by omega⟩ q (by simp);have v:=NT (P:=Aa) (T:=VV Aa) (kp:=kT) (fn:= f25) (li:=0) (fun j=>[sD [],iD 0,.hp 0 0,fZ,DR l,iD l.length,iD j]) (fun j H=>Ea H 0 1 (BU (l.length:Nat)++Kz (l.take j)))
  (fun r=>∃H',r=(.exit 0,[sD [],iD 0,.hp 0 0,fZ,DR l,iD l.length,iD l.length],H')/\Ea H' 0 1 (LM l)) l.length 2001 (fun j H s a=>QdU l w g hs j s H a) (fun H a=>by
   refine⟨_,?_,?_,H,rfl,by rw[II]at a;exact a⟩
   ·rw[Jbv];unfold Ce Dw;simp only[Me (show¬(l.length:Int)<l.length by omega),AU,Bd,BF,BC]
   ·intro e;cases e) (by omega) (H:=o) (by simpa[Kz]using z)
 obtain⟨r,n,H',rfl,a⟩:=v;have x:iD ((0:Nat):Int)=iD 0:=rfl;rw[x]at n;have k:=Xh H' 0 1 _ a;refine⟨2001,.tup [sD (LM l),iD 0],?_,AY.refl _⟩;show BB (AB _ _ _ _ _ [DR l] [])=_;rw[Jvc];have p:Ag .int .gtr (iD l.length) (iD 2000)=some (bD false):=by show some (bD (decide _))=_;rw[Dc (by omega)]
 have u:Dk .u64 (iD l.length)=some (BO l.length):=Nz _ _ (by omega) (by omega);have C:(CS)=sD []:=rfl;have c:D.clo (.func 87) [] []=fZ:=rfl;have i:Kq Aa [.hp 0 0,BO l.length] ([]++[HO.cells 164 1 [Aq]])=some (.hp 0 0,o):=E;rw[C];simp only[VU,AU,p,Bd,BF,BC,b,A7,u,Hf,i,c];rw[n];simp[k]
def Jh4:Ac Nat:=[]
def Qam(n:Nat)(p:D)(h:Ae):AB Aa (Uf Aa) Jh4 n f160 [p] h=
(Ah (BA 62 p h) fun o j=>
Ah ((OB Aa) [] j) fun v b=>
Ad (AP 0 o) fun q=>
Ad (Ai none b q) fun r=>
Ad (Dk .u8 r) fun s=>
Ah ((Uu Aa) [v,s] b) fun u i=>
Ad (AP 1 o) fun m=>
Ad (Ai none i m) fun d=>
Ad (Bq .str d) fun a=>
Ad (Dk .u64 a) fun e=>
Ah ((Kq Aa) [u,e] i) fun g l=>
Ah ((NS Aa) [g] l) fun k c=>
Eb q (some j) (some b)
(JS r
(Eb m (some j) (some b)
(Eb m (some b) (some i)
(JS a
(JS a
(some (k,c)))))))):=by kernel_rfl
structure EW where
 t:Int
 b:By
 deriving DecidableEq,Inhabited
def FK(x:EW):D:= .agg [iD x.t,sD x.b]
def Jc9:D->Af EW
 | .agg [a,b]=>(Dz a).bind fun t=>(MN b).map fun s=>⟨t,s⟩
 |_=>none
def lZ:EU EW:=⟨FK,Jc9,fun x=>by
  show(Dz (BV.enc x.t)).bind (fun t=>(MN (Po.enc x.b)).map fun s=>(⟨t,s⟩:EW))=some x;have c:Dz (BV.enc x.t)=some x.t:=BV.back x.t;have b:MN (Po.enc x.b)=some x.b:=Po.back x.b;rw[c,b];rfl,fun d a h=>by
 unfold Jc9 at h;split at h
 ·rename_i x y;obtain⟨t,c,h⟩:=Bi.1 h;obtain⟨s,b,h⟩:=DV.1 h;subst h;exact AY.agg (.cons (BV.ok _ _ c) (.cons (Po.ok _ _ b) .nil))
 ·cases h⟩
@[simp] theorem QgI(x:EW):EC (FK x)=true:=rfl
def Oc(x:EW):Prop:=0<=x.t/\x.t<=255/\x.b.length<=1048576
instance (x:EW):Decidable (Oc x):=by unfold Oc;exact inferInstance
def Md(x:EW):By:=[b8 x.t]++BU x.b.length
def gI:Ac D->Af D:=F1 lZ fun x=>if Oc x then some (sD (Md x))else none
def Jwb:Bz Aa 160 gI:=FC (kp:=Jh4) Ta AX func160 fun x d h=>by
 split at h
 case isFalse=>cases h
 rename_i s;cases h;obtain⟨L,J,I⟩:=s;refine⟨0,sD (Md x),?_,AY.refl _⟩;show BB (AB _ _ _ _ _ [FK x] [])=_;rw[Qam];have c:BA 62 (FK x) []=some (.hp 0 0,[.cells 62 2 [iD x.t,sD x.b]]):=rfl;have b:=VT [.cells 62 2 [iD x.t,sD x.b]];have j:=Wy [.cells 62 2 [iD x.t,sD x.b]];obtain⟨e,C,v,E⟩:=ZP _ _ _ _ (b8 x.t) j (by simp);have y:=j.notRow 0 (.inl (by simp));obtain⟨m,H⟩:=E.2 0 (by simp) (by simp) y;have a:e[0]? =some (.cells 62 2 [iD x.t,sD x.b]):=m;obtain⟨z,u,F,K⟩:=Ob e _ _ _ (x.b.length:Int) ⟨by omega,by omega⟩ v (by simp);have i:=Xh z _ _ _ F;have w:Dk .u8 (iD x.t)=some (Gm (b8 x.t)):=UG .i64 x.t;have g:Dk .u64 (iD x.b.length)=some (BO x.b.length):=Nz _ _ (by omega) (by omega);have B:Ai none ([.cells 62 2 [iD x.t,sD x.b]]++[.cells 164 1 [Aq]]) (.hp 0 0)=some (iD x.t):=rfl;have G:Ai none e (.hp 0 1)=some (sD x.b):=by
  rw[IM a];rfl
 have l:∀(o:Nat) (k:Af (D×Ae)),Eb (.hp 0 o) (some [.cells 62 2 [iD x.t,sD x.b]]) (some ([.cells 62 2 [iD x.t,sD x.b]]++[.cells 164 1 [Aq]])) k=k:=fun o k=>Pe 0 o _ _ 62 2 [iD x.t,sD x.b] k rfl rfl (by simp);have p:∀(o:Nat) (k:Af (D×Ae)),Eb (.hp 0 o) (some ([.cells 62 2 [iD x.t,sD x.b]]++[.cells 164 1 [Aq]])) (some e) k=k:=fun o k=>Pe 0 o _ _ 62 2 [iD x.t,sD x.b] k rfl (a.trans rfl) (by simp);have n:AP 0 (.hp 0 0)=some (.hp 0 0):=rfl;have r:AP 1 (.hp 0 0)=some (.hp 0 1):=rfl;have q:Md x=[]++[b8 x.t]++BU x.b.length:=rfl;simp only[c,A7,b,n,r,AU,B,w,C,G,Ue,g,u,i,l,p,aJ,iD,<-q];exact Gu _ _ rfl
def JbV(x:EW)(h:Oc x)(H:Ae):Ak gI [FK x] H=some (sD (Md x),H):=by
 rw[CP _ _ _ rfl];have:gI [FK x]=_:=EO (A:=lZ) _ x;rw[this,Aw h];rfl
def S7(P:Aj):Ac Cj:=(160,true,Ak gI)::YE P
def Jbs:∀p∈S7 Aa,Ci Aa p:=AC (Bf Jwb)<|ZY
def Li(P:Aj):Tab:=⟨S7 P,BM,[]⟩
def JbK:Bg Aa (Li Aa):=CU Jbs
def uE:Ac Nat:=[]
def Qaq(n:Nat)(p:D)(h:Ae):AB Aa (Li Aa) uE n f93 [p] h=
(Ah (BA 62 p h) fun b a=>
AV 0 none a b fun s=>
Ad (Ag .int .lss s (iD 0)) fun u=>
Az u
(some (.tup [CS,(iD 1)],a))
(AV 0 none a b fun q=>
Ad (Ag .int .gtr q (iD 255)) fun r=>
Az r
(some (.tup [CS,(iD 1)],a))
(AV 1 none a b fun v=>
Ad (Bq .str v) fun e=>
Ad (Ag .int .gtr e (iD 1048576)) fun o=>
Az o
(some (.tup [CS,(iD 4)],a))
(Ad (Ai (some 2) a b) fun g=>
Ah (Ak gI [g] a) fun i d=>
AV 1 none d b fun k=>
Ad (Ag .str .add i k) fun c=>
Ah (Ak X9 [c] d) fun l j=>
Ad (Ag .str .add c l) fun m=>
some (.tup [m,(iD 0)],j))))):=by kernel_rfl
def JaV:Ac Nat:=[]
def Qa1(n:Nat)(c:D)(h:Ae):AB Aa (Li Aa) JaV n f92 [c] h=
(Ah (BA 62 c h) fun b e=>
Ad (Ai (some 2) e b) fun k=>
Ah (Ak gI [k] e) fun j d=>
Ad (Bq .str j) fun l=>
Ad (AP 1 b) fun g=>
Ad (Ai none d g) fun i=>
Ad (Bq .str i) fun m=>
Ad (Ag .int .add l m) fun o=>
Ad (Ag .int .add o (iD 4)) fun a=>
some (a,d)):=by kernel_rfl
def Gb(a b:By)(h:a.length+b.length<=9000000):Ag .str .add (sD a) (sD b)=some (sD (a++b)):=by
 show Ux .add (I7 a) (I7 b)=_;simp only[Ux,sS];rw[Aw (by omega),Jhg];rfl
def GU(x:EW):By:=Md x++x.b++TU (Md x++x.b)
def WX(x:EW):2<=(Md x).length/\(Md x).length<=11:=by
 have:=Et x.b.length;simp[Md];omega
def XL(x:EW):(GU x).length=(Md x).length+x.b.length+4:=by
 simp only[GU,DC,Sg]
def jE:Ac D->Af D:=F1 lZ fun x=>if Oc x then some (.tup [sD (GU x),iD 0])else none
def JhG(l:By)(h:l.length<=2000000)(H:Ae):Ak X9 [sD l] H=some (sD (TU l),H):=by
 rw[CP _ _ _ rfl];have:X9 [sD l]=_:=EO (A:=Po) _ l;rw[this,Aw h];rfl
def Jet:Bz Aa 93 jE:=FC (kp:=uE) JbK AX func93 fun x d h=>by
 split at h
 case isFalse=>cases h
 rename_i b;cases h;obtain⟨u,v,s⟩:=id b;have w:=(WX x).2;refine⟨0,.tup [sD (GU x),iD 0],?_,AY.refl _⟩;show BB (AB _ _ _ _ _ [FK x] [])=_;rw[Qaq];unfold AV;have a:BA 62 (FK x) []=some (.hp 0 0,[.cells 62 2 [iD x.t,sD x.b]]):=rfl;have i:Ai none [.cells 62 2 [iD x.t,sD x.b]] (.hp 0 0)=some (iD x.t):=rfl;have q:Ai none [.cells 62 2 [iD x.t,sD x.b]] (.hp 0 1)=some (sD x.b):=rfl;have l:Ai (some 2) [.cells 62 2 [iD x.t,sD x.b]] (.hp 0 0)=some (FK x):=rfl;have g:AP 0 (.hp 0 0)=some (.hp 0 0):=rfl;have p:AP 1 (.hp 0 0)=some (.hp 0 1):=rfl;have c:Ag .int .lss (iD x.t) (iD 0)=some (bD false):=by show some (bD (decide _))=_;rw[Dc (by omega)]
 have n:Ag .int .gtr (iD x.t) (iD 255)=some (bD false):=by show some (bD (decide _))=_;rw[Dc (by omega)]
 have m:Ag .int .gtr (iD x.b.length) (iD 1048576)=some (bD false):=by show some (bD (decide _))=_;rw[Dc (by omega)]
 have r:∀(o:Nat) (k:Af (D×Ae)),Eb (.hp 0 o) (some [.cells 62 2 [iD x.t,sD x.b]]) (some [.cells 62 2 [iD x.t,sD x.b]]) k=k:=fun o k=>Pe 0 o _ _ 62 2 [iD x.t,sD x.b] k rfl rfl (by simp);have j:=Gb (Md x) x.b (by omega);have e:=Gb (Md x++x.b) (TU (Md x++x.b)) (by rw[Sg];simp;omega);have ht:=JhG (Md x++x.b) (by simp;omega) [.cells 62 2 [iD x.t,sD x.b]];simp only[a,A7,g,p,AU,i,q,l,c,n,m,Bd,BF,BC,Ue,JbV x b,j,ht,e];exact Gu _ _ rfl
def QbR(x:EW)(h:Oc x)(H:Ae):Ak jE [FK x] H=some (.tup [sD (GU x),iD 0],H):=by
 rw[CP _ _ _ rfl];have:jE [FK x]=_:=EO (A:=lZ) _ x;rw[this,Aw h];rfl
def VM:Ac D->Af D:=F1 lZ fun x=>if Oc x then some (iD ((GU x).length:Nat))else none
def JgQ:Bz Aa 92 VM:=FC (kp:=JaV) JbK AX func92 fun x d h=>by
 split at h
 case isFalse=>cases h
 rename_i g;cases h;obtain⟨r,s,q⟩:=id g;have u:=(WX x).2;refine⟨0,iD ((GU x).length:Nat),?_,AY.refl _⟩;show BB (AB _ _ _ _ _ [FK x] [])=_;rw[Qa1];have c:BA 62 (FK x) []=some (.hp 0 0,[.cells 62 2 [iD x.t,sD x.b]]):=rfl;have n:Ai none [.cells 62 2 [iD x.t,sD x.b]] (.hp 0 1)=some (sD x.b):=rfl;have l:Ai (some 2) [.cells 62 2 [iD x.t,sD x.b]] (.hp 0 0)=some (FK x):=rfl;have m:AP 1 (.hp 0 0)=some (.hp 0 1):=rfl;have p:∀(o:Nat) (k:Af (D×Ae)),Eb (.hp 0 o) (some [.cells 62 2 [iD x.t,sD x.b]]) (some [.cells 62 2 [iD x.t,sD x.b]]) k=k:=fun o k=>Pe 0 o _ _ 62 2 [iD x.t,sD x.b] k rfl rfl (by simp);have j:=YR (a:=((Md x).length:Int)) (b:=(x.b.length:Int)) (by omega) (by omega);have i:=YR (a:=((Md x).length:Int)+(x.b.length:Int)) (b:=4) (by omega) (by omega);have e:(((GU x).length:Nat):Int)=((Md x).length:Int)+(x.b.length:Int)+4:=by rw[XL];push_cast;rfl
 simp only[c,A7,m,AU,n,l,Ue,JbV x g,j,i,iD,e];exact Gu _ _ rfl
def I0(x:EW)(h:Oc x)(H:Ae):Ak VM [FK x] H=some (iD ((GU x).length:Nat),H):=by
 rw[CP _ _ _ rfl];have:VM [FK x]=_:=EO (A:=lZ) _ x;rw[this,Aw h];rfl
def qH(P:Aj):Ac Cj:=(93,true,Ak jE)::(92,true,Ak VM)::S7 P
def Fd:∀p∈qH Aa,Ci Aa p:=AC (Bf Jet)<|AC (Bf JgQ)<|Jbs
def iX(P:Aj):Tab:=⟨qH P,BM,[]⟩
def Jt6:Bg Aa (iX Aa):=CU Fd
def EK(x:EW):Ac D:=[iD x.t,sD x.b]
def ZS:Ac D->Af EW
 |[a,b]=>(Dz a).bind fun t=>(MN b).map fun s=>⟨t,s⟩
 |_=>none
def Lo:EU (Ac EW):=Cs EK ZS 2 (fun x=>by
 have a:MN (sD x.b)=some x.b:=Po.back _;have b:Dz (iD x.t)=some x.t:=rfl;simp only[EK,ZS,a,b,BR,Dt]) (fun e x h=>by
 unfold ZS at h;split at h
 ·obtain⟨t,c,h⟩:=Bi.1 h;obtain⟨s,a,h⟩:=DV.1 h;subst h;exact .cons (BV.ok _ _ c) (.cons (Po.ok _ _ a) .nil)
 ·cases h) (fun _=>rfl)
def D9(l:Ac EW):D:= .sl 2 (l.map EK)
def Ui(P:Aj)(Y:Nat->GT):Tab:=⟨qH P,Y,[]⟩
def Jcg(Y:Nat->GT)(a:FT Aa Y):Bg Aa (Ui Aa Y):=⟨Fd,a,fun _ h=>by cases h⟩
section
variable (Y : Nat → GT)
def Jcp:Ac Nat:=[]
def Jxc(n:Nat)(a:D)(h:Ae):AB Aa (Ui Aa Y) Jcp n f157 [a] h=
(Ah (BA 56 a h) fun c b=>
some ((.clo (.func 214) [] [c]),b)):=by kernel_rfl
def kQ:Ac Nat:=[0,3,6,7,8]
def JoH(n:Nat)(d b:D)(h:Ae):AB Aa (Ui Aa Y) kQ n f214 [d,b] h=
(Ad (Ai none h b) fun c=>
Ad (Bq .sl c) fun i=>
Dy (BZ Aa (Ui Aa Y) kQ n f214 0 [d,(iD 7),c,i,(iD 0)] h) (fun e g a=>
CW e 0
(some (.tup [],a))
(none)) (fun g a=>
some (.tup [],a))):=by kernel_rfl
def JaN(n:Nat)(s0 b d c a:D)(h:Ae):BK Aa (Ui Aa Y) kQ n f214 0 [s0,b,d,c,a] h=
(Ad (Ag .int .lss a c) fun r=>
Az r
(Ce 2 (some 2) h d a fun s=>
Dw 62 [(iD 0),CS] 2 s h fun p o=>
Ad (Ai (some 2) o p) fun q=>
Ah (C9 (Ui Aa Y) s0 [b,q] o) fun u g=>
Ad (Gn u) fun e=>
Az e
(some (.ret,[s0,b,d,c,a],g))
(Ad (Ai (some 2) g p) fun m=>
Ah (Ak VM [m] g) fun i j=>
Ad (Ag .int .add b i) fun k=>
Ad (Ag .int .add a (iD 1)) fun l=>
some (.normal,[s0,k,d,c,l],j)))
(some ((.exit 0),[s0,b,d,c,a],h))):=by kernel_rfl
end
def Zt(P:Aj)(Y:Nat->GT):GT:=CO P (Ui P Y) kQ 100 214
def Jj6(Y:Nat->GT)(a:FT Aa Y):BN Aa 214 (Zt Aa Y):=CQ (Jcg Y a) AX func214
def Y7(P:Aj):GT:=CO P (Ui P BM) Jcp 0 157
def JfO:BN Aa 157 (Y7 Aa):=CQ (Jcg BM (cZ _)) AX func157
def UM(P:Aj)(Y:Nat->GT):Tab:=⟨(214,false,Zt P Y)::(157,false,Y7 P)::qH P,Y,[]⟩
def JbX(Y:Nat->GT)(a:FT Aa Y):Bg Aa (UM Aa Y):=⟨AC (CB (Jj6 Y a))<|AC (CB JfO) Fd,a,fun _ h=>by cases h⟩
def YP(P:Aj):Nat->GT:=Yn P (UM P) 0 1
def Jw3:FT Aa (YP Aa):=TW JbX AX 0 1
section
variable (Y : Nat → GT)
def YF:Ac Nat:=[3]
def JqI(n:Nat)(i:D)(h:Ae):AB Aa (UM Aa Y) YF n f158 [i] h=
(Ah ((OB Aa) [] h) fun q v=>
Ad (Bq .sl i) fun w=>
Ad (Dk .u64 w) fun r=>
Ah ((Kq Aa) [q,r] v) fun s x=>
Ah (BX 65 [Ic] x) fun b u=>
Ah (Bh 1 b s u) fun y p=>
Ah ((Y7 Aa) [i] p) fun d j=>
PI (IK (UM Aa Y) d [13,14] (ET f158 0) (EL f158 0) 29 YF [b] j) (fun a=>
Ad (Ai none a b) fun l=>
Ah ((NS Aa) [l] a) fun m c=>
some (m,c)) (fun g a=>
CW g 0
(Ad (Ai none a b) fun e=>
Ah ((NS Aa) [e] a) fun o k=>
some (o,k))
(none)) (fun a=>
some (CS,a))):=by kernel_rfl
def Jrq(n id:Nat)(s0:D)(i p:D)(h:Ae):Mc Aa (UM Aa Y) n id [13,14] (ET f158 0) (EL f158 0) 29 YF [s0] [i,p] h=
(Dw 62 [(iD 0),CS] 2 p h fun d v=>
IZ id v fun c=>
Ad (Ai none c s0) fun r=>
AV 0 none c d fun q=>
Ad (Dk .u64 q) fun w=>
Ah ((Kq Aa) [r,w] c) fun u b=>
Ad (Dk .u64 i) fun o=>
Ah ((Kq Aa) [u,o] b) fun e a=>
Ad (Ai (some 2) a d) fun l=>
Ah (Ak VM [l] a) fun m j=>
Ad (Dk .u64 m) fun k=>
Ah ((Kq Aa) [e,k] j) fun s g=>
JS i
(Eb d (some c) (some b)
(Eb d (some b) (some a)
(J9 id .normal g)))):=by kernel_rfl
end
def DL(l:Ac EW)(k:Nat):Nat:=7+((l.take k).map fun x=>(GU x).length).sum
def fV(l:Ac EW)(k:Nat)(h:k<l.length):DL l (k+1)=DL l k+(GU l[k]).length:=by
 unfold DL;rw[Ij h,JE,List.sum_append];simp;omega
structure QJ(l:List EW):Prop where
 len:l.length<=16
 one:∀x∈l,Oc x
def QJ.at{l:Ac EW}(h:QJ l)(k:Nat):DL l k<=7+1048600*k:=by
 have key:∀m:Ac EW,(∀x∈m,Oc x)->(m.map fun x=>(GU x).length).sum<=1048600*m.length:=by
  intro m
  induction m with
  |nil=>intro _;simp
  |cons x r e=>
   intro b;have f:=e fun y d=>b y (QY _ d);have a:=b x KE;have g:=XL x;have i:=(WX x).2;have j:=a.2.2
   grind
 have f:=key (l.take k) fun x c=>h.one x (qD c);have a:(l.take k).length<=k:=by simp;omega
 have:=Nat.mul_le_mul_left 1048600 a;unfold DL;omega
def JcY{Y:Nat->GT}{id b:Nat}{l:Ac EW}(j:QJ l)(c:Nat->Ae->Prop)(i:∀H,c 0 H->H[b]? =some (.cells 56 1 [D9 l]))
  (d:∀(k:Nat) (g:k<l.length) (H:Ae) (o:HO),c k H->∃H',Y id [iD (DL l k),FK l[k]] (H++[o])=some (bD true,H')/\c (k+1) H'/\H'[H.length]? =some o) {H:Ae} (h:c 0 H):
  ∃H',Zt Aa Y [.yld id,.hp b 0] H=some (.tup [],H')/\c l.length H':=by
 have loop:=NT (P:=Aa) (T:=Ui Aa Y) (kp:=kQ) (fn:= f214) (li:=0) (fun k=>[.yld id,iD (DL l k),D9 l,iD l.length,iD k]) (fun k H=>c k H)
  (fun x=>∃H',x=(.exit 0,[.yld id,iD (DL l l.length),D9 l,iD l.length,iD l.length],H')/\c l.length H') l.length 100 (fun k H g p=>by
   have s:=j.one l[k] (Ih g);have G:=j.at k;have J:=j.len;have B:BG 2 (D9 l) (iD k)=some (.ptr (EK l[k])):=KO EK 2 l k g;obtain⟨H',E,I,y⟩:=d k g H (.cells 62 2 (EK l[k])) p;refine⟨H',?_,I⟩;have w:=XL l[k];have v:=(WX l[k]).2;have C:=s.2.2;rw[fV l k g,JaN];unfold Ce Dw;generalize l[k]=x at*;have ld:Ai (some 2) H (.ptr (EK x))=some (FK x):=rfl;have al:BX 62 [iD 0,CS] H=some (.hp H.length 0,H++[.cells 62 2 [iD 0,CS]]):=rfl;have st:Bh 2 (.hp H.length 0) (FK x) (H++[.cells 62 2 [iD 0,CS]])=some (.v undef,H++[.cells 62 2 (EK x)]):=by
    show Bh 2 _ (.agg (EK x)) _=_;rw[KG (n:=2) (cs:=[iD 0,CS]) (ds:=EK x) (Hz H _) rfl rfl rfl,NP]
   have q:Ai (some 2) (H++[.cells 62 2 (EK x)]) (.hp H.length 0)=some (FK x):=by rw[Es,Hz];rfl
   have K:Ai (some 2) H' (.hp H.length 0)=some (FK x):=by rw[Es,y];rfl
   have r:C9 (Ui Aa Y) (.yld id) [iD (DL l k),FK x] (H++[.cells 62 2 (EK x)])=some (bD true,H'):=E;have ad:=YR (a:=(DL l k:Int)) (b:=((GU x).length:Int)) (by omega) (by omega);simp only[G6 (show(k:Int)<l.length by omega),AU,Bd,Bv,B,ld,al,A7,st,q,r,Yr,MX,BF,BC,K,I0 x s,ad,G5 k (by omega)];rfl) (fun H p=>by
   refine⟨_,?_,?_,H,rfl,p⟩
   ·rw[JaN];unfold Ce Dw;simp only[Me (show¬(l.length:Int)<l.length by omega),AU,Bd,BF,BC]
   ·intro e;cases e) (by have:=j.len;omega) h
 obtain⟨x,q,u,rfl,z⟩:=loop;refine⟨u,?_,z⟩;rw[Zt,CJ func214,JoH];have F:=Gs H b _ _ _ _ (i H h);have D:Bq .sl (D9 l)=some (iD l.length):=by simp[Bq,OT,D9]
 have m:BZ Aa (Ui Aa Y) kQ 100 f214 0 [.yld id,iD 7,D9 l,iD l.length,iD 0] H=some (.exit 0,[.yld id,iD (DL l l.length),D9 l,iD l.length,iD l.length],u):=q;simp only[F,AU,D,m,Kw,Kv]
def Job(l:Ac EW)(k:Nat)(x:EW):By:=BU x.t++BU (DL l k:Nat)++BU ((GU x).length:Nat)
def Vu(l:Ac EW):Nat->By
 |0=>[]
 |k+1=>Vu l k++(match l[k]? with|some x=>Job l k x|none=>[])
def OG(l:Ac EW):By:=BU (l.length:Nat)++Vu l l.length
theorem Tg(l:Ac EW):∀k,(Vu l k).length<=30*k
 |0=>by simp[Vu]
 |k+1=>by
  have:=Tg l k;unfold Vu;rw[DC];cases l[k]? with
  |none=>simp;omega
  |some x=>
   have c:=(Et x.t).2;have b:=(Et (DL l k:Nat)).2;have a:=(Et ((GU x).length:Nat)).2;simp only[Job,DC];omega
def QH(fn:Func)(c:Nat)(st:LS):HO:= .loop st [13,14] (ET fn 0) (EL fn 0) 29 YF [.hp c 0]
structure LA(l:List EW)(c k:Nat)(H:Ae):Prop where
 wr:Ea H 0 1 (BU (l.length:Nat)++Vu l k)
 ptr:Obj 0 c (.cells 65 1 [.hp 0 0]) H
 box:Obj 0 (c+1) (.cells 56 1 [D9 l]) H
 loop:Obj 0 (c+2) (QH f158 c .ready) H
def Jvp(l:Ac EW)(I:QJ l)(c k:Nat)(Q:k<l.length)(H:Ae)(o:HO)(h:LA l c k H):
  ∃H',YP Aa (c+2) [iD (DL l k),FK l[k]] (H++[o])=some (bD true,H')/\LA l c (k+1) H'/\H'[H.length]? =some o:=by
 have hx:=I.one l[k] (Ih Q);have ah:=I.at k;have ac:=I.len;have aa:=Tg l k;have ad:=(Et (l.length:Nat)).2;have he:Vu l (k+1)=Vu l k++Job l k l[k]:=by
  show Vu l k++_=_;rw[FQ Q]
 obtain⟨x1,x2,x3⟩:=hx;have af:=XL l[k];have ae:=(WX l[k]).2;have g:=h.wr.app [o];have O:=h.wr.obj o;have p0:=h.ptr.app h.wr.lt [o];have b0:=h.box.app h.wr.lt [o];have e:=h.loop.app h.wr.lt [o];have X:=h.loop.lt;generalize H++[o]=a at*;generalize H.length=z at*;have hY:YP Aa (c+2) [iD (DL l k),FK l[k]] a=Jb Aa (UM Aa BM) 0 (c+2) [iD (DL l k),FK l[k]] a:=rfl;have v:Jb Aa (UM Aa BM) 0 (c+2) [iD (DL l k),FK l[k]] a=Mc Aa (UM Aa BM) 0 (c+2) [13,14] (ET f158 0) (EL f158 0) 29 YF [.hp c 0] [iD (DL l k),FK l[k]] a:=by
  unfold Jb;rw[e.1];simp only[QH];rw[Aw];refine⟨rfl,?_,?_,?_,?_⟩<;>kernel_rfl
 rw[hY,v,Jrq];unfold AV Dw;generalize ab:l[k]=x at*;have al:BX 62 [iD 0,CS] a=some (.hp a.length 0,a++[.cells 62 2 [iD 0,CS]]):=rfl;have st:Bh 2 (.hp a.length 0) (FK x) (a++[.cells 62 2 [iD 0,CS]])=some (.v undef,a++[.cells 62 2 (EK x)]):=by
  show Bh 2 _ (.agg (EK x)) _=_;rw[KG (n:=2) (cs:=[iD 0,CS]) (ds:=EK x) (Hz a _) rfl rfl rfl,NP]
 have S:=g.obj (.cells 62 2 (EK x));have w1:=g.app [.cells 62 2 (EK x)];have C:=O.app g.lt [.cells 62 2 (EK x)];have p1:=p0.app g.lt [.cells 62 2 (EK x)];have U:=b0.app g.lt [.cells 62 2 (EK x)];have d:=e.app g.lt [.cells 62 2 (EK x)];have M:=e.lt;have R:=O.lt;generalize a++[HO.cells 62 2 (EK x)]=m at*;generalize a.length=q at*;have J:IZ (α:=D×Ae) (c+2) m=fun k=>k (m.set (c+2) (QH f158 c .busy)):=by
  funext k;unfold IZ;rw[d.1];rfl
 have p:I9 0 [c+2] m (m.set (c+2) (QH f158 c .busy)):=I9.put d _ (by simp);have w2:=w1.put d (QH f158 c .busy);have F:=d.put (QH f158 c .busy);have G:=p.2 _ _ S (by simp;omega);have N:=p.2 _ _ p1 (by simp);have b2:=p.2 _ _ U (by simp);have L:=p.2 _ _ C (by simp;omega);generalize m.set (c+2) (QH f158 c .busy)=s at*;have ai:=(Et x.t).2;have ag:=(Et (DL l k:Nat)).2;obtain⟨w,n1,n2,i⟩:=Ob s 0 1 _ x.t ⟨by omega,by omega⟩ w2 (by simp only[DC];omega);have y:=G.kpw i;obtain⟨r,m1,m2,j⟩:=Ob w 0 1 _ (DL l k:Nat) ⟨by omega,by omega⟩ n2 (by simp only[DC];omega);have P:=y.kpw j;obtain⟨B,r1,V,u⟩:=Ob r 0 1 _ ((GU x).length:Nat) ⟨by omega,by omega⟩ m2 (by simp only[DC];omega);have b:=((F.kpw i).kpw j).kpw u;have Z:=((N.kpw i).kpw j).kpw u;have b5:=((b2.kpw i).kpw j).kpw u;have E:=((L.kpw i).kpw j).kpw u;have l0:=Gs s c _ _ _ _ N.1;have f0:AP 0 (.hp q 0)=some (.hp q 0):=rfl;have lt:=D6 s q 0 _ _ _ (iD x.t) G.1 rfl;have u1:Dk .u64 (iD x.t)=some (BO x.t):=Nz _ _ (by omega) (by omega);have u2:Dk .u64 (iD (DL l k))=some (BO (DL l k:Nat)):=Nz _ _ (by omega) (by omega);have T:Dk .u64 (iD ((GU x).length:Nat))=some (BO ((GU x).length:Nat)):=Nz _ _ (by omega) (by omega);have W:Ai (some 2) r (.hp q 0)=some (FK x):=by rw[Es,P.1];rfl
 have sz:=I0 x ⟨x1,x2,x3⟩ r;have Y:∀k:Af (D×Ae),Eb (.hp q 0) (some s) (some w) k=k:=fun k=>kR k G.1 y.1 (by simp[EK]);have e2:∀k:Af (D×Ae),Eb (.hp q 0) (some w) (some r) k=k:=fun k=>kR k y.1 P.1 (by simp[EK]);have K:I9 0 [c+2] B (B.set (c+2) (QH f158 c .ready)):=I9.put b _ (by simp);refine⟨B.set (c+2) (QH f158 c .ready),?_,⟨?_,K.2 _ _ Z (by simp),K.2 _ _ b5 (by simp),b.put _⟩,(K.2 _ _ E (by simp;omega)).1⟩
 ·simp only[al,A7,st,J,l0,AU,f0,lt,u1,n1,u2,m1,W,sz,T,r1,aJ,Y,e2];unfold J9;rw[b.1];rfl
 ·rw[he];have:=V.put b (QH f158 c .ready);simpa[Job,FV]using this
def jU:Ac D->Af D:=F1 Lo fun l=>if l.length<=16/\(l.all fun x=>decide (0<=x.t/\x.t<=255/\x.b.length<=1048576))=true then some (sD (OG l))else none
def JfM{l:Ac EW}(h:l.length<=16/\(l.all fun x=>decide (0<=x.t/\x.t<=255/\x.b.length<=1048576))=true):QJ l:=⟨h.1,fun x a=>by
 have:=Ew.1 h.2 x a;simpa[Oc]using this⟩
def QdJ:Bz Aa 158 jU:=FC (kp:=YF) (JbX _ Jw3) AX func158 fun l d h=>by
 split at h
 case isFalse=>cases h
 rename_i F;have n:=JfM F;cases h;refine⟨0,_,?_,AY.refl _⟩;show BB (AB _ _ _ _ _ [D9 l] [])=_;rw[JqI];have v:=VT [];have B:Ea [.cells 164 1 [Aq]] 0 1 []:=Wy [];have D:Bq .sl (D9 l)=some (iD l.length):=by simp[Bq,OT,D9]
 have I:=n.len;have u:Dk .u64 (iD l.length)=some (BO l.length):=Nz _ _ (by omega) (by omega);obtain⟨a,G,s,L⟩:=Ob _ 0 1 [] l.length ⟨by omega,by omega⟩ B (by simp);have al:BX 65 [Ic] a=some (.hp a.length 0,a++[.cells 65 1 [Ic]]):=rfl;have st:Bh 1 (.hp a.length 0) (.hp 0 0) (a++[.cells 65 1 [Ic]])=some (.v undef,a++[.cells 65 1 [.hp 0 0]]):=by
  rw[IV _ a.length 0 _ _ [Ic] (.hp 0 0) (Hz a _) (by simp) rfl rfl,NP];rfl
 have C:=s.obj (.cells 65 1 [.hp 0 0]);have w2:=s.app [.cells 65 1 [.hp 0 0]];have b:(a++[HO.cells 65 1 [.hp 0 0]]).length=a.length+1:=by simp
 generalize K:a.length=c at*;generalize a++[HO.cells 65 1 [.hp 0 0]]=g at*;have x:Y7 Aa [D9 l] g=some (.clo (.func 214) [] [.hp (c+1) 0],g++[.cells 56 1 [D9 l]]):=by
  rw[Y7,CJ func157,Jxc];have:BA 56 (D9 l) g=some (.hp (c+1) 0,g++[.cells 56 1 [D9 l]]):=by rw[<-b];rfl
  rw[this];rfl
 have r:=w2.obj (.cells 56 1 [D9 l]);rw[b]at r;have w3:=w2.app [.cells 56 1 [D9 l]];have J:=C.app w2.lt [.cells 56 1 [D9 l]];have i:(g++[HO.cells 56 1 [D9 l]]).length=c+2:=by simp[b]
 generalize g++[HO.cells 56 1 [D9 l]]=e at*;have lp:=w3.obj (QH f158 c .ready);rw[i]at lp;have m:LA l c 0 (e++[QH f158 c .ready]):=⟨by simpa[Vu]using w3.app _,J.app w3.lt _,r.app w3.lt _,lp⟩;obtain⟨q,E,j⟩:=JcY n (LA l c) (fun H h=>h.box.1) (fun k z H o h=>Jvp l n c k z H o h) m;have p:IK (UM Aa (YP Aa)) (.clo (.func 214) [] [.hp (c+1) 0]) [13,14] (ET f158 0) (EL f158 0) 29 YF [.hp c 0] e=some (.normal,q.set (c+2) .dead):=by
  have:IK (UM Aa (YP Aa)) (.clo (.func 214) [] [.hp (c+1) 0]) [13,14] (ET f158 0) (EL f158 0) 29 YF [.hp c 0] e=
   MQ (Zt Aa (YP Aa) [.yld e.length,.hp (c+1) 0] (e++[QH f158 c .ready])) e.length:=rfl
  rw[this,i,E];unfold MQ;simp only[j.loop.1];rfl
 have w:I9 0 [c+2] q (q.set (c+2) .dead):=I9.put j.loop _ (by simp);have y:=Gs _ c _ _ _ _ (w.2 _ _ j.ptr (by simp)).1;have DK:=Xh _ 0 1 _ (j.wr.put j.loop .dead);simp only[v,A7,Hf,JO,D,AU,u,G,al,st,x,p,mP,y,DK];exact ZT _ _
def Jxn(l:Ac EW)(a:QJ l)(H:Ae):Ak jU [D9 l] H=some (sD (OG l),H):=by
 rw[CP _ _ _ rfl,show jU [D9 l]=_ from EO (A:=Lo) _ l,Aw ⟨a.len,by rw[Ew];intro x b;have:=a.one x b;simpa[Oc]using this⟩];rfl
def NU(P:Aj)(Y:Nat->GT):Tab:=⟨(158,true,Ak jU)::(214,false,Zt P Y)::(157,false,Y7 P)::qH P,Y,[]⟩
def Jbk(Y:Nat->GT)(a:FT Aa Y):Bg Aa (NU Aa Y):=⟨AC (Bf QdJ)<|AC (CB (Jj6 Y a))<|AC (CB JfO) Fd,a,fun _ h=>by cases h⟩
def YB(P:Aj):Nat->GT:=Yn P (NU P) 0 1
def Jyb:FT Aa (YB Aa):=TW Jbk AX 0 1
section
variable (Y : Nat → GT)
def Pn:Ac Nat:=[3,7,25]
def QcY(n:Nat)(j:D)(h:Ae):AB Aa (NU Aa Y) Pn n f91 [j] h=
(Ah (BX 3 [(iD 0)] h) fun i S=>
Ah (Bh 1 i (iD 7) S) fun W T=>
Ah ((Y7 Aa) [j] T) fun R V=>
PI (IK (NU Aa Y) R [11,12] (ET f91 0) (EL f91 0) 39 Pn [i,.undef,.undef] V) (fun g=>
Ah (Ak jU [j] g) fun P Q=>
Ah ((OB Aa) [] Q) fun m x=>
Ah ((OL Aa) [m,P] x) fun q w=>
Ah (Ak X9 [P] w) fun L J=>
Ah ((OL Aa) [q,L] J) fun y I=>
Dy (BZ Aa (NU Aa Y) Pn n f91 0 [i,y,(iD 0)] I) (fun E c b=>
CW E 2
(Ah ((OL Aa) [(gD c 1),(.v (.string ⟨#[69,78,68,46]⟩))] b) fun o r=>
Ah ((NS Aa) [o] r) fun F K=>
some (F,K))
(none)) (fun c b=>
some (.undef,b))) (fun U g=>
CW U 0
(Ah (Ak jU [j] g) fun e p=>
Ah ((OB Aa) [] p) fun M u=>
Ah ((OL Aa) [M,e] u) fun k v=>
Ah (Ak X9 [e] v) fun s N=>
Ah ((OL Aa) [k,s] N) fun H z=>
Dy (BZ Aa (NU Aa Y) Pn n f91 0 [i,H,(iD 0)] z) (fun B d a=>
CW B 2
(Ah ((OL Aa) [(gD d 1),(.v (.string ⟨#[69,78,68,46]⟩))] a) fun C O=>
Ah ((NS Aa) [C] O) fun l G=>
some (l,G))
(none)) (fun d a=>
some (.undef,a)))
(none)) (fun g=>
some (CS,g))):=by kernel_rfl
def JqJ(n:Nat)(s0 b a:D)(h:Ae):BK Aa (NU Aa Y) Pn n f91 0 [s0,b,a] h=
(Ad (Ag .int .lss a (iD 4)) fun d=>
Az d
(Ad (Ai none h s0) fun e=>
Ad (Ag .int .mul (iD 8) a) fun k=>
Ad (Ag .int .shr e k) fun i=>
Ad (Dk .u8 i) fun j=>
Ah ((Uu Aa) [b,j] h) fun l g=>
Ad (Ag .int .add a (iD 1)) fun c=>
some (.normal,[s0,b,c],g))
(some ((.exit 2),[s0,b,a],h))):=by kernel_rfl
def JxZ(n id:Nat)(s0 i o:D)(b e:D)(h:Ae):Mc Aa (NU Aa Y) n id [11,12] (ET f91 0) (EL f91 0) 39 Pn [s0,i,o] [b,e] h=
(Ah (BX 62 [(iD 0),CS] h) fun c l=>
Ah (Bh 2 c e l) fun q j=>
IZ id j fun d=>
Ad (Ai (some 2) d c) fun m=>
Ah (Ak VM [m] d) fun g k=>
Ad (Ag .int .add b g) fun p=>
Ah (Bh 1 s0 p k) fun r a=>
J9 id .normal a):=by kernel_rfl
end
def JaC:Ac Nat:=[0,2,3,6,7,8]
structure S4 where
 a:By
 b:By
 c:By
 d:By
 deriving DecidableEq,Inhabited
def Gi(x:S4):Ac EW:=[⟨1,x.a⟩,⟨2,x.b⟩,⟨3,x.c⟩,⟨4,x.d⟩]
def Uh(x:S4):D:= .sl 2 [[iD 1,sD x.a],[iD 2,sD x.b],[iD 3,sD x.c],[iD 4,sD x.d]]
def Wo:D->Af S4
 | .sl 2 [[p,a],[q,b],[r,c],[s,d]]=>(Dz p).bind fun p=>(Dz q).bind fun q=>(Dz r).bind fun r=>(Dz s).bind fun s=>(MN a).bind fun a=>(MN b).bind fun b=>(MN c).bind fun c=>(MN d).bind fun d=>if p=1/\q=2/\r=3/\s=4 then some ⟨a,b,c,d⟩else none
 |_=>none
def Fx{d:D}{n:Int}(h:Dz d=some n):d=iD n:=by
 unfold Dz at h;split at h
 ·cases h;rfl
 ·cases h
def Cx{d:D}{l:By}(h:MN d=some l):d=sD l:=by
 unfold MN at h;split at h
 ·cases h;simp[sD,JiB]
 ·cases h
def Bs:EU S4:=⟨Uh,Wo,fun x=>by
  have h:∀l:By,MN (sD l)=some l:=Po.back;have i:∀n:Int,Dz (iD n)=some n:=BV.back;simp only[Wo,Uh,i,h,BR];rfl,fun d x h=>by
 have:d=Uh x:=by
  unfold Wo at h;split at h
  ·obtain⟨p,v,h⟩:=Bi.1 h;obtain⟨q,t,h⟩:=Bi.1 h;obtain⟨r,g,h⟩:=Bi.1 h;obtain⟨s,m,h⟩:=Bi.1 h;obtain⟨a,u,h⟩:=Bi.1 h;obtain⟨b,o,h⟩:=Bi.1 h;obtain⟨c,j,h⟩:=Bi.1 h;obtain⟨e,k,h⟩:=Bi.1 h;split at h
   case isFalse=>cases h
   rename_i f;cases h;obtain⟨rfl,rfl,rfl,rfl⟩:=f;rw[Fx v,Fx t,Fx g,Fx m,Cx u,Cx o,Cx j,Cx k];rfl
  ·cases h
 subst this;exact AY.refl _⟩
def yF:Ac D->Af D:=F1 Bs fun _=>some (bD true)
def QaG(x:S4):BB (AB Aa (iX Aa) JaC 9 f90 [Uh x] [])=some (bD true):=by kernel_rfl
def Jd0:Bz Aa 90 yF:=FC (kp:=JaC) Jt6 AX func90 fun x d h=>by
 cases h
 exact⟨9,_,QaG x,AY.refl _⟩
def QP(fn:Func)(st:LS):HO:= .loop st [11,12] (ET fn 0) (EL fn 0) 39 Pn [.hp 0 0,.undef,.undef]
structure Ga(l:List EW)(k:Nat)(H:Ae):Prop where
 num:H[0]? =some (.cells 3 1 [iD (DL l k)])
 box:H[1]? =some (.cells 56 1 [D9 l])
 loop:H[2]? =some (QP f91 .ready)
def Jl2(l:Ac EW)(m:QJ l)(k:Nat)(s:k<l.length)(H:Ae)(o:HO)(h:Ga l k H):
  ∃H',YB prog 2 [iD (DL l k),FK l[k]] (H++[o])=some (bD true,H')/\Ga l (k+1) H'/\H'[H.length]? =some o:=by
 have u:=m.one l[k] (Ih s);have L:=m.at k;have N:=m.len;obtain⟨R,Q,O⟩:=id u;have E:=XL l[k];have B:=(WX l[k]).2;have hs:=fV l k s;have v:=(CV.1 h.loop).1;have w:(H++[o])[0]? =some (.cells 3 1 [iD (DL l k)]):=JX h.num;have M:(H++[o])[1]? =some (.cells 56 1 [D9 l]):=JX h.box;have r:(H++[o])[2]? =some (QP f91 .ready):=JX h.loop;have y:(H++[o])[H.length]? =some o:=Hz H o;have P:(H++[o]).length=H.length+1:=by simp
 generalize H++[o]=c at*;generalize H.length=z at*;have K:YB prog 2 [iD (DL l k),FK l[k]] c=Jb prog (NU prog BM) 0 2 [iD (DL l k),FK l[k]] c:=rfl;have j:Jb prog (NU prog BM) 0 2 [iD (DL l k),FK l[k]] c=Mc prog (NU prog BM) 0 2 [11,12] (ET f91 0) (EL f91 0) 39 Pn [.hp 0 0,.undef,.undef] [iD (DL l k),FK l[k]] c:=by
  unfold Jb;rw[r];simp only[QP];rw[Aw];refine⟨rfl,?_,?_,?_,?_⟩<;>kernel_rfl
 rw[K,j,JxZ];generalize l[k]=x at*;have al:BX 62 [iD 0,CS] c=some (.hp c.length 0,c++[.cells 62 2 [iD 0,CS]]):=rfl;have st:Bh 2 (.hp c.length 0) (FK x) (c++[.cells 62 2 [iD 0,CS]])=some (.v undef,c++[.cells 62 2 (EK x)]):=by
  show Bh 2 _ (.agg (EK x)) _=_;rw[KG (n:=2) (cs:=[iD 0,CS]) (ds:=EK x) (Hz c _) rfl rfl rfl,NP]
 have old:∀(i:Nat) (q:HO),c[i]? =some q->(c++[HO.cells 62 2 (EK x)])[i]? =some q:=fun i q g=>JX g;have I:=Hz c (.cells 62 2 (EK x));have J:(c++[HO.cells 62 2 (EK x)]).length=c.length+1:=by simp
 generalize c++[HO.cells 62 2 (EK x)]=d at*;have p:IZ (α:=D×Ae) 2 d=fun k=>k (d.set 2 (QP f91 .busy)):=by
  funext k;unfold IZ;rw[old 2 _ r];rfl
 have e:∀(i:Nat) (q:HO),i≠2->d[i]? =some q->(d.set 2 (QP f91 .busy))[i]? =some q:=fun i q G g=>by rw[Ee (Ne.symm G)];exact g
 have C:Ai (some 2) (d.set 2 (QP f91 .busy)) (.hp c.length 0)=some (FK x):=by rw[Es,e _ _ (by omega) I];rfl
 have sz:=I0 x u (d.set 2 (QP f91 .busy));have ad:=YR (a:=(DL l k:Int)) (b:=((GU x).length:Int)) (by omega) (by omega);have F:=e 0 _ (by omega) (old 0 _ w);have s0:=IV _ 0 0 _ _ [iD (DL l k)] (iD ((DL l k:Int)+((GU x).length:Int))) F (by simp) rfl rfl;refine⟨((d.set 2 (QP f91 .busy)).set 0 (.cells 3 1 [iD ((DL l k:Int)+((GU x).length:Int))])).set 2 (QP f91 .ready),?_,⟨?_,?_,?_⟩,?_⟩
 ·simp only[Zj]at s0;simp only[al,A7,st,p,C,AU,sz,ad,s0];unfold J9;rw[show((d.set 2 (QP f91 .busy)).set 0 (.cells 3 1 [iD ((DL l k:Int)+((GU x).length:Int))]))[2]? =some (QP f91 .busy)from by rw[Ee (by omega)];exact Hw (by omega)];rfl
 ·rw[Ee (by omega),Hw (by simp;omega),hs]
  push_cast;rfl
 ·rw[Ee (by omega),Ee (by omega)];exact e 1 _ (by omega) (old 1 _ M)
 ·rw[Hw (by simp;omega)]
 ·rw[Ee (by omega),Ee (by omega)];exact e z _ (by omega) (old z _ y)
def Lx(n j:Nat):UInt8:=b8 ((n:Int).fdiv (2^(8*j)))
def dB(n:Nat):Nat->By
 |0=>[]
 |j+1=>dB n j++[Lx n j]
theorem wS(n:Nat):∀j,(dB n j).length=j
 |0=>rfl
 |j+1=>by simp[dB,wS n j]
def KS:By:=[69,78,68,46]
def Lr(l:Ac EW):By:=OG l++TU (OG l)++dB (DL l l.length) 4++KS
def Jn6(n j w:Nat)(l:By)(H:Ae)(q:j<4)(a:Ea H w (w+1) l)(b:H[0]? =some (.cells 3 1 [iD n]))(p:w≠0)(r:l.length<=3000000)(m:Nat)(Y:Nat->GT):
  ∃H',BK Aa (NU Aa Y) Pn m f91 0 [.hp 0 0,.hp w 0,iD j] H=some (.normal,[.hp 0 0,.hp w 0,iD ((j+1:Nat):Int)],H')/\Ea H' w (w+1) (l++[Lx n j])/\H'[0]? =some (.cells 3 1 [iD n]):=by
 obtain⟨H',h,c,g⟩:=ZP H w (w+1) l (Lx n j) a (by omega);have o:=(a.old (k:=0) (by omega) (by omega) b).kpw g;refine⟨H',?_,c,o.1⟩;rw[JqJ];have d:=Gs H 0 _ _ _ _ b;have e:Ag .int .mul (iD 8) (iD j)=some (iD ((8*j:Nat):Int)):=by
  show EJ .mul .i64 8 j=_;simp only[EJ];rw[VK _ (by omega) (by omega)];push_cast;rfl
 have i:Ag .int .shr (iD n) (iD ((8*j:Nat):Int))=some (iD ((n:Int).fdiv (2^(8*j)))):=by
  show LX .shr .i64 n _=_;unfold LX;rw[Am (by omega)];have:min ((8*j:Nat):Int).toNat IntKind.i64.bits=8*j:=by show min _ 64=_;omega
  simp only[this]
 have u8:Dk .u8 (iD ((n:Int).fdiv (2^(8*j))))=some (Gm (Lx n j)):=UG _ _;simp only[G6 (show(j:Int)<4 by omega),AU,Bd,Bv,d,e,i,u8,h,A7,G5 j (by omega)];rfl
def dR:Ac D->Af D:=F1 Lo fun l=>if l.length<=16/\(l.all fun x=>decide (0<=x.t/\x.t<=255/\x.b.length<=1048576))=true then some (sD (Lr l))else none
def Pp(l:Ac EW)(h:QJ l):(OG l).length<=500:=by
 have c:=Tg l l.length;have b:=(Et (l.length:Nat)).2;have a:=h.len;simp only[OG,DC];omega
def uW(l:By):(TU l).length=4:=rfl
def Jjo:Bz Aa 91 dR:=FC (kp:=Pn) (Jbk _ Jyb) AX func91 fun l d h=>by
 split at h
 case isFalse=>cases h
 rename_i hg;have g:=JfM hg;cases h;have q:BX 3 [iD 0] []=some (.hp 0 0,[.cells 3 1 [iD 0]]):=rfl;have s:Bh 1 (.hp 0 0) (iD 7) [.cells 3 1 [iD 0]]=some (.v undef,[.cells 3 1 [iD 7]]):=rfl;have N:Y7 Aa [D9 l] [.cells 3 1 [iD 7]]=some (.clo (.func 214) [] [.hp 1 0],[.cells 3 1 [iD 7],.cells 56 1 [D9 l]]):=by rfl
 have r:Ga l 0 ([.cells 3 1 [iD 7],.cells 56 1 [D9 l]]++[QP f91 .ready]):=⟨rfl,rfl,rfl⟩;obtain⟨b,n1,p⟩:=JcY g (Ga l) (fun H h=>h.box) (fun k Z H o h=>Jl2 l g k Z H o h) r;have n:IK (NU Aa (YB Aa)) (.clo (.func 214) [] [.hp 1 0]) [11,12] (ET f91 0) (EL f91 0) 39 Pn [.hp 0 0,.undef,.undef] [.cells 3 1 [iD 7],.cells 56 1 [D9 l]]=some (.normal,b.set 2 .dead):=by
  have:IK (NU Aa (YB Aa)) (.clo (.func 214) [] [.hp 1 0]) [11,12] (ET f91 0) (EL f91 0) 39 Pn [.hp 0 0,.undef,.undef] [.cells 3 1 [iD 7],.cells 56 1 [D9 l]]=
   MQ (Zt Aa (YB Aa) [.yld 2,.hp 1 0] ([.cells 3 1 [iD 7],.cells 56 1 [D9 l]]++[QP f91 .ready])) 2:=rfl
  rw[this,n1];unfold MQ;simp only[p.loop];rfl
 have F:(b.set 2 .dead)[0]? =some (.cells 3 1 [iD (DL l l.length)]):=by rw[Ee (by omega)];exact p.num
 have E:2<(b.set 2 .dead).length:=by have:=(CV.1 p.loop).1;simpa using this
 generalize b.set 2 .dead=a at*;have K:=Jxn l g a;have L:=Pp l g;have I:=VT a;have D:=Wy a;have o1:=D.old (k:=0) (o:= .cells 3 1 [iD (DL l l.length)]) (by omega) (by omega) (JX F);generalize hw:a.length=w at*;generalize a++[HO.cells 164 1 [Aq]]=Q at*;obtain⟨B,W,J,r3⟩:=ZO Q w (w+1) [] (OG l) D (by simp;omega);have o2:=o1.kpw r3;have O:=JhG (OG l) (by omega) B;have Y:=uW (OG l);obtain⟨y,G,C,U⟩:=ZO B w (w+1) _ (TU (OG l)) J (by grind);have o3:=o2.kpw U;rw[JO]at C;have loop:=NT (P:=Aa) (T:=NU Aa (YB Aa)) (kp:=Pn) (fn:= f91) (li:=0) (fun j=>[.hp 0 0,.hp w 0,iD j]) (fun j H=>Ea H w (w+1) (OG l++TU (OG l)++dB (DL l l.length) j)/\H[0]? =some (.cells 3 1 [iD (DL l l.length)]))
  (fun x=>∃H',x=(.exit 2,[.hp 0 0,.hp w 0,iD 4],H')/\Ea H' w (w+1) (OG l++TU (OG l)++dB (DL l l.length) 4)) 4 9 (fun j H V c=>by
   have:=wS (DL l l.length) j;obtain⟨H',S,z,M⟩:=Jn6 (DL l l.length) j w _ H V c.1 c.2 (by omega) (by grind) 9 (YB Aa);exact⟨H',S,by rw[FV]at z;exact z,M⟩) (fun H c=>by
   refine⟨_,?_,?_,H,rfl,c.1⟩
   ·rfl
   ·intro e;cases e) (by omega) (H:=y) ⟨by simpa[dB]using C,o3.1⟩
 obtain⟨x,l1,m,rfl,X⟩:=loop;have aa:=wS (DL l l.length) 4;obtain⟨v,R,t2,t3⟩:=ZO m w (w+1) _ KS X (by simp only[DC,KS,Ej,Hf];omega);have DK:=Xh v w (w+1) _ t2;refine⟨9,_,?_,AY.refl _⟩;show BB (AB _ _ _ _ _ [D9 l] [])=_;rw[QcY];have u:OL Aa [.hp w 0,.v (.string ⟨#[69,78,68,46]⟩)] m=some (.hp w 0,v):=R;have i:BZ Aa (NU Aa (YB Aa)) Pn 9 f91 0 [.hp 0 0,.hp w 0,iD 0] y=some (.exit 2,[.hp 0 0,.hp w 0,iD 4],m):=l1;simp only[q,A7,s,N,n,mP,K,I,W,O,G,i,Kw,Kv,NJ,NM,u,DK];exact ZT _ _
def Jjf(l:Ac EW)(a:QJ l)(H:Ae):Ak dR [D9 l] H=some (sD (Lr l),H):=by
 rw[CP _ _ _ rfl,show dR [D9 l]=_ from EO (A:=Lo) _ l,Aw ⟨a.len,by rw[Ew];intro x b;have:=a.one x b;simpa[Oc]using this⟩];rfl
def bG:Ac D->Af D:=F2 oJ BV fun b e=>if b=true then some (.tup [])else none
def JzJ(e:Int):BB (AB Aa T0 [] 0 f89 [bD true,iD e] [])=some (.tup []):=by kernel_rfl
def Jg8:Bz Aa 89 bG:=GK (kp:=[]) bC AX func89 fun b e d h=>by
 split at h
 case isFalse=>cases h
 rename_i a;subst a;cases h;exact⟨0,_,JzJ e,AY.refl _⟩
def Jek(e:Int)(H:Ae):Ak bG [bD true,iD e] H=some (.tup [],H):=by rfl
def JfS(P:Aj):Ac Cj:=(90,true,Ak yF)::(91,true,Ak dR)::(89,true,Ak bG)::(93,true,Ak jE)::(92,true,Ak VM)::[]
def Qe2:∀p∈JfS Aa,Ci Aa p:=AC (Bf Jd0)<|AC (Bf Jjo)<|AC (Bf Jg8)<|AC (Bf Jet)<|AC (Bf JgQ)<|EN
def Tj(P:Aj):Tab:=⟨JfS P,BM,[]⟩
def Jsh:Bg Aa (Tj Aa):=CU Qe2
def Vf:Ac Nat:=[0,2,3,4,19,20,21,33,34,35]
def JzL(n:Nat)(cl:D->Ac D->Ae->Af Ae)(j:D)(h:Ae):oG Aa (Tj Aa) Vf n f28 88 cl [j] h=
(Ah (BX 9 [CS] h) fun k Q=>
Ah (BX 34 [(iD 0)] Q) fun l R=>
Ah (Ak yF [j] R) fun P V=>
Ah (Ak bG [P,(iD 20)] V) fun W T=>
Ah (Ak dR [j] T) fun U N=>
Ad (Bq .str U) fun s=>
Ad (Ag .int .add (iD 7) s) fun J=>
Ad (Bq .sl j) fun u=>
Dy (BZ Aa (Tj Aa) Vf n f28 0 [j,k,l,J,j,u,(iD 0),.undef,.undef,.undef] N) (fun v a g=>
CW v 0
(Ad (Ag .int .leq (gD a 3) (iD 1048576)) fun E=>
Ah (Ak bG [E,(iD 4)] g) fun S p=>
Ah (Bh 1 (gD a 1) (.v (.string ⟨#[77,85,84,65,82,67,1]⟩)) p) fun M z=>
Ad (Bq .sl (gD a 0)) fun r=>
Dy (BZ Aa (Tj Aa) Vf n f28 1 [(gD a 0),(gD a 1),(gD a 2),(gD a 3),(gD a 4),(gD a 5),(gD a 6),(gD a 0),r,(iD 0)] z) (fun I b c=>
CW I 2
(Ad (Ai none c (gD b 1)) fun G=>
Ah (Ak dR [(gD b 0)] c) fun o H=>
Ad (Ag .str .add G o) fun C=>
Ah (Bh 1 (gD b 1) C H) fun L w=>
Ah (Bh 1 (gD b 2) (iD 0) w) fun O K=>
ZM (cl (.v .nilIface) [k,l] K) fun e=>
Ad (Ai none e (gD b 1)) fun m=>
Ad (Ai none e (gD b 2)) fun y=>
some (.tup [m,y],e))
(none)) (fun b c=>
ZM (cl (.v .nilIface) [k,l] c) fun d=>
Ad (Ai none d (gD b 1)) fun B=>
Ad (Ai none d (gD b 2)) fun F=>
some (.tup [B,F],d)))
(none)) (fun a g=>
ZM (cl (.v .nilIface) [k,l] g) fun i=>
Ad (Ai none i (gD a 1)) fun q=>
Ad (Ai none i (gD a 2)) fun x=>
some (.tup [q,x],i))):=by kernel_rfl
def Jd6(n:Nat)(s0 d j k c b a i m g:D)(h:Ae):BK Aa (Tj Aa) Vf n f28 0 [s0,d,j,k,c,b,a,i,m,g] h=
(Ad (Ag .int .lss a b) fun s=>
Az s
(Ce 2 (some 2) h c a fun u=>
Dw 62 [(iD 0),CS] 2 u h fun r o=>
Ad (Ai (some 2) o r) fun q=>
Ah (Ak VM [q] o) fun v p=>
Ad (Ag .int .add k v) fun e=>
Ad (Ag .int .add a (iD 1)) fun l=>
some (.normal,[s0,d,j,e,c,b,l,i,m,g],p))
(some ((.exit 0),[s0,d,j,k,c,b,a,i,m,g],h))):=by kernel_rfl
def Jan(n:Nat)(s0 a p u r o k e g b:D)(h:Ae):BK Aa (Tj Aa) Vf n f28 1 [s0,a,p,u,r,o,k,e,g,b] h=
(Ad (Ag .int .lss b g) fun F=>
Az F
(Ad (BG 2 e b) fun G=>
Ad (Ai (some 2) h G) fun H=>
Ah (BX 62 [(iD 0),CS] h) fun w C=>
Ah (Bh 2 w H C) fun I v=>
Ad (Ai (some 2) v w) fun z=>
Ah (Ak jE [z] v) fun x y=>
Ad (DN x 0) fun l=>
Ad (DN x 1) fun d=>
Ad (Ag .int .eql d (iD 0)) fun m=>
Ah (Ak bG [m,d] y) fun B c=>
Ad (Ai none c a) fun s=>
Ad (Ag .str .add s l) fun q=>
Ah (Bh 1 a q c) fun E i=>
Ad (Ag .int .add b (iD 1)) fun j=>
some (.normal,[s0,a,p,u,r,o,k,e,g,j],i))
(some ((.exit 2),[s0,a,p,u,r,o,k,e,g,b],h))):=by kernel_rfl
def Jr:By:=[77,85,84,65,82,67,1]
def Jn(l:Ac EW):By:=(l.map GU).flatten
def KD(l:Ac EW):By:=Jr++Jn l++Lr l
def Jft(l:Ac EW)(k:Nat)(h:k<l.length):Jn (l.take (k+1))=Jn (l.take k)++GU l[k]:=by
 rw[Jn,Ij h];simp only[Jn,JE,EP,J7,Xx,IX,PT,Lj]
def JbL(l:Ac EW)(k:Nat)(h:k<=l.length):(Jn (l.take k)).length+7=DL l k:=by
 induction k with
 |zero=>simp[Jn,DL]
 |succ k a=>
  rw[Jft l k (by omega),fV l k (by omega),DC];omega
def JzW(P:Aj)(fn a:Func):GT:=oG P (Tj P) Vf 9 fn 88 (ZQ P [] 0 a)
def Qdx:BN Aa 28 (JzW Aa f28 f88):=
 Jf8 Jsh AX func28 (by kernel_rfl) (by decide) func88 (by kernel_rfl) (by decide) (by kernel_rfl) fun ds H d H' h=>⟨9,h⟩
def Ju6(H:Ae):ZQ Aa [] 0 f88 (.v .nilIface) [.hp 0 0,.hp 1 0] H=some H:=by kernel_rfl
def QF:HO:= .cells 34 1 [iD 0]
def KU(l:By):HO:= .cells 9 1 [sD l]
def Jlv(l:Ac EW)(d:QJ l)(w:l.length<9)(a:Nat)(y:a<=1000000)(H:Ae)(s:H[0]? =some (KU []))(o:H[1]? =some QF):
  ∃H',BZ Aa (Tj Aa) Vf 9 f28 0 [D9 l,.hp 0 0,.hp 1 0,iD ((a+(DL l 0-7):Nat):Int),D9 l,iD l.length,iD 0,.undef,.undef,.undef] H=some (.exit 0,[D9 l,.hp 0 0,.hp 1 0,iD ((a+(DL l l.length-7):Nat):Int),D9 l,iD l.length,iD l.length,.undef,.undef,.undef],H')/\H'[0]? =some (KU [])/\H'[1]? =some QF:=by
 have loop:=NT (P:=Aa) (T:=Tj Aa) (kp:=Vf) (fn:= f28) (li:=0) (fun k=>[D9 l,.hp 0 0,.hp 1 0,iD ((a+(DL l k-7):Nat):Int),D9 l,iD l.length,iD k,.undef,.undef,.undef]) (fun k H=>H[0]? =some (KU [])/\H[1]? =some QF)
  (fun x=>∃H',x=(.exit 0,[D9 l,.hp 0 0,.hp 1 0,iD ((a+(DL l l.length-7):Nat):Int),D9 l,iD l.length,iD l.length,.undef,.undef,.undef],H')/\H'[0]? =some (KU [])/\H'[1]? =some QF) l.length 9 (fun k H c b=>by
   have h:=d.one l[k] (Ih c);have u:=d.at k;have v:=d.len;have p:BG 2 (D9 l) (iD k)=some (.ptr (EK l[k])):=KO EK 2 l k c;have j:=XL l[k];have i:=(WX l[k]).2;have q:=h.2.2;have hs:=fV l k c;have z:7<=DL l k:=by unfold DL;omega
   refine⟨H++[.cells 62 2 (EK l[k])],?_,JX b.1,JX b.2⟩;rw[Jd6];unfold Ce Dw;generalize l[k]=x at*;have ld:Ai (some 2) H (.ptr (EK x))=some (FK x):=rfl;have al:BX 62 [iD 0,CS] H=some (.hp H.length 0,H++[.cells 62 2 [iD 0,CS]]):=rfl;have st:Bh 2 (.hp H.length 0) (FK x) (H++[.cells 62 2 [iD 0,CS]])=some (.v undef,H++[.cells 62 2 (EK x)]):=by
    show Bh 2 _ (.agg (EK x)) _=_;rw[KG (n:=2) (cs:=[iD 0,CS]) (ds:=EK x) (Hz H _) rfl rfl rfl,NP]
   have g:Ai (some 2) (H++[.cells 62 2 (EK x)]) (.hp H.length 0)=some (FK x):=by rw[Es,Hz];rfl
   have ad:Ag .int .add (iD ((a+(DL l k-7):Nat):Int)) (iD ((GU x).length:Nat))=some (iD ((a+(DL l (k+1)-7):Nat):Int)):=by
    rw[YR (by omega) (by omega),hs];congr 3;omega
   simp only[G6 (show(k:Int)<l.length by omega),AU,Bd,Bv,p,ld,al,A7,st,g,I0 x h,ad,G5 k (by omega)];rfl) (fun H b=>by
   refine⟨_,?_,?_,H,rfl,b⟩
   ·rw[Jd6];unfold Ce Dw;simp only[Me (show¬(l.length:Int)<l.length by omega),AU,Bd,BF,BC]
   ·intro e;cases e) (by omega) (H:=H) ⟨s,o⟩
 obtain⟨x,g,r,rfl,m⟩:=loop;exact⟨r,g,m⟩
def Ju4(l:Ac EW)(z:QJ l)(L:l.length<9)(b d:D)(H:Ae)(F:H[0]? =some (KU Jr))(w:H[1]? =some QF)(p:DL l l.length<=8000000):
  ∃H',BZ Aa (Tj Aa) Vf 9 f28 1 [D9 l,.hp 0 0,.hp 1 0,b,D9 l,iD l.length,d,D9 l,iD l.length,iD 0] H=some (.exit 2,[D9 l,.hp 0 0,.hp 1 0,b,D9 l,iD l.length,d,D9 l,iD l.length,iD l.length],H')/\H'[0]? =some (KU (Jr++Jn l))/\H'[1]? =some QF:=by
 have loop:=NT (P:=Aa) (T:=Tj Aa) (kp:=Vf) (fn:= f28) (li:=1) (fun k=>[D9 l,.hp 0 0,.hp 1 0,b,D9 l,iD l.length,d,D9 l,iD l.length,iD k]) (fun k H=>H[0]? =some (KU (Jr++Jn (l.take k)))/\H[1]? =some QF)
  (fun x=>∃H',x=(.exit 2,[D9 l,.hp 0 0,.hp 1 0,b,D9 l,iD l.length,d,D9 l,iD l.length,iD l.length],H')/\H'[0]? =some (KU (Jr++Jn l))/\H'[1]? =some QF) l.length 9 (fun k H c a=>by
   have o:=z.one l[k] (Ih c);have y:BG 2 (D9 l) (iD k)=some (.ptr (EK l[k])):=KO EK 2 l k c;have r:=XL l[k];have q:=(WX l[k]).2;have C:=o.2.2;have G:=JbL l k (by omega);have g:DL l (k+1)<=DL l l.length:=by
    have key:∀m,k+1+m<=l.length->DL l (k+1)<=DL l (k+1+m):=by
     intro m
     induction m with
     |zero=>intro _;exact BQ _
     |succ m u=>
      intro h;have:=fV l (k+1+m) (by omega);have:=u (by omega);rw[show k+1+(m+1)=k+1+m+1 from by omega];omega
    have:=key (l.length-(k+1)) (by omega);rwa[show k+1+(l.length-(k+1))=l.length from by omega]at this
   have I:=fV l k c;refine⟨(H++[HO.cells 62 2 (EK l[k])]).set 0 (KU (Jr++Jn (l.take (k+1)))),?_,?_,?_⟩
   ·rw[Jan,Jft l k c];generalize l[k]=x at*;have ld:Ai (some 2) H (.ptr (EK x))=some (FK x):=rfl;have al:BX 62 [iD 0,CS] H=some (.hp H.length 0,H++[.cells 62 2 [iD 0,CS]]):=rfl;have st:Bh 2 (.hp H.length 0) (FK x) (H++[.cells 62 2 [iD 0,CS]])=some (.v undef,H++[.cells 62 2 (EK x)]):=by
     show Bh 2 _ (.agg (EK x)) _=_;rw[KG (n:=2) (cs:=[iD 0,CS]) (ds:=EK x) (Hz H _) rfl rfl rfl,NP]
    have i:Ai (some 2) (H++[.cells 62 2 (EK x)]) (.hp H.length 0)=some (FK x):=by rw[Es,Hz];rfl
    have J:DN (.tup [sD (GU x),iD 0]) 0=some (sD (GU x)):=rfl;have K:DN (.tup [sD (GU x),iD 0]) 1=some (iD 0):=rfl;have B:Ag .int .eql (iD 0) (iD 0)=some (bD true):=rfl;have j:(H++[HO.cells 62 2 (EK x)])[0]? =some (KU (Jr++Jn (l.take k))):=JX a.1;have s:=Gs _ 0 _ _ _ _ j;have ad:=Gb (Jr++Jn (l.take k)) (GU x) (by simp only[DC,Jr,Ej,Hf];omega);have s0:=IV _ 0 0 _ _ [sD (Jr++Jn (l.take k))] (sD (Jr++Jn (l.take k)++GU x)) j (by simp) rfl rfl;simp only[Zj]at s0;simp only[G6 (show(k:Int)<l.length by omega),AU,Bd,Bv,y,ld,al,A7,st,i,QbR x o,J,K,B,Jek,s,ad,s0,G5 k (by omega)];rw[FV Jr];rfl
   ·exact Hw (by simp)
   ·rw[Ee (by omega)];exact JX a.2) (fun H a=>by
   rw[II]at a;refine⟨_,?_,?_,H,rfl,a⟩
   ·rw[Jan];simp only[Me (show¬(l.length:Int)<l.length by omega),AU,Bd,BF,BC]
   ·intro e;cases e) (by omega) (H:=H) ⟨by simpa[Jn]using F,w⟩
 obtain⟨x,i,E,rfl,v⟩:=loop;exact⟨E,i,v⟩
def Yj(x:S4):Prop:=x.a.length<=1048576/\x.b.length<=1048576/\x.c.length<=1048576/\x.d.length<=1048576/\(KD (Gi x)).length<=1048576
instance (x:S4):Decidable (Yj x):=by unfold Yj;infer_instance
def Te{x:S4}(h:Yj x):QJ (Gi x):=⟨by simp[Gi],fun y a=>by
 obtain⟨e,d,c,b,_⟩:=h;simp only[Gi,FY,QZ,or_false]at a;rcases a with rfl|rfl|rfl|rfl<;>exact⟨by simp,by simp,by assumption⟩⟩
def Yg:Ac D->Af D:=F1 Bs fun x=>if Yj x then some (.tup [sD (KD (Gi x)),iD 0])else none
def Jtp(x:S4)(H:Ae):Ak yF [Uh x] H=some (bD true,H):=by rfl
def Qd6:Hr Aa 28 Yg:=JhB Qdx fun ds d a=>by
 unfold Yg F1 at a;split at a
 case h_2=>cases a
 obtain⟨x,C,a⟩:=Bi.1 a;split at a
 case isFalse=>cases a
 rename_i i;cases a;have k:=Te i;obtain⟨_,_,_,_,b⟩:=i;refine⟨[Uh x],?_⟩;have j:Uh x=D9 (Gi x):=rfl;have w:(Gi x).length=4:=rfl;have g:=Jtp x;rw[j]at g;generalize R:Gi x=l at*;have F:BX 9 [CS] []=some (.hp 0 0,[KU []]):=rfl;have O:BX 34 [iD 0] [KU []]=some (.hp 1 0,[KU [],QF]):=rfl;have z:=Jjf l k [KU [],QF];have B:(Lr l).length<=999990:=by
  have S:=Pp l k;have U:=uW (OG l);have T:=wS (DL l l.length) 4;simp only[Lr,DC,KS,Ej,Hf];omega
 have ad:Ag .int .add (iD 7) (iD (Lr l).length)=some (iD ((7+(Lr l).length+(DL l 0-7):Nat):Int)):=by
  rw[YR (by omega) (by omega)];have:DL l 0=7:=rfl;rw[this];congr 3
 have L:Bq .sl (D9 l)=some (iD l.length):=by simp[Bq,OT,D9]
 obtain⟨e,G,u,A⟩:=Jlv l k (by omega) (7+(Lr l).length) (by omega) [KU [],QF] rfl rfl;have h:=JbL l l.length (BQ _);rw[II]at h;have n:(7+(Lr l).length+(DL l l.length-7))=(KD l).length:=by
  simp only[KD,DC,Jr,Ej,Hf];omega
 have D:Ag .int .leq (iD ((7+(Lr l).length+(DL l l.length-7):Nat):Int)) (iD 1048576)=some (bD true):=by
  rw[Ve,CZ (by rw[n];omega)]
 have s0:=IV e 0 0 _ _ [sD []] (sD Jr) u (by simp) rfl rfl;simp only[Zj]at s0;have y:(e.set 0 (KU Jr))[0]? =some (KU Jr):=Hw (CV.1 u).1;have N:(e.set 0 (KU Jr))[1]? =some QF:=by rw[Ee (by omega)];exact A
 obtain⟨o,M,p,K⟩:=Ju4 l k (by omega) (iD ((7+(Lr l).length+(DL l l.length-7):Nat):Int)) (iD l.length) (e.set 0 (KU Jr)) y N (by rw[<-h];simp only[KD,DC,Jr,Ej,Hf]at b;omega);have P:=Gs o 0 _ _ _ _ p;have E:=Jjf l k o;have I:=Gb (Jr++Jn l) (Lr l) (by simp only[KD,DC]at b⊢;omega);have v:=IV o 0 0 _ _ [sD (Jr++Jn l)] (sD (Jr++Jn l++Lr l)) p (by simp) rfl rfl;simp only[Zj]at v;have r:(o.set 0 (.cells 9 1 [sD (Jr++Jn l++Lr l)]))[1]? =some QF:=by rw[Ee (by omega)];exact K
 have s:=IV _ 1 0 _ _ [iD 0] (iD 0) r (by simp) rfl rfl;simp only[Zj]at s;generalize m:(o.set 0 (.cells 9 1 [sD (Jr++Jn l++Lr l)])).set 1 (.cells 34 1 [iD 0])=c at*;have H:Ai none c (.hp 0 0)=some (sD (KD l)):=by
  refine Gs c 0 9 1 _ [] ?_;rw[<-m,Ee (by omega),Hw (CV.1 p).1];rfl
 have J:Ai none c (.hp 1 0)=some (iD 0):=by
  refine Gs c 1 34 1 _ [] ?_;rw[<-m,Hw (CV.1 r).1]
 refine⟨(.tup [sD (KD l),iD 0],c),.tup [sD (KD l),iD 0],.cons (Bs.ok _ _ C) .nil,?_,rfl,AY.refl _⟩;show oG _ _ _ _ _ _ _ [Uh x] []=_;rw[j];rw[JzL];have q:Bh 1 (.hp 0 0) (.v (.string ⟨#[77,85,84,65,82,67,1]⟩)) e=some (.v undef,e.set 0 (KU Jr)):=s0;have Q:(iD ((7+(Lr l).length+(DL l 0-7):Nat):Int))=(iD ((7+(Lr l).length+(DL l 0-7):Nat):Int)):=rfl;simp only[F,A7,O,g,Jek,z,Ue,AU,ad,L,G,Kw,Kv,NJ,NM,D,q,M,P,E,I,v,s];rw[Ju6 c];show Ad (Ai none c (.hp 0 0)) _=_;simp only[H,AU,J]
def Jlx:Bz Aa 28 Yg:=Qd6.ok
section
variable {S S' : Nat → Prop} {w w' : AA} {L L' : Ac (Nat × Nat)}
mutual
theorem Rep.narrow(hL:∀(i:Nat) (p:Nat×Nat),L[i]? =some p->L'[i]? =some p):∀(d:D) (y x:Ap),Rep S L w y d->Rep S' L' w' x d->Rep S' L w' x d
 | .undef,y,x,h,k=>by simp only[Rep]
 | .v z,y,x,h,k=>by simpa only[Rep]using k
 | .sl sz els,y,x,h,k=>by simpa only[Rep]using k
 | .ptr cs,y,x,h,k=>by simpa only[Rep]using k
 | .agg cs,y,x,h,k=>by
  simp only[Rep]at h k⊢;obtain⟨ys,_,h2⟩:=h;obtain⟨xs,k1,k2⟩:=k;exact⟨xs,k1,Au.narrow hL cs ys xs h2 k2⟩
 | .tup cs,y,x,h,k=>by
  simp only[Rep]at h k⊢;obtain⟨ys,_,h2⟩:=h;obtain⟨xs,k1,k2⟩:=k;exact⟨xs,k1,Au.narrow hL cs ys xs h2 k2⟩
 | .hp id off,y,x,h,k=>by
  simp only[Rep]at h k⊢;obtain⟨b,c,h1,_⟩:=h;obtain⟨b',c',k1,k2⟩:=k;rw[hL _ _ h1]at k1;cases k1;exact⟨_,_,h1,k2⟩
 | .hs id n,y,x,h,k=>by
  simp only[Rep]at h k⊢;obtain⟨b,c,h1,_⟩:=h;obtain⟨b',c',k1,k2⟩:=k;rw[hL _ _ h1]at k1;cases k1;exact⟨_,_,h1,k2⟩
 | .ifc t d,y,x,h,k=>by
  simp only[Rep]at h k⊢;obtain⟨z,_,h2⟩:=h;obtain⟨z',k1,k2⟩:=k;exact⟨z',k1,Rep.narrow hL d z z' h2 k2⟩
 | .clo f fs cs,y,x,h,k=>by
  simp only[Rep]at h k⊢;obtain⟨ys,zs,_,h2,h3⟩:=h;obtain⟨ys',zs',k1,k2,k3⟩:=k;exact⟨ys',zs',k1,Au.narrow hL fs ys ys' h2 k2,Au.narrow hL cs zs zs' h3 k3⟩
 | .mp id,y,x,h,k=>by
  simp only[Rep]at h k⊢;obtain⟨b,c,h1,_⟩:=h;obtain⟨b',c',k1,k2⟩:=k;rw[hL _ _ h1]at k1;cases k1;exact⟨_,_,h1,k2⟩
 | .ht id off n,y,x,h,k=>by
  simp only[Rep]at h k⊢;obtain⟨b,c,o,cap,h1,_⟩:=h;obtain⟨b',c',o',cap',k1,k2⟩:=k;rw[hL _ _ h1]at k1;cases k1;exact⟨_,_,_,_,h1,k2⟩
 | .yld id,y,x,h,k=>by
  simp only[Rep]at h k⊢;obtain⟨b,c,h1,_⟩:=h;obtain⟨b',c',k1,k2⟩:=k;rw[hL _ _ h1]at k1;cases k1;exact⟨_,_,h1,k2⟩
 | .mv ks vs,y,x,h,k=>by simpa only[Rep]using k
theorem Au.narrow(hL:∀(i:Nat) (p:Nat×Nat),L[i]? =some p->L'[i]? =some p):∀(ds:Ac D) (ys xs:Ac Ap),Au S L w ys ds->Au S' L' w' xs ds->Au S' L w' xs ds
 |[],ys,xs,h,k=>by simpa only[Au]using k
 |d::r,ys,xs,h,k=>by
  simp only[Au]at h k⊢;obtain⟨y,yr,_,h2,h3⟩:=h;obtain⟨x,xr,k1,k2,k3⟩:=k;exact⟨x,xr,k1,Rep.narrow hL d y x h2 k2,Au.narrow hL r yr xr h3 k3⟩
end
def PO.narrow(q:∀(i:Nat) (p:Nat×Nat),L[i]? =some p->L'[i]? =some p){b c v u:Nat}{o:HO}(h:PO S L w b c o)(k:PO S' L' w' v u o):PO S' L w' v u o:=by
 cases o with
 |cells t sz cs=>
  obtain⟨arr,_,_,_,_,K⟩:=h;obtain⟨a,g,e,f,m,n⟩:=k;refine⟨a,g,e,f,m,fun j d z=> ?_⟩;obtain⟨y,_,_,D⟩:=K j d z;obtain⟨x,F,J,H⟩:=n j d z;exact⟨x,F,J,Rep.narrow q d y x D H⟩
 |map M vs=>
  obtain⟨arr,B,_,_,E⟩:=h;obtain⟨a,l,g,e,f⟩:=k;exact⟨a,l,g,e,Au.narrow q _ _ _ E f⟩
 |loop st N as' O sz kp s=>
  obtain⟨r,_,_,_,_,_,_,I⟩:=h;obtain⟨G,g,e,f,m,n,A,C⟩:=k;exact⟨G,g,e,f,m,n,A,Au.narrow q _ _ _ I C⟩
 |dead=>trivial
end
def BD.cut{B:Nat}{S e:Nat->Prop}{L m:Ac (Nat×Nat)}{w d:AA}{H H':Ae}(h:BD B S L w H)(k:BD B e m d H')(t:Later B S e L m w d)(s:∀i,i<H.length->H'[i]? =H[i]?):BD B e L d H:=by
 have j:=TM t.pre;refine⟨h.len,k.small,k.base,fun id o hid g=> ?_,h.inj⟩;have a:=(CV.1 hid).1;obtain⟨b,c,f,y,v,q⟩:=h.obj id o hid g;obtain⟨x,u,l,n,r,p⟩:=k.obj id o ((s id a).trans hid) g;rw[j _ _ f]at l;cases l;exact⟨b,c,f,n,r,q.narrow j p⟩
def Jn0{P:Aj}{f:CG}{G g:GT}(c:BN P f G)(h:∀ds H d H',g ds H=some (d,H')->H'=H/\EC d=true/\∃b,G ds H=some (d,b)/\∀i,i<H.length->b[i]? =H[i]?):BN P f g:=by
 refine⟨c.body,fun ds H d H' o B S L vs w j l=> ?_⟩;obtain⟨rfl,hp,b,q,m⟩:=h ds H d H' o;refine(c.calls ds _ d b q B S L vs w j l).mono ?_;rintro e r ⟨v,n,s,rfl,p,k,a⟩;exact⟨v,n,L,rfl,(CN d v hp p).lift,j.cut k a m,⟨a.below,a.kept,a.more,eF _,a.only,a.marks⟩⟩
def Jak(P:Aj):Ac Cj:=(74,true,Ak aA)::(76,true,Ak bZ)::[]
def Jt7:∀p∈Jak Aa,Ci Aa p:=AC (Bf JeC)<|AC (Bf Jg1)<|EN
def jA(P:Aj):Tab:=⟨Jak P,BM,[]⟩
def bB:Bg Aa (jA Aa):=CU Jt7
def Jka:Ac Nat:=[]
def JsI(n:Nat)(b c:D)(h:Ae):AB Aa (jA Aa) Jka n f73 [b,c] h=
(Ah (BA 107 b h) fun e a=>
Ad (Ai none a c) fun k=>
Ad (AP 0 e) fun i=>
Ad (Ai (some 3) a i) fun j=>
Ah (Ak aA [k,j] a) fun l g=>
Ad (Ag .int .lss l (iD 0)) fun d=>
some (d,g)):=by kernel_rfl
def Jkk:Ac Nat:=[]
def JmS(n:Nat)(e i:D)(h:Ae):AB Aa (jA Aa) Jkk n f75 [e,i] h=
(Ah (BA 107 e h) fun d g=>
Ad (Ai (some 8) g d) fun l=>
Ah (Ak bZ [l] g) fun k a=>
Ad (Gn k) fun m=>
Az m
(some ((bD true),a))
(AV 4 none a d fun j=>
AV 3 none a i fun o=>
Ad (Bq .sl o) fun b=>
Ad (Ag .int .geq j b) fun c=>
some (c,a))):=by kernel_rfl
def Jgr:Ac Nat:=[]
def JvA(n:Nat)(b a:D)(h:Ae):AB Aa (jA Aa) Jgr n f78 [b,a] h=
(Az b
(some ((iD 0),h))
(some (a,h))):=by kernel_rfl
open Classical in
noncomputable def oD(G:GT)(ds:Ac D)(H:Ae):Af (D×Ae):=
 match G ds H with
 |some (d,a)=>if EC d=true/\∀i,i<H.length->a[i]? =H[i]? then some (d,H)else none
 |none=>none
def Jhw{P:Aj}{f:CG}{G:GT}(b:BN P f G):BN P f (oD G):=Jn0 b fun ds H d H' h=>by
 unfold oD at h;split at h
 case h_2=>cases h
 rename_i g e c;split at h
 case isFalse=>cases h
 rename_i a;cases h;exact⟨rfl,a.1,e,c,a.2⟩
def JdJ{G:GT}{ds:Ac D}{H X:Ae}{d:D}(h:G ds H=some (d,H++X))(hp:EC d=true):oD G ds H=some (d,H):=by
 unfold oD;rw[h];exact Aw ⟨hp,fun i a=>Ii a⟩
end Go.Proofs.YtapdelkomkpgmaaGreatDoor
