import Derived.Test.YtapdelkomkpgmaaGreatDoorQy
namespace Go.Proofs.YtapdelkomkpgmaaGreatDoor
open Go.Proofs.Tryz
open Go.RowKit
set_option maxRecDepth 100000
set_option linter.all false
def UF:Ac D->Af D:=F2 oJ BV fun b e=>some (iD (if b then 0 else e))
def JsH:Bz Aa 78 UF:=GK (kp:=Jgr) bB AX func78 fun b e d h=>by
 cases h
 refine⟨0,iD (if b then 0 else e),?_,AY.refl _⟩;show BB (AB _ _ _ _ _ [bD b,iD e] [])=_;rw[JvA];cases b<;>exact Gu _ _ rfl
def fB(b:Bool)(e:Int)(H:Ae):Ak UF [bD b,iD e] H=some (iD (if b then 0 else e),H):=by
 rw[CP _ _ _ rfl];have:UF [bD b,iD e]=_:=JU (A:=oJ) (B:=BV) _ b e;rw[this];rfl
def MT(P:Aj):GT:=CO P (jA P) Jka 0 73
def Qch:BN Aa 73 (MT Aa):=CQ bB AX func73
noncomputable def aL(P:Aj):GT:=oD (MT P)
def JlV:BN Aa 73 (aL Aa):=Jhw Qch
def Jqx(m:Mu)(l:Ac Dl)(b:Nat)(H:Ae)(g:H[b]? =some (.cells 118 1 [EH l]))(h:X8 l)(hp:m.d.path.length<=3000000)(i:0<=QN l m.d):aL Aa [FX m,.hp b 0] H=some (bD false,H):=by
 refine JdJ (X:=[.cells 107 8 (BL m)]) ?_ rfl;rw[MT,CJ func73,JsI];have a:BA 107 (FX m) H=some (.hp H.length 0,H++[.cells 107 8 (BL m)]):=rfl;have d:Ai none (H++[.cells 107 8 (BL m)]) (.hp b 0)=some (EH l):=D6 _ b 0 _ _ _ _ (JX g) rfl;have c:AP 0 (.hp H.length 0)=some (.hp H.length 0):=rfl;have e:Ai (some 3) (H++[.cells 107 8 (BL m)]) (.hp H.length 0)=some (Em m.d):=by rw[Es,Hz];rfl
 simp only[a,A7,d,AU,c,e,Ja7 l m.d h hp,Me (show¬QN l m.d<0 by omega)]
def iN(P:Aj):GT:=CO P (jA P) Jkk 0 75
def Jua:BN Aa 75 (iN Aa):=CQ bB AX func75
noncomputable def RM(P:Aj):GT:=oD (iN P)
def Jud:BN Aa 75 (RM Aa):=Jhw Jua
def JwV(m:Mu)(c:Cm)(a:Nat)(H:Ae)(h:H[a]? =some (.cells 33 9 (Cf c)))(l:VZ m)(ht:m.test<c.t.length):RM Aa [FX m,.hp a 0] H=some (bD false,H):=by
 refine JdJ (X:=[.cells 107 8 (BL m)]) ?_ rfl;rw[iN,CJ func75,JmS];unfold AV;have b:BA 107 (FX m) H=some (.hp H.length 0,H++[.cells 107 8 (BL m)]):=rfl;have g:Ai (some 8) (H++[.cells 107 8 (BL m)]) (.hp H.length 0)=some (FX m):=by rw[Es,Hz];rfl
 have i:AP 4 (.hp H.length 0)=some (.hp H.length 4):=rfl;have j:Ai none (H++[.cells 107 8 (BL m)]) (.hp H.length 4)=some (iD m.test):=D6 _ _ 4 _ _ _ _ (Hz _ _) rfl;have d:AP 3 (.hp a 0)=some (.hp a 3):=rfl;have k:Ai none (H++[.cells 107 8 (BL m)]) (.hp a 3)=some (BH c.t):=D6 _ a 3 _ _ _ _ (JX h) rfl;have e:Gn (bD true)=some (bD false):=rfl;simp only[b,A7,g,AU,cM m l,e,Bd,BF,BC,i,j,d,k,MG,PQ,Dc (show¬(c.t.length:Int)<=m.test by omega)]
noncomputable def Jec(P:Aj):Ac Cj:=(73,false,aL P)::(75,false,RM P)::[]
def Jya:∀p∈Jec Aa,Ci Aa p:=AC (CB JlV)<|AC (CB Jud)<|EN
noncomputable def Uo(P:Aj):Tab:=⟨Jec P,BM,[]⟩
def Jsk:Bg Aa (Uo Aa):=CU Jya
def yG:Ac Nat:=[0,1,4,7,8]
def Jom(n:Nat)(b c:D)(h:Ae):AB Aa (Uo Aa) yG n f155 [b,c] h=
(Ad (Bq .sl b) fun g=>
Dy (BZ Aa (Uo Aa) yG n f155 0 [b,c,(iD 0),g,(iD 0)] h) (fun e d a=>
CW e 0
(some ((iD (-1)),a))
(none)) (fun d a=>
some ((gD d 2),a))):=by kernel_rfl
def Jee(n:Nat)(s0 b d c a:D)(h:Ae):BK Aa (Uo Aa) yG n f155 0 [s0,b,d,c,a] h=
(Ad (Ag .int .lss a c) fun g=>
Az g
(Ad (BG 8 s0 a) fun i=>
Ad (Ai (some 8) h i) fun k=>
Ah (C9 (Uo Aa) b [k] h) fun j e=>
Az j
(some (.ret,[s0,b,a,c,a],e))
(Ad (Ag .int .add a (iD 1)) fun l=>
some (.normal,[s0,b,d,c,l],e)))
(some ((.exit 0),[s0,b,d,c,a],h))):=by kernel_rfl
noncomputable def uB(P:Aj):GT:=CO P (Uo P) yG 3001 155
def Qah:BN Aa 155 (uB Aa):=CQ Jsk AX func155
def JqS(l:Ac Mu)(cl:D)(H:Ae)(hl:l.length<=3000)(hc:∀m∈l,C9 (Uo Aa) cl [FX m] H=some (bD false,H)):
  uB Aa [DR l,cl] H=some (iD (-1),H):=by
 rw[uB,CJ func155,Jom];have hloop:=Vd (P:=Aa) (T:=Uo Aa) (kp:=yG) (fn:= f155) (i:=0) (fun j=>[DR l,cl,iD 0,iD l.length,iD j]) (fun _=>H) (r:=(.exit 0,[DR l,cl,iD 0,iD l.length,iD l.length],H)) (by intro e;cases e) l.length 3001 (by omega) (fun j hj=>by
  rw[Jee];have i1:BG 8 (DR l) (iD j)=some (.ptr (BL (l[j]'hj))):=KO BL 8 l j hj;have ld:Ai (some 8) H (.ptr (BL (l[j]'hj)))=some (FX (l[j]'hj)):=rfl;simp only[G6 (show(j:Int)<l.length by omega),AU,Bd,Bv,i1,ld,hc _ (Ih hj),A7,BF,BC,G5 j (by omega)];rfl) (by
  rw[Jee];simp only[Me (show¬(l.length:Int)<l.length by omega),AU,Bd,BF,BC])
 have e0:iD ((0:Nat):Int)=iD 0:=rfl;rw[e0]at hloop;simp only[VU,AU];rw[hloop];simp
noncomputable def SF(P:Aj):Tab:=⟨[(155,false,uB P)],BM,[]⟩
def Jsb:Bg Aa (SF Aa):=CU (AC (CB Qah) EN)
def Ja5:Ac Nat:=[]
def Jxx(n:Nat)(b a:D)(h:Ae):AB Aa (SF Aa) Ja5 n f84 [b,a] h=
(Ah (uB Aa [b,a] h) fun e c=>
Ad (Ag .int .geq e (iD 0)) fun d=>
some (d,c)):=by kernel_rfl
def aU:Tab:=⟨[(154,true,Ak P8)],BM,[]⟩
def Jt3:Bg Aa aU:=CU (AC (Bf Mx) EN)
def lI:Ac Nat:=[0,2,5,6]
def Ju1(n:Nat)(b:D)(h:Ae):AB Aa aU lI n f82 [b] h=
(Ad (Bq .sl b) fun e=>
Dy (BZ Aa aU lI n f82 0 [b,(bD false),e,(iD 0)] h) (fun d c a=>
CW d 0
(some ((bD true),a))
(none)) (fun c a=>
some ((gD c 1),a))):=by kernel_rfl
def Jb3(n:Nat)(s0 d b a:D)(h:Ae):BK Aa aU lI n f82 0 [s0,d,b,a] h=
(Ad (Ag .int .lss a b) fun k=>
Az k
(Ad (Ag .int .gtr a (iD 0)) fun l=>
Az l
(Ad (Ag .int .sub a (iD 1)) fun o=>
Ad (BG 8 s0 o) fun m=>
AV 0 (some 3) h m fun p=>
Ad (BG 8 s0 a) fun j=>
AV 0 (some 3) h j fun q=>
Ah (Ak P8 [p,q] h) fun r c=>
Ad (Ag .int .geq r (iD 0)) fun i=>
Az i
(some (.ret,[s0,(bD false),b,a],c))
(Ad (Ag .int .add a (iD 1)) fun e=>
some (.normal,[s0,d,b,e],c)))
(Ad (Ag .int .add a (iD 1)) fun g=>
some (.normal,[s0,d,b,g],h)))
(some ((.exit 0),[s0,d,b,a],h))):=by kernel_rfl
def SG:Ac Mu->Bool
 |a::b::r=>decide (GH a.d b.d<0)&&SG (b::r)
 |_=>true
def aF(l:Ac Mu):Bool:=l.all fun m=>decide (m.d.path.length<=3000000)
theorem JhX:∀(l:Ac Mu) (j:Nat) (h:j+1<l.length),SG l=true->GH (l[j]'(by omega)).d l[j+1].d<0
 |a::b::r,0,h,c=>by
  simp only[SG,DJ,F5]at c;exact c.1
 |a::b::r,j+1,h,c=>by
  simp only[SG,DJ]at c;exact JhX (b::r) j (by simpa using h) c.2
 |[a],j,h,c=>by simp at h
 |[],j,h,c=>by simp at h
def zK:Ac D->Af D:=F1 MF fun l=>if l.length<=100000/\aF l=true/\SG l=true then some (bD true)else none
def aQ(a b:Int):Ag .int .gtr (iD a) (iD b)=some (bD (decide (b<a))):=rfl
def JtH(l:Ac Mu)(n:l.length<=100000)(hp:aF l=true)(c:SG l=true)(j:Nat)(a:j<l.length):
  BK Aa aU lI 100001 f82 0 [DR l,bD false,iD l.length,iD j] []=some (.normal,[DR l,bD false,iD l.length,iD (j+1)],[]):=by
 rw[Jb3];unfold AV;cases j with
 |zero=>
  simp only[G6 (show((0:Nat):Int)<l.length by omega),AU,Bd,Bv,aQ,Dc (show¬(0:Int)<((0:Nat):Int) by omega),BF,BC,G5 0 (by omega)]
 |succ j=>
  have hs:Ag .int .sub (iD ((j+1:Nat):Int)) (iD 1)=some (iD j):=by
   show some (D.v (.int .i64 (IntKind.i64.wrap (((j+1:Nat):Int)-1))))=_;rw[show((j+1:Nat):Int)-1=j from by omega,IntWalk.i64_in _ ⟨by omega,by omega⟩]
  have h:BG 8 (DR l) (iD j)=some (.ptr (BL (l[j]'(by omega)))):=KO BL 8 l j (by omega);have k:BG 8 (DR l) (iD ((j+1:Nat):Int))=some (.ptr (BL l[j+1])):=KO BL 8 l (j+1) a;have g:∀m:Mu,AP 0 (.ptr (BL m))=some (.ptr (BL m)):=fun m=>rfl;have ld:∀m:Mu,Ai (some 3) [] (.ptr (BL m))=some (Em m.d):=fun m=>rfl;have i:=L8 (Ew.1 hp _ (Ih (show j<l.length by omega)));have e:=L8 (Ew.1 hp _ (Ih a));have d:=JhX l j a c;have b:¬(0:Int)<=GH (l[j]'(by omega)).d l[j+1].d:=by omega
  simp only[G6 (show((j+1:Nat):Int)<l.length by omega),AU,Bd,Bv,aQ,CZ (show(0:Int)<((j+1:Nat):Int) by omega),hs,h,k,g,ld,AI _ _ _ i e,A7,PQ,Dc b,BF,BC,G5 (j+1) (by omega)]
def Js7:Bz Aa 82 zK:=FC (kp:=lI) Jt3 AX func82 fun l d h=>by
 split at h
 case isFalse=>cases h
 rename_i k;obtain⟨m,hp,c⟩:=k;cases h;refine⟨100001,bD true,?_,AY.refl _⟩;show BB (AB _ _ _ _ _ [DR l] [])=_;rw[Ju1];have a:=Vd (P:=Aa) (T:=aU) (kp:=lI) (fn:= f82) (i:=0) (fun j=>[DR l,bD false,iD l.length,iD j]) (fun _=>[]) (r:=(.exit 0,[DR l,bD false,iD l.length,iD l.length],[])) (by intro e;cases e) l.length 100001 (by omega) (fun j g=>JtH l m hp c j g) (by
  rw[Jb3];unfold AV;simp only[Me (show¬(l.length:Int)<l.length by omega),AU,Bd,BF,BC])
 have b:iD ((0:Nat):Int)=iD 0:=rfl;rw[b]at a;simp only[VU,AU];rw[a];simp
noncomputable def oL(P:Aj):GT:=CO P (SF P) Ja5 0 84
def JxG:BN Aa 84 (oL Aa):=CQ Jsb AX func84
def Jfz(l:Ac Mu)(cl:D)(H:Ae)(b:l.length<=3000)(a:∀m∈l,C9 (Uo Aa) cl [FX m] H=some (bD false,H)):
  oL Aa [DR l,cl] H=some (bD false,H):=by
 rw[oL,CJ func84,Jxx];have:Ag .int .geq (iD (-1)) (iD 0)=some (bD false):=rfl;simp only[JqS l cl H b a,A7,this,AU]
noncomputable def Jbq(P:Aj):Ac Cj:=(84,false,oL P)::(78,true,Ak UF)::(29,true,Ak Ko)::(35,true,Ak RH)::(82,true,Ak zK)::(57,true,Ak Sj)::[]
def Jwt:∀p∈Jbq Aa,Ci Aa p:=AC (CB JxG)<|AC (Bf JsH)<|AC (Bf tN)<|AC (Bf GD)<|AC (Bf Js7)<|AC (Bf JxR)<|EN
noncomputable def OD(P:Aj):Tab:=⟨Jbq P,BM,[]⟩
def ZW:Bg Aa (OD Aa):=CU Jwt
def Jas:Ac Nat:=[]
def JwH(n:Nat)(a:D)(h:Ae):AB Aa (OD Aa) Jas n f77 [a] h=
(Ad (AP 0 a) fun g=>
Ad (Ai (some 3) h g) fun i=>
Ah (Ak Ko [i] h) fun e c=>
Ad (Ag .int .eql e (iD 0)) fun b=>
Ah (Ak UF [b,(iD 23)] c) fun d j=>
some (d,j)):=by kernel_rfl
def Jjn:Ac Nat:=[]
def JtO(n:Nat)(a:D)(h:Ae):AB Aa (OD Aa) Jjn n f79 [a] h=
(Ad (AP 0 a) fun d=>
AV 0 none h d fun i=>
AV 3 none h a fun e=>
AV 4 none h a fun b=>
Ah (Ak RH [i,e,b] h) fun c g=>
some (c,g)):=by kernel_rfl
def Jev:Ac Nat:=[]
def Jww(n:Nat)(a:D)(h:Ae):AB Aa (OD Aa) Jev n f80 [a] h=
(Ad (AP 5 a) fun e=>
Ad (Ai none h e) fun i=>
Ad (Bq .sl i) fun d=>
Ad (Ag .int .leq d (iD 2000)) fun b=>
Ah (Ak UF [b,(iD 24)] h) fun c g=>
some (c,g)):=by kernel_rfl
def Jis:Ac Nat:=[]
def Jwl(n:Nat)(a:D)(h:Ae):AB Aa (OD Aa) Jis n f81 [a] h=
(Ad (AP 5 a) fun e=>
Ad (Ai none h e) fun i=>
Ah (Ak zK [i] h) fun d c=>
Ah (Ak UF [d,(iD 20)] c) fun b g=>
some (b,g)):=by kernel_rfl
def Jf5:Ac Nat:=[]
def QaW(n:Nat)(a b:D)(h:Ae):AB Aa (OD Aa) Jf5 n f83 [a,b] h=
(Ad (AP 5 a) fun d=>
Ad (Ai none h d) fun e=>
Ad (Ai none h b) fun k=>
Ah (oL Aa [e,k] h) fun g i=>
Ad (Gn g) fun l=>
Ah (Ak UF [l,(iD 17)] i) fun c j=>
some (c,j)):=by kernel_rfl
def vA:Ac Nat:=[]
def QcZ(n:Nat)(a b:D)(h:Ae):AB Aa (OD Aa) vA n f85 [a,b] h=
(Ad (AP 5 a) fun d=>
Ad (Ai none h d) fun e=>
Ad (Ai none h b) fun k=>
Ah (oL Aa [e,k] h) fun g i=>
Ad (Gn g) fun l=>
Ah (Ak UF [l,(iD 21)] i) fun c j=>
some (c,j)):=by kernel_rfl
def Jjb:Ac Nat:=[]
def Jqf(n:Nat)(a:D)(h:Ae):AB Aa (OD Aa) Jjb n f86 [a] h=
(AV 6 (some 3) h a fun d=>
AV 5 none h a fun e=>
Ah (Ak Sj [e] h) fun g j=>
Ad (Ag (.ints 3) .eql d g) fun b=>
Ah (Ak UF [b,(iD 22)] j) fun c i=>
some (c,i)):=by kernel_rfl
section
variable {c : Cm} {a : Nat} {H : Ae}
def JuG(l:Ac Mu)(c:l.length<=100000)(b:aF l=true)(a:SG l=true)(H:Ae):Ak zK [DR l] H=some (bD true,H):=by
 rw[CP _ _ _ rfl];have:zK [DR l]=_:=EO (A:=MF) _ l
 grind
def QbQ(l:Ac Mu)(a:l.length<=100000)(H:Ae):Ak Sj [DR l] H=some (Gl (ER l),H):=by
 rw[CP _ _ _ rfl];have:Sj [DR l]=_:=EO (A:=MF) _ l
 grind
noncomputable def lS(P:Aj):GT:=CO P (OD P) Jas 0 77
def Jrc:BN Aa 77 (lS Aa):=CQ ZW AX func77
def JiM(g:H[a]? =some (.cells 33 9 (Cf c)))(b:c.p.body.length<=3000000):lS Aa [.hp a 0] H=some (iD (if ED c.p=0 then 0 else 23),H):=by
 rw[lS,CJ func77,JwH];have d:AP 0 (.hp a 0)=some (.hp a 0):=rfl;have e:Ai (some 3) H (.hp a 0)=some (Be c.p):=by rw[Es,g];rfl
 simp only[d,AU,e,Jd1 c.p b,A7,TS,fB,F5]
noncomputable def yQ(P:Aj):GT:=CO P (OD P) Jjn 0 79
def Qdo:BN Aa 79 (yQ Aa):=CQ ZW AX func79
def Qbl(b:H[a]? =some (.cells 33 9 (Cf c)))(i:c.t.length<=1000):yQ Aa [.hp a 0] H=some (iD (JJ c.p.params c.t c.f),H):=by
 rw[yQ,CJ func79,JtO];unfold AV;have j:AP 0 (.hp a 0)=some (.hp a 0):=rfl;have e:AP 3 (.hp a 0)=some (.hp a 3):=rfl;have d:AP 4 (.hp a 0)=some (.hp a 4):=rfl;have k:Ai none H (.hp a 0)=some (iD c.p.params):=D6 _ a 0 _ _ _ _ b rfl;have h:Ai none H (.hp a 3)=some (BH c.t):=D6 _ a 3 _ _ _ _ b rfl;have g:Ai none H (.hp a 4)=some (iD c.f):=D6 _ a 4 _ _ _ _ b rfl;simp only[j,e,d,AU,k,h,g,uG _ _ _ i,A7]
noncomputable def Fy(P:Aj):GT:=CO P (OD P) Jev 0 80
def JoJ:BN Aa 80 (Fy Aa):=CQ ZW AX func80
def jW(b:H[a]? =some (.cells 33 9 (Cf c))):Ai none H (.hp a 5)=some (DR c.ms):=D6 _ a 5 _ _ _ _ b rfl
def JsU(d:H[a]? =some (.cells 33 9 (Cf c)))(e:c.ms.length<=2000):Fy Aa [.hp a 0] H=some (iD 0,H):=by
 rw[Fy,CJ func80,Jww];have b:AP 5 (.hp a 0)=some (.hp a 5):=rfl;simp only[b,AU,jW d,VU,Ve,CZ (show(c.ms.length:Int)<=2000 by omega),fB,Bv,A7]
noncomputable def HU(P:Aj):GT:=CO P (OD P) Jis 0 81
def JkY:BN Aa 81 (HU Aa):=CQ ZW AX func81
def QbP(g:H[a]? =some (.cells 33 9 (Cf c)))(h:c.ms.length<=2000)(d:aF c.ms=true)(b:SG c.ms=true):HU Aa [.hp a 0] H=some (iD 0,H):=by
 rw[HU,CJ func81,Jwl];have e:AP 5 (.hp a 0)=some (.hp a 5):=rfl;simp only[e,AU,jW g,JuG c.ms (by omega) d b,fB,Bv,A7]
noncomputable def CH(P:Aj):GT:=CO P (OD P) Jf5 0 83
def JtK:BN Aa 83 (CH Aa):=CQ ZW AX func83
def Jlq{b:Nat}{cl:D}(i:H[a]? =some (.cells 33 9 (Cf c)))(g:Ai none H (.hp b 0)=some cl)(j:c.ms.length<=2000)(e:∀m∈c.ms,C9 (Uo Aa) cl [FX m] H=some (bD false,H)):CH Aa [.hp a 0,.hp b 0] H=some (iD 0,H):=by
 rw[CH,CJ func83,QaW];have d:AP 5 (.hp a 0)=some (.hp a 5):=rfl;have h:Gn (bD false)=some (bD true):=rfl;simp only[d,AU,jW i,g,Jfz c.ms cl H (by omega) e,h,fB,Bv,A7]
noncomputable def Cn(P:Aj):GT:=CO P (OD P) vA 0 85
def Jrg:BN Aa 85 (Cn Aa):=CQ ZW AX func85
def Jy5{b:Nat}{cl:D}(i:H[a]? =some (.cells 33 9 (Cf c)))(g:Ai none H (.hp b 0)=some cl)(j:c.ms.length<=2000)(e:∀m∈c.ms,C9 (Uo Aa) cl [FX m] H=some (bD false,H)):Cn Aa [.hp a 0,.hp b 0] H=some (iD 0,H):=by
 rw[Cn,CJ func85,QcZ];have d:AP 5 (.hp a 0)=some (.hp a 5):=rfl;have h:Gn (bD false)=some (bD true):=rfl;simp only[d,AU,jW i,g,Jfz c.ms cl H (by omega) e,h,fB,Bv,A7]
noncomputable def I1(P:Aj):GT:=CO P (OD P) Jjb 0 86
def JnG:BN Aa 86 (I1 Aa):=CQ ZW AX func86
def Qei(x:KN):Ag (.ints 3) .eql (Gl x) (Gl x)=some (bD true):=by
 simp[Ag,Ug,Gl,He,Sl]
def Qfs(b:H[a]? =some (.cells 33 9 (Cf c)))(h:c.ms.length<=2000)(hs:c.sc=ER c.ms):I1 Aa [.hp a 0] H=some (iD 0,H):=by
 rw[I1,CJ func86,Jqf];unfold AV;have e:AP 5 (.hp a 0)=some (.hp a 5):=rfl;have g:AP 6 (.hp a 0)=some (.hp a 6):=rfl;have d:Ai (some 3) H (.hp a 6)=some (Gl (ER c.ms)):=by rw[Es,b,<-hs];rfl
 simp only[e,g,AU,d,jW b,QbQ c.ms (by omega),Qei,fB,Bv,A7]
end
noncomputable def Jf0(P:Aj):Ac Cj:=(77,false,lS P)::(79,false,yQ P)::(80,false,Fy P)::(81,false,HU P)::(83,false,CH P)::(85,false,Cn P)::(86,false,I1 P)::(68,true,DX Vg)::[]
def Qai:∀p∈Jf0 Aa,Ci Aa p:=AC (CB Jrc)<|AC (CB Qdo)<|AC (CB JoJ)<|AC (CB JkY)<|AC (CB JtK)<|AC (CB Jrg)<|AC (CB JnG)<|AC (Jy cK)<|EN
noncomputable def RX(P:Aj):Tab:=⟨Jf0 P,BM,[]⟩
def Js1:Bg Aa (RX Aa):=CU Qai
def We:Ac Nat:=[8,27,28]
def JmW(n:Nat)(r:D)(h:Ae):AB Aa (RX Aa) We n f21 [r] h=
(Ah (BA 33 r h) fun a q=>
AV 0 (some 3) q a fun u=>
Ah (DX Vg [u] q) fun v x=>
Eo v fun s y=>
Dw 118 [Aq] 1 s x fun w i=>
Dw 145 [BI] 1 (.clo (.func 73) [] [w]) i fun g o=>
Dw 145 [BI] 1 (.clo (.func 75) [] [a]) o fun k j=>
Ad (XX 1 [BI,BI,BI,BI,BI,BI,BI] [(0,(.clo (.func 77) [] [a])),(1,(.clo (.func 79) [] [a])),(2,(.clo (.func 80) [] [a])),(3,(.clo (.func 81) [] [a])),(4,(.clo (.func 83) [] [a,g])),(5,(.clo (.func 85) [] [a,k])),(6,(.clo (.func 86) [] [a]))]) fun l=>
Dw 150 [BI,BI,BI,BI,BI,BI,BI] 7 l j fun e d=>
Ad (Ai (some 7) d e) fun p=>
Dy (BZ Aa (RX Aa) We n f21 0 [(iD 0),p,(iD 0)] d) (fun m c b=>
CW m 0
(some ((gD c 0),b))
(none)) (fun c b=>
some (.undef,b))):=by kernel_rfl
def Th(n:Nat)(s0 b a:D)(h:Ae):BK Aa (RX Aa) We n f21 0 [s0,b,a] h=
(Ad (Ag .int .lss a (iD 7)) fun i=>
Az i
(Ad (XC 7 1 none b a) fun j=>
Ah (C9 (RX Aa) j [] h) fun c d=>
Ad (Ag .int .neq c (iD 0)) fun e=>
Az e
(some ((.exit 0),[c,b,a],d))
(Ad (Ag .int .add a (iD 1)) fun g=>
some (.normal,[c,b,g],d)))
(some ((.exit 0),[s0,b,a],h))):=by kernel_rfl
structure Wq(c:Cm):Prop where
 prog:ED c.p=0
 suite:JJ c.p.params c.t c.f=0
 few:c.ms.length<=2000
 paths:aF c.ms=true
 order:SG c.ms=true
 sites:∀m∈c.ms,0<=QN (Du c.p) m.d
 right:∀m∈c.ms,VZ m
 tests:∀m∈c.ms,m.test<c.t.length
 score:c.sc=ER c.ms
instance (c:Cm):Decidable (Wq c):=decidable_of_iff (ED c.p=0/\JJ c.p.params c.t c.f=0/\c.ms.length<=2000/\aF c.ms=true/\SG c.ms=true/\(∀m∈c.ms,0<=QN (Du c.p) m.d)/\(∀m∈c.ms,VZ m)/\(∀m∈c.ms,m.test<c.t.length)/\c.sc=ER c.ms) ⟨fun⟨h1,h2,h3,h4,h5,h6,h7,h8,h9⟩=>⟨h1,h2,h3,h4,h5,h6,h7,h8,h9⟩,fun⟨h1,h2,h3,h4,h5,h6,h7,h8,h9⟩=>⟨h1,h2,h3,h4,h5,h6,h7,h8,h9⟩⟩
def UZ:Ac D->Af D:=F1 OV fun c=>if c.p.body.length<=3000000/\c.t.length<=1000 then(if Wq c then some (iD 0)else if ED c.p≠0 then some (iD 23)else none)else none
def JaW(c:Cm):D:= .clo (.func 73) [] [.hp 1 0]
def xS(c:Cm):D:= .clo (.func 75) [] [.hp 0 0]
def Ls:Ac D:=[.clo (.func 77) [] [.hp 0 0],.clo (.func 79) [] [.hp 0 0],.clo (.func 80) [] [.hp 0 0],.clo (.func 81) [] [.hp 0 0],.clo (.func 83) [] [.hp 0 0,.hp 2 0],.clo (.func 85) [] [.hp 0 0,.hp 3 0],.clo (.func 86) [] [.hp 0 0]]
def Nv(c:Cm):Ae:=[.cells 33 9 (Cf c),.cells 118 1 [EH (Du c.p)],.cells 145 1 [JaW c],.cells 145 1 [xS c],.cells 150 7 Ls]
def JfG(c:Cm)(j:c.p.body.length<=3000000)(n:Nat):AB Aa (RX Aa) We n f21 [.agg (Cf c)] []=
  Dy (BZ Aa (RX Aa) We n f21 0 [(iD 0),.agg Ls,(iD 0)] (Nv c)) (fun d b a=>CW d 0 (some ((gD b 0),a)) (none)) (fun b a=>some (.undef,a)):=by
 rw[JmW];unfold Eo AV Dw;have k:BA 33 (.agg (Cf c)) []=some (.hp 0 0,[.cells 33 9 (Cf c)]):=rfl;have e:AP 0 (.hp 0 0)=some (.hp 0 0):=rfl;have g:Ai (some 3) [.cells 33 9 (Cf c)] (.hp 0 0)=some (Be c.p):=rfl;have h:∀(x y:D),DN (.tup [x,y]) 0=some x:=fun _ _=>rfl;have i:∀(x y:D),DN (.tup [x,y]) 1=some y:=fun _ _=>rfl;simp only[k,A7,e,AU,g,Tp c.p j,h,i];rfl
def Jt4(c:Cm)(j:Nat)(hj:j<7):XC 7 1 none (.agg Ls) (iD j)=some (Ls[j]'hj):=by
 match j,hj with
 |0,_=>rfl
 |1,_=>rfl
 |2,_=>rfl
 |3,_=>rfl
 |4,_=>rfl
 |5,_=>rfl
 |6,_=>rfl
def JxH(c:Cm)(h:Wq c)(hb:c.p.body.length<=3000000)(ht:c.t.length<=1000)(j:Nat)(hj:j<7):C9 (RX Aa) (Ls[j]'hj) [] (Nv c)=some (iD 0,Nv c):=by
 have ha:(Nv c)[0]? =some (.cells 33 9 (Cf c)):=rfl
 match j,hj with
 |0,_=>
  show lS Aa [.hp 0 0] (Nv c)=_;rw[JiM ha hb,Aw h.prog]
 |1,_=>
  show yQ Aa [.hp 0 0] (Nv c)=_;rw[Qbl ha ht,h.suite]
 |2,_=>exact JsU ha h.few
 |3,_=>exact QbP ha h.few h.paths h.order
 |4,_=>
  exact Jlq (b:=2) (cl:=JaW c) ha rfl h.few fun m hm=>Jqx m (Du c.p) 1 (Nv c) rfl (JhO c.p) (L8 (Ew.1 h.paths m hm)) (h.sites m hm)
 |5,_=>
  exact Jy5 (b:=3) (cl:=xS c) ha rfl h.few fun m hm=>JwV m c 0 (Nv c) ha (h.right m hm) (h.tests m hm)
 |6,_=>exact Qfs ha h.few h.score
def K7:Bz Aa 21 UZ:=FC (kp:=We) Js1 AX func21 fun c d h=>by
 split at h
 case isFalse=>cases h
 rename_i g;obtain⟨b,ht⟩:=g;by_cases k:Wq c
 ·rw[Aw k]at h;cases h;refine⟨8,iD 0,?_,AY.refl _⟩;show BB (AB _ _ _ _ _ [.agg (Cf c)] [])=_;rw[JfG c b];have a:=Vd (P:=Aa) (T:=RX Aa) (kp:=We) (fn:= f21) (i:=0) (fun j=>[iD 0,.agg Ls,iD j]) (fun _=>Nv c) (r:=(.exit 0,[iD 0,.agg Ls,iD 7],Nv c)) (by intro e;cases e) 7 8 (by omega) (fun j l=>by
   rw[Th];have n:Ag .int .neq (iD 0) (iD 0)=some (bD false):=rfl;simp only[G6 (show(j:Int)<7 by omega),AU,Bd,Bv,Jt4 c j l,JxH c k b ht j l,A7,n,BF,BC,G5 j (by omega)];rfl) (by
   rw[Th];have q:Ag .int .lss (iD ((7:Nat):Int)) (iD 7)=some (bD false):=rfl;simp only[q,AU,Bd,BF,BC];rfl)
  have m:iD ((0:Nat):Int)=iD 0:=rfl;rw[m]at a;rw[a];exact Gu _ _ rfl
 ·rw[Am k]at h;split at h
  case isFalse=>cases h
  rename_i s;cases h;refine⟨8,iD 23,?_,AY.refl _⟩;show BB (AB _ _ _ _ _ [.agg (Cf c)] [])=_;rw[JfG c b];have hs:BK Aa (RX Aa) We 8 f21 0 [iD 0,.agg Ls,iD 0] (Nv c)=some (.exit 0,[iD 23,.agg Ls,iD 0],Nv c):=by
   rw[Th];have q:Ag .int .lss (iD 0) (iD 7)=some (bD true):=rfl;have o:XC 7 1 none (.agg Ls) (iD 0)=some (.clo (.func 77) [] [.hp 0 0]):=rfl;have t:C9 (RX Aa) (.clo (.func 77) [] [.hp 0 0]) [] (Nv c)=some (iD 23,Nv c):=by
    show lS Aa [.hp 0 0] (Nv c)=_;rw[JiM (c:=c) rfl b,Am s]
   have p:Ag .int .neq (iD 23) (iD 0)=some (bD true):=rfl;simp only[q,AU,Bd,Bv,o,t,A7,p]
  have u:BZ Aa (RX Aa) We 8 f21 0 [iD 0,.agg Ls,iD 0] (Nv c)=some (.exit 0,[iD 23,.agg Ls,iD 0],Nv c):=aY hs (by intro e;cases e);rw[u];exact Gu _ _ rfl
def Jyz{c:Cm}(h:Wq c)(a:c.p.body.length<=3000000)(ht:c.t.length<=1000)(H:Ae):Ak UZ [.agg (Cf c)] H=some (iD 0,H):=by
 rw[CP _ _ _ rfl];have:UZ [.agg (Cf c)]=_:=EO (A:=OV) _ c
 grind
def Yd:Ac Nat:=[1,5,26,27,28,43,44,45]
def JtC(n:Nat)(H:D)(h:Ae):AB Aa (SA Aa) Yd n f8 [H] h=
(Ah (BA 25 H h) fun l G=>
Ad (Ai (some 3) G l) fun N=>
Ah (Ak Ko [N] G) fun F p=>
Ad (Ag .int .neq F (iD 0)) fun L=>
Az L
(some (.tup [CS,F],p))
(Ah ((OB Aa) [] p) fun K m=>
Ad (AP 0 l) fun I=>
Ad (Ai none m I) fun M=>
Ah ((Zy Aa) [K,M] m) fun s d=>
Ad (AP 1 l) fun c=>
Ad (Ai none d c) fun v=>
Ad (Bq .sl v) fun C=>
Ah ((Zy Aa) [s,C] d) fun E k=>
Eb I (some p) (some m)
(Eb c (some p) (some m)
(Eb c (some m) (some d)
(AV 1 none k l fun i=>
Ad (Bq .sl i) fun r=>
Dy (BZ Aa (SA Aa) Yd n f8 0 [l,E,i,r,(iD 0),.undef,.undef,.undef] k) (fun u a b=>
CW u 0
(AV 2 none b (gD a 0) fun w=>
Ad (Bq .sl w) fun B=>
Ah ((Zy Aa) [(gD a 1),B] b) fun J o=>
AV 2 none o (gD a 0) fun g=>
Ad (Bq .sl g) fun z=>
Dy (BZ Aa (SA Aa) Yd n f8 1 [(gD a 0),(gD a 1),(gD a 2),(gD a 3),(gD a 4),g,z,(iD 0)] o) (fun y j e=>
CW y 2
(Ah ((NS Aa) [(gD j 1)] e) fun q x=>
some (.tup [q,(iD 0)],x))
(none)) (fun j e=>
some (.tup [.undef,.undef],e)))
(none)) (fun a b=>
some (.tup [.undef,.undef],b))))))):=by kernel_rfl
def Jjv(n:Nat)(s0 b d c a g e i:D)(h:Ae):BK Aa (SA Aa) Yd n f8 0 [s0,b,d,c,a,g,e,i] h=
(Ad (Ag .int .lss a c) fun k=>
Az k
(Ad (BG 1 d a) fun l=>
Ad (Ai none h l) fun o=>
Ad (Dk .u8 o) fun m=>
Ah ((Uu Aa) [b,m] h) fun q p=>
Ad (Ag .int .add a (iD 1)) fun j=>
some (.normal,[s0,b,d,c,j,g,e,i],p))
(some ((.exit 0),[s0,b,d,c,a,g,e,i],h))):=by kernel_rfl
def FA(n:Nat)(s0 b i k j e d c:D)(h:Ae):BK Aa (SA Aa) Yd n f8 1 [s0,b,i,k,j,e,d,c] h=
(Ad (Ag .int .lss c d) fun F=>
Az F
(Ce 2 (some 2) h e c fun G=>
Dw 44 [(iD 0),(iD 0)] 2 G h fun o z=>
AV 0 none z o fun H=>
Ad (Dk .u8 H) fun E=>
Ah ((Uu Aa) [b,E] z) fun C g=>
AV 0 none g o fun m=>
Ah (Ak FL [m] g) fun y v=>
Eo y fun q u=>
Dw 71 [BI,BI] 2 q v fun r a=>
Az u
(AV 0 none a r fun s=>
AV 1 none a o fun w=>
Ah (C9 (SA Aa) s [b,w] a) fun B x=>
Ad (Ag .int .add c (iD 1)) fun p=>
some (.normal,[s0,b,i,k,j,e,d,p],x))
(Ad (Ag .int .add c (iD 1)) fun l=>
some (.normal,[s0,b,i,k,j,e,d,l],a)))
(some ((.exit 2),[s0,b,i,k,j,e,d,c],h))):=by kernel_rfl
def PB(p:Pg):Prop:=∀x∈p.body,M6 x.2
def eY(p:Pg):Bool:=p.body.all fun x=>decide (-9223372036854775808<=x.2/\x.2<=9223372036854775807)
def Qb7{p:Pg}(h:eY p=true):PB p:=fun x a=>by
 have:=Ew.1 h x a;have b: -9223372036854775808<=x.2/\x.2<=9223372036854775807:=L8 this;exact b
def JuA(x:Nd)(h:0<=ar x)(c:M6 x.2):zF x:=by
 obtain⟨t,n⟩:=x;unfold ar at h;unfold M6 at c;simp only at h c;have ht:1<=t/\t<=26:=by
  by_cases a:t<1
  ·exfalso;rw[Am (by omega)]at h;have g:EF t n=(-1,-1):=by
    unfold EF
    repeat (first|rfl|rw[Am (by omega)])
   grind
  ·by_cases i:26<t
   ·exfalso;rw[Am (by omega)]at h;have g:EF t n=(-1,-1):=by
     unfold EF
     repeat (first|rfl|rw[Am (by omega)])
    grind
   omega
 refine⟨by omega,by omega,?_,fun _=>c,?_⟩
 ·intro f;have a:t≠1:=by intro e;subst e;simp[Jf]at f
  have:=JaT (t,n) (by unfold ar;exact h) a;exact this
 ·intro b d;have a:t≠1:=by intro e;subst e;simp[Jf]at d
  have f:¬(t=2\/t=3\/t=4\/t=20\/t=21\/t=22):=by
   intro e;apply b;unfold Jf;omega
  rw[Am a]at h;have g:(EF t n).1<=0:=by
   unfold EF;rw[Am (by omega),Am (by omega),Am (by omega),Am (by omega)]
   repeat' split
   all_goals simp
   all_goals omega
  omega
def Qba{l:Ac Nd}(h:I4 l=0):l.length<=200/\∀x∈l,0<=ar x:=by
 unfold I4 at h;split at h
 ·cases h
 split at h
 ·cases h
 rename_i d;split at h
 ·cases h
 rename_i b;refine⟨by omega,fun x c=> ?_⟩;have a:QM l=false:=by simpa using b
 unfold QM at a
 grind
def Jk8{p:Pg}(h:KL p=0):0<=p.params/\p.params<=p.vars.length/\p.vars.length<=12/\∀v∈p.vars,0<=v/\v<=9:=by
 unfold KL at h;split at h
 ·rename_i a;unfold zB at a;simp only[DJ,F5]at a;refine⟨a.1.1,a.1.2.1,a.1.2.2,fun v c=> ?_⟩;obtain⟨i,b,rfl⟩:=oU.1 c;have:=Ew.1 a.2 i (by simpa using b);rw[G7 _ _ _ b]at this;simp only[RV,F5]at this;omega
 ·cases h
def D4{p:Pg}(h:ED p=0)(i:PB p):vW p:=by
 obtain⟨j,g,_,_⟩:=Y5 h;obtain⟨k,e⟩:=Qba j;obtain⟨c,l,d,b⟩:=Jk8 g;exact⟨⟨c,by omega⟩,⟨d,fun v f=>by have:=b v f;omega⟩,⟨k,fun x a=>JuA x (e x a) (i x a)⟩⟩
def Qes(x:Nd):(ND x).length<=11:=by
 unfold ND;rw[Ej];have b:=(Et x.2).2;have a:=(Et (Ez x.2)).2
 grind
theorem gE:∀l:Ac Nd,(Ho l).length<=11*l.length
 |[]=>by simp[Ho]
 |x::r=>by
  have:=gE r;have h:=Qes x;have e:Ho (x::r)=ND x++Ho r:=by simp[Ho]
  grind
def QaJ(l:Ac Nd)(j:Nat)(h:j<l.length):Ho (l.take (j+1))=Ho (l.take j)++ND l[j]:=by
 rw[Ij h];simp only[Ho,JE,Xx,EP,J7,IX,PT,Lj]
def Jtv{p:Pg}(h:vW p):(G8 p).length<=3000:=by
 have d:=(Et p.params).2;have c:=(Et p.vars.length).2;have b:=(Et p.body.length).2;have a:=gE p.body;have e:=h.vars.1;have f:=h.body.1;simp only[G8,DC,Ju];omega
def Kk(p:Pg):By:=if ED p=0 then G8 p else[]
def UU:Ac D->Af D:=F1 Ef fun p=>if eY p=true/\p.body.length<=3000000 then some (.tup [sD (Kk p),iD (ED p)])else none
def JzG(t:Int)(H:Ae):Ak FL [iD t] H=some (
 if Jf t=2 then .tup [.agg [.clo (.func 37) [] [],.clo (.func 97) [] []],bD true]
 else if Jf t=1 then .tup [.agg [.clo (.func 30) [] [],.clo (.func 98) [] []],bD true]
 else .tup [.agg [BI,BI],bD false],H):=by rfl
def RP(p:Pg):HO:= .cells 25 3 [iD p.params,AL p.vars,A8 p.body]
def wF(p:Pg)(H:Ae)(i:Nat)(h:H[i]? =some (RP p)):Ai none H (.hp i 0)=some (iD p.params)/\Ai none H (.hp i 1)=some (AL p.vars)/\Ai none H (.hp i 2)=some (A8 p.body):=
 ⟨D6 H i 0 _ _ _ _ h rfl,D6 H i 1 _ _ _ _ h rfl,D6 H i 2 _ _ _ _ h rfl⟩
structure O5(p:Pg)(H:Ae)(l:By):Prop where
 box:H[0]? =some (RP p)
 wr:Ea H 1 2 l
def O5.next{p:Pg}{H H':Ae}{l a:By}(h:O5 p H l)(k:Hq 1 H H')(w:Ea H' 1 2 a):O5 p H' a:=by
 have b:0<H.length:=(CV.1 h.box).1;exact⟨((k.2 0 b (by omega) (h.wr.notRow 0 (.inl (by omega)))).1).trans h.box,w⟩
def Qb6(p:Pg)(H:Ae)(l:By)(N:Nat)(o:p.vars.length<N)(q:p.vars.length<=12)(s:l.length<=1000)(h:O5 p H l)(a b c:D):
  ∃r,BZ Aa (SA Aa) Yd N f8 0 [.hp 0 0,.hp 1 0,AL p.vars,iD p.vars.length,iD 0,a,b,c] H=some r/\∃H',r=(.exit 0,[.hp 0 0,.hp 1 0,AL p.vars,iD p.vars.length,iD p.vars.length,a,b,c],H')/\O5 p H' (l++p.vars.map b8):=by
 refine NT (fun j=>[.hp 0 0,.hp 1 0,AL p.vars,iD p.vars.length,iD j,a,b,c]) (fun j H=>O5 p H (l++(p.vars.take j).map b8)) _ p.vars.length N ?_ ?_ o (H:=H) (by simpa using h)
 ·intro j H g d;have m:(j:Int)<p.vars.length:=by omega
  have k:=Jj (j:Int) 1 (by omega) (by omega);obtain⟨H',n,w2,w3⟩:=ZP H 1 2 _ (b8 p.vars[j]) d.wr (by simp;omega);refine⟨H',?_,?_⟩
  ·rw[Jjv];have i:=UG .i64 p.vars[j];simp[m,GY _ _ g,i,n,k]
  ·have e:l++(p.vars.take (j+1)).map b8=l++(p.vars.take j).map b8++[b8 p.vars[j]]:=by rw[Ij g];simp only[JE,EP,J7,FV]
   rw[e];exact d.next w3 w2
 ·intro H d;refine⟨_,by rw[Jjv];simp,(by intro e;cases e),H,rfl,?_⟩
  grind
def Jq2(p:Pg)(H:Ae)(l:By)(N:Nat)(hN:p.body.length<N)(hb:p.body.length<=200)(hl:l.length<=1000)(hp:∀x∈p.body,zF x)(h:O5 p H l)(d2 d3 X:D):
  ∃r,BZ Aa (SA Aa) Yd N f8 1 [.hp 0 0,.hp 1 0,d2,d3,X,A8 p.body,iD p.body.length,iD 0] H=some r/\∃H',r=(.exit 2,[.hp 0 0,.hp 1 0,d2,d3,X,A8 p.body,iD p.body.length,iD p.body.length],H')/\O5 p H' (l++Ho p.body):=by
 refine NT (fun j=>[.hp 0 0,.hp 1 0,d2,d3,X,A8 p.body,iD p.body.length,iD j]) (fun j H=>O5 p H (l++Ho (p.body.take j))) _ p.body.length N ?_ ?_ hN (H:=H) (by simpa[Ho]using h)
 ·intro j H J K;have Y:(j:Int)<p.body.length:=by omega
  have S:=Jj (j:Int) 1 (by omega) (by omega);have O:=gE (p.body.take j);rw[eG]at O;obtain⟨n1,n2,n3,n4,n5⟩:=hp _ (Ih J);generalize P:p.body[j]=x at*;have G:=K.wr.lt;generalize n:H++[HO.cells 44 2 [iD x.1,iD x.2]]=C;have L:O5 p C (l++Ho (p.body.take j)):=by rw[<-n];exact K.next (Hq.app 1 H _ G) (K.wr.app _)
  have s:C[H.length]? =some (.cells 44 2 [iD x.1,iD x.2]):=by rw[<-n];simp
  have aa:H.length<C.length:=by rw[<-n];simp
  have V:Yz C 1 H.length:=by
   intro t sz q e;have:=K.wr.notRow H.length (.inr (BQ _)) t sz q;rw[<-n,Ii G]at e;exact this e
  have m0:=D6 C H.length 0 _ _ _ _ s rfl;obtain⟨g,w1,w2,w3⟩:=ZP C 1 2 _ (b8 x.1) L.wr (by simp;omega);have d:=L.next w3 w2;obtain⟨k1,k2⟩:=w3.2 H.length aa (by omega) V;have k:g[H.length]? =some (.cells 44 2 [iD x.1,iD x.2]):=k1.trans s;have U:=D6 g H.length 0 _ _ _ _ k rfl;have ab:H.length<g.length:=(CV.1 k).1;have E:=JzG x.1;have e:l++Ho (p.body.take (j+1))=l++Ho (p.body.take j)++[b8 x.1]++(if Jf x.1=1 then BU x.2 else if Jf x.1=2 then BU (Ez x.2)else[]):=by rw[QaJ _ _ J,P];simp[ND]
  rw[e];have B:BX 44 [iD 0,iD 0] H=some (.hp H.length 0,H++[.cells 44 2 [iD 0,iD 0]]):=rfl;have z:Bh 2 (.hp H.length 0) (.agg (Cb x)) (H++[.cells 44 2 [iD 0,iD 0]])=some (.v undef,C):=by
   rw[<-n];simp[Bh,FI,Cb]
  have hu:=UG .i64 x.1;have o:∀(a b:D) (bb:Bool),Df a=true->Df b=true->∃c,(BX 71 [BI,BI] g=some (.hp g.length 0,g++[.cells 71 2 [BI,BI]]))/\
    Bh 2 (.hp g.length 0) (.agg [a,b]) (g++[.cells 71 2 [BI,BI]])=some (.v undef,c)/\c=g++[.cells 71 2 [a,b]]:=by
   intro a b bb ha hb;exact⟨_,rfl,by simp[Bh,FI,ha,hb],rfl⟩
  by_cases u:Jf x.1=2
  ·obtain⟨c,F,M,y⟩:=o (.clo (.func 37) [] []) (.clo (.func 97) [] []) true rfl rfl;have m:O5 p c (l++Ho (p.body.take j)++[b8 x.1]):=by rw[y];exact d.next (Hq.app 1 g _ d.wr.lt) (d.wr.app _)
   have hf:c[g.length]? =some (.cells 71 2 [.clo (.func 37) [] [],.clo (.func 97) [] []]):=by rw[y];simp
   have w:c[H.length]? =some (.cells 44 2 [iD x.1,iD x.2]):=by grind
   have l2:=D6 c g.length 0 _ _ _ _ hf rfl;have Z:=D6 c H.length 1 _ _ _ _ w rfl;obtain⟨I,W,T,Q⟩:=rF c 1 2 _ x.2 (n4 u) m.wr (by simp;omega);have i:C9 (SA Aa) (.clo (.func 37) [] []) [.hp 1 0,iD x.2] c=some (.hp 1 0,I):=W;refine⟨I,?_,?_⟩
   ·rw[FA];unfold Eo AV Ce Dw;rw[Aw u]at E;simp[-Es,Y,Oi _ _ J,P,B,z,m0,hu,w1,U,E,F,M,l2,Z,i,S]
   ·rw[u,Am (by omega),Aw rfl];exact m.next Q T
  ·by_cases v:Jf x.1=1
   ·obtain⟨c,F,M,y⟩:=o (.clo (.func 30) [] []) (.clo (.func 98) [] []) true rfl rfl;have m:O5 p c (l++Ho (p.body.take j)++[b8 x.1]):=by rw[y];exact d.next (Hq.app 1 g _ d.wr.lt) (d.wr.app _)
    have hf:c[g.length]? =some (.cells 71 2 [.clo (.func 30) [] [],.clo (.func 98) [] []]):=by rw[y];simp
    have w:c[H.length]? =some (.cells 44 2 [iD x.1,iD x.2]):=by grind
    have l2:=D6 c g.length 0 _ _ _ _ hf rfl;have Z:=D6 c H.length 1 _ _ _ _ w rfl;have R:=n3 v;obtain⟨I,W,T,Q⟩:=C1 c 1 2 _ x.2 ⟨R.1,by omega⟩ m.wr (by simp;omega);have i:C9 (SA Aa) (.clo (.func 30) [] []) [.hp 1 0,iD x.2] c=some (.hp 1 0,I):=W;refine⟨I,?_,?_⟩
    ·rw[FA];unfold Eo AV Ce Dw;rw[Am u,Aw v]at E;simp[-Es,Y,Oi _ _ J,P,B,z,m0,hu,w1,U,E,F,M,l2,Z,i,S]
    ·rw[Aw v];exact m.next Q T
   ·obtain⟨c,F,M,y⟩:=o BI BI false rfl rfl;have m:O5 p c (l++Ho (p.body.take j)++[b8 x.1]):=by rw[y];exact d.next (Hq.app 1 g _ d.wr.lt) (d.wr.app _)
    refine⟨c,?_,?_⟩
    ·rw[FA];unfold Eo AV Ce Dw;rw[Am u,Am v]at E;simp[-Es,Y,Oi _ _ J,P,B,z,m0,hu,w1,U,E,F,M,S]
    grind
 ·intro H K;refine⟨_,by rw[FA];unfold Eo AV Ce Dw;simp,(by intro e;cases e),H,rfl,?_⟩
  grind
theorem Je3 : Bz Aa 8 UU := FC (kp := Yd) Jm4 AX func8 fun p d h => by
  split at h
  case isFalse => cases h
  rename_i hp
  obtain ⟨hin, hp⟩ := hp
  cases h
  refine ⟨300, _, ?_, AY.refl _⟩
  show BB (AB _ _ _ _ _ [Be p] []) = _
  rw [JtC]; unfold AV
  have ep : D.agg [iD p.params, AL p.vars, A8 p.body] = Be p := rfl
  have hbox : BA 25 (Be p) [] = some (.hp 0 0, [RP p]) := rfl
  have hld : Ai (some 3) [RP p] (.hp 0 0) = some (Be p) := rfl
  have hck := Jd1 p hp [RP p]
  unfold Kk
  by_cases hz : ED p = 0
  · obtain ⟨⟨a1, a2⟩, ⟨a3, a4⟩, ⟨a5, a6⟩⟩ := D4 hz (Qb7 hin)
    have hnew : OB Aa [] [RP p] = some (.hp 1 0, [RP p] ++ [.cells 164 1 [Aq]]) := VT [RP p]
    have hI0 : O5 p ([RP p] ++ [.cells 164 1 [Aq]]) [] := ⟨rfl, Wy [RP p]⟩
    generalize hH7 : [RP p] ++ [HO.cells 164 1 [Aq]] = H7 at *
    obtain ⟨l0, l1, l2⟩ := wF p H7 0 hI0.box
    obtain ⟨H11, w1, w2, w3⟩ := C1 H7 1 2 [] p.params ⟨a1, by omega⟩ hI0.wr (by simp)
    have hI1 := hI0.next w3 w2
    obtain ⟨l3, l4, l5⟩ := wF p H11 0 hI1.box
    have q1 := (Et p.params).2
    have q2 := (Et p.vars.length).2
    have q3 := (Et p.body.length).2
    obtain ⟨H16, v1, v2, v3⟩ := C1 H11 1 2 _ (p.vars.length : Int) ⟨by omega, by omega⟩ hI1.wr (by simp; omega)
    have hI2 := hI1.next v3 v2
    obtain ⟨l6, l7, l8⟩ := wF p H16 0 hI2.box
    obtain ⟨r1, c1, H22, rfl, hI3⟩ := Qb6 p H16 _ 300 (by omega) a3 (by simp; omega) hI2 .undef .undef .undef
    obtain ⟨l9, l10, l11⟩ := wF p H22 0 hI3.box
    obtain ⟨H27, u1, u2, u3⟩ := C1 H22 1 2 _ (p.body.length : Int) ⟨by omega, by omega⟩ hI3.wr (by simp; omega)
    have hI4 := hI3.next u3 u2
    obtain ⟨l12, l13, l14⟩ := wF p H27 0 hI4.box
    obtain ⟨r2, c2, H33, rfl, hI5⟩ := Jq2 p H27 _ 300 (by omega) a5 (by simp; omega) a6 hI4 (AL p.vars) (iD p.vars.length) (iD p.vars.length)
    have hby := Xh H33 1 2 _ hI5.wr
    have s1 : ∀ (o : Nat) (k : Af (D × Ae)), Eb (.hp 0 o) (some [RP p]) (some H7) k = k := fun o k => Pe 0 o _ _ 25 3 [iD p.params, AL p.vars, A8 p.body] k rfl (hI0.box.trans rfl) (by simp)
    have s2 : ∀ (o : Nat) (k : Af (D × Ae)), Eb (.hp 0 o) (some H7) (some H11) k = k := fun o k => Pe 0 o _ _ 25 3 [iD p.params, AL p.vars, A8 p.body] k hI0.box (hI1.box.trans hI0.box.symm) (by simp)
    have henc : [] ++ BU p.params ++ BU ↑p.vars.length ++ p.vars.map b8 ++ BU ↑p.body.length ++ Ho p.body = G8 p := by simp [G8]
    rw [henc] at hby
    rw [Aw hz]
    simp [-Es, hbox, hld, hck, hz, hnew, l0, w1, l4, v1, s1, s2, l7, c1, l11, u1, l14, c2, hby]
  · rw [Am hz]
    simp [-Es, hbox, hld, hck, hz, uP]

def dP:Ac Nat:=[2,3,4,14,15,16]
def Qav(n:Nat)(m:D)(h:Ae):AB Aa (Uf Aa) dP n f27 [m] h=
(Ah (BA 31 m h) fun i p=>
Ah ((OB Aa) [] p) fun q d=>
AV 0 none d i fun r=>
AV 1 none d i fun o=>
AV 2 none d i fun s=>
Ah (DI 3 1 3 [(iD 0)] [(0,r),(1,o),(2,s)] d) fun c k=>
Ad (Bq .sl c) fun e=>
Dy (BZ Aa (Uf Aa) dP n f27 0 [CS,(iD 0),q,c,e,(iD 0)] k) (fun g a b=>
CW g 0
(Ah ((NS Aa) [(gD a 2)] b) fun l j=>
some (.tup [l,(iD 0)],j))
(none)) (fun a b=>
some (.tup [(gD a 0),(gD a 1)],b))):=by kernel_rfl
def Jcz(n:Nat)(s0 e d c b a:D)(h:Ae):BK Aa (Uf Aa) dP n f27 0 [s0,e,d,c,b,a] h=
(Ad (Ag .int .lss a b) fun i=>
Az i
(Ad (BG 1 c a) fun j=>
Ad (Ai none h j) fun g=>
Ad (Ag .int .lss g (iD 0)) fun k=>
Az k
(some (.ret,[CS,(iD 22),d,c,b,a],h))
(Ad (Ag .int .gtr g (iD 2000)) fun l=>
Az l
(some (.ret,[CS,(iD 22),d,c,b,a],h))
(Ad (Dk .u64 g) fun o=>
Ah ((Kq Aa) [d,o] h) fun q m=>
Ad (Ag .int .add a (iD 1)) fun p=>
some (.normal,[s0,e,d,c,b,p],m))))
(some ((.exit 0),[s0,e,d,c,b,a],h))):=by kernel_rfl
def wK(x:KN):Prop:=(0<=x.a/\x.a<=2000)/\(0<=x.b/\x.b<=2000)/\(0<=x.c/\x.c<=2000)
instance (x:KN):Decidable (wK x):=by unfold wK;exact inferInstance
def Lm(x:KN):By:=BU x.a++BU x.b++BU x.c
structure kB(x:KN)(pre:By)(H:Ae):Prop where
 wr:Ea H 1 2 pre
 row:H[2]? =some (.cells 3 1 (He x))
 no:Yz H 1 2
def Ys(x:KN)(pre:By)(j:Nat)(m:j<3)(n:Int)(d:0<=n/\n<=2000)(g:(He x)[j]? =some (iD n))(H:Ae)(hp:pre.length<=100)(a:kB x pre H):
  ∃H',BK Aa (Uf Aa) dP 9 f27 0 [sD [],iD 0,.hp 1 0,.hs 2 3,iD 3,iD j] H=some (.normal,[sD [],iD 0,.hp 1 0,.hs 2 3,iD 3,iD (j+1)],H')/\kB x (pre++BU n) H':=by
 obtain⟨H',q,l,p⟩:=Ob H 1 2 pre n ⟨d.1,by omega⟩ a.wr (by omega);have b:=(CV.1 a.row).1;obtain⟨k,e⟩:=p.2 2 b (by decide) a.no;refine⟨H',?_,l,k.trans a.row,e⟩;rw[Jcz];have o:BG 1 (.hs 2 3) (iD j)=some (.hp 2 j):=by
  have i:IC (iD j)=some j:=by simp[IC]
  simp only[BG,i,BR];rw[Aw m,Ze]
 have c:Ai none H (.hp 2 j)=some (iD n):=by
  rw[IM a.row];show((He x).drop j)[0]? =_;rw[pM,MZ,g]
 have h:Ag .int .gtr (iD n) (iD 2000)=some (bD false):=by show some (bD (decide _))=_;rw[Dc (by omega)]
 have u:Dk .u64 (iD n)=some (BO n):=Nz _ _ d.1 (by omega);simp only[G6 (show(j:Int)<3 by omega),Me (show¬n<0 by omega),h,AU,Bd,Bv,BF,BC,o,c,u,q,A7,G5 j (by omega)]
def sH:Ac D->Af D:=F1 Xg fun x=>if wK x then some (.tup [sD (Lm x),iD 0])else none
def JwY:Bz Aa 27 sH:=FC (kp:=dP) Ta AX func27 fun x d h=>by
 split at h
 case isFalse=>cases h
 rename_i y;cases h;obtain⟨H,s,o⟩:=y;have m:=Wy [.cells 31 3 (He x)];have k:kB x [] ([.cells 31 3 (He x)]++[.cells 164 1 [Aq]]++[.cells 3 1 (He x)]):=⟨m.app _,rfl,fun t sz q e=>by cases e⟩;obtain⟨z,I,r⟩:=Ys x [] 0 (by decide) x.a H rfl _ (by simp) k;have M:=(Et x.a).2;have N:=(Et x.b).2;obtain⟨E,C,v⟩:=Ys x _ 1 (by decide) x.b s rfl z (by simp only[DC,Hf];omega) r;obtain⟨j,J,n⟩:=Ys x _ 2 (by decide) x.c o rfl E (by simp only[DC,Hf];omega) v;have K:BK Aa (Uf Aa) dP 9 f27 0 [sD [],iD 0,.hp 1 0,.hs 2 3,iD 3,iD 3] j=some (.exit 0,[sD [],iD 0,.hp 1 0,.hs 2 3,iD 3,iD 3],j):=by
  rw[Jcz];simp only[Me (show¬(3:Int)<3 by omega),AU,Bd,BF,BC]
 have a:BZ Aa (Uf Aa) dP 9 f27 0 [sD [],iD 0,.hp 1 0,.hs 2 3,iD 3,iD 0] ([.cells 31 3 (He x)]++[.cells 164 1 [Aq]]++[.cells 3 1 (He x)])=some (.exit 0,[sD [],iD 0,.hp 1 0,.hs 2 3,iD 3,iD 3],j):=
  (IQ I).trans ((IQ C).trans ((IQ J).trans (PP K)))
 have e:Lm x=[]++BU x.a++BU x.b++BU x.c:=rfl;have i:=Xh j 1 2 _ n.wr;rw[<-e]at i;refine⟨9,.tup [sD (Lm x),iD 0],?_,AY.refl _⟩;show BB (AB _ _ _ _ _ [Gl x] [])=_;rw[Qav];unfold AV;have c:BA 31 (Gl x) []=some (.hp 0 0,[.cells 31 3 (He x)]):=rfl;have b:=VT [.cells 31 3 (He x)];have D:Ai none ([.cells 31 3 (He x)]++[.cells 164 1 [Aq]]) (.hp 0 0)=some (iD x.a):=rfl;have G:Ai none ([.cells 31 3 (He x)]++[.cells 164 1 [Aq]]) (.hp 0 1)=some (iD x.b):=rfl;have L:Ai none ([.cells 31 3 (He x)]++[.cells 164 1 [Aq]]) (.hp 0 2)=some (iD x.c):=rfl;have p:AP 0 (.hp 0 0)=some (.hp 0 0):=rfl;have u:AP 1 (.hp 0 0)=some (.hp 0 1):=rfl;have w:AP 2 (.hp 0 0)=some (.hp 0 2):=rfl;have B:DI 3 1 3 [iD 0] [(0,iD x.a),(1,iD x.b),(2,iD x.c)] ([.cells 31 3 (He x)]++[.cells 164 1 [Aq]])=some (.hs 2 3,[.cells 31 3 (He x)]++[.cells 164 1 [Aq]]++[.cells 3 1 (He x)]):=rfl;have g:Bq .sl (.hs 2 3)=some (iD 3):=rfl;have F:(CS)=sD []:=rfl;have l:[HO.cells 31 3 (He x)].length=1:=rfl;rw[F];simp only[c,A7,b,l,p,u,w,AU,D,G,L,B,g];rw[a];simp[i]
def E3(P:Aj):Ac Cj:=(8,true,Ak UU)::(9,true,Ak Xl)::(25,true,Ak rX)::(27,true,Ak sH)::[]
def hO:∀p∈E3 Aa,Ci Aa p:=AC (Bf Je3)<|AC (Bf JbU)<|AC (Bf JlY)<|AC (Bf JwY)<|EN
def Xm(P:Aj):Tab:=⟨E3 P,BM,[]⟩
def GP:Bg Aa (Xm Aa):=CU hO
def Jbr:Ac Nat:=[]
def JwF(n:Nat)(a:D)(h:Ae):AB Aa (Xm Aa) Jbr n f22 [a] h=
(AV 0 (some 3) h a fun g=>
Ah (Ak UU [g] h) fun e c=>
Eo e fun b d=>
some (.tup [b,d],c)):=by kernel_rfl
def Jg5:Ac Nat:=[]
def JmD(n:Nat)(a:D)(h:Ae):AB Aa (Xm Aa) Jg5 n f23 [a] h=
(AV 3 none h a fun i=>
AV 4 none h a fun b=>
Ah (Ak Xl [i,b] h) fun d g=>
Eo d fun c e=>
some (.tup [c,e],g)):=by kernel_rfl
def Jc3:Ac Nat:=[]
def Jmu(n:Nat)(a:D)(h:Ae):AB Aa (Xm Aa) Jc3 n f24 [a] h=
(AV 5 none h a fun g=>
Ah (Ak rX [g] h) fun e c=>
Eo e fun b d=>
some (.tup [b,d],c)):=by kernel_rfl
def Jge:Ac Nat:=[]
def JsG(n:Nat)(a:D)(h:Ae):AB Aa (Xm Aa) Jge n f26 [a] h=
(AV 6 (some 3) h a fun g=>
Ah (Ak sH [g] h) fun e c=>
Eo e fun b d=>
some (.tup [b,d],c)):=by kernel_rfl
def Ku(c:Cm):S4:=⟨G8 c.p,Il c.t c.f,LM c.ms,Lm c.sc⟩
structure TG(c:Cm):Prop where
 good:Wq c
 body:c.p.body.length<=3000000
 tests:c.t.length<=1000
 nums:eY c.p=true
 args:(c.t.all fun l=>l.all Ib)=true
 suite:Xt c.t c.f= .tup [sD (Il c.t c.f),iD 0]
 muts:(c.ms.all fun m=>decide (Q5 m))=true
 mlen:(Kz c.ms).length<=1000000
 score:wK c.sc
 whole:Yj (Ku c)
section
variable {c : Cm} {a : Nat} {H : Ae}
def Hn(P:Aj):GT:=CO P (Xm P) Jbr 0 22
def JsQ:BN Aa 22 (Hn Aa):=CQ GP AX func22
def Qci(h:TG c)(g:H[a]? =some (.cells 33 9 (Cf c))):Hn Aa [.hp a 0] H=some (.tup [sD (Ku c).a,iD 0],H):=by
 rw[Hn,CJ func22,JwF];unfold Eo AV;have b:AP 0 (.hp a 0)=some (.hp a 0):=rfl;have d:Ai (some 3) H (.hp a 0)=some (Be c.p):=by rw[Es,g];rfl
 have e:Ak UU [Be c.p] H=some (.tup [sD (G8 c.p),iD 0],H):=by
  rw[CP _ _ _ rfl];have:UU [Be c.p]=_:=EO (A:=Ef) _ c.p;rw[this,Aw ⟨h.nums,h.body⟩,Kk,Aw h.good.prog,h.good.prog];rfl
 simp only[b,AU,d,e,A7];rfl
def GA(P:Aj):GT:=CO P (Xm P) Jg5 0 23
def Qbi:BN Aa 23 (GA Aa):=CQ GP AX func23
def JsJ(h:TG c)(b:H[a]? =some (.cells 33 9 (Cf c))):GA Aa [.hp a 0] H=some (.tup [sD (Ku c).b,iD 0],H):=by
 rw[GA,CJ func23,JmD];unfold Eo AV;have e:AP 3 (.hp a 0)=some (.hp a 3):=rfl;have d:AP 4 (.hp a 0)=some (.hp a 4):=rfl;have i:Ai none H (.hp a 3)=some (BH c.t):=D6 _ a 3 _ _ _ _ b rfl;have g:Ai none H (.hp a 4)=some (iD c.f):=D6 _ a 4 _ _ _ _ b rfl;simp only[e,d,AU,i,g,JbC _ _ h.tests h.args,h.suite,A7];rfl
def DM(P:Aj):GT:=CO P (Xm P) Jc3 0 24
def JpR:BN Aa 24 (DM Aa):=CQ GP AX func24
def Qaf(h:TG c)(d:H[a]? =some (.cells 33 9 (Cf c))):DM Aa [.hp a 0] H=some (.tup [sD (Ku c).c,iD 0],H):=by
 rw[DM,CJ func24,Jmu];unfold Eo AV;have b:AP 5 (.hp a 0)=some (.hp a 5):=rfl;have e:Ak rX [DR c.ms] H=some (.tup [sD (LM c.ms),iD 0],H):=by
  rw[CP _ _ _ rfl];have:rX [DR c.ms]=_:=EO (A:=MF) _ c.ms;rw[this,Aw ⟨h.good.few,h.muts,h.mlen⟩];rfl
 simp only[b,AU,jW d,e,A7];rfl
def IN(P:Aj):GT:=CO P (Xm P) Jge 0 26
def JoA:BN Aa 26 (IN Aa):=CQ GP AX func26
def JmA(h:TG c)(g:H[a]? =some (.cells 33 9 (Cf c))):IN Aa [.hp a 0] H=some (.tup [sD (Ku c).d,iD 0],H):=by
 rw[IN,CJ func26,JsG];unfold Eo AV;have d:AP 6 (.hp a 0)=some (.hp a 6):=rfl;have b:Ai (some 3) H (.hp a 6)=some (Gl c.sc):=by rw[Es,g];rfl
 have e:Ak sH [Gl c.sc] H=some (.tup [sD (Lm c.sc),iD 0],H):=by
  rw[CP _ _ _ rfl];have:sH [Gl c.sc]=_:=EO (A:=Xg) _ c.sc;rw[this,Aw h.score];rfl
 simp only[d,AU,b,e,A7];rfl
end
noncomputable def Jcv(P:Aj):Ac Cj:=(21,true,Ak UZ)::(22,false,Hn P)::(23,false,GA P)::(24,false,DM P)::(26,false,IN P)::(28,true,Ak Yg)::[]
def Jxp:∀p∈Jcv Aa,Ci Aa p:=AC (Bf K7)<|AC (CB JsQ)<|AC (CB Qbi)<|AC (CB JpR)<|AC (CB JoA)<|AC (Bf Jlx)<|EN
noncomputable def Xb(P:Aj):Tab:=⟨Jcv P,BM,[]⟩
def JxS:Bg Aa (Xb Aa):=CU Jxp
def dD:Ac Nat:=[2,3,5,19,20,21]
def JwO(n:Nat)(k:D)(h:Ae):AB Aa (Xb Aa) dD n f7 [k] h=
(Ah (BA 33 k h) fun d o=>
Ad (Ai (some 9) o d) fun r=>
Ah (Ak UZ [r] o) fun l m=>
Ad (Ag .int .neq l (iD 0)) fun s=>
Az s
(some (.tup [CS,l],m))
(Ah (DI 57 1 4 [BI] [(0,(.clo (.func 22) [] [d])),(1,(.clo (.func 23) [] [d])),(2,(.clo (.func 24) [] [d])),(3,(.clo (.func 26) [] [d]))] m) fun j p=>
Ad (Bq .sl j) fun u=>
Dy (BZ Aa (Xb Aa) dD n f7 0 [CS,(iD 0),Aq,j,u,(iD 0)] p) (fun q a b=>
CW q 0
(Ah (Ak Yg [(gD a 2)] b) fun c e=>
Ad (DN c 0) fun g=>
Ad (DN c 1) fun i=>
some (.tup [g,i],e))
(none)) (fun a b=>
some (.tup [(gD a 0),(gD a 1)],b)))):=by kernel_rfl
def Jmi(n:Nat)(s0 e d c b a:D)(h:Ae):BK Aa (Xb Aa) dD n f7 0 [s0,e,d,c,b,a] h=
(Ad (Ag .int .lss a b) fun q=>
Az q
(Ce 1 none h c a fun u=>
Ah (C9 (Xb Aa) u [] h) fun r o=>
Eo r fun s m=>
Ad (Ag .int .neq m (iD 0)) fun p=>
Az p
(some (.ret,[CS,m,d,c,b,a],o))
(Ad (Ag .int .add a (iD 1)) fun v=>
Ad (CY [(0,1),(1,1)] [(iD 0),CS] [(0,v),(1,s)]) fun w=>
Ah (DI 62 2 1 [(iD 0),CS] [(0,w)] o) fun g k=>
Ah (D5 62 2 d g k) fun i j=>
Ad (Ag .int .add a (iD 1)) fun l=>
some (.normal,[s0,e,i,c,b,l],j)))
(some ((.exit 0),[s0,e,d,c,b,a],h))):=by kernel_rfl
def encs:Ac D:=[.clo (.func 22) [] [.hp 0 0],.clo (.func 23) [] [.hp 0 0],.clo (.func 24) [] [.hp 0 0],.clo (.func 26) [] [.hp 0 0]]
def Ws(x:S4)(j:Nat):Ac D:=(((Gi x).take j).map EK).flatten
structure Fm(c:Cm)(j:Nat)(s:List D)(H:Ae):Prop where
 camp:H[0]? =some (.cells 33 9 (Cf c))
 fun4:H[1]? =some (.cells 57 1 encs)
 len:2<=H.length
 row:∃d,s=[CS,iD 0,d,.hs 1 4,iD 4,iD j]/\Buf 62 2 H 2 d j (Ws (Ku c) j)
def Qbj{c:Cm}(h:TG c){H:Ae}(ha:H[0]? =some (.cells 33 9 (Cf c)))(j:Nat)(hj:j<4):C9 (Xb Aa) (encs[j]'hj) [] H=some (.tup [sD ((Gi (Ku c))[j]'hj).b,iD 0],H):=by
 match j,hj with
 |0,_=>exact Qci h ha
 |1,_=>exact JsJ h ha
 |2,_=>exact Qaf h ha
 |3,_=>exact JmA h ha
def Jyn{H:Ae}(h:H[1]? =some (.cells 57 1 encs))(j:Nat)(hj:j<4):∃y,BG 1 (.hs 1 4) (iD j)=some y/\Ai none H y=some (encs[j]'hj):=by
 match j,hj with
 |0,_=>exact⟨.hp 1 0,rfl,D6 _ 1 0 _ _ _ _ h rfl⟩
 |1,_=>exact⟨.hp 1 1,rfl,D6 _ 1 1 _ _ _ _ h rfl⟩
 |2,_=>exact⟨.hp 1 2,rfl,D6 _ 1 2 _ _ _ _ h rfl⟩
 |3,_=>exact⟨.hp 1 3,rfl,D6 _ 1 3 _ _ _ _ h rfl⟩
def Qbs(x:S4)(j:Nat)(hj:j<4):Ws x (j+1)=Ws x j++[iD ((j:Int)+1),sD ((Gi x)[j]'hj).b]:=by
 match j,hj with
 |0,_=>rfl
 |1,_=>rfl
 |2,_=>rfl
 |3,_=>rfl
def Jyg(x:S4)(j:Nat)(a:j<=4):(Ws x j).length<=8:=by
 match j,a with
 |0,_=>exact(by decide:0<=8)
 |1,_=>exact(by decide:2<=8)
 |2,_=>exact(by decide:4<=8)
 |3,_=>exact(by decide:6<=8)
 |4,_=>exact(by decide:8<=8)
def JpO{c:Cm}(h:TG c)(j:Nat)(hj:j<4)(s:Ac D)(H:Ae)(hI:Fm c j s H):∃s' H',BK Aa (Xb Aa) dD 5 f7 0 s H=some (.normal,s',H')/\Fm c (j+1) s' H':=by
 obtain⟨h0,h1,hl,d,rfl,hb⟩:=hI;obtain⟨y,i1,i2⟩:=Jyn h1 j hj;let new:Ac D:=[iD ((j:Int)+1),sD ((Gi (Ku c))[j]'hj).b];have hr:DI 62 2 1 [iD 0,CS] [(0,.agg new)] H=some (.hs H.length 1,H++[.cells 62 2 new]):=rfl;obtain⟨d',H',a1,a2,a3,_,_⟩:=nN (hb.app [.cells 62 2 new]) (new:=new) (m:=1) (by decide) rfl rfl (by have:=Jyg (Ku c) j (by omega);show _+2<=_;omega) (by simp;omega);have ap:D5 62 2 d (.hs H.length 1) (H++[.cells 62 2 new])=some (d',H'):=by
  have:GV 2 (H++[.cells 62 2 new]) (.hs H.length 1)=some new:=by
   simp only[GV,Hz];rfl
  rw[D5,this];exact a1
 have k0:∀k,k<2->H'[k]? =H[k]? :=fun k hk=>by rw[a3.2 k hk,Ii (by omega)]
 refine⟨[CS,iD 0,d',.hs 1 4,iD 4,iD ((j:Int)+1)],H',?_,(k0 0 (by omega)).trans h0,(k0 1 (by omega)).trans h1,by grind,d',rfl,?_⟩
 ·rw[Jmi];unfold Eo Ce;have x0:∀(x y:D),DN (.tup [x,y]) 0=some x:=fun _ _=>rfl;have x1:∀(x y:D),DN (.tup [x,y]) 1=some y:=fun _ _=>rfl;have q0:Ag .int .neq (iD 0) (iD 0)=some (bD false):=rfl;have bu:CY [(0,1),(1,1)] [iD 0,CS] [(0,iD ((j:Int)+1)),(1,sD ((Gi (Ku c))[j]'hj).b)]=some (.agg new):=rfl;simp only[G6 (show(j:Int)<4 by omega),AU,Bd,Bv,i1,i2,Qbj h h0 j hj,A7,x0,x1,q0,BF,BC,G5 j (by omega),bu,hr,ap]
 ·rw[Qbs _ j hj];exact a2
def Qet{c:Cm}(s:Ac D)(H:Ae)(b:Fm c 4 s H):∃r,BK Aa (Xb Aa) dD 5 f7 0 s H=some r/\r.1≠ .normal/\∃d,r=(.exit 0,[CS,iD 0,d,.hs 1 4,iD 4,iD 4],H)/\Buf 62 2 H 2 d 4 (Ws (Ku c) 4):=by
 obtain⟨h,g,i,d,rfl,a⟩:=b;refine⟨(.exit 0,[CS,iD 0,d,.hs 1 4,iD 4,iD 4],H),?_,(by intro e;cases e),d,rfl,a⟩;rfl
def Jr8{x:S4}(a:Yj x){H:Ae}{d:D}(g:Buf 62 2 H 2 d 4 (Ws x 4)):Ak Yg [d] H=some (.tup [sD (KD (Gi x)),iD 0],H):=by
 rcases g with⟨_,h,_⟩|⟨r,_,rfl,b,f⟩
 ·cases h
 ·have c:Dh H 9 (.hs r 4)=some (Uh x):=by
   rw[Jyo H 8 r 4 _ 2 _ b (by rw[f];decide)];have e:∀n v,Dh H n (.v v)=some (.v v):=fun n v=>Ji _ n _ rfl;show((Ws x 4).mapM (Dh H 8)).map _=_;simp only[Ws,Gi,List.take,EP,J7,IX,PT,EK,Jd,JO,Lj,FZ,VI,e];rfl
  rw[Qct Yg [.hs r 4] [Uh x] H rfl (by simp[c])];have:Yg [Uh x]=_:=EO (A:=Bs) _ x;rw[this,Aw a];rfl
open Classical in
noncomputable def PY:Ac D->Af D:=F1 OV fun c=>if TG c then some (.tup [sD (KD (Gi (Ku c))),iD 0])else if c=YI then some (.tup [sD [],iD 23])else none
def JdM:Bz Aa 7 PY:=FC (kp:=dD) JxS AX func7 fun c d h=>by
 have o:∀c:Cm,BA 33 (.agg (Cf c)) []=some (.hp 0 0,[.cells 33 9 (Cf c)]):=fun c=>rfl;have m:∀c:Cm,Ai (some 9) [.cells 33 9 (Cf c)] (.hp 0 0)=some (.agg (Cf c)):=fun c=>rfl;split at h
 ·rename_i a;cases h;refine⟨5,.tup [sD (KD (Gi (Ku c))),iD 0],?_,AY.refl _⟩;show BB (AB _ _ _ _ _ [.agg (Cf c)] [])=_;rw[JwO];have g:Ag .int .neq (iD 0) (iD 0)=some (bD false):=rfl;have i:DI 57 1 4 [BI] [(0,(.clo (.func 22) [] [.hp 0 0])),(1,(.clo (.func 23) [] [.hp 0 0])),(2,(.clo (.func 24) [] [.hp 0 0])),(3,(.clo (.func 26) [] [.hp 0 0]))] [.cells 33 9 (Cf c)]=some (.hs 1 4,[.cells 33 9 (Cf c),.cells 57 1 encs]):=rfl;have e:Bq .sl (.hs 1 4)=some (iD 4):=rfl;obtain⟨r,p,d,H,rfl,n⟩:=Hc (P:=Aa) (T:=Xb Aa) (kp:=dD) (fn:= f7) (li:=0) (Fm c) (fun r=>∃d H,r=(.exit 0,[CS,iD 0,d,.hs 1 4,iD 4,iD 4],H)/\Buf 62 2 H 2 d 4 (Ws (Ku c) 4)) 4 5 (fun j s H l b=>JpO a j l s H b) (fun s H b=>by
   obtain⟨r,w,v,d,q,u⟩:=Qet s H b
   grind) (by omega) (s:=[CS,iD 0,Aq,.hs 1 4,iD 4,iD 0]) (H:=[.cells 33 9 (Cf c),.cells 57 1 encs]) ⟨rfl,rfl,BQ _,_,rfl,Buf.nil _ _ _ _⟩
  simp only[o,A7,m,AU,Jyz a.good a.body a.tests,g,Bd,BF,BC,i,e,p,Kw,Kv,NJ,NM,Jr8 a.whole n];exact Gu _ _ rfl
 ·split at h
  case isFalse=>cases h
  rename_i k;subst k;cases h;refine⟨5,.tup [sD [],iD 23],?_,AY.refl _⟩;rfl
end Go.Proofs.YtapdelkomkpgmaaGreatDoor
