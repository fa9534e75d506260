import Derived.Shelf.RegionOpenPlain
import Derived.Lib.MakeNoZero
import Derived.Lib.UnsafeStr
import Derived.Lib.Builder
import Derived.ProofKit
import Derived.OpenShut
import Derived.ShutString
import Derived.ChangeOld
import Derived.Deep.SlicePairs
import Derived.Lib.SmallJoins
import Derived.ChangeMaps5
import Derived.Test.YtapdelkomkpgmaaGreatDoorQaa
namespace Go.Proofs.YtapdelkomkpgmaaGreatDoor
open Go.Proofs.Tryz
open Go.RowKit
set_option maxRecDepth 100000
set_option linter.all false
def Ti(P:Aj)(f:CG):Bool:=
 match P.funcs[f]? with
 |some fn=>fn.body.isSome&&decide (fn.name≠ "runtime.NumGoroutine")
 |none=>false
def nP{P:Aj}{f:CG}(h:Ti P f=true):∃fn,P.funcs[f]? =some fn∧fn.body.isSome=true∧fn.name≠ "runtime.NumGoroutine" :=by
 unfold Ti at h;split at h
 ·rename_i fn a;simp only[DJ,F5]at h;exact⟨fn,a,h.1,h.2⟩
 ·cases h
def Jc(P:Aj)(T:Tab)(n:Nat)(f:CG)(ds:Ac D)(H:Ae):Af (D×Ae):=
 match P.funcs[f]? with
 |some fn=>AB P T (List.range fn.ntmps) n fn ds H
 |none=>none
def J4{P:Aj}{T:Tab}(b:Bg P T)(g:P.follows .mixedOrders=true){n:Nat}{f:CG}(h:Ti P f=true):BN P f (Jc P T n f):=by
 obtain⟨fn,a,e,c⟩:=nP h;exact Hx (kp:=List.range fn.ntmps) b g a e c fun ds H d H' h=>⟨n,by unfold Jc at h;rw[a]at h;exact h⟩
def VD(P:Aj)(T:Tab)(n:Nat)(f:CG)(ds:Ac D)(H:Ae):Af (D×Ae):=
 match P.funcs[f]? with
 |some fn=>dJ P T (List.range fn.ntmps) n (Kt fn) fn.ntmps fn.results.toList ds H
 |none=>none
def JtB{P:Aj}{T:Tab}(g:Bg P T)(j:P.follows .mixedOrders=true){n:Nat}{f:CG}(h:Ti P f=true):BN P f (VD P T n f):=by
 obtain⟨fn,b,e,i⟩:=nP h;cases a:fn.body with
 |none=>rw[a]at e;cases e
 |some c=>
  refine JiJ (kp:=List.range fn.ntmps) g j b a i fun ds H d H' h=>⟨n,?_⟩;unfold VD at h;rw[b]at h;simp only[Kt,a,zS]at h;exact h
def up(P:Aj)(n:Nat)(T:Tab)(l:Ac CG):Tab:=⟨(l.map fun f=>(f,false,Jc P T n f))++T.fs,T.yl,T.pn⟩
def IW{P:Aj}{n:Nat}{T:Tab}{l:Ac CG}(a:Bg P T)(c:P.follows .mixedOrders=true)(h:l.all (Ti P)=true):Bg P (up P n T l):=by
 refine⟨fun p hp=> ?_,a.yl,a.pn⟩;rcases OQ.1 hp with hp|hp
 ·obtain⟨f,b,rfl⟩:=GN.1 hp;exact CB (J4 a c (Ew.1 h f b))
 ·exact a.fs p hp
def Oe(l:Ac Cj)(T:Tab):Tab:=⟨l++T.fs,T.yl,T.pn⟩
def OJ{P:Aj}{l:Ac Cj}{T:Tab}(h:∀p∈l,Ci P p)(a:Bg P T):Bg P (Oe l T):=by
 refine⟨fun p hp=> ?_,a.yl,a.pn⟩;rcases OQ.1 hp with hp|hp
 ·exact h p hp
 ·exact a.fs p hp
def Lf(Y:Nat->GT)(T:Tab):Tab:=⟨T.fs,Y,T.pn⟩
def R8{P:Aj}{Y:Nat->GT}{T:Tab}(h:FT P Y)(a:Bg P T):Bg P (Lf Y T):=⟨a.fs,h,a.pn⟩
def ZA(P:Aj)(T:Tab)(n:Nat)(f g:CG)(ds:Ac D)(H:Ae):Af (D×Ae):=
 match P.funcs[f]?,P.funcs[g]? with
 |some fn,some a=>oG P T (List.range fn.ntmps) n fn g (ZQ P [] n a) ds H
 |_,_=>none
def rO{P:Aj}{T:Tab}(k:Bg P T)(p:P.follows .mixedOrders=true){n:Nat}{f g:CG}(h:Ti P f=true)(l:Ti P g=true)(e:(match P.funcs[g]? with|some j=>LK (Kt j)|none=>false)=true):BN P f (ZA P T n f g):=by
 obtain⟨fn,i,o,m⟩:=nP h;obtain⟨j,a,c,b⟩:=nP l;rw[a]at e;refine Jf8 (kp:=List.range fn.ntmps) (kp':=[]) (n':=n) k p i o m a c b e fun ds H d H' h=>⟨n,?_⟩;unfold ZA at h;rw[i,a]at h;exact h
def Pb(P:Aj)(T:Tab)(n:Nat)(f:CG)(l:Nat)(ds:Ac D)(H:Ae):Af (D×Ae):=
 match P.funcs[f]? with
 |some fn=>kA P T (List.range fn.ntmps) n fn l ds H
 |none=>none
def okJ(P:Aj)(f:CG)(l:Nat):Bool:=
 match P.funcs[f]? with
 |some fn=>(match fn.body with|some (.scope c)=>(findLabel c l).isSome|_=>false)&&fn.results.isEmpty&&decide (fn.name≠ "runtime.NumGoroutine")
 |none=>false
def Jsv{P:Aj}{T:Tab}(e:Bg P T)(k:P.follows .mixedOrders=true){n:Nat}{f:CG}{l:Nat}(h:okJ P f l=true):BN P f (Pb P T n f l):=by
 unfold okJ at h;split at h
 case h_2=>cases h
 rename_i fn b;simp only[DJ,F5]at h;obtain⟨⟨a,i⟩,g⟩:=h;split at a
 case h_2=>cases a
 rename_i c j;exact QdD (kp:=List.range fn.ntmps) e k b j a (by simpa using i) g fun ds H d H' h=>⟨n,by unfold Pb at h;rw[b]at h;exact h⟩
def LN(P:Aj)(T:Tab)(n:Nat)(f:CG)(ds:Ac D)(H:Ae):Af (Out×Ae):=
 match P.funcs[f]? with
 |some fn=>eZ P T (List.range fn.ntmps) n fn ds H
 |none=>none
def Ja4{P:Aj}{T:Tab}(b:Bg P T)(g:P.follows .mixedOrders=true){n:Nat}{f:CG}(h:Ti P f=true):ZB P f (LN P T n f):=by
 obtain⟨fn,a,e,c⟩:=nP h;exact JmH (kp:=List.range fn.ntmps) b g a e c fun ds H d H' h=>⟨n,by unfold LN at h;rw[a]at h;exact h⟩
def Ow(P:Aj)(n:Nat)(T:Tab)(l:Ac CG):Tab:=⟨T.fs,T.yl,(l.map fun f=>(f,LN P T n f))++T.pn⟩
def Jkd{P:Aj}{n:Nat}{T:Tab}{l:Ac CG}(a:Bg P T)(c:P.follows .mixedOrders=true)(h:l.all (Ti P)=true):Bg P (Ow P n T l):=by
 refine⟨a.fs,a.yl,fun p hp=> ?_⟩;rcases OQ.1 hp with hp|hp
 ·obtain⟨f,b,rfl⟩:=GN.1 hp;exact Ja4 a c (Ew.1 h f b)
 ·exact a.pn p hp
def Vw(P:Aj)(n:Nat)(T:Tab)(l:Ac CG):Nat->Tab
 |0=>T
 |k+1=>⟨T.fs,T.yl,(l.map fun f=>(f,LN P (Vw P n T l k) n f))++T.pn⟩
theorem JeO{P:Aj}{n:Nat}{T:Tab}{l:Ac CG}(a:Bg P T)(b:P.follows .mixedOrders=true)(h:l.all (Ti P)=true):∀k,Bg P (Vw P n T l k)
 |0=>a
 |k+1=>by
  refine⟨a.fs,a.yl,fun p hp=> ?_⟩;rcases OQ.1 hp with hp|hp
  ·obtain⟨f,c,rfl⟩:=GN.1 hp;exact Ja4 (JeO a b h k) b (Ew.1 h f c)
  ·exact a.pn p hp
def SC(P:Aj)(T:Tab)(n k:Nat)(f:CG)(ds:Ac D):Af D:=
 match P.funcs[f]? with
 |some fn=>Fs P T n k fn ds
 |none=>none
def nE{P:Aj}{T:Tab}(b:Bg P T)(e:P.follows .mixedOrders=true){n k:Nat}{f:CG}(h:Ti P f=true):Hr P f (SC P T n k f):=by
 obtain⟨fn,a,d,c⟩:=nP h;have:SC P T n k f=Fs P T n k fn:=by funext ds;unfold SC;rw[a]
 rw[this];exact QdQ b e a d c
def Di:Ac (Ac D×D)->Ac D->Af D
 |[],_=>none
 |(x,d)::r,ds=>if Gy ds x then some d else Di r ds
theorem yY:∀{l:Ac (Ac D×D)} {ds:Ac D} {d:D},Di l ds=some d->(ds,d)∈l
 |(x,e)::r,ds,d,h=>by
  simp only[Di]at h;split at h
  ·rename_i a;cases h;rw[Va _ _ a];exact KE ..
  ·exact QY _ (yY h)
def MU{P:Aj}{f:CG}{F:Ac D->Af D}(h:Hr P f F){l:Ac (Ac D×D)}(a:∀p∈l,F p.1=some p.2):Hr P f (Di l):=
 ⟨h.body,fun ds d b=>h.calls ds d (a _ (yY b))⟩
def C6{P:Aj}{f:CG}{F:Ac D->Af D}(h:Bz P f F){l:Ac (Ac D×D)}(a:∀p∈l,F p.1=some p.2):Bz P f (Di l):=
 ⟨h.body,fun ds d b=>h.calls ds d (a _ (yY b))⟩
def xX{P:Aj}{f:CG}{G:GT}(h:BN P f G){l:Ac (Ac D×D)}(e:∀p∈l,(G p.1 []).bind (fun r=>Ia r.2 9 r.1)=some p.2):Hr P f (Di l):=
 JhB h fun ds d a=>by
  obtain⟨r,c,b⟩:=Bi.1 (e _ (yY a));exact⟨ds,r,d,Gt.refl _,c,b,AY.refl _⟩
def MO{P:Aj}{f:CG}{G:GT}(c:BN P f G){l:Ac (Ac D×D)}(t:∀p∈l,BB (G p.1 [])=some p.2):Bz P f (Di l):=by
 refine⟨c.body,fun ds d r S vs w u n=> ?_⟩;obtain⟨⟨h,H'⟩,m,x⟩:=Bi.1 (t _ (yY r));refine(c.calls ds [] h H' m w.heap.size S [] vs w (bM S w u) n).mono ?_;rintro e y ⟨v,z,A,rfl,s,j,g⟩;refine⟨v,rfl,?_,g.below⟩;have o:=Tk j 9 h d v x s;refine Rep.kept (Kept.refl _ _) (fun k a=> ?_) (fun i p q=>q) d v o;rcases a with a|a
 ·rcases g.only k a with b|b
  ·exact .inl b
  ·exact .inr ⟨b,j.small k a⟩
 ·exact .inr a
def JR{p:Ac D×D}{q:Ac D×D->Prop}(h:q p):∀x∈[p],q x:=fun x a=>by rw[oV.1 a];exact h
def JbJ(P:Aj):Ac Cj:=(164,true,Ak VQ)::(166,true,Ak V5)::(202,true,Ak lC)::(150,true,Ak jF)::(186,true,Ak Km)::(151,true,Ak aI)::(148,true,Ak nS)::[]
def Jol:∀p∈JbJ Aa,Ci Aa p:=AC (Bf nW)<|AC (Bf aE)<|AC (Bf JcJ)<|AC (Bf Jjs)<|AC (Bf Tl)<|AC (Bf Jj4)<|AC (Bf tE)<|EN
def X0(P:Aj):Tab:=⟨JbJ P,BM,[]⟩
def JeQ:Bg Aa (X0 Aa):=CU Jol
def X1(P:Aj):Tab:=up P 300 (X0 P) [317,432,434,435,318]
def Jwo:Bg Aa (X1 Aa):=IW JeQ AX (by kernel_rfl)
def X2(P:Aj):Tab:=Ow P 300 (up P 300 (X1 P) [431,433]) [315]
def Qco:Bg Aa (X2 Aa):=Jkd (IW Jwo AX (by kernel_rfl)) AX (by kernel_rfl)
def X3(P:Aj):Tab:=Ow P 300 (X2 P) [316,346,320]
def JrI:Bg Aa (X3 Aa):=Jkd Qco AX (by kernel_rfl)
def X4(P:Aj):Tab:=Vw P 300 (X3 P) [279,319,321] 12
def JcR:Bg Aa (X4 Aa):=JeO JrI AX (by kernel_rfl) 12
def X5(P:Aj):Tab:=Oe [(242,false,ZA P (X4 P) 300 242 278)] (X4 P)
def Jvg:Bg Aa (X5 Aa):=OJ (AC (CB (rO JcR AX (by kernel_rfl) (by kernel_rfl) (by kernel_rfl))) EN) JcR
def N8(k v s:Int):D:= .tup [.agg [iD k,iD v,iD s,Aq],iD 0]
def FG:Pg:=(F7 ⟨1,[0],[(20,1),(25,0),(3,0)]⟩ ⟨[0],5,0⟩).1
def AE:Pg:=(F7 ⟨1,[0],[(20,1),(25,0),(3,0)]⟩ ⟨[0],7,0⟩).1
def C8:Pg:=(F7 ⟨1,[0],[(20,1),(25,0),(3,0)]⟩ ⟨[0],7,1⟩).1
def Cq:Pg:=⟨1,[0],[(20,1),(25,0),(3,0)]⟩
def JrH:BB (VD Aa (X5 Aa) 300 185 [Be Cq,AL [0],iD 9] [])=some (N8 0 0 3):=by kernel_rfl
def Jzv:BB (VD Aa (X5 Aa) 300 185 [Be Cq,AL [5],iD 9] [])=some (N8 0 5 3):=by kernel_rfl
def JwR:BB (VD Aa (X5 Aa) 300 185 [Be FG,AL [0],iD 9] [])=some (N8 3 0 2):=by kernel_rfl
def JpP:BB (VD Aa (X5 Aa) 300 185 [Be FG,AL [5],iD 9] [])=some (N8 3 0 2):=by kernel_rfl
def Jzn:BB (VD Aa (X5 Aa) 300 185 [Be AE,AL [0],iD 9] [])=some (N8 0 0 3):=by kernel_rfl
def JmU:BB (VD Aa (X5 Aa) 300 185 [Be AE,AL [5],iD 9] [])=some (N8 0 0 3):=by kernel_rfl
def Jn9:BB (VD Aa (X5 Aa) 300 185 [Be C8,AL [0],iD 9] [])=some (N8 0 1 3):=by kernel_rfl
def QaS:BB (VD Aa (X5 Aa) 300 185 [Be C8,AL [5],iD 9] [])=some (N8 0 1 3):=by kernel_rfl
def Sp:Ac (Ac D×D):=[([Be Cq,AL [0],iD 9],N8 0 0 3),([Be Cq,AL [5],iD 9],N8 0 5 3),([Be FG,AL [0],iD 9],N8 3 0 2),([Be FG,AL [5],iD 9],N8 3 0 2),([Be AE,AL [0],iD 9],N8 0 0 3),([Be AE,AL [5],iD 9],N8 0 0 3),([Be C8,AL [0],iD 9],N8 0 1 3),([Be C8,AL [5],iD 9],N8 0 1 3)]
def JnW:Bz Aa 185 (Di Sp):=MO (JtB Jvg AX (by kernel_rfl)) fun p hp=>by
 simp only[Sp,FY,QZ,or_false]at hp;rcases hp with rfl|rfl|rfl|rfl|rfl|rfl|rfl|rfl
 ·exact JrH
 ·exact Jzv
 ·exact JwR
 ·exact JpP
 ·exact Jzn
 ·exact JmU
 ·exact Jn9
 ·exact QaS
def K0(P:Aj):Tab:=up P 300 (Oe [(185,true,Ak (Di Sp))] (X0 P)) [241,129,131]
def JoS:Bg Aa (K0 Aa):=IW (OJ (AC (Bf JnW) EN) JeQ) AX (by kernel_rfl)
def K1(P:Aj):Tab:=up P 300 (K0 P) [240]
def JzA:Bg Aa (K1 Aa):=IW JoS AX (by kernel_rfl)
def KY(P:Aj)(Y:Nat->GT):Tab:=up P 300 (Lf Y (K1 P)) [239,184]
def JgZ(Y:Nat->GT)(h:FT Aa Y):Bg Aa (KY Aa Y):=IW (R8 h JzA) AX (by kernel_rfl)
def K2(P:Aj):Tab:=KY P (Yn P (KY P) 300 2)
def JmB:Bg Aa (K2 Aa):=JgZ _ (TW JgZ AX 300 2)
def K3(P:Aj):Tab:=up P 300 (K2 P) [130]
def Jy7:Bg Aa (K3 Aa):=IW JmB AX (by kernel_rfl)
def JH:Pg:=⟨1,[0],[(20,1),(25,0),(3,0)]⟩
def Je:Ac (Ac Int):=[[0],[5]]
def Qef:By:=[84,218,134,82,92,198,43,48,251,190,205,195,60,222,13,37,14,202,155,237,188,7,9,245,54,24,79,53,42,42,15,200]
def Jwd:By:=[112,158,128,200,132,135,162,65,30,30,228,223,185,242,42,134,20,146,210,12,71,101,21,12,12,121,74,189,112,248,20,124]
def Jsl:By:=[101,210,122,72,223,239,64,109,184,245,244,55,66,59,250,95,156,131,215,123,252,18,248,161,75,140,227,237,229,137,47,181]
def Jcf:Mu:=⟨⟨[0],5,0⟩,1,0,3,0,Qef⟩
def ME:Mu:=⟨⟨[0],7,0⟩,1,1,0,0,Jwd⟩
def T2:Mu:=⟨⟨[0],7,1⟩,1,0,0,1,Jsl⟩
def Fe:Cm:=⟨JH,Je,9,[Jcf,ME,T2],⟨0,3,0⟩⟩
def Ld:By:=[77,85,84,65,82,67,1,1,9,1,1,0,3,20,1,25,3,0,142,190,95,30,2,5,9,2,1,0,10,55,118,48,28,3,124,3,4,1,0,5,0,1,0,3,0,84,218,134,82,92,198,43,48,251,190,205,195,60,222,13,37,14,202,155,237,188,7,9,245,54,24,79,53,42,42,15,200,4,1,0,7,0,1,1,0,0,112,158,128,200,132,135,162,65,30,30,228,223,185,242,42,134,20,146,210,12,71,101,21,12,12,121,74,189,112,248,20,124,4,1,0,7,2,1,0,0,2,101,210,122,72,223,239,64,109,184,245,244,55,66,59,250,95,156,131,215,123,252,18,248,161,75,140,227,237,229,137,47,181,76,215,254,99,4,3,0,3,0,240,173,58,10,4,1,7,15,2,22,11,3,33,130,1,4,163,1,9,75,156,8,130,172,0,0,0,69,78,68,46]
def Jne:Du JH=[⟨[0],5,0⟩,⟨[0],7,0⟩,⟨[0],7,1⟩]:=by kernel_rfl
def Jzf:NI JH Je 9 ⟨[0],5,0⟩=Jcf:=by kernel_rfl
def Qc0:NI JH Je 9 ⟨[0],7,0⟩=ME:=by kernel_rfl
def JzT:NI JH Je 9 ⟨[0],7,1⟩=T2:=by kernel_rfl
def eD:Yt JH Je=true:=by kernel_rfl
def C0:GR JH Je 9=0:=by kernel_rfl
def Ml:Dq JH Je 9=Fe:=by
 unfold Dq;rw[Jne];simp only[EP,J7,Jzf,Qc0,JzT];rfl
def JrY:KD (Gi (Ku Fe))=Ld:=by kernel_rfl
def JeN(P:Aj):Ac Cj:=(139,true,Ak dL)::(89,true,Ak bG)::(90,true,Ak yF)::(91,true,Ak dR)::(159,true,Ak X9)::(21,true,Ak UZ)::(57,true,DX Sj)::E3 P
def JvI:∀p∈JeN Aa,Ci Aa p:=AC (Bf Xs)<|AC (Bf Jg8)<|AC (Bf Jd0)<|AC (Bf Jjo)<|AC (Bf JcV)<|AC (Bf K7)<|AC (Jy Lk)<|hO
def A0(P:Aj):Tab:=up P 300 (up P 300 (up P 300 (up P 300 (up P 300 (⟨JeN P,BM,[]⟩) [114,171,116,229,221,222,33]) [170,228,169,172]) [177,99,97]) [115,98]) [237,43]
def AM:Bg Aa (A0 Aa):=IW (IW (IW (IW (IW (CU JvI) AX (by kernel_rfl)) AX (by kernel_rfl)) AX (by kernel_rfl)) AX (by kernel_rfl)) AX (by kernel_rfl)
def A1(P:Aj):Tab:=up P 300 (A0 P) [119,233,238,236,122,55,231]
def JyX:Bg Aa (A1 Aa):=IW AM AX (by kernel_rfl)
def A2(P:Aj):Tab:=up P 300 (A1 P) [118,121,180,230,232,234,235]
def Sz:Bg Aa (A2 Aa):=IW JyX AX (by kernel_rfl)
def Kl:By:=Ld.take 172
def mU:D:= .sl 2 [[iD 1,sD (G8 JH)],[iD 2,sD (Il Je 9)],[iD 3,sD (LM Fe.ms)],[iD 4,sD (Lm Fe.sc)]]
def Cg:Ac D×D:=([sD Kl,iD 7],.tup [.agg [iD 1,sD (G8 JH)],iD 22,iD 0])
def I3:Ac D×D:=([sD Kl,iD 22],.tup [.agg [iD 2,sD (Il Je 9)],iD 33,iD 0])
def JT:Ac D×D:=([sD Kl,iD 33],.tup [.agg [iD 3,sD (LM Fe.ms)],iD 163,iD 0])
def Fu:Ac D×D:=([sD Kl,iD 163],.tup [.agg [iD 4,sD (Lm Fe.sc)],iD 172,iD 0])
def Jun:SC Aa (A2 Aa) 300 2 179 Cg.1=some Cg.2:=by kernel_rfl
def JvE:SC Aa (A2 Aa) 300 2 179 I3.1=some I3.2:=by kernel_rfl
def Jlf:SC Aa (A2 Aa) 300 2 179 JT.1=some JT.2:=by kernel_rfl
def JqT:SC Aa (A2 Aa) 300 2 179 Fu.1=some Fu.2:=by kernel_rfl
def JyQ:Hr Aa 179 (Di [Cg,I3,JT,Fu]):=MU (nE Sz AX (by kernel_rfl)) fun p hp=>by
 simp only[FY,QZ,or_false]at hp;rcases hp with rfl|rfl|rfl|rfl
 ·exact Jun
 ·exact JvE
 ·exact Jlf
 ·exact JqT
def AO(P:Aj):Tab:=Oe [(179,true,DX (Di [Cg,I3,JT,Fu]))] (A2 P)
def JxY:Bg Aa (AO Aa):=OJ (AC (Jy JyQ) EN) Sz
def Qcl:(ZA Aa (AO Aa) 300 120 178 [sD Ld] []).bind (fun r=>Ia r.2 9 r.1)=some (.tup [mU,iD 0]):=by kernel_rfl
def QbS:Hr Aa 120 (Di [([sD Ld],.tup [mU,iD 0])]):=xX (rO JxY AX (by kernel_rfl) (by kernel_rfl) (by kernel_rfl)) (JR Qcl)
def A3(P:Aj):Tab:=Oe [(117,false,Jc P (A2 P) 300 117)] (A2 P)
def Qd4:Bg Aa (A3 Aa):=OJ (AC (CB (J4 Sz AX (by kernel_rfl))) EN) Sz
def Jm5:SC Aa (A3 Aa) 300 2 46 [sD (Il Je 9)]=some (.tup [BH Je,iD 9,iD 0]):=by kernel_rfl
def Qcf:BB (Jc Aa (A2 Aa) 300 123 [sD (LM Fe.ms)] [])=some (.tup [DR Fe.ms,iD 0]):=by kernel_rfl
def JvC:(Jc Aa (A2 Aa) 300 124 [sD (Lm Fe.sc)] []).bind (fun r=>Ia r.2 9 r.1)=some (.tup [Gl Fe.sc,iD 0]):=by kernel_rfl
def JkG:Wq Fe:=Ml▸N5 (jO eD) C0
def tF:UZ [.agg (Cf Fe)]=some (iD 0):=by
 have:UZ [.agg (Cf Fe)]=_:=EO (A:=OV) _ Fe;rw[this,Aw ⟨by decide,by decide⟩,Aw JkG]
def fN(P:Aj):Ac Cj:=(120,true,DX (Di [([sD Ld],.tup [mU,iD 0])]))::(46,true,DX (Di [([sD (Il Je 9)],.tup [BH Je,iD 9,iD 0])]))::(123,true,Ak (Di [([sD (LM Fe.ms)],.tup [DR Fe.ms,iD 0])]))::(124,true,DX (Di [([sD (Lm Fe.sc)],.tup [Gl Fe.sc,iD 0])]))::(21,true,Ak (Di [([.agg (Cf Fe)],iD 0)]))::[]
def Ji3:Hr Aa 46 (Di [([sD (Il Je 9)],.tup [BH Je,iD 9,iD 0])]):=MU (nE Qd4 AX (by kernel_rfl)) (JR Jm5)
def Jpp:Bz Aa 123 (Di [([sD (LM Fe.ms)],.tup [DR Fe.ms,iD 0])]):=MO (J4 Sz AX (by kernel_rfl)) (JR Qcf)
def JoK:Hr Aa 124 (Di [([sD (Lm Fe.sc)],.tup [Gl Fe.sc,iD 0])]):=xX (J4 Sz AX (by kernel_rfl)) (JR JvC)
def Qaw:Bz Aa 21 (Di [([.agg (Cf Fe)],iD 0)]):=C6 K7 (JR tF)
def JdK:∀p∈fN Aa,Ci Aa p:=AC (Jy QbS)<|AC (Jy Ji3)<|AC (Bf Jpp)<|AC (Jy JoK)<|AC (Bf Qaw)<|EN
def A4(P:Aj):Tab:=Oe (fN P) (A2 P)
def Qe8:Bg Aa (A4 Aa):=OJ JdK Sz
def A5(P:Aj):Tab:=up P 300 (A4 P) [48,49,50,51,52,53,54]
def JxC:Bg Aa (A5 Aa):=IW Qe8 AX (by kernel_rfl)
def JkB:BB (Jc Aa (A5 Aa) 300 12 [sD Ld] [])=some (.tup [.agg (Cf Fe),iD 0]):=by kernel_rfl
def JyT:Bz Aa 12 (Di [([sD Ld],.tup [.agg (Cf Fe),iD 0])]):=MO (J4 JxC AX (by kernel_rfl)) (JR JkB)
def Gh:Cm:=⟨JH,Je,9,[ME,T2],⟨0,2,0⟩⟩
def OI:By:=[77,85,84,65,82,67,1,1,9,1,1,0,3,20,1,25,3,0,142,190,95,30,2,5,9,2,1,0,10,55,118,48,28,3,83,2,4,1,0,7,0,1,1,0,0,112,158,128,200,132,135,162,65,30,30,228,223,185,242,42,134,20,146,210,12,71,101,21,12,12,121,74,189,112,248,20,124,4,1,0,7,2,1,0,0,2,101,210,122,72,223,239,64,109,184,245,244,55,66,59,250,95,156,131,215,123,252,18,248,161,75,140,227,237,229,137,47,181,127,8,176,96,4,3,0,2,0,177,156,33,19,4,1,7,15,2,22,11,3,33,89,4,122,9,147,223,72,125,131,0,0,0,69,78,68,46]
def Jfi:Wq Gh:=L8 (by kernel_rfl)
def gJ:TG Fe:=Ml▸rG (jO eD) C0
def QcO:TG Gh:=⟨Jfi,gJ.body,gJ.tests,gJ.nums,gJ.args,gJ.suite,by kernel_rfl,by decide+kernel,L8 (by kernel_rfl),L8 (by kernel_rfl)⟩
def JlN:KD (Gi (Ku Gh))=OI:=by kernel_rfl
def Jsw:PY [.agg (Cf Fe)]=some (.tup [sD Ld,iD 0]):=by
 have:PY [.agg (Cf Fe)]=_:=EO (A:=OV) _ Fe;rw[this,Aw gJ,JrY]
def JmK:PY [.agg (Cf Gh)]=some (.tup [sD OI,iD 0]):=by
 have:PY [.agg (Cf Gh)]=_:=EO (A:=OV) _ Gh;rw[this,Aw QcO,JlN]
def qA:Ac (Ac D×D):=[([.agg (Cf Fe)],.tup [sD Ld,iD 0]),([.agg (Cf Gh)],.tup [sD OI,iD 0])]
def Vi:Bz Aa 7 (Di qA):=C6 JdM fun p hp=>by
 simp only[qA,FY,QZ,or_false]at hp;rcases hp with rfl|rfl
 ·exact Jsw
 ·exact JmK
def Jo9:YN [Be JH,BH Je,iD 9]=some (.tup [.agg (Cf Fe),iD 0]):=by
 have:YN [Be JH,BH Je,iD 9]=_:=V6 (A:=Ef) (B:=JD) (C:=BV) _ JH Je 9;rw[this,Aw eD,RF,Aw C0,C0,Ml]
def Jhz:Ac (Ac D×D):=[([Be JH,BH Je,iD 9],.tup [.agg (Cf Fe),iD 0])]
def JlS:Bz Aa 6 (Di Jhz):=C6 Jdv (JR Jo9)
def Jp4:(Jc Aa (A0 Aa) 300 43 [sD (G8 JH)] []).bind (fun r=>Ia r.2 9 r.1)=some (.tup [Be JH,iD 0]):=by kernel_rfl
def cgL:Ac (Ac D×D):=[([sD (G8 JH)],.tup [Be JH,iD 0])]
def JoD:Hr Aa 43 (Di cgL):=xX (J4 AM AX (by kernel_rfl)) (JR Jp4)
def JcL(P:Aj):Ac Cj:=(43,true,DX (Di cgL))::(6,true,Ak (Di Jhz))::(7,true,Ak (Di qA))::fN P
def Jz7:∀p∈JcL Aa,Ci Aa p:=AC (Jy JoD)<|AC (Bf JlS)<|AC (Bf Vi)<|JdK
def AS0(P:Aj):Tab:=up P 300 (Oe (JcL P) (A0 P)) [44,45]
def Jni:Bg Aa (AS0 Aa):=IW (OJ Jz7 AM) AX (by kernel_rfl)
def uL(P:Aj):Tab:=up P 300 (AS0 P) [47]
def JxP:Bg Aa (uL Aa):=IW Jni AX (by kernel_rfl)
def Mm(P:Aj):Tab:=up P 300 (uL P) [42]
def Jg6:Bg Aa (Mm Aa):=IW JxP AX (by kernel_rfl)
def AS3(P:Aj):Tab:=Oe [(41,false,ZA P (Mm P) 300 41 113)] (Mm P)
def QdR:Bg Aa (AS3 Aa):=OJ (AC (CB (rO Jg6 AX (by kernel_rfl) (by kernel_rfl) (by kernel_rfl))) EN) Jg6
def QaI:BB (Jc Aa (AS3 Aa) 300 11 [sD (G8 JH),sD (Il Je 9)] [])=some (.tup [sD Ld,iD 0]):=by kernel_rfl
def Jqw:BB (Jc Aa (A0 Aa) 300 14 [.agg (Cf Fe),.v (.int .u64 6)] [])=some (.agg (Cf Gh)):=by kernel_rfl
def trL:Ac (Ac D×D):=[([sD (G8 JH),sD (Il Je 9)],.tup [sD Ld,iD 0])]
def smL:Ac (Ac D×D):=[([.agg (Cf Fe),.v (.int .u64 6)],.agg (Cf Gh))]
def JrK:Bz Aa 11 (Di trL):=MO (J4 QdR AX (by kernel_rfl)) (JR QaI)
def Jx0:Bz Aa 14 (Di smL):=MO (J4 AM AX (by kernel_rfl)) (JR Jqw)
def HG:By:=OI.take 131
def cR:D:= .sl 2 [[iD 1,sD (G8 JH)],[iD 2,sD (Il Je 9)],[iD 3,sD (LM Gh.ms)],[iD 4,sD (Lm Gh.sc)]]
def E0:Ac D×D:=([sD HG,iD 7],.tup [.agg [iD 1,sD (G8 JH)],iD 22,iD 0])
def Ev:Ac D×D:=([sD HG,iD 22],.tup [.agg [iD 2,sD (Il Je 9)],iD 33,iD 0])
def Fk:Ac D×D:=([sD HG,iD 33],.tup [.agg [iD 3,sD (LM Gh.ms)],iD 122,iD 0])
def AS:Ac D×D:=([sD HG,iD 122],.tup [.agg [iD 4,sD (Lm Gh.sc)],iD 131,iD 0])
def Jpx:BB (Jc Aa (A2 Aa) 300 123 [sD (LM Gh.ms)] [])=some (.tup [DR Gh.ms,iD 0]):=by kernel_rfl
def JwB:(Jc Aa (A2 Aa) 300 124 [sD (Lm Gh.sc)] []).bind (fun r=>Ia r.2 9 r.1)=some (.tup [Gl Gh.sc,iD 0]):=by kernel_rfl
def Jqu:UZ [.agg (Cf Gh)]=some (iD 0):=by
 have:UZ [.agg (Cf Gh)]=_:=EO (A:=OV) _ Gh;rw[this,Aw ⟨by decide,by decide⟩,Aw Jfi]
def Qa6:Bz Aa 123 (Di [([sD (LM Gh.ms)],.tup [DR Gh.ms,iD 0])]):=MO (J4 Sz AX (by kernel_rfl)) (JR Jpx)
def Joz:Hr Aa 124 (Di [([sD (Lm Gh.sc)],.tup [Gl Gh.sc,iD 0])]):=xX (J4 Sz AX (by kernel_rfl)) (JR JwB)
def vP:Ac (Ac D×D):=[([.agg (Cf Fe)],iD 0),([.agg (Cf Gh)],iD 0)]
def oS:Bz Aa 21 (Di vP):=C6 K7 fun p hp=>by
 simp only[vP,FY,QZ,or_false]at hp;rcases hp with rfl|rfl
 ·exact tF
 ·exact Jqu
def JrV:SC Aa (A2 Aa) 300 2 179 E0.1=some E0.2:=by kernel_rfl
def QaK:SC Aa (A2 Aa) 300 2 179 Ev.1=some Ev.2:=by kernel_rfl
def JpG:SC Aa (A2 Aa) 300 2 179 Fk.1=some Fk.2:=by kernel_rfl
def Jms:SC Aa (A2 Aa) 300 2 179 AS.1=some AS.2:=by kernel_rfl
def Qfi:Hr Aa 179 (Di [E0,Ev,Fk,AS]):=MU (nE Sz AX (by kernel_rfl)) fun p hp=>by
 simp only[FY,QZ,or_false]at hp;rcases hp with rfl|rfl|rfl|rfl
 ·exact JrV
 ·exact QaK
 ·exact JpG
 ·exact Jms
def AO'(P:Aj):Tab:=Oe [(179,true,DX (Di [E0,Ev,Fk,AS]))] (A2 P)
def Qc4:Bg Aa (AO' Aa):=OJ (AC (Jy Qfi) EN) Sz
def Qay:(ZA Aa (AO' Aa) 300 120 178 [sD OI] []).bind (fun r=>Ia r.2 9 r.1)=some (.tup [cR,iD 0]):=by kernel_rfl
def JlX:Hr Aa 120 (Di [([sD OI],.tup [cR,iD 0])]):=xX (rO Qc4 AX (by kernel_rfl) (by kernel_rfl) (by kernel_rfl)) (JR Qay)
def Jfs(P:Aj):Ac Cj:=(120,true,DX (Di [([sD OI],.tup [cR,iD 0])]))::(46,true,DX (Di [([sD (Il Je 9)],.tup [BH Je,iD 9,iD 0])]))::(123,true,Ak (Di [([sD (LM Gh.ms)],.tup [DR Gh.ms,iD 0])]))::(124,true,DX (Di [([sD (Lm Gh.sc)],.tup [Gl Gh.sc,iD 0])]))::(21,true,Ak (Di vP))::[]
def Juy:∀p∈Jfs Aa,Ci Aa p:=AC (Jy JlX)<|AC (Jy Ji3)<|AC (Bf Qa6)<|AC (Jy Joz)<|AC (Bf oS)<|EN
def A4'(P:Aj):Tab:=Oe (Jfs P) (A2 P)
def JzP:Bg Aa (A4' Aa):=OJ Juy Sz
def A5'(P:Aj):Tab:=up P 300 (A4' P) [48,49,50,51,52,53,54]
def Jzk:Bg Aa (A5' Aa):=IW JzP AX (by kernel_rfl)
def Jlz:BB (Jc Aa (A5' Aa) 300 12 [sD OI] [])=some (.tup [.agg (Cf Gh),iD 0]):=by kernel_rfl
def Co:Ac (Ac D×D):=[([sD Ld],.tup [.agg (Cf Fe),iD 0]),([sD OI],.tup [.agg (Cf Gh),iD 0])]
def Jt0{P:Aj}{f:CG}{F G K:Ac D->Af D}(h:Bz P f F)(k:Bz P f G)(a:∀ds d,K ds=some d->F ds=some d\/G ds=some d):Bz P f K:=
 ⟨h.body,fun ds d b=>(a ds d b).elim (h.calls ds d) (k.calls ds d)⟩
def JkX{p:Ac D×D}{l:Ac (Ac D×D)}{ds:Ac D}{d:D}(h:Di (p::l) ds=some d):Di [p] ds=some d\/Di l ds=some d:=by
 obtain⟨x,e⟩:=p;unfold Di at h;split at h
 ·rename_i a;left;simp only[Di,a,Bv];exact h
 ·exact .inr h
def P3:Bz Aa 12 (Di Co):=Jt0 JyT (MO (J4 Jzk AX (by kernel_rfl)) (JR Jlz)) fun ds d h=>JkX h
def K4(P:Aj):Tab:=Oe [(21,true,Ak (Di vP))] (K3 P)
def Qcj:Bg Aa (K4 Aa):=OJ (AC (Bf oS) EN) Jy7
def JxW:BB (Jc Aa (K4 Aa) 300 56 [.agg (Cf Fe)] [])=some (.tup [iD 0,iD 3]):=by kernel_rfl
def JpM:BB (Jc Aa (K4 Aa) 300 56 [.agg (Cf Gh)] [])=some (.tup [iD 0,iD 2]):=by kernel_rfl
def pD:Ac (Ac D×D):=[([.agg (Cf Fe)],.tup [iD 0,iD 3]),([.agg (Cf Gh)],.tup [iD 0,iD 2])]
def JqD:Bz Aa 56 (Di pD):=MO (J4 Qcj AX (by kernel_rfl)) fun p hp=>by
 simp only[pD,FY,QZ,or_false]at hp;rcases hp with rfl|rfl
 ·exact JxW
 ·exact JpM
def K5(P:Aj):Tab:=Oe [(56,true,Ak (Di pD)),(12,true,Ak (Di Co))] ⟨[],BM,[]⟩
def Jtx:Bg Aa (K5 Aa):=OJ (AC (Bf JqD)<|AC (Bf P3) EN) (CU EN)
def Jou:BB (Jc Aa (K5 Aa) 300 13 [sD Ld] [])=some (.tup [iD 0,iD 3]):=by kernel_rfl
def JpY:BB (Jc Aa (K5 Aa) 300 13 [sD OI] [])=some (.tup [iD 0,iD 2]):=by kernel_rfl
def CR:Ac (Ac D×D):=[([sD Ld],.tup [iD 0,iD 3]),([sD OI],.tup [iD 0,iD 2])]
def JfJ:Bz Aa 13 (Di CR):=MO (J4 Jtx AX (by kernel_rfl)) fun p hp=>by
 simp only[CR,FY,QZ,or_false]at hp;rcases hp with rfl|rfl
 ·exact Jou
 ·exact JpY
def JdD(P:Aj):Ac Cj:=(21,true,Ak (Di vP))::(133,true,Ak Ut)::(186,true,Ak Km)::(154,true,Ak P8)::(187,true,Ak jC)::(57,true,DX Sj)::[]
def QdA:∀p∈JdD Aa,Ci Aa p:=AC (Bf oS)<|AC (Bf RC)<|AC (Bf Tl)<|AC (Bf Mx)<|AC (Bf JfX)<|AC (Jy Lk)<|EN
def J0(P:Aj):Tab:=up P 300 ⟨JdD P,BM,[]⟩ [131,189,136,137,138]
def JmY:Bg Aa (J0 Aa):=IW (CU QdA) AX (by kernel_rfl)
def J1(P:Aj):Tab:=up P 300 (J0 P) [134]
def zR:Bg Aa (J1 Aa):=IW JmY AX (by kernel_rfl)
def JY(P:Aj)(Y:Nat->GT):Tab:=Oe [(190,false,Pb P (Lf Y (J1 P)) 300 190 0)] (up P 300 (Lf Y (J1 P)) [135])
def Jh8(Y:Nat->GT)(h:FT Aa Y):Bg Aa (JY Aa Y):=OJ (AC (CB (Jsv (R8 h zR) AX (by kernel_rfl))) EN) (IW (R8 h zR) AX (by kernel_rfl))
def J2(P:Aj):Tab:=JY P (Yn P (JY P) 300 2)
def Jcq:Bg Aa (J2 Aa):=Jh8 _ (TW Jh8 AX 300 2)
def JzM:BB (Jc Aa (J2 Aa) 300 61 [.agg (Cf Gh),.agg (Cf Fe)] [])=some (.tup [.agg (Cf Fe),iD 0]):=by kernel_rfl
def Jmm:BB (Jc Aa (J2 Aa) 300 64 [.agg (Cf Fe),.agg (Cf Gh)] [])=some (.tup [.sl 5 [[AL [0],iD 5,iD 0,iD 1,iD (-1)]],iD 0]):=by kernel_rfl
def Jum{P:Aj}{e:AQ}(count:Nat)(b:P.cellsOf e≠0)(c:1<=count):liesAt P P.depth e count 0 e 1=true:=by
 have a:P.depth=(2*(P.types.size+Made.depth)+1)+1:=rfl;rw[a];simp only[liesAt,zN];left;rw[a];simp[rowAt,c,sameLayout,b]
def BD.freeze{B:Nat}{S:Nat->Prop}{L:Ac (Nat×Nat)}{w:AA}{H:Ae}(h:BD B S L w H){id:Nat}{o:HO}(hid:H[id]? =some o)(m:o≠ .dead){b c:Nat}(x:L[id]? =some (b,c))(n:Nat):
  BD B S L (w.freeze ⟨b,0,none⟩ n) (H.set id .dead)/\Later B S S L L w (w.freeze ⟨b,0,none⟩ n):=by
 obtain⟨D,s,C⟩:=h.lt' hid m x;simp only at D s C;have d:w.heap[b]? ≠some (.deferred (some [])):=by
  obtain⟨K,J,l,_,_,t⟩:=h.obj id o hid m;rw[x]at l;cases l;exact t.mark m _
 have j:(w.freeze ⟨b,0,none⟩ n).heap.size=w.heap.size:=by unfold World.freeze;split<;>simp
 have g:∀k,k≠b->(w.freeze ⟨b,0,none⟩ n).heap[k]? =w.heap[k]? :=fun k a=>by
  unfold World.freeze;grind
 have v:Later B S S L L w (w.freeze ⟨b,0,none⟩ n):=⟨Lib.below_freeze (Below.refl _ _) (p:=⟨b,0,none⟩) D n,⟨by omega,fun k a=>g k (fun e=>C (e▸a))⟩,fun _ a=>a,eF _,fun _ h=> .inl h,fun k a=>(g k (fun e=>d (e▸a))).trans a⟩;have a:=h.kill id;refine⟨⟨a.len,fun k q=>by rw[j];exact h.small k q,by rw[j];exact h.base,fun i A z f=> ?_,a.inj⟩,v⟩;obtain⟨r,I,l,E,F,t⟩:=a.obj i A z f;have u:r≠b:=fun G=>by
  rcases Zx H id i _ A z with⟨y,e,_⟩|⟨y,e⟩
  ·exact f e.symm
  ·exact y (h.inj i id _ _ _ _ e f hid m l x G)
 exact⟨r,I,l,E,F,t.kept (g r u) (fun _ _=>v.rep) (fun _ _=>v.repA)⟩
def GC(T:AQ):GT
 |[.hp b 0],H=>
  match H[b]? with
  |some (.cells t 2 [x,y])=>if t=T then(match x with
   | .v (.pointer none)=>some (.tup [],H.set b (.cells t 2 [.hp b 0,y]))
   | .hp a 0=>if a=b then some (.tup [],H)else none
   |_=>none)else none
  |_=>none
 |_,_=>none
set_option maxHeartbeats 1600000 in
def JiZ:BN prog 193 (GC 222):=by
 refine⟨⟨_,func193,by decide,rfl⟩,fun ds H d H' h B S L vs w l s=> ?_⟩;obtain⟨j,p,r⟩:=DV.1 (show(prog.info? 222).map (·.size)=some 2 by kernel_rfl);unfold GC at h;split at h
 ·rename_i b;split at h
  case h_2=>cases h
  rename_i t x y o;split at h
  case isFalse=>cases h
  rename_i ht;subst ht;simp only[Au]at s;obtain⟨T,V,rfl,v,rfl⟩:=s;simp only[Rep]at v;obtain⟨a,c,m,rfl⟩:=v;obtain⟨M,K,arr,C,Y,X,z,U,O,J,F⟩:=l.live b _ _ _ o;rw[m]at C;cases C;simp only[Ej,Hf]at J;split at h
  ·cases h
   obtain⟨I,W⟩:=UY l o m 0 (y:= .pointer none) rfl;obtain⟨n,q⟩:=l.setCell o m 0 (by simp) (x:= .pointer (some ⟨a,0,none⟩)) (d:= .hp b 0) rfl (by simp only[Rep];grind)
   have i:w.shape? a=some (222,arr.size):=by simp[World.shape?,z]
   have u:prog.cellsOf 222 =2:=by kernel_rfl
   have g:=Jum (P:=prog) (e:= 222) (arr.size/prog.cellsOf 222) (by rw[u];decide) (by rw[u];omega);go_enter func193,ntmps193;go_wp2;rw[Lib.run_to_unsafe w ⟨a,0,none⟩ underlying220 underlying193 p (by rw[r];decide) i (by grind)];simp only[Result.andThen];rw[Oper.upon_value];go_wp2;rw[run_callFunc_extern func244 (by kernel_rfl) (by kernel_rfl) (by kernel_rfl) (e:=Extern.AbiNoEscape.same) (by kernel_rfl)];rw[Lib.run_noEscape];simp only[Result.andThen];rw[Oper.upon_value];go_wp2;rw[Lib.run_from_unsafe w ⟨a,0,none⟩ underlying193 underlying220 p i g];simp only[Result.andThen];rw[Oper.upon_value];go_wp2;go_end0;exact⟨_,S,L,rfl,by simp only[Rep];exact⟨[],rfl,Au.nil⟩,n,q⟩
  ·rename_i M;split at h
   case isFalse=>cases h
   rename_i N;subst N;cases h;obtain⟨Q,G,R,D⟩:=F 0 _ rfl;simp only[Rep]at D;obtain⟨E,K,k,rfl⟩:=D;rw[m]at k;cases k;have I:=(KZ z 0).trans G;go_enter func193,ntmps193;go_wp2;rw[Lib.run_neq_ptr_same w _ underlying220 p];go_wp2;go_end0;exact⟨_,S,L,rfl,by simp only[Rep];exact⟨[],rfl,Au.nil⟩,l,Later.refl⟩
  ·cases h
 ·cases h
def Jzc(w:AA)(o:Go.Obj)(p:Addr)(hp:p.block<w.heap.size)(v:Ap):(w.setCell p v).alloc o=(w.alloc o).setCell p v:=by
 simp only[World.setCell,World.alloc];congr 1
 grind
set_option maxHeartbeats 2000000 in
def QaE(a n:Nat)(w:AA)(k:w.cell? ⟨a,1,none⟩=some (.slice none 0 0))(b:a<w.heap.size)(l:w.frozen? ⟨a,1,none⟩=false)(r:n<=4000000):
  Calls prog 281 #[.pointer (some ⟨a,0,none⟩),.int .i64 n] w fun e m=>e= .returned (.tuple #[])/\∃cs:CX Ap,n<=cs.size/\cs.size<=maxLen/\m=((w.alloc (.cells cs 5)).setCell ⟨a,1,none⟩ (.slice (some ⟨w.heap.size,0,none⟩) 0 cs.size)).drew.drew.drew:=by
 obtain⟨cs,c,g,d⟩:=Lib.run_makeNoZero (P:=prog) w.drew #[3] 162 5 underlying162 n (by omega);have j:IntKind.i64.wrap (IntKind.i64.wrap 0+(n:Int))=n:=by
  rw[IntKind.wrap_i64,IntKind.wrap_i64];omega
 have i:(callFunc 326 #[.int .i64 (IntKind.i64.wrap (IntKind.i64.wrap 0+(n:Int)))]).run prog w.drew= .ok (.value (.slice (some ⟨w.drew.heap.size,0,none⟩) n cs.size)) (w.drew.drew.drew.alloc (.cells cs 5)):=by
  rw[j,run_callFunc_extern func326 (by kernel_rfl) (by kernel_rfl) (by kernel_rfl) (e:=Extern.BytealgMakeNoZero.makeNoZero #[3] #[162]) (by kernel_rfl),c];rfl
 have q:w.drew.cell? ⟨a,1,none⟩=some (.slice none 0 0):=k;have s:(w.alloc (.cells cs 5)).cell? ⟨a,1,none⟩=some (.slice none 0 0):=by
  rw[<-k];simp only[World.cell?,Lib.alloc_old w _ a b]
 have p:(w.alloc (.cells cs 5)).frozen? ⟨a,1,none⟩=false:=by
  rw[<-l];simp only[World.frozen?,Lib.alloc_old w _ a b]
 have h:∀W:AA,(Builtin.copy_ #[162,162] 3 #[.slice (some ⟨w.heap.size,0,none⟩) 0 cs.size,.slice none 0 0]).run prog W= .ok (goInt 0) W:=
  fun W=>run_copy_none W 162 162 3 5 _ _ 0 cs.size 0 0 underlying162 (by kernel_rfl) rfl
 clear j;have o:=d (by unfold maxLen;omega);go_enter func281,ntmps281;go_wp2;have AX:=AX
 go_region_o
 all_goals (go_wp2;go_end0;exact⟨rfl,cs,g,o,by rw[<-Jzc w _ ⟨a,1,none⟩ b]⟩)
def QcR(b:Nat)(t u:AQ)(H:Ae):Ae:=(H.set b (.cells t 2 [.hp b 0,Aq])++[HO.cells u 1 []]).set b (.cells t 2 [.hp b 0,.hs (H.set b (.cells t 2 [.hp b 0,Aq])).length 0])
def Mo(T u:AQ):GT
 |[.hp b 0,.v (.int .i64 n)],H=>
  match H[b]? with
  |some (.cells t 2 [.v (.pointer none),.v (.slice none 0 0)])=>if t=T/\0<n/\n<=4000000 then some (.tup [],QcR b t u H)else none
  |_=>none
 |_,_=>none
def JrX{B:Nat}{S:Nat->Prop}{L:Ac (Nat×Nat)}{w:AA}{H:Ae}(f:BD B S L w H){b:Nat}{t u:AQ}{x:D}(v:H[b]? =some (.cells t 2 [x,Aq])){a c:Nat}(q:L[b]? =some (a,c))(cs:CX Ap)(A:cs.size<=maxLen):
  ∃h,BD B S h ((w.alloc (.cells cs u)).setCell ⟨a,1,none⟩ (.slice (some ⟨w.heap.size,0,none⟩) 0 cs.size)).drew.drew.drew ((H++[HO.cells u 1 []]).set b (.cells t 2 [x,.hs H.length 0]))/\Later B S S L h w ((w.alloc (.cells cs u)).setCell ⟨a,1,none⟩ (.slice (some ⟨w.heap.size,0,none⟩) 0 cs.size)).drew.drew.drew:=by
 obtain⟨l,g⟩:=f.new w rfl (Below.refl _ _) u 1 cs.size [] cs (by omega) A (by simp) (fun j d p=>by simp at p);have i:=(CV.1 v).1;have e:(H++[HO.cells u 1 []])[b]? =some (.cells t 2 [x,Aq]):=by grind
 obtain⟨r,z⟩:=l.setCell e (TM g.pre _ _ q) 1 (by simp) (x:= .slice (some ⟨w.heap.size,0,none⟩) 0 cs.size) (d:= .hs H.length 0) rfl (by
  simp only[Rep];exact⟨_,_,by rw[<-f.len];simp,F9 _,rfl⟩)
 obtain⟨n,m⟩:=r.drew;obtain⟨k,s⟩:=n.drew;obtain⟨y,o⟩:=k.drew;exact⟨_,y,g.trans (z.trans (m.trans (s.trans o)))⟩
set_option maxHeartbeats 2000000 in
def Jrn:BN prog 246 (Mo 222 5):=by
 refine⟨⟨_,func246,by decide,rfl⟩,fun ds H d H' h B S L vs w J r=> ?_⟩;unfold Mo at h;split at h
 ·rename_i b n;split at h
  case h_2=>cases h
  rename_i t s;split at h
  case isFalse=>cases h
  rename_i ht;obtain⟨rfl,E,W⟩:=ht;cases h;simp only[Au]at r;obtain⟨U,V,rfl,x,R,T,rfl,z,rfl⟩:=r;simp only[Rep]at x z;obtain⟨a,c,K,rfl⟩:=x;subst z;obtain⟨m,rfl⟩:∃m:Nat,n=(m:Int):=⟨n.toNat,by omega⟩;have p:=JiZ.calls [.hp b 0] H (.tup []) (H.set b (.cells 222 2 [.hp b 0,Aq])) (by simp[GC,s]) B S L [.pointer (some ⟨a,0,none⟩)] w J (Au.cons (by simp only[Rep];grind) Au.nil)
  have AX:=AX;go_enter func246,ntmps246;go_wp2_with (go_at_call 193;refine p.mono ?_;rintro e C ⟨v,O,G,rfl,M,j,k⟩);have i:G[b]? =some (a,c):=TM k.pre _ _ K;have g:(H.set b (.cells 222 2 [.hp b 0,Aq]))[b]? =some (.cells 222 2 [.hp b 0,Aq]):=Hw (CV.1 s).1;obtain⟨D,I⟩:=UY j g i 1 (y:= .slice none 0 0) rfl;have Z:C.drew.cell? ⟨a,1,none⟩=some (.slice none 0 0):=D;obtain⟨l,q⟩:=j.drew;have o:=(l.lt g i).2.1
  go_region_o
  all_goals go_wp2_with (go_at_call 281;refine(QaE a m C.drew D o I (by omega)).mono ?_;rintro e Y ⟨rfl,cs,X,Q,rfl⟩)
  all_goals first
   |(go_end0;obtain⟨F,P,N⟩:=JrX (u:= 5) l g i cs Q;exact⟨_,O,F,rfl,by simp only[Rep];exact⟨[],rfl,Au.nil⟩,P,k.trans (q.trans N)⟩)
   |skip
 ·cases h
def lR:D->Af UInt8
 | .v (.int .u8 n)=>if((UInt8.ofNat n.toNat).toNat:Int)=n then some (UInt8.ofNat n.toNat)else none
 |_=>none
theorem Jdu:∀{cs:Ac D} {bs:Ac UInt8},cs.mapM lR=some bs->cs=bs.map fun b=> .v (.int .u8 b.toNat)
 |[],bs,h=>by simp at h;subst h;rfl
 |d::r,bs,h=>by
  simp only[FZ,Zb,Bi]at h;obtain⟨x,c,y,a,h⟩:=h;cases h;rw[Jdu a];unfold lR at c
  grind
def M8(T u:AQ):GT
 |[.hp b 0],H=>
  match H[b]? with
  |some (.cells t 2 [x,.hs j n])=>
   match H[j]? with
   |some (.cells a 1 cs)=>if t=T/\a=u/\0<n/\n=cs.length/\n<=4000000 then(cs.mapM lR).map fun bs=>(.v (.string ⟨bs.toArray⟩),H.set j .dead)else none
   |_=>none
  |_=>none
 |_,_=>none
set_option maxHeartbeats 2000000 in
def Juz:BN prog 142 (M8 222 5):=by
 refine⟨⟨_,func142,by decide,rfl⟩,fun ds H d H' h B S L vs w m F=> ?_⟩;unfold M8 at h;split at h
 ·rename_i b;split at h
  case h_2=>cases h
  rename_i t x j n Z;split at h
  case h_2=>cases h
  rename_i t' cs N;split at h
  case isFalse=>cases h
  rename_i ht;obtain⟨rfl,rfl,R,rfl,hn⟩:=ht;obtain⟨bs,o,h⟩:=DV.1 h;cases h;simp only[Au]at F;obtain⟨u0,t0,rfl,K,rfl⟩:=F;simp only[Rep]at K;obtain⟨p,c,Y,rfl⟩:=K;obtain⟨b',c',arr,P,h2,h3,h4,h5,h6,h7,U⟩:=m.live b _ _ _ Z;rw[Y]at P;cases P;obtain⟨g,cap,a,J,k2,k3,E,k5,k6,k7,V⟩:=m.live j _ _ _ N;obtain⟨y,X,q2,Q⟩:=U 1 _ rfl;simp only[Rep]at Q;obtain⟨g',D,l,G,rfl⟩:=Q;rw[J]at l;cases l;have c1:w.drew.cell? ⟨p,1,none⟩=some (.slice (some ⟨g,0,none⟩) cs.length cap):=(KZ (w:=w) h4 1).trans X;have s:=Jdu o;have hl:cs.length=bs.length:=by rw[s];simp
  rw[hl]at c1;have aa:(Builtin.unsafeSliceData_ #[162] 307 #[.slice (some ⟨g,0,none⟩) bs.length cap]).run prog w.drew= .ok (.pointer (some ⟨g,0,none⟩)) w.drew:=Lib.run_unsafeSliceData_row _ _ _ _ _ _ (by omega);have W:(Builtin.unsafeString_ #[307,3] 9 #[.pointer (some ⟨g,0,none⟩),.int .i64 bs.length]).run prog w.drew= .ok (.string ⟨bs.toArray⟩) (w.drew.freeze ⟨g,0,none⟩ bs.length):=by
   refine Lib.run_unsafeString_row w.drew 307 3 9 5 underlying307 (by kernel_rfl) g a.size (by have k:w.drew.heap[g]? =some (.cells a 5 (0,0)):=E;simp[World.shape?,k]) bs (by grind) (by omega) (by omega) ?_;intro i z hz;obtain⟨v,T,e2,I⟩:=V i (.v (.int .u8 z.toNat)) (by grind);simp only[Rep]at I;subst I;have k:w.drew.heap[g]? =some (.cells a 5 (0,0)):=E;have M:=(KZ k i).trans T;by_cases O:i=0
   ·subst O;simpa[Addr.add]using M
   ·simpa[Addr.add,O]using M
  obtain⟨u,C⟩:=m.drew;obtain⟨r,q⟩:=u.freeze N (by intro e;cases e) J bs.length;have AX:=AX;go_enter func142,ntmps142;go_wp2
  go_region_o
  all_goals (go_wp2;go_ret;exact⟨_,S,L,rfl,by simp only[Rep];rfl,r,C.trans q⟩)
 ·cases h
def sR(P:Aj):Ac Cj:=(193,false,GC 222)::(246,false,Mo 222 5)::(142,false,M8 222 5)::[]
def Jtt:∀p∈sR Aa,Ci Aa p:=AC (CB JiZ)<|AC (CB Jrn)<|AC (CB Juz)<|EN
def B0(P:Aj):Tab:=up P 300 ⟨sR P,BM,[]⟩ [140,322,195]
def Bt:Bg Aa (B0 Aa):=IW (CU Jtt) AX (by kernel_rfl)
def B1(P:Aj):Tab:=up P 300 (up P 300 (B0 P) [280]) [245]
def Jpq:Bg Aa (B1 Aa):=IW (IW Bt AX (by kernel_rfl)) AX (by kernel_rfl)
def JzR:BB (Jc Aa (B1 Aa) 300 194 [iD 0] [])=some (sD [48]):=by kernel_rfl
def Qaz:BB (Jc Aa (B1 Aa) 300 194 [iD 5] [])=some (sD [53]):=by kernel_rfl
def US:Ac (Ac D×D):=[([iD 0],sD [48]),([iD 5],sD [53])]
def Jzj:Bz Aa 194 (Di US):=MO (J4 Jpq AX (by kernel_rfl)) fun p hp=>by
 simp only[US,FY,QZ,or_false]at hp;rcases hp with rfl|rfl
 ·exact JzR
 ·exact Qaz
def JmX:By:=[107,105,108,108,101,100]
def JwJ:By:=[110,111,110,101]
def Yy:By:=[48,32,53,32,48,32,107,105,108,108,101,100,32,110,111,110,101]
def joX:Ac D:=[.sl 1 [[sD [48]],[sD [53]],[sD [48]],[sD JmX],[sD JwJ]],sD [32]]
def Jl4:BB (Jc Aa (B0 Aa) 300 196 joX [])=some (sD Yy):=by kernel_rfl
def joL:Ac (Ac D×D):=[(joX,sD Yy)]
def Jwq:Bz Aa 196 (Di joL):=MO (J4 Bt AX (by kernel_rfl)) (JR Jl4)
def B2(P:Aj):Tab:=Oe [(194,true,Ak (Di US)),(196,true,Ak (Di joL))] (B0 P)
def Jsf:Bg Aa (B2 Aa):=OJ (AC (Bf Jzj)<|AC (Bf Jwq) EN) Bt
def qL:Ac D:=[AL [0],iD 5,iD 0,iD 1,iD (-1)]
def Qbt:BB (Jc Aa (B2 Aa) 300 141 [.agg qL] [])=some (sD (Yy++[10])):=by kernel_rfl
def liL:Ac (Ac D×D):=[([.agg qL],sD (Yy++[10]))]
def Jup:Bz Aa 141 (Di liL):=MO (J4 Jsf AX (by kernel_rfl)) (JR Qbt)
def B3(P:Aj):Tab:=Oe [(141,true,Ak (Di liL)),(139,true,Ak dL)] (B0 P)
def Jxq:Bg Aa (B3 Aa):=OJ (AC (Bf Jup)<|AC (Bf Xs) EN) Bt
def Jtj:BB (Jc Aa (B3 Aa) 300 65 [.sl 5 [qL]] [])=some (.tup [sD (Yy++[10]),iD 0]):=by kernel_rfl
def reL:Ac (Ac D×D):=[([.sl 5 [qL]],.tup [sD (Yy++[10]),iD 0])]
def JtR:Bz Aa 65 (Di reL):=MO (J4 Jxq AX (by kernel_rfl)) (JR Jtj)
def meL:Ac (Ac D×D):=[([.agg (Cf Gh),.agg (Cf Fe)],.tup [.agg (Cf Fe),iD 0])]
def wN:Ac (Ac D×D):=[([.agg (Cf Fe),.agg (Cf Gh)],.tup [.sl 5 [qL],iD 0])]
def Jo6:Bz Aa 61 (Di meL):=MO (J4 Jcq AX (by kernel_rfl)) (JR JzM)
def QdH:Bz Aa 64 (Di wN):=MO (J4 Jcq AX (by kernel_rfl)) (JR Jmm)
def fsN(P:Aj):Ac Cj:=(61,true,Ak (Di meL))::(64,true,Ak (Di wN))::(13,true,Ak (Di CR))::(12,true,Ak (Di Co))::(7,true,Ak (Di qA))::(65,true,Ak (Di reL))::[]
def Jpr:∀p∈fsN Aa,Ci Aa p:=AC (Bf Jo6)<|AC (Bf QdH)<|AC (Bf JfJ)<|AC (Bf P3)<|AC (Bf Vi)<|AC (Bf JtR)<|EN
def N0(P:Aj):Tab:=up P 300 ⟨fsN P,BM,[]⟩ [44]
def QeZ:Bg Aa (N0 Aa):=IW (CU Jpr) AX (by kernel_rfl)
def N1(P:Aj):Tab:=up P 300 (N0 P) [47,60,63]
def QdO:Bg Aa (N1 Aa):=IW QeZ AX (by kernel_rfl)
def N2(P:Aj):Tab:=up P 300 (up P 300 (N1 P) [59]) [58,62]
def Jar:Bg Aa (N2 Aa):=IW (IW QdO AX (by kernel_rfl)) AX (by kernel_rfl)
def N3(P:Aj):Tab:=Oe [(41,false,ZA P (N2 P) 300 41 113)] (N2 P)
def Jhf:Bg Aa (N3 Aa):=OJ (AC (CB (rO Jar AX (by kernel_rfl) (by kernel_rfl) (by kernel_rfl))) EN) Jar
def QeM:BB (Jc Aa (N3 Aa) 300 15 [sD OI,sD Ld] [])=some (.tup [sD Ld,iD 0]):=by kernel_rfl
def Qae:BB (Jc Aa (N3 Aa) 300 16 [sD Ld,sD OI] [])=some (.tup [sD (Yy++[10]),iD 0]):=by kernel_rfl
def tmL:Ac (Ac D×D):=[([sD OI,sD Ld],.tup [sD Ld,iD 0])]
def tdL:Ac (Ac D×D):=[([sD Ld,sD OI],.tup [sD (Yy++[10]),iD 0])]
def QcS:Bz Aa 15 (Di tmL):=MO (J4 Jhf AX (by kernel_rfl)) (JR QeM)
def JpQ:Bz Aa 16 (Di tdL):=MO (J4 Jhf AX (by kernel_rfl)) (JR Qae)
def fsZ(P:Aj):Ac Cj:=(8,true,Ak UU)::(9,true,Ak Xl)::(11,true,Ak (Di trL))::(12,true,Ak (Di Co))::(13,true,Ak (Di CR))::(14,true,Ak (Di smL))::(7,true,Ak (Di qA))::(15,true,Ak (Di tmL))::(16,true,Ak (Di tdL))::[]
def Jlt:∀p∈fsZ Aa,Ci Aa p:=AC (Bf Je3)<|AC (Bf JbU)<|AC (Bf JrK)<|AC (Bf P3)<|AC (Bf JfJ)<|AC (Bf Jx0)<|AC (Bf Vi)<|AC (Bf QcS)<|AC (Bf JpQ)<|EN
def Qap:BB (Jc Aa ⟨fsZ Aa,BM,[]⟩ 300 4 [] [])=some (bD true):=by kernel_rfl
def JyP:Bz Aa 4 nD:=by
 have h:=MO (l:=[([],bD true)]) (J4 (n:=300) (CU Jlt) AX (by kernel_rfl)) (JR Qap);refine⟨h.body,fun ds d a=>h.calls ds d ?_⟩;cases ds with
 |nil=>exact a
 |cons x r=>cases a
section
open Go.ChangeShapes Go.WideShapes Go.ChangeAt Go.RowKit Go.Deep Go.Joins
def Uv{W:AA}{p:Addr}{v:Ap}(h:W.cell? p=some v):p.block<W.heap.size:=by
 unfold World.cell? at h;split at h
 ·rename_i c t s a;exact(IY.1 a).1
 ·cases h
def JeR{W:AA}{p:Addr}{v:Ap}(h:W.cell? p=some v):p.spot=none:=World.cell?_spot h
def DO(b o j:Nat):(⟨b,o,none⟩:Addr).add j=⟨b,o+j,none⟩:=Go.WideShapes.add_plain ..
section
variable {H : Type} {enc : AQ × Ap → H} {W : AA} {d : DataW H} {p : Ac MemPlace}
def JxI{base:Nat}{v:Ap}(a:Value.okWide Aa W .any base 3 v)(h:DataW.Trod enc Aa W 0 (fun _=>true) true 3 v d p):∃x:Int,v= .int .i64 x:=by
 obtain⟨x,rfl,_,_,_⟩:=open_int underlying3 a h;exact⟨x,rfl⟩
end
end
section
open Go.ChangeShapes Go.WideShapes Go.ChangeAt Go.RowKit Go.Deep Go.Joins
section
variable {H : Type} {enc : AQ × Ap → H} {W : AA} {d : DataW H} {p : Ac MemPlace}
end
end
section
open Go.ChangeShapes Go.WideShapes Go.ChangeAt Go.RowKit Go.Deep Go.Joins Go.ChangeMaps
section
variable {H : Type} {enc : AQ × Ap → H} {W : AA} {d : DataW H} {p : Ac MemPlace}
abbrev goInt(n:Int):Prop:= -9223372036854775808<=n/\n<=9223372036854775807
def Hb{n:Int}(h:(Lit.int .i64 n).wf=true):goInt n:=by
 have b:IntKind.i64.min= -9223372036854775808:=by decide
 have a:IntKind.i64.max=9223372036854775807:=by decide
 simp only[Lit.wf,DJ,F5,b,a]at h;exact h
def Jdx{v:Ap}{p:Nat}{y:DataW H×Ac MemPlace}(m:DataW.trod enc Aa W 0 (fun _=>true) true p 22 [v]=some y):∃l,Uc W v l/\∀n∈l,goInt n:=by
 rcases open_ints underlying22 underlying3 (by kernel_rfl) m with⟨a,_⟩|⟨x,len,cap,zs,a,_,r,s,f,_,d,e⟩
 ·simp only[Q3,pR]at a;subst a;exact⟨[],.inl ⟨none,0,rfl,rfl,rfl,fun _=>rfl⟩,by simp⟩
 ·simp only[Q3,pR]at a;subst a;have i:zs.length=cap:=by simpa using f
  refine⟨zs.take len,?_,fun n g=>Hb (e n (qD g))⟩;have c:(zs.take len).length=len:=by grind
  by_cases k:len=0
  ·subst k;exact .inl ⟨_,cap,rfl,c,by simp,fun h=>by cases h⟩
  ·obtain⟨b,off,rfl,o⟩:=ints_at d (by omega);refine .inr ⟨b,off,cap,by rw[c],by omega,by omega,?_,fun j q=> ?_⟩
   ·exact Uv (o 0 (by omega))
   grind
def Jp2{v:Ap}{S:Nat}{y:DataW H×Ac MemPlace}(R:DataW.trod enc Aa W 0 (fun _=>true) true S 23 [v]=some y):∃l,Ip W v l/\∀n∈l,goInt n.1/\goInt n.2:=by
 rcases open_slice_pairs underlying23 underlying44 (by kernel_rfl) rfl rfl (by kernel_rfl) (by kernel_rfl) R with⟨a,_⟩|⟨x,len,cap,m,n,E,s,X,V,U,P1,a,_,Z,T,r,_,u⟩
 ·simp only[Q3,pR]at a;subst a;exact⟨[],.inl ⟨none,0,rfl,rfl,rfl,fun _=>rfl⟩,by simp⟩
 ·simp only[Q3,pR]at a;subst a;have D:m=cap:=by simpa using r
  subst D;have K:∀i,i<m->∃t z:Int,E i= .int .i64 t/\s i= .int .i64 z/\goInt t/\goInt z:=fun i I=>by
   obtain⟨_,_,B,P⟩:=u i I;obtain⟨t,w,_,N⟩:=DataW.trod_int underlying3 B;obtain⟨z,p,_,Q⟩:=DataW.trod_int underlying3 P;exact⟨t,z,by simpa using w,by simpa using p,Hb N,Hb Q⟩
  let f:Nat->Nd:=fun i=>(match E i with| .int _ t=>t|_=>0,match s i with| .int _ z=>z|_=>0);have F:∀i,i<m->E i= .int .i64 (f i).1/\s i= .int .i64 (f i).2/\goInt (f i).1/\goInt (f i).2:=fun i I=>by grind
  refine⟨(List.range len).map f,?_,fun n Y=>by grind⟩;have c:((List.range len).map f).length=len:=by simp
  by_cases B:len=0
  ·subst B;exact .inl ⟨_,m,rfl,by simp,by simp[Gz],fun h=>by cases h⟩
  ·have d:=(u 0 (by omega)).1;have C:=JeR d;obtain⟨b,off,M⟩:=x;have g:M=none:=by simpa[Addr.add]using C
   subst g;have k:b<W.heap.size:=by have:=Uv d;rwa[DO]at this
   refine .inr ⟨b,off,m,by rw[c],by omega,by omega,k,fun j O=> ?_⟩;rw[Wi,c]at O;obtain⟨q,L⟩:∃q,j=2*q\/j=2*q+1:=⟨j/2,by omega⟩;have o:q<m:=by omega
   have e:q<((List.range len).map f).length:=by rw[c];omega
   obtain⟨J,G,_⟩:=u q o;obtain⟨w,p,_⟩:=F q o;rw[DO]at J G;rcases L with rfl|rfl
   ·rw[fX _ q e,show off+2*q=off+q*2 from by omega,J,w];simp
   ·rw[SD _ q e,show off+(2*q+1)=off+(q*2+1)from by omega,G,p];simp
def PC(x:Pg):Prop:=goInt x.params/\(∀n∈x.vars,goInt n)/\∀n∈x.body,goInt n.1/\goInt n.2
def Jga{base:Nat}{v:Ap}(c:Value.okWide Aa W .any base 25 v)(h:DataW.Trod enc Aa W 0 (fun _=>true) true 25 v d p):∃x:Pg,Rep (· <W.heap.size) [] W v (Be x)/\PC x:=by
 obtain⟨g,q,k,s,u,w,n,rfl,_,_,l,f,m⟩:=open_agg3 underlying25 (by kernel_rfl) (by kernel_rfl) c h;obtain⟨t,a,_,b⟩:=DataW.trod_int underlying3 l;obtain⟨o,i,e⟩:=Jdx f;obtain⟨r,w2,j⟩:=Jp2 m;simp at a;refine⟨⟨t,o,r⟩,?_,Hb b,e,j⟩;simp only[Be,DW,Rep];exact⟨[g,q,k],rfl,Au.cons (by rw[a];exact Jj8 t) (Au.cons (lN i) (Au.cons (fP w2) Au.nil))⟩
end
end
section
open Go.ChangeShapes Go.WideShapes Go.ChangeAt Go.RowKit Go.Deep Go.Joins Go.ChangeMaps
section
variable {H : Type} {enc : AQ × Ap → H} {W : AA} {d : DataW H} {p : Ac MemPlace}
theorem uR{S:Nat->Prop}{b sz:Nat}:∀(els:Ac (Ac D)) (o:Nat),(∀i (h:i<els.length),els[i].length=sz/\Eg S [] W b (o+i*sz) els[i])->EM S [] W b o sz els
 |[],o,h=>by simp only[EM]
 |e::r,o,h=>by
  simp only[EM];have a:=h 0 (by simp);simp only[Nat.zero_mul,MZ,List.getElem_cons_zero]at a;refine⟨a.1,a.2,uR r (o+sz) fun i c=> ?_⟩;have:=h (i+1) (by simp;omega);simp only[List.getElem_cons_succ]at this;rwa[show o+sz+i*sz=o+(i+1)*sz from by rw[Nat.add_mul];omega]
def JiP{base:Nat}{v:Ap}(F:Value.okWide Aa W .any base 26 v)(h:DataW.Trod enc Aa W 0 (fun _=>true) true 26 v d p):∃l:Ac (Ac Int),Rep (· <W.heap.size) [] W v (BH l)/\∀t∈l,∀n∈t,goInt n:=by
 obtain⟨a,len,cap,rfl⟩:=okWide_slice underlying26 F;obtain⟨fuel,O⟩:=h;have G:Aa.cellsOf 22 =1:=by kernel_rfl
 rcases open_slice underlying26 O with⟨f,_⟩|⟨x,l,c,m,n,R,U,f,_,T,S,w,_,H⟩
 ·simp[Value.cells]at f;obtain⟨rfl,rfl,rfl⟩:=f;refine⟨[],?_,by simp⟩;simp only[BH,J7,Rep];exact .inl ⟨trivial,none,0,rfl,fun _=>rfl⟩
 ·simp[Value.cells]at f;obtain⟨rfl,rfl,rfl⟩:=f;have z:m=cap:=by simpa using w
  subst z;have each:∀i,i<m->∃q:Ac Int×Ap,W.cell? (x.add i)=some q.2/\Uc W q.2 q.1/\∀n∈q.1,goInt n:=by
   intro i j;obtain⟨cs',E,P⟩:=H i j;rw[G]at E;obtain⟨_,s,g⟩:=World.cells?_some E
   match cs',s with
   |[C],_=>
    have D:=g 0 (by omega);rw[Go.Deep.add_add]at D;obtain⟨J,L,M⟩:=Jdx (v:=C) P;exact⟨(J,C),by simpa using D,L,M⟩
  obtain⟨q,u⟩:=choose_lt each;refine⟨(List.range len).map fun i=>(q i).1,?_,fun t ht=>by
   obtain⟨i,j,rfl⟩:=GN.1 ht;exact(u i (by have:=oZ.1 j;omega)).2.2⟩
  by_cases I:len=0
  ·subst I;simp only[BH,List.range_zero,J7,Rep];exact .inl ⟨trivial,_,m,rfl,fun e=>by cases e⟩
  ·have k:=(u 0 (by omega)).1;have y:=JeR k;obtain⟨b,off,K⟩:=x;have o:K=none:=by simpa[Addr.add]using y
   subst o;have r:b<W.heap.size:=by have:=Uv k;rwa[DO]at this
   simp only[BH,Rep];refine .inr ⟨b,off,m,by simp,by simp;omega,by simp;omega,r,uR _ _ fun i j=> ?_⟩;simp only[Ju,List.length_range]at j;obtain⟨B,Q,_⟩:=u i (by omega);rw[DO]at B;have N:((List.map (fun i=>(q i).1) (List.range len)).map Iz)[i]'(by simpa using j)=Iz (q i).1:=by simp
   rw[N];refine⟨rfl,?_⟩;simp only[Iz,Eg];exact⟨⟨_,by simpa using B,lN Q⟩,trivial⟩
end
end
def JoE(p:Pg)(v:Ap)(s:Ac (Ac Int))(u:Ap)(q:Pg)(c:Ap)(t:Ac (Ac Int))(a:Ap)(f:Int)(w:AA)(j:Rep (· <w.heap.size) [] w v (Be p))(hp:PC p)(m:Rep (· <w.heap.size) [] w u (BH s))(hs:∀l∈s,∀n∈l,goInt n)(b:Rep (· <w.heap.size) [] w c (Be q))(h:PC q)(g:Rep (· <w.heap.size) [] w a (BH t))(ht:∀l∈t,∀n∈l,goInt n):
  Calls prog 3 #[v,u,c,a,.int .i64 f] w fun e k=>e= .returned (.bool true)/\Below w.heap.size w k:=by
 obtain⟨H,i⟩:=Qdg p q s t f (fun x d=>(hp.2.2 x d).2) hs (fun x d=>(h.2.2 x d).2) ht;exact JvV (Jxm JyP) AX func3 (by kernel_rfl) (by decide) i (vs:=[v,u,c,a,.int .i64 f]) (Au.cons j (Au.cons m (Au.cons b (Au.cons g (Au.cons (Jj8 f) Au.nil)))))
end Go.Proofs.YtapdelkomkpgmaaGreatDoor
