import Derived.Tactics
import Derived.Tactics2
import Derived.Defers
import Derived.Laws.Pointers
import Derived.Laws.LoneSync
import Derived.RegionTactic
import Derived.RegionCalls
import Derived.ChangeAlike
import Derived.Laws.NewBlocks
import Derived.Laws.Rows
import Derived.Test.YtapdelkomkpgmaaGreatDoorQk
namespace Go.Proofs.YtapdelkomkpgmaaGreatDoor
open Go.Proofs.Tryz
open Go.RowKit
set_option maxRecDepth 100000
set_option linter.all false
def Jiv(n:Int)(h:0<=n/\n<=18446744073709551615)(H:Ae):Ak mJ [BO n] H=some (sD (BU n),H):=by
 rw[CP _ _ _ rfl];have:mJ [BO n]=_:=EO (A:=kL) _ n
 grind
def JnT(n:Int)(h: -9223372036854775808<=n/\n<=9223372036854775807)(H:Ae):Ak xR [iD n] H=some (BO (Ez n),H):=by
 rw[CP _ _ _ rfl];have:xR [iD n]=_:=EO (A:=BV) _ n
 grind
def qI:Ac D->Af D:=F1 BV fun n=>if-9223372036854775808<=n/\n<=9223372036854775807 then some (sD (BU (Ez n)))else none
def Ks:Ac D->Af D:=F1 kL fun u=>some (BO (IntKind.u64.wrap (u*2)))
def JhK(u:Int):Ag .int .shl (BO u) (.v (.int .u64 1))=some (BO (IntKind.u64.wrap (u*2))):=by rfl
def Qdz:Bz Aa 224 Ks:=FC (kp:=Jbt) Lq AX func224 fun u d h=>by
 cases h
 refine⟨0,_,?_,AY.refl _⟩;show BB (AB _ _ _ _ _ [BO u] [])=_;rw[Jph];simp[JhK]
def Ly:Ac D->Af D:=F1 kL fun u=>some (BO (18446744073709551615-IntKind.u64.wrap (u*2)))
def Jxd(x:Int)(a:0<=x)(c:x<=18446744073709551615):bF (BO x)=some (BO (18446744073709551615-x)):=by
 obtain⟨n,rfl⟩:=Fq a;have b:IntKind.u64.max=18446744073709551615:=by decide
 show EJ .xor .u64 IntKind.u64.max n=_;rw[b];have e:(BitVec.ofInt IntKind.u64.bits 18446744073709551615^^^BitVec.ofInt IntKind.u64.bits (n:Int)).toNat=18446744073709551615-n:=by
  show(BitVec.ofInt 64 18446744073709551615^^^BitVec.ofInt 64 (n:Int)).toNat=_;have:BitVec.ofInt 64 18446744073709551615=BitVec.allOnes 64:=by decide
  rw[this,BitVec.allOnes_xor,BitVec.toNat_not];simp;omega
 show some (D.v (.int .u64 (IntKind.u64.wrap _)))=_;rw[e,IntWalk.u64_in _ ⟨by omega,by omega⟩];unfold BO;congr 3;omega
def QdE:Bz Aa 225 Ly:=FC (kp:=JcB) Lq AX func225 fun u d h=>by
 cases h
 refine⟨0,_,?_,AY.refl _⟩;show BB (AB _ _ _ _ _ [BO u] [])=_;rw[Qak];have a:0<=IntKind.u64.wrap (u*2)/\IntKind.u64.wrap (u*2)<=18446744073709551615:=by rw[IntKind.wrap_u64];omega
 simp[JhK,Jxd _ a.1 a.2]
def Sb:Ac Cj:=(224,true,Ak Ks)::(225,true,Ak Ly)::Wb
def Jef:∀p∈Sb,Ci Aa p:=AC (Bf Qdz)<|AC (Bf QdE)<|Jg7
def nJ:Tab:=⟨Sb,BM,[]⟩
def Qfk:Bg Aa nJ:=CU Jef
def JbN:Ac Nat:=[]
def JnU(n:Nat)(b:D)(h:Ae):AB Aa nJ JbN n f175 [b] h=
(Ad (XX 1 [BI,BI] [(0,(.clo (.func 224) [] [])),(1,(.clo (.func 225) [] []))]) fun j=>
Ah (BX 353 [BI,BI] h) fun d k=>
Ah (Bh 2 d j k) fun p e=>
Ad (Dk .u64 b) fun l=>
Ad (Ag .int .shr l (.v (.int .u64 63))) fun g=>
Ad (Ec 2 1 d g) fun i=>
Ad (Ai none e i) fun m=>
Ad (Dk .u64 b) fun o=>
Ah (C9 nJ m [o] e) fun a c=>
some (a,c)):=by kernel_rfl
def uP:CS=sD []:=rfl
def Jq9:Bz Aa 175 xR:=FC (kp:=JbN) Qfk AX func175 fun n d h=>by
 split at h
 case isFalse=>cases h
 rename_i s;cases h;refine⟨0,_,?_,AY.refl _⟩;show BB (AB _ _ _ _ _ [iD n] [])=_;rw[JnU];have k:∀u:Int,0<=u->Ag .int .shr (BO u) (.v (.int .u64 63))=some (BO (u/9223372036854775808)):=by
  intro u c;show LX .shr .u64 u 63=_;unfold LX;rw[Am (by omega)];have e:min (Int.toNat 63) IntKind.u64.bits=63:=by decide
  have q:(2:Int)^63=9223372036854775808:=by decide
  simp only[e,q];rw[rT _ (by omega)];rfl
 have a:XX 1 [BI,BI] [(0,.clo (.func 224) [] []),(1,.clo (.func 225) [] [])]=some (.agg [.clo (.func 224) [] [],.clo (.func 225) [] []]):=rfl;have g:Dk .u64 (iD n)=some (BO (IntKind.u64.wrap n)):=rfl;have b:IntKind.u64.wrap n=if 0<=n then n else n+18446744073709551616:=by
  rw[IntKind.wrap_u64];split<;>omega
 have l:0<=IntKind.u64.wrap n:=by rw[b];split<;>omega
 have hs:=k _ l;have p:∀(u:Int) (H:Ae),C9 nJ (.clo (.func 224) [] []) [BO u] H=some (BO (IntKind.u64.wrap (u*2)),H):=fun u H=>by
  show Ak Ks [BO u] H=_;rw[CP _ _ _ rfl];have:Ks [BO u]=_:=EO (A:=kL) _ u;rw[this];rfl
 have r:∀(u:Int) (H:Ae),C9 nJ (.clo (.func 225) [] []) [BO u] H=some (BO (18446744073709551615-IntKind.u64.wrap (u*2)),H):=fun u H=>by
  show Ak Ly [BO u] H=_;rw[CP _ _ _ rfl];have:Ly [BO u]=_:=EO (A:=kL) _ u;rw[this];rfl
 unfold Ez;by_cases c:0<=n
 ·rw[b,Aw c]at hs g;have j:n/9223372036854775808=0:=by omega
  rw[j]at hs;have e:IntKind.u64.wrap (n*2)=2*n:=by rw[IntKind.wrap_u64];omega
  have m:∀i o,Ec 2 1 (.hp i o) (BO 0)=some (.hp i o):=fun i o=>by simp[Ec,BO]
  simp[a,BX,Gg,Bh,FI,g,hs,m,p,e,c]
 ·rw[b,Am c]at hs g;have j:(n+18446744073709551616)/9223372036854775808=1:=by omega
  rw[j]at hs;have e:18446744073709551615-IntKind.u64.wrap ((n+18446744073709551616)*2)= -2*n-1:=by rw[IntKind.wrap_u64];omega
  have m:∀i o,Ec 2 1 (.hp i o) (BO 1)=some (.hp i (o+1)):=fun i o=>by simp[Ec,BO]
  simp[a,BX,Gg,Bh,FI,g,hs,m,r,e,c]
def Jjc:Ac Cj:=(175,true,Ak xR)::Sb
def JoU:∀p∈Jjc,Ci Aa p:=AC (Bf Jq9)<|Jef
section
set_option maxRecDepth 100000
end
def Bu:Ac Cj:=Jjc
def RB:∀p∈Bu,Ci Aa p:=JoU
abbrev Yl:=Nat->GT
def Px(Y:Yl):Tab:=⟨Bu,Y,[]⟩
def JxV(Y:Yl)(a:FT Aa Y):Bg Aa (Px Y):=⟨RB,a,fun _ h=>by cases h⟩
section
variable (Y : Yl)
def WZ:Ac Nat:=[0,1]
def Jz4(n:Nat)(d c:D)(h:Ae):AB Aa (Px Y) WZ n f223 [d,c] h=
(Dy (BZ Aa (Px Y) WZ n f223 0 [d,c] h) (fun i b a=>
CW i 0
(Ad (Ai none a (gD b 1)) fun e=>
Ad (Dk .u8 e) fun g=>
Ah (C9 (Px Y) (gD b 0) [g] a) fun k j=>
some (.tup [],j))
(none)) (fun b a=>
some (.tup [],a))):=by kernel_rfl
def Jao(n:Nat)(s0 a:D)(h:Ae):BK Aa (Px Y) WZ n f223 0 [s0,a] h=
(Ad (Ai none h a) fun g=>
Ad (Ag .int .geq g (.v (.int .u64 128))) fun i=>
Az i
(Ad (Ai none h a) fun l=>
Ad (Dk .u8 l) fun j=>
Ad (Ag .int .or j (.v (.int .u8 128))) fun k=>
Ah (C9 (Px Y) s0 [k] h) fun m b=>
Ad (Gn m) fun e=>
Az e
(some (.ret,[s0,a],b))
(Ad (Ai none b a) fun o=>
Ad (Ag .int .shr o (.v (.int .u64 7))) fun p=>
Ah (Bh 1 a p b) fun d c=>
some (.normal,[s0,a],c)))
(some ((.exit 0),[s0,a],h))):=by kernel_rfl
end
def Gk(P:Aj):GT:=CO P oP Juj 0 174
def xB(P:Aj)(Y:Yl):GT:=CO P (Px Y) WZ 12 223
def JoR(Y:Yl)(ds:Ac D)(H:Ae):xB Aa Y ds H=AB Aa (Px Y) WZ 12 f223 ds H:=CJ func223 ds H
def Jrp:BN Aa 174 (Gk Aa):=CQ Lq AX func174
def Jnh(Y:Yl)(a:FT Aa Y):BN Aa 223 (xB Aa Y):=CQ (JxV Y a) AX func223
def TF(P:Aj)(Y:Yl):Tab:=⟨(174,false,Gk P)::(223,false,xB P Y)::Bu,Y,[]⟩
def Jir(Y:Yl)(a:FT Aa Y):Bg Aa (TF Aa Y):=⟨AC (CB Jrp) (AC (CB (Jnh Y a)) RB),a,fun _ h=>by cases h⟩
section
variable (Y : Yl)
def XE:Ac Nat:=[3]
def Jqm(n:Nat)(c:D)(h:Ae):AB Aa (TF Aa Y) XE n f108 [c] h=
(Ah (BX 162 [Aq] h) fun b i=>
Ah ((Gk Aa) [c] i) fun k d=>
PI (IK (TF Aa Y) k [7] (ET f108 0) (EL f108 0) 14 XE [b] d) (fun a=>
Ad (Ai none a b) fun e=>
Ad (MH a e) fun g=>
some (g,a)) (fun j a=>
CW j 0
(Ad (Ai none a b) fun l=>
Ad (MH a l) fun m=>
some (m,a))
(none)) (fun a=>
some (CS,a))):=by kernel_rfl
def JnV(n id:Nat)(s0:D)(a:D)(h:Ae):Mc Aa (TF Aa Y) n id [7] (ET f108 0) (EL f108 0) 14 XE [s0] [a] h=
(IZ id h fun b=>
Ad (Ai none b s0) fun d=>
Ah (DI 5 1 1 [yZ] [(0,a)] b) fun i c=>
Ah (D5 5 1 d i c) fun e j=>
Ah (Bh 1 s0 e j) fun k g=>
J9 id .normal g):=by kernel_rfl
end
def Y1(P:Aj):Yl:=Yn P (TF P) 0 1
def Js3:FT Aa (Y1 Aa):=TW Jir AX 0 1
def Ub(fn:Func)(st:LS):HO:= .loop st [7] (ET fn 0) (EL fn 0) 14 XE [.hp 0 0]
structure Ym(H:Ae)(l:By)(m:Int):Prop where
 len:3<=H.length
 box:∃d,H[0]? =some (.cells 162 1 [d])/\Buf 5 1 H 3 d l.length (Eu l)
 num:H[1]? =some (.cells 50 1 [BO m])
 loop:H[2]? =some (Ub f108 .ready)
def JeS(H:Ae)(l:By)(m:Int)(b:UInt8)(h:Ym H l m)(O:l.length<=1000):∃H',Y1 Aa 2 [Gm b] H=some (bD true,H')/\Ym H' (l++[b]) m:=by
 obtain⟨Q,⟨d,N,F⟩,P,s⟩:=h;have B:Y1 Aa 2 [Gm b] H=Jb Aa (TF Aa BM) 0 2 [Gm b] H:=rfl;have u:Jb Aa (TF Aa BM) 0 2 [Gm b] H=Mc Aa (TF Aa BM) 0 2 [7] (ET f108 0) (EL f108 0) 14 XE [.hp 0 0] [Gm b] H:=by
  unfold Jb;rw[s];simp only[Ub];rw[Aw];refine⟨rfl,?_,?_,?_,?_⟩<;>kernel_rfl
 rw[B,u,JnV];have K:IZ (α:=D×Ae) 2 H=fun k=>k (H.set 2 (Ub f108 .busy)):=by
  funext k;unfold IZ;rw[s];rfl
 rw[K];generalize q:H.set 2 (Ub f108 .busy)=a;have r:a[0]? =some (.cells 162 1 [d]):=by grind
 have G:a[1]? =some (.cells 50 1 [BO m]):=by grind
 have y:a[2]? =some (Ub f108 .busy):=by grind
 have M:3<=a.length:=by grind
 have C:Buf 5 1 a 3 d l.length (Eu l):=by rw[<-q];exact F.set 2 _ (by omega)
 have E:=Gs a 0 _ _ _ _ r;have v:=Jay b a;generalize c:a++[HO.cells 5 1 (Eu [b])]=e at v;have o:Buf 5 1 e 3 d l.length (Eu l):=by rw[<-c];exact C.app _
 have J:e.length=a.length+1:=by rw[<-c];simp
 have n:∀k,k<a.length->e[k]? =a[k]? :=fun k u=>by grind
 have src:GV 1 e (.hs a.length 1)=some (Eu [b]):=by
  have:e[a.length]? =some (.cells 5 1 (Eu [b])):=by rw[<-c];simp
  simp only[GV,this];rfl
 obtain⟨g,i,I,p,j,R,_⟩:=gA o [b] (by simp;omega) (by omega);have w:D5 5 1 d (.hs a.length 1) e=some (g,i):=by unfold D5;rw[src,BR];exact I
 have z:i[0]? =some (.cells 162 1 [d]):=by rw[j.2 0 (by omega),n 0 (by omega)];exact r
 have st:=IV i 0 0 _ _ _ g z (by simp) p.cells p.ok;have x:=j.1;refine⟨(i.set 0 (.cells 162 1 [g])).set 2 (Ub f108 .ready),?_,?_⟩
 ·have L:(i.set 0 (.cells 162 1 [g]))[2]? =some (Ub f108 .busy):=by rw[Ee (by omega),j.2 2 (by omega),n 2 (by omega)];exact y
  simp only[E,AU,v,A7,w,st,Zj];unfold J9;rw[L];rfl
 ·refine⟨by simp;omega,⟨g,?_,?_⟩,?_,?_⟩
  ·grind
  ·exact(p.set 0 _ (by omega)).set 2 _ (by omega)
  ·rw[Ee (by omega),Ee (by omega),j.2 1 (by omega),n 1 (by omega)];exact G
  grind
def JuH(m:Int):Ag .int .or (Gm (b8 m)) (.v (.int .u8 128))=some (Gm (b8 (128+m%128))):=by
 have key:∀a:Fin 256,(BitVec.ofInt 8 (a.val:Int)|||BitVec.ofInt 8 128).toNat=128+a.val%128:=by decide+kernel
 have d:=iJ m;have b:=(b8 m).toNat_lt;have:=key ⟨(b8 m).toNat,b⟩;rw[Gm,Jgd];show some (D.v (.int .u8 (IntKind.u8.wrap (BitVec.ofInt 8 ((b8 m).toNat:Int)|||BitVec.ofInt 8 128).toNat)))=_;simp only at this;rw[this,IntWalk.u8_in _ ⟨by omega,by omega⟩];have c:=iJ (128+m%128);unfold Gm;congr 3;omega
def QbC(m:Int):Ag .int .shr (BO m) (.v (.int .u64 7))=some (BO (m/128)):=by
 show LX .shr .u64 m 7=_;unfold LX;rw[Am (by omega)];have e:min (Int.toNat 7) IntKind.u64.bits=7:=by decide
 have a:(2:Int)^7=128:=by decide
 simp only[e,a];rw[rT _ (by omega)];rfl
def Jw7:∀(f n:Nat) (m:Int) (l:By) (H:Ae),Ym H l m->0<=m->m<128*128^f->f<n->l.length+f<=1000->∃m' a H',DY (BK Aa (Px (Y1 Aa)) WZ 12 f223 0) n [.yld 2,.hp 1 0] H=some (.exit 0,[.yld 2,.hp 1 0],H')/\Ym H' a m'/\a.length<=1000/\a++[b8 m']=l++NE f m:=by
 intro f;have one:∀(f n:Nat) (m:Int) (l:By) (H:Ae),Ym H l m->m<128->f<n->l.length+f<=1000->∃m' a H',DY (BK Aa (Px (Y1 Aa)) WZ 12 f223 0) n [.yld 2,.hp 1 0] H=some (.exit 0,[.yld 2,.hp 1 0],H')/\Ym H' a m'/\a.length<=1000/\a++[b8 m']=l++NE f m:=by
  intro f n m l H h o q u;obtain⟨n,rfl⟩:∃k,n=k+1:=⟨n-1,by omega⟩;have i:=Gs H 1 _ _ _ _ h.num;have hp:NE f m=[b8 m]:=by cases f<;>simp[NE,o]
  refine⟨m,l,H,PP ?_,h,by omega,by rw[hp]⟩;rw[Jao];have g:Ag .int .geq (BO m) (.v (.int .u64 128))=some (bD (decide (128<=m))):=by rw[BO,Zn]
  simp only[i,AU,g,Bd,F5];rw[Am (by omega)]
 induction f with
 |zero=>grind
 |succ f r=>
  intro n m l H h K G q u;by_cases o:m<128
  ·grind
  ·obtain⟨n,rfl⟩:∃k,n=k+1:=⟨n-1,by omega⟩;have hp:(128:Int)^(f+1)=128*128^f:=by omega
   have i:=Gs H 1 _ _ _ _ h.num;have g:Ag .int .geq (BO m) (.v (.int .u64 128))=some (bD (decide (128<=m))):=by rw[BO,Zn]
   obtain⟨c,B,j⟩:=JeS H l m (b8 (128+m%128)) h (by omega);have E:=Gs c 1 _ _ _ _ j.num;have st:=IV c 1 0 _ _ _ (BO (m/128)) j.num (by simp) rfl rfl;have x:=UG .u64 m;have s:Ym (c.set 1 (.cells 50 1 [BO (m/128)])) (l++[b8 (128+m%128)]) (m/128):=by
    obtain⟨v,⟨d,I,D⟩,J,F⟩:=j;exact⟨by simpa using v,⟨d,by grind,D.set 1 _ (by omega)⟩,by grind,by grind⟩
   have b:BK Aa (Px (Y1 Aa)) WZ 12 f223 0 [.yld 2,.hp 1 0] H=some (.normal,[.yld 2,.hp 1 0],c.set 1 (.cells 50 1 [BO (m/128)])):=by
    rw[Jao];have z:C9 (Px (Y1 Aa)) (.yld 2) [Gm (b8 (128+m%128))] H=some (bD true,c):=B;simp only[i,AU,g,Bd,F5];rw[Aw (by omega)];have e:Dk .u8 (BO m)=some (Gm (b8 m)):=x;simp only[e,AU,JuH,z,A7,nI,MX,Bd,BF,BC,E,QbC,st,Zj]
   obtain⟨m',a,H',p,C,y,w⟩:=r n (m/128) _ _ s (by omega) (by omega) (by omega) (by simp;omega);refine⟨m',a,H',by rw[IQ b];exact p,C,y,?_⟩;rw[w,FV];congr 1;simp[NE,o]
def Jmn:Bz Aa 108 mJ:=FC (kp:=XE) (Jir (Y1 Aa) Js3) AX func108 fun n d h=>by
 split at h
 case isFalse=>cases h
 rename_i o;cases h;refine⟨0,_,?_,AY.refl _⟩;show BB (AB _ _ _ _ _ [BO n] [])=_;rw[Jqm];have k:BX 162 [Aq] []=some (.hp 0 0,[.cells 162 1 [Aq]]):=rfl;have r:Gk Aa [BO n] [.cells 162 1 [Aq]]=some (.clo (.func 223) [] [.hp 1 0],[.cells 162 1 [Aq],.cells 50 1 [BO n]]):=by rfl
 have v:Ym [.cells 162 1 [Aq],.cells 50 1 [BO n],Ub f108 .ready] [] n:=⟨by simp,⟨_,rfl,Buf.nil _ _ _ _⟩,rfl,rfl⟩;have b:(128:Int)^9=9223372036854775808:=by decide
 obtain⟨m',j,H',m,g,x,e⟩:=Jw7 9 12 n [] _ v o.1 (by rw[b];omega) (by omega) (by simp);obtain⟨a,z,D⟩:=JeS H' j m' (b8 m') g x;have C:=Gs H' 1 _ _ _ _ g.num;have w:Dk .u8 (BO m')=some (Gm (b8 m')):=UG .u64 m';have y:C9 (Px (Y1 Aa)) (.yld 2) [Gm (b8 m')] H'=some (bD true,a):=z;have u:xB Aa (Y1 Aa) [.yld 2,.hp 1 0] [.cells 162 1 [Aq],.cells 50 1 [BO n],Ub f108 .ready]=some (.tup [],a):=by
  rw[JoR,Jz4];have c:BZ Aa (Px (Y1 Aa)) WZ 12 f223 0 [.yld 2,.hp 1 0] [.cells 162 1 [Aq],.cells 50 1 [BO n],Ub f108 .ready]=some (.exit 0,[.yld 2,.hp 1 0],H'):=m;rw[c];simp only[Kw,Kv,NJ,NM,C,AU,w,y,A7]
 obtain⟨F,⟨d,G,B⟩,H,l⟩:=D;have i:IK (TF Aa (Y1 Aa)) (.clo (.func 223) [] [.hp 1 0]) [7] (ET f108 0) (EL f108 0) 14 XE [.hp 0 0] [.cells 162 1 [Aq],.cells 50 1 [BO n]]=some (.normal,a.set 2 .dead):=by
  have s:IK (TF Aa (Y1 Aa)) (.clo (.func 223) [] [.hp 1 0]) [7] (ET f108 0) (EL f108 0) 14 XE [.hp 0 0] [.cells 162 1 [Aq],.cells 50 1 [BO n]]=MQ (xB Aa (Y1 Aa) [.yld 2,.hp 1 0] [.cells 162 1 [Aq],.cells 50 1 [BO n],Ub f108 .ready]) 2:=rfl;rw[s,u];unfold MQ;simp only[l];rfl
 have q:(a.set 2 HO.dead)[0]? =some (.cells 162 1 [d]):=by grind
 have E:=Gs _ 0 _ _ _ _ q;have p:=(B.set 2 .dead (by omega)).text;simp only[JO]at e;rw[k];simp only[A7,r,i,mP,E,AU,p,e,JzF];rfl
def Re:Ac Cj:=(108,true,Ak mJ)::Bu
def Jjr:∀p∈Re,Ci Aa p:=AC (Bf Jmn)<|RB
def QS:Tab:=⟨Re,BM,[]⟩
def pV:Bg Aa QS:=CU Jjr
def JdN:Ac Nat:=[]
def Jqb(n:Nat)(a:D)(h:Ae):AB Aa QS JdN n f109 [a] h=
(Ah (Ak xR [a] h) fun e c=>
Ah (Ak mJ [e] c) fun d b=>
some (d,b)):=by kernel_rfl
def Rc:Ac Nat:=[]
def Jo1(n:Nat)(a c:D)(h:Ae):AB Aa QS Rc n f32 [a,c] h=
(Dx 0 none h a fun i=>
Ah (DI 5 1 1 [yZ] [(0,c)] h) fun e g=>
Ah (D5 5 1 i e g) fun j d=>
Ha 0 1 a j d fun k b=>
some (a,b)):=by kernel_rfl
def Mj:Ac Nat:=[]
def Jty(n:Nat)(a b:D)(h:Ae):AB Aa QS Mj n f107 [a,b] h=
(Dx 0 none h a fun g=>
Ah (UQ 5 1 g b h) fun c d=>
Ha 0 1 a c d fun i e=>
some (a,e)):=by kernel_rfl
def Tw:Ac Nat:=[]
def QeX(n:Nat)(a:D)(h:Ae):AB Aa QS Tw n f34 [a] h=
(Dx 0 none h a fun c=>
Ad (MH h c) fun b=>
some (b,h)):=by kernel_rfl
def JdH:Ac Nat:=[]
def Jmo(n:Nat)(c:D)(h:Ae):AB Aa QS JdH n f33 [c] h=
(Ah (BX 71 [BI,BI] h) fun a b=>
Ad (Ag .int .eql c (iD 1)) fun S=>
Az S
(Ad (CY [(0,1),(1,1)] [BI,BI] [(0,(.clo (.func 37) [] [])),(1,(.clo (.func 97) [] []))]) fun O=>
Ah (Bh 2 a O b) fun U I=>
Ad (Ai (some 2) I a) fun L=>
some (.tup [L,(bD true)],I))
(Ad (Ag .int .eql c (iD 2)) fun N=>
Az N
(Ad (CY [(0,1),(1,1)] [BI,BI] [(0,(.clo (.func 30) [] [])),(1,(.clo (.func 98) [] []))]) fun T=>
Ah (Bh 2 a T b) fun V j=>
Ad (Ai (some 2) j a) fun H=>
some (.tup [H,(bD true)],j))
(Ad (Ag .int .eql c (iD 3)) fun r=>
Az r
(Ad (CY [(0,1),(1,1)] [BI,BI] [(0,(.clo (.func 30) [] [])),(1,(.clo (.func 98) [] []))]) fun u=>
Ah (Bh 2 a u b) fun R k=>
Ad (Ai (some 2) k a) fun x=>
some (.tup [x,(bD true)],k))
(Ad (Ag .int .eql c (iD 4)) fun B=>
Az B
(Ad (CY [(0,1),(1,1)] [BI,BI] [(0,(.clo (.func 30) [] [])),(1,(.clo (.func 98) [] []))]) fun y=>
Ah (Bh 2 a y b) fun M e=>
Ad (Ai (some 2) e a) fun q=>
some (.tup [q,(bD true)],e))
(Ad (Ag .int .eql c (iD 20)) fun F=>
Az F
(Ad (CY [(0,1),(1,1)] [BI,BI] [(0,(.clo (.func 30) [] [])),(1,(.clo (.func 98) [] []))]) fun z=>
Ah (Bh 2 a z b) fun P g=>
Ad (Ai (some 2) g a) fun o=>
some (.tup [o,(bD true)],g))
(Ad (Ag .int .eql c (iD 21)) fun G=>
Az G
(Ad (CY [(0,1),(1,1)] [BI,BI] [(0,(.clo (.func 30) [] [])),(1,(.clo (.func 98) [] []))]) fun w=>
Ah (Bh 2 a w b) fun K d=>
Ad (Ai (some 2) d a) fun s=>
some (.tup [s,(bD true)],d))
(Ad (Ag .int .eql c (iD 22)) fun E=>
Az E
(Ad (CY [(0,1),(1,1)] [BI,BI] [(0,(.clo (.func 30) [] [])),(1,(.clo (.func 98) [] []))]) fun C=>
Ah (Bh 2 a C b) fun J i=>
Ad (Ai (some 2) i a) fun m=>
some (.tup [m,(bD true)],i))
(Ad (CY [(0,1),(1,1)] [BI,BI] []) fun v=>
Ah (Bh 2 a v b) fun Q l=>
Ad (Ai (some 2) l a) fun p=>
some (.tup [p,(bD false)],l))))))))):=by kernel_rfl
def JtU:Bz Aa 109 qI:=FC (kp:=JdN) pV AX func109 fun n d h=>by
 split at h
 case isFalse=>cases h
 rename_i a;cases h;refine⟨0,_,?_,AY.refl _⟩;show BB (AB _ _ _ _ _ [iD n] [])=_;rw[Jqb];simp[JnT n a,Jiv (Ez n) (Hp n a.1 a.2)]
def Ea(H:Ae)(w B:Nat)(l:By):Prop:=w<B/\B<=H.length/\∃d,H[w]? =some (.cells 164 1 [d])/\Buf 5 1 H B d l.length (Eu l)
def Yz(H:Ae)(w k:Nat):Prop:=∀t sz q,H[w]? ≠some (.cells t sz [.hs k q])
def Hq(w:Nat)(H H':Ae):Prop:=H.length<=H'.length/\∀k,k<H.length->k≠w->Yz H w k->H'[k]? =H[k]? /\Yz H' w k
def Hq.refl(w:Nat)(H:Ae):Hq w H H:=⟨BQ _,fun _ _ _ h=>⟨rfl,h⟩⟩
def Hq.trans{w:Nat}{H H' c:Ae}(h:Hq w H H')(k:Hq w H' c):Hq w H c:=⟨Ig h.1 k.1,fun i e d f=>by
 have a:=h.2 i e d f;have b:=k.2 i (OM e h.1) d a.2
 grind⟩
def Hq.app(w:Nat)(H t:Ae)(a:w<H.length):Hq w H (H++t):=⟨by simp,fun k b _ c=>⟨Ii b,fun t sz q=>by rw[Ii a];exact c t sz q⟩⟩
def Hq.other{w:Nat}{H H':Ae}(f:H.length<=H'.length)(b:H'[w]? =H[w]?)(e:∀k,k<H.length->k≠w->Yz H w k->H'[k]? =H[k]?):Hq w H H':=⟨f,fun k d c a=>⟨e k d c a,fun t sz q=>by rw[b];exact a t sz q⟩⟩
def Ea.lt{H:Ae}{w B:Nat}{l:By}(h:Ea H w B l):w<H.length:=by have:=h.1;have:=h.2.1;omega
def Ea.notRow{H:Ae}{w B:Nat}{l:By}(h:Ea H w B l)(k:Nat)(g:k<B\/H.length<=k):Yz H w k:=by
 obtain⟨f,c,d,a,b⟩:=h;intro t sz q e;rw[a]at e;cases e;have:=b.lt;omega
def Hq.grow{a f:Ae}{w:Nat}{d c:D}(b:a[w]? =some (.cells 164 1 [d]))(m:a.length<=f.length)(n:∀k,k<a.length->(∀q,d≠ .hs k q)->f[k]? =a[k]?)(j:c=d\/∃q,c= .hs a.length q):Hq w a (f.set w (.cells 164 1 [c])):=by
 have h:=(CV.1 b).1;refine⟨by simpa using m,fun k l i g=>⟨?_,fun t sz q e=> ?_⟩⟩
 ·rw[Ee (by omega)];exact n k l fun q e=>g _ _ q (by rw[b,e])
 ·rw[Hw (by omega)]at e;cases e;rcases j with e|⟨o,e⟩
  ·exact g _ _ q (by rw[b,<-e])
  ·cases e;omega
def Ea.app{H:Ae}{w B:Nat}{l:By}(h:Ea H w B l)(t:Ae):Ea (H++t) w B l:=by
 obtain⟨b,e,d,c,a⟩:=h;exact⟨b,by simp;omega,d,by grind,a.app t⟩
def Ea.keep{H H':Ae}{w B:Nat}{l:By}(h:Ea H w B l)(j:H.length<=H'.length)(g:H'[w]? =H[w]?)(b:∀r m d,H[w]? =some (.cells 164 1 [d])->d= .hs r m->H'[r]? =H[r]?):Ea H' w B l:=by
 obtain⟨f,i,d,a,c⟩:=h;exact⟨f,by omega,d,g.trans a,c.keep fun r m e=>b r m d a e⟩
def Uu(P:Aj):GT:=CO P QS Rc 0 32
def Qcz(ds:Ac D)(H:Ae):Uu Aa ds H=AB Aa QS Rc 0 f32 ds H:=CJ func32 ds H
def Qb8:BN Aa 32 (Uu Aa):=CQ pV AX func32
def OL(P:Aj):GT:=CO P QS Mj 0 107
def Qe1(ds:Ac D)(H:Ae):OL Aa ds H=AB Aa QS Mj 0 f107 ds H:=CJ func107 ds H
def JkE:BN Aa 107 (OL Aa):=CQ pV AX func107
def NS(P:Aj):GT:=CO P QS Tw 0 34
def JnF(ds:Ac D)(H:Ae):NS Aa ds H=AB Aa QS Tw 0 f34 ds H:=CJ func34 ds H
def QeQ:BN Aa 34 (NS Aa):=CQ pV AX func34
def OB(P:Aj):GT:=CO P oP Jvn 0 31
def JqH:BN Aa 31 (OB Aa):=CQ Lq AX func31
def VT(H:Ae):OB Aa [] H=some (.hp H.length 0,H++[.cells 164 1 [Aq]]):=by rfl
def Wy(H:Ae):Ea (H++[.cells 164 1 [Aq]]) H.length (H.length+1) []:=⟨by omega,by simp,_,by simp,Buf.nil _ _ _ _⟩
def ZP(H:Ae)(w B:Nat)(l:By)(b:UInt8)(h:Ea H w B l)(n:l.length+1<=4000000):∃H',Uu Aa [.hp w 0,Gm b] H=some (.hp w 0,H')/\Ea H' w B (l++[b])/\Hq w H H':=by
 obtain⟨f,u,d,j,k⟩:=h;have s:=Gs H w _ _ _ _ j;have v:=Jay b H;have src:GV 1 (H++[HO.cells 5 1 (Eu [b])]) (.hs H.length 1)=some (Eu [b]):=by
  have:(H++[HO.cells 5 1 (Eu [b])])[H.length]? =some (.cells 5 1 (Eu [b])):=by simp
  simp only[GV,this];rfl
 obtain⟨a,c,p,g,i,q,o⟩:=gA (k.app [HO.cells 5 1 (Eu [b])]) [b] (by simpa using n) (by simp;omega);have r:D5 5 1 d (.hs H.length 1) (H++[HO.cells 5 1 (Eu [b])])=some (a,c):=by unfold D5;rw[src,BR];exact p
 have m:c[w]? =some (.cells 164 1 [d]):=by rw[i.2 w f,Ii (by omega)];exact j
 have st:=IV c w 0 _ _ _ a m (by simp) g.cells g.ok;have e:=i.1;simp only[DC,Oh]at e;refine⟨c.set w (.cells 164 1 [a]),?_,⟨f,by simp;omega,a,by grind,g.set w _ f⟩,(Hq.app w H _ (by omega)).trans (Hq.grow (by grind) i.1 q o)⟩;rw[Qcz,Jo1];unfold Dx Ha;simp_all
def ZO(H:Ae)(w B:Nat)(l m:By)(h:Ea H w B l)(n:l.length+m.length<=4000000):∃H',OL Aa [.hp w 0,sD m] H=some (.hp w 0,H')/\Ea H' w B (l++m)/\Hq w H H':=by
 obtain⟨c,o,d,e,i⟩:=h;have u:=Gs H w _ _ _ _ e;obtain⟨a,b,q,f,g,r,p⟩:=gA i m n o;have s:UQ 5 1 d (sD m) H=some (a,b):=by rw[Jva];exact q
 have k:b[w]? =some (.cells 164 1 [d]):=by rw[g.2 w c];exact e
 have st:=IV b w 0 _ _ _ a k (by simp) f.cells f.ok;have j:=g.1;refine⟨b.set w (.cells 164 1 [a]),?_,⟨c,by simp;omega,a,by grind,f.set w _ c⟩,Hq.grow e g.1 r p⟩;rw[Qe1,Jty];unfold Dx Ha;simp_all
def Xh(H:Ae)(w B:Nat)(l:By)(h:Ea H w B l):NS Aa [.hp w 0] H=some (sD l,H):=by
 obtain⟨f,e,d,b,a⟩:=h;have c:=Gs H w _ _ _ _ b;rw[JnF,QeX];unfold Dx;simp only[QdG,AU,Qas,MZ,c,a.text]
def FL:Ac D->Af D:=F1 BV fun t=>some (
 if Jf t=2 then .tup [.agg [.clo (.func 37) [] [],.clo (.func 97) [] []],bD true]
 else if Jf t=1 then .tup [.agg [.clo (.func 30) [] [],.clo (.func 98) [] []],bD true]
 else .tup [.agg [BI,BI],bD false])
def JyV:Bz Aa 33 FL:=FC (kp:=JdH) pV AX func33 fun t d h=>by
 cases h
 refine⟨0,_,?_,AY.refl _⟩;show BB (AB _ _ _ _ _ [iD t] [])=_;rw[Jmo];unfold Jf;have m:CY [(0,1),(1,1)] [BI,BI] [(0,.clo (.func 37) [] []),(1,.clo (.func 97) [] [])]=some (.agg [.clo (.func 37) [] [],.clo (.func 97) [] []]):=rfl;have b:CY [(0,1),(1,1)] [BI,BI] [(0,.clo (.func 30) [] []),(1,.clo (.func 98) [] [])]=some (.agg [.clo (.func 30) [] [],.clo (.func 98) [] []]):=rfl;have n:CY [(0,1),(1,1)] [BI,BI] []=some (.agg [BI,BI]):=rfl;have a:∀f:Fn,EC (.clo f [] [])=true:=fun _=>rfl;by_cases k:t=1
 ·simp[k,BX,Gg,Bh,FI,m,a]
 by_cases i:t=2
 ·simp[i,BX,Gg,Bh,FI,b,a]
 by_cases c:t=3
 ·simp[c,BX,Gg,Bh,FI,b,a]
 by_cases g:t=4
 ·simp[g,BX,Gg,Bh,FI,b,a]
 by_cases l:t=20
 ·simp[l,BX,Gg,Bh,FI,b,a]
 by_cases e:t=21
 ·simp[e,BX,Gg,Bh,FI,b,a]
 by_cases j:t=22
 ·simp[j,BX,Gg,Bh,FI,b,a]
 simp[k,i,c,g,l,e,j,BX,Gg,Bh,FI,n]
def Pu(P:Aj):Ac Cj:=(109,true,Ak qI)::(32,false,Uu P)::(107,false,OL P)::(34,false,NS P)::(31,false,OB P)::(33,true,Ak FL)::Re
def JcF:∀p∈Pu Aa,Ci Aa p:=AC (Bf JtU)<|AC (CB Qb8)<|AC (CB JkE)<|AC (CB QeQ)<|AC (CB JqH)<|AC (Bf JyV)<|Jjr
def Yb(P:Aj):Tab:=⟨Pu P,BM,[]⟩
def JeB:Bg Aa (Yb Aa):=CU JcF
def Sa:Ac Nat:=[]
def Jv3(n:Nat)(b a:D)(h:Ae):AB Aa (Yb Aa) Sa n f36 [b,a] h=
(Ah (Ak mJ [a] h) fun g d=>
Ah ((OL Aa) [b,g] d) fun e c=>
some (e,c)):=by kernel_rfl
def Ng:Ac Nat:=[]
def JlJ(n:Nat)(b a:D)(h:Ae):AB Aa (Yb Aa) Ng n f37 [b,a] h=
(Ah (Ak qI [a] h) fun g d=>
Ah ((OL Aa) [b,g] d) fun e c=>
some (e,c)):=by kernel_rfl
def Qdt(n:Int)(h: -9223372036854775808<=n/\n<=9223372036854775807)(H:Ae):Ak qI [iD n] H=some (sD (BU (Ez n)),H):=by
 rw[CP _ _ _ rfl];have:qI [iD n]=_:=EO (A:=BV) _ n;rw[this,Aw h];rfl
def Kq(P:Aj):GT:=CO P (Yb P) Sa 0 36
def Qe5(ds:Ac D)(H:Ae):Kq Aa ds H=AB Aa (Yb Aa) Sa 0 f36 ds H:=CJ func36 ds H
def Jx9:BN Aa 36 (Kq Aa):=CQ JeB AX func36
def Ob(H:Ae)(w B:Nat)(l:By)(n:Int)(b:0<=n/\n<=18446744073709551615)(h:Ea H w B l)(e:l.length+10<=4000000):∃H',Kq Aa [.hp w 0,BO n] H=some (.hp w 0,H')/\Ea H' w B (l++BU n)/\Hq w H H':=by
 obtain⟨H',d,c,a⟩:=ZO H w B l (BU n) h (by have:=(Et n).2;omega);refine⟨H',?_,c,a⟩;rw[Qe5,Jv3];simp only[Jiv n b,A7,d]
def bY(P:Aj):GT:=CO P (Yb P) Ng 0 37
def Jr5(ds:Ac D)(H:Ae):bY Aa ds H=AB Aa (Yb Aa) Ng 0 f37 ds H:=CJ func37 ds H
def QeD:BN Aa 37 (bY Aa):=CQ JeB AX func37
def rF(H:Ae)(w B:Nat)(l:By)(n:Int)(b: -9223372036854775808<=n/\n<=9223372036854775807)(h:Ea H w B l)(e:l.length+10<=4000000):∃H',bY Aa [.hp w 0,iD n] H=some (.hp w 0,H')/\Ea H' w B (l++BU (Ez n))/\Hq w H H':=by
 obtain⟨H',d,c,a⟩:=ZO H w B l (BU (Ez n)) h (by have:=(Et (Ez n)).2;omega);refine⟨H',?_,c,a⟩;rw[Jr5,JlJ];simp only[Qdt n b,A7,d]
def G1(P:Aj):Ac Cj:=(36,false,Kq P)::(37,false,bY P)::Pu P
def eW:∀p∈G1 Aa,Ci Aa p:=AC (CB Jx9)<|AC (CB QeD)<|JcF
def xI(P:Aj):Tab:=⟨G1 P,BM,[]⟩
def Qc9:Bg Aa (xI Aa):=CU eW
def BD.setCell{B:Nat}{S:Nat->Prop}{L:Ac (Nat×Nat)}{w:AA}{H:Ae}(h:BD B S L w H){id:Nat}{t:AQ}{sz:Nat}{cs:Ac D}(hid:H[id]? =some (HO.cells t sz cs)){b c:Nat}(e:L[id]? =some (b,c))(off:Nat){x:Ap}{d:D}(o:off<cs.length)(p:x.oneCell'=true)(u:Rep S L w x d):
  BD B S L (w.setCell ⟨b,off,none⟩ x) (H.set id (.cells t sz (cs.set off d)))/\Later B S S L L w (w.setCell ⟨b,off,none⟩ x):=by
 obtain⟨s,l,arr,a,v,q,f,i,m,g,n⟩:=h.live id t sz cs hid;rw[e]at a;cases a;rw[setCell_eq_setRow w b off arr t (0,0) x f];refine h.write hid e (arr.setIfInBounds off x) (cs.set off d) (by simpa using i) (by simpa using g) fun j r k=> ?_
 grind
def disable(w:AA):(callFunc 330 #[]).run Aa w= .ok (.value (.tuple #[])) w:=run_call_mark0 func330 (by kernel_rfl) (by kernel_rfl) (by kernel_rfl) .disable (by kernel_rfl) w
def enable(w:AA):(callFunc 332 #[]).run Aa w= .ok (.value (.tuple #[])) w:=run_call_mark0 func332 (by kernel_rfl) (by kernel_rfl) (by kernel_rfl) .enable (by kernel_rfl) w
def acquire(a:Addr)(w:AA):(callFunc 333 #[.pointer (some a)]).run Aa w= .ok (.value (.tuple #[])) w:=run_call_marked func333 (by kernel_rfl) (by kernel_rfl) (by kernel_rfl) .acquire (by kernel_rfl) a w
def releaseMerge(a:Addr)(w:AA):(callFunc 335 #[.pointer (some a)]).run Aa w= .ok (.value (.tuple #[])) w:=run_call_marked func335 (by kernel_rfl) (by kernel_rfl) (by kernel_rfl) .releaseMerge (by kernel_rfl) a w
def QdZ(a:Addr)(x:Ap)(u:FrameMode)(w:AA)(j:w.cell? a=some x)(i:w.frozen? a=false):
  CallsD prog 251 #[.pointer (some a),.bool true] u w fun e d g=>d=u/\(e= .returned (.tuple #[])/\g=w.drew.setCell a (.int .u32 1)):=by
 have b:w.drew.cell? a=some x:=by go_simp
 have c:w.drew.frozen? a=false:=by go_simp
 have h:=run_call_store (P:=prog) func287 (by kernel_rfl) (by kernel_rfl) (by kernel_rfl) (by kernel_rfl) (k:= .u32) (y:=1) b c
 go_enter_d func251,ntmps251
 go_wp2
 go_region_calls
 all_goals (go_end0;exact⟨rfl,rfl⟩)
def Jqy(a:Addr)(u:FrameMode)(w:AA)(b:w.cell? a=some (.int .i32 1))(g:w.frozen? a=false):
  CallsD prog 250 #[.pointer (some a)] u w fun e h i=>h=u/\(e= .returned (.tuple #[])/\i=w.setCell a (.int .i32 0)):=by
 have l:=disable;have k:=enable;have j:=releaseMerge;have c:=run_call_add (P:=prog) func336 (by kernel_rfl) (by kernel_rfl) (by kernel_rfl) .i32 (by kernel_rfl) (y:= -1) (s:=0) b g (by simp[go_sem];rfl);have d:=run_convert_to_unsafe (P:=prog) (src:=460) (dst:= 193) underlying460 underlying193 (by kernel_rfl) b
 go_enter_d func250,ntmps250
 go_wp2
 go_end0;go_wp2;go_end0;exact⟨rfl,rfl⟩
def Jwu(a:Addr)(w:AA)(d:w.cell? a=some (.int .i32 0))(h:w.frozen? a=false):
  Calls prog 249 #[.pointer (some a)] w fun e i=>e= .returned (.tuple #[])/\i=w.setCell a (.int .i32 1):=by
 have k:=disable;have j:=enable;have l:=acquire;have c:=run_call_cas_hit (P:=prog) func331 (by kernel_rfl) (by kernel_rfl) (by kernel_rfl) .i32 (by kernel_rfl) (y:=1) d h;have b:(w.setCell a (.int .i32 1)).cell? a=some (.int .i32 1):=World.cell?_setCell_same w a _ d;have g:=run_convert_to_unsafe (P:=prog) (src:=460) (dst:= 193) underlying460 underlying193 (by kernel_rfl) b;go_enter func249,ntmps249;go_wp2
 first|go_end0|(simp only[Exit.inBlock,Exit.then];refine bodyPost_ret (results_none rfl _ _ _) rfl ?_)|refine bodyPost_ret (results_none rfl _ _ _) rfl ?_
 go_wp2
 go_end0;exact⟨rfl,rfl⟩
def XY(Gf:GT)(b off:Nat)(x:D)(H:Ae):Af (D×Ae):=
 match H[b]? with
 |some (.cells t sz cs)=>
  match cs[off]?,cs[off+1]? with
  |some (.v (.int .u32 0)),some (.v (.int .i32 0))=>
   match Gf [x] (H.set b (.cells t sz (cs.set (off+1) (.v (.int .i32 1)))))with
   |some (.tup [],a)=>
    match a[b]? with
    |some (.cells t2 sz2 cs2)=>
     match cs2[off]?,cs2[off+1]? with
     |some (.v y),some (.v (.int .i32 1))=>some (.tup [],(a.set b (.cells t2 sz2 (cs2.set off (.v (.int .u32 1))))).set b (.cells t2 sz2 ((cs2.set off (.v (.int .u32 1))).set (off+1) (.v (.int .i32 0)))))
     |_,_=>none
    |_=>none
   |_=>none
  |_,_=>none
 |_=>none
def JbI{Gf:GT}{b off:Nat}{x d:D}{H H':Ae}(h:XY Gf b off x H=some (d,H')):
  ∃t sz cs a t2 sz2 cs2 y,H[b]? =some (.cells t sz cs)/\cs[off]? =some wZ/\cs[off+1]? =some (.v (.int .i32 0))/\Gf [x] (H.set b (.cells t sz (cs.set (off+1) (.v (.int .i32 1)))))=some (.tup [],a)/\
   a[b]? =some (.cells t2 sz2 cs2)/\cs2[off]? =some (.v y)/\cs2[off+1]? =some (.v (.int .i32 1))/\d= .tup []/\H'=(a.set b (.cells t2 sz2 (cs2.set off (.v (.int .u32 1))))).set b (.cells t2 sz2 ((cs2.set off (.v (.int .u32 1))).set (off+1) (.v (.int .i32 0)))):=by
 unfold XY at h;split at h
 ·grind
 ·cases h
def UY{B:Nat}{S:Nat->Prop}{L:Ac (Nat×Nat)}{w:AA}{H:Ae}(h:BD B S L w H){id:Nat}{t:AQ}{sz:Nat}{cs:Ac D}(hid:H[id]? =some (HO.cells t sz cs)){b c:Nat}(j:L[id]? =some (b,c))(off:Nat){y:Ap}(g:cs[off]? =some (.v y)):
  w.cell? ⟨b,off,none⟩=some y/\w.frozen? ⟨b,off,none⟩=false:=by
 obtain⟨n,k,arr,d,o,m,a,r,l,p,f⟩:=h.live id t sz cs hid;rw[j]at d;cases d;obtain⟨x,i,q,e⟩:=f off _ g;simp only[Rep]at e;subst e;exact⟨(KZ a off).trans i,frozen_of_row w b off arr t a⟩
set_option maxRecDepth 100000 in
set_option maxHeartbeats 1600000 in
def Jvh{g:CG}{Gf:GT}(R:BN prog g Gf){B:Nat}{S:Nat->Prop}{L:Ac (Nat×Nat)}{w:AA}{H:Ae}(G:BD B S L w H)
  {b off:Nat} {x d:D} {H':Ae} (h:XY Gf b off x H=some (d,H')) {i c:Nat} (u:L[b]? =some (i,c)) {N:Ap} (hx:Rep S L w N x):
  Calls prog 199 #[.pointer (some ⟨i,off,none⟩),.func (.func g) #[N] #[]] w fun e z=>∃S' L',e= .returned (.tuple #[])/\BD B S' L' z H'/\Later B S S' L L' w z:=by
 obtain⟨t,sz,cs,H2,t2,sz2,cs2,y,K,k2,Z,k4,Q,X,k7,rfl,rfl⟩:=JbI h;have W:=(CV.1 k2).1;have m:=(CV.1 Z).1;obtain⟨h0,f0⟩:=UY G K u off k2;obtain⟨h1,f1⟩:=UY G K u (off+1) Z;obtain⟨C,p⟩:=G.setCell K u (off+1) m (x:= .int .i32 1) (d:= .v (.int .i32 1)) rfl (by simp only[Rep]);have hl:=run_call_load (P:=prog) func248 (by kernel_rfl) (by kernel_rfl) (by kernel_rfl) .u32 (by kernel_rfl) (w:=w.setCell ⟨i,off+1,none⟩ (.int .i32 1)) (a:=⟨i,off,none⟩) (x:=0) ((World.cell?_setCell_other _ ⟨i,off+1,none⟩ ⟨i,off,none⟩ _ (by simp)).trans h0);have V:∀(x:Bool) (w:AA),(Op.unary .not (.bool x)).run prog w= .ok (.bool (!x)) w:=fun _ _=>rfl;have l:=R.calls [x] _ (.tup []) H2 k4 B S L [N] _ C (Au.cons (p.rep hx) Au.nil);obtain⟨gn,n,o,j⟩:=R.body;obtain⟨gc,j⟩:=Y9.1 j;have he:∀args w,(callFunc g args).run prog w= .ok (.enter g args) w:=enters_of n (by simpa using o) j;clear n o j R
 go_enter_defers func199,ntmps199
 go_wp2_with (first
  |(go_at_call 249;refine(Jwu ⟨i,off+1,none⟩ _ (by go_simp) (by go_simp)).mono ?_;rintro e z ⟨rfl,rfl⟩)
  |(go_at_call 198;go_in)
  |(go_at_fn g;refine l.mono ?_;rintro e z ⟨v,S2,Y,rfl,hv,r,s⟩))
 have k:Y[b]? =some (i,c):=TM s.pre _ _ u;obtain⟨g0,e0⟩:=UY r Q k off X;have U:=(CV.1 X).1;have I:=(CV.1 k7).1;obtain⟨O,M⟩:=r.drew;obtain⟨q,T⟩:=O.setCell Q k off U (x:= .int .u32 1) (d:= .v (.int .u32 1)) rfl (by simp only[Rep]);have k8:(H2.set b (.cells t2 sz2 (cs2.set off (.v (.int .u32 1)))))[b]? =some (.cells t2 sz2 (cs2.set off (.v (.int .u32 1)))):=Hw (CV.1 Q).1;obtain⟨g1,e1⟩:=UY q k8 k (off+1) (y:= .int .i32 1) (by grind);obtain⟨E,J⟩:=q.setCell k8 k (off+1) (by simpa using I) (x:= .int .i32 0) (d:= .v (.int .i32 0)) rfl (by simp only[Rep]);refine leaves_cons (f:= 251) (args:= #[.pointer (some ⟨i,off,none⟩),.bool true]) (by simp) (by simp[go_sem]) ?_;refine(QdZ ⟨i,off,none⟩ y .returning _ g0 e0).mono ?_;rintro e u' F ⟨rfl,rfl,rfl⟩;refine leaves_cons (f:= 250) (args:= #[.pointer (some ⟨i,off+1,none⟩)]) (by simp[settle]) (by simp[go_sem]) ?_;refine(Jqy ⟨i,off+1,none⟩ _ _ g1 e1).mono ?_;rintro e u' F ⟨rfl,rfl,rfl⟩;simp only[Leaves,settle,results,results199];refine⟨_,by simp,S2,Y,rfl,E,p.trans (s.trans (M.trans (T.trans J)))⟩
def Ot(a:CG)(Gf:GT):GT
 |[.hp b off,.clo (.func g) [x] []],H=>if g=a then
  (match H[b]? with
  |some (.cells _ _ cs)=>
   match cs[off]? with
   |some (.v (.int .u32 1))=>some (.tup [],H)
   |_=>XY Gf b off x H
  |_=>none)else none
 |_,_=>none
set_option maxRecDepth 100000 in
set_option maxHeartbeats 1600000 in
def Pt{s:CG}{Gf:GT}(o:BN prog s Gf):BN prog 146 (Ot s Gf):=by
 refine⟨⟨_,func146,by decide,rfl⟩,fun ds H d H' h B S L vs w i u=> ?_⟩;unfold Ot at h;split at h
 ·rename_i b off g x;split at h
  case isFalse=>cases h
  rename_i W;subst W;simp only[Au]at u;obtain⟨u0,t0,rfl,D,X,Y,rfl,G,rfl⟩:=u;simp only[Rep]at D G;obtain⟨Q,c,m,rfl⟩:=D;obtain⟨Z,zs,rfl,v,F⟩:=G;simp only[Au]at v F;obtain⟨xv,t2,rfl,k,rfl⟩:=v;subst F;have r:∀(x:Bool) (w:AA),(Op.unary .not (.bool x)).run prog w= .ok (.bool (!x)) w:=fun _ _=>rfl;split at h
  case h_2=>cases h
  rename_i t sz cs n;split at h
  ·rename_i z;cases h;obtain⟨l,R⟩:=UY i n m off z;have T:=run_call_load (P:=prog) func248 (by kernel_rfl) (by kernel_rfl) (by kernel_rfl) .u32 (by kernel_rfl) l;clear k o z n;go_enter func146,ntmps146;go_wp2_with (go_at_call 198;go_in)
   go_end0;exact⟨.tuple #[],S,L,rfl,by simp only[Rep];exact⟨[],rfl,Au.nil⟩,i,Later.refl⟩
  ·obtain⟨t,sz,cs,H2,t2,sz2,cs2,y,C,E,N,K,V,I,M,O,j⟩:=JbI h;obtain⟨l,R⟩:=UY i C m off E;have T:=run_call_load (P:=prog) func248 (by kernel_rfl) (by kernel_rfl) (by kernel_rfl) .u32 (by kernel_rfl) l;have a:=Jvh o i h m k;subst O;clear h C E N K V I M j k o n;go_enter func146,ntmps146;go_wp2_with (first
    |(go_at_call 199;refine a.mono ?_;rintro e w' ⟨U,J,rfl,p,q⟩)
    |(go_at_call 198;go_in))
   go_end0;exact⟨.tuple #[],U,J,rfl,by simp only[Rep];exact⟨[],rfl,Au.nil⟩,p,q⟩
 ·cases h
def uD(n:Nat):D:= .v (.int .u32 n)
def EG(n:Nat):D:= .v (.int .u8 n)
def oM{n:Nat}(h:n<4294967296):IntKind.u32.wrap (n:Int)=n:=by
 have:(n:Int)%4294967296=n:=by omega
 simp[IntKind.wrap,IntKind.signed,IntKind.bits,this]
def wT(n:Nat):IntKind.u32.wrap (n:Int)=((n%4294967296:Nat):Int):=by
 simp[IntKind.wrap,IntKind.signed,IntKind.bits]
def Jnk(n:Nat):IntKind.u8.wrap (n:Int)=((n%256:Nat):Int):=by
 simp[IntKind.wrap,IntKind.signed,IntKind.bits]
def Yk{a:Nat}(h:a<4294967296):(BitVec.ofInt 32 (a:Int)).toNat=a:=by simp;omega
def Jip{a:Nat}(h:a<256):(BitVec.ofInt 8 (a:Int)).toNat=a:=by simp;omega
def UR{a b:Nat}(d:a<4294967296)(c:b<4294967296):a^^^b<4294967296:=sA (n:=32) d c
def VE{a b:Nat}(c:a<4294967296):a&&&b<4294967296:=Mg Nat.and_le_left c
def cX{a b:Nat}(d:a<4294967296)(c:b<4294967296):a|||b<4294967296:=Nat.or_lt_two_pow (n:=32) d c
def O9{a b:Nat}(d:a<4294967296)(c:b<4294967296):Ag .int .xor (uD a) (uD b)=some (uD (a^^^b)):=by
 show some (D.v (.int .u32 (IntKind.u32.wrap ((BitVec.ofInt 32 (a:Int)^^^BitVec.ofInt 32 (b:Int)).toNat:Nat))))=_;rw[BitVec.toNat_xor,Yk d,Yk c,oM (UR d c)];rfl
def iO{a b:Nat}(c:a<4294967296)(d:b<4294967296):Ag .int .and (uD a) (uD b)=some (uD (a&&&b)):=by
 show some (D.v (.int .u32 (IntKind.u32.wrap ((BitVec.ofInt 32 (a:Int)&&&BitVec.ofInt 32 (b:Int)).toNat:Nat))))=_;rw[BitVec.toNat_and,Yk c,Yk d,oM (VE c)];rfl
def yW{a b:Nat}(d:a<4294967296)(c:b<4294967296):Ag .int .or (uD a) (uD b)=some (uD (a|||b)):=by
 show some (D.v (.int .u32 (IntKind.u32.wrap ((BitVec.ofInt 32 (a:Int)|||BitVec.ofInt 32 (b:Int)).toNat:Nat))))=_;rw[BitVec.toNat_or,Yk d,Yk c,oM (cX d c)];rfl
def fR(a b:Nat):Ag .int .add (uD a) (uD b)=some (uD ((a+b)%4294967296)):=by
 show some (D.v (.int .u32 (IntKind.u32.wrap ((a:Int)+(b:Int)))))=_;rw[show(a:Int)+b=((a+b:Nat):Int)from by simp,wT];rfl
def YM(a k:Nat)(c:k<=32):Ag .int .shr (uD a) (.v (.int .u64 k))=some (uD (a/2^k)):=by
 have b:¬((k:Int)<0):=by omega
 show LX .shr .u32 a k=_;unfold LX;rw[Am b];have:min (k:Int).toNat IntKind.u32.bits=k:=by show min (k:Int).toNat 32=k;omega
 simp only[this];have e:(a:Int).fdiv (2^k)=((a/2^k:Nat):Int):=by
  rw[rT _ (Int.le_of_lt (Int.pow_pos (by decide)))]
  push_cast;rfl
 rw[e];rfl
def O1:Tab:=⟨[],BM,[]⟩
def JaM:Bg Aa O1:=CU EN
def Jnp:Ac Nat:=[]
def RU:Ac Nat:=[0,2,3,4,9]
def JyZ(n:Nat)(b:D)(h:Ae):AB Aa O1 RU n f343 [b] h=
(Dy (BZ Aa O1 RU n f343 0 [b,.undef,.undef,(iD 0),.undef] h) (fun d c a=>
CW d 0
(some (.tup [],a))
(none)) (fun c a=>
some (.tup [],a))):=by kernel_rfl
def Qc5(n:Nat)(s0 g j a i:D)(h:Ae):BK Aa O1 RU n f343 0 [s0,g,j,a,i] h=
(Ad (Ag .int .lss a (iD 256)) fun o=>
Az o
(Ad (Dk .u32 a) fun p=>
Dy (BZ Aa O1 RU n f343 1 [s0,a,p,a,(iD 0)] h) (fun c a b=>
CW c 2
(Ad (Dj (gD a 0)) fun q=>
Ad (AP 3 q) fun k=>
Ad (Ec 256 1 k (gD a 1)) fun m=>
Ah (Bh 1 m (gD a 2) b) fun r l=>
Ad (Ag .int .add (gD a 3) (iD 1)) fun d=>
some (.normal,[(gD a 0),(gD a 1),(gD a 2),d,(gD a 4)],l))
(CW c 1
(Ad (Ag .int .add (gD a 3) (iD 1)) fun e=>
some (.normal,[(gD a 0),(gD a 1),(gD a 2),e,(gD a 4)],b))
(some ((.exit c),[(gD a 0),(gD a 1),(gD a 2),(gD a 3),(gD a 4)],b)))) (fun a b=>
some (.ret,[(gD a 0),(gD a 1),(gD a 2),(gD a 3),(gD a 4)],b)))
(some ((.exit 0),[s0,g,j,a,i],h))):=by kernel_rfl
def JkJ(n:Nat)(s0 c b d a:D)(h:Ae):BK Aa O1 RU n f343 1 [s0,c,b,d,a] h=
(Ad (Ag .int .lss a (iD 8)) fun g=>
Az g
(Ad (Ag .int .shr b (.v (.int .u64 1))) fun i=>
Ad (Ag .int .and b (.v (.int .u32 1))) fun l=>
Ad (WG l) fun j=>
Ad (Ag .int .and (.v (.int .u32 3988292384)) j) fun k=>
Ad (Ag .int .xor i k) fun m=>
Ad (Ag .int .add a (iD 1)) fun e=>
some (.normal,[s0,c,m,d,e],h))
(some ((.exit 2),[s0,c,b,d,a],h))):=by kernel_rfl
def Jwv{y:Nat}(h:y<=4294967296):WG (uD y)=some (uD ((4294967296-y)%4294967296)):=by
 show some (D.v (.int .u32 (IntKind.u32.wrap (0-(y:Int)))))=_;have:IntKind.u32.wrap (0-(y:Int))=(((4294967296-y)%4294967296:Nat):Int):=by
  simp only[IntKind.wrap,IntKind.signed,IntKind.bits,Bool.false_and];simp;omega
 rw[this];rfl
def R7(c:Nat):Nat:=(c/2^1)^^^(3988292384&&&((4294967296-(c&&&1))%4294967296))
def fD:Nat->Nat->Nat
 |0,c=>c
 |k+1,c=>R7 (fD k c)
def Vs(i:Nat):Nat:=fD 8 i
def Jns{c:Nat}(h:c<4294967296):R7 c<4294967296:=UR (by omega) (VE (by decide))
theorem M2{c:Nat}(h:c<4294967296):∀k,fD k c<4294967296
 |0=>h
 |k+1=>Jns (M2 h k)
def JhQ{i:Nat}(h:i<256):Vs i<4294967296:=M2 (by omega) 8
def Ik(a:Ac D)(k:Nat):Ac D:=a++(List.range 256).map fun i=>if i<k then uD (Vs i)else uD 0
def Jmk(a:Ac D)(k:Nat):(Ik a k).length=a.length+256:=by simp[Ik]
def Jsm(a:Ac D)(k:Nat)(d:k<256):(Ik a k).set (a.length+k) (uD (Vs k))=Ik a (k+1):=by
 unfold Ik;rw[Jkz _ _ (by omega),show a.length+k-a.length=k from by omega];congr 1;apply List.ext_getElem (by simp);intro i c b;simp only[List.getElem_set,pT,List.getElem_range]
 grind
def JkT{H:Ae}{id off:Nat}{t:AQ}{sz:Nat}{cs:Ac D}{n:Nat}(h:H[id]? =some (.cells t sz cs))(a:off<cs.length):Bh 1 (.hp id off) (uD n) H=some (.v undef,H.set id (.cells t sz (cs.set off (uD n)))):=by
 have:FI 1 (.hp id off) (uD n) H=some (H.set id (.cells t sz (cs.set off (uD n)))):=by
  have b:D7 (uD n)=some [uD n]:=rfl;simp only[FI,b,h];rw[Aw ⟨rfl,a,rfl⟩,show cs.set off (uD n)=cs.take off++uD n::cs.drop (off+1)from by rw[Ay,Aw a]];simp only[Oh,FV,Jkt]
 rw[Bh,this];rfl
def Jso(n:Nat)(e i:D)(H:Ae)(c j:Nat)(d:c<4294967296)(t:j<8):BK Aa O1 RU n f343 1 [e,i,uD c,i,iD j] H=some (.normal,[e,i,uD (R7 c),i,iD (j+1)],H):=by
 rw[JkJ];have u:(j:Int)<8:=by omega
 have o:(D.v (.int .u64 1))= .v (.int .u64 ((1:Nat):Int)):=rfl;have h:(D.v (.int .u32 1))=uD 1:=rfl;have m:(D.v (.int .u32 3988292384))=uD 3988292384:=rfl;rw[o,h,m];have k:=YM c 1 (by decide);have r:=iO (a:=c) (b:=1) d (by decide);have l:=Jwv (y:=c&&&1) (Nat.le_of_lt (VE d));have p:=iO (a:=3988292384) (b:=(4294967296-(c&&&1))%4294967296) (by decide) (SS _ (by decide));have q:=O9 (a:=c/2^1) (b:=3988292384&&&((4294967296-(c&&&1))%4294967296)) (by omega) (VE (by decide));have s:=G5 j (by omega);have g:Ag .int .lss (iD j) (iD 8)=some (bD true):=by simp_all
 simp only[g,k,r,l,p,q,s,AU,Bd,Bv];rfl
def QcD(n:Nat)(g:8<n)(a i:D)(H:Ae)(c:Nat)(d:c<4294967296):BZ Aa O1 RU n f343 1 [a,i,uD c,i,iD 0] H=some (.exit 2,[a,i,uD (fD 8 c),i,iD 8],H):=by
 refine Vd (fun j=>[a,i,uD (fD j c),i,iD j]) (fun _=>H) (by intro e;cases e) 8 n g (fun j b=> ?_) ?_
 ·exact Jso n a i H _ j (M2 d j) b
 rfl
def Jn8(H:Ae)(id:Nat)(d:Ac D)(t:AQ)(C:d.length=3)(h:H[id]? =some (.cells t 259 (Ik d 0))):
  AB Aa O1 RU 300 f343 [.hp id 0] H=some (.tup [],H.set id (.cells t 259 (Ik d 256))):=by
 rw[JyZ];have p:id<H.length:=(CV.1 h).1;have key:∀m s u:D,∃z x y,BZ Aa O1 RU 300 f343 0 [.hp id 0,m,s,iD 0,u] H=some (.exit 0,[.hp id 0,z,x,iD 256,y],H.set id (.cells t 259 (Ik d 256))):=by
  intro m s u;let S:Nat->Ac D:=fun k=>match k with|0=>[.hp id 0,m,s,iD 0,u]|k+1=>[.hp id 0,iD k,uD (Vs k),iD (k+1),iD 8]
  let j:Nat->Ae:=fun k=>H.set id (.cells t 259 (Ik d k));have K:H.set id (.cells t 259 (Ik d 0))=H:=by
   apply PU;intro i;by_cases e:id=i
   ·grind
   ·grind
  refine⟨iD 255,uD (Vs 255),iD 8,?_⟩;have:=Vd (P:=Aa) (T:=O1) (kp:=RU) (fn:= f343) (i:=0) S j (r:=(.exit 0,S 256,j 256)) (by intro e;cases e) 256 300 (by omega) (fun k q=> ?_) ?_
  ·grind
  ·have o:(k:Int)<256:=by omega
   have G:Dk .u32 (iD k)=some (uD k):=by
    show some (D.v (.int .u32 (IntKind.u32.wrap (k:Int))))=_;rw[oM (by omega)];rfl
   have B:(j k)[id]? =some (.cells t 259 (Ik d k)):=Hw p;have hs:=JkT (n:=Vs k) B (off:=3+k) (by rw[Jmk];omega);have g:=Jsm d k q;rw[C]at g;rw[g]at hs;have v:(j k).set id (.cells t 259 (Ik d (k+1)))=j (k+1):=Nb ..;rw[v]at hs;have J:=QcD 300 (by omega) (.hp id 0) (iD k) (j k) k (by omega);have E:Ec 256 1 (.hp id 3) (iD k)=some (.hp id (3+k)):=by
    have:IC (iD k)=some k:=by simp[IC]
    simp only[Ec,this,BR]
    grind
   have w:∀a b c:D,BK Aa O1 RU 300 f343 0 [.hp id 0,a,b,iD k,c] (j k)=some (.normal,[.hp id 0,iD k,uD (Vs k),iD (k+1),iD 8],j (k+1)):=by
    intro a b c;rw[Qc5];have F:AP 3 (.hp id 0)=some (.hp id 3):=rfl;have l:Dj (.hp id 0)=some (.hp id 0):=rfl;simp[o,G,J,l,F,E];rw[show fD 8 k=Vs k from rfl,hs];have I:EJ .add .i64 (k:Int) 1=some (iD (k+1)):=G5 k (by omega);simp only[A7,I,AU]
   grind
  ·rfl
 obtain⟨z,x,y,q⟩:=key .undef .undef .undef;rw[q];simp
def Vh(P:Aj):GT:=CO P O1 RU 300 343
def Jur:BN Aa 343 (Vh Aa):=CQ JaM AX func343
def JuS(H:Ae)(id:Nat)(a:Ac D)(t:AQ)(b:a.length=3)(h:H[id]? =some (.cells t 259 (Ik a 0))):Vh Aa [.hp id 0] H=some (.tup [],H.set id (.cells t 259 (Ik a 256))):=by
 rw[Vh,CJ func343];exact Jn8 H id a t b h
def Ni(P:Aj):Tab:=⟨[(146,false,Ot 343 (Vh P))],BM,[]⟩
def QbZ:Bg Aa (Ni Aa):=CU (AC (CB (Pt Jur)) EN)
def JcH:Ac Nat:=[]
def Qb4(n:Nat)(a c g:D)(h:Ae):AB Aa (Ni Aa) JcH n f313 [a,c,g] h=
(Ad (Dj a) fun k=>
Ad (AP 0 k) fun l=>
Ah (Ot 343 (Vh Aa) [l,(.clo (.func 343) [a] [])] h) fun r e=>
Ad (Dk .u8 c) fun m=>
Ad (Ag .int .xor m g) fun o=>
Ad (Dj a) fun i=>
Ad (AP 3 i) fun j=>
Ad (Ec 256 1 j o) fun p=>
Ad (Ai none e p) fun q=>
Ad (Ag .int .shr c (.v (.int .u64 8))) fun b=>
Ad (Ag .int .xor q b) fun d=>
some (d,e)):=by kernel_rfl
def zH(c b:Nat):Nat:=Vs ((c%256)^^^b)^^^(c/2^8)
def JwZ{a b:Nat}(d:a<256)(c:b<256):Ag .int .xor (EG a) (EG b)=some (EG (a^^^b)):=by
 show some (D.v (.int .u8 (IntKind.u8.wrap ((BitVec.ofInt 8 (a:Int)^^^BitVec.ofInt 8 (b:Int)).toNat:Nat))))=_;have:a^^^b<256:=sA (n:=8) d c;rw[BitVec.toNat_xor,Jip d,Jip c,Jnk,qS this];rfl
def Jjp(c:Nat):Dk .u8 (uD c)=some (EG (c%256)):=by rfl
def Xa:Ac D:=[wZ,.v (.int .i32 0),wZ]
def bI:Ac D:=[wZ,.v (.int .i32 1),wZ]
def yM:Ac D:=[.v (.int .u32 1),.v (.int .i32 0),wZ]
def WV:Ae:=[.cells 443 259 (Ik Xa 0)]
def VY:Ae:=[.cells 443 259 (Ik yM 256)]
def Jf3{Gf:GT}{b off:Nat}{x:D}{H a:Ae}{t t2:AQ}{sz sz2:Nat}{cs cs2:Ac D}{y:Ap}(h:H[b]? =some (.cells t sz cs))(f:cs[off]? =some wZ)(c:cs[off+1]? =some (.v (.int .i32 0)))
  (e:Gf [x] (H.set b (.cells t sz (cs.set (off+1) (.v (.int .i32 1)))))=some (.tup [],a)) (i:a[b]? =some (.cells t2 sz2 cs2)) (d:cs2[off]? =some (.v y)) (g:cs2[off+1]? =some (.v (.int .i32 1))):
  XY Gf b off x H=some (.tup [],(a.set b (.cells t2 sz2 (cs2.set off (.v (.int .u32 1))))).set b (.cells t2 sz2 ((cs2.set off (.v (.int .u32 1))).set (off+1) (.v (.int .i32 0))))):=by
 unfold XY
 grind
def sU(a:Ac D)(k i:Nat)(h:i<a.length):(Ik a k)[i]? =a[i]? :=by
 unfold Ik;grind
def P2(a:Ac D)(k i:Nat)(x:D)(h:i<a.length):(Ik a k).set i x=Ik (a.set i x) k:=by
 unfold Ik;grind
def Jts:Ot 343 (Vh Aa) [.hp 0 0,.clo (.func 343) [.hp 0 0] []] WV=some (.tup [],VY):=by
 have h:=JuS [.cells 443 259 (Ik bI 0)] 0 bI 443 rfl rfl;have c:Vh Aa [.hp 0 0] (WV.set 0 (.cells 443 259 ((Ik Xa 0).set (0+1) (.v (.int .i32 1)))))=some (.tup [],[.cells 443 259 (Ik bI 256)]):=by
  rw[P2 Xa 0 _ _ (by decide)];exact h
 have e:=Jf3 (Gf:=Vh Aa) (b:=0) (off:=0) (x:= .hp 0 0) (H:=WV) (t:= 443) (sz:=259) (cs:=Ik Xa 0) rfl (sU Xa 0 0 (by decide)) (sU Xa 0 1 (by decide)) c (t2:= 443) (sz2:=259) (cs2:=Ik bI 256) rfl (y:= .int .u32 0) (sU bI 256 0 (by decide)) (sU bI 256 1 (by decide));rw[P2 bI 256 _ _ (by decide),P2 _ 256 _ _ (by decide)]at e;have a:(Ik Xa 0)[0]? =some wZ:=sU Xa 0 0 (by decide);have d:WV[0]? =some (.cells 443 259 (Ik Xa 0)):=rfl;unfold Ot;simp only[Bv,d,a];exact e
def Jog:Ot 343 (Vh Aa) [.hp 0 0,.clo (.func 343) [.hp 0 0] []] VY=some (.tup [],VY):=by rfl
def JxL(x:Nat)(a:x<256):Ai none VY (.hp 0 (3+x))=some (uD (Vs x)):=by
 have e:Ai none VY (.hp 0 (3+x))=((Ik yM 256).drop (3+x))[0]? :=rfl;rw[e,pM,MZ];unfold Ik;rw[SV (by simp[yM]),Xy,pI (by simp[yM];omega)];simp[yM,a]
def sJ(P:Aj):GT:=CO P (Ni P) JcH 0 313
def JsL:BN Aa 313 (sJ Aa):=CQ QbZ AX func313
def Qe6{c b:Nat}(d:c<4294967296)(a:b<256):zH c b<4294967296:=UR (JhQ (sA (n:=8) (SS _ (by decide)) a)) (by omega)
def JnJ(H:Ae)(k:H=WV\/H=VY)(c b:Nat)(l:c<4294967296)(d:b<256):sJ Aa [.hp 0 0,uD c,EG b] H=some (uD (zH c b),VY):=by
 rw[sJ,CJ func313,Qb4];have i:Ot 343 (Vh Aa) [.hp 0 0,.clo (.func 343) [.hp 0 0] []] H=some (.tup [],VY):=by
  rcases k with rfl|rfl
  ·exact Jts
  ·exact Jog
 have o:Dj (.hp 0 0)=some (.hp 0 0):=rfl;have m:AP 0 (.hp 0 0)=some (.hp 0 0):=rfl;have h:AP 3 (.hp 0 0)=some (.hp 0 3):=rfl;have e:c%256<256:=SS _ (by decide);have a:(c%256)^^^b<256:=sA (n:=8) e d;have p:Ec 256 1 (.hp 0 3) (EG ((c%256)^^^b))=some (.hp 0 (3+((c%256)^^^b))):=by
  have:IC (EG ((c%256)^^^b))=some ((c%256)^^^b):=by simp[IC,EG]
  simp only[Ec,this,BR]
  grind
 have hs:=YM c 8 (by decide);have g:(D.v (.int .u64 8))= .v (.int .u64 ((8:Nat):Int)):=rfl;rw[g];have j:c/2^8<4294967296:=Mg (sB _ _) l;simp only[o,m,h,i,AU,A7,Jjp,JwZ e d,p,JxL _ a,hs,O9 (JhQ a) j];rfl
def iW(P:Aj):Tab:=⟨[(313,false,sJ P)],BM,[]⟩
def Jnx:Bg Aa (iW Aa):=CU (AC (CB JsL) EN)
def qW:Ac Nat:=[0,1,5,8,9]
def Qcp(n:Nat)(d b:D)(h:Ae):AB Aa (iW Aa) qW n f275 [d,b] h=
(Ad (Bq .str b) fun i=>
Dy (BZ Aa (iW Aa) qW n f275 0 [d,b,(.v (.int .u32 4294967295)),i,(iD 0)] h) (fun g c a=>
CW g 0
(Ad (bF (gD c 2)) fun e=>
some (e,a))
(none)) (fun c a=>
some (.undef,a))):=by kernel_rfl
def Jce(n:Nat)(s0 b d c a:D)(h:Ae):BK Aa (iW Aa) qW n f275 0 [s0,b,d,c,a] h=
(Ad (Ag .int .lss a c) fun g=>
Az g
(Ad (dW b a) fun i=>
Ah (sJ Aa [s0,d,i] h) fun k e=>
Ad (Ag .int .add a (iD 1)) fun j=>
some (.normal,[s0,b,k,c,j],e))
(some ((.exit 0),[s0,b,d,c,a],h))):=by kernel_rfl
def Wu(l:By):Nat:=l.foldl (fun c b=>zH c b.toNat) 4294967295
def XW(l:By):Nat:=4294967295^^^Wu l
def Jny(l:By)(j:Nat)(h:j<l.length):Wu (l.take (j+1))=zH (Wu (l.take j)) l[j].toNat:=by
 unfold Wu;rw[Ij h,List.foldl_append];rfl
def xT(l:By):Wu l<4294967296:=by
 have key:∀(l:By) (c:Nat),c<4294967296->l.foldl (fun c b=>zH c b.toNat) c<4294967296:=by
  intro l
  induction l with
  |nil=>exact fun c h=>h
  |cons b r a=>exact fun c h=>a _ (Qe6 h b.toNat_lt)
 exact key l _ (by decide)
def JvD{c:Nat}(h:c<4294967296):bF (uD c)=some (uD (4294967295^^^c)):=by
 show some (D.v (.int .u32 (IntKind.u32.wrap ((BitVec.ofInt 32 ((4294967295:Nat):Int)^^^BitVec.ofInt 32 (c:Int)).toNat:Nat))))=_;rw[BitVec.toNat_xor,Yk (by decide),Yk h,oM (UR (by decide) h)];rfl
def uK(P:Aj):GT:=CO P (iW P) qW 2000001 275
def Jqn:BN Aa 275 (uK Aa):=CQ Jnx AX func275
def Qcy(l:By)(s:l.length<=2000000):∃H,uK Aa [.hp 0 0,sD l] WV=some (uD (XW l),H):=by
 rw[uK,CJ func275,Qcp];let b:Nat->Ae:=fun j=>match j with|0=>WV|_+1=>VY
 have c:Bq .str (sD l)=some (iD l.length):=Ue l;have a:=Vd (P:=Aa) (T:=iW Aa) (kp:=qW) (fn:= f275) (i:=0) (fun j=>[.hp 0 0,sD l,uD (Wu (l.take j)),iD l.length,iD j]) b
  (r:=(.exit 0,[.hp 0 0,sD l,uD (Wu l),iD l.length,iD l.length],b l.length)) (by intro e;cases e) l.length 2000001 (by omega) (fun j k=> ?_) ?_
 ·have m:(D.v (.int .u32 4294967295))=uD (Wu (l.take 0)):=rfl;have o:WV=b 0:=rfl;rw[c,m,o];simp only[AU];have n:iD ((0:Nat):Int)=iD 0:=rfl;rw[n]at a;rw[a];refine⟨b l.length,?_⟩;simp[JvD (xT l)];rfl
 ·rw[Jce];have h:(j:Int)<(l.length:Int):=by omega
  have q:=Qa0 l j k;have g:Gm l[j]=EG l[j].toNat:=rfl;have p:=JnJ (b j) (by cases j with|zero=>exact .inl rfl|succ j=>exact .inr rfl) (Wu (l.take j)) l[j].toNat (xT _) l[j].toNat_lt;have d:Ag .int .lss (iD j) (iD l.length)=some (bD true):=by show some (bD (decide _))=_;rw[CZ h]
  simp only[d,AU,Bd,Bv,q,g,p,A7,G5 j (by omega),<-Jny l j k];rfl
 ·rw[Jce];have d:Ag .int .lss (iD l.length) (iD l.length)=some (bD false):=by show some (bD (decide _))=_;rw[Dc (by omega)]
  simp only[d,AU,Bd,II];simp
def Cv(P:Aj):GT:=CO P O1 Jnp 0 274
def Js8:BN Aa 274 (Cv Aa):=CQ JaM AX func274
def Jqs:Cv Aa [] []=some (.hp 0 0,WV):=by kernel_rfl
def TC3(P:Aj):Tab:=⟨[(274,false,Cv P),(275,false,uK P)],BM,[]⟩
def Qad:Bg Aa (TC3 Aa):=CU (AC (CB Js8) (AC (CB Jqn) EN))
def JdR:Ac Nat:=[]
def Jxg(n:Nat)(a:D)(h:Ae):AB Aa (TC3 Aa) JdR n f215 [a] h=
(Ah (Cv Aa [] h) fun e c=>
Ah (uK Aa [e,a] c) fun d b=>
some (d,b)):=by kernel_rfl
def xM:Ac D->Af D:=F1 Po fun l=>if l.length<=2000000 then some (uD (XW l))else none
def JpB:Bz Aa 215 xM:=FC (kp:=JdR) Qad AX func215 fun l d h=>by
 split at h
 case isFalse=>cases h
 rename_i a;cases h;obtain⟨H,hs⟩:=Qcy l a;refine⟨0,uD (XW l),?_,AY.refl _⟩;show BB (AB _ _ _ _ _ [sD l] [])=_;rw[Jxg];simp only[Jqs,A7,hs];exact Gu _ _ rfl
def TC4:Tab:=⟨[(215,true,Ak xM)],BM,[]⟩
def QeG:Bg Aa TC4:=CU (AC (Bf JpB) EN)
def vR:Ac Nat:=[]
def QcT(n:Nat)(d:D)(h:Ae):AB Aa TC4 vR n f159 [d] h=
(Ah (Ak xM [d] h) fun b k=>
Ad (Dk .u8 b) fun l=>
Ad (Ag .int .shr b (.v (.int .u64 8))) fun i=>
Ad (Dk .u8 i) fun j=>
Ad (Ag .int .shr b (.v (.int .u64 16))) fun m=>
Ad (Dk .u8 m) fun e=>
Ad (Ag .int .shr b (.v (.int .u64 24))) fun g=>
Ad (Dk .u8 g) fun o=>
Ah (DI 5 1 4 [yZ] [(0,l),(1,j),(2,e),(3,o)] k) fun p a=>
Ad (MH a p) fun c=>
some (c,a)):=by kernel_rfl
def TU(l:By):By:=[UInt8.ofNat (XW l%256),UInt8.ofNat (XW l/2^8%256),UInt8.ofNat (XW l/2^16%256),UInt8.ofNat (XW l/2^24%256)]
def Sg(l:By):(TU l).length=4:=rfl
def X9:Ac D->Af D:=F1 Po fun l=>if l.length<=2000000 then some (sD (TU l))else none
def JcV:Bz Aa 159 X9:=FC (kp:=vR) QeG AX func159 fun l d h=>by
 split at h
 case isFalse=>cases h
 rename_i e;cases h;refine⟨0,sD (TU l),?_,AY.refl _⟩;show BB (AB _ _ _ _ _ [sD l] [])=_;rw[QcT];have hs:Ak xM [sD l] []=some (uD (XW l),[]):=by
  rw[CP _ _ _ rfl];have:xM [sD l]=_:=EO (A:=Po) _ l;rw[this,Aw e];rfl
 have c:(D.v (.int .u64 8))= .v (.int .u64 ((8:Nat):Int)):=rfl;have a:(D.v (.int .u64 16))= .v (.int .u64 ((16:Nat):Int)):=rfl;have b:(D.v (.int .u64 24))= .v (.int .u64 ((24:Nat):Int)):=rfl;rw[c,a,b];simp only[hs,A7,AU,Jjp,YM _ 8 (by decide),YM _ 16 (by decide),YM _ 24 (by decide)];rfl
def IM{H:Ae}{id off:Nat}{t:AQ}{sz:Nat}{cs:Ac D}(h:H[id]? =some (.cells t sz cs))(s:Af Nat):Ai s H (.hp id off)=MW s (cs.drop off) 0:=by
 simp only[Ai,h]
def YE(P:Aj):Ac Cj:=(159,true,Ak X9)::G1 P
def ZY:∀p∈YE Aa,Ci Aa p:=AC (Bf JcV)<|eW
def Uf(P:Aj):Tab:=⟨YE P,BM,[]⟩
def Ta:Bg Aa (Uf Aa):=CU ZY
end Go.Proofs.YtapdelkomkpgmaaGreatDoor
