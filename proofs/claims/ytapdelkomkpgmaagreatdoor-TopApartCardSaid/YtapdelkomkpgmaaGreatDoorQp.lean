import Derived.Test.YtapdelkomkpgmaaGreatDoorQo
namespace Go.Proofs.YtapdelkomkpgmaaGreatDoor
open Go.Proofs.Tryz
open Go.RowKit
set_option maxRecDepth 100000
set_option linter.all false
def JvP(k:Nat)(f:0<k)(c:k<32):Ag .int .and (.v (.int .u64 (IntKind.u64.wrap (-(k:Int))))) (.v (.int .u64 31))=some (.v (.int .u64 ((32-k:Nat):Int))):=by
 have b:∀k:Fin 32,0<k.1->Ag .int .and (.v (.int .u64 (IntKind.u64.wrap (-(k.1:Int))))) (.v (.int .u64 31))=some (.v (.int .u64 ((32-k.1:Nat):Int))):=by
  intro k b;have a:IntKind.u64.wrap (-(k.1:Int))=((18446744073709551616-k.1:Nat):Int):=by
   have:(-(k.1:Int))%18446744073709551616=((18446744073709551616-k.1:Nat):Int):=by have:=k.2;omega
   simp[IntKind.wrap,IntKind.signed,IntKind.bits,this]
  rw[a];show some (D.v (.int .u64 (IntKind.u64.wrap ((BitVec.ofInt 64 ((18446744073709551616-k.1:Nat):Int)&&&BitVec.ofInt 64 ((31:Nat):Int)).toNat:Nat))))=_;have h:(BitVec.ofInt 64 ((18446744073709551616-k.1:Nat):Int)).toNat=18446744073709551616-k.1:=by have:=k.2;simp;omega
  have d:(BitVec.ofInt 64 ((31:Nat):Int)).toNat=31:=by decide
  have e:(18446744073709551616-k.1)&&&31=32-k.1:=by
   have:=Jky (18446744073709551616-k.1) 5;have i:(2^5-1:Nat)=31:=by decide
   rw[i]at this;rw[this];have:=k.2;omega
  rw[BitVec.toNat_and,h,d,e];have g:IntKind.u64.wrap ((32-k.1:Nat):Int)=((32-k.1:Nat):Int):=by
   have:((32-k.1:Nat):Int)%18446744073709551616=((32-k.1:Nat):Int):=by omega
   simp[IntKind.wrap,IntKind.signed,IntKind.bits,this]
  rw[g]
 exact b ⟨k,c⟩ f
def Jh3(a k:Nat)(c:k<=32):Ag .int .shl (uD a) (.v (.int .u64 k))=some (uD (a*2^k%4294967296)):=by
 have b:¬((k:Int)<0):=by omega
 show LX .shl .u32 a k=_;unfold LX;rw[Am b];have:min (k:Int).toNat IntKind.u32.bits=k:=by show min (k:Int).toNat 32=k;omega
 simp only[this];rw[show((a:Int)*2^k)=((a*2^k:Nat):Int)from by push_cast;rfl,wT];rfl
def JyN(x k:Nat)(b:x<4294967296)(d:0<k)(c:k<32):fE Aa [uD x,iD (-(k:Int))]=some (uD (Ou x k)):=by
 rw[fE,O4,CJ func342,Jyc];have a:Dk .u64 (iD (-(k:Int)))=some (.v (.int .u64 (IntKind.u64.wrap (-(k:Int))))):=rfl;have e:Ag .int .sub (.v (.int .u64 32)) (.v (.int .u64 ((32-k:Nat):Int)))=some (.v (.int .u64 (k:Int))):=by
  show some (D.v (.int .u64 (IntKind.u64.wrap ((32:Int)-((32-k:Nat):Int)))))=_;have:((32:Int)-((32-k:Nat):Int))=(k:Int):=by omega
  rw[this];have:(k:Int)%18446744073709551616=k:=by omega
  simp[IntKind.wrap,IntKind.signed,IntKind.bits,this]
 simp only[a,AU,JvP k d c,e,Jh3 x (32-k) (by omega),YM x k (by omega),yW (SS _ (by decide)) (Mg (sB x (2^k)) b)];exact ZT _ _
def Jtn(x k:Nat)(b:x<4294967296)(d:0<k)(c:k<32):Ol Aa [uD x,iD (k:Int)]=some (uD (Ou x k)):=by
 rw[Ol,O4,CJ func311,Jyr];have a:WG (iD (k:Int))=some (iD (-(k:Int))):=by
  show some (D.v (.int .i64 (IntKind.i64.wrap (0-(k:Int)))))=_;rw[VK _ (by omega) (by omega),Int.zero_sub]
 have e:∀H,Ak (fE Aa) [uD x,iD (-(k:Int))] H=some (uD (Ou x k),H):=fun H=>by
  rw[CP _ _ _ rfl,JyN x k b d c];rfl
 simp only[a,AU,e,A7];exact ZT _ _
def lD(x k:Nat)(a:x<4294967296)(c:0<k)(b:k<32)(H:Ae):Ak (Ol Aa) [uD x,iD (k:Int)] H=some (uD (Ou x k),H):=by
 rw[CP _ _ _ rfl,Jtn x k a c b];rfl
def XR(a b:Nat)(h:b<=a)(c:a<=4000000):Ag .int .sub (iD a) (iD b)=some (iD ((a-b:Nat):Int)):=by
 rw[QE,jB _ _ (by omega) (by omega)];congr 2;omega
def JrJ(a:Nat)(b:a<=4000000):Ag .int .quo (iD a) (iD 4)=some (iD ((a/4:Nat):Int)):=by
 show EJ .quo .i64 (a:Int) 4=_;have e:((a:Int).tdiv 4)=((a/4:Nat):Int):=by rw[Int.tdiv_eq_ediv_of_nonneg (by omega)];omega
 simp only[EJ];rw[Am (by decide),e,VK _ (by omega) (by omega)]
def bK(n id off i:Nat)(a:i<n):Ec n 1 (.hp id off) (iD i)=some (.hp id (off+i)):=by
 have:IC (iD i)=some i:=by simp[IC]
 simp only[Ec,this,BR]
 grind
def dM{H:Ae}{id:Nat}{t:AQ}{sz:Nat}{l:Ac Nat}(h:H[id]? =some (.cells t sz (l.map uD))){i:Nat}(a:i<l.length):Ai none H (.hp id i)=some (uD (l.getD i 0)):=by simp_all
def Qby{H:Ae}{id:Nat}{t:AQ}{sz:Nat}{l:Ac Nat}(h:H[id]? =some (.cells t sz (l.map EG))){i:Nat}(a:i<l.length):Ai none H (.hp id i)=some (EG (l.getD i 0)):=by simp_all
def Mk{H:Ae}{id:Nat}{t:AQ}{sz:Nat}{l:Ac Nat}(h:H[id]? =some (.cells t sz (l.map uD))){i:Nat}(a:i<l.length)(x:Nat):Bh 1 (.hp id i) (uD x) H=some (.v undef,H.set id (.cells t sz ((l.set i x).map uD))):=by
 rw[IV H id i t sz _ (uD x) h (by simpa using a) rfl rfl,zY]
def NP(H:Ae)(o a:HO):(H++[o]).set H.length a=H++[a]:=by simp
def Hz(H:Ae)(o:HO):(H++[o])[H.length]? =some o:=by simp
def Qbc(c:Nat)(h:c<256):Dk .u32 (EG c)=some (uD c):=by
 show some (D.v (.int .u32 (IntKind.u32.wrap (c:Int))))=_;rw[oM (by omega)];rfl
def Jnw(H:Ae)(b:Nat)(t:AQ)(a:Ac Nat)(p:B8 64 a)(h:H[b]? =some (.cells t 64 (a.map EG))):
  fA Aa [.hp b 0] H=some (.hp H.length 0,H++[.cells 468 64 ((Gj a).map uD)]):=by
 rw[fA,CJ func309,QcU];let m:Nat->Ae:=fun j=>H++[.cells 468 64 ((VL a j).map uD)];let u:Nat->Ae:=fun j=>H++[.cells 468 64 ((WR a j).map uD)];have q:=T3 p;have d:=cU p;have V:∀o:HO,(H++[o])[b]? =some (.cells t 64 (a.map EG)):=fun o=>JX h;have n0:∀i o,Dj (.hp i o)=some (.hp i o):=fun i o=>rfl;have R:(D.v (.int .u64 8))= .v (.int .u64 ((8:Nat):Int)):=rfl;have J:=Vd (P:=Aa) (T:=WB Aa) (kp:=Yw) (fn:= f309) (i:=0) (fun j=>[.hp H.length 0,.undef,.hp b 0,iD j]) m
  (r:=(.exit 0,[.hp H.length 0,.undef,.hp b 0,iD 64],m 64)) (by intro e;cases e) 64 65 (by omega) (fun j B=>by
   rw[Jvd];have y:Ag .int .lss (iD j) (iD 64)=some (bD true):=G6 (by omega);have G:=bK 64 b 0 j B;rw[EE]at G;have Y:Ai none (m j) (.hp b j)=some (EG (a.getD j 0)):=Qby (V _) (by rw[p.1];exact B);have I:=bK 64 H.length 0 (j/4) (by omega);rw[EE]at I;have q4:Ai none (m j) (.hp H.length (j/4))=some (uD ((VL a j).getD (j/4) 0)):=dM (Hz _ _) (by rw[(q j).1];omega);have n:=Mk (Hz H (.cells 468 64 ((VL a j).map uD))) (i:=j/4) (by rw[(q j).1];omega) ((VL a j).getD (j/4) 0*2^8%4294967296|||a.getD j 0);rw[NP]at n;rw[R];simp only[y,AU,Bd,Bv,n0,G,Y,JrJ j (by omega),I,q4,Jh3 _ 8 (by omega),Qbc _ (p.get j),yW (SS _ (by decide)) (Nat.lt_trans (p.get j) (by decide)),G5 j (by omega)];show Ah (Bh 1 _ _ (H++_)) _=_;rw[n];rfl) (by rfl)
 have K:=Vd (P:=Aa) (T:=WB Aa) (kp:=Yw) (fn:= f309) (i:=1) (fun j=>[.hp H.length 0,iD ((16+j:Nat):Int),.hp b 0,iD 64]) u
  (r:=(.exit 2,[.hp H.length 0,iD 64,.hp b 0,iD 64],u 48)) (by intro e;cases e) 48 65 (by omega) (fun j B=>by
   rw[JsT];have y:Ag .int .lss (iD ((16+j:Nat):Int)) (iD 64)=some (bD true):=G6 (by omega);have L:=XR (16+j) 15 (by omega) (by omega);have s2:=XR (16+j) 2 (by omega) (by omega);have Z:=XR (16+j) 16 (by omega) (by omega);have W:=XR (16+j) 7 (by omega) (by omega);have s:∀i:Nat,i<64->Ec 64 1 (.hp H.length 0) (iD i)=some (.hp H.length i):=fun i E=>by have:=bK 64 H.length 0 i E;grind
   have ld:∀i:Nat,i<64->Ai none (u j) (.hp H.length i)=some (uD ((WR a j).getD i 0)):=fun i E=>dM (Hz _ _) (by rw[(d j).1];exact E);have c:=(d j).get (16+j-15);have g:=(d j).get (16+j-2);have r1:=lD _ 7 c (by decide) (by decide);have M:=lD _ 18 c (by decide) (by decide);have r3:=lD _ 17 g (by decide) (by decide);have N:=lD _ 19 g (by decide) (by decide);have n:=Mk (Hz H (.cells 468 64 ((WR a j).map uD))) (i:=16+j) (by rw[(d j).1];omega) (RE (WR a j) (16+j));rw[NP]at n;have F:(iD 15)=iD ((15:Nat):Int):=rfl;have S:(iD 2)=iD ((2:Nat):Int):=rfl;have l:(iD 16)=iD ((16:Nat):Int):=rfl;have e7:(iD 7)=iD ((7:Nat):Int):=rfl;have v:(iD 18)=iD ((18:Nat):Int):=rfl;have C:(iD 17)=iD ((17:Nat):Int):=rfl;have z:(iD 19)=iD ((19:Nat):Int):=rfl;have U:(D.v (.int .u64 3))= .v (.int .u64 ((3:Nat):Int)):=rfl;have w:(D.v (.int .u64 10))= .v (.int .u64 ((10:Nat):Int)):=rfl;rw[F,S,l,e7,v,C,z,U,w];have dv:∀{x:Nat} (k:Nat),x<4294967296->x/2^k<4294967296:=fun k c=>Mg (sB _ _) c;simp only[y,AU,Bd,Bv,L,s2,Z,W,s _ (show 16+j-15<64 by omega),s _ (show 16+j-2<64 by omega),s _ (show 16+j-16<64 by omega),s _ (show 16+j-7<64 by omega),s _ (show 16+j<64 by omega),
    ld _ (show 16+j-15<64 by omega),ld _ (show 16+j-2<64 by omega),ld _ (show 16+j-16<64 by omega),ld _ (show 16+j-7<64 by omega),r1,M,r3,N,A7,O9 (MR 7 c) (MR 18 c),O9 (MR 17 g) (MR 19 g),YM _ 3 (by omega),YM _ 10 (by omega),
    O9 (UR (MR 7 c) (MR 18 c)) (dv 3 c),O9 (UR (MR 17 g) (MR 19 g)) (dv 10 g),fR,G5 (16+j) (by omega)]
   show Ah (Bh 1 _ (uD (RE (WR a j) (16+j))) (H++_)) _=_;rw[n];rfl) (by rfl)
 have X:BX 468 ((List.replicate 64 0).map uD) H=some (.hp H.length 0,m 0):=by rfl
 show Ah (BX 468 ((List.replicate 64 0).map uD) H) _=_;rw[X];simp only[A7];have Q:iD ((0:Nat):Int)=iD 0:=rfl;rw[Q]at J;rw[J];simp;have l:iD ((16+0:Nat):Int)=iD 16:=rfl;rw[l]at K;have O:m 64=u 0:=rfl;rw[O,K];simp;rfl
def E5:Ac Nat:=[
 1116352408,1899447441,3049323471,3921009573,961987163,1508970993,2453635748,2870763221,
 3624381080,310598401,607225278,1426881987,1925078388,2162078206,2614888103,3248222580,
 3835390401,4022224774,264347078,604807628,770255983,1249150122,1555081692,1996064986,
 2554220882,2821834349,2952996808,3210313671,3336571891,3584528711,113926993,338241895,
 666307205,773529912,1294757372,1396182291,1695183700,1986661051,2177026350,2456956037,
 2730485921,2820302411,3259730800,3345764771,3516065817,3600352804,4094571909,275423344,
 430227734,506948616,659060556,883997877,958139571,1322822218,1537002063,1747873779,
 1955562222,2024104815,2227730452,2361852424,2428436474,2756734187,3204031479,3329325298]
def JnY(H:Ae):fG Aa [] H=some (.hp H.length 0,H++[.cells 468 64 (E5.map uD)]):=by
 rw[fG,CJ func310,JyL];rfl
def iG{v:Ac Nat}(h:W32 8 v):v=[v.getD 0 0,v.getD 1 0,v.getD 2 0,v.getD 3 0,v.getD 4 0,v.getD 5 0,v.getD 6 0,v.getD 7 0]:=by
 obtain⟨i,_⟩:=h
 match v,i with
 |[a,b,c,d,e,f,g,h],_=>rfl
def Ju2(H:Ae)(id:Nat)(t:AQ)(a b c d e f g h:Nat)(i:H[id]? =some (.cells t 8 ([a,b,c,d,e,f,g,h].map uD))):
  QD 1 (.ht id 1 7) (.ht id 0 7) H=some (iD 7,H.set id (.cells t 8 ([a,a,b,c,d,e,f,g].map uD))):=by
 simp[QD,WQ,GV,i,uD,Df]
def Gq(st a:Ac Nat)(r w v:Ac Nat):Ae:=[.cells 401 8 (st.map uD),.cells 406 64 (a.map EG),.cells 401 8 (r.map uD),.cells 468 64 (w.map uD),.cells 468 64 (E5.map uD),.cells 399 8 (v.map uD)]
def QaM(st a r w v:Ac Nat)(I:W32 64 w)(d:W32 8 v)(j:Nat)(g:j<64)(n:Nat):
  BK Aa (Rh Aa) VF n f270 0 [.hp 0 0,.hp 2 0,.hp 3 0,.hp 4 0,.hp 5 0,iD j,.undef,.undef,.undef] (Gq st a r w v)=
   some (.normal,[.hp 0 0,.hp 2 0,.hp 3 0,.hp 4 0,.hp 5 0,iD ((j+1:Nat):Int),.undef,.undef,.undef],Gq st a r w (HS E5 w v j)):=by
 rw[Jzm];have L:Ag .int .lss (iD j) (iD 64)=some (bD true):=G6 (by omega);have c:=d.get 0;have B:=d.get 1;have E:=d.get 2;have a3:=d.get 3;have e:=d.get 4;have G:=d.get 5;have h:=d.get 6;have a7:=d.get 7;have S:Ai none (Gq st a r w v) (.hp 4 j)=some (uD (E5.getD j 0)):=dM (l:=E5) (t:= 468) (sz:=64) rfl g;have Q:Ai none (Gq st a r w v) (.hp 3 j)=some (uD (w.getD j 0)):=dM (l:=w) (t:= 468) (sz:=64) rfl (by rw[I.1];exact g);have F:=bK 64 3 0 j g;have H:=bK 64 4 0 j g;rw[EE]at F H;have n0:∀i o,Dj (.hp i o)=some (.hp i o):=fun i o=>rfl;have T:Ec 8 1 (.hp 5 0) (iD 0)=some (.hp 5 0):=rfl;have W:Ec 8 1 (.hp 5 0) (iD 1)=some (.hp 5 1):=rfl;have K:Ec 8 1 (.hp 5 0) (iD ((2:Nat):Int))=some (.hp 5 2):=rfl;have Y:Ec 8 1 (.hp 5 0) (iD 4)=some (.hp 5 4):=rfl;have N:Ec 8 1 (.hp 5 0) (iD 5)=some (.hp 5 5):=rfl;have M:Ec 8 1 (.hp 5 0) (iD ((6:Nat):Int))=some (.hp 5 6):=rfl;have U:Ec 8 1 (.hp 5 0) (iD 7)=some (.hp 5 7):=rfl;have ld:∀i,i<8->Ai none (Gq st a r w v) (.hp 5 i)=some (uD (v.getD i 0)):=fun i X=>dM (l:=v) (t:= 399) (sz:=8) rfl (by rw[d.1];exact X);have R:=fun k s u=>lD (v.getD 4 0) k e s u (Gq st a r w v);have V:=R 6 (by decide) (by decide);have m:=R 11 (by decide) (by decide);have C:=R 25 (by decide) (by decide);have R':=fun k s u=>lD (v.getD 0 0) k c s u (Gq st a r w v);have J:=R' 2 (by decide) (by decide);have z:=R' 13 (by decide) (by decide);have q:=R' 22 (by decide) (by decide);have Z:VN 8 1 (.hp 5 0) (some (iD 1)) none=some (.ht 5 1 7):=rfl;have c2:VN 8 1 (.hp 5 0) none (some (iD 7))=some (.ht 5 0 7):=rfl;have P:QD 1 (.ht 5 1 7) (.ht 5 0 7) (Gq st a r w v)=some (iD 7,Gq st a r w [v.getD 0 0,v.getD 0 0,v.getD 1 0,v.getD 2 0,v.getD 3 0,v.getD 4 0,v.getD 5 0,v.getD 6 0]):=by
  have he:=iG d;have:=Ju2 (Gq st a r w v) 5 399 (v.getD 0 0) (v.getD 1 0) (v.getD 2 0) (v.getD 3 0) (v.getD 4 0) (v.getD 5 0) (v.getD 6 0) (v.getD 7 0) (by show some (HO.cells _ 8 (v.map uD))=_;rw[<-he]);rw[this];rfl
 have p:Ai none (Gq st a r w [v.getD 0 0,v.getD 0 0,v.getD 1 0,v.getD 2 0,v.getD 3 0,v.getD 4 0,v.getD 5 0,v.getD 6 0]) (.hp 5 4)=some (uD (v.getD 3 0)):=rfl;have s0:∀x,Bh 1 (.hp 5 0) (uD x) (Gq st a r w [v.getD 0 0,v.getD 0 0,v.getD 1 0,v.getD 2 0,v.getD 3 0,v.getD 4 0,v.getD 5 0,v.getD 6 0])=some (.v undef,Gq st a r w [x,v.getD 0 0,v.getD 1 0,v.getD 2 0,v.getD 3 0,v.getD 4 0,v.getD 5 0,v.getD 6 0]):=fun x=>rfl;have O:∀x y,Bh 1 (.hp 5 4) (uD y) (Gq st a r w [x,v.getD 0 0,v.getD 1 0,v.getD 2 0,v.getD 3 0,v.getD 4 0,v.getD 5 0,v.getD 6 0])=some (.v undef,Gq st a r w [x,v.getD 0 0,v.getD 1 0,v.getD 2 0,y,v.getD 4 0,v.getD 5 0,v.getD 6 0]):=fun x y=>rfl;have e6:(iD 6)=iD ((6:Nat):Int):=rfl;simp only[L,AU,Bd,Bv,T,W,K,Y,N,M,U,ld 0 (by decide),ld 1 (by decide),ld 2 (by decide),ld 4 (by decide),ld 5 (by decide),ld 6 (by decide),ld 7 (by decide),show(iD 6:D)=iD ((6:Nat):Int)from rfl,show(iD 11:D)=iD ((11:Nat):Int)from rfl,show(iD 25:D)=iD ((25:Nat):Int)from rfl,show(iD 2:D)=iD ((2:Nat):Int)from rfl,show(iD 13:D)=iD ((13:Nat):Int)from rfl,show(iD 22:D)=iD ((22:Nat):Int)from rfl,
  V,m,C,J,z,q,A7,O9 (MR 6 e) (MR 11 e),O9 (UR (MR 6 e) (MR 11 e)) (MR 25 e),O9 (MR 2 c) (MR 13 c),O9 (UR (MR 2 c) (MR 13 c)) (MR 22 c),fR,O9 G h,iO e (UR G h),iO c B,iO c E,iO B E,n0,F,H,S,Q,
  O9 h (VE (b:=v.getD 5 0^^^v.getD 6 0) e),O9 (VE (b:=v.getD 1 0) c) (VE (b:=v.getD 2 0) c),O9 (UR (VE (b:=v.getD 1 0) c) (VE (b:=v.getD 2 0) c)) (VE (b:=v.getD 2 0) B),Z,c2,P,p,s0,O,G5 j (by omega)]
 rfl
def JoY(p a w v:Ac Nat)(r:Ac Nat)(h:Ac Nat)(c:W32 8 h)(k:W32 8 v)(j:Nat)(b:j<8)(n:Nat):
  BK Aa (Rh Aa) VF n f270 1 [.hp 0 0,.hp 2 0,.hp 3 0,.hp 4 0,.hp 5 0,iD 64,iD j,.undef,.undef] (Gq h a r w v)=
   some (.normal,[.hp 0 0,.hp 2 0,.hp 3 0,.hp 4 0,.hp 5 0,iD 64,iD ((j+1:Nat):Int),.undef,.undef],Gq (h.set j ((h.getD j 0+v.getD j 0)%4294967296)) a r w v):=by
 rw[Jo4];have g:Ag .int .lss (iD j) (iD 8)=some (bD true):=G6 (by omega);have i:AP 0 (.hp 0 0)=some (.hp 0 0):=rfl;have d:=bK 8 0 0 j b;have e:=bK 8 5 0 j b;rw[EE]at d e;have o:Ai none (Gq h a r w v) (.hp 0 j)=some (uD (h.getD j 0)):=dM (l:=h) (t:= 401) (sz:=8) rfl (by rw[c.1];exact b);have m:Ai none (Gq h a r w v) (.hp 5 j)=some (uD (v.getD j 0)):=dM (l:=v) (t:= 399) (sz:=8) rfl (by rw[k.1];exact b);have s0:Bh 1 (.hp 0 j) (uD ((h.getD j 0+v.getD j 0)%4294967296)) (Gq h a r w v)=some (.v undef,Gq (h.set j ((h.getD j 0+v.getD j 0)%4294967296)) a r w v):=Mk (l:=h) (t:= 401) (sz:=8) rfl (by rw[c.1];exact b) _;simp only[g,AU,Bd,Bv,i,d,e,o,m,fR,s0,A7,G5 j (by omega)];rfl
def gK(P:Aj):Ac D->Af D:=O4 P (Rh P) VF 65 270
def JrT:Bz Aa 270 (gK Aa):=ZF Jh7 AX func270
def MB(l:Ac Nat):D:= .agg (l.map uD)
def PK(l:Ac Nat):D:= .agg (l.map EG)
def Jsz(t:AQ)(l:Ac Nat)(H:Ae):BA t (MB l) H=some (.hp H.length 0,H++[.cells t l.length (l.map uD)]):=by
 have:=mM t (l.map uD) H (by simp[uD,Df]);rw[Ju]at this;exact this
def Qdq(t:AQ)(l:Ac Nat)(H:Ae):BA t (PK l) H=some (.hp H.length 0,H++[.cells t l.length (l.map EG)]):=by
 have:=mM t (l.map EG) H (by simp[EG,Df]);rw[Ju]at this;exact this
def wC(H:Ae)(id:Nat)(t:AQ)(l:Ac Nat)(a:l.length=8)(h:H[id]? =some (.cells t 8 (l.map uD))):Ai (some 8) H (.hp id 0)=some (MB l):=by
 rw[Es,h];simp only[OK,UB,Ju,a];rw[Aw (by omega),<-a,<-Ju (f:=uD),II];rfl
def Jp6(st b:Ac Nat)(hs:W32 8 st)(q:B8 64 b):gK Aa [MB st,PK b]=some (MB (Jq E5 st b)):=by
 rw[gK,O4,CJ func270,JqZ];unfold AV Dw;have E:=Qfr q;have C:=Jsz 401 st [];rw[hs.1]at C;have u:=Qdq 406 b [.cells 401 8 (st.map uD)];rw[q.1]at u;let z:Ac Nat:=List.replicate 8 0;have D:BX 401 (z.map uD) [.cells 401 8 (st.map uD),.cells 406 64 (b.map EG)]=some (.hp 2 0,[.cells 401 8 (st.map uD),.cells 406 64 (b.map EG),.cells 401 8 (z.map uD)]):=rfl;have N:=Jnw [.cells 401 8 (st.map uD),.cells 406 64 (b.map EG),.cells 401 8 (z.map uD)] 1 406 b q rfl;have F:=JnY [.cells 401 8 (st.map uD),.cells 406 64 (b.map EG),.cells 401 8 (z.map uD),.cells 468 64 ((Gj b).map uD)];have J:AP 0 (.hp 0 0)=some (.hp 0 0):=rfl;have Q:=wC [.cells 401 8 (st.map uD),.cells 406 64 (b.map EG),.cells 401 8 (z.map uD),.cells 468 64 ((Gj b).map uD),.cells 468 64 (E5.map uD)] 0 401 st hs.1 rfl;have H:BX 399 (z.map uD) [.cells 401 8 (st.map uD),.cells 406 64 (b.map EG),.cells 401 8 (z.map uD),.cells 468 64 ((Gj b).map uD),.cells 468 64 (E5.map uD)]=some (.hp 5 0,Gq st b z (Gj b) z):=rfl;have b8:∀(r w v x:Ac Nat),W32 8 v->W32 8 x->Bh 8 (.hp 5 0) (MB x) (Gq st b r w v)=some (.v undef,Gq st b r w x):=fun r w v x I c=>by
  rw[iG c,iG I];rfl
 have O:∀(h r w v x:Ac Nat),W32 8 r->W32 8 x->Bh 8 (.hp 2 0) (MB x) (Gq h b r w v)=some (.v undef,Gq h b x w v):=fun h r w v x d c=>by
  rw[iG c,iG d];rfl
 have B:W32 8 z:=⟨rfl,fun x c=>by simp[z]at c;omega⟩;have p:=Vd (P:=Aa) (T:=Rh Aa) (kp:=VF) (fn:= f270) (i:=0) (fun j=>[.hp 0 0,.hp 2 0,.hp 3 0,.hp 4 0,.hp 5 0,iD j,.undef,.undef,.undef]) (fun j=>Gq st b z (Gj b) (Ox E5 (Gj b) st j))
  (r:=(.exit 0,[.hp 0 0,.hp 2 0,.hp 3 0,.hp 4 0,.hp 5 0,iD 64,.undef,.undef,.undef],Gq st b z (Gj b) (Ox E5 (Gj b) st 64))) (by intro e;cases e) 64 65 (by omega)
  (fun j g=>QaM st b z (Gj b) _ E (Bp hs j) j g 65) (by rfl)
 have s:=Vd (P:=Aa) (T:=Rh Aa) (kp:=VF) (fn:= f270) (i:=1) (fun j=>[.hp 0 0,.hp 2 0,.hp 3 0,.hp 4 0,.hp 5 0,iD 64,iD j,.undef,.undef]) (fun j=>Gq (nK st (Ox E5 (Gj b) st 64) j) b z (Gj b) (Ox E5 (Gj b) st 64))
  (r:=(.exit 2,[.hp 0 0,.hp 2 0,.hp 3 0,.hp 4 0,.hp 5 0,iD 64,iD 8,.undef,.undef],Gq (Jq E5 st b) b z (Gj b) (Ox E5 (Gj b) st 64))) (by intro e;cases e) 8 65 (by omega)
  (fun j g=>JoY st b (Gj b) _ z _ (Mq hs j) (Bp hs 64) j g 65) (by rfl)
 have R:=Bp (k:=E5) (w:=Gj b) hs 64;have d:W32 8 (Jq E5 st b):=Kg hs;have m:=wC (Gq (Jq E5 st b) b z (Gj b) (Ox E5 (Gj b) st 64)) 0 401 (Jq E5 st b) d.1 rfl;have o:=wC (Gq (Jq E5 st b) b (Jq E5 st b) (Gj b) (Ox E5 (Gj b) st 64)) 2 401 (Jq E5 st b) d.1 rfl;rw[C];simp only[A7];simp only[JO];show BB (Ah (BA _ (PK b) [.cells 401 8 (st.map uD)]) _)=_;rw[u];simp only[A7];show BB (Ah (BX 401 (z.map uD) [.cells 401 8 (st.map uD),.cells 406 64 (b.map EG)]) _)=_;rw[D];simp only[A7];show BB (Ah (fA Aa [.hp 1 0] _) _)=_;rw[N];simp only[A7];show BB (Ah (fG Aa [] [.cells 401 8 (st.map uD),.cells 406 64 (b.map EG),.cells 401 8 (z.map uD),.cells 468 64 ((Gj b).map uD)]) _)=_;rw[F];simp only[A7];show BB (Ad (AP 0 (.hp 0 0)) fun y=>Ad (Ai (some 8) [.cells 401 8 (st.map uD),.cells 406 64 (b.map EG),.cells 401 8 (z.map uD),.cells 468 64 ((Gj b).map uD),.cells 468 64 (E5.map uD)] y) _)=_;rw[J];simp only[AU];rw[Q];simp only[AU];show BB (Ah (BX 399 (z.map uD) [.cells 401 8 (st.map uD),.cells 406 64 (b.map EG),.cells 401 8 (z.map uD),.cells 468 64 ((Gj b).map uD),.cells 468 64 (E5.map uD)]) _)=_;rw[H];simp only[A7];rw[b8 z (Gj b) z st B hs];simp only[A7];have M:iD ((0:Nat):Int)=iD 0:=rfl;rw[M]at p s;show BB (Dy (BZ _ _ _ _ _ 0 [.hp 0 0,.hp 2 0,.hp 3 0,.hp 4 0,.hp 5 0,iD 0,.undef,.undef,.undef] (Gq st b z (Gj b) st)) _ _)=_;have L:Ox E5 (Gj b) st 0=st:=rfl;rw[L]at p;rw[p];show BB (Dy (BZ _ _ _ _ _ 1 [.hp 0 0,.hp 2 0,.hp 3 0,.hp 4 0,.hp 5 0,iD 64,iD 0,.undef,.undef] (Gq st b z (Gj b) (Ox E5 (Gj b) st 64))) _ _)=_;have G:nK st (Ox E5 (Gj b) st 64) 0=st:=rfl;rw[G]at s;rw[s];show BB (Ad (Ai (some 8) (Gq (Jq E5 st b) b z (Gj b) (Ox E5 (Gj b) st 64)) (.hp 0 0)) fun n=>Ah (Bh 8 (.hp 2 0) n _) _)=_;rw[m];simp only[AU];rw[O _ z _ _ _ B d];simp only[A7];show BB (Ad (Ai (some 8) (Gq (Jq E5 st b) b (Jq E5 st b) (Gj b) (Ox E5 (Gj b) st 64)) (.hp 2 0)) fun y=>some (y,_))=_;rw[o];exact Gu _ _ (by
  show Fj ((Jq E5 st b).map uD)=true;generalize Jq E5 st b=l
  induction l with
  |nil=>rfl
  |cons a r K=>simpa[uD,Fj,EC]using K)
def wW(P:Aj):Ac D->Af D:=O4 P (Rh P) Jzs 9 271
def QeC:Bz Aa 271 (wW Aa):=ZF Jh7 AX func271
def M9(a k:Nat):UInt8:=UInt8.ofNat (IntKind.u8.wrap ((a:Int).fdiv (2^k))).toNat
def TR(a:Nat):By:=[M9 a 24,M9 a 16,M9 a 8,UInt8.ofNat (IntKind.u8.wrap (a:Int)).toNat]
set_option maxHeartbeats 2000000 in
def Jvo(a b c d e f g h:Nat):wW Aa [MB [a,b,c,d,e,f,g,h]]=some (sD (TR a++(TR b++(TR c++(TR d++(TR e++(TR f++(TR g++TR h)))))))):=by kernel_rfl
def Jv8{st:Ac Nat}(h:W32 8 st):wW Aa [MB st]=some (sD (st.flatMap TR)):=by
 match st,h.1 with
 |[a,b,c,d,e,f,g,h],_=>exact Jvo a b c d e f g h
def Jrj{st:Ac Nat}(h:W32 8 st):(st.flatMap TR).length=32:=by
 match st,h.1 with
 |[a,b,c,d,e,f,g,h],_=>rfl
def WT:Nat->By->Nat->Nat->By
 |0,b,_,_=>b
 |m+1,b,i,r=>if r=0 then b else WT m (b.set i (b8 r)) (i-1) (r/256)
theorem JjV:∀(m:Nat) (b:By) (i r:Nat),(WT m b i r).length=b.length
 |0,b,_,_=>rfl
 |m+1,b,i,r=>by
  unfold WT;split
  ·rfl
  ·rw[JjV m];simp
def FD(n:Nat):Nat:=72-(n%64+8)%64
def Jo(n:Nat):By:=WT 8 ((List.replicate (FD n) 0).set 0 128) (FD n-1) (n*8)
def eR(n:Nat):(Jo n).length=FD n:=by unfold Jo;rw[JjV];simp
def Jib(n:Nat):9<=FD n/\FD n<=72:=by unfold FD;omega
def JlZ(n:Nat):(n+FD n)%64=0:=by unfold FD;omega
def JjE{H:Ae}{id:Nat}{t:AQ}{sz:Nat}{l:By}(h:H[id]? =some (.cells t sz (Eu l))){i:Nat}(a:i<l.length)(x:UInt8):Bh 1 (.hp id i) (Gm x) H=some (.v undef,H.set id (.cells t sz (Eu (l.set i x)))):=by
 rw[IV H id i t sz _ (Gm x) h (by rw[dH];exact a) rfl rfl];unfold Eu;rw[zY]
theorem JfZ:∀(k f:Nat) (b:By) (i r:Nat),r<256^k->k<=i->i<b.length->b.length<=72->k<f->∃h:Int,
  DY (BK Aa T0 WN 20 f269 0) f [.hs 0 b.length,iD i,BO r] [.cells 5 1 (Eu b)]=some (.exit 0,[.hs 0 b.length,iD h,BO 0],[.cells 5 1 (Eu (WT k b i r))])
 |0,f,b,i,r,g,p,e,m,x=>by
  obtain⟨a,rfl⟩:∃a,f=a+1:=⟨f-1,by omega⟩;have:r=0:=by simpa using g
  subst this;refine⟨i,?_⟩;have q:BK Aa T0 WN 20 f269 0 [.hs 0 b.length,iD i,BO ((0:Nat):Int)] [.cells 5 1 (Eu b)]=some (.exit 0,[.hs 0 b.length,iD i,BO 0],[.cells 5 1 (Eu b)]):=by
   rw[Q1];rfl
  unfold DY;rw[q];rfl
 |k+1,f,b,i,r,g,p,e,m,x=>by
  obtain⟨a,rfl⟩:∃a,f=a+1:=⟨f-1,by omega⟩;by_cases l:r=0
  ·subst l;refine⟨i,?_⟩;have q:BK Aa T0 WN 20 f269 0 [.hs 0 b.length,iD i,BO ((0:Nat):Int)] [.cells 5 1 (Eu b)]=some (.exit 0,[.hs 0 b.length,iD i,BO 0],[.cells 5 1 (Eu b)]):=by
    rw[Q1];rfl
   unfold DY;rw[q];simp[WT]
  ·have j:r/256<256^k:=by rw[Nat.pow_succ]at g;omega
   obtain⟨h,c⟩:=JfZ k a (b.set i (b8 r)) (i-1) (r/256) j (by omega) (by simp;omega) (by simpa using m) (by omega);refine⟨h,?_⟩;have u:Ag .int .gtr (BO r) (.v (.int .u64 0))=some (bD true):=by show some (bD (decide ((r:Int)>0)))=_;rw[CZ (by omega)]
   have v:Dk .u8 (BO r)=some (Gm (b8 r)):=UG _ _;have y:BG 1 (.hs 0 b.length) (iD i)=some (.hp 0 i):=by
    simp[BG,IC,e]
   have w:=JjE (H:=[.cells 5 1 (Eu b)]) (id:=0) rfl e (b8 r);have n:=XR i 1 (by omega) (by omega);have o:Ag .int .shr (BO r) (.v (.int .u64 8))=some (BO ((r/256:Nat):Int)):=by
    show LX .shr .u64 r 8=_;unfold LX;rw[Am (by decide)];show some (D.v (.int .u64 ((r:Int).fdiv (2^8))))=_;rw[rT _ (by decide)];rfl
   have q:BK Aa T0 WN 20 f269 0 [.hs 0 b.length,iD i,BO r] [.cells 5 1 (Eu b)]=some (.normal,[.hs 0 b.length,iD ((i-1:Nat):Int),BO ((r/256:Nat):Int)],[.cells 5 1 (Eu (b.set i (b8 r)))]):=by
    rw[Q1];have d:Ag .int .sub (iD i) (iD 1)=some (iD ((i-1:Nat):Int)):=n;simp only[u,AU,Bd,Bv,v,y,w,A7,d,o];rfl
   unfold DY;rw[q];have s:(b.set i (b8 r)).length=b.length:=by simp
   rw[s]at c;simp only[c];rw[show WT (k+1) b i r=WT k (b.set i (b8 r)) (i-1) (r/256)from by rw[WT];exact Am l]
def JsF(n:Nat)(x:n<=4000000):kV Aa [iD n]=some (sD (Jo n)):=by
 rw[kV,O4,CJ func269,Jvm];have j:Ag .int .lss (iD n) (iD 0)=some (bD false):=Me (by omega);have k:Ag .int .rem (iD n) (iD 64)=some (iD ((n%64:Nat):Int)):=by rfl
 have u:Ag .int .add (iD ((n%64:Nat):Int)) (iD 8)=some (iD ((n%64+8:Nat):Int)):=by
  rw[YR (by omega) (by omega)];rfl
 have o:Ag .int .rem (iD ((n%64+8:Nat):Int)) (iD 64)=some (iD (((n%64+8)%64:Nat):Int)):=by rfl
 have p:Ag .int .sub (iD 72) (iD (((n%64+8)%64:Nat):Int))=some (iD (FD n)):=XR 72 _ (by omega) (by omega);have hp:=Jib n;have r:NV 5 1 [yZ] (iD (FD n)) (iD (FD n)) []=some (.hs 0 (FD n),[.cells 5 1 (Eu (List.replicate (FD n) 0))]):=by
  have e:(List.replicate (FD n) [yZ]).flatten=Eu (List.replicate (FD n) 0):=by
   unfold Eu;rw[List.map_replicate,List.flatten_replicate_singleton];rfl
  unfold NV;refine(Aw ⟨rfl,by omega,by omega,rfl⟩).trans ?_;unfold Gg;rw[show((FD n:Nat):Int).toNat=FD n from by omega,e,Aw (JgI _)];rfl
 have v:BG 1 (.hs 0 (FD n)) (iD 0)=some (.hp 0 0):=by
  simp[BG,IC];omega
 have l:=JjE (H:=[.cells 5 1 (Eu (List.replicate (FD n) 0))]) (id:=0) rfl (i:=0) (by simp;omega) 128;have g:Bh 1 (.hp 0 0) (.v (.int .u8 128)) [.cells 5 1 (Eu (List.replicate (FD n) 0))]=some (.v undef,[.cells 5 1 (Eu ((List.replicate (FD n) 0).set 0 128))]):=l;have q:Bq .sl (.hs 0 (FD n))=some (iD (FD n)):=rfl;have s:Ag .int .sub (iD (FD n)) (iD 1)=some (iD ((FD n-1:Nat):Int)):=XR _ 1 (by omega) (by omega);have b:Dk .u64 (iD n)=some (BO n):=Nz _ _ (by omega) (by omega);have c:Ag .int .shl (BO n) (.v (.int .u64 3))=some (BO ((n*8:Nat):Int)):=by
  show LX .shl .u64 n 3=_;unfold LX;rw[Am (by decide)];show some (D.v (.int .u64 (IntKind.u64.wrap ((n:Int)*2^3))))=_;rw[IntWalk.u64_in _ ⟨by omega,by omega⟩];show some (BO _)=some (BO _);congr 2
 have d:((List.replicate (FD n) (0:UInt8)).set 0 128).length=FD n:=by simp
 obtain⟨m,h⟩:=JfZ 8 20 ((List.replicate (FD n) 0).set 0 128) (FD n-1) (n*8) (by omega) (by omega) (by rw[d];omega) (by rw[d];omega) (by decide);rw[d]at h;have a:BZ Aa T0 WN 20 f269 0 [.hs 0 (FD n),iD ((FD n-1:Nat):Int),BO ((n*8:Nat):Int)] [.cells 5 1 (Eu ((List.replicate (FD n) 0).set 0 128))]=some (.exit 0,[.hs 0 (FD n),iD m,BO 0],[.cells 5 1 (Eu (Jo n))]):=h;have w:=Jda [.cells 5 1 (Eu (Jo n))] 0 (FD n) 5 (Jo n) rfl (eR n).symm;simp only[j,AU,Bd,k,u,o,p,r,A7,v,g,q,s,b,c,a];simp[w]
def Mp(P:Aj):Ac Cj:=(270,true,Ak (gK P))::(271,true,Ak (wW P))::BW P
def JjO:∀p∈Mp Aa,Ci Aa p:=AC (Bf JrT)<|AC (Bf QeC)<|MY
def PZ(P:Aj)(Y:Nat->GT):Tab:=⟨Mp P,Y,[]⟩
def Jdo(Y:Nat->GT)(a:FT Aa Y):Bg Aa (PZ Aa Y):=⟨JjO,a,fun _ h=>by cases h⟩
section
variable (Y : Nat → GT)
def Jd8:Ac Nat:=[]
def Qfe(n:Nat)(a:D)(h:Ae):AB Aa (PZ Aa Y) Jd8 n f268 [a] h=
(Ah (BA 9 a h) fun c b=>
some ((.clo (.func 308) [] [c]),b)):=by kernel_rfl
def XK:Ac Nat:=[0,1]
def Jq4(n:Nat)(c b:D)(h:Ae):AB Aa (PZ Aa Y) XK n f308 [c,b] h=
(Dy (BZ Aa (PZ Aa Y) XK n f308 0 [c,b] h) (fun e d a=>
CW e 0
(some (.tup [],a))
(none)) (fun d a=>
some (.tup [],a))):=by kernel_rfl
def Jh2(n:Nat)(s0 a:D)(h:Ae):BK Aa (PZ Aa Y) XK n f308 0 [s0,a] h=
(Ad (Ai none h a) fun l=>
Ad (Bq .str l) fun m=>
Ad (Ag .int .geq m (iD 64)) fun q=>
Az q
(Ad (Ai none h a) fun o=>
Ad (Rt o none (some (iD 64))) fun p=>
Ad (YC p) fun r=>
Ad (Xp 64 1 r) fun i=>
Ad (Ai (some 64) h i) fun j=>
Ah (C9 (PZ Aa Y) s0 [j] h) fun s c=>
Ad (Gn s) fun b=>
Az b
(some (.ret,[s0,a],c))
(Ad (Ai none c a) fun g=>
Ad (Rt g (some (iD 64)) none) fun d=>
Ah (Bh 1 a d c) fun k e=>
some (.normal,[s0,a],e)))
(some ((.exit 0),[s0,a],h))):=by kernel_rfl
end
def xO(P:Aj)(Y:Nat->GT):GT:=CO P (PZ P Y) XK 70000 308
def JrP(Y:Nat->GT)(a:FT Aa Y):BN Aa 308 (xO Aa Y):=CQ (Jdo Y a) AX func308
def uF(P:Aj):GT:=CO P (PZ P BM) Jd8 0 268
def QbV:BN Aa 268 (uF Aa):=CQ (Jdo BM (cZ _)) AX func268
def OA(P:Aj)(Y:Nat->GT):Tab:=⟨(308,false,xO P Y)::(268,false,uF P)::Mp P,Y,[]⟩
def Jgu(Y:Nat->GT)(a:FT Aa Y):Bg Aa (OA Aa Y):=⟨AC (CB (JrP Y a))<|AC (CB QbV) JjO,a,fun _ h=>by cases h⟩
def YS(P:Aj):Nat->GT:=Yn P (OA P) 0 1
def Jld:FT Aa (YS Aa):=TW Jgu AX 0 1
section
variable (Y : Nat → GT)
def XQ:Ac Nat:=[3]
def QbE(n:Nat)(i:D)(h:Ae):AB Aa (OA Aa Y) XQ n f208 [i] h=
(Ah (Ak (yU Aa) [] h) fun s v=>
Ah (BX 401 [wZ,wZ,wZ,wZ,wZ,wZ,wZ,wZ] v) fun b p=>
Ah (Bh 8 b s p) fun y w=>
Ad (Bq .str i) fun q=>
Ah (Ak (kV Aa) [q] w) fun r u=>
Ad (Ag .str .add i r) fun x=>
Ah ((uF Aa) [x] u) fun d j=>
PI (IK (OA Aa Y) d [13] (ET f208 0) (EL f208 0) 21 XQ [b] j) (fun a=>
Ad (Ai (some 8) a b) fun l=>
Ah (C9 (OA Aa Y) (.clo (.func 271) [l] []) [] a) fun m c=>
some (m,c)) (fun g a=>
CW g 0
(Ad (Ai (some 8) a b) fun e=>
Ah (C9 (OA Aa Y) (.clo (.func 271) [e] []) [] a) fun o k=>
some (o,k))
(none)) (fun a=>
some (CS,a))):=by kernel_rfl
def Qbp(n id:Nat)(s0:D)(c:D)(h:Ae):Mc Aa (OA Aa Y) n id [13] (ET f208 0) (EL f208 0) 21 XQ [s0] [c] h=
(Ah (BX 406 [yZ,yZ,yZ,yZ,yZ,yZ,yZ,yZ,yZ,yZ,yZ,yZ,yZ,yZ,yZ,yZ,yZ,yZ,yZ,yZ,yZ,yZ,yZ,yZ,yZ,yZ,yZ,yZ,yZ,yZ,yZ,yZ,yZ,yZ,yZ,yZ,yZ,yZ,yZ,yZ,yZ,yZ,yZ,yZ,yZ,yZ,yZ,yZ,yZ,yZ,yZ,yZ,yZ,yZ,yZ,yZ,yZ,yZ,yZ,yZ,yZ,yZ,yZ,yZ] h) fun d k=>
Ah (Bh 64 d c k) fun m e=>
IZ id e fun b=>
Ad (Ai (some 8) b s0) fun l=>
Ad (Ai (some 64) b d) fun g=>
Ah (Ak (gK Aa) [l,g] b) fun i j=>
Ah (Bh 8 s0 i j) fun o a=>
J9 id .normal a):=by kernel_rfl
end
def XZ:Nat->Ac Nat->By->Ac Nat
 |0,st,_=>st
 |k+1,st,s=>XZ k (Jq E5 st ((s.take 64).map UInt8.toNat)) (s.drop 64)
theorem cD:∀(k:Nat) (st:Ac Nat) (s:By),W32 8 st->W32 8 (XZ k st s)
 |0,st,s,h=>h
 |k+1,st,s,h=>cD k _ _ (Kg h)
def J6:Ac Nat:=[1779033703,3144134277,1013904242,2773480762,1359893119,2600822924,528734635,1541459225]
def T8:W32 8 J6:=⟨rfl,by decide⟩
def JnC:yU Aa []=some (MB J6):=by kernel_rfl
def HC(l:By):By:=(XZ ((l.length+FD l.length)/64) J6 (l++Jo l.length)).flatMap TR
def QcB(l:By):(HC l).length=32:=Jrj (cD _ _ _ T8)
def Jml(l:By)(h:l.length=64)(H:Ae):(YC (sD l)).bind (fun y=>(Xp 64 1 y).bind fun z=>Ai (some 64) H z)=some (PK (l.map UInt8.toNat)):=by
 have c:YC (sD l)=some (.sl 1 (l.map fun b=>[Gm b])):=by rfl
 have f:(l.map fun b=>[Gm b]).flatten=(l.map UInt8.toNat).map EG:=by
  clear h c
  induction l with
  |nil=>rfl
  |cons a r e=>simp only[EP,IX,e];rfl
 have d:Xp 64 1 (.sl 1 (l.map fun b=>[Gm b]))=some (.ptr ((l.map UInt8.toNat).map EG)):=by
  show(if _ then _ else _)=_
  grind
 rw[c,BR,d,BR];show(if 0+64<=((l.map UInt8.toNat).map EG).length then some (D.agg ((((l.map UInt8.toNat).map EG).drop 0).take 64))else none)=_;rw[Aw (by simp[h]),UB];have:((l.map UInt8.toNat).map EG).length=64:=by simp[h]
 rw[<-this,II];rfl
def QbG(l:By)(h:64<=l.length):Rt (sD l) none (some (iD 64))=some (sD (l.take 64)):=by
 have:=Ja6 l 0 64 (by omega) h;rw[UB]at this;exact this
def QbO(l:By)(h:64<=l.length):Rt (sD l) (some (iD 64)) none=some (sD (l.drop 64)):=by
 have:=Ja6 l 64 l.length h (BQ _);rw[II]at this;have b:KX (I7 l).size none=some l.length:=by rfl
 have a:KX (I7 l).size (some (iD l.length))=some l.length:=by simp[KX]
 have e:Rt (sD l) (some (iD 64)) none=Rt (sD l) (some (iD ((64:Nat):Int))) (some (iD l.length)):=by rfl
 rw[e];exact this
def Oq(fn:Func)(st:LS):HO:= .loop st [13] (ET fn 0) (EL fn 0) 21 XQ [.hp 0 0]
structure vG(H:Ae)(st:List Nat)(s:By):Prop where
 len:3<=H.length
 st:H[0]? =some (.cells 401 8 (st.map uD))
 str:H[1]? =some (.cells 9 1 [sD s])
 loop:H[2]? =some (Oq f208 .ready)
def Jv9(H:Ae)(st:Ac Nat)(s i:By)(h:vG H st s)(hs:W32 8 st)(I:i.length=64):
  ∃H',YS Aa 2 [PK (i.map UInt8.toNat)] H=some (bD true,H')/\vG H' (Jq E5 st (i.map UInt8.toNat)) s:=by
 obtain⟨R,U,V,v⟩:=h;have e:B8 64 (i.map UInt8.toNat):=⟨by simp[I],fun x B=>by
  obtain⟨b,_,rfl⟩:=GN.1 B;exact b.toNat_lt⟩
 generalize i.map UInt8.toNat=b at*;have O:YS Aa 2 [PK b] H=Jb Aa (OA Aa BM) 0 2 [PK b] H:=rfl;have j:Jb Aa (OA Aa BM) 0 2 [PK b] H=Mc Aa (OA Aa BM) 0 2 [13] (ET f208 0) (EL f208 0) 21 XQ [.hp 0 0] [PK b] H:=by
  unfold Jb;rw[v];simp only[Oq];rw[Aw];refine⟨rfl,?_,?_,?_,?_⟩<;>kernel_rfl
 rw[O,j,Qbp];let z:Ac Nat:=List.replicate 64 0;have al:BX 406 (z.map EG) H=some (.hp H.length 0,H++[.cells 406 64 (z.map EG)]):=rfl;have w:Bh 64 (.hp H.length 0) (PK b) (H++[.cells 406 64 (z.map EG)])=some (.v undef,H++[.cells 406 64 (b.map EG)]):=by
  have n:D7 (PK b)=some (b.map EG):=rfl;have o:(b.map EG).all Df=true:=by simp[EG,Df]
  unfold Bh FI;rw[n];simp only[Hz];rw[Aw ⟨by simp[e.1],by simp[e.1,z],o⟩];simp only[Dt,NP];simp[e.1,z]
 have M:(H++[HO.cells 406 64 (b.map EG)])[H.length]? =some (.cells 406 64 (b.map EG)):=by simp
 have g:∀k,k<H.length->(H++[HO.cells 406 64 (b.map EG)])[k]? =H[k]? :=fun k j=>Ii j;have S:(H++[HO.cells 406 64 (b.map EG)]).length=H.length+1:=by simp
 generalize H++[HO.cells 406 64 (b.map EG)]=c at*;have K:c[2]? =some (Oq f208 .ready):=(g 2 (by omega)).trans v;have p:IZ (α:=D×Ae) 2 c=fun k=>k (c.set 2 (Oq f208 .busy)):=by
  funext k;unfold IZ;rw[K];rfl
 have q:∀k,k≠2->(c.set 2 (Oq f208 .busy))[k]? =c[k]? :=fun k j=>Ee (Ne.symm j);have G:(c.set 2 (Oq f208 .busy))[2]? =some (Oq f208 .busy):=Hw (by omega);have Q:(c.set 2 (Oq f208 .busy)).length=c.length:=by simp
 generalize c.set 2 (Oq f208 .busy)=d at*;have F:=wC d 0 401 st hs.1 (by grind);have P:Ai (some 64) d (.hp H.length 0)=some (PK b):=by
  rw[Es,q H.length (by omega),M];simp only[OK,UB,Ju,e.1];rw[Aw (by omega),<-e.1,<-Ju (f:=EG),II];rfl
 have u:∀(f:Nat->Ap) (l:Ac Nat),Fj (l.map fun x=>D.v (f x))=true:=fun f l=>by
  induction l with
  |nil=>rfl
  |cons a r T=>simp_all
 have L:Ak (gK Aa) [MB st,PK b] d=some (MB (Jq E5 st b),d):=by
  rw[CP _ _ _ (by
   show(Fj (st.map uD)&&(Fj (b.map EG)&&true))=true;have y:=u (fun x=> .int .u32 x) st;have C:=u (fun x=> .int .u8 x) b;simp only[Bool.and_true,DJ];exact⟨y,C⟩),Jp6 st b hs e];rfl
 have m:=Kg (k:=E5) (b:=b) hs;have N:Bh 8 (.hp 0 0) (MB (Jq E5 st b)) d=some (.v undef,d.set 0 (.cells 401 8 ((Jq E5 st b).map uD))):=by
  have n:D7 (MB (Jq E5 st b))=some ((Jq E5 st b).map uD):=rfl;have o:((Jq E5 st b).map uD).all Df=true:=by simp[uD,Df]
  have J:d[0]? =some (.cells 401 8 (st.map uD)):=by grind
  unfold Bh FI;rw[n];simp only[J];rw[Aw ⟨by simp[m.1],by simp[m.1,hs.1],o⟩];have E:(st.map uD).drop 8=[]:=rK (by simp[hs.1]);simp[m.1,E]
 refine⟨(d.set 0 (.cells 401 8 ((Jq E5 st b).map uD))).set 2 (Oq f208 .ready),?_,by simp;omega,?_,?_,?_⟩
 ·show Ah (BX 406 (z.map EG) H) _=_;rw[al];simp only[A7,w,p,F,P,AU,L,N];unfold J9;rw[show(d.set 0 (.cells 401 8 ((Jq E5 st b).map uD)))[2]? =some (Oq f208 .busy)from by rw[Ee (by omega)];exact G];rfl
 ·grind
 ·grind
 grind
theorem Je5:∀(k f:Nat) (H:Ae) (st:Ac Nat) (s:By),vG H st s->W32 8 st->s.length=64*k->s.length<=4000000->k<f->∃H',
  DY (BK Aa (PZ Aa (YS Aa)) XK 70000 f308 0) f [.yld 2,.hp 1 0] H=some (.exit 0,[.yld 2,.hp 1 0],H')/\vG H' (XZ k st s) []
 |0,f,H,st,s,h,hs,r,E,y=>by
  obtain⟨a,rfl⟩:∃a,f=a+1:=⟨f-1,by omega⟩;have:s=[]:=NK.1 (by omega);subst this;refine⟨H,?_,h⟩;have q:BK Aa (PZ Aa (YS Aa)) XK 70000 f308 0 [.yld 2,.hp 1 0] H=some (.exit 0,[.yld 2,.hp 1 0],H):=by
   rw[Jh2];have g:=Gs H 1 _ _ _ _ h.str;simp only[g,AU];rfl
  unfold DY;rw[q]
 |k+1,f,H,st,s,h,hs,r,E,y=>by
  obtain⟨a,rfl⟩:∃a,f=a+1:=⟨f-1,by omega⟩;have g:=Gs H 1 _ _ _ _ h.str;have v:Bq .str (sD s)=some (iD s.length):=Ue s;have w:Ag .int .geq (iD s.length) (iD 64)=some (bD true):=by rw[PQ,CZ (by omega)]
  have d:(s.take 64).length=64:=by simp;omega
  have C:=QbG s (by omega);have x:=QbO s (by omega);obtain⟨c,z,b⟩:=Jv9 H st s (s.take 64) h hs d;have l:C9 (PZ Aa (YS Aa)) (.yld 2) [PK ((s.take 64).map UInt8.toNat)] H=some (bD true,c):=z;have D:=Gs c 1 _ _ _ _ b.str;have n:=IV c 1 0 _ _ _ (sD (s.drop 64)) b.str (by simp) rfl rfl;have u:vG (c.set 1 (.cells 9 1 [sD (s.drop 64)])) (Jq E5 st ((s.take 64).map UInt8.toNat)) (s.drop 64):=
   ⟨by simpa using b.len,by rw[Ee (by omega)];exact b.st,Hw (by have:=b.len;omega),by rw[Ee (by omega)];exact b.loop⟩
  obtain⟨B,o,m⟩:=Je5 k a _ _ (s.drop 64) u (Kg hs) (by simp;omega) (by simp;omega) (by omega);refine⟨B,?_,m⟩;have q:BK Aa (PZ Aa (YS Aa)) XK 70000 f308 0 [.yld 2,.hp 1 0] H=some (.normal,[.yld 2,.hp 1 0],c.set 1 (.cells 9 1 [sD (s.drop 64)])):=by
   rw[Jh2];have e:=Jml (s.take 64) d H;cases j:YC (sD (s.take 64))with
   |none=>rw[j]at e;cases e
   |some p=>
    rw[j,BR]at e;cases i:Xp 64 1 p with
    |none=>rw[i]at e;cases e
    |some F=>
     rw[i,BR]at e;simp only[g,AU,v,w,Bd,Bv,C,j,i,e,l,A7,Yr,MX,BF,BC,D,x,n];rfl
  unfold DY;rw[q];exact o
def oK(P:Aj):Ac D->Af D:=O4 P (OA P (YS P)) XQ 0 208
def JvU:Bz Aa 208 (oK Aa):=ZF (Jgu _ Jld) AX func208
def Qb3(l:By)(x:l.length<=900000):oK Aa [sD l]=some (sD (HC l)):=by
 rw[oK,O4,CJ func208,QbE];have hp:=Jib l.length;have y:=JlZ l.length;have n:Ak (yU Aa) [] []=some (MB J6,[]):=by rw[CP _ _ _ rfl,JnC];rfl
 let z:Ac Nat:=List.replicate 8 0;have g:BX 401 (z.map uD) []=some (.hp 0 0,[.cells 401 8 (z.map uD)]):=rfl;have p:Bh 8 (.hp 0 0) (MB J6) [.cells 401 8 (z.map uD)]=some (.v undef,[.cells 401 8 (J6.map uD)]):=rfl;have u:Bq .str (sD l)=some (iD l.length):=Ue l;have e:Ak (kV Aa) [iD l.length] [.cells 401 8 (J6.map uD)]=some (sD (Jo l.length),[.cells 401 8 (J6.map uD)]):=by rw[CP _ _ _ rfl,JsF _ (by omega)];rfl
 have s:Ag .str .add (sD l) (sD (Jo l.length))=some (sD (l++Jo l.length)):=JzS _ _ (by rw[eR];omega);have m:uF Aa [sD (l++Jo l.length)] [.cells 401 8 (J6.map uD)]=some (.clo (.func 308) [] [.hp 1 0],[.cells 401 8 (J6.map uD),.cells 9 1 [sD (l++Jo l.length)]]):=by
  rw[uF,CJ func268,Qfe];rfl
 have b:(l++Jo l.length).length=l.length+FD l.length:=by rw[DC,eR]
 obtain⟨H',v,d⟩:=Je5 ((l.length+FD l.length)/64) 70000 [.cells 401 8 (J6.map uD),.cells 9 1 [sD (l++Jo l.length)],Oq f208 .ready] J6 (l++Jo l.length) ⟨by simp,rfl,rfl,rfl⟩ T8 (by rw[b];omega) (by rw[b];omega) (by omega);have j:BZ Aa (PZ Aa (YS Aa)) XK 70000 f308 0 [.yld 2,.hp 1 0] [.cells 401 8 (J6.map uD),.cells 9 1 [sD (l++Jo l.length)],Oq f208 .ready]=some (.exit 0,[.yld 2,.hp 1 0],H'):=v;have h:xO Aa (YS Aa) [.yld 2,.hp 1 0] [.cells 401 8 (J6.map uD),.cells 9 1 [sD (l++Jo l.length)],Oq f208 .ready]=some (.tup [],H'):=by
  rw[xO,CJ func308,Jq4,j];simp
 have w:IK (OA Aa (YS Aa)) (.clo (.func 308) [] [.hp 1 0]) [13] (ET f208 0) (EL f208 0) 21 XQ [.hp 0 0] [.cells 401 8 (J6.map uD),.cells 9 1 [sD (l++Jo l.length)]]=some (.normal,H'.set 2 .dead):=by
  have:IK (OA Aa (YS Aa)) (.clo (.func 308) [] [.hp 1 0]) [13] (ET f208 0) (EL f208 0) 21 XQ [.hp 0 0] [.cells 401 8 (J6.map uD),.cells 9 1 [sD (l++Jo l.length)]]=
   MQ (xO Aa (YS Aa) [.yld 2,.hp 1 0] [.cells 401 8 (J6.map uD),.cells 9 1 [sD (l++Jo l.length)],Oq f208 .ready]) 2:=rfl
  rw[this,h];unfold MQ;simp only[d.loop];rfl
 have c:=cD ((l.length+FD l.length)/64) J6 (l++Jo l.length) T8;have o:=wC (H'.set 2 .dead) 0 401 _ c.1 (by rw[Ee (by omega)];exact d.st);have k:C9 (OA Aa (YS Aa)) (.clo (.func 271) [MB (XZ ((l.length+FD l.length)/64) J6 (l++Jo l.length))] []) [] (H'.set 2 .dead)=some (sD (HC l),H'.set 2 .dead):=by
  have:C9 (OA Aa (YS Aa)) (.clo (.func 271) [MB (XZ ((l.length+FD l.length)/64) J6 (l++Jo l.length))] []) [] (H'.set 2 .dead)=Ak (wW Aa) [MB (XZ ((l.length+FD l.length)/64) J6 (l++Jo l.length))] (H'.set 2 .dead):=rfl;rw[this,CP _ _ _ (by
   generalize XZ ((l.length+FD l.length)/64) J6 (l++Jo l.length)=q;show(Fj (q.map uD)&&true)=true
   induction q with
   |nil=>rfl
   |cons a r i=>simpa[uD,Fj,EC]using i),Jv8 c];rfl
 rw[n];simp only[A7];show BB (Ah (BX 401 (z.map uD) []) _)=_;rw[g];simp only[A7,p,u,AU,e,s,m,w,mP,o,k];exact ZT _ _
def Jjk:Ac Nat:=[]
structure KN where
 a:Int
 b:Int
 c:Int
 deriving DecidableEq,Inhabited
def He(x:KN):Ac D:=[iD x.a,iD x.b,iD x.c]
def Gl(x:KN):D:= .agg (He x)
def BT:D->Af KN
 | .agg [a,b,c]=>(Dz a).bind fun a=>(Dz b).bind fun b=>(Dz c).map fun c=>⟨a,b,c⟩
 |_=>none
def Xg:EU KN:=⟨Gl,BT,fun _=>rfl,fun d x h=>by
 unfold BT at h;split at h
 ·obtain⟨a,g,h⟩:=Bi.1 h;obtain⟨b,f,h⟩:=Bi.1 h;obtain⟨c,e,h⟩:=DV.1 h;subst h;exact AY.agg (.cons (BV.ok _ _ g) (.cons (BV.ok _ _ f) (.cons (BV.ok _ _ e) .nil)))
 ·cases h⟩
def xY:Ac D->Af D:=F1 Xg fun x=>some (Gl x)
def Jtf(a b c:Int):BB (AB Aa TE Jjk 0 f132 [.agg [iD a,iD b,iD c]] [])=some (.agg [iD a,iD b,iD c]):=by kernel_rfl
def Jqd:Bz Aa 132 xY:=FC (kp:=Jjk) wG AX func132 fun x d h=>by
 cases h
 exact⟨0,_,Jtf x.a x.b x.c,AY.refl _⟩
def Jyt(x:KN)(H:Ae):Ak xY [Gl x] H=some (Gl x,H):=by
 rw[CP _ _ _ rfl];have:xY [Gl x]=_:=EO (A:=Xg) _ x;rw[this];rfl
def aC:Tab:=⟨[(132,true,Ak xY)],BM,[]⟩
def JrB:Bg Aa aC:=CU (AC (Bf Jqd) EN)
def iF:Ac Nat:=[2,3,6,7,8]
def Qfu(n:Nat)(g:D)(h:Ae):AB Aa aC iF n f57 [g] h=
(Ah (BX 31 [(iD 0),(iD 0),(iD 0)] h) fun k o=>
Ah (BX 208 [(iD 0),(iD 0),(iD 0)] o) fun q j=>
Ad (Bq .sl g) fun l=>
Dy (BZ Aa aC iF n f57 0 [k,q,g,l,(iD 0)] j) (fun m a b=>
CW m 0
(Ad (Ai (some 3) b (gD a 1)) fun r=>
Ah (Ak xY [r] b) fun s e=>
Ah (Bh 3 (gD a 0) s e) fun p c=>
Ad (Ai (some 3) c (gD a 0)) fun d=>
some (d,c))
(none)) (fun a b=>
Ad (Ai (some 3) b (gD a 0)) fun i=>
some (i,b))):=by kernel_rfl
def Jfa(n:Nat)(s0 a d e c:D)(h:Ae):BK Aa aC iF n f57 0 [s0,a,d,e,c] h=
(Ad (Ag .int .lss c e) fun x=>
Az x
(Ce 8 (some 8) h d c fun y=>
Dw 107 [Aq,(iD 0),(iD 0),(iD 0),(iD 0),(iD 0),(iD 0),CS] 8 y h fun k b=>
AV 3 none b k fun z=>
Ad (Ag .int .geq z (iD 0)) fun w=>
Az w
(AV 3 none b k fun u=>
Ad (Ag .int .lss u (iD 3)) fun j=>
Az j
(AV 3 none b k fun g=>
Ad (Ec 3 1 a g) fun s=>
Ad (Ai none b s) fun m=>
Ad (Ag .int .add m (iD 1)) fun q=>
Ad (Ec 3 1 a g) fun o=>
Ah (Bh 1 o q b) fun v l=>
Ad (Ag .int .add c (iD 1)) fun i=>
some (.normal,[s0,a,d,e,i],l))
(Ad (Ag .int .add c (iD 1)) fun r=>
some (.normal,[s0,a,d,e,r],b)))
(Ad (Ag .int .add c (iD 1)) fun p=>
some (.normal,[s0,a,d,e,p],b)))
(some ((.exit 0),[s0,a,d,e,c],h))):=by kernel_rfl
def Og(l:Ac Mu)(v:Int):Nat:=(l.filter fun m=>decide (m.v=v)).length
def ER(l:Ac Mu):KN:=⟨Og l 0,Og l 1,Og l 2⟩
def Jep(l:Ac Mu)(v:Int):Og l v<=l.length:=Jk0 _ _
def Jei(l:Ac Mu)(v:Int)(j:Nat)(h:j<l.length):Og (l.take (j+1)) v=Og (l.take j) v+if l[j].v=v then 1 else 0:=by
 rw[Og,Ij h,Jk1,DC];congr 1
 grind
structure nC(l:List Mu)(j:Nat)(H:Ae):Prop where
 s:H[0]? =some (.cells 31 3 [iD 0,iD 0,iD 0])
 c:H[1]? =some (.cells 208 3 (He (ER (l.take j))))
def KG{H:Ae}{id:Nat}{t:AQ}{sz n:Nat}{cs ds:Ac D}(h:H[id]? =some (.cells t sz cs))(d:cs.length=n)(c:ds.length=n)(b:ds.all Df=true):Bh n (.hp id 0) (.agg ds) H=some (.v undef,H.set id (.cells t sz ds)):=by
 have:FI n (.hp id 0) (.agg ds) H=some (H.set id (.cells t sz ds)):=by
  have a:D7 (.agg ds)=some ds:=rfl;simp only[FI,a,h];rw[Aw ⟨c,by omega,b⟩]
  grind
 rw[Bh,this];rfl
def mD(m:Mu):(BL m).all Df=true:=rfl
def JtS(l:Ac Mu)(j:Nat)(m:j<l.length)(S:l.length<=100000)(H:Ae)(i:nC l j H):
  ∃H',BK Aa aC iF 100001 f57 0 [.hp 0 0,.hp 1 0,DR l,iD l.length,iD j] H=some (.normal,[.hp 0 0,.hp 1 0,DR l,iD l.length,iD (j+1)],H')/\nC l (j+1) H':=by
 have I:BG 8 (DR l) (iD j)=some (.ptr (BL l[j])):=KO BL 8 l j m;have w:Ai (some 8) H (.ptr (BL l[j]))=some (FX l[j]):=rfl;let z:Ac D:=[Aq,iD 0,iD 0,iD 0,iD 0,iD 0,iD 0,CS];have p:BX 107 z H=some (.hp H.length 0,H++[.cells 107 8 z]):=rfl;have O:(H++[HO.cells 107 8 z])[H.length]? =some (.cells 107 8 z):=by simp
 have h:=KG O (n:=8) (ds:=BL l[j]) rfl rfl (mD _);have d:(H++[HO.cells 107 8 z]).set H.length (.cells 107 8 (BL l[j]))=H++[.cells 107 8 (BL l[j])]:=by simp
 rw[d]at h;have P:=(CV.1 i.s).1;have Q:=(CV.1 i.c).1;have C:(H++[HO.cells 107 8 (BL l[j])])[0]? =_:=(Ii P).trans i.s;have B:(H++[HO.cells 107 8 (BL l[j])])[1]? =_:=(Ii Q).trans i.c;have J:(H++[HO.cells 107 8 (BL l[j])])[H.length]? =some (.cells 107 8 (BL l[j])):=by simp
 have N:AP 3 (.hp H.length 0)=some (.hp H.length 3):=rfl;have u:Ai none (H++[HO.cells 107 8 (BL l[j])]) (.hp H.length 3)=some (iD l[j].v):=by rw[IM J];rfl
 rw[Jfa];unfold AV Ce Dw;have E:BX 107 [Aq,iD 0,iD 0,iD 0,iD 0,iD 0,iD 0,CS] H=_:=p;simp only[G6 (show(j:Int)<l.length by omega),AU,Bd,Bv,I,w,E,A7];have c:Bh 8 (.hp H.length 0) (FX l[j]) (H++[HO.cells 107 8 z])=_:=h;simp only[c,A7,N,AU,u,PQ,G5 j (by omega)];have other:(l[j].v≠0/\l[j].v≠1/\l[j].v≠2)->nC l (j+1) (H++[.cells 107 8 (BL l[j])]):=fun⟨L,G,M⟩=>by
  have:ER (l.take (j+1))=ER (l.take j):=by simp only[ER,Jei l _ j m,Am L,Am G,Am M,MZ]
  exact⟨C,by rw[this];exact B⟩
 by_cases r:0<=l[j].v
 ·by_cases y:l[j].v<3
  ·simp only[CZ r,Bd,Bv,G6 y];obtain⟨k,q⟩:∃k:Nat,l[j].v=(k:Int):=⟨l[j].v.toNat,by omega⟩;have b:k<3:=by omega
   have K:Ec 3 1 (.hp 1 0) (iD l[j].v)=some (.hp 1 k):=by
    have:IC (iD l[j].v)=some k:=by simp_all
    simp only[Ec,this,BR];rw[Aw b];simp
   have g:(He (ER (l.take j))).length=3:=rfl;have s:∃x:Nat,(He (ER (l.take j)))[k]? =some (iD x)/\x<=l.length/\(He (ER (l.take j))).set k (iD (x+1))=He (ER (l.take (j+1))):=by
    have a:=fun v=>Ig (Jep (l.take j) v) (by grind:(l.take j).length<=l.length);have hs:∀v,Og (l.take (j+1)) v=_:=fun v=>Jei l v j m
    match k,b with
    |0,_=>exact⟨_,rfl,a 0,by simp only[ER,He,hs,q];simp⟩
    |1,_=>exact⟨_,rfl,a 1,by simp only[ER,He,hs,q];simp⟩
    |2,_=>exact⟨_,rfl,a 2,by simp only[ER,He,hs,q];simp⟩
   obtain⟨x,T,R,F⟩:=s;have o:Ai none (H++[HO.cells 107 8 (BL l[j])]) (.hp 1 k)=some (iD x):=by simp_all
   have e:=IV (H++[HO.cells 107 8 (BL l[j])]) 1 k _ _ _ (iD (x+1)) B (by rw[g];exact b) rfl rfl;rw[F]at e;refine⟨(H++[HO.cells 107 8 (BL l[j])]).set 1 (.cells 208 3 (He (ER (l.take (j+1))))),?_,?_,?_⟩
   ·simp only[K,AU,o,G5 x (by omega),e,A7,Bd,Bv]
   ·grind
   grind
  ·simp only[CZ r,Bd,Bv,Me y];exact⟨_,rfl,other ⟨by omega,by omega,by omega⟩⟩
 ·simp only[Dc r,Bd,BF,BC]
  grind
def Sj:Ac D->Af D:=F1 MF fun l=>if l.length<=100000 then some (Gl (ER l))else none
def VU(l:Ac Mu):Bq .sl (DR l)=some (iD l.length):=by
 show some (iD ((l.map BL).length:Nat))=_;rw[Ju]
def Lk:Hr Aa 57 Sj:=JkD (kp:=iF) JrB AX func57 (by kernel_rfl) (by decide) fun l d h=>by
 split at h
 case isFalse=>cases h
 rename_i v;cases h;have o:nC l 0 [.cells 31 3 [iD 0,iD 0,iD 0],.cells 208 3 [iD 0,iD 0,iD 0]]:=⟨rfl,rfl⟩;have u:=NT (P:=Aa) (T:=aC) (kp:=iF) (fn:= f57) (li:=0) (fun j=>[.hp 0 0,.hp 1 0,DR l,iD l.length,iD j]) (fun j H=>nC l j H)
  (fun r=>∃H',r=(.exit 0,[.hp 0 0,.hp 1 0,DR l,iD l.length,iD l.length],H')/\nC l l.length H') l.length 100001 (fun j H q a=>JtS l j q v H a) (fun H a=>by
   refine⟨_,?_,?_,H,rfl,a⟩
   ·rw[Jfa];unfold AV Ce Dw;simp
   ·intro e;cases e) (by omega) o
 obtain⟨r,k,H',rfl,a⟩:=u;refine⟨100001,(Gl (ER l),H'.set 0 (.cells 31 3 (He (ER l)))),Gl (ER l),?_,rfl,AY.refl _⟩;show AB _ _ _ _ _ [DR l] []=_;rw[Qfu];have s:BX 31 [iD 0,iD 0,iD 0] []=some (.hp 0 0,[.cells 31 3 [iD 0,iD 0,iD 0]]):=rfl;have p:BX 208 [iD 0,iD 0,iD 0] [.cells 31 3 [iD 0,iD 0,iD 0]]=some (.hp 1 0,[.cells 31 3 [iD 0,iD 0,iD 0],.cells 208 3 [iD 0,iD 0,iD 0]]):=rfl;have m:iD ((0:Nat):Int)=iD 0:=rfl;rw[m]at k;simp only[s,p,A7,VU,AU,k];have i:=a.c;rw[II]at i;have c:Ai (some 3) H' (.hp 1 0)=some (Gl (ER l)):=by rw[IM i];rfl
 have hs:=KG a.s (n:=3) (ds:=He (ER l)) rfl rfl rfl;have w:=(CV.1 a.s).1;have g:Ai (some 3) (H'.set 0 (.cells 31 3 (He (ER l)))) (.hp 0 0)=some (Gl (ER l)):=by simp_all
 have b:Bh 3 (.hp 0 0) (Gl (ER l)) H'=_:=hs;simp[c,Jyt,b,g]
def JxR:Bz Aa 57 Sj:=Lk.ok
def VP(p:Pg)(f:Int)(a:Ac Int):Nd:=
 match RY p a f with
 |some r=>(r.k,r.v)
 |none=>(0,0)
def tV(p:Pg)(t:Ac (Ac Int))(f:Int):Bool:=t.all fun a=>decide (JC p a f=0)&&(RY p a f).isSome
def Ov(fn:Func)(st:LS):HO:= .loop st [30,31] (ET fn 0) (EL fn 0) 38 XF [.hp 1 0]
structure TL(p:Pg)(t:List (List Int))(f:Int)(H:Ae)(os:List Nd):Prop where
 len:6<=H.length
 outs:∃d,H[1]? =some (.cells 136 1 [d])/\Buf 105 2 H 6 d os.length (Ei os)
 prog:H[2]? =some (.cells 25 3 (DW p))
 tests:H[3]? =some (.cells 26 1 [BH t])
 fuel:H[4]? =some (.cells 3 1 [iD f])
 loop:H[5]? =some (Ov f200 .ready)
def TL.app{p:Pg}{t:Ac (Ac Int)}{f:Int}{H:Ae}{os:Ac Nd}(h:TL p t f H os)(u:Ae):TL p t f (H++u) os:=by
 obtain⟨j,⟨d,g,e⟩,a,c,i,b⟩:=h;exact⟨by simp;omega,⟨d,JX g,e.app u⟩,JX a,JX c,JX i,JX b⟩
def WD(r:Rn)(H:Ae):Bh 4 (.hp H.length 0) (.agg (Dn r)) (H++[.cells 237 4 [iD 0,iD 0,iD 0,Aq]])=some (.v undef,H++[.cells 237 4 (Dn r)]):=by
 rw[KG (n:=4) (cs:=[iD 0,iD 0,iD 0,Aq]) (ds:=Dn r) (Hz H _) rfl rfl rfl,NP]
def JpH(p:Pg)(t:Ac (Ac Int))(f:Int)(H:Ae)(os:Ac Nd)(i:D)(r:Rn)(h:TL p t f H os)(x:os.length<=100000):
  ∃H',YV Aa 5 [i,.agg (Dn r)] H=some (bD true,H')/\TL p t f H' (os++[(r.k,r.v)]):=by
 obtain⟨W,⟨d,h1,R⟩,P,L,J,w⟩:=h;have N:YV Aa 5 [i,.agg (Dn r)] H=Jb Aa (UK Aa BM) 0 5 [i,.agg (Dn r)] H:=rfl;have e:Jb Aa (UK Aa BM) 0 5 [i,.agg (Dn r)] H=Mc Aa (UK Aa BM) 0 5 [30,31] (ET f200 0) (EL f200 0) 38 XF [.hp 1 0] [i,.agg (Dn r)] H:=by
  unfold Jb;rw[w];simp only[Ov];rw[Aw];refine⟨rfl,?_,?_,?_,?_⟩<;>kernel_rfl
 rw[N,e,Jq8];unfold AV Dw;have al:BX 237 [iD 0,iD 0,iD 0,Aq] H=some (.hp H.length 0,H++[.cells 237 4 [iD 0,iD 0,iD 0,Aq]]):=rfl;have z:=WD r H;have M:(H++[HO.cells 237 4 (Dn r)])[H.length]? =some (.cells 237 4 (Dn r)):=by simp
 have g:∀k,k<H.length->(H++[HO.cells 237 4 (Dn r)])[k]? =H[k]? :=fun k e=>Ii e;have Z:(H++[HO.cells 237 4 (Dn r)]).length=H.length+1:=by simp
 have G:=R.app [HO.cells 237 4 (Dn r)];generalize H++[HO.cells 237 4 (Dn r)]=a at*;have E:a[5]? =some (Ov f200 .ready):=(g 5 (by omega)).trans w;have s:IZ (α:=D×Ae) 5 a=fun k=>k (a.set 5 (Ov f200 .busy)):=by
  funext k;unfold IZ;rw[E];rfl
 have q:∀k,k≠5->(a.set 5 (Ov f200 .busy))[k]? =a[k]? :=fun k e=>Ee (Ne.symm e);have F:(a.set 5 (Ov f200 .busy))[5]? =some (Ov f200 .busy):=Hw (by omega);have V:(a.set 5 (Ov f200 .busy)).length=a.length:=by simp
 have C:=G.set 5 (Ov f200 .busy) (by omega);generalize a.set 5 (Ov f200 .busy)=j at*;have u:j[1]? =some (.cells 136 1 [d]):=by grind
 have S:=Gs j 1 _ _ _ _ u;have K:AP 0 (.hp H.length 0)=some (.hp H.length 0):=rfl;have U:Ai (some 2) j (.hp H.length 0)=some (.agg (Cb (r.k,r.v))):=by
  rw[Es,q H.length (by omega),M];rfl
 have l:=eO 105 (r.k,r.v) j;obtain⟨b,c,T,m,n,Y,X⟩:=JlR (t:= 105) (r.k,r.v) C (by omega) (by omega);have O:c[1]? =some (.cells 136 1 [d]):=by rw[n.2 1 (by omega)];exact u
 have y:=IV c 1 0 _ _ [d] b O (by simp) m.cells m.ok;have B:(c.set 1 (.cells 136 1 [b]))[5]? =some (Ov f200 .busy):=by rw[Ee (by omega),n.2 5 (by omega)];exact F
 have old:∀k o,k≠1->k≠5->k<6->H[k]? =some o->((c.set 1 (.cells 136 1 [b])).set 5 (Ov f200 .ready))[k]? =some o:=fun k o Q v I x=>by
  rw[Ee (Ne.symm v),Ee (Ne.symm Q),n.2 k I,q k v,g k (by omega)];exact x
 refine⟨(c.set 1 (.cells 136 1 [b])).set 5 (Ov f200 .ready),?_,by simp;omega,⟨b,?_,?_⟩,old 2 _ (by omega) (by omega) (by omega) P,old 3 _ (by omega) (by omega) (by omega) L,old 4 _ (by omega) (by omega) (by omega) J,?_⟩
 ·rw[al];simp only[A7,z,s,S,AU,K,U,l,T];simp only[Zj]at y;simp only[y,A7];unfold J9;rw[B];rfl
 ·grind
 ·rw[DC];exact(m.set 1 _ (by omega)).set 5 _ (by omega)
 grind
def Jps(p:Pg)(a:Ac Int)(f:Int)(r:Rn)(h:JC p a f=0)(b:RY p a f=some r)(c:p.body.length<=3000000):Xu [Be p,AL a,iD f]=some (.tup [.agg (Dn r),iD 0]):=by
 show F3 Ef OY BV _ [Ef.enc p,OY.enc a,BV.enc f]=_;rw[V6,Aw c,Aw h,b];rfl
def pX{H:Ae}{i:Nat}{p:Pg}(h:H[i]? =some (.cells 25 3 (DW p))):Ai (some 3) H (.hp i 0)=some (Be p):=by rw[Es,h];rfl
def Jzw(p:Pg)(t:Ac (Ac Int))(f:Int)(H:Ae)(j:Nat)(b:j<t.length)(ht:t.length<=1000)(v:p.body.length<=3000000)(m:tV p t f=true)(h:TL p t f H ((t.take j).map (VP p f)))(n:Nat):
  ∃H',BK Aa (Uz Aa (YV Aa)) oO n f289 0 [.yld 5,.hp 2 0,.hp 4 0,BH t,iD t.length,iD j] H=
   some (.normal,[.yld 5,.hp 2 0,.hp 4 0,BH t,iD t.length,iD ((j+1:Nat):Int)],H')/\TL p t f H' ((t.take (j+1)).map (VP p f)):=by
 have c:=Ew.1 m t[j] (Ih b);simp only[DJ,F5]at c;obtain⟨r,a⟩:=Y9.1 c.2;have i:=h.app [.cells 237 4 (Dn r)];obtain⟨H',o,w⟩:=JpH p t f _ _ (iD j) r i (by simp;omega);have l:VP p f t[j]=(r.k,r.v):=by unfold VP;rw[a]
 refine⟨H',?_,by rw[Ij b,JE];simpa[l]using w⟩;rw[Jhl];unfold Eo Ce Dw;have k:BG 1 (BH t) (iD j)=some (.ptr (Iz t[j])):=KO Iz 1 t j b;have ld:Ai none H (.ptr (Iz t[j]))=some (AL t[j]):=rfl;have lp:=pX h.prog;have e:=Gs H 4 _ _ _ _ h.fuel;have g:DX Xu [Be p,AL t[j],iD f] H=some (.tup [.agg (Dn r),iD 0],H):=by rw[V9 _ _ _ rfl,Jps p _ f r c.1 a v];rfl
 have q:DN (.tup [.agg (Dn r),iD 0]) 0=some (.agg (Dn r)):=rfl;have u:DN (.tup [.agg (Dn r),iD 0]) 1=some (iD 0):=rfl;have al:BX 237 [iD 0,iD 0,iD 0,Aq] H=some (.hp H.length 0,H++[.cells 237 4 [iD 0,iD 0,iD 0,Aq]]):=rfl;have s:Ai (some 4) (H++[.cells 237 4 (Dn r)]) (.hp H.length 0)=some (.agg (Dn r)):=by rw[Es,Hz];rfl
 have d:C9 (Uz Aa (YV Aa)) (.yld 5) [iD j,.agg (Dn r)] (H++[.cells 237 4 (Dn r)])=some (bD true,H'):=o;simp only[G6 (show(j:Int)<t.length by omega),AU,Bd,Bv,k,ld,lp,e,g,A7,q,u,al,WD,s,d,Yr,MX,BF,BC,G5 j (by omega)];rfl
def Jpd(p:Pg)(t:Ac (Ac Int))(f:Int)(H:Ae)(ht:t.length<=900)(i:p.body.length<=3000000)(c:tV p t f=true)(h:TL p t f H []):
  ∃H',xC Aa (YV Aa) [.yld 5,.hp 3 0,.hp 2 0,.hp 4 0] H=some (.tup [],H')/\TL p t f H' (t.map (VP p f)):=by
 have loop:=NT (P:=Aa) (T:=Uz Aa (YV Aa)) (kp:=oO) (fn:= f289) (li:=0) (fun j=>[.yld 5,.hp 2 0,.hp 4 0,BH t,iD t.length,iD j]) (fun j H=>TL p t f H ((t.take j).map (VP p f)))
  (fun x=>∃H',x=(.exit 0,[.yld 5,.hp 2 0,.hp 4 0,BH t,iD t.length,iD t.length],H')/\TL p t f H' (t.map (VP p f))) t.length 1000 (fun j H d a=>Jzw p t f H j d (by omega) i c a 1000) (fun H a=>by
   rw[II]at a;refine⟨_,?_,?_,H,rfl,a⟩
   ·rw[Jhl];unfold Eo Ce Dw;simp
   ·intro e;cases e) (by omega) (H:=H) (by simpa using h)
 obtain⟨x,m,b,rfl,g⟩:=loop;refine⟨b,?_,g⟩;rw[xC,CJ func289,JqK];have l:=Gs H 3 _ _ _ _ h.tests;have k:Bq .sl (BH t)=some (iD t.length):=by simp[Bq,OT,BH]
 simp_all
def QbU(H:Ae)(n:Nat)(l:Ac Nd):(Ei l).mapM (Ia H n)=some (Ei l):=by
 induction l with
 |nil=>rfl
 |cons x r a=>
  simp only[Ei,EP,IX,Cb,Jd,JO]at a⊢;rw[FZ,FZ,Vl,Vl,a];rfl
def Buf.nodesO{e:AQ}{H:Ae}{B:Nat}{d:D}{l:Ac Nd}(h:Buf e 2 H B d l.length (Ei l))(n:Nat):∃a,Ia H (n+1) d=some a/\AY a (A8 l):=by
 rcases h with⟨rfl,b,i⟩|⟨r,b,rfl,c,g⟩
 ·have:l=[]:=NK.1 b;subst this;exact⟨_,Vl H (n+1) _,AY.nil 2⟩
 ·refine⟨A8 l,?_,AY.refl _⟩;simp only[Ia,c];have f:=Ur l;rw[Aw (by omega),<-f,II,QbU,Dt,Rv];rfl
def FH(p:Pg)(t:Ac (Ac Int))(f:Int):Ac Nd:=t.map (VP p f)
def sG:Ac D->Af D:=F3 Ef JD BV fun p t f=>if p.body.length<=3000000/\t.length<=900/\ED p=0/\JJ p.params t f=0/\tV p t f=true then some (.tup [A8 (FH p t f),iD 0])else none
def QaB:Hr Aa 200 sG:=Jg0 (kp:=XF) (Jbe _ Jlc) AX func200 (by kernel_rfl) (by decide) fun p t f d h=>by
 split at h
 case isFalse=>cases h
 rename_i x;obtain⟨i,ht,w,hs,s⟩:=x;cases h;let a:Ae:=[.cells 25 3 (DW p)];let e:Ae:=[.cells 25 3 (DW p),.cells 136 1 [Aq]];let c:Ae:=[.cells 25 3 (DW p),.cells 136 1 [Aq],.cells 25 3 (DW p),.cells 26 1 [BH t],.cells 3 1 [iD f]];obtain⟨H',z,g⟩:=Jpd p t f (c++[Ov f200 .ready]) ht i s ⟨by simp[c],⟨_,rfl,Buf.nil _ _ _ _⟩,rfl,rfl,rfl,rfl⟩;have E:BA 25 (Be p) []=some (.hp 0 0,a):=rfl;have lp:Ai (some 3) a (.hp 0 0)=some (Be p):=rfl;have k:Ak Ko [Be p] a=some (iD 0,a):=by
  rw[CP _ _ _ rfl,show Ko [Be p]=_ from EO (A:=Ef) _ p,Aw i,w];rfl
 have q:Ag .int .neq (iD 0) (iD 0)=some (bD false):=rfl;have m:AP 0 (.hp 0 0)=some (.hp 0 0):=rfl;have y:Ai none a (.hp 0 0)=some (iD p.params):=rfl;have u:Ak RH [iD p.params,BH t,iD f] a=some (iD 0,a):=by rw[uG _ _ _ (by omega),hs]
 have al:BX 136 [Aq] a=some (.hp 1 0,e):=rfl;have C:Ai (some 3) e (.hp 0 0)=some (Be p):=rfl;have v:yP Aa [Be p,BH t,iD f] e=some (.clo (.func 289) [] [.hp 3 0,.hp 2 0,.hp 4 0],c):=by
  rw[yP,CJ func252,Jpa];rfl
 have j:IK (UK Aa (YV Aa)) (.clo (.func 289) [] [.hp 3 0,.hp 2 0,.hp 4 0]) [30,31] (ET f200 0) (EL f200 0) 38 XF [.hp 1 0] c=some (.normal,H'.set 5 .dead):=by
  have:IK (UK Aa (YV Aa)) (.clo (.func 289) [] [.hp 3 0,.hp 2 0,.hp 4 0]) [30,31] (ET f200 0) (EL f200 0) 38 XF [.hp 1 0] c=
   MQ (xC Aa (YV Aa) [.yld 5,.hp 3 0,.hp 2 0,.hp 4 0] (c++[Ov f200 .ready])) 5:=rfl
  rw[this,z];unfold MQ;simp only[g.loop];rfl
 obtain⟨K,⟨d,n,B⟩,J,I,L,H⟩:=g;have G:=Gs (H'.set 5 .dead) 1 136 1 d [] (by rw[Ee (by omega)];exact n);have b:=B.set 5 .dead (by omega);rw[Ju]at b;obtain⟨r,F,o⟩:=Buf.nodesO (l:=t.map (VP p f)) (by simpa using b) 7;refine⟨0,(.tup [d,iD 0],H'.set 5 .dead),.tup [r,iD 0],?_,?_,AY.tup (.cons o (.cons (AY.refl _) .nil))⟩
 ·show AB _ _ _ _ _ [Be p,BH t,iD f] []=_;rw[Jrb];simp only[E,A7,lp,AU,k,q,Bd,BF,BC,m,y,u,al,C,v,j,mP,G]
 ·show([d,iD 0].mapM (Ia _ 8)).map D.tup=_;simp only[FZ,VI,F,Vl];rfl
def Lc(P:Aj)(Y:Nat->GT):Tab:=⟨YE P,Y,[]⟩
def Jgj(Y:Nat->GT)(a:FT Aa Y):Bg Aa (Lc Aa Y):=⟨ZY,a,fun _ h=>by cases h⟩
section
variable (Y : Nat → GT)
def JdW:Ac Nat:=[]
def JnE(n:Nat)(a:D)(h:Ae):AB Aa (Lc Aa Y) JdW n f272 [a] h=
(Ah (BA 237 a h) fun c b=>
some ((.clo (.func 312) [] [c]),b)):=by kernel_rfl
def Zl:Ac Nat:=[0,1,6,7,8]
def Jmz(n:Nat)(k g:D)(h:Ae):AB Aa (Lc Aa Y) Zl n f312 [k,g] h=
(AV 3 none h g fun j=>
Ad (Bq .sl j) fun o=>
Dy (BZ Aa (Lc Aa Y) Zl n f312 0 [k,g,j,o,(iD 0)] h) (fun q b c=>
CW q 0
(Ad (AP 0 (gD b 1)) fun l=>
AV 0 none c l fun p=>
Ah (C9 (Lc Aa Y) (gD b 0) [p] c) fun r a=>
Az r
(Ad (AP 0 (gD b 1)) fun i=>
AV 1 none a i fun d=>
Ah (C9 (Lc Aa Y) (gD b 0) [d] a) fun m e=>
some (.tup [],e))
(some (.tup [],a)))
(none)) (fun b c=>
some (.tup [],c))):=by kernel_rfl
def Jki(n:Nat)(s0 g b e a:D)(h:Ae):BK Aa (Lc Aa Y) Zl n f312 0 [s0,g,b,e,a] h=
(Ad (Ag .int .lss a e) fun w=>
Az w
(Ce 3 (some 3) h b a fun x=>
Dw 433 [(iD 0),(iD 0),(iD 0)] 3 x h fun m u=>
AV 0 none u m fun y=>
Ah (C9 (Lc Aa Y) s0 [y] u) fun v c=>
Ad (Gn v) fun s=>
Az s
(some (.ret,[s0,g,b,e,a],c))
(AV 1 none c m fun l=>
Ah (C9 (Lc Aa Y) s0 [l] c) fun r d=>
Ad (Gn r) fun o=>
Az o
(some (.ret,[s0,g,b,e,a],d))
(AV 2 none d m fun p=>
Ah (C9 (Lc Aa Y) s0 [p] d) fun j i=>
Ad (Gn j) fun k=>
Az k
(some (.ret,[s0,g,b,e,a],i))
(Ad (Ag .int .add a (iD 1)) fun q=>
some (.normal,[s0,g,b,e,q],i)))))
(some ((.exit 0),[s0,g,b,e,a],h))):=by kernel_rfl
end
def wY(P:Aj)(Y:Nat->GT):GT:=CO P (Lc P Y) Zl 30000 312
def JqP(Y:Nat->GT)(a:FT Aa Y):BN Aa 312 (wY Aa Y):=CQ (Jgj Y a) AX func312
def yI(P:Aj):GT:=CO P (Lc P BM) JdW 0 272
def Jm0:BN Aa 272 (yI Aa):=CQ (Jgj BM (cZ _)) AX func272
def SI(P:Aj)(Y:Nat->GT):Tab:=⟨(312,false,wY P Y)::(272,false,yI P)::YE P,Y,[]⟩
def Jjg(Y:Nat->GT)(a:FT Aa Y):Bg Aa (SI Aa Y):=⟨AC (CB (JqP Y a))<|AC (CB Jm0) ZY,a,fun _ h=>by cases h⟩
def YT(P:Aj):Nat->GT:=Yn P (SI P) 0 1
def Jrf:FT Aa (YT Aa):=TW Jjg AX 0 1
end Go.Proofs.YtapdelkomkpgmaaGreatDoor
