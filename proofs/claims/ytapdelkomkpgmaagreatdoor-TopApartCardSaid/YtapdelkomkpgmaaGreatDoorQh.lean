import Derived.IntWalk
import Derived.Test.YtapdelkomkpgmaaGreatDoorProg
import Derived.BigQuiet
import Derived.Deep.QuietTactic
import Derived.RangeFuncNested
import Derived.RangeFuncBound
import Derived.RangeFuncBox
import Derived.Shelf.Abstract
import Derived.Shelf.RegionOpen
import Derived.TacticsInMore
import Derived.LoopIn
import Derived.Test.YtapdelkomkpgmaaGreatDoorQg
namespace Go.Proofs.YtapdelkomkpgmaaGreatDoor
open Go.Proofs.Tryz
noncomputable abbrev Aa:=Go.Proofs.Tryz.prog
open Go.RowKit
set_option maxRecDepth 100000
set_option linter.all false
section
variable {α : Type}
@[congr] theorem QgT{o a:Af D}(k:D->Af α)(h:o=a):Ad o k=Ad a k:=by rw[h]
@[congr] theorem Qf5{o a:Af (D×Ae)}(k:D->Ae->Af α)(h:o=a):Ah o k=Ah a k:=by rw[h]
@[congr] theorem Qfx{d a:D}(x y:Af α)(h:d=a):Az d x y=Az a x y:=by rw[h]
@[congr] theorem Qhj{r a:Af (Lv×Ac D×Ae)}(x:Nat->Ac D->Ae->Af α)(y:Ac D->Ae->Af α)(h:r=a):Dy r x y=Dy a x y:=by rw[h]
@[congr] theorem Qgm{r a:Af (Lv×Ae)}(x:Ae->Af α)(y:Nat->Ae->Af α)(z:Ae->Af α)(h:r=a):PI r x y z=PI a x y z:=by rw[h]
@[simp] theorem AU(d:D)(k:D->Af α):Ad (some d) k=k d:=by cases d<;>rfl
@[simp] theorem Qhz(k:D->Af α):Ad none k=none:=rfl
@[simp] theorem Qf9(c:Prop)[Decidable c](x y:Af D)(k:D->Af α):Ad (if c then x else y) k=if c then Ad x k else Ad y k:=by split<;>rfl
@[simp] theorem A7(r:D×Ae)(k:D->Ae->Af α):Ah (some r) k=k r.1 r.2:=by cases r;rfl
@[simp] theorem Qg8(k:D->Ae->Af α):Ah none k=none:=rfl
@[simp] theorem Qhy(c:Prop)[Decidable c](x y:Af (D×Ae))(k:D->Ae->Af α):Ah (if c then x else y) k=if c then Ah x k else Ah y k:=by split<;>rfl
@[simp] theorem Bd(b:Bool)(x y:Af α):Az (.v (.bool b)) x y=if b=true then x else y:=by cases b<;>rfl
@[simp] theorem Kv(j:Nat)(x y:Af α):CW j j x y=x:=by simp[CW]
@[simp] theorem Kw(j:Nat)(s:Ac D)(H:Ae)(x:Nat->Ac D->Ae->Af α)(y:Ac D->Ae->Af α):Dy (some (.exit j,s,H)) x y=x j s H:=by cases s<;>rfl
@[simp] theorem lP(s:Ac D)(H:Ae)(x:Nat->Ac D->Ae->Af α)(y:Ac D->Ae->Af α):Dy (some (.ret,s,H)) x y=y s H:=by cases s<;>rfl
@[simp] theorem mP(H:Ae)(x:Ae->Af α)(y:Nat->Ae->Af α)(z:Ae->Af α):PI (some (.normal,H)) x y z=x H:=by cases H<;>rfl
@[simp] theorem QgA(j:Nat)(H:Ae)(x:Ae->Af α)(y:Nat->Ae->Af α)(z:Ae->Af α):PI (some (.exit j,H)) x y z=y j H:=by cases H<;>rfl
@[simp] theorem QfS(H:Ae)(x:Ae->Af α)(y:Nat->Ae->Af α)(z:Ae->Af α):PI (some (.ret,H)) x y z=z H:=by cases H<;>rfl
end
def G7{α:Type}(l:Ac α)(i:Nat)(d:α)(h:i<l.length):l.getD i d=l[i]:=by simp[h]
def Td:((0:Nat):Int)=0:=rfl
def IQ{step:Ac D->Ae->Af (Lv×Ac D×Ae)}{m:Nat}{s s':Ac D}{H H':Ae}(h:step s H=some (.normal,s',H')):DY step (m+1) s H=DY step m s' H':=by simp only[DY,h]
def PP{step:Ac D->Ae->Af (Lv×Ac D×Ae)}{m j:Nat}{s s':Ac D}{H H':Ae}(h:step s H=some (.exit j,s',H')):DY step (m+1) s H=some (.exit j,s',H'):=by simp only[DY,h]
def nH{step:Ac D->Ae->Af (Lv×Ac D×Ae)}{m:Nat}{s s':Ac D}{H H':Ae}(h:step s H=some (.ret,s',H')):DY step (m+1) s H=some (.ret,s',H'):=by simp only[DY,h]
def JzO{step:Ac D->Ae->Af (Lv×Ac D×Ae)}(s:Nat->Ac D)(H:Nat->Ae){r:Lv×Ac D×Ae}(e:r.1≠ .normal)(k:Nat):∀(m i:Nat),i+m=k->∀n,m<n->(∀j,i<=j->j<k->step (s j) (H j)=some (.normal,s (j+1),H (j+1)))->step (s k) (H k)=some r->DY step n (s i) (H i)=some r:=by
 intro m
 induction m with
 |zero=>
  intro i d n c _ a;obtain⟨n,rfl⟩:∃m,n=m+1:=⟨n-1,by omega⟩;obtain rfl:i=k:=by omega
  simp only[DY,a]
  grind
 |succ m f=>
  intro i d n c b a;obtain⟨n,rfl⟩:∃m,n=m+1:=⟨n-1,by omega⟩;rw[IQ (b i (BQ _) (by omega))]
  grind
def Jxk{step:Ac D->Ae->Af (Lv×Ac D×Ae)}(st:Nat->Ac D)(H:Ae)(len:Nat)(p:Nat->Bool)(r:Nat->Lv×Ac D×Ae)(e:Lv×Ac D×Ae)(t:∀i,(r i).1≠ .normal)(w:e.1≠ .normal)(a n:Nat)(b:a<=len)(f:len<n+a)
  (g:∀i,a<=i->i<len->p i=true->step (st i) H=some (.normal,st (i+1),H)) (h:∀i,a<=i->i<len->p i=false->step (st i) H=some (r i)) (s:step (st len) H=some e):
  ((∀i,a<=i->i<len->p i=true)/\DY step n (st a) H=some e)\/∃i,a<=i/\i<len/\p i=false/\(∀j,a<=j->j<i->p j=true)/\DY step n (st a) H=some (r i):=by
 have key:∀(m i:Nat),i+m=len->a<=i->(∀j,a<=j->j<i->p j=true)->∀n,m<n->
   ((∀i,a<=i->i<len->p i=true)/\DY step n (st i) H=some e)\/∃d,a<=d/\d<len/\p d=false/\(∀j,a<=j->j<d->p j=true)/\DY step n (st i) H=some (r d):=by
  intro m
  induction m with
  |zero=>
   intro i q b hp n f;obtain⟨n,rfl⟩:∃m,n=m+1:=⟨n-1,by omega⟩;obtain rfl:i=len:=by omega
   refine .inl ⟨hp,?_⟩;simp only[DY,s];obtain⟨u,s',H'⟩:=e;simp_all
  |succ m o=>
   intro i q b hp n f;obtain⟨n,rfl⟩:∃m,n=m+1:=⟨n-1,by omega⟩;cases c:p i with
   |true=>
    rw[IQ (g i b (by omega) c)];exact o (i+1) (by omega) (by omega) (fun j v l=>by grind) n (by omega)
   |false=>
    refine .inr ⟨i,b,by omega,c,hp,?_⟩;have:=h i b (by omega) c;simp only[DY,this];have k:=t i;generalize r i=x at*;obtain⟨u,s',H'⟩:=x;simp_all
 exact key (len-a) a (by omega) (BQ _) (fun j g h=>by omega) n (by omega)
def VO{P:Aj}{T:Tab}{kp:Ac Nat}{fn:Func}{li:Nat}(st:Nat->Ac D)(H:Ae)(len:Nat)(p:Nat->Bool)(r:Nat->Lv×Ac D×Ae)(e:Lv×Ac D×Ae)(d:∀i,(r i).1≠ .normal)(f:e.1≠ .normal)(a n:Nat)(b:a<=len)(g:len<n+a)
  (k:∀i,a<=i->i<len->p i=true->BK P T kp n fn li (st i) H=some (.normal,st (i+1),H)) (h:∀i,a<=i->i<len->p i=false->BK P T kp n fn li (st i) H=some (r i)) (c:BK P T kp n fn li (st len) H=some e):
  ((∀i,a<=i->i<len->p i=true)/\BZ P T kp n fn li (st a) H=some e)\/∃i,a<=i/\i<len/\p i=false/\(∀j,a<=j->j<i->p j=true)/\BZ P T kp n fn li (st a) H=some (r i):=
 Jxk st H len p r e d f a n b g k h c
def Vd{P:Aj}{T:Tab}{kp:Ac Nat}{fn:Func}{i:Nat}(s:Nat->Ac D)(H:Nat->Ae){r:Lv×Ac D×Ae}(a:r.1≠ .normal)(k n:Nat)(c:k<n)(b:∀j,j<k->BK P T kp n fn i (s j) (H j)=some (.normal,s (j+1),H (j+1)))(d:BK P T kp n fn i (s k) (H k)=some r):BZ P T kp n fn i (s 0) (H 0)=some r:=
 JzO s H a k k 0 (by omega) n c (fun j _ h=>b j h) d
def JwM{α:Type}(a b:D)(k:Af α)(h:oI a b=true):MK a b k=k:=by unfold MK;rw[h]
@[simp] theorem Qcs{α:Type}(i j o p:Nat)(k:Af α):MK (.hp i o) (.hp j p) k=if i=j then none else k:=by
 by_cases h:i=j
 ·subst h;have:oI (.hp i o) (.hp i p)=false:=by
   show(!Nat.beq i i)=false;rw[Nat.beq_refl];rfl
  unfold MK;rw[this,Aw rfl]
 ·have:oI (.hp i o) (.hp j p)=true:=by
   show(!Nat.beq i j)=true;cases a:Nat.beq i j with
   |true=>exact absurd (OO a) h
   |false=>rfl
  rw[JwM _ _ _ this,Am h]
@[simp] theorem JvW{α:Type}(i j o p:Nat)(k:Af α):MK (.hp i o) (.hs j p) k=if i=j then none else k:=Qcs i j o 0 k
@[simp] theorem UP{α:Type}(i o:Nat)(v:Ap)(k:Af α):MK (.hp i o) (.v v) k=k:=by cases k<;>rfl
@[simp] theorem QgJ{α:Type}(cs:Ac D)(b:D)(k:Af α):MK (.ptr cs) b k=k:=by cases k<;>rfl
@[simp] theorem aJ{α:Type}(v:Ap)(k:Af α):JS (.v v) k=k:=by cases k<;>rfl
@[simp] theorem QgU{α:Type}(n:Nat)(l:Ac (Ac D))(k:Af α):JS (.sl n l) k=k:=by cases k<;>rfl
@[simp] theorem Qhr{α:Type}(k:Af α):dS [] k=k:=by cases k<;>rfl
@[simp] theorem Qgs{α:Type}(v:Ap)(r:Ac D)(k:Af α):dS (.v v::r) k=dS r k:=rfl
@[simp] theorem Qf0{α:Type}(n:Nat)(l:Ac (Ac D))(r:Ac D)(k:Af α):dS (.sl n l::r) k=dS r k:=rfl
@[simp] theorem nI(b:Bool):Gn (.v (.bool b))=some (.v (.bool !b)):=rfl
@[simp] theorem QfG(b:Bool)(x y:D):GQ (.v (.bool b)) x y=some (if b then x else y):=rfl
@[simp] theorem Ll(k:Kd)(j:IntKind)(a b:Int):Ag k .add (.v (.int j a)) (.v (.int j b))=EJ .add j a b:=by simp[Ag]
@[simp] theorem QE(k:Kd)(j:IntKind)(a b:Int):Ag k .sub (.v (.int j a)) (.v (.int j b))=EJ .sub j a b:=by simp[Ag]
@[simp] theorem Js5(k:Kd)(j:IntKind)(a b:Int):Ag k .mul (.v (.int j a)) (.v (.int j b))=EJ .mul j a b:=by simp[Ag]
@[simp] theorem EV(k:Kd)(j:IntKind)(a b:Int):Ag k .quo (.v (.int j a)) (.v (.int j b))=EJ .quo j a b:=by simp[Ag]
@[simp] theorem Jnc(k:Kd)(j:IntKind)(a b:Int):Ag k .rem (.v (.int j a)) (.v (.int j b))=EJ .rem j a b:=by simp[Ag]
@[simp] theorem Jxa(k:Kd)(j:IntKind)(a b:Int):Ag k .and (.v (.int j a)) (.v (.int j b))=EJ .and j a b:=by simp[Ag]
@[simp] theorem Jgd(k:Kd)(j:IntKind)(a b:Int):Ag k .or (.v (.int j a)) (.v (.int j b))=EJ .or j a b:=by simp[Ag]
@[simp] theorem QcE(k:Kd)(j:IntKind)(a b:Int):Ag k .xor (.v (.int j a)) (.v (.int j b))=EJ .xor j a b:=by simp[Ag]
@[simp] theorem Nk(k:Kd)(j:IntKind)(a b:Int):Ag k .eql (.v (.int j a)) (.v (.int j b))=some (.v (.bool (a==b))):=by simp[Ag,EJ]
@[simp] theorem Wl(k:Kd)(j:IntKind)(a b:Int):Ag k .neq (.v (.int j a)) (.v (.int j b))=some (.v (.bool (a !=b))):=by simp[Ag,EJ]
@[simp] theorem JA(k:Kd)(j:IntKind)(a b:Int):Ag k .lss (.v (.int j a)) (.v (.int j b))=some (.v (.bool (decide (a<b)))):=by simp[Ag,EJ]
@[simp] theorem xN(k:Kd)(j:IntKind)(a b:Int):Ag k .leq (.v (.int j a)) (.v (.int j b))=some (.v (.bool (decide (a<=b)))):=by simp[Ag,EJ]
@[simp] theorem tZ(k:Kd)(j:IntKind)(a b:Int):Ag k .gtr (.v (.int j a)) (.v (.int j b))=some (.v (.bool (decide (b<a)))):=by simp[Ag,EJ]
@[simp] theorem Zn(k:Kd)(j:IntKind)(a b:Int):Ag k .geq (.v (.int j a)) (.v (.int j b))=some (.v (.bool (decide (b<=a)))):=by simp[Ag,EJ]
@[simp] theorem QgG(a b:Bool):Ag .bool .eql (.v (.bool a)) (.v (.bool b))=some (.v (.bool (a==b))):=rfl
@[simp] theorem Qhn(a b:Bool):Ag .bool .neq (.v (.bool a)) (.v (.bool b))=some (.v (.bool (!(a==b)))):=rfl
def VK(x:Int)(b: -9223372036854775808<=x)(a:x<=9223372036854775807):IntKind.i64.wrap x=x:=IntWalk.i64_in x ⟨b,a⟩
def Jj(a b:Int)(d: -9223372036854775808<=a+b)(c:a+b<=9223372036854775807):EJ .add .i64 a b=some (iD (a+b)):=by rw[EJ,VK _ d c]
def jB(a b:Int)(d: -9223372036854775808<=a-b)(c:a-b<=9223372036854775807):EJ .sub .i64 a b=some (iD (a-b)):=by rw[EJ,VK _ d c]
@[simp] theorem Ju8(k:IntKind)(n:Int):IC (.v (.int k n))=if 0<=n then some n.toNat else none:=rfl
@[simp] theorem wE(l:Ac Nd):Bq .sl (A8 l)=some (iD l.length):=by simp[Bq,OT,A8]
@[simp] theorem Hs(l:Ac Int):Bq .sl (AL l)=some (iD l.length):=by simp[Bq,OT,AL]
@[simp] theorem QgL:Bq .sl Aq=some (iD 0):=rfl
@[simp] theorem JaR(id o n:Nat):Bq .sl (.ht id o n)=some (iD n):=rfl
@[simp] theorem WP(id n:Nat):Bq .sl (.hs id n)=some (iD n):=rfl
def Yu(l:Ac Nd)(i:Int)(a:0<=i)(h:i.toNat<l.length):BG 2 (A8 l) (iD i)=some (.ptr (Cb l[i.toNat])):=by
 have:BG 2 (A8 l) (iD i)=Si 2 (A8 l) (iD i):=rfl;rw[this];simp[Si,a,h]
def Zv(l:Ac Int)(i:Int)(a:0<=i)(h:i.toNat<l.length):BG 1 (AL l) (iD i)=some (.ptr (IE l[i.toNat])):=by
 have:BG 1 (AL l) (iD i)=Si 1 (AL l) (iD i):=rfl;rw[this];simp[Si,a,h]
def Oi(l:Ac Nd)(i:Nat)(h:i<l.length):BG 2 (A8 l) (.v (.int .i64 (i:Int)))=some (.ptr (Cb l[i])):=by
 have:=Yu l (i:Int) (by omega) (by simpa using h);simpa using this
def GY(l:Ac Int)(i:Nat)(h:i<l.length):BG 1 (AL l) (.v (.int .i64 (i:Int)))=some (.ptr (IE l[i])):=by
 have:=Zv l (i:Int) (by omega) (by simpa using h);simpa using this
def JxD(l:Ac Int)(a b:Nat)(d:a<=b)(c:b<=l.length):IJ 1 (AL l) (some (.v (.int .i64 (a:Int)))) (some (.v (.int .i64 (b:Int))))=some (AL ((l.take b).drop a)):=by
 have:IJ 1 (AL l) (some (.v (.int .i64 (a:Int)))) (some (.v (.int .i64 (b:Int))))=uM 1 (AL l) (some (.v (.int .i64 (a:Int)))) (some (.v (.int .i64 (b:Int)))):=rfl;rw[this];simp[uM,Nu,KX,d,c,AL,IU,Mf,List.map_take]
@[simp] theorem Qhq(H:Ae)(x:Nd):Ai (some 2) H (.ptr (Cb x))=some (.agg (Cb x)):=rfl
@[simp] theorem Jon(H:Ae)(n:Int):Ai none H (.ptr (IE n))=some (iD n):=rfl
@[simp] theorem Qge(H:Ae)(d:D)(r:Ac D):Ai none H (.ptr (d::r))=some d:=rfl
@[simp] theorem QfO(H:Ae)(x:Nd):Ai none H (.ptr (Cb x))=some (iD x.1):=rfl
@[simp] theorem Qas(off i o:Nat):AP off (.hp i o)=some (.hp i (o+off)):=rfl
@[simp] theorem QfZ(x:Nd):AP 0 (.ptr (Cb x))=some (.ptr (Cb x)):=rfl
@[simp] theorem Qgy(x:Nd):AP 1 (.ptr (Cb x))=some (.ptr [iD x.2]):=rfl
@[simp] theorem QfD(x:Nd):Vb none 0 (.agg (Cb x))=some (iD x.1):=rfl
@[simp] theorem QfX(x:Nd):Vb none 1 (.agg (Cb x))=some (iD x.2):=rfl
@[simp] theorem QgC(x:Nd):Er (.agg (Cb x))=some x:=rfl
@[simp] theorem Qh7(x y:Nd):Ag (.ints 2) .eql (.agg (Cb x)) (.agg (Cb y))=some (bD (decide (x=y))):=by
 obtain⟨a,b⟩:=x;obtain⟨c,d⟩:=y;simp[Ag,Ug,Cb,Sl]
@[simp] theorem Jfc(x y:Nd):Ag (.ints 2) .neq (.agg (Cb x)) (.agg (Cb y))=some (bD (!decide (x=y))):=by
 obtain⟨a,b⟩:=x;obtain⟨c,d⟩:=y;simp[Ag,Ug,Cb,Sl]
@[simp] theorem Qhf(l:Ac Nd):EC (A8 l)=true:=rfl
@[simp] theorem Qf8(l:Ac Int):EC (AL l)=true:=rfl
@[simp] theorem Qf6(v:Ap):EC (.v v)=true:=rfl
@[simp] theorem Qhx:Fj []=true:=rfl
@[simp] theorem Qg7(d:D)(r:Ac D):Fj (d::r)=(EC d&&Fj r):=rfl
@[simp] theorem Qhl(cs:Ac D):EC (.agg cs)=Fj cs:=rfl
@[simp] theorem QfY(cs:Ac D):EC (.tup cs)=Fj cs:=rfl
@[simp] theorem Qhc(x:Nd):Fj (Cb x)=true:=rfl
theorem Ji(H:Ae):∀(n:Nat) (d:D),EC d=true->Dh H n d=some d
 |0,d,h=>by simp[Dh,h]
 |n+1,d,h=>by
  have f:∀cs:Ac D,Fj cs=true->cs.mapM (Dh H n)=some cs:=by
   intro cs
   induction cs with
   |nil=>intro _;rfl
   |cons c r b=>
    intro a;simp only[Fj,DJ]at a;simp[FZ,Ji H n c a.1,b a.2]
  cases d with
  |hs id k=>simp[EC]at h
  |hp id o=>simp[EC]at h
  |mp id=>simp[EC]at h
  |yld id=>simp[EC]at h
  |ht id o k=>simp[EC]at h
  |agg cs=>simp only[Dh];simp_all
  |tup cs=>simp only[Dh];simp_all
  |ifc t e=>simp only[Dh];rw[Ji H n e (by simpa[EC]using h)];rfl
  |_=>simp[Dh,h]
def Gu(d:D)(H:Ae)(h:EC d=true):BB (some (d,H))=some d:=Ji H 9 d h
@[simp] theorem ZT(v:Ap)(H:Ae):BB (some (.v v,H))=some (.v v):=Gu _ _ rfl
@[simp] theorem Qgl(l:Ac Nd)(H:Ae):BB (some (A8 l,H))=some (A8 l):=Gu _ _ rfl
@[simp] theorem QfB(l:Ac Int)(H:Ae):BB (some (AL l,H))=some (AL l):=Gu _ _ rfl
@[simp] theorem Qgz(x:Nd)(H:Ae):BB (some (.agg (Cb x),H))=some (.agg (Cb x)):=Gu _ _ rfl
@[simp] theorem Qg1(ds:Ac D)(H:Ae)(h:Fj ds=true):BB (some (.tup ds,H))=some (.tup ds):=Gu _ _ h
@[simp] theorem QhB:BB none=none:=rfl
@[simp] theorem Es(s:Af Nat)(H:Ae)(id off:Nat):Ai s H (.hp id off)=match H[id]? with|some (.cells _ _ cs)=>MW s (cs.drop off) 0|_=>none:=rfl
@[simp] theorem Qf4(cs:Ac D)(off:Nat):MW none cs off=cs[off]? :=rfl
@[simp] theorem OK(n:Nat)(cs:Ac D)(off:Nat):MW (some n) cs off=if off+n<=cs.length then some (.agg ((cs.drop off).take n))else none:=rfl
def CP(F:Ac D->Af D)(ds:Ac D)(H:Ae)(h:Fj ds=true):Ak F ds H=(F ds).map fun d=>(d,H):=by unfold Ak;rw[h]
def Qct(F:Ac D->Af D)(ds a:Ac D)(H:Ae)(h:Fj ds=false)(b:ds.mapM (Dh H 9)=some a):Ak F ds H=(F a).bind fun d=>if vU d then some (d,H)else none:=by unfold Ak;grind
@[simp] theorem Qgn{α:Type}(o:Af D)(H:Ae)(k:D->Ae->Af α):Ah (o.map fun d=>(d,H)) k=Ad o fun d=>k d H:=by cases o<;>rfl
def AY(d a:D):Prop:=∀(S:Nat->Prop) (L:Ac (Nat×Nat)) (w:AA) (x:Ap),Rep S L w x d->Rep S L w x a
def AY.refl(d:D):AY d d:=fun _ _ _ _ h=>h
def AY.trans{a b c:D}(h:AY a b)(k:AY b c):AY a c:=fun S L w x d=>k S L w x (h S L w x d)
inductive Gt:List D->List D->Prop
 |nil:Gt [] []
 |cons {d d':D} {r r':List D}:AY d d'->Gt r r'->Gt (d::r) (d'::r')
def Gt.rep{ds a:Ac D}(h:Gt ds a){S:Nat->Prop}{L:Ac (Nat×Nat)}{w:AA}{xs:Ac Ap}(b:Au S L w xs ds):Au S L w xs a:=by
 induction h generalizing xs with
 |nil=>exact b
 |cons i _ g=>
  simp only[Au]at b⊢;obtain⟨x,d,e,f,c⟩:=b;exact⟨x,d,e,i _ _ _ _ f,g c⟩
theorem Gt.refl:∀ds:Ac D,Gt ds ds
 |[]=> .nil
 |d::r=> .cons (AY.refl d) (Gt.refl r)
def AY.agg{cs cs':Ac D}(h:Gt cs cs'):AY (.agg cs) (.agg cs'):=by
 intro S L w x a;simp only[Rep]at a⊢;obtain⟨xs,e,b⟩:=a;exact⟨xs,e,h.rep b⟩
def AY.tup{cs cs':Ac D}(h:Gt cs cs'):AY (.tup cs) (.tup cs'):=by
 intro S L w x a;simp only[Rep]at a⊢;obtain⟨xs,e,b⟩:=a;exact⟨xs,e,h.rep b⟩
def AY.nil(sz:Nat):AY Aq (.sl sz []):=by
 intro S L w x a;simp only[Rep]at a⊢
 grind
def AY.sl(s sz:Nat)(els:Ac (Ac D))(h:∀e∈els,e.length=s->s=sz):AY (.sl s els) (.sl sz els):=by
 intro S L w x a;simp only[Rep]at a⊢;rcases a with a|⟨b,o,cap,j,d,f,i,c⟩
 ·exact .inl a
 ·cases els with
  |nil=>simp at d
  |cons e r=>
   have g:e.length=s:=by simp only[EM]at c;exact c.1
   grind
def T7{d:D}{l:Ac Nd}(h:Gv d=some l):AY d (A8 l):=by
 unfold Gv at h;split at h
 ·rename_i s els;have a:=vK Cb Yf (fun _ _=>Pd) _ _ h;subst a;refine AY.sl s 2 _ fun e a b=> ?_;obtain⟨x,_,rfl⟩:=GN.1 a;exact b.symm
 ·cases h;exact AY.nil 2
 ·cases h
def Ua{d:D}{l:Ac Int}(h:Hg d=some l):AY d (AL l):=by
 unfold Hg at h;split at h
 ·rename_i s els;have a:=vK IE kE (fun _ _=>Jgo) _ _ h;subst a;refine AY.sl s 1 _ fun e a b=> ?_;obtain⟨x,_,rfl⟩:=GN.1 a;exact b.symm
 ·cases h;exact AY.nil 1
 ·cases h
structure EU(α:Type) where
 enc:α->D
 dec:D->Option α
 back:∀a,dec (enc a)=some a
 ok:∀d a,dec d=some a->AY d (enc a)
def BV:EU Int:=⟨fun n=>iD n,Dz,fun _=>rfl,fun d a h=>by
 unfold Dz at h;split at h
 ·cases h;exact AY.refl _
 ·cases h⟩
def oJ:EU Bool:=⟨fun b=>bD b,YG,fun _=>rfl,fun d a h=>by
 unfold YG at h;split at h
 ·cases h;exact AY.refl _
 ·cases h⟩
def wO:EU (Ac Nd):=⟨A8,Gv,Rr,fun d a h=>T7 h⟩
def OY:EU (Ac Int):=⟨AL,Hg,uA,fun d a h=>Ua h⟩
def tH:EU Nd:=⟨fun x=> .agg (Cb x),Er,fun _=>rfl,fun d a h=>by
 unfold Er at h;split at h
 ·rw[Pd h];exact AY.refl _
 ·cases h⟩
structure Pg where
 params:Int
 vars:List Int
 body:List Nd
 deriving DecidableEq,Inhabited
def DW(p:Pg):Ac D:=[iD p.params,AL p.vars,A8 p.body]
def Be(p:Pg):D:= .agg (DW p)
def UJ:Ac D->Af Pg
 |[a,b,c]=>(Dz a).bind fun n=>(Hg b).bind fun vs=>(Gv c).map fun l=>⟨n,vs,l⟩
 |_=>none
def XH:D->Af Pg
 | .agg cs=>UJ cs
 |_=>none
@[simp] theorem Jc6(p:Pg):XH (Be p)=some p:=by simp[XH,Be,DW,UJ]
def SO{cs:Ac D}{p:Pg}(h:UJ cs=some p):Gt cs (DW p):=by
 unfold UJ at h;split at h
 ·rename_i a b c;obtain⟨n,f,h⟩:=Bi.1 h;obtain⟨vs,e,h⟩:=Bi.1 h;obtain⟨l,d,h⟩:=DV.1 h;subst h;exact .cons (BV.ok _ _ f) (.cons (Ua e) (.cons (T7 d) .nil))
 ·cases h
def Ef:EU Pg:=⟨Be,XH,Jc6,fun d a h=>by
 unfold XH at h;split at h
 ·exact AY.agg (SO h)
 ·cases h⟩
@[simp] theorem Qg3(p:Pg):EC (Be p)=true:=rfl
@[simp] theorem Qhw(p:Pg):Fj (DW p)=true:=rfl
@[simp] theorem QgZ(t:AQ)(p:Pg)(H:Ae):BA t (Be p) H=some (.hp H.length 0,H++[.cells t 3 [iD p.params,AL p.vars,A8 p.body]]):=rfl
@[simp] theorem Jwy(t:AQ)(x:Nd)(H:Ae):BA t (.agg (Cb x)) H=some (.hp H.length 0,H++[.cells t 2 [iD x.1,iD x.2]]):=rfl
@[simp] theorem QgH(t:AQ)(k:IntKind)(n:Int)(H:Ae):BA t (.v (.int k n)) H=some (.hp H.length 0,H++[.cells t 1 [.v (.int k n)]]):=rfl
@[simp] theorem QfT(t:AQ)(b:Bool)(H:Ae):BA t (.v (.bool b)) H=some (.hp H.length 0,H++[.cells t 1 [.v (.bool b)]]):=rfl
def VC(t:AQ)(p:Pg):Ae:=[.cells t 3 [iD p.params,AL p.vars,A8 p.body]]
@[simp] theorem Qfy(a:Int)(b:Ac Int)(c:Ac Nd):XH (.agg [.v (.int .i64 a),AL b,A8 c])=some ⟨a,b,c⟩:=Jc6 ⟨a,b,c⟩
@[simp] theorem Qhs(l:Ac Int):Df (AL l)=true:=rfl
@[simp] theorem QfQ(l:Ac Nd):Df (A8 l)=true:=rfl
@[simp] theorem Qh6(k:IntKind)(n:Int):Df (.v (.int k n))=true:=rfl
@[simp] theorem Qg5(b:Bool):Df (.v (.bool b))=true:=rfl
@[simp] theorem QgR:Df Aq=true:=rfl
@[simp] theorem QfV(s:Tc):Df (.v (.string s))=true:=rfl
@[simp] theorem Qg2(i n:Nat):Df (.hs i n)=true:=rfl
@[simp] theorem Qh9(i n:Nat):Df (.hp i n)=true:=rfl
@[simp] theorem QfJ(t:AQ)(d:D):Df (.ifc t d)=true:=rfl
@[simp] theorem QgN(a:Ac Int)(vs:Ac D):Df (.mv a vs)=true:=rfl
@[simp] theorem Qgp(f:Fn)(a b:Ac D):Df (.clo f a b)=true:=rfl
@[simp] theorem Qgh(a:Ac Int)(vs:Ac D):EC (.mv a vs)=true:=rfl
@[simp] theorem Qh3(t:AQ)(d:D):EC (.ifc t d)=EC d:=rfl
@[simp] theorem QfW(i n:Nat):EC (.hs i n)=false:=rfl
@[simp] theorem Qfz(i n:Nat):EC (.hp i n)=false:=rfl
def mM(t:AQ)(cs:Ac D)(H:Ae)(h:cs.all Df=true):BA t (.agg cs) H=some (.hp H.length 0,H++[.cells t cs.length cs]):=by
 simp only[BA,D7,Gg,h,BR,Bv,Dt]
def AY.mv{e:Ac Int}{vs a:Ac D}(h:Gt vs a):AY (.mv e vs) (.mv e a):=by
 intro S L w x d;simp only[Rep]at d⊢;obtain⟨b,arr,c,j,i,f,g,k⟩:=d;exact⟨b,arr,c,j,i,f,g,h.rep k⟩
def AY.ifc{t:AQ}{d b:D}(h:AY d b):AY (.ifc t d) (.ifc t b):=by
 intro S L w x a;simp only[Rep]at a⊢;obtain⟨y,e,c⟩:=a;exact⟨y,e,h _ _ _ _ c⟩
theorem JeY{α:Type}(A:EU α):∀(ds:Ac D) (l:Ac α),ds.mapM A.dec=some l->Gt ds (l.map A.enc)
 |[],l,h=>by simp at h;subst h;exact .nil
 |d::r,l,h=>by
  simp only[FZ,eQ,Zb]at h;cases b:A.dec d with
  |none=>rw[b]at h;cases h
  |some a=>
   cases c:r.mapM A.dec with
   |none=>grind
   |some t=>
    rw[b,c]at h;cases h;exact .cons (A.ok d a b) (JeY A r t c)
def Jor{P:Aj}{f:CG}{F:Ac D->Af D}{G:Nat->Ac D->Af D}(a:∀m,Bz P f (G m))(h:∀ds d,F ds=some d->∃m,G m ds=some d):Bz P f F:=
 ⟨(a 0).body,fun ds d b=>by obtain⟨m,c⟩:=h ds d b;exact(a m).calls ds d c⟩
def F0(g:Af D):Ac D->Af D
 |[]=>g
 |_=>none
def F1{α:Type}(A:EU α)(g:α->Af D):Ac D->Af D
 |[x]=>(A.dec x).bind g
 |_=>none
def F2{α β:Type}(A:EU α)(B:EU β)(g:α->β->Af D):Ac D->Af D
 |[x,y]=>(A.dec x).bind fun a=>(B.dec y).bind fun b=>g a b
 |_=>none
def F3{α β γ:Type}(A:EU α)(B:EU β)(C:EU γ)(g:α->β->γ->Af D):Ac D->Af D
 |[x,y,z]=>(A.dec x).bind fun a=>(B.dec y).bind fun b=>(C.dec z).bind fun c=>g a b c
 |_=>none
def F4{α β γ δ:Type}(A:EU α)(B:EU β)(C:EU γ)(E:EU δ)(g:α->β->γ->δ->Af D):Ac D->Af D
 |[x,y,z,u]=>(A.dec x).bind fun a=>(B.dec y).bind fun b=>(C.dec z).bind fun c=>(E.dec u).bind fun e=>g a b c e
 |_=>none
section
variable {α β γ δ : Type} {A : EU α} {B : EU β} {C : EU γ} {E : EU δ}
def EO(g:α->Af D)(a:α):F1 A g [A.enc a]=g a:=by simp[F1,A.back]
def JU(g:α->β->Af D)(a:α)(b:β):F2 A B g [A.enc a,B.enc b]=g a b:=by simp[F2,A.back,B.back]
def V6(g:α->β->γ->Af D)(a:α)(b:β)(c:γ):F3 A B C g [A.enc a,B.enc b,C.enc c]=g a b c:=by simp[F3,A.back,B.back,C.back]
def Qfa(g:α->β->γ->δ->Af D)(a:α)(b:β)(c:γ)(e:δ):F4 A B C E g [A.enc a,B.enc b,C.enc c,E.enc e]=g a b c e:=by simp[F4,A.back,B.back,C.back,E.back]
variable {P : Aj} {T : Tab} {kp : Ac Nat}
def fH(p:Bg P T)(x:P.follows .mixedOrders=true){f:CG}{fn:Func}(g:P.funcs[f]? =some fn)(i:fn.body.isSome=true)(a:fn.name≠ "runtime.NumGoroutine"){F:Ac D→Af D}
  (h:∀ds d,F ds=some d->∃b c n,Gt ds b/\BB (AB P T kp n fn b [])=some c/\AY c d):Bz P f F:=by
 refine⟨⟨fn,g,a,i⟩,fun ds d l S vs w o j=> ?_⟩;obtain⟨b,c,n,m,t,q⟩:=h ds d l;have s:Bz P f (fun xs=>BB (AB P T kp n fn xs [])):=wL p x g i a fun xs e r=>⟨n,r⟩;refine(s.calls b c t S vs w o (m.rep j)).mono ?_;rintro e y ⟨v,rfl,k,u⟩;exact⟨v,rfl,q _ _ _ _ k,u⟩
variable (hT : Bg P T) (hm : P.follows .mixedOrders = true) {f : CG} {fn : Func} (hf : P.funcs[f]? = some fn)
include hT hm hf
def Jvj{g:Af D}(h:∀d,g=some d→∃n a,BB (AB P T kp n fn [] [])=some a∧AY a d)(hb:fn.body.isSome=true:=by kernel_rfl)(hname:fn.name≠ "runtime.NumGoroutine" :=by decide):Bz P f (F0 g):=
 fH hT hm hf hb hname fun ds d b=>by
  unfold F0 at b;split at b
  ·obtain⟨n,a,e,c⟩:=h d b;exact⟨_,a,n,.nil,e,c⟩
  ·cases b
def FC{g:α→Af D}(h:∀a d,g a=some d→∃n c,BB (AB P T kp n fn [A.enc a] [])=some c∧AY c d)(hb:fn.body.isSome=true:=by kernel_rfl)(hname:fn.name≠ "runtime.NumGoroutine" :=by decide):Bz P f (F1 A g):=
 fH hT hm hf hb hname fun ds d b=>by
  unfold F1 at b;split at b
  ·obtain⟨a,j,b⟩:=Bi.1 b;obtain⟨n,c,i,e⟩:=h a d b;exact⟨_,c,n,.cons (A.ok _ _ j) .nil,i,e⟩
  ·cases b
def GK{g:α→β→Af D}(h:∀a b d,g a b=some d→∃n e,BB (AB P T kp n fn [A.enc a,B.enc b] [])=some e∧AY e d)(hb:fn.body.isSome=true:=by kernel_rfl)(hname:fn.name≠ "runtime.NumGoroutine" :=by decide):Bz P f (F2 A B g):=
 fH hT hm hf hb hname fun ds d c=>by
  unfold F2 at c;split at c
  ·obtain⟨a,j,c⟩:=Bi.1 c;obtain⟨b,i,c⟩:=Bi.1 c;obtain⟨n,e,l,k⟩:=h a b d c;exact⟨_,e,n,.cons (A.ok _ _ j) (.cons (B.ok _ _ i) .nil),l,k⟩
  ·cases c
def V4{g:α→β→γ→Af D}(h:∀a b c d,g a b c=some d→∃n i,BB (AB P T kp n fn [A.enc a,B.enc b,C.enc c] [])=some i∧AY i d)(hb:fn.body.isSome=true:=by kernel_rfl)(hname:fn.name≠ "runtime.NumGoroutine" :=by decide):Bz P f (F3 A B C g):=
 fH hT hm hf hb hname fun ds d e=>by
  unfold F3 at e;split at e
  ·obtain⟨a,l,e⟩:=Bi.1 e;obtain⟨b,j,e⟩:=Bi.1 e;obtain⟨c,k,e⟩:=Bi.1 e;obtain⟨n,i,o,m⟩:=h a b c d e;exact⟨_,i,n,.cons (A.ok _ _ l) (.cons (B.ok _ _ j) (.cons (C.ok _ _ k) .nil)),o,m⟩
  ·cases e
def Jqq{g:α→β→γ→δ→Af D}(h:∀a b c e d,g a b c e=some d→∃n j,BB (AB P T kp n fn [A.enc a,B.enc b,C.enc c,E.enc e] [])=some j∧AY j d)(hb:fn.body.isSome=true:=by kernel_rfl)(hname:fn.name≠ "runtime.NumGoroutine" :=by decide):Bz P f (F4 A B C E g):=
 fH hT hm hf hb hname fun ds d i=>by
  unfold F4 at i;split at i
  ·obtain⟨a,o,i⟩:=Bi.1 i;obtain⟨b,k,i⟩:=Bi.1 i;obtain⟨c,m,i⟩:=Bi.1 i;obtain⟨e,l,i⟩:=Bi.1 i;obtain⟨n,j,q,p⟩:=h a b c e d i;exact⟨_,j,n,.cons (A.ok _ _ o) (.cons (B.ok _ _ k) (.cons (C.ok _ _ m) (.cons (E.ok _ _ l) .nil))),q,p⟩
  ·cases i
end
abbrev Cj:=CG×Bool×GT
def Ci(P:Aj)(p:Cj):Prop:=BN P p.1 p.2.2/\(p.2.1=true->Hk p.2.2)
def Bf{P:Aj}{f:CG}{F:Ac D->Af D}(h:Bz P f F):Ci P (f,true,Ak F):=⟨JtY h,fun _=>Jm9 F⟩
def CB{P:Aj}{f:CG}{G:GT}(h:BN P f G):Ci P (f,false,G):=⟨h,fun e=>by cases e⟩
def EN{P:Aj}:∀p∈([]:Ac Cj),Ci P p:=fun p h=>by cases h
def AC{P:Aj}{e:Cj}{l:Ac Cj}(h:Ci P e)(k:∀p∈l,Ci P p):∀p∈e::l,Ci P p:=by grind
def CU{P:Aj}{l:Ac Cj}(h:∀p∈l,Ci P p):Bg P ⟨l,BM,[]⟩:=⟨h,cZ P,fun _ h=>by cases h⟩
def JvV{P:Aj}{T:Tab}{kp:Ac Nat}(j:Bg P T)(p:P.follows .mixedOrders=true){f:CG}{fn:Func}(k:P.funcs[f]? =some fn)(o:fn.body.isSome=true)(a:fn.name≠ "runtime.NumGoroutine"){n:Nat}{ds:Ac D}{H:Ae}(h:AB P T kp n fn ds []=some (bD true,H))
  {vs:Ac Ap} {w:AA} (c:Au (· <w.heap.size) [] w vs ds):Calls P f vs.toArray w fun e b=>e= .returned (.bool true)/\Below w.heap.size w b:=by
 have l:Bz P f (fun xs=>BB (AB P T kp n fn xs [])):=wL j p k o a fun xs d m=>⟨n,m⟩;refine(l.calls ds (bD true) (by simp_all) _ vs w (fun _ i=>i) c).mono ?_;rintro e b ⟨v,rfl,g,q⟩;simp only[Rep]at g
 grind
def Jj8{S:Nat->Prop}{L:Ac (Nat×Nat)}{w:AA}(n:Int):Rep S L w (.int .i64 n) (iD n):=by simp only[Rep]
def Dx{α:Type}(k:Nat)(s:Af Nat)(h:Ae)(x:D)(c:D->Af α):Af α:=Ad (Dj x) fun a=>Ad (AP k a) fun b=>Ad (Ai s h b) c
def AV{α:Type}(k:Nat)(s:Af Nat)(h:Ae)(x:D)(c:D->Af α):Af α:=Ad (AP k x) fun b=>Ad (Ai s h b) c
def Ce{α:Type}(z:Nat)(s:Af Nat)(h:Ae)(x i:D)(c:D->Af α):Af α:=Ad (BG z x i) fun b=>Ad (Ai s h b) c
def Ha{α:Type}(k n:Nat)(x v:D)(h:Ae)(c:D->Ae->Af α):Af α:=Ad (Dj x) fun a=>Ad (AP k a) fun b=>Ah (Bh n b v h) c
def JM{α:Type}(k n:Nat)(x v:D)(h:Ae)(c:D->Ae->Af α):Af α:=Ad (AP k x) fun b=>Ah (Bh n b v h) c
def Eo{α:Type}(x:D)(c:D->D->Af α):Af α:=Ad (DN x 0) fun a=>Ad (DN x 1) (c a)
def Dw{α:Type}(t:AQ)(cs:Ac D)(n:Nat)(v:D)(h:Ae)(c:D->Ae->Af α):Af α:=Ah (BX t cs h) fun a b=>Ah (Bh n a v b) fun _ d=>c a d
set_option maxHeartbeats 1000000 in
def Jl8(t n:Int)(w:AA):
  Calls prog 217 #[.agg #[.int .i64 t,.int .i64 n]] w fun e a=>e= .returned (.tuple #[.int .i64 (EF t n).1,.int .i64 (EF t n).2])/\Below w.heap.size w a:=by
 go_enter func217,ntmps217;go_wp2
 all_goals first
  |(go_ret2;refine⟨Sy ?_,(Below.refl _ _).alloc (BQ _) _⟩;simp only[beq_iff_eq,AD]at*;simp[EF, *];done)
  |(go_ret2;refine⟨Sy ?_,(Below.refl _ _).alloc (BQ _) _⟩;simp only[AD]at*;rw[EF];simp only[*,BC,or_false];rw[Am (by omega)])
  |skip
 go_quiet (fail)
 go_wp2
 go_ret2
 refine⟨Sy ?_,NF ((Below.refl _ _).alloc (BQ _) _) _⟩;simp only[beq_iff_eq,AD]at*;simp[EF, *]
set_option maxHeartbeats 1000000 in
def yV(x:Nd)(w:AA):
  Calls prog 163 #[.agg #[.int .i64 x.1,.int .i64 x.2]] w fun e b=>e= .returned (.int .i64 (ar x))/\Below w.heap.size w b:=by
 obtain⟨t,n⟩:=x;go_enter func163,ntmps163;go_wp2_with (go_at_call 217;refine(Jl8 _ _ _).mono ?_;rintro e g ⟨rfl,a⟩;obtain⟨d,c⟩:=Jxy a)
 all_goals go_ret
 ·refine⟨JZ ?_,(Below.refl _ _).alloc (BQ _) _⟩;simp_all[ar]
 all_goals
  refine⟨JZ ?_,((Below.refl _ _).alloc (BQ _) _).trans (a.mono (by simp))⟩;simp only[AD,ne_eq,ar]at*;rw[Am (by assumption)]
  first|rw[Aw (by omega)]|rw[Am (by omega)]
set_option maxHeartbeats 1000000 in
def LY(l:Ac Nd)(i:Int)(v:Ap)(w:AA)(U:Ip w v l)(hl:l.length<=4000000):
  Calls prog 164 #[v,.int .i64 i] w fun e r=>e= .returned (.int .i64 (Bc l i))/\Below w.heap.size w r:=by
 by_cases W:i<0
 ·go_enter func164,ntmps164;go_wp2
  go_step3
  go_wp2
  rw[Exit.noGoto_ret];go_ret;exact⟨JZ (Mw l i W).symm,Below.refl _ _⟩
 ·obtain⟨c,rfl⟩:=Fq (Int.not_lt.1 W);rcases U.open with⟨rfl,p,cap,rfl⟩|⟨b,o,cap,rfl,Y,V,C,a⟩
  ·go_enter func164,ntmps164;go_wp2
   go_step3
   go_wp2
   go_step3
   go_wp2
   rw[Exit.noGoto_ret];go_ret;exact⟨JZ (by rw[iU,Cu _ _ _ (by omega) (by simp)]),Below.refl _ _⟩
  ·clear U;go_enter func164,ntmps164;go_wp2;refine wp_scope_jumps 0 (fun S r=>Below w.heap.size w r/\∃(k:Nat) (t:Int) (X u8 Z H u x M E s K B z P I D L G O Q N y J R F:Ap),
    S={tmps:= #[.slice (some ⟨b,o,none⟩) l.length cap,.int .i64 c,undef,undef,.int .i64 0,.int .i64 k,.int .i64 t,X,u8,Z,H,u,x,M,E,s,K,B,z,P,I,D,L,G,O,Q,N,y,J,R,F],defers:=[]}/\
    1<=t/\t<=1+200*(k-c)/\c<=k/\(k<=l.length\/k=c)/\Bc l c=DK k (EX t.toNat (l.drop k))) (fun S _=>l.length-(intOf (S.tmps.getD 5 undef)).toNat) rfl ?_ ?_
   ·have d:=Lib.hid (iU l c);by_cases j:c<l.length
    ·obtain⟨m,n⟩:=a c j;clear a;go_wp2
     go_step3
     have T:=oC l[c];go_wp2_with (go_at_call 163;refine(yV l[c] _).mono ?_;rintro e w1 ⟨rfl,q⟩)
     ·simp only[Exit.jump];go_ret;exact⟨JZ (by rw[d.out,kO l c 1 (by omega) j (by assumption)]),q⟩
     ·go_step3
      exact⟨rfl,q,c+1,_,_,_,_,_,_,_,_,_,_,_,_,_,_,_,_,_,_,_,_,_,_,_,_,_,rfl,by omega,by omega,by omega,.inl (by omega),by rw[d.out,Jcb l c 1 (by omega) j (by assumption)]⟩
     ·simp only[Exit.jump];go_ret;exact⟨JZ (by rw[d.out,JjB l c 1 (by omega) j (by assumption) (by assumption)]),q⟩
    ·clear a;go_wp2
     go_step3
     go_wp2
     simp only[Exit.jump];go_ret;exact⟨JZ (by rw[d.out,Cu l c 1 (by omega) (by omega)]),Below.refl _ _⟩
   ·rintro S r ⟨g,k,t,X,u8,Z,H,u,x,M,E,s,K,B,z,P,I,D,L,G,O,Q,N,y,J,R,F,rfl,h,ab,ac,aa,d⟩;have d:=Lib.hid d;by_cases j:k<l.length
    ·obtain⟨m,n⟩:=a k j;have m:r.cell? ⟨b,o+k*2,none⟩=some (.int .i64 l[k].1):=(g.cell (p:=⟨b,o+k*2,none⟩) C).trans m;have n:r.cell? ⟨b,o+k*2+1,none⟩=some (.int .i64 l[k].2):=(g.cell (p:=⟨b,o+k*2+1,none⟩) C).trans n;clear a;have T:=oC l[k];go_wp2_with (go_at_call 163;refine(yV l[k] _).mono ?_;rintro e w1 ⟨rfl,q⟩)
     ·simp only[Exit.jump];go_ret;exact⟨JZ (by rw[d.out,kO l k t h j (by assumption)]),g.trans (q.mono g.size)⟩
     ·go_step3
      refine⟨rfl,⟨g.trans (q.mono g.size),k+1,_,_,_,_,_,_,_,_,_,_,_,_,_,_,_,_,_,_,_,_,_,_,_,_,_,rfl,by omega,by omega,by omega,.inl (by omega),by rw[d.out,Jcb l k t h j (by assumption)]⟩,?_⟩;simp[intOf];omega
     ·simp only[Exit.jump];go_ret;exact⟨JZ (by rw[d.out,JjB l k t h j (by assumption) (by assumption)]),g.trans (q.mono g.size)⟩
    ·clear a;go_wp2;simp only[Exit.jump];go_ret;exact⟨JZ (by rw[d.out,Cu l k t h (by omega)]),g⟩
section
open Go.RowKit Go.Shelf
attribute [local go_sem] Oper.semAt_some
@[go_sem] theorem QgF(f:CG):Fence.wide.fn f=True:=rfl
@[go_sem] theorem QfR:Fence.wide.depth=none:=rfl
set_option maxRecDepth 100000 in
set_option maxHeartbeats 2000000 in
def Qa7(n:Nat)(lp Bl Ba:Nat)(S:Nat->Prop)(l:Ac Nd)(i:Nat)(v:Ap)(J Jx:Ac Int->AA->Prop)(hi:i<l.length)(har:0<=Fv l i)(hl:l.length<=4000000)(hSl:S Bl)(hSa:S Ba)
  (hY:∀pre x W,J pre W->pre.length<(Fv l i).toNat->YieldAt Fence.wide (n-1) prog lp #[.int .i64 x] W fun e W'=>
   (e= .returned (.bool true)/\J (pre++[x]) W'/\Kept S W W')\/(e= .returned (.bool false)/\Jx (pre++[x]) W'))
  (W:AA) (hSW:∀k,S k->k<W.heap.size) (hJ:∀pre A B,J pre A->Below A.heap.size A B->J pre B) (hbl:W.cell? ⟨Bl,0,none⟩=some v) (hba:W.cell? ⟨Ba,0,none⟩=some (.int .i64 i)) (hv:E8 S W v l) (h0:J [] W):
  CallsIn Fence.wide n prog 276 #[.func (.yield lp) #[] #[],.pointer (some ⟨Ba,0,none⟩),.pointer (some ⟨Bl,0,none⟩)] W fun e W'=>(∃v,e= .returned v)/\
   ((∃ys,ys=KJ (Fz l (i+1)) (Fv l i).toNat/\J ys W')\/(∃pre,(∃k,k<=(Fv l i).toNat/\pre=KJ (Fz l (i+1)) k)/\Jx pre W')):=by
 refine callsIn_of_wp func276 rfl trivial ?_ rfl;simp only[ntmps276,SX,Ej,Hf,Nat.reduceAdd,Nat.reduceSub,Zf,Zg,Zh,Zi,JO,Jd];rcases hv.open with⟨rfl,_⟩|⟨b,o,cap,rfl,hpos,hcap,hbs,hcell⟩
 ·simp at hi
 ·obtain⟨hc0,hc1⟩:=hcell i hi;have hab:=oC l[i];rw[XN l i hi]at har hY⊢;have hSB:∀B:AA,W.heap.size<=B.heap.size->∀k,S k->k<B.heap.size:=fun B h k hk=>OM (hSW k hk) h
  gi_wp2_with (gi_at_call 163;refine(callsIn_wide.2 (yV l[i] _)).mono ?_;rintro e w1 ⟨rfl,hb⟩)
  gi_loopw [4,12] (fun k c wr=>∃m:Nat,(m:Int)<=ar l[i]/\c= .int .i64 m/\k= .int .i64 (Fz l (i+1) m)/\J (KJ (Fz l (i+1)) m) wr/\Kept S W wr) (fun _ c _=>(ar l[i]-intOf c).toNat)
  case atStart=>
   exact⟨0,har,rfl,rfl,hJ _ _ _ h0 hb,Tq hb hSW⟩
  case round=>
   obtain⟨m,hm,rfl,rfl,hJs,hkw⟩:=hrel;by_cases hlt:(m:Int)<ar l[i]
   ·obtain⟨fn,tmps,assign,body,hy,hR⟩:=hY _ (Fz l (i+1) m) wr hJs (by rw[mV];omega)
    gi_wp2
    refine hR.mono ?_;rintro e W3 (⟨rfl,hJ3,hk3⟩|⟨rfl,hJx3⟩)
    ·have hk3':=hkw.trans hk3;have hbl3:W3.cell? ⟨Bl,0,none⟩=some (.slice (some ⟨b,o,none⟩) l.length cap):=(hk3'.cell (p:=⟨Bl,0,none⟩) hSl).trans hbl;have hv3:Ip W3 (.slice (some ⟨b,o,none⟩) l.length cap) l:=(hv.kept hk3').mono (hSB W3 hk3'.size)
     gi_wp2_with (gi_at_call 164;refine(callsIn_wide.2 (LY l _ _ _ hv3 hl)).mono ?_;rintro e w4 ⟨rfl,hb4⟩)
     go_roundw
     case rel=>exact⟨m+1,by omega,by go_num,rfl,by rw[Dd];exact hJ _ _ _ hJ3 hb4,hk3'.trans (Tq hb4 (hSB W3 hk3'.size))⟩
     case measure=>simp[intOf];omega
    ·gi_wp2
     refine bodyPost_ret (results_none rfl _ _ _) rfl ?_;exact⟨⟨_,rfl⟩,.inr ⟨_,⟨m+1,by omega,(Dd _ _).symm⟩,hJx3⟩⟩
   ·gi_wp2
    go_end0;exact⟨⟨_,rfl⟩,.inl (by rw[show(ar l[i]).toNat=m from by omega];exact hJs)⟩
def JdG(n:Nat)(v:Ap)(p:Af Addr)(len cap:Nat)(b:v= .slice p len cap)(i:Int)(w:AA):
  CallsIn Fence.wide n prog 218 #[v,.int .i64 i] w fun e a=>
   e= .returned (.func (.func 276) #[] #[.pointer (some ⟨w.heap.size+1,0,none⟩),.pointer (some ⟨w.heap.size,0,none⟩)])/\
   a=(w.alloc (.cells #[v] 23)).alloc (.cells #[.int .i64 i] 3):=by
 subst b;refine callsIn_of_wp func218 rfl trivial ?_ rfl;simp only[ntmps218,SX,Ej,Hf,Nat.reduceAdd,Nat.reduceSub,Zf,Zg,Zh,Zi,JO,Jd]
 gi_wp2
 go_ret;exact⟨rfl,rfl⟩
def Jpz{β:Type}{B:Nat}{J:β->AA->Prop}(h:AbidesFrom B J){s:β}{A C:AA}(b:J s A)(a:Below A.heap.size A C):J s C:=
 h s A C none b ⟨a.os,a.tape,a.output,a.size,fun k c _=>a.block k c⟩ (fun r e=>by cases e)
def Qfj(n:Nat)(d a:Nat)(S:Nat->Prop)(l:Ac Nd)(i:Nat)(v:Ap)(s:i<l.length)(j:0<=Fv l i)(t:l.length<=4000000)(b:S d)(e:S a)
  (w:AA) (c:∀k,S k->k<w.heap.size) (h:w.cell? ⟨d,0,none⟩=some v) (m:w.cell? ⟨a,0,none⟩=some (.int .i64 i)) (r:E8 S w v l):
  SeqStopsK Fence.wide n Aa 276 #[.pointer (some ⟨a,0,none⟩),.pointer (some ⟨d,0,none⟩)] (fun x:Int=> #[Value.int .i64 x]) (Kept S)
   (fun z=>z=KJ (Fz l (i+1)) (Fv l i).toNat) (fun pre=>∃k,k<=(Fv l i).toNat/\pre=KJ (Fz l (i+1)) k) (Fv l i).toNat w:=fun lp J C W o D F u y=>by
 have g:Kept S w W:=Tq o c;exact Qa7 n lp d a S l i v J C s j t b e u W (fun k hs=>OM (c k hs) g.size) (fun pre A B q E=>Jpz D q E)
  ((g.cell (p:=⟨d,0,none⟩) b).trans h) ((g.cell (p:=⟨a,0,none⟩) e).trans m) (r.kept g) y
def Jq3{W f:AA}{n B:Nat}{t e:AQ}{size:Nat}{v c:Ap}{k m:Nat}{xs x:Ac Ap}{tmp:Obj}
  (u:Boxed W B t v) (q:t≠e) (d:W.ownsRow n e size v k xs) (z:n<=W.heap.size)
  (b:f.ownsRow n e size c m x) (a:(W.alloc tmp).grownBy f v.ownBlock):
  Boxed f B t v/\Boxed (f.setCell ⟨B,0,none⟩ c) B t c/\(f.setCell ⟨B,0,none⟩ c).ownsRow n e size c m x/\KeepsOthers W (f.setCell ⟨B,0,none⟩ c)/\
   (∀S:Nat->Prop,(∀j,S j->j<n/\j≠B)->Kept S W (f.setCell ⟨B,0,none⟩ c))/\(∀B0,B0<=B->B0<=n->Below B0 W (f.setCell ⟨B,0,none⟩ c)):=by
 have i:Boxed f B t v:=(u.alloc tmp).kept a (u.not_row q d);have r:∀j,v.ownBlock=some j->n<=j:=fun j l=>(d.lt j l).1;refine⟨i,i.set c,b.kept (grownBy_setCell' f B c) (.inr (i.not_row q b).symm),?_,?_,?_⟩
 ·refine((KeepsOthers.alloc W tmp).trans (KeepsOthers.of_grownBy a fun j o l h=> ?_)).trans (KeepsOthers.setCell _ _ _);rcases(d.alloc tmp).2 with⟨rfl,_⟩|⟨g,cap,A,rfl,_,s,_⟩
  ·simp[Value.ownBlock]at l
  ·obtain rfl:g=j:=by simpa[Value.ownBlock]using l
   rw[s]at h;cases h;rfl
 ·intro S w;refine Jlb (JqQ (Qcb (Kept.refl S W) (fun j h=>by grind) tmp) a (fun j h=>by have:=(w j h).1;simp;omega) (fun j l h=> ?_)) (fun h=>(w _ h).2 rfl) _
  grind
 ·intro B0 y C;refine(((Below.refl B0 W).alloc (by omega) tmp).grown a (by simp;omega) fun j l=> ?_).setCell (p:=⟨B,0,none⟩) y c;have:=r j l;omega
def Jx7{β:Type}(B m:Nat):OwnFrom B (fun(_:β) W=>m<=W.heap.size):=fun _ _ _ _ hs a _=>Ig hs a.size
def JfP{w b:AA}(a:Below w.heap.size w b)(row:Af Nat):w.grownBy b row:=⟨a.os,a.tape,a.output,a.size,fun k c _=>a.block k c⟩
def SZ{w a:AA}{base:Nat}{e:AQ}{size:Nat}{v:Ap}{n:Nat}{xs:Ac Ap}(h:w.ownsRow base e size v n xs)(b:Below w.heap.size w a):a.ownsRow base e size v n xs:=
 h.kept (JfP b none) (by grind)
def oE{w:AA}{base:Nat}{e:AQ}{v:Ap}{l:Ac Int}(h:w.ownsRow base e 1 v l.length (l.map (Value.int .i64))):IntsIn (fun k=>base<=k/\k<w.heap.size) w v l:=by
 by_cases m:l.length=0
 ·refine .inl ?_;rcases h.2 with⟨rfl,_⟩|⟨g,cap,b,rfl,_⟩
  ·grind
  grind
 ·have a:=h.lt;rcases h.2 with⟨_,c⟩|⟨g,cap,b,rfl,i,n,f,_⟩
  ·exact absurd c m
  ·refine .inr ⟨g,0,cap,rfl,by omega,f,⟨i,(a g rfl).2⟩,fun j d=> ?_⟩;have:=h.cellAt j (by simpa using d);simpa using this
def NA:(Aa.info? 3).map (fun i=>(i.zero,i.size,i.bytes))=some (some (.int .i64 0),1,8):=by kernel_rfl
set_option maxRecDepth 100000 in
set_option maxHeartbeats 2000000 in
theorem QdB (n : Nat) (hn : 3 ≤ n) (l : Ac Nd) (i : Int) (v : Ap) (w : AA) (hv : Ip w v l) (hl : l.length ≤ 4000000) :
    CallsIn Fence.wide n prog 219 #[v, .int .i64 i] w fun e W' => ∃ u, e = .returned u ∧ IntsIn (fun k => w.heap.size ≤ k ∧ k < W'.heap.size) W' u (AZ l i) ∧ Below w.heap.size w W' := by
  have h1 : 1 ≤ n := by omega
  obtain ⟨i0, hi, hz0, hz1, hz2⟩ := info_parts NA
  refine callsIn_of_wp_marks func219 rfl trivial ?_ rfl
  simp only [ntmps219, SX, Ej, Hf, Nat.reduceAdd, Nat.reduceSub, Zf, Zg, Zh, Zi, JO, Jd]
  rcases XG l i with hE | hE
  · have hlt : Bc l i < 0 := by omega
    have HK := Lib.hid (AK l i hlt)
    clear hE
    gi_wp2_with (gi_at_call 164; refine (callsIn_wide.2 (LY l _ _ _ hv hl)).mono ?_; rintro e w1 ⟨rfl, hb⟩)
    exact ⟨_, results_tmp rfl _ _ _, _, rfl, by rw [HK.out]; exact .inl ⟨none, 0, rfl, rfl, rfl, fun _ => rfl⟩, hb⟩
  · obtain ⟨hi0, hil⟩ := F6 l i hE
    obtain ⟨k, rfl⟩ := Fq hi0
    have hnlt : ¬ Bc l k < 0 := by omega
    have hkl : k < l.length := by simpa using hil
    have hab := Jbm l k
    have har := gU l k hE
    obtain ⟨p, cap, rfl⟩ := hv.slice
    have HK := Lib.hid (jG l k hE)
    gi_wp2_with (first | (gi_at_call 164; refine (callsIn_wide.2 (LY l _ _ _ hv hl)).mono ?_; rintro e w1 ⟨rfl, hb⟩) | (gi_at_call 218; refine (JdG _ _ _ _ _ rfl _ _).mono ?_; rintro e w2 ⟨rfl, rfl⟩))
    have hsz := hb.size
    have bO := Boxed.new w1 22 (.slice none 0 0)
    have bL := Boxed.new (w1.alloc (.cells #[.slice none 0 0] 22)) 23 (.slice p l.length cap)
    have bA := Boxed.new ((w1.alloc (.cells #[.slice none 0 0] 22)).alloc (.cells #[.slice p l.length cap] 23)) 3 (.int .i64 k)
    rw [S9] at bL
    rw [S9, S9] at bA
    obtain ⟨W0, hW0⟩ : ∃ W0, ((w1.alloc (.cells #[.slice none 0 0] 22)).alloc (.cells #[.slice p l.length cap] 23)).alloc (.cells #[.int .i64 k] 3) = W0 := ⟨_, rfl⟩
    have bO := (bO.alloc (.cells #[.slice p l.length cap] 23)).alloc (.cells #[.int .i64 k] 3)
    have bL := bL.alloc (.cells #[.int .i64 k] 3)
    have hB0 : Below w1.heap.size w1 W0 := by rw [← hW0]; exact (((Below.refl _ w1).alloc (BQ _) _).alloc (by simp) _).alloc (by simp; omega) _
    have hS0 : W0.heap.size = w1.heap.size + 3 := by rw [← hW0]; simp
    have hBw : Below w.heap.size w W0 := hb.trans (hB0.mono hsz)
    rw [hW0] at bO bL bA ⊢
    refine wpIn_rangeFunc_ownG rfl h1 (gf := 276) (lb := #[.pointer (some ⟨w1.heap.size + 1 + 1, 0, none⟩), .pointer (some ⟨w1.heap.size + 1, 0, none⟩)]) rfl trivial (enters_of func276 (by kernel_rfl) rfl)
      (Qfj (n - 1) (w1.heap.size + 1) (w1.heap.size + 1 + 1) (fun j => j < w1.heap.size + 3 ∧ j ≠ w1.heap.size) l k _ hkl har hl ⟨by omega, by omega⟩ ⟨by omega, by omega⟩ W0 (fun j hj => by have := hj.1; omega) bL.cell bA.cell
        ((hv.kept (gX hBw)).mono (fun j hj => ⟨by omega, by omega⟩)))
      (fun h h' => h.trans h') (fun W lp o o' hlp ho _ _ => ⟨by simp, fun j hj => World.putObj_heap_other (by have := hj.1; omega)⟩) (Below.refl _ _) (fun _ => rfl)
      (fun pre W => (∃ u, Boxed W w1.heap.size 22 u ∧ W.ownsRow (w1.heap.size + 3) 3 1 u pre.length (pre.map (Value.int .i64)) ∧ True) ∧ Below w.heap.size w W ∧ w1.heap.size + 3 ≤ W.heap.size)
      (fun _ _ _ => False)
      (OwnFrom.and (Own.from (holdsRow_own (w1.heap.size + 3) w1.heap.size 22 3 1 (fun pre : Ac Int => pre.length) (fun pre => pre.map (Value.int .i64)) (fun _ _ => True)) _) (OwnFrom.and (ownFrom_below (BQ _) (by omega)) (Jx7 _ _)))
      (fun _ _ _ _ _ hs _ _ => hs)
      ⟨⟨_, bO, World.ownsRow_nil _ _ _ _, trivial⟩, hBw, by omega⟩
      (fun x => { tmps := #[.slice p l.length cap, .int .i64 k, undef, undef, .slice none 0 0, .pointer (some ⟨w1.heap.size, 0, none⟩), .int .i64 x, .slice p l.length cap, .int .i64 k, .int .i64 (Bc l k), .bool (decide (Bc l k < 0)), .slice p l.length cap, .int .i64 k, .func (.func 276) #[] #[.pointer (some ⟨w1.heap.size + 1 + 1, 0, none⟩), .pointer (some ⟨w1.heap.size + 1, 0, none⟩)], .int .i64 x, undef, undef, undef, undef, undef], defers := [] }) ?assign ?body ?done ?stop
    case assign =>
      intro lp x W K hK
      gi_wp2
      exact hK
    case body =>
      rintro lp pre x W ⟨⟨u, hv1, hrow, _⟩, hB, hWs⟩ hlt
      have hc := hv1.cell
      have hN : pre.length < 200 := by omega
      gi_wp2_with (gi_at_builtin; refine wpListIn_append_own _ rfl _ _ 22 rfl (w1.heap.size + 3) 3 i0 (.int .i64 0) 1 8 underlying22 hi hz0 hz1 hz2 rfl (by decide) _ _ _ rfl (hrow.alloc _) ⟨W.heap.size, 0, none⟩ 1 1 [.int .i64 x] rfl rfl (cell_one_new _ _ _) (by simp [Value.oneCell']) (by unfold maxLen; omega) (by omega) (by simp; omega) ?_; intro v' w3 hown' hgrow _; obtain ⟨g', cap', rfl⟩ := ownsRow_succ hown'; obtain ⟨hv3, hv4, hr4, hk4, hS4, hB4⟩ := Jq3 hv1 (by decide) hrow hWs hown' hgrow; have hc3 := hv3.cell; have hf3 := hv3.frozen)
      exact ⟨hk4.from _, hS4 _ (fun j hj => hj), ⟨_, hv4, by simpa using hr4, trivial⟩, hB.trans (hB4 _ (by omega) (by omega)), Ig hWs (hB4 0 (by omega) (by omega)).size⟩
    case done =>
      rintro D ys W hD rfl ⟨⟨u, hv1, hrow, _⟩, hB, hWs⟩ hK
      have hc := hv1.cell
      gi_wp2
      refine ⟨by simp, .inl ⟨_, _, rfl, run_takeDeferred hK, ?_⟩⟩
      refine ⟨_, results_tmp rfl _ _ _, u, rfl, ?_, hB.trans (belowK_b (w := w) (BQ _) W D _ _ (by omega) hK rfl rfl)⟩
      rw [HK.out]
      exact (oE (ownsRow_putObj hrow _ hK rfl)).mono (fun j hj => ⟨by omega, hj.2⟩)
    simp
end
section
open Go.RowKit Go.Shelf
section
variable {P : Aj}
def Cr{α:Type}(P:Aj)(gf:Nat)(lb:CX Ap)(encs:α->CX Ap)(G:α->AA->Prop)(Kp:AA->AA->Prop)(N:Nat)(R:Ac α->Bool->Prop)(W:AA):Prop:=
 ∀(lp:Nat) (J:Ac α->Bool->AA->Prop),(∀b,OwnFrom W.heap.size (fun xs V=>J xs b V))->
  (∀pre x c,J pre true c->G x c->pre.length<N->YieldAt Fence.wide 0 P lp (encs x) c fun e a=>∃b,e= .returned (.bool b)/\J (pre++[x]) b a/\Kp c a)->
  J [] true W->
  CallsIn Fence.wide 0 P gf (#[.func (.yield lp) #[] #[]]++lb) W fun e a=>(∃v,e= .returned v)/\∃xs b,R xs b/\J xs b a
def fF{β:Type}{B:Nat}{I:β->AA->Prop}(h:OwnFrom B I){s:β}{A C:AA}(a:I s A)(b:Below A.heap.size A C):I s C:=
 h s A C none a (JfP b none) (fun r e=>by cases e)
def mE(fn:CG)(a:Act)(b:CX Tmp)(assign body:Code)(D:Nat)(st:LoopState)(c:Af Code):Loop:=
 {state:=st,pending:=c,fn,tmps:=a.tmps,params:=b,assign,body,defers:=D}
def Jig{α:Type}(B:Nat)(Kp:AA->AA->Prop)(I:Ac α->AA->Prop)(Ix:Code->Ac α->AA->Prop)(xs:Ac α)(W:AA):Exit->Act->AA->Prop
 | .normal,_,a=>KeepsFrom B W a/\Kp W a/\I xs a
 | .ret,_,a=>KeepsFrom B W a/\Kp W a/\Ix .ret xs a
 | .exit id,_,a=>KeepsFrom B W a/\Kp W a/\Ix (.exit id) xs a
 | .goto t,_,a=>KeepsFrom B W a/\Kp W a/\Ix (.goto t) xs a
 | .panic _,_,_=>False
 | .outgrown,_,_=>False
def Jr2{α:Type}{B lp D:Nat}{Kp:AA->AA->Prop}{I:Ac α->AA->Prop}{Ix:Code->Ac α->AA->Prop}{xs:Ac α}{r:Loop}{W:AA}{e:Exit}{a:Act}{p:AA}
  (J:OwnFrom B I) (u:∀c,OwnFrom B (Ix c)) (k:∀{A C E:AA},Kp A C->Kp C E->Kp A E)
  (m:∀(W:AA) (l:Nat) (o L:Obj),B<=l->l<B+2->W.heap[l]? =some o->o.isCells=false->o.isWalk=false->Kp W (W.putObj l L))
  (i:B<=lp) (n:lp<B+2) (G:B<=D) (z:D≠lp) (K:W.heap[lp]? =some (.loop r)) (H:W.heap[D]? =some (.deferred (some [])))
  (h:Jig B Kp I Ix xs W e a p):
  roundPost P lp (fun e q=>∃b,e= .returned (.bool b)/\
   ((b=true/\I xs q/\q.heap[lp]? =some (.loop {r with state:= .ready,pending:=none})/\q.heap[D]? =some (.deferred (some []))/\Kp W q)\/
    (b=false/\∃c,Ix c xs q/\q.heap[lp]? =some (.loop {r with state:= .done,pending:=some c})/\q.heap[D]? =some (.deferred (some []))/\Kp W q))) e a p:=by
 have y:∀j,KeepsFrom B W p->(Instr.endRound lp j).run P p= .ok (.bool j.isNone) (p.putObj lp (.loop {r with state:=if j.isNone then .ready else .done,pending:=j}))/\
   (p.putObj lp (.loop {r with state:=if j.isNone then .ready else .done,pending:=j})).heap[lp]? =some (.loop {r with state:=if j.isNone then .ready else .done,pending:=j})/\
   (p.putObj lp (.loop {r with state:=if j.isNone then .ready else .done,pending:=j})).heap[D]? =some (.deferred (some []))/\p.heap[lp]? =some (.loop r):=fun j d=>by
  have F:=d.same lp _ i K rfl;exact⟨run_endRound j F,World.putObj_heap_same (IY.1 F).1,(World.putObj_heap_other z).trans (d.same D _ G H rfl),F⟩
 cases e with
 |normal=>
  obtain⟨d,f,w⟩:=h;obtain⟨v,s,x,g⟩:=y none d;exact⟨_,_,v,true,rfl,.inl ⟨rfl,J.putObj _ w i g rfl,s,x,k f (m _ _ _ _ i n g rfl rfl)⟩⟩
 |ret=>
  obtain⟨d,f,w⟩:=h;obtain⟨v,s,x,g⟩:=y (some .ret) d;exact⟨_,_,v,false,rfl,.inr ⟨rfl,_,(u _).putObj _ w i g rfl,s,x,k f (m _ _ _ _ i n g rfl rfl)⟩⟩
 |exit id=>
  obtain⟨d,f,w⟩:=h;obtain⟨v,s,x,g⟩:=y (some (.exit id)) d;exact⟨_,_,v,false,rfl,.inr ⟨rfl,_,(u _).putObj _ w i g rfl,s,x,k f (m _ _ _ _ i n g rfl rfl)⟩⟩
 |goto t=>
  obtain⟨d,f,w⟩:=h;obtain⟨v,s,x,g⟩:=y (some (.goto t)) d;exact⟨_,_,v,false,rfl,.inr ⟨rfl,_,(u _).putObj _ w i g rfl,s,x,k f (m _ _ _ _ i n g rfl rfl)⟩⟩
 |panic _=>exact h.elim
 |outgrown=>exact h.elim
def kI{α:Type}{g:Operand}{ps:CX Tmp}{assign body:Code}{Q:Exit->Act->AA->Prop}{a:Act}{w:AA}{n:Nat}
  {gf:Nat} {lb:CX Ap} (hg:a.eval g= .func (.func gf) #[] lb) (eg:∀args w,(callFunc gf args).run P w= .ok (.enter gf args) w)
  {encs:α->CX Ap} {G:α->AA->Prop} {Kp:AA->AA->Prop} {N:Nat} {R:Ac α->Bool->Prop} (ah:∀x,(encs x).size=ps.size)
  (ae:∀d,Below w.heap.size w d->d.heap.size=w.heap.size+2->Cr P gf lb encs G Kp N R d)
  (F:∀{A C E:AA},Kp A C->Kp C E->Kp A E)
  (S:∀(W:AA) (l:Nat) (o o':Obj),w.heap.size<=l->l<w.heap.size+2->W.heap[l]? =some o->o.isCells=false->o.isWalk=false->Kp W (W.putObj l o'))
  (I:Ac α->AA->Prop) (Ix:Code->Ac α->AA->Prop) (hI:OwnFrom w.heap.size I) (M:∀c,OwnFrom w.heap.size (Ix c)) (hG:∀x,OwnFrom w.heap.size (fun(_:Unit) W=>G x W)) (h0:I [] w)
  (a₁:α->Act)
  (q:∀(lp:Nat) (x:α) (W:AA) (K:Act->AA->Prop),K (a₁ x) W->
   assign.wpIn (Fence.wide.inRound lp) 0 P (Exit.then K (fun _ _ _=>False)) {tmps:=(ps.zip (encs x)).foldl (fun t (p,v)=>t.setIfInBounds p v) a.tmps,defers:=[]} W)
  (z:∀(lp:Nat) (pre:Ac α) (x:α) (W:AA),I pre W->G x W->pre.length<N->body.wpIn (Fence.wide.inRound lp) 0 P (Jig w.heap.size Kp I Ix (pre++[x]) W) (a₁ x) W)
  (aa:∀(D:Nat) (xs:Ac α) (W:AA),w.heap.size<=D->R xs true->I xs W->W.heap[D]? =some (.deferred (some []))->Q .normal {a with defers:={target:= .collected D,args:= #[]}::a.defers} W)
  (T:∀(D:Nat) (c:Code) (xs:Ac α) (W:AA),w.heap.size<=D->R xs false->Ix c xs W->W.heap[D]? =some (.deferred (some []))->c.wpIn Fence.wide n P Q {a with defers:={target:= .collected D,args:= #[]}::a.defers} W):
  (Code.rangeFunc g ps assign body).wpIn Fence.wide n P Q a w:=by
 refine wpIn_rangeFunc fun fn ad=> ?_;let D:=w.heap.size;let lp:=w.heap.size+1;let i:=mE fn a ps assign body D;let y:=(w.alloc (.deferred (some []))).alloc (.loop (i .ready none));have ab:Below w.heap.size w y:=((Below.refl _ w).alloc (BQ _) _).alloc (by simp) _;have hL:y.heap[lp]? =some (.loop (i .ready none)):=by
  have:=World.alloc_heap_new (w.alloc (.deferred (some []))) (.loop (i .ready none));rwa[S9]at this
 have hK:y.heap[D]? =some (.deferred (some [])):=(Below.heap_alloc _ _ _ (by simp[D])).trans (World.alloc_heap_new w _);refine⟨lp,[{target:= .collected D,args:= #[]}],y,{target:= .fn (.func gf) lb,args:= #[.func (.yield lp) #[] #[]]},y,gf,#[.func (.yield lp) #[] #[]]++lb,y,
  run_enterLoop_outer _ _ _ _ _,by simp only[resolve,hg];simp[go_sem],fun _ _=>trivial,by simp[invoke,go_sem,eg],(fun h=>by cases h),?_⟩
 refine CallsIn.more (n:=0) ?_ (F9 _);have af:y.heap.size=w.heap.size+2:=by simp[y]
 refine(ae y ab af lp (fun xs b W=>(b=true/\I xs W/\W.heap[lp]? =some (.loop (i .ready none))/\W.heap[D]? =some (.deferred (some [])))\/
  (b=false/\∃c,Ix c xs W/\W.heap[lp]? =some (.loop (i .done (some c)))/\W.heap[D]? =some (.deferred (some [])))) ?_ ?_ (.inl ⟨rfl,?_,hL,hK⟩)).mono ?_
 ·intro b xs A B row hs L hr;have f:∀{k:Nat} {o:Obj},k<w.heap.size+2->A.heap[k]? =some o->B.heap[k]? =some o:=fun Z m=>
   (L.block _ (IY.1 m).1 (fun e=>by have:=(hr _ e.symm).1;omega)).trans m
  have U:∀r,row=some r->w.heap.size<=r/\∃o:Obj,A.heap[r]? =some o/\o.isCells=false:=fun r e=>by obtain⟨h1,V⟩:=hr r e;exact⟨by omega,V⟩
  rcases hs with⟨rfl,u,j,m⟩|⟨rfl,c,u,j,m⟩
  ·exact .inl ⟨rfl,hI xs A B row u L U,f (by simp[lp]) j,f (by simp[D]) m⟩
  ·exact .inr ⟨rfl,c,M c xs A B row u L U,f (by simp[lp]) j,f (by simp[D]) m⟩
 ·rintro pre x W (⟨_,u,j,m⟩|⟨h,_⟩) ac Y
  case inr=>cases h
  refine⟨fn,_,assign,body,run_yield j (ah x),roundIn_of_wpIn ad (q lp x W _ ⟨_,run_beginRound j rfl,?_⟩)⟩;have ag:(W.putObj lp (.loop {i .ready none with state:= .busy})).heap[lp]? =some (.loop {i .ready none with state:= .busy}):=World.putObj_heap_same (IY.1 j).1;have Z:(W.putObj lp (.loop {i .ready none with state:= .busy})).heap[D]? =some (.deferred (some [])):=(World.putObj_heap_other (by simp[D,lp])).trans m;have X:Kp W (W.putObj lp (.loop {i .ready none with state:= .busy})):=S _ _ _ _ (by simp[lp]) (by simp[lp]) j rfl rfl;refine wpIn_mono (z lp pre x _ (hI.putObj _ u (by simp[lp]) j rfl) ((hG x).putObj (s:=()) _ ac (by simp[lp]) j rfl) Y) fun e a3 W3 hp=> ?_;have:=Jr2 (P:=P) (lp:=lp) (D:=D) (Kp:=Kp) (I:=I) (Ix:=Ix) (xs:=pre++[x]) hI M (fun{A C E} h k=>F h k) S (by simp[lp]) (by simp[lp]) (BQ _) (by simp[D,lp]) ag Z hp;revert this;have key:∀(e:Ending) (d:AA),(∃b,e= .returned (.bool b)/\
    ((b=true/\I (pre++[x]) d/\d.heap[lp]? =some (.loop {({i .ready none with state:= .busy}:Loop)with state:= .ready,pending:=none})/\d.heap[D]? =some (.deferred (some []))/\Kp (W.putObj lp (.loop {i .ready none with state:= .busy})) d)\/
     (b=false/\∃c,Ix c (pre++[x]) d/\d.heap[lp]? =some (.loop {({i .ready none with state:= .busy}:Loop)with state:= .done,pending:=some c})/\d.heap[D]? =some (.deferred (some []))/\Kp (W.putObj lp (.loop {i .ready none with state:= .busy})) d)))->
    ∃b,e= .returned (.bool b)/\((b=true/\I (pre++[x]) d/\d.heap[lp]? =some (.loop (i .ready none))/\d.heap[D]? =some (.deferred (some [])))\/
      (b=false/\∃c,Ix c (pre++[x]) d/\d.heap[lp]? =some (.loop (i .done (some c)))/\d.heap[D]? =some (.deferred (some []))))/\Kp W d:=by
   rintro e d ⟨b,rfl,⟨rfl,h1,V,h3,h4⟩|⟨rfl,c,h1,V,h3,h4⟩⟩
   ·exact⟨true,rfl,.inl ⟨rfl,h1,V,h3⟩,F X h4⟩
   ·exact⟨false,rfl,.inr ⟨rfl,c,h1,V,h3⟩,F X h4⟩
  intro this;cases e with
  |normal=>obtain⟨v,J,H,O⟩:=this;exact⟨v,J,H,key _ _ O⟩
  |ret=>obtain⟨v,J,H,O⟩:=this;exact⟨v,J,H,key _ _ O⟩
  |exit id=>obtain⟨v,J,H,O⟩:=this;exact⟨v,J,H,key _ _ O⟩
  |goto t=>obtain⟨v,J,H,O⟩:=this;exact⟨v,J,H,key _ _ O⟩
  |panic _=>exact this.elim
  |outgrown=>exact this.elim
 ·exact fF hI h0 ab
 ·rintro e W2 ⟨⟨v,rfl⟩,xs,b,hR,⟨rfl,u,j,m⟩|⟨rfl,c,u,j,m⟩⟩
  ·exact⟨none,_,run_endLoop j (by simp[i,mE]),aa D xs _ (BQ _) hR (hI.putObj _ u (by simp[lp]) j rfl) ((World.putObj_heap_other (by simp[D,lp])).trans m)⟩
  ·exact⟨some c,_,run_endLoop j (by simp[i,mE]),T D c xs _ (BQ _) hR ((M c).putObj _ u (by simp[lp]) j rfl) ((World.putObj_heap_other (by simp[D,lp])).trans m)⟩
def marks(a:Ac Nat):Ac Deferred:=a.map fun D=>{target:= .collected D,args:= #[]}
theorem mL{F:Fence}{n:Nat}{fn:Func}{tmps:CX Ap}{R:Ending->AA->Prop}(v:Ap)(a:AA->Prop):∀(b:Ac Nat) (W:AA),b.Nodup->(∀D,D∈b->W.heap[D]? =some (.deferred (some [])))->
  (∀A D,D∈b->A.heap[D]? =some (.deferred (some []))->a A->a (A.putObj D (.deferred none)))->a W->
  (∀d,a d->(results fn tmps).run P d= .ok v d/\R (.returned v) d)->
  LeavesInM F n P fn tmps R (marks b) .returning W
 |[],W,_,_,_,e,h=>by
  obtain⟨k,j⟩:=h W e;exact⟨v,k,j⟩
 |D::b,W,g,f,hs,e,h=>by
  have c:=Ma.1 g;refine⟨by simp,.inl ⟨D,_,rfl,run_takeDeferred (f D (by simp)),?_⟩⟩;exact mL v a b _ c.2 (fun E i=>(World.putObj_heap_other (by grind)).trans (f E (by simp[i])))
   (fun A E i=>hs A E (by simp[i])) (hs W D (by simp) (f D (by simp)) e) h
structure GI(X:Nat->Prop)(B:Nat)(W W':World):Prop where
 size:W.heap.size<=W'.heap.size
 cells:∀k o,¬X k->W.heap[k]? =some o->o.isCells=true->W'.heap[k]? =some o
 other:∀k o,B<=k->W.heap[k]? =some o->o.isCells=false->W'.heap[k]? =some o
def GI.refl(X:Nat->Prop)(B:Nat)(W:AA):GI X B W W:=⟨BQ _,fun _ _ _ h _=>h,fun _ _ _ h _=>h⟩
def GI.trans{X:Nat->Prop}{B:Nat}{a b c:AA}(h:GI X B a b)(k:GI X B b c):GI X B a c:=
 ⟨Ig h.size k.size,fun i o f e d=>k.cells i o f (h.cells i o f e d) d,fun i o g e d=>k.other i o g (h.other i o g e d) d⟩
def GI.mono{X:Nat->Prop}{B B':Nat}{a b:AA}(h:GI X B a b)(d:B<=B'):GI X B' a b:=⟨h.size,h.cells,fun k o c=>h.other k o (Ig d c)⟩
def TP{X:Nat->Prop}{B:Nat}{a b:AA}(h:Below a.heap.size a b):GI X B a b:=
 ⟨h.size,fun k o _ c _=>(h.block k (IY.1 c).1).trans c,fun k o _ c _=>(h.block k (IY.1 c).1).trans c⟩
def Od{X:Nat->Prop}{B:Nat}(W:AA)(l:Nat)(o b:Obj)(e:l<B)(h:W.heap[l]? =some o)(f:o.isCells=false):GI X B W (W.putObj l b):=
 ⟨by simp,fun k u _ a d=>(World.putObj_heap_other (by grind)).trans a,fun k u c a _=>(World.putObj_heap_other (by omega)).trans a⟩
def cJ{W:AA}{p:Addr}{v:Ap}(h:W.cell? p=some v):∃o,W.heap[p.block]? =some o/\o.isCells=true:=by
 unfold World.cell? at h;split at h
 ·rename_i c t s a;exact⟨_,a,rfl⟩
 ·cases h
def GI.cell{X:Nat->Prop}{B:Nat}{a b:AA}(h:GI X B a b){p:Addr}{v:Ap}(e:¬X p.block)(c:a.cell? p=some v):b.cell? p=some v:=by
 obtain⟨o,d,f⟩:=cJ c;exact(World.cell?_of_block (w:=a) ((h.cells _ o e d f).trans d.symm)).trans c
def Gp.keptBut{X:Nat->Prop}{B:Nat}{a b:AA}{v:Ap}{n:Nat}{xs:Ac Ap}(h:Gp (fun k=>¬X k/\k<a.heap.size) a v n xs)(g:GI X B a b):Gp (fun k=>¬X k/\k<b.heap.size) b v n xs:=by
 rcases h with h|⟨f,o,cap,m,l,i,c,q⟩
 ·exact .inl h
 ·refine .inr ⟨f,o,cap,m,l,i,⟨c.1,OM c.2 g.size⟩,fun j d=> ?_⟩;have e:=q j d;rw[FQ d]at e⊢;exact g.cell (p:=⟨f,o+j,none⟩) c.1 e
def Jul{β:Type}{X:Nat->Prop}{B B':Nat}{W:AA}(i:W.heap.size<=B'):OwnFrom B' (fun(_:β) V=>GI X B W V):=by
 intro s A C row hs c h;refine⟨Ig hs.size c.size,fun k o f b d=> ?_,fun k o g b d=> ?_⟩
 ·have a:=(IY.1 b).1;exact(c.block k (OM a hs.size) (fun e=>by grind)).trans (hs.cells k o f b d)
 ·have a:=(IY.1 b).1;exact(c.block k (OM a hs.size) (fun e=>by grind)).trans (hs.other k o g b d)
def LL{X:Nat->Prop}{B:Nat}{v:Ap}{n:Nat}{xs:Ac Ap}:OwnFrom B (fun(_:Unit) W=>Gp (fun k=>¬X k/\k<W.heap.size) W v n xs):=by
 intro s A C row hs b c;refine Gp.keptBut (B:=C.heap.size) hs ⟨b.size,fun k o _ a f=> ?_,fun k o d a _=> ?_⟩
 ·refine(b.block k (IY.1 a).1 (fun e=> ?_)).trans a
  grind
 ·have:=(IY.1 a).1;have:=b.size;omega
def JdX{β:Type}{B D:Nat}(c:D<B):OwnFrom B (fun(_:β) W=>W.heap[D]? =some (.deferred (some []))):=by
 intro s A C row hs a b;exact(a.block D (IY.1 hs).1 (fun e=>by grind)).trans hs
def Jl0{F:Fence}{n:Nat}{l lp:Nat}{f:CG}{tmps:CX Ap}{assign body:Code}{w:AA}{R:Ending->AA->Prop}(h:RoundIn F n P l f tmps assign body w R):RoundIn (F.inRound lp) n P l f tmps assign body w R:=h
end
def SP{X:Nat->Prop}{B:Nat}(W:AA){p:Addr}(d:X p.block)(u:Ap):GI X B W (W.setCell p u):=by
 refine⟨by simp[World.setCell],fun k o a c _=> ?_,fun k o _ a c=> ?_⟩
 ·rw[Below.heap_setCell W p u k (fun e=>a (e▸d))];exact c
 ·obtain⟨b,h,g⟩:=p;simp only[World.setCell,Array.getElem?_modify,a];split
  ·rename_i f;cases o<;>first|rfl|(cases c)
  ·rfl
def HP{W:AA}{b D:Nat}{t:AQ}{v:Ap}(h:Boxed W b t v)(o:Obj)(a:b≠D):Boxed (W.putObj D o) b t v:=h.kept (grownBy_putObj' W D o) (by grind)
end
def Dr(a b:Nat)(l:Ac Nd):EX (a+b) l=(EX a l).bind fun m=>(EX b (l.drop m)).map (m+ ·):=by
 induction l generalizing a with
 |nil=>
  cases a with
  |zero=>simp[RQ]
  |succ a=>
   rw[ZZ _ (by omega),ZZ _ (by omega)];rfl
 |cons x r e=>
  cases a with
  |zero=>simp[RQ]
  |succ a=>
   rw[show a+1+b=(a+b)+1 from by omega,O6,O6];by_cases d:ar x<0
   ·grind
   ·rw[Am d,Am d,show a+b+(ar x).toNat=(a+(ar x).toNat)+b from by omega,e];cases EX (a+(ar x).toNat) r with
    |none=>rfl
    |some m=>
     simp only[BR,Dt,pJ];cases EX b (r.drop m)with
     |none=>rfl
     |some c=>grind
def Jjw(k:Nat)(l:Ac Nd)(m:Nat)(h:EX k l=some m):m<=l.length:=by
 induction l generalizing k m with
 |nil=>
  cases k with
  |zero=>rw[RQ]at h;cases h;simp
  |succ k=>rw[ZZ _ (by omega)]at h;cases h
 |cons x r b=>
  cases k with
  |zero=>rw[RQ]at h;cases h;simp
  |succ k=>
   rw[O6]at h;by_cases a:ar x<0
   ·grind
   ·rw[Am a]at h;cases hs:EX (k+(ar x).toNat) r with
    |none=>rw[hs]at h;cases h
    |some c=>
     grind
def Jz8(k:Nat)(l:Ac Nd)(m:Nat)(h:EX k l=some m):k<=m:=by
 induction l generalizing k m with
 |nil=>
  cases k with
  |zero=>omega
  |succ k=>rw[ZZ _ (by omega)]at h;cases h
 |cons x r b=>
  cases k with
  |zero=>omega
  |succ k=>
   rw[O6]at h;by_cases a:ar x<0
   ·grind
   ·rw[Am a]at h;cases hs:EX (k+(ar x).toNat) r with
    |none=>rw[hs]at h;cases h
    |some c=>
     grind
def Jkr(k:Nat)(l:Ac Nd)(m:Nat)(h:EX k l=some m)(d:Ac Nd):EX k (l.take m++d)=some m:=by
 induction l generalizing k m with
 |nil=>
  cases k with
  |zero=>rw[RQ]at h⊢;exact h
  |succ k=>rw[ZZ _ (by omega)]at h;cases h
 |cons x r b=>
  cases k with
  |zero=>rw[RQ]at h⊢;exact h
  |succ k=>
   rw[O6]at h;by_cases a:ar x<0
   ·grind
   ·rw[Am a]at h;cases hs:EX (k+(ar x).toNat) r with
    |none=>rw[hs]at h;cases h
    |some c=>
     rw[hs]at h;simp only[Dt,CE]at h;subst h;rw[QX,Jd,O6,Am a,b _ _ hs];rfl
def cI(l:Ac Nd)(k m:Nat)(h:EX 1 (l.drop k)=some m):Bc l k=((k+m:Nat):Int):=by
 rw[iU];show DK k (EX 1 (l.drop k))=_;rw[h];simp[DK]
def mF(l:Ac Nd)(k:Nat)(h:0<=Bc l k):∃m,EX 1 (l.drop k)=some m/\Bc l k=((k+m:Nat):Int):=by
 cases hs:EX 1 (l.drop k)with
 |none=>rw[iU]at h;change 0<=DK k (EX 1 (l.drop k))at h;rw[hs]at h;simp[DK]at h
 |some m=>exact⟨m,rfl,cI l k m hs⟩
def UA(l:Ac Nd)(i:Int):Bc l i<=l.length:=by
 rcases XG l i with h|h
 ·omega
 ·obtain⟨a,c⟩:=F6 l i h;obtain⟨k,rfl⟩:=Fq a;obtain⟨m,hs,b⟩:=mF l k h;have:=Jjw _ _ _ hs
  grind
def PH(l:Ac Nd)(i:Int)(h:0<=Bc l i):i<Bc l i:=by
 obtain⟨a,c⟩:=F6 l i h;obtain⟨k,rfl⟩:=Fq a;obtain⟨m,hs,b⟩:=mF l k h;have:=Jz8 _ _ _ hs;omega
def wA(l:Ac Nd)(k:Nat)(h:0<=Bc l k):∃c,EX (Fv l k).toNat (l.drop (k+1))=some c/\Bc l k=((k+1+c:Nat):Int):=by
 obtain⟨m,hs,e⟩:=mF l k h;have b:k<l.length:=by have:=(F6 l k h).2;simpa using this
 have a:=gU l k h;rw[XN l k b]at a⊢;rw[QW b,show(1:Nat)=0+1 from rfl,O6,Am (by omega),EE]at hs;cases d:EX (ar l[k]).toNat (l.drop (k+1))with
 |none=>rw[d]at hs;cases hs
 |some c=>
  grind
def Ji8(l:Ac Nd)(k:Nat)(h:0<=Bc l k)(j:Nat)(n:j<=(Fv l k).toNat):∃m,EX j (l.drop (k+1))=some m/\Fz l (k+1) j=((k+1+m:Nat):Int):=by
 obtain⟨c,f,_⟩:=wA l k h
 induction j with
 |zero=>exact⟨0,RQ _,rfl⟩
 |succ j g=>
  obtain⟨m,i,b⟩:=g (by omega);have a:=Dr (j+1) ((Fv l k).toNat-(j+1)) (l.drop (k+1));rw[show j+1+((Fv l k).toNat-(j+1))=(Fv l k).toNat from by omega,f]at a;cases hs:EX (j+1) (l.drop (k+1))with
  |none=>grind
  |some m'=>
   refine⟨m',rfl,?_⟩;rw[Dr,i]at hs;simp only[BR,List.drop_drop]at hs;cases e:EX 1 (l.drop (k+1+m))with
   |none=>rw[e]at hs;cases hs
   |some d=>
    rw[e]at hs;simp only[Dt,CE]at hs;show Bc l (Fz l (k+1) j)=_;rw[b,cI l _ d e];omega
def DG(l:Ac Nd)(k:Nat)(h:0<=Bc l k):Fz l (k+1) (Fv l k).toNat=Bc l k:=by
 obtain⟨c,d,b⟩:=wA l k h;obtain⟨m,e,a⟩:=Ji8 l k h _ (BQ _)
 grind
def Sf(l:Ac Nd)(k:Nat)(h:0<=Bc l k)(j:Nat)(a:j<(Fv l k).toNat):Fz l (k+1) j<Fz l (k+1) (j+1)/\Bc l (Fz l (k+1) j)=Fz l (k+1) (j+1):=by
 refine⟨?_,rfl⟩;obtain⟨m,_,b⟩:=Ji8 l k h (j+1) a;exact PH l _ (show 0<=Bc l (Fz l (k+1) j) by have:Fz l (k+1) (j+1)=Bc l (Fz l (k+1) j):=rfl;omega)
def DQ(l:Ac Nd)(k:Nat)(h:0<=Bc l k)(j d:Nat)(e:j+d<=(Fv l k).toNat):Fz l (k+1) j+d<=Fz l (k+1) (j+d):=by
 induction d with
 |zero=>simp
 |succ d a=>
  have c:=a (by omega);have b:=(Sf l k h (j+d) (by omega)).1
  grind
def aG(l:Ac Nd)(k:Nat)(h:0<=Bc l k)(j:Nat)(b:j<(Fv l k).toNat):(k:Int)<Fz l (k+1) j/\Fz l (k+1) j<Bc l k/\0<=Bc l (Fz l (k+1) j)/\Bc l (Fz l (k+1) j)<=Bc l k:=by
 have e:=DQ l k h 0 j (by omega);have d:=Sf l k h j b;have a:=DQ l k h (j+1) ((Fv l k).toNat-(j+1)) (by omega);rw[show j+1+((Fv l k).toNat-(j+1))=(Fv l k).toNat from by omega,DG l k h]at a;have c:Fz l (k+1) 0=k+1:=rfl
 grind
def vD(l:Ac Nd)(k:Nat)(x:Int)(a:x∈AZ l k):0<=Bc l k/\∃j,j<(Fv l k).toNat/\x=Fz l (k+1) j:=by
 by_cases h:Bc l k<0
 ·rw[AK l k h]at a;cases a
 ·have b:0<=Bc l k:=by omega
  rw[jG l k b]at a;simp only[KJ,GN,oZ]at a
  grind
def dY(l:Ac Nd)(i:Int)(c:Nat)(h:c<(AZ l i).length):i<(AZ l i)[c]/\0<=i/\(AZ l i)[c]<=l.length:=by
 have e:=Ih h;have hp:0<=Bc l i:=by
  rcases XG l i with a|a
  ·rw[AK l i (by omega)]at h;simp at h
  ·exact a
 obtain⟨b,_⟩:=F6 l i hp;obtain⟨k,rfl⟩:=Fq b;obtain⟨_,j,d,f⟩:=vD l k _ e;have:=aG l k hp j d;have:=UA l k;omega
def FJ(l:Ac Nd)(i:Int):(AZ l i).length<=200:=by
 unfold AZ;split
 ·simp
 ·have:=Jbm l i
  grind
section
open Go.RowKit Go.Shelf
attribute [local go_sem] Oper.semAt_some
def E1(a xs:Ac Int)(b:Bool):Prop:=if b=true then xs=a else xs<+:a
def Jyi{α:Type}(f:Nat->α)(m d:Nat):KJ f m<+:KJ f (m+d):=by
 rw[KJ,KJ,List.range_add,JE];exact zW _ _
set_option maxRecDepth 100000 in
set_option maxHeartbeats 4000000 in
def Jzr(l:Ac Nd)(v:Ap)(hl:l.length<=4000000)(X:Nat->Prop)(i j B:Nat)(W:AA)(D:0<=Bc l i)(hX:∀k,X k->k<W.heap.size)(y:¬X j)(U:¬X B)
  (w:W.cell? ⟨j,0,none⟩=some v) (aa:W.cell? ⟨B,0,none⟩=some (.int .i64 i)) (G:E8 (fun k=>¬X k/\k<W.heap.size) W v l):
  Cr prog 276 #[.pointer (some ⟨B,0,none⟩),.pointer (some ⟨j,0,none⟩)] (fun x:Int=> #[Value.int .i64 x]) (fun x _=>x∈AZ l i) (GI X W.heap.size) (AZ l i).length (E1 (AZ l i)) W:=by
 intro lp J I hY T;refine callsIn_of_wp func276 rfl trivial ?_ rfl;simp only[ntmps276,SX,Ej,Hf,Nat.reduceAdd,Nat.reduceSub,Zf,Zg,Zh,Zi,JO,Jd];have C:i<l.length:=by simpa using(F6 l i D).2
 have r:=gU l i D;have u:=Lib.hid (jG l i D);rcases G.open with⟨rfl,_⟩|⟨b,o,cap,rfl,M,H,S,g⟩
 ·simp at C
 ·obtain⟨O,P⟩:=g i C;have Z:=oC l[i];have n:=Lib.hid (XN l i C);rw[n.out]at r
  gi_wp2_with (gi_at_call 163;refine(callsIn_wide.2 (yV l[i] _)).mono ?_;rintro e w1 ⟨rfl,L⟩)
  gi_loopw [4,12] (fun k c wr=>∃m:Nat,(m:Int)<=ar l[i]/\c= .int .i64 m/\k= .int .i64 (Fz l (i+1) m)/\J (KJ (Fz l (i+1)) m) true wr/\GI X W.heap.size W wr) (fun _ c _=>(ar l[i]-intOf c).toNat)
  case atStart=>
   exact⟨0,r,rfl,rfl,fF (I true) T L,TP L⟩
  case round=>
   obtain⟨m,hm,rfl,rfl,q,z⟩:=hrel;by_cases Q:(m:Int)<ar l[i]
   ·obtain⟨fn,tmps,assign,body,hy,Y⟩:=hY _ (Fz l (i+1) m) wr q (by rw[u.out];exact GN.2 ⟨m,oZ.2 (by rw[n.out];omega),rfl⟩) (by rw[mV,u.out,mV,n.out];omega)
    gi_wp2
    refine Y.mono ?_;rintro e N ⟨R,rfl,s,F⟩;cases R with
    |true=>
     have a:=z.trans F;have K:N.cell? ⟨j,0,none⟩=some (.slice (some ⟨b,o,none⟩) l.length cap):=a.cell (p:=⟨j,0,none⟩) y w;have E:Ip N (.slice (some ⟨b,o,none⟩) l.length cap) l:=E8.mono (Gp.keptBut G a) (fun _ h=>h.2)
     gi_wp2_with (gi_at_call 164;refine(callsIn_wide.2 (LY l _ _ _ E hl)).mono ?_;rintro e w4 ⟨rfl,t⟩)
     go_roundw
     case rel=>exact⟨m+1,by omega,by go_num,rfl,by rw[Dd];exact fF (I true) s t,a.trans (TP t)⟩
     case measure=>simp[intOf];omega
    |false=>
     gi_wp2
     refine bodyPost_ret (results_none rfl _ _ _) rfl ?_;refine⟨⟨_,rfl⟩,_,false,?_,s⟩;rw[E1,Am (by decide),u.out,n.out,<-Dd];obtain⟨d,V⟩:∃d,(ar l[i]).toNat=(m+1)+d:=⟨(ar l[i]).toNat-(m+1),by omega⟩;rw[V];exact Jyi _ _ _
   ·gi_wp2
    go_end0;refine⟨⟨_,rfl⟩,_,.inr ⟨?_,q⟩⟩;rw[E1,Aw rfl,u.out,n.out,show(ar l[i]).toNat=m from by omega]
end
end Go.Proofs.YtapdelkomkpgmaaGreatDoor
