import Derived.Laws.BytesString
import Derived.Lib.AppendStr
import Derived.Laws.MakeOwn
import Derived.Laws.IdiomStrings
import Derived.Test.YtapdelkomkpgmaaGreatDoorQb
namespace Go.Proofs.YtapdelkomkpgmaaGreatDoor
open Go.RowKit
set_option maxRecDepth 100000
set_option linter.all false
section
variable {P : Aj} {B : Nat} {S : Nat → Prop} {L : Ac (Nat × Nat)} {w : AA} {H : Ae}
def CD{d:D}{s:Tc}{v:Ap}(h:UE d=some s)(a:Rep S L w v d):v= .string s:=by
 unfold UE at h;split at h
 ·simp only[Rep]at a;cases h;exact a
 ·cases h
def Jx3{t:AQ}{x d:D}{v:Ap}{c g:Af D}{b e:Af Ap}(ht:P.underlying t=some .string)(h:Rt x c g=some d)(j:Rep S L w v x)
  (i:TY S L w b c) (a:TY S L w e g):∃r,(Instr.sliceAt t v b e none).run P w= .ok r w/\Rep S L w r d:=by
 unfold Rt at h;obtain⟨s,hs,h⟩:=Bi.1 h;have:=CD hs j;subst this;split at h
 ·rename_i l k o m;split at h
  ·rename_i f;cases h;have p:=bP (P:=P) (w:=w) (fl:=false) (n:=s.size) (cap:=s.size) o m f.1 f.2 i a;exact⟨.string (s.extract l k),by simp[Instr.sliceAt,Instr.slice,run_underlying ht,p],by simp only[Rep]⟩
  ·cases h
 ·cases h
def Jyq{t:AQ}{x i d:D}{v u:Ap}(ht:P.underlying t=some .string)(h:dW x i=some d)(f:Rep S L w v x)(c:Rep S L w u i):∃r,(Instr.index t v u).run P w= .ok r w/\Rep S L w r d:=by
 unfold dW at h;obtain⟨s,hs,h⟩:=Bi.1 h;obtain⟨n,e,h⟩:=Bi.1 h;have:=CD hs f;subst this;obtain⟨k,rfl⟩:=aX e c;cases a:s[n]? with
 |none=>rw[a]at h;cases h
 |some b=>
  rw[a]at h;simp only[Dt,CE]at h;subst h;exact⟨.int .u8 b.toNat,by simp[Instr.index,asIntOf,run_underlying ht,a],by simp only[Rep]⟩
def Jof(a:Ac Int):∀(s:Tc),a.foldl (fun r n=>r.push (UInt8.ofNat n.toNat)) s=⟨s.data++(a.map fun n=>UInt8.ofNat n.toNat).toArray⟩:=by
 induction a with
 |nil=>intro s;simp
 |cons n r b=>
  simp_all
def JpU{cs:Ac D}{bs:Ac UInt8}{vs:Ac Ap}(h:cs.mapM Zp=some bs)(f:Au S L w vs cs):∃a:Ac Int,vs=a.map (Value.int .u8)/\bs=a.map fun n=>UInt8.ofNat n.toNat:=by
 induction cs generalizing bs vs with
 |nil=>simp only[Au]at f;simp_all
 |cons d r l=>
  simp only[Au]at f;obtain⟨x,o,rfl,g,k⟩:=f;rw[FZ]at h;obtain⟨b,c,h⟩:=Bi.1 h;obtain⟨m,e,h⟩:=Bi.1 h;cases h;obtain⟨a,j,i⟩:=l e k;unfold Zp at c;split at c
  ·rename_i n;cases c;simp only[Rep]at g;exact⟨n::a,by rw[g,j];rfl,by rw[i];rfl⟩
  ·cases c
def JlK{s t e:AQ}{x d:D}{v:Ap}(hs:P.underlying s=some (.slice e))(n:P.underlying e=some (.int .u8))(ht:P.underlying t=some .string)(h:MH H x=some d)(j:Rep S L w v x)(l:BD B S L w H):
  ∃r,(convert s t v).run P w= .ok r w/\Rep S L w r d:=by
 unfold MH at h;obtain⟨cs,c,h⟩:=Bi.1 h;cases f:cs.mapM Zp with
 |none=>rw[f]at h;cases h
 |some bs=>
  rw[f]at h;simp only[Dt,CE]at h;subst h;obtain⟨p,m,cap,vs,rfl,q,i,k⟩:=PF c j l;obtain⟨b,rfl,rfl⟩:=JpU f i;refine⟨_,?_,by simp only[Rep];rfl⟩;rw[run_convert_bytes_string w s t e p m cap hs n ht];rcases k with⟨rfl,rfl,rfl⟩|⟨a,rfl,o⟩
  ·have:b=[]:=by simp_all
   subst this;rfl
  ·have g:=run_loadCells_list (P:=P) w a (b.map (Value.int .u8)) o;rw[show(b.map (Value.int .u8)).length=m from by rw[i.length];omega]at g;rw[run_bytesToString w a m cap b g,Jof];simp
def Je0{t:AQ}{d:D}(h:UN P t=some d):∃z,(zeroValue t).run P w= .ok z w/\Rep S L w z d:=by
 unfold UN at h;split at h
 ·rename_i i e;cases b:i.zero with
  |none=>rw[b]at h;cases h
  |some z=>
   rw[b]at h;simp only[Dt,CE]at h;subst h;refine⟨z,by simp[zeroValue,typeInfo,e,b],?_⟩;split
   ·rename_i cs;simp only[Rep];refine⟨cs.toList,by simp,?_⟩;generalize cs.toList=l
    induction l with
    |nil=>exact Au.nil
    |cons a r c=>exact Au.cons (by simp only[Rep]) c
   ·simp only[Rep]
 ·cases h
def Ji2{k:IntKind}(f:Ac MapEntry)(b:Ac Int)(vs:Ac D)(d:f.map (·.key)=b.map (Value.int .i64))(g:Au S L w (f.map (·.val)) vs)(n:Int)(v:D)(i:Nat):
  (Vo b vs n=none/\Instr.findNow (.int k) (.int .i64 n) f i=some none/\Tu b vs n v=(b++[n],vs++[v]))\/
  ∃j u e,Vo b vs n=some u/\f[j]? =some e/\e.key= .int .i64 n/\Instr.findNow (.int k) (.int .i64 n) f i=some (some (i+j,e.val))/\Rep S L w e.val u/\Tu b vs n v=(b,vs.set j v):=by
 induction f generalizing b vs i with
 |nil=>
  cases b with
  |cons a r=>simp at d
  |nil=>
   have:=g.length;cases vs with
   |cons a r=>simp at this
   |nil=>exact .inl ⟨rfl,rfl,rfl⟩
 |cons e r s=>
  cases b with
  |nil=>simp at d
  |cons a b=>
   simp only[EP,Q3]at d;cases vs with
   |nil=>have:=g.length;simp at this
   |cons u vs=>
    simp only[EP,Au]at g;obtain⟨x,C,m,t,y⟩:=g;simp only[Q3]at m;obtain⟨rfl,rfl⟩:=m;have hs:Instr.sameNow (.int k) (.int .i64 n) e.key=some (n==a):=by rw[d.1];simp[Instr.sameNow]
    by_cases c:n=a
    ·subst c;refine .inr ⟨0,u,e,by simp[Vo],rfl,d.1,?_,t,by simp[Tu]⟩;unfold Instr.findNow;rw[hs];simp
    ·have E:(n==a)=false:=by simpa using c
     rcases s b vs d.2 y (i+1)with⟨h,o,l⟩|⟨j,p,z,h,o,l,B,q,A⟩
     ·refine .inl ⟨by simp[Vo,c,h],?_,by simp[Tu,c,l]⟩;unfold Instr.findNow
      grind
     ·refine .inr ⟨j+1,p,z,by simp[Vo,c,h],by simpa using o,l,?_,q,by simp[Tu,c,A]⟩;unfold Instr.findNow
      grind
def Jia{t e:AQ}(h:XJ P t=some e):∃k a,P.underlying t=some (.map k e)/\P.underlying k=some (.int a):=by
 unfold XJ at h
 grind
def Jgc{d:D}{n:Int}{v:Ap}(h:dK d=some n)(a:Rep S L w v d):v= .int .i64 n:=by
 unfold dK at h;split at h
 ·simp only[Rep]at a;cases h;exact a
 ·cases h
def E7{b:AQ}{d:TypeDesc}{k:Ap}{l:Ac MapEntry}{a:Af (Nat×Ap)}(c:P.underlying b=some d)(h:Instr.findNow d k l 0=some a):(Instr.findKey b k l).run P w= .ok a w:=by
 simp[Instr.findKey,run_underlying c,h]
def JhU{a:AQ}{d:IntKind}(c:P.underlying a=some (.int d))(b:Bool)(n:Nat)(v:Ap):(Instr.checkKey b (n+1) a v).run P w= .ok () w:=by
 simp[Instr.checkKey,run_underlying c]
def Jos{m:D}{v:Ap}{g:Ac Int}{vs:Ac D}(h:Ye H m=some (g,vs))(d:Rep S L w v m)(l:BD B S L w H):
  (v= .map none/\g=[]/\vs=[])\/∃b arr a,v= .map (some b)/\w.heap[b]? =some (.map arr a)/\arr.toList.map (·.key)=g.map (Value.int .i64)/\Au S L w (arr.toList.map (·.val)) vs:=by
 unfold Ye at h;split at h
 ·rename_i id;split at h
  ·rename_i o n hid;cases h;simp only[Rep]at d;obtain⟨b,c,p,rfl⟩:=d;obtain⟨t,r,i,q,j,f⟩:=l.obj id _ hid (by intro e;cases e);rw[p]at i;cases i;obtain⟨arr,a,k,s,u⟩:=f
   grind
  ·cases h
 ·cases h
  simp only[Rep]at d;obtain⟨b,arr,a,rfl,q,j,f,k⟩:=d;exact .inr ⟨b,arr,a,rfl,j,f,k.lift⟩
 ·cases h
  simp only[Rep]at d
  grind
 ·cases h
def JvF{t e:AQ}{zero m k d:D}{ok:Bool}{u v:Ap}(ht:XJ P t=some e)(W:UN P e=some zero)(h:O8 zero ok H m k=some d)(hu:Rep S L w u m)(N:Rep S L w v k)(Q:BD B S L w H):
  ∃r,(Instr.lookup t u v ok).run P w= .ok r w/\Rep S L w r d:=by
 obtain⟨E,M,o,A⟩:=Jia ht;obtain⟨z,G,K⟩:=Je0 (S:=S) (L:=L) (w:=w) W;unfold O8 at h;obtain⟨⟨I,vs⟩,V,h⟩:=Bi.1 h;obtain⟨n,Y,h⟩:=Bi.1 h;simp only at h;have q:=Jgc Y N;subst q;have DK:∀(arr:CX MapEntry),arr.toList.map (·.key)=I.map (Value.int .i64)->Au S L w (arr.toList.map (·.val)) vs->
   ((Instr.findKey E (.int .i64 n) arr.toList).run P w= .ok none w/\d=(if ok then .tup [zero,.v (.bool false)]else zero))\/
   ∃i x c,(Instr.findKey E (.int .i64 n) arr.toList).run P w= .ok (some (i,x)) w/\Rep S L w x c/\d=(if ok then .tup [c,.v (.bool true)]else c):=by
  intro arr T U;rcases Ji2 (k:=M) arr.toList I vs T U n .undef 0 with⟨s,F,_⟩|⟨j,c,e',s,F,q3,X,O,_⟩
  ·rw[s]at h;exact .inl ⟨E7 A F,(Option.some.inj h).symm⟩
  ·rw[s]at h;exact .inr ⟨_,_,c,E7 A X,O,(Option.some.inj h).symm⟩
 have a:∀(x:Ap) (l:D) (b:Bool),Rep S L w x l->Rep S L w (if ok then .tuple #[x,.bool b]else x) (if ok then .tup [l,.v (.bool b)]else l):=by
  intro x l b C;cases ok
  ·exact C
  ·simp only[Bv,Rep];exact⟨[x,.bool b],rfl,Au.cons C (Au.cons (by simp only[Rep]) Au.nil)⟩
 have g:=fun b=>JhU (P:=P) (w:=w) A b 9999 (.int .i64 n);rcases Jos V hu Q with⟨rfl,rfl,rfl⟩|⟨b,arr,p,rfl,g1,Z,R⟩
 ·rcases DK #[] rfl Au.nil with⟨f,rfl⟩|⟨i,x,c,f,y,rfl⟩
  ·exact⟨_,by simp[Instr.lookup,run_underlying o,g,f,G],a z zero false K⟩
  ·exact⟨_,by simp[Instr.lookup,run_underlying o,g,f],a x c true y⟩
 ·have J:(getObj b).run P w= .ok (.map arr p) w:=by simp[getObj,Sem.run,g1]
  rcases DK arr Z R with⟨f,rfl⟩|⟨i,x,c,f,y,rfl⟩
  ·exact⟨_,by simp[Instr.lookup,run_underlying o,J,g,f,G],a z zero false K⟩
  ·exact⟨_,by simp[Instr.lookup,run_underlying o,J,g,f],a x c true y⟩
def JaB{t e:AQ}{m k x d:D}{u v y:Ap}{H':Ae}(ht:XJ P t=some e)(h:N9 m k x H=some (d,H'))(Q:Rep S L w u m)(hv:Rep S L w v k)(U:Rep S L w y x)(V:BD B S L w H):
  d= .v undef/\∃l,(Instr.mapUpdate t u v y).run P w= .ok () l/\BD B S L l H'/\Later B S S L L w l:=by
 obtain⟨kt,ik,Z,R⟩:=Jia ht;unfold N9 at h;split at h
 ·rename_i id n hn;split at h
  ·rename_i O vs hid;simp only[CE,Hu]at h;obtain⟨rfl,rfl⟩:=h;have I:=Jgc hn hv;subst I;have aa:=Q;simp only[Rep]at Q;obtain⟨b,c,X,rfl⟩:=Q;obtain⟨b',c',Y,k2,k3,k4⟩:=V.obj id _ hid (by intro e;cases e);rw[X]at Y;cases Y;obtain⟨arr,g,T,N,K⟩:=k4;have hg:(getObj b).run P w= .ok (.map arr g) w:=by simp[getObj,Sem.run,T]
   have q:∀o,(setObj b o).run P w= .ok () {w with heap:=w.heap.setIfInBounds b o}:=fun o=>by simp[setObj,Sem.run,T]
   have W:=JhU (P:=P) (w:=w) R false 9999 (.int .i64 n);have F:b<w.heap.size:=(IY.1 T).1;have wr:∀(a:CX MapEntry) (f:Nat) (p:Ac Int×Ac D),a.toList.map (·.key)=p.1.map (Value.int .i64)->(∀l,(∀x d,Rep S L w x d->Rep S L l x d)->(∀xs ds,Au S L w xs ds->Au S L l xs ds)->Au S L l (a.toList.map (·.val)) p.2)->
     BD B S L {w with heap:=w.heap.setIfInBounds b (.map a f)} (H.set id (.map p.1 p.2))/\Later B S S L L w {w with heap:=w.heap.setIfInBounds b (.map a f)}:=by
    intro a f p p1 p2;refine V.writeO hid (by intro e;cases e) X _ (.map p.1 p.2) (by intro e;cases e) rfl rfl rfl (by simp) (fun k hk=>by grind) fun J s=> ?_;exact⟨a,f,by simp[F],p1,p2 _ J s⟩
   refine⟨rfl,?_⟩;rcases Ji2 (k:=ik) arr.toList O vs N K n x 0 with⟨J,s,A⟩|⟨j,u',e',J,s,A,q4,q5,q6⟩
   ·have C:=E7 (P:=P) (w:=w) R s;have:=wr (arr.push {key:= .int .i64 n,val:=y,born:=g}) (g+1) (Tu O vs n x) (by rw[A];simp[N]) (fun l M E=>by
     rw[A];simp only[Array.toList_push,JE,EP,J7];exact(E _ _ K).append (Au.cons (M _ _ U) Au.nil))
    refine⟨_,?_,this.1,this.2⟩;simp[Instr.mapUpdate,run_underlying Z,hg,W,C,q]
   ·have C:=E7 (P:=P) (w:=w) R q4;have z:arr[j]? =some e':=by simpa using s
    have G:(Instr.keyThatStays (.int .i64 n) (.int .i64 n)).run P w= .ok (.int .i64 n) w:=by simp[Instr.keyThatStays,Instr.sameBits]
    have hj:j<arr.size:=(IY.1 z).1;have r:(arr.modify j fun e=>{e with key:= .int .i64 n,val:=y}).toList=arr.toList.set j {e' with key:= .int .i64 n,val:=y}:=by
     apply PU;intro i;rw[Zc,Array.getElem?_modify];by_cases hi:j=i
     ·grind
     ·grind
    have:=wr (arr.modify j fun e=>{e with key:= .int .i64 n,val:=y}) g (Tu O vs n x) (by
     rw[q6,r,zY,<-N];apply PU
     grind) (fun l M E=>by
     rw[q6,r,zY];exact(E _ _ K).set j (M _ _ U))
    refine⟨_,?_,this.1,this.2⟩;rw[EE]at C;simp[Instr.mapUpdate,run_underlying Z,hg,W,C,q,z,A,G]
  ·cases h
 ·cases h
def JrA{d:D}{H':Ae}(t:AQ)(h:bT H=some (d,H'))(c:BD B S L w H):
  ∃r a b,(Instr.makeMap t none).run P w= .ok r a/\Rep S b a r d/\BD B S b a H'/\Later B S S L b w a:=by
 unfold bT at h;simp only[CE,Hu]at h;obtain⟨rfl,rfl⟩:=h;have:=c.newO w rfl (Below.refl _ _) (.map #[] 0) 0 (.map [] []) fun a b _ _ e=>⟨#[],0,e,rfl,Au.nil⟩;refine⟨.map (some w.heap.size),_,_,by simp[Instr.makeMap],?_,this.1,this.2⟩;simp only[Rep];exact⟨w.heap.size,0,by rw[<-c.len];simp,rfl⟩
def JrL{t:AQ}(h:wB P t=true):∃u,P.underlying t=some u/\∀ms,u≠ .interface ms:=by
 unfold wB at h;split at h
 ·cases h
 ·cases h
 ·rename_i c a;cases b:P.underlying t with
  |none=>exact absurd b a
  |some u=>simp_all
def Jwm{t u:AQ}{zero x d:D}{ok:Bool}{v:Ap}(n:wB P u=true)(m:UN P u=some zero)(h:Ph u zero ok x=some d)(c:Rep S L w v x):
  ∃r,(Instr.typeAssert v t u ok).run P w= .ok r w/\Rep S L w r d:=by
 obtain⟨z,k,o⟩:=Je0 (S:=S) (L:=L) (w:=w) m;obtain⟨g,j,f⟩:=JrL n;have a:ok=true->Rep S L w (.tuple #[z,.bool false]) (.tup [zero,.v (.bool false)]):=fun _=>by
  simp only[Rep];exact⟨[z,.bool false],rfl,Au.cons o (Au.cons (by simp only[Rep]) Au.nil)⟩
 unfold Ph at h;split at h
 ·rename_i p e;simp only[Rep]at c;obtain⟨y,rfl,l⟩:=c;split at h
  ·rename_i i;subst i;cases h;refine⟨if ok then .tuple #[y,.bool true]else y,?_,?_⟩
   ·cases g<;>first|(exact absurd rfl (f _))|simp[Instr.typeAssert,run_underlying j]
   ·cases ok
    ·exact l
    ·simp only[Bv,Rep];exact⟨[y,.bool true],rfl,Au.cons l (Au.cons (by simp only[Rep]) Au.nil)⟩
  ·rename_i i;split at h
   ·rename_i b;subst b;cases h;refine⟨_,?_,a rfl⟩;cases g<;>first|(exact absurd rfl (f _))|simp[Instr.typeAssert,run_underlying j,i,k]
   ·cases h
 ·split at h
  ·rename_i b;subst b;cases h;simp only[Rep]at c;subst c;refine⟨_,?_,a rfl⟩;cases g<;>first|(exact absurd rfl (f _))|simp[Instr.typeAssert,run_underlying j,k]
  ·cases h
 ·cases h
end
section
open Go.RowKit Go.Lib
section
variable {P : Aj} {B : Nat} {S : Nat → Prop} {L : Ac (Nat × Nat)} {w : AA} {H : Ae}
def Je9(i:BD B S L w H){id:Nat}{t:AQ}{sz:Nat}{cs:Ac D}(hid:H[id]? =some (HO.cells t sz cs)){b c:Nat}(k:L[id]? =some (b,c))(off:Nat){f:Ac Ap}{ds:Ac D}(a:Au S L w f ds)(n:ds.all Df=true)(s:off+ds.length<=cs.length):
  ∃h,(storeCells ⟨b,off,none⟩ f).run P w= .ok () h/\BD B S L h (H.set id (.cells t sz (cs.take off++ds++cs.drop (off+ds.length))))/\Later B S S L L w h:=by
 obtain⟨arr,r,G,O,Q,F⟩:=SE i hid k;have u:=a.length;have e:=NX a n;have l:∀(j:Nat) (d:D),cs[j]? =some d->∃x,arr[j]? =some x/\x.oneCell'=true/\Rep S L w x d:=by
  obtain⟨M,E,q,p,z,J,o,K,C,I,y⟩:=i.live id _ _ cs hid;rw[k]at p;cases p;rw[r]at o;cases o;exact y
 have m:=run_storeCells_at P b off t f 0 arr w r (by omega) e;simp only[MZ]at m;have A:=i.write hid k (arr.toList.take off++f++arr.toList.drop (off+f.length)).toArray (cs.take off++ds++cs.drop (off+ds.length)) (by grind) (by grind) (by
  intro j d g;by_cases v:j<off
  ·rw[FV,Ii (by simp;omega),Xw v]at g
   grind
  ·by_cases R:j<off+ds.length
   ·rw[FV,SV (by simp;omega),Ii (by simp;omega)]at g;obtain⟨x,N,T⟩:=a.get _ d g
    grind
   grind)
 grind
def Jg9{x:D}{id off n:Nat}{v:Ap}(h:WQ x=some (id,off,n))(a:Rep S L w v x):∃b c o cap,L[id]? =some (b,c)/\v= .slice (some ⟨b,o,none⟩) n cap/\n<=cap/\(0<n->o=off):=by
 unfold WQ at h;split at h
 ·cases h
  simp only[Rep]at a
  grind
 ·cases h
  simp only[Rep]at a;exact a
 ·cases h
def QaU{sz m cap:Nat}{p:Af Addr}{vs:Ac Ap}(b:vs.length=m*sz)(hp:(p=none/\m=0/\cap=0)\/∃a,p=some a/\∀(j:Nat) (v:Ap),vs[j]? =some v->w.cell? (a.add j)=some v)(k:Nat)(d:k<=m):
  (Builtin.firstCells sz k (.slice p m cap)).run P w= .ok (vs.take (k*sz)).toArray w:=by
 have c:k*sz<=vs.length:=by rw[b];exact zX _ d
 rcases hp with⟨rfl,rfl,rfl⟩|⟨a,rfl,f⟩
 ·have:vs=[]:=pS (by simpa using b);subst this;simp[Builtin.firstCells]
 ·have:=run_loadCells_list (P:=P) w a (vs.take (k*sz)) (fun j v e=>by grind);rw[show(vs.take (k*sz)).length=k*sz from by grind]at this;simp[Builtin.firstCells,this]
def Qd1{t e:AQ}{sz:Nat}{s x d:D}{v u:Ap}{H':Ae}(hi:WA P t=some (e,sz))(h:QD sz s x H=some (d,H'))(hs:Rep S L w v s)(W:Rep S L w u x)(I:BD B S L w H)(ts:CX AQ)(y:ts[0]? =some t)(ty:AQ):
  ∃r f,(Builtin.copy_ ts ty #[v,u]).run P w= .ok r f/\Rep S L f r d/\BD B S L f H'/\Later B S S L L w f:=by
 obtain⟨i,z,ht,a,hz,rfl,ac,aa⟩:=cA hi;unfold QD at h;obtain⟨⟨id,off,n⟩,G,h⟩:=Bi.1 h;simp only at h;split at h
 ·rename_i Q s' cs hid;obtain⟨new,g,h⟩:=Bi.1 h;split at h
  ·rename_i X;obtain⟨ab,R,l⟩:=X;obtain⟨p,m,cap,vs,rfl,J,j,hp⟩:=PF g W I;have q:new.length/i.size=m:=by simp_all
   rw[q]at h l;simp only[CE,Hu]at h;obtain⟨rfl,rfl⟩:=h;obtain⟨b,c,o,M,Y,rfl,V,U⟩:=Jg9 G hs;have K:vs.length=m*i.size:=by rw[j.length,J]
   have hf:=QaU (P:=P) K hp (min m n) (Nat.min_le_left _ _);have O:min m n*i.size<=n*i.size:=zX _ (Nat.min_le_right _ _);have F:min m n*i.size<=m*i.size:=zX _ (Nat.min_le_left _ _);have A:(new.take (min m n*i.size)).length=min m n*i.size:=by grind
   by_cases C:n=0
   ·subst C;have ad:(storeCells ⟨b,o,none⟩ ([]:Ac Ap)).run P w= .ok () w:=rfl;refine⟨.int .i64 0,w,?_,by simp only[Rep];simp,?_,Later.refl⟩
    ·simp[Builtin.copy_,y,run_underlying ht,Builtin.lenOf,sizeOf,typeInfo,a,goInt];simp_all
    ·simp only[Nat.min_zero,Nat.zero_mul,pF,Lj,MZ,Zd];have:H.set id (.cells Q s' cs)=H:=by
      apply PU;intro k;by_cases hk:id=k
      ·grind
      ·grind
     rw[this];exact I
   ·obtain rfl:=U (by omega);obtain⟨f,Z,N,T⟩:=Je9 (P:=P) I hid Y o (j.take (min m n*i.size)) l (by rw[A];omega);rw[A]at N;refine⟨.int .i64 (min m n:Nat),f,?_,by simp only[Rep],N,T⟩;simp[Builtin.copy_,y,run_underlying ht,Builtin.lenOf,sizeOf,typeInfo,a,goInt];have E:(Builtin.firstCells i.size (Nat.min m n) (.slice p m cap)).run P w= .ok (vs.take (min m n*i.size)).toArray w:=hf;simp[E,Z]
  ·cases h
 ·cases h
def Jbh{t e:AQ}{sz:Nat}{z:Ac D}(h:lY P t=some (e,sz,z)):∃i a,P.underlying t=some (.slice e)/\P.info? e=some i/\i.zero=some a/\i.size=sz/\a.cells.size=sz/\i.bytes<=1000/\z=a.cells.toList.map D.v:=by
 unfold lY at h;split at h
 ·rename_i c d;obtain⟨i,b,h⟩:=Bi.1 h
  grind
 ·cases h
def Jey(z:CX Ap)(n:Nat):((Array.range (n*z.size)).map (fun i=>z[i%z.size]!)).toList=(List.replicate n z.toList).flatten:=by
 simp only[Array.toList_map,Array.toList_range]
 induction n with
 |zero=>simp
 |succ n c=>
  rw[List.replicate_succ',Xx,<-c,zQ,List.range_add,JE];congr 1;simp only[IX,PT,Lj,List.map_map];apply List.ext_getElem
  ·simp
  ·intro i d b;have a:i<z.size:=by simpa using b
   simp[Nat.add_mod,qS a,a]
def Jd7{xs:Ac Ap}:Au S L w xs (xs.map D.v):=by
 induction xs with
 |nil=>exact Au.nil
 |cons x r a=>exact Au.cons (by simp only[Rep]) a
def Jgb(z:CX Ap)(n:Nat):Au S L w (List.replicate n z.toList).flatten (List.replicate n (z.toList.map D.v)).flatten:=by
 have:(List.replicate n (z.toList.map D.v)).flatten=((List.replicate n z.toList).flatten).map D.v:=by simp
 rw[this];exact Jd7
def Joj{t e:AQ}{sz:Nat}{z:Ac D}{x d:D}{v:Ap}{H':Ae}(V:lY P t=some (e,sz,z))(h:WO sz z x H=some (d,H'))(K:Rep S L w v x)(A:BD B S L w H)(ts:CX AQ)(m:ts[0]? =some t)(T:AQ):
  ∃r f,(Builtin.clear_ ts T #[v]).run P w= .ok r f/\Rep S L f r d/\BD B S L f H'/\Later B S S L L w f:=by
 obtain⟨i,a,ht,j,U,rfl,u,R,rfl⟩:=Jbh V;unfold WO at h;obtain⟨⟨id,off,n⟩,q,h⟩:=Bi.1 h;simp only at h;split at h
 ·rename_i E s' cs hid;split at h
  ·rename_i M;obtain⟨rfl,W,F,Q⟩:=M;simp only[CE,Hu]at h;obtain⟨rfl,rfl⟩:=h;obtain⟨b,c,o,y,N,rfl,J,I⟩:=Jg9 q K;by_cases p:n=0
   ·subst p;refine⟨.tuple #[],w,?_,by simp only[Rep];rfl,?_,Later.refl⟩
    ·simp[Builtin.clear_,m,run_underlying ht]
    ·simp only[List.replicate_zero,PT,Lj,Nat.zero_mul,MZ,Zd];have:H.set id (.cells E i.size cs)=H:=by
      apply PU;intro k;by_cases X:id=k
      ·grind
      ·grind
     rw[this];exact A
   ·obtain rfl:=I (by omega);have l:((List.replicate n (a.cells.toList.map D.v)).flatten).length=n*i.size:=by simp[u]
    have g:((List.replicate n (a.cells.toList.map D.v)).flatten).all Df=true:=by grind
    obtain⟨f,O,C,G⟩:=Je9 (P:=P) A hid N o (Jgb a.cells n) g (by rw[l];omega);rw[l]at C;refine⟨.tuple #[],f,?_,by simp only[Rep];rfl,C,G⟩;have s:(Builtin.zeroCells a.cells n).toList=(List.replicate n a.cells.toList).flatten:=Jey a.cells n;obtain⟨n',rfl⟩:∃k,n=k+1:=⟨n-1,by omega⟩;simp[Builtin.clear_,m,run_underlying ht,zeroValue,typeInfo,j,U,s,O]
  ·cases h
 ·cases h
def C3(g:BD B S L w H){t:AQ}{sz c:Nat}{cs:Ac D}{xs:Ac Ap}{id:Nat}{H':Ae}(h:Gg t sz cs H=some (id,H'))(f:Au S L w xs cs)(o:xs.length=c*sz)(m:c<=maxLen)(cells:CX Ap)(a:cells=xs.toArray):
  ∃b,b[id]? =some (w.heap.size,c)/\BD B S b (w.alloc (.cells cells t)) H'/\Later B S S L b w (w.alloc (.cells cells t)):=by
 subst a;unfold Gg at h;split at h
 ·rename_i e;cases h;have k:=g.new w rfl (Below.refl _ _) t sz c cs xs.toArray (by simpa using o) m (by simp[f.length]) (fun j d i=>by
   obtain⟨x,n,l⟩:=f.get j d i;exact⟨x,by simpa using n,Wt (Ew.1 e d (zZ i)) l,l⟩)
  exact⟨_,by rw[<-g.len];simp,k.1,k.2⟩
 ·cases h
def Qcr{t e:AQ}{sz:Nat}{z:Ac D}{n m d:D}{u v:Ap}{H':Ae}(I:lY P t=some (e,sz,z))(h:NV e sz z n m H=some (d,H'))(y:Rep S L w u n)(C:Rep S L w v m)(J:BD B S L w H):
  ∃r p o,(Instr.makeSlice t u v).run P w= .ok r p/\Rep S o p r d/\BD B S o p H'/\Later B S S L o w p:=by
 obtain⟨i,f,ht,k,F,rfl,x,Q,rfl⟩:=Jbh I;unfold NV at h;split at h
 ·rename_i N a E b;split at h
  ·rename_i M;obtain⟨rfl,A,s,_⟩:=M;cases q:Gg e i.size (List.replicate a.toNat (f.cells.toList.map D.v)).flatten H with
   |none=>rw[q]at h;cases h
   |some r=>
    rw[q]at h;obtain⟨id,T⟩:=r;simp only[Dt,CE,Hu]at h;obtain⟨rfl,rfl⟩:=h;simp only[Rep]at y C;subst y;subst C;have j:=run_make (P:=P) w t e i f ht k F N E a a A (Ab _) (by
     have G:(i.bytes:Int)<=1000:=by omega
     have U:(i.bytes:Int)*a<=1000*4000000:=Int.mul_le_mul G s A (by omega);omega) (by omega)
    have g:(madeCells f.cells (a.toNat*i.size)).toList=(List.replicate a.toNat f.cells.toList).flatten:=by
     rw[<-x];exact Jey f.cells a.toNat
    have l:Au S L w (madeCells f.cells (a.toNat*i.size)).toList (List.replicate a.toNat (f.cells.toList.map D.v)).flatten:=by rw[g];exact Jgb f.cells a.toNat
    obtain⟨o,R,O,K⟩:=C3 J q l (c:=a.toNat) (by simp_all) (by unfold maxLen;omega) (madeCells f.cells (a.toNat*i.size)) (by simp);refine⟨_,_,o,j,?_,O,K⟩;simp only[Rep]
    grind
  ·cases h
 ·cases h
def JkF(s:Tc):Au S L w (strCells s) (Rz s):=by
 have:Rz s=(strCells s).map D.v:=by simp[Rz,strCells]
 rw[this];exact Jd7
def JkN(s:Tc):(Rz s).all Df=true:=by
 rw[Ew];intro y a;obtain⟨b,_,rfl⟩:=GN.1 a;rfl
def Jxs(s:Tc):(Rz s).length=s.size:=by
 rw[Rz,Ju,eP];rfl
set_option maxHeartbeats 1000000 in
def JhI{t t2 e:AQ}{sz:Nat}{s x d:D}{v u:Ap}{H':Ae}(hi:WA P t=some (e,sz))(k:P.underlying t2=some .string)(h:UQ e sz s x H=some (d,H'))(hs:Rep S L w v s)(hx:Rep S L w u x)(C:BD B S L w H)(U:AQ)(ai:∀id n l R cs,s= .hs id n->H[id]? =some (.cells l R cs)->¬n*sz<cs.length):
  ∃r V L',(Builtin.append_ #[t,t2] U #[v,u]).run P w= .ok r V/\Rep S L' V r d/\BD B S L' V H'/\Later B S S L L' w V:=by
 obtain⟨i,z,ht,g,hz,rfl,O,K⟩:=cA hi;unfold UQ at h;split at h
 case h_2=>cases h
 rename_i str;split at h
 case isFalse=>cases h
 rename_i h1;simp only[Rep]at hx;subst hx;have ah:=Jxs str;have aa:=JkN str;have A:=JkF (S:=S) (L:=L) (w:=w) str;have Q:=strCells_length str;have ad:=strCells_oneCell str;unfold KW at h;split at h
 ·cases h
 ·rename_i hg;have q:(Rz str).length/i.size=str.size:=by grind
  split at h
  ·simp only[Rep]at hs;subst hs;split at h
   ·rename_i h0;cases h;have hm:str.size=0:=by omega
    refine⟨.slice none 0 0,w,L,?_,by simp only[Rep],C,Later.refl⟩;have hf:=run_firstCells_string (P:=P) w i.size str;rw[hm]at hf;simp[Builtin.append_,run_underlying ht,run_underlying k,sizeOf,typeInfo,g,Builtin.lenOf,hf,hm]
   ·rename_i h0;split at h
    ·rename_i W;cases h;have f:=run_append_nil_string (P:=P) w t t2 U e i z ht k g hz str (by omega) (by omega) (by
      have:str.size*i.bytes<=4000000*1000:=pZ (by omega) K;omega)
     have F:=grownCap_ge w str.size 0 e;have I:=grownCap_le_maxLen w str.size 0 e (by unfold maxLen;omega);have p:(str.data.map (fun b=>Value.int .u8 b.toNat):CX Ap)=(strCells str).toArray:=by
      apply Al;simp[strCells]
     rw[p]at f;have N:=C.new w.drew rfl ((Below.refl _ _).drew) e i.size (grownCap w str.size 0 e) (Rz str) ((strCells str).toArray++Builtin.zeroCells z.cells (grownCap w str.size 0 e-str.size)) (by
      simp only[L5,SX,size_zeroCells,O,Q,h1];omega) I (by simp[A.length]) (fun j d y=>by
      have:=Jgi (zs:=Builtin.zeroCells z.cells (grownCap w str.size 0 e-str.size)) (Au.nil (S:=S) (L:=L) (w:=w)) A (by simp) aa j d (by simpa using y);simpa using this)
     refine⟨_,_,_,f,?_,N.1,N.2⟩;simp only[Rep];refine⟨w.heap.size,grownCap w str.size 0 e,by rw[<-C.len];simp,by rw[q];exact F,by rw[q]⟩
    ·cases h
  ·rename_i id n;simp only[Rep]at hs;obtain⟨b,c,T,ag,rfl⟩:=hs;split at h
   ·rename_i l R cs hid;split at h
    ·rename_i hc;obtain⟨rfl,rfl,ab,W⟩:=hc;cases h;rw[q];obtain⟨arr,g1,g2,g3,g4,g5⟩:=SE C hid T;have Z:∀(j:Nat) (d:D),cs[j]? =some d->∃x,arr[j]? =some x/\x.oneCell'=true/\Rep S L w x d:=by
      obtain⟨b',c',af,k1,k2,k3,k4,k5,k6,k7,k8⟩:=C.live id _ _ cs hid;rw[T]at k1;cases k1;rw[g1]at k4;cases k4;exact k8
     have ae:cs.length=n:=by grind
     have aj:arr.size=c:=by grind
     by_cases m:n+str.size<=c
     ·have J:n+str.size<=arr.size:=by omega
      have f:=run_append_room_string (P:=P) w t t2 U l i ht k g h1 b n c arr g1 str m J;have hw:=C.write hid T (arr.toList.take n++strCells str++arr.toList.drop (n+str.size)).toArray (cs++Rz str) (by grind) (by grind) (by
       intro j d y;by_cases ak:j<cs.length
       ·grind
       ·rw[SV (by omega)]at y;obtain⟨x,ac,X⟩:=A.get _ d y
        grind)
      have G:=hw.1.move (id:=id) (o:= .cells l i.size (cs++Rz str)) (by grind) (by intro e;cases e) T;rw[Nb]at G;refine⟨_,_,_,f,?_,G.1,hw.2.trans G.2⟩;simp only[Rep];exact⟨b,c,by rw[<-C.len];simp,m,rfl⟩
     ·have holds:∀(j:Nat) (v:Ap),(arr.toList.take cs.length)[j]? =some v->w.cell? ((⟨b,0,none⟩:Addr).add j)=some v:=by
       intro j v y;rw[NG,EE,KZ g1];have Y:=(CV.1 y).1;rw[Xw (by simp at Y;omega)]at y;simpa using y
      have M:(arr.toList.take cs.length).length=n*i.size:=by rw[g5.length,ab]
      have E:n+str.size<=4000000:=by omega
      have f:=run_append_grow_string (P:=P) w t t2 U l i z ht k g hz ⟨b,0,none⟩ n c (arr.toList.take cs.length) M holds str (by omega) (by omega) (growslice_fits (by omega) (Ig (pZ E K) (by decide)));have F:=grownCap_ge w (n+str.size) c l;have I:=grownCap_le_maxLen w (n+str.size) c l (by unfold maxLen;omega);have N:=(C.kill id).new w.drew rfl ((Below.refl _ _).drew) l i.size (grownCap w (n+str.size) c l) (cs++Rz str) ((arr.toList.take cs.length).toArray++(strCells str).toArray++Builtin.zeroCells z.cells (grownCap w (n+str.size) c l-(n+str.size))) (by
       simp only[L5,SX,size_zeroCells,O,M,Q,h1,Ze];omega) I (by grind) (by
       intro j d y;obtain⟨x,ac,X⟩:=(g5.append A).get j d y
       grind)
      refine⟨_,_,_,f,?_,N.1,N.2⟩;simp only[Rep];exact⟨w.heap.size,grownCap w (n+str.size) c l,by rw[<-C.len];simp,F,rfl⟩
    grind
   ·cases h
  ·cases h
def Qff{t t2 e:AQ}{sz:Nat}{s x d:D}{v u:Ap}{H':Ae}(l:WA P t=some (e,sz))(b:P.underlying t2=some .string)(h:UQ e sz s x H=some (d,H'))(hs:Rep S L w v s)(m:Rep S L w u x)(o:BD B S L w H)(j:AQ):
  ∃r i k,(Builtin.append_ #[t,t2] j #[v,u]).run P w= .ok r i/\Rep S k i r d/\BD B S k i H'/\Later B S S L k w i:=by
 by_cases f:∃id n c a cs,s= .hs id n/\H[id]? =some (.cells c a cs)/\n*sz<cs.length
 ·obtain⟨id,n,c,a,cs,rfl,hid,p⟩:=f;have g:=(CV.1 hid).1;have z:(cs.take (n*sz)).length=n*sz:=by grind
  have q:UQ e sz (.hs id n) x (H.set id (.cells c a (cs.take (n*sz))))=some (d,H'):=by
   rw[<-h];unfold UQ;split
   ·split
    ·unfold KW;split
     ·rfl
     ·rename_i str _ _;simp only[hid,Hw g,z,Nb,Za]
      grind
    ·rfl
   ·rfl
  refine JhI l b q hs m (o.less hid _) j ?_
  grind
 ·exact JhI l b h hs m o j fun id n c a cs y C A=>f ⟨id,n,c,a,cs,y,C,A⟩
end
end
section
variable {P : Aj} {B : Nat} {S : Nat → Prop} {L : Ac (Nat × Nat)} {w : AA} {H : Ae}
def Jgx{t:AQ}{s:Af Nat}{x d:D}{u:Ap}(hs:L9 P t=some s)(h:Ai s H x=some d)(a:Rep S L w u x)(l:BD B S L w H):∃r,(Instr.loadAt t u).run P w= .ok r w/\Rep S L w r d:=by
 have lift:∀(b o:Nat) (cs:Ac D),Eg S L w b o cs->MW s cs 0=some d->∃r,(Instr.loadAt t (.pointer (some ⟨b,o,none⟩))).run P w= .ok r w/\Rep S L w r d:=fun b o cs e hp=>
  Jgz (P:=P) (t:=t) (show Uy P t cs 0=some d by unfold Uy;rw[hs];exact hp) e
 unfold Ai at h;split at h
 ·rename_i id off;split at h
  ·rename_i v sz cs hid;simp only[Rep]at a;obtain⟨b,c,n,rfl⟩:=a;obtain⟨arr,k,A,z,y,q⟩:=SE l hid n;refine lift b off _ ?_ h;have i:Eg S L w b 0 cs:=Eg.of q fun j x g=>by
    have f:=(CV.1 g).1;rw[EE,KZ k]
    grind
   have:=i.drop off
   grind
  ·cases h
 ·unfold JdU at h;obtain⟨cs,hp,h⟩:=Bi.1 h;unfold tY at hp;split at hp
  ·cases hp
   simp only[Rep]at a;obtain⟨b,o,rfl,C,e⟩:=a;obtain⟨r,m,p⟩:=Jgz (P:=P) (t:=t) (show Uy P t cs 0=some d by unfold Uy;rw[hs];exact h) e;exact⟨r,m,p.lift⟩
  ·cases hp
def Qc8{t:AQ}{i:TypeInfo}{x v:D}{u y:Ap}{H':Ae}(R:P.info? t=some i)(h:FI i.size x v H=some H')(E:Rep S L w u x)(K:Rep S L w y v)(l:BD B S L w H):
  ∃r,(Instr.storeAt t u y).run P w= .ok () r/\BD B S L r H'/\Later B S S L L w r:=by
 unfold FI at h;split at h
 ·rename_i id off ds g;split at h
  ·rename_i G sz cs hid;split at h
   ·rename_i N;obtain⟨hl,I,p⟩:=N;cases h;simp only[Rep]at E;obtain⟨b,c,n,rfl⟩:=E;obtain⟨m,k,a⟩:=Pa g K;obtain⟨arr,F,g2,Y,Z,U⟩:=SE l hid n;have J:=a.length;have e:=NX a p;have o:∀(j:Nat) (d:D),cs[j]? =some d->∃x,arr[j]? =some x/\x.oneCell'=true/\Rep S L w x d:=by
     obtain⟨b',c',C,A,k2,W,z,k5,T,V,M⟩:=l.live id _ _ cs hid;rw[n]at A;cases A;rw[F]at z;cases z;exact M
    have f:=run_storeCells_at P b off G m 0 arr w F (by omega) e;simp only[MZ]at f;have s:=l.write hid n (arr.toList.take off++m++arr.toList.drop (off+m.length)).toArray (cs.take off++ds++cs.drop (off+ds.length)) (by grind) (by grind) (by
     intro j d q;by_cases Q:j<off
     ·rw[FV,Ii (by simp;omega),Xw Q]at q
      grind
     ·by_cases h2:j<off+ds.length
      ·rw[FV,SV (by simp;omega),Ii (by simp;omega)]at q;obtain⟨x,X,q2⟩:=a.get _ d q
       grind
      grind)
    refine⟨_,?_,s.1,s.2⟩;have O:y.cells.size=i.size:=by grind
    simp[Instr.storeAt,Instr.sureAddr,storeVar,Np R,k,f];omega
   ·cases h
  ·cases h
 ·cases h
def Jl6{t:AQ}{sz:Nat}{x i d:D}{v u:Ap}(ht:PX P t=some sz)(h:BG sz x i=some d)(f:Rep S L w v x)(p:Rep S L w u i):∃r,(Instr.indexAt t v u).run P w= .ok r w/\Rep S L w r d:=by
 unfold BG at h;split at h
 ·rename_i id n;obtain⟨k,j,h⟩:=Bi.1 h;split at h
  ·rename_i a;cases h;obtain⟨e,s,g,q,m⟩:=bH ht;obtain⟨y,rfl⟩:=aX j p;simp only[Rep]at f;obtain⟨b,c,A,l,rfl⟩:=f;refine⟨.pointer (some ⟨b,0+k*sz,none⟩),?_,?_⟩
   ·simp[Instr.indexAt,asIntOf,run_underlying g,a,Np q,m,NG]
   ·simp only[Rep];grind
  ·cases h
 ·rename_i id off n;obtain⟨k,j,h⟩:=Bi.1 h;split at h
  ·rename_i a;cases h;obtain⟨e,s,g,q,m⟩:=bH ht;obtain⟨y,rfl⟩:=aX j p;simp only[Rep]at f;obtain⟨b,c,o,cap,A,rfl,l,z⟩:=f;obtain rfl:=z (by omega);refine⟨.pointer (some ⟨b,o+k*sz,none⟩),?_,?_⟩
   ·simp[Instr.indexAt,asIntOf,run_underlying g,a,Np q,m,NG]
   ·simp only[Rep];grind
  ·cases h
 ·exact Qdm ht h f p
def Jxh{t:AQ}{a:Nat×Nat}{x i d:D}{v u:Ap}(ht:jZ P t=some a)(h:Ec a.1 a.2 x i=some d)(j:Rep S L w v x)(o:Rep S L w u i):∃r,(Instr.indexAt t v u).run P w= .ok r w/\Rep S L w r d:=by
 unfold jZ at ht;split at ht
 ·rename_i n e l;obtain⟨g,p,rfl⟩:=DV.1 ht;unfold Ec at h;split at h
  ·rename_i id off;obtain⟨k,m,h⟩:=Bi.1 h;split at h
   ·rename_i f;cases h;obtain⟨q,rfl⟩:=aX m o;simp only[Rep]at j;obtain⟨b,c,s,rfl⟩:=j;refine⟨.pointer (some ⟨b,off+k*g.size,none⟩),?_,?_⟩
    ·simp only at f;simp[Instr.indexAt,asIntOf,run_underlying l,Instr.sureAddr,f,Np p,NG]
    ·simp only[Rep];grind
   ·cases h
  ·cases h
 ·cases ht
def JlD{t:AQ}{sz:Nat}{x d:D}{v:Ap}{C E:Af D}{F G:Af Ap}(ht:PX P t=some sz)(h:IJ sz x C E=some d)(f:Rep S L w v x)
  (A:TY S L w F C) (a:TY S L w G E):∃r,(Instr.sliceAt t v F G none).run P w= .ok r w/\Rep S L w r d:=by
 unfold IJ at h;split at h
 ·rename_i id n;split at h
  ·rename_i l k z y;split at h
   ·rename_i p;obtain⟨rfl,q⟩:=p;cases h;obtain⟨e,u,i,s,m⟩:=bH ht;simp only[Rep]at f;obtain⟨b,c,B,j,rfl⟩:=f;have:=bP (P:=P) (w:=w) (fl:=true) (n:=n) (cap:=c) z y (F9 _) (by omega) A a;refine⟨.slice (some ⟨b,0,none⟩) k c,?_,?_⟩
    ·have H:(if c=0 then(some ⟨b,0,none⟩:Af Addr)else some ⟨b,0,none⟩)=some ⟨b,0,none⟩:=by split<;>rfl
     simp[Instr.sliceAt,Instr.slice,run_underlying i,this,Np s,m,NG]
    ·simp only[Rep];grind
   ·split at h
    ·rename_i p;obtain⟨g,q⟩:=p;cases h;obtain⟨e,u,i,s,m⟩:=bH ht;simp only[Rep]at f;obtain⟨b,c,B,j,rfl⟩:=f;have:=bP (P:=P) (w:=w) (fl:=true) (n:=n) (cap:=c) z y g (by omega) A a;refine⟨.slice (some ⟨b,if c=l then 0 else 0+l*sz,none⟩) (k-l) (c-l),?_,?_⟩
     ·have H:(if c=l then(some ⟨b,0,none⟩:Af Addr)else some ⟨b,0+l*sz,none⟩)=some ⟨b,if c=l then 0 else 0+l*sz,none⟩:=by split<;>rfl
      simp[Instr.sliceAt,Instr.slice,run_underlying i,this,Np s,m,NG];split<;>rfl
     ·simp only[Rep]
      grind
    ·cases h
  ·cases h
 ·rename_i id off n;split at h
  ·rename_i l k z y;split at h
   ·rename_i p;obtain⟨g,q⟩:=p;cases h;obtain⟨e,u,i,s,m⟩:=bH ht;simp only[Rep]at f;obtain⟨b,c,o,cap,B,rfl,j,I⟩:=f;have:=bP (P:=P) (w:=w) (fl:=true) (n:=n) (cap:=cap) z y g (by omega) A a;refine⟨.slice (some ⟨b,if cap=l then o else o+l*sz,none⟩) (k-l) (cap-l),?_,?_⟩
    ·simp[Instr.sliceAt,Instr.slice,run_underlying i,this,Np s,m,NG];split<;>rfl
    ·simp only[Rep];refine⟨b,c,_,_,B,rfl,by omega,fun hp=> ?_⟩
     grind
   ·cases h
  ·cases h
 ·exact JnS ht h f A a
def JwA{t e:AQ}{n:Nat}{f:TypeInfo}{x d:D}{v:Ap}{j o:Af D}{p q:Af Ap}(ht:P.underlying t=some (.array n e))(a:P.info? e=some f)(h:VN n f.size x j o=some d)(m:Rep S L w v x)
  (y:TY S L w p j) (i:TY S L w q o):∃r,(Instr.sliceAt t v p q none).run P w= .ok r w/\Rep S L w r d:=by
 unfold VN at h;split at h
 ·rename_i id off;split at h
  ·rename_i l k u s;split at h
   ·rename_i z;obtain⟨g,A⟩:=z;cases h;simp only[Rep]at m;obtain⟨b,c,B,rfl⟩:=m;have:=bP (P:=P) (w:=w) (fl:=false) (n:=n) (cap:=n) u s g (by omega) y i;refine⟨.slice (some ⟨b,if n=l then off else off+l*f.size,none⟩) (k-l) (n-l),?_,?_⟩
    ·simp[Instr.sliceAt,run_underlying ht,Instr.sureAddr,this,Np a,NG];split<;>rfl
    ·simp only[Rep]
     grind
   ·cases h
  ·cases h
 ·cases h
def JyH{t e:AQ}{n:Nat}{l:TypeInfo}{s:Af Nat}{x i d:D}{v u:Ap}(ht:P.underlying t=some (.array n e))(f:P.info? e=some l)(hs:L9 P e=some s)(h:XC n l.size s x i=some d)(m:Rep S L w v x)(p:Rep S L w u i):∃r,(Instr.index t v u).run P w= .ok r w/\Rep S L w r d:=by
 unfold XC at h;obtain⟨cs,a,c⟩:=Bi.1 h;obtain⟨k,o,b⟩:=Bi.1 c;clear h c;split at b
 ·rename_i g;unfold LE at a;split at a
  ·cases a
   simp only[Rep]at m;obtain⟨xs,rfl,j⟩:=m;obtain⟨q,rfl⟩:=aX o p;obtain⟨r,c,b⟩:=JgA (P:=P) (t:=e) (off:=k*l.size) (d:=d) (by unfold Uy;rw[hs];exact b) j;refine⟨r,?_,b⟩;simp[Instr.index,asIntOf,run_underlying ht,g,Np f,c]
  ·cases a
 ·cases b
def Qdu{t e:AQ}{n:Nat}{k:TypeInfo}{x d:D}{v:Ap}(ht:P.underlying t=some (.array n e))(h:Xp n k.size x=some d)(f:Rep S L w v x):∃r,(Instr.arrayAt t v).run P w= .ok r w/\Rep S L w r d:=by
 unfold Xp at h;split at h
 ·rename_i s els;split at h
  ·rename_i i;obtain⟨rfl,a,hp⟩:=i;cases h;simp only[Rep]at f;rcases f with⟨rfl,_⟩|⟨b,o,cap,rfl,y,u,j,q⟩
   ·simp at a;omega
   ·refine⟨.pointer (some ⟨b,o,none⟩),?_,?_⟩
    ·simp[Instr.arrayAt,run_underlying ht,Nat.not_lt.2 a]
    ·simp only[Rep];exact⟨b,o,rfl,j,q.flat.1⟩
  ·cases h
 ·rename_i id m;split at h
  ·rename_i a;cases h;simp only[Rep]at f;obtain⟨b,c,p,g,rfl⟩:=f;refine⟨.pointer (some ⟨b,0,none⟩),?_,by simp only[Rep];grind⟩
   simp[Instr.arrayAt,run_underlying ht,Nat.not_lt.2 a]
  ·cases h
 ·rename_i id off m;split at h
  ·rename_i i;obtain⟨a,hp⟩:=i;cases h;simp only[Rep]at f;obtain⟨b,c,o,cap,p,rfl,g,l⟩:=f;obtain rfl:=l (by omega);refine⟨.pointer (some ⟨b,o,none⟩),?_,by simp only[Rep];grind⟩
   simp[Instr.arrayAt,run_underlying ht,Nat.not_lt.2 a]
  ·cases h
 ·cases h
def Qeh{t:AQ}{x d:D}{v:Ap}(h:Bq (Jt P t) x=some d)(a:Rep S L w v x)(ts:CX AQ)(ht:ts[0]? =some t)(j:AQ):∃r,(Builtin.len_ ts j #[v]).run P w= .ok r w/\Rep S L w r d:=by
 unfold Bq at h;split at h
 ·rename_i k id n f;obtain⟨e,i⟩:=kK f;cases h;simp only[Rep]at a;obtain⟨b,c,l,g,rfl⟩:=a;exact⟨_,by simp[Builtin.len_,ht,run_underlying i];rfl,by simp only[Rep];rfl⟩
 ·rename_i k id off n f;obtain⟨e,i⟩:=kK f;cases h;simp only[Rep]at a;obtain⟨b,c,o,cap,l,rfl,g,m⟩:=a;exact⟨_,by simp[Builtin.len_,ht,run_underlying i];rfl,by simp only[Rep];rfl⟩
 ·exact QeO h a ts ht j
def JkR{t u:AQ}{f off:Nat}{x d:D}{v:Ap}{j:TypeInfo}(g:Wv P t f=some (u,off))(l:P.info? u=some j)(i:¬j.size=0)(h:AP off x=some d)(k:Rep S L w v x):∃r,(Instr.fieldAt t v f).run P w= .ok r w/\Rep S L w r d:=by
 unfold Wv at g;split at g
 ·rename_i fs m;cases a:fs[f]? with
  |none=>grind
  |some fl=>
   rw[a]at g;simp only[Dt,CE,Hu]at g;obtain⟨rfl,rfl⟩:=g;unfold AP at h;split at h
   ·rename_i id o;cases h;simp only[Rep]at k;obtain⟨b,c,q,rfl⟩:=k;refine⟨.pointer (some ⟨b,o+fl.offset,none⟩),?_,?_⟩
    ·simp[Instr.fieldAt,run_underlying m,a,Instr.sureAddr,fieldPlace,Np l,i,NG]
    ·simp only[Rep];grind
   ·unfold Jdh at h;cases e:tY x with
    |none=>rw[e]at h;cases h
    |some cs=>
     rw[e]at h;simp only[Dt,CE]at h;subst h;unfold tY at e;split at e
     ·cases e
      simp only[Rep]at k;obtain⟨b,o,rfl,p,n⟩:=k;refine⟨.pointer (some ⟨b,o+fl.offset,none⟩),?_,?_⟩
      ·simp[Instr.fieldAt,run_underlying m,a,Instr.sureAddr,fieldPlace,Np l,i,NG]
      ·simp only[Rep];exact⟨b,_,rfl,p,n.drop _⟩
     ·cases e
 ·cases g
set_option maxHeartbeats 2000000 in
def JsP{P:Aj}{t:AQ}{name:String}{f:CG}(h:WI P t name=some f)(v:Ap)(w:AA)(n:Nat):(nilAhead (n+1) t v name).run P w= .ok (some false) w:=by
 unfold WI at h;split at h
 ·rename_i i u c e;split at h
  ·rename_i m d;split at h
   ·rename_i g b hp a;split at h
    ·rename_i j;cases h;cases b with
     |true=>simp[nilAhead,typeInfo,c,d,hp,followBlind,a]
     |false=>cases u<;>first|(simp[cQ]at j;done)|simp[nilAhead,typeInfo,c,d,hp,followBlind,a,run_underlying e]
    ·cases h
   ·cases h
  ·cases h
 ·cases h
def Jw0{o:Oper}{d:D}{H':Ae}{ρv:Operand->Ap}{ρd:Operand->D}(h:Cc P o.op ρd H=some (d,H'))(l:∀x,Rep S L w (ρv x) (ρd x))(G:BD B S L w H)(ah:IF P o.op=false):
  ∃x F I,((execOp ρv o).run P w= .ok (.value x) F\/((execOp ρv o).run P w= .ok .skip F/\x=undef))/\Rep S I F x d/\BD B S I F H'/\Later B S S L I w F:=by
 obtain⟨dst,op,type,al,after,guard⟩:=o;simp only at h;have g:∀{s:Sem Ap} {od:Af D},same H od=some (d,H')->(∀d,od=some d->∃r,s.run P w= .ok r w/\Rep S L w r d)->
   ∃x F I,((do pure (.value (<-s)):Sem Next).run P w= .ok (.value x) F\/((do pure (.value (<-s)):Sem Next).run P w= .ok .skip F/\x=undef))/\Rep S I F x d/\BD B S I F H'/\Later B S S L I w F:=by
  intro s od hs ac;unfold same at hs;cases od with
  |none=>cases hs
  |some d'=>
   simp only[Dt,CE,Hu]at hs;obtain⟨rfl,rfl⟩:=hs;obtain⟨r,q,p⟩:=ac d' rfl;exact⟨r,w,L,.inl (by simp[q]),p,G,Later.refl⟩
 unfold Cc at h;split at h
 ·rename_i x;cases h;exact⟨_,w,L,.inl rfl,l x,G,Later.refl⟩
 ·rename_i x;cases h;exact⟨_,w,L,.inl rfl,l x,G,Later.refl⟩
 ·rename_i c a b;unfold same GQ at h;cases N:YG (ρd c)with
  |none=>rw[N]at h;cases h
  |some t=>
   rw[N]at h;simp only[Dt,CE,Hu]at h;obtain⟨rfl,rfl⟩:=h;have Y:=JcD N (l c);refine⟨_,w,L,.inl (by simp[execOp,Y,asBool];rfl),?_,G,Later.refl⟩
   grind
 ·rename_i t a;obtain⟨s,hs,h⟩:=Bi.1 h;exact g h fun d j=>Jgx hs j (l a) G
 ·rename_i t x;unfold BA at h;obtain⟨cs,Y,h⟩:=Bi.1 h;cases K:Gg t cs.length cs H with
  |none=>rw[K]at h;cases h
  |some r=>
   rw[K]at h;obtain⟨id,H2⟩:=r;simp only[Dt,CE,Hu]at h;obtain⟨rfl,rfl⟩:=h;obtain⟨xs,q,p⟩:=Pa Y (l x);obtain⟨I,q1,q2,q3⟩:=C3 G K p (c:=1) (by rw[p.length];simp) (by decide) _ q;exact⟨.pointer (some ⟨w.heap.size,0,none⟩),_,I,.inl (by rfl),by simp only[Rep];grind,q2,q3⟩
 ·rename_i t;obtain⟨z,hz,h⟩:=Bi.1 h;unfold BX at h;cases K:Gg t z.length z H with
  |none=>rw[K]at h;cases h
  |some r=>
   rw[K]at h;obtain⟨id,H2⟩:=r;simp only[Dt,CE,Hu]at h;obtain⟨rfl,rfl⟩:=h;obtain⟨i,zv,z1,z2,z3,z4⟩:=CL (S:=S) (L:=L) (w:=w) hz;obtain⟨I,q1,q2,q3⟩:=C3 G K z4 (c:=1) (by rw[z4.length];simp) (by decide) zv.cells (by simp);exact⟨.pointer (some ⟨w.heap.size,0,none⟩),_,I,.inl (by simp[execOp,Instr.alloc,zeroValue,typeInfo,z1,z2,newVar,newRow]),by simp only[Rep];grind,q2,q3⟩
 ·rename_i t a x;obtain⟨i,J,h⟩:=Bi.1 h;unfold Bh at h;cases hs:FI i.size (ρd a) (ρd x) H with
  |none=>rw[hs]at h;cases h
  |some H2=>
   rw[hs]at h;simp only[Dt,CE,Hu]at h;obtain⟨rfl,rfl⟩:=h;obtain⟨F,q,p,E⟩:=Qc8 J hs (l a) (l x) G;exact⟨undef,F,L,.inr ⟨by simp[execOp,q],rfl⟩,by simp only[Rep],p,E⟩
 ·rename_i t x f;obtain⟨⟨u,off⟩,T,h⟩:=Bi.1 h;obtain⟨sh,ae,h⟩:=Bi.1 h;simp only at ae h;refine g h fun d j=> ?_;unfold Vb at j;obtain⟨cs,C,j⟩:=Bi.1 j;have X:=l x;unfold LE at C;split at C
  ·rename_i cs' ak;cases C;rw[ak]at X;simp only[Rep]at X;obtain⟨xs,q,p⟩:=X;unfold Wv at T;split at T
   ·rename_i fs hu;cases ad:fs[f]? with
    |none=>grind
    |some fl=>
     rw[ad]at T;simp only[Dt,CE,Hu]at T;obtain⟨rfl,rfl⟩:=T;obtain⟨r,E,M⟩:=JgA (P:=P) (t:=fl.type) (show Uy P fl.type cs fl.offset=some d by unfold Uy;rw[ae];exact j) p;refine⟨r,?_,M⟩;simp[Instr.field,run_underlying hu,ad,q,asAgg,E]
   ·cases T
  ·cases C
 ·rename_i t x f;obtain⟨⟨u,off⟩,T,h⟩:=Bi.1 h;obtain⟨an,J,h⟩:=Bi.1 h;simp only at J h;split at h
  ·cases h
  ·rename_i aj;exact g h fun d j=>JkR T J aj j (l x)
 ·rename_i t x i;split at h
  ·rename_i a R;exact g h fun d j=>Jxh R j (l x) (l i)
  ·obtain⟨sz,hs,h⟩:=Bi.1 h;exact g h fun d j=>Jl6 hs j (l x) (l i)
 ·rename_i t x lo J;split at h
  ·rename_i ht;exact g h fun d j=>Jx3 ht j (l x) (gW l lo) (gW l J)
  ·rename_i n e ht;obtain⟨ie,V,h⟩:=Bi.1 h;exact g h fun d j=>JwA ht V j (l x) (gW l lo) (gW l J)
  ·obtain⟨sz,hs,h⟩:=Bi.1 h;exact g h fun d j=>JlD hs j (l x) (gW l lo) (gW l J)
 ·rename_i t ps;exact g h fun d j=>Jtb l ps j
 ·rename_i t n ps;obtain⟨⟨e,sz,z⟩,J,h⟩:=Bi.1 h;simp only[DI]at h;obtain⟨dr,aa,h⟩:=Bi.1 h;obtain⟨els,O,h⟩:=Bi.1 h;cases K:Gg e sz els.flatten H with
  |none=>rw[K]at h;cases h
  |some r=>
   rw[K]at h;obtain⟨id,H2⟩:=r;simp only[Dt,CE,Hu]at h;obtain⟨rfl,rfl⟩:=h;obtain⟨ys,q,p,E,M,h5⟩:=JdS l n ps J aa O;obtain⟨I,q1,q2,q3⟩:=C3 G K p (c:=n) (by rw[p.length,E]) (by unfold maxLen;omega) _ rfl;exact⟨.slice (some ⟨w.heap.size,0,none⟩) n n,_,I,.inl (by simp[execOp,q]),by simp only[Rep];grind,q2,q3⟩
 ·rename_i op t x y ty;exact g h fun d j=>Jyx x y j (l x) (l y)
 ·rename_i t x;refine g h fun d j=> ?_;unfold Gn at j;cases N:YG (ρd x)with
  |none=>rw[N]at j;cases j
  |some b=>
   rw[N]at j;simp only[Dt,CE]at j;subst j;have C:=JcD N (l x);exact⟨.bool !b,by rw[C];rfl,by simp only[Rep]⟩
 ·rename_i t x;refine g h fun d j=> ?_;have C:=l x;unfold WG at j;split at j
  ·rename_i k n K;cases j;rw[K]at C;simp only[Rep]at C;exact⟨_,by rw[C];rfl,by simp only[Rep]⟩
  ·cases j
 ·rename_i t x;refine g h fun d j=> ?_;have C:=l x;unfold bF at j;split at j
  ·rename_i k n K;rw[K]at C;simp only[Rep]at C;simp only[EJ,CE]at j;subst j;exact⟨_,by rw[C];rfl,by simp only[Rep]⟩
  ·cases j
 ·rename_i t n m;obtain⟨⟨e,sz,z⟩,J,h⟩:=Bi.1 h;obtain⟨r,F,I,q,p,E,M⟩:=Qcr J h (l n) (l m) G;exact⟨r,F,I,.inl (by simp[execOp,q]),p,E,M⟩
 ·rename_i s t x;split at h
  ·rename_i k1 k2 q p;refine g h fun d j=> ?_;have C:=l x;unfold Dk at j;split at j
   ·rename_i k n K;cases j;rw[K]at C;simp only[Rep]at C;refine⟨_,?_,by simp only[Rep];rfl⟩;simp[convert,run_underlying q,run_underlying p,C,Conv.intToInt]
   ·cases j
  ·rename_i e q p;split at h
   ·rename_i E;exact g h fun d j=>JlK q E p j (l x) G
   ·cases h
  ·rename_i q p;refine g h fun d j=> ?_;cases hs:UE (ρd x)with
   |none=>rw[hs]at j;cases j
   |some sv=>
    rw[hs]at j;simp only[Dt,CE]at j;subst j;have C:=CD hs (l x);exact⟨.string sv,by simp[convert,run_underlying q,run_underlying p,C],by simp only[Rep]⟩
  ·rename_i e q p;simp[IF,q,p]at ah
  ·cases h
 ·rename_i t x i;split at h
  ·rename_i ht;exact g h fun d j=>Jyq ht j (l x) (l i)
  ·rename_i n e ht;obtain⟨ie,V,h⟩:=Bi.1 h;obtain⟨s,hs,h⟩:=Bi.1 h;exact g h fun d j=>JyH ht V hs j (l x) (l i)
  ·cases h
 ·rename_i t x;split at h
  ·rename_i n e ht;obtain⟨ie,V,h⟩:=Bi.1 h;exact g h fun d j=>Qdu ht j (l x)
  ·cases h
 ·rename_i t;split at h
  ·obtain⟨r,F,I,q,p,E,M⟩:=JrA (P:=P) t h G;exact⟨r,F,I,.inl (by simp[execOp,q]),p,E,M⟩
  ·cases h
 ·rename_i t m k x;obtain⟨e,O,h⟩:=Bi.1 h;obtain⟨rfl,F,q,p,E⟩:=JaB O h (l m) (l k) (l x) G;exact⟨undef,F,L,.inr ⟨by simp[execOp,q],rfl⟩,by simp only[Rep],p,E⟩
 ·rename_i t m k x;obtain⟨e,O,h⟩:=Bi.1 h;obtain⟨rfl,F,q,p,E⟩:=JaB O h (l m) (l k) (l x) G;exact⟨undef,F,L,.inr ⟨by simp[execOp,q],rfl⟩,by simp only[Rep],p,E⟩
 ·rename_i t m k ok;obtain⟨e,O,h⟩:=Bi.1 h;obtain⟨z,hz,h⟩:=Bi.1 h;exact g h fun d j=>JvF O hz j (l m) (l k) G
 ·rename_i x xt u ok;split at h
  ·rename_i Y;obtain⟨z,hz,h⟩:=Bi.1 h;exact g h fun d j=>Jwm Y hz j (l x)
  ·cases h
 ·rename_i t i;refine g h fun d j=> ?_;unfold DN at j;obtain⟨ds,U,j⟩:=Bi.1 j;have ht:=l t;unfold U6 at U;split at U
  ·rename_i am O;cases U;rw[O]at ht;simp only[Rep]at ht;obtain⟨xs,q,p⟩:=ht;obtain⟨x,E,M⟩:=p.get i d j;exact⟨x,by simp[Instr.extract,q,E],M⟩
  ·cases U
 ·rename_i t x;have Z:P.concrete t=true/\d= .ifc t (ρd x)/\H'=H:=by
   unfold Program.concrete;split at h
   ·cases h
   ·cases h
   ·grind
  obtain⟨Y,rfl,rfl⟩:=Z;exact⟨.iface t (ρv x),w,L,.inl (by simp[execOp,run_makeInterface w t (ρv x) Y]),by simp only[Rep];grind,G,Later.refl⟩
 ·rename_i f a b;cases h;refine⟨.func f (a.map ρv) (b.map ρv),w,L,.inl (by rfl),?_,G,Later.refl⟩;simp only[Rep];exact⟨a.toList.map ρv,b.toList.map ρv,by congr 1<;>(apply Al;simp),Au.ops l a.toList,Au.ops l b.toList⟩
 ·rename_i x;have C:=l x;obtain⟨y,W,h⟩:=DV.1 h;cases h;unfold IT at W;split at W
  ·rename_i i o O;cases W;rw[O]at C;have Q:=C;simp only[Rep]at C;obtain⟨b,c,hL,e⟩:=C;exact⟨ρv x,w,L,.inl (by simp[execOp,e]),Q,G,Later.refl⟩
  ·rename_i cs O;cases W;rw[O]at C;have Q:=C;simp only[Rep]at C;obtain⟨b,o,e,_⟩:=C;exact⟨ρv x,w,L,.inl (by simp[execOp,e]),Q,G,Later.refl⟩
  ·rename_i name t d fs cs O;obtain⟨f,T,W⟩:=DV.1 W;cases W;rw[O]at C;have Q:=C;simp only[Rep]at C;obtain⟨ys,zs,e,q,p⟩:=C;simp only[Au]at q;obtain⟨y0,yr,rfl,E,M⟩:=q;simp only[Rep]at E;obtain⟨u,rfl,h5⟩:=E;have K:(nilAhead (P.types.size+Made.depth) t u name).run P w= .ok (some false) w:=JsP T u w (P.types.size+99);exact⟨ρv x,w,L,.inl (by simp[execOp,e,run_program,K]),Q,G,Later.refl⟩
  ·cases W
 ·rename_i args A;split at h
  ·rename_i x t r e1 e2;have R:args= #[x]:=by grind
   subst R;have ht:A[0]? =some t:=by rw[<-Zc,e2];rfl
   have:=g (s:=Builtin.len_ A type #[ρv x]) h fun d j=>Qeh j (l x) A ht type;simpa[execOp,resolve,invoke,builtin]using this
  ·cases h
 ·rename_i args A;split at h
  ·rename_i s x t t' e1 e2;split at h
   ·rename_i ai;subst ai;obtain⟨⟨e,sz⟩,J,h⟩:=Bi.1 h;have R:args= #[s,x]:=by grind
    have N:A= #[t,t]:=by grind
    subst R;subst N;obtain⟨r,F,I,q,p,E,M⟩:=JvM J h (l s) (l x) G type;exact⟨r,F,I,.inl (by simp[execOp,resolve,invoke,builtin,q]),p,E,M⟩
   ·split at h
    ·rename_i ag;obtain⟨⟨e,sz⟩,J,h⟩:=Bi.1 h;have R:args= #[s,x]:=by grind
     have N:A= #[t,t']:=by grind
     subst R;subst N;obtain⟨r,F,I,q,p,E,M⟩:=Qff J ag h (l s) (l x) G type;exact⟨r,F,I,.inl (by simp[execOp,resolve,invoke,builtin,q]),p,E,M⟩
    ·cases h
  ·cases h
 ·rename_i args A;split at h
  ·rename_i s x t r e1 e2;obtain⟨⟨e,sz⟩,J,h⟩:=Bi.1 h;have R:args= #[s,x]:=by grind
   have N:A[0]? =some t:=by rw[<-Zc,e2];rfl
   subst R;obtain⟨v,F,q,p,E,M⟩:=Qd1 J h (l s) (l x) G A N type;exact⟨v,F,L,.inl (by simp[execOp,resolve,invoke,builtin,q]),p,E,M⟩
  ·cases h
 ·rename_i args A;split at h
  ·rename_i x t r e1 e2;obtain⟨⟨e,sz,z⟩,J,h⟩:=Bi.1 h;have R:args= #[x]:=by grind
   have N:A[0]? =some t:=by rw[<-Zc,e2];rfl
   subst R;obtain⟨v,F,q,p,E,M⟩:=Joj J h (l x) G A N type;exact⟨v,F,L,.inl (by simp[execOp,resolve,invoke,builtin,q]),p,E,M⟩
  ·cases h
 ·rename_i args A;have af:∀d,mH (args.toList.map ρd)=some d->∃r,(Builtin.max_ A type (args.map ρv)).run P w= .ok r w/\Rep S L w r d:=fun d j=>by
   obtain⟨x,r,y,q,p,E⟩:=JfF (P:=P) (w:=w) _ Builtin.max2 (fun k k' a b=>rfl) _ (args.toList.map ρv) j (Au.ops l args.toList);exact⟨y,by simp[Builtin.max_,q,p],E⟩
  have:=g (s:=Builtin.max_ A type (args.map ρv)) h af;simpa[execOp,resolve,invoke,builtin]using this
 ·rename_i args A;have ab:∀d,nF (args.toList.map ρd)=some d->∃r,(Builtin.min_ A type (args.map ρv)).run P w= .ok r w/\Rep S L w r d:=fun d j=>by
   obtain⟨x,r,y,q,p,E⟩:=JfF (P:=P) (w:=w) _ Builtin.min2 (fun k k' a b=>rfl) _ (args.toList.map ρv) j (Au.ops l args.toList);exact⟨y,by simp[Builtin.min_,q,p],E⟩
  have:=g (s:=Builtin.min_ A type (args.map ρv)) h ab;simpa[execOp,resolve,invoke,builtin]using this
 ·cases h
def BD.call{B:Nat}{S:Nat->Prop}{L:Ac (Nat×Nat)}{w d:AA}{H:Ae}(e:BD B S L w H)(f:Below w.heap.size w d):
  BD B (fun k=>S k\/(w.heap.size<=k/\k<d.heap.size)) L d H/\Later B S (fun k=>S k\/(w.heap.size<=k/\k<d.heap.size)) L L w d:=by
 have g:Later B S (fun k=>S k\/(w.heap.size<=k/\k<d.heap.size)) L L w d:=⟨f.mono e.base,Tq f e.small,fun k a=> .inl a,eF _,fun k a=>a.imp id fun h=>h.1,fun k a=>(f.block k (IY.1 a).1).trans a⟩;refine⟨⟨e.len,fun k a=> ?_,Ig e.base f.size,?_,e.inj⟩,g⟩
 ·rcases a with a|a
  ·exact OM (e.small k a) f.size
  ·exact a.2
 ·intro id o hid l;obtain⟨b,c,m,n,p,j⟩:=e.obj id o hid l;have i:b<w.heap.size:=j.lt l;refine⟨b,c,m,n,fun a=> ?_,j.kept (f.block b i) (fun _ _=>g.rep) (fun _ _=>g.repA)⟩
  grind
def JrS{s t e:AQ}{x d:D}{v:Ap}(hs:P.underlying s=some .string)(ht:P.underlying t=some (.slice e))(n:P.underlying e=some (.int .u8))(h:YC x=some d)(q:Rep S L w v x)(z:BD B S L w H):
  ∃r i m,(convert s t v).run P w= .ok r i/\Rep m L i r d/\BD B m L i H/\Later B S m L L w i:=by
 unfold YC at h;obtain⟨b,E,rfl⟩:=DV.1 h;have:=CD E q;subst this;have g:=run_bytes_of_string (P:=P) w s t e b hs ht n;have f:Below w.heap.size w (w.drew.alloc (.cells (bytesRow b (grownCap w b.size 0 e)) e ((bytesRow b (grownCap w b.size 0 e)).size,(bytesRow b (grownCap w b.size 0 e)).size+1))):=((Below.refl _ _).drew).alloc (BQ _) _;obtain⟨A,C⟩:=z.call f;refine⟨_,_,_,g,?_,A,C⟩;simp only[Rep];have y:=grownCap_ge w b.size 0 e;have c:b.data.toList.length=b.size:=eP;by_cases F:b.size=0
 ·grind
 ·right;refine⟨w.heap.size,0,_,by rw[Ju,c],by grind,by grind,.inr ⟨BQ _,by simp⟩,?_⟩;refine EM.of (fun e n=> ?_) (Eg.of (xs:=b.data.toList.map fun b=>Value.int .u8 b.toNat) ?_ fun j x o=> ?_)
  ·grind
  ·generalize b.data.toList=l
   induction l with
   |nil=>exact Au.nil
   |cons a r u=>
    simp only[EP,IX,Jkt];exact Au.cons (by simp only[Rep]) u
  ·have k:=(CV.1 o).1;have p:(w.drew.alloc (.cells (bytesRow b (grownCap w b.size 0 e)) e ((bytesRow b (grownCap w b.size 0 e)).size,(bytesRow b (grownCap w b.size 0 e)).size+1))).heap[w.heap.size]? =some (.cells (bytesRow b (grownCap w b.size 0 e)) e ((bytesRow b (grownCap w b.size 0 e)).size,(bytesRow b (grownCap w b.size 0 e)).size+1)):=heap_alloc_new w.drew _;simp only[World.cell?,p];rw[Ju,c]at k;simp only[EE,Option.isSome_none,BF,BC,bytesRow]
   grind
def nB{o:Oper}{d:D}{H':Ae}{ρv:Operand->Ap}{ρd:Operand->D}(h:Cc P o.op ρd H=some (d,H'))(i:∀x,Rep S L w (ρv x) (ρd x))(k:BD B S L w H):
  ∃x a b c,((execOp ρv o).run P w= .ok (.value x) a\/((execOp ρv o).run P w= .ok .skip a/\x=undef))/\Rep b c a x d/\BD B b c a H'/\Later B S b L c w a:=by
 cases hs:IF P o.op with
 |false=>
  obtain⟨x,a,c,f,g,j,v⟩:=Jw0 h i k hs
  grind
 |true=>
  obtain⟨dst,op,type,m,after,guard⟩:=o;simp only at h hs;unfold IF at hs;split at hs
  ·rename_i s t x;split at hs
   ·rename_i e f g;simp only[Cc,f,g]at h;split at h
    ·rename_i j;unfold same at h;obtain⟨y,q,h⟩:=DV.1 h;cases h;obtain⟨r,a,b,n,u,p,l⟩:=JrS f g j q (i x) k;exact⟨r,a,b,L,.inl (by simp[execOp,n]),u,p,l⟩
    ·cases h
   ·cases hs
  ·cases hs
end
end Go.Proofs.YtapdelkomkpgmaaGreatDoor
