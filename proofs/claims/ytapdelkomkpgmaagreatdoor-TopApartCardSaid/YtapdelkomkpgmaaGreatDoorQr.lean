import Derived.Laws.CopyRow
import Derived.Shelf.Spec.SlicesInsert
import Derived.Lib.AppendZerosOnto
import Derived.Test.YtapdelkomkpgmaaGreatDoorQq
namespace Go.Proofs.YtapdelkomkpgmaaGreatDoor
open Go.Proofs.Tryz
open Go.RowKit
set_option maxRecDepth 100000
set_option linter.all false
set_option maxHeartbeats 2000000 in
def Jzi(l:Ac Nd)(p:Ac Int)(v u:Ap)(w:AA)(J:Ip w v l)(Q:Uc w u p)(G:l.length<=4000000)(hp:p.length<=4000000):
  Calls prog 260 #[v,u] w fun e w'=>e= .returned (.int .i64 (Jk l p))/\Below w.heap.size w w':=by
 obtain⟨X,cu,N⟩:=Q.slice;subst N;obtain⟨pv,cv,L⟩:=J.slice;subst L;by_cases s:Bc l 0=l.length
 ·have M:(Bc l 0 !=(l.length:Int))=false:=by simp[s]
  have H:Hid (Jk l p=F8 l 0 p):=Lib.hid (by rw[Jk,Aw s]);clear s;go_enter func260,ntmps260;go_wp2
  go_step3
  go_wp2_with (go_at_call 164;refine(LY l _ _ _ J G).mono ?_;rintro e w1 ⟨rfl,n⟩)
  go_step3
  go_wp2
  go_loopw [5,16] (fun x i wr=>∃(k:Nat) (z:Int),i= .int .i64 k/\x= .int .i64 z/\k<=p.length/\Hid (F8 l 0 p=F8 l z (p.drop k))/\Below w.heap.size w wr) (fun _ i _=>p.length-(intOf i).toNat)
  case atStart=>exact⟨0,0,rfl,rfl,F9 _,Lib.hid rfl,n⟩
  case round=>
   obtain⟨k,z,rfl,rfl,hk,ht,g⟩:=hrel;by_cases m:k<p.length
   ·rcases Q.open with⟨rfl,_⟩|⟨O,R,c1,I,Y,S,D,F⟩
    ·simp at m
    obtain⟨rfl,rfl⟩:X=some ⟨O,R,none⟩/\cu=c1:=by simpa using I
    have g1:=(g.cell (p:=⟨O,R+k,none⟩) D).trans (F k m);clear F I;have r:=g.size;have h:=E8.below J g;have o:=Lib.hid (QW m);have Z:=FJ l z;by_cases E:0<=p[k]/\p[k].toNat<(AZ l z).length
    ·obtain⟨j,K⟩:=Fq E.1;have d:j<(AZ l z).length:=by omega
     have HJ:=Lib.hid K;have y:¬p[k]<0:=by omega
     have B:¬((AZ l z).length:Int)<=p[k]:=by omega
     have c:=Lib.hid (Q9 l z p[k] (p.drop (k+1)) j K d);clear E;rw[K]at g1 y B;clear K;go_wp2_with (go_at_call 219;refine(nT l _ _ _ h G).mono ?_;rintro e w2 ⟨q,rfl,t,a⟩;(rcases t.open with⟨V,_⟩|⟨bq,oq,P,b,T,W,U,C⟩;(exfalso;rw[V]at d;simp at d));have gq:=C j d;clear C;subst b)
     go_roundw
     case rel=>exact⟨k+1,(AZ l z)[j],by go_num,rfl,by omega,Lib.hid (by rw[ht.out,o.out,c.out]),g.trans (a.mono r)⟩
     case measure=>simp[intOf];omega
    ·have c:=Lib.hid (VJ l z p[k] (p.drop (k+1)) E);by_cases y:p[k]<0
     ·clear E;go_wp2_with (go_at_call 219;refine(nT l _ _ _ h G).mono ?_;rintro e w2 ⟨q,rfl,t,a⟩;obtain⟨pq,P,b⟩:=t.slice;subst b);rw[Exit.noGoto_ret];go_ret;exact⟨JZ (by rw[H.out,ht.out,o.out,c.out]),g.trans (a.mono r)⟩
     ·have B:((AZ l z).length:Int)<=p[k]:=by omega
      clear E;go_wp2_with (go_at_call 219;refine(nT l _ _ _ h G).mono ?_;rintro e w2 ⟨q,rfl,t,a⟩;obtain⟨pq,P,b⟩:=t.slice;subst b);rw[Exit.noGoto_ret];go_ret;exact⟨JZ (by rw[H.out,ht.out,o.out,c.out]),g.trans (a.mono r)⟩
   ·go_wp2
    rw[Exit.noGoto_ret];go_ret;exact⟨JZ (by rw[H.out,ht.out,LR (by omega)];rfl),g⟩
 ·have M:(Bc l 0 !=(l.length:Int))=true:=by simp[s]
  have H:Hid (Jk l p= -1):=Lib.hid (by rw[Jk,Am s]);clear s;go_enter func260,ntmps260;go_wp2
  go_step3
  go_wp2_with (go_at_call 164;refine(LY l _ _ _ J G).mono ?_;rintro e w1 ⟨rfl,n⟩)
  rw[Exit.noGoto_ret];go_ret;exact⟨JZ H.out.symm,n⟩
def Jav(x:Int)(w:AA):Calls prog 273 #[.int .i64 x] w fun e a=>e= .returned (.bool false)/\w=a:=by
 go_enter func273,ntmps273;have h:(x !=x)=false:=by simp
 go_wp2
 go_ret;exact⟨rfl,rfl⟩
def AG(x y:Int)(w:AA):Calls prog 213 #[.int .i64 x,.int .i64 y] w fun e a=>e= .returned (.int .i64 (FP x y))/\a=w:=by
 go_enter func213,ntmps213;go_wp2_with (fail);refine(Jav x _).mono ?_;rintro e a ⟨rfl,rfl⟩;go_wp2_with (fail);refine(Jav y _).mono ?_;rintro e a ⟨rfl,rfl⟩;go_wp2_with (fail)
 all_goals go_ret
 ·exact⟨JZ (by rw[FP,Aw (by assumption)]),rfl⟩
 ·exact⟨JZ (by rw[FP,Am (by omega),Aw (by assumption)]),rfl⟩
 ·exact⟨JZ (by rw[FP,Am (by omega),Am (by omega)]),rfl⟩
set_option maxHeartbeats 1000000 in
def Jla(a b:Ac Int)(u v:Ap)(w:AA)(G:Uc w u a)(B:Uc w v b)(W:a.length<=4000000)(X:b.length<=4000000):
  Calls prog 212 #[u,v] w fun e E=>e= .returned (.int .i64 (FO a b))/\Below w.heap.size w E:=by
 obtain⟨N,T,y⟩:=G.slice;obtain⟨L,R,q⟩:=B.slice;subst y;subst q;obtain⟨m,C⟩:∃m,m=min a.length b.length:=⟨_,rfl⟩;have M:m<=a.length:=by omega
 have K:m<=b.length:=by omega
 have J:m=a.length\/m=b.length:=by omega
 have Hm:=Lib.hid C;clear C;go_enter func212,ntmps212;go_wp2
 all_goals
  go_loopw [12] (fun i wr=>∃k:Nat,i= .int .i64 k/\k<=m/\Hid (FO a b=FO (a.drop k) (b.drop k))/\Below w.heap.size w wr) (fun i _=>m-(intOf i).toNat)
  case atStart=>exact⟨0,rfl,F9 _,Lib.hid rfl,Below.refl _ _⟩
  case round=>
   obtain⟨k,rfl,hk,ht,g⟩:=hrel;by_cases P:k<m
   ·have d:k<a.length:=by omega
    have c:k<b.length:=by omega
    rcases G.open with⟨rfl,_⟩|⟨z,H,S,l,Q,I,t,j⟩
    ·simp at d
    rcases B.open with⟨rfl,_⟩|⟨D,F,V,o,O,U,r,h⟩
    ·simp at c
    obtain⟨rfl,rfl⟩:N=some ⟨z,H,none⟩/\T=S:=by simpa using l
    obtain⟨rfl,rfl⟩:L=some ⟨D,F,none⟩/\R=V:=by simpa using o
    have g1:=(g.cell (p:=⟨z,H+k,none⟩) t).trans (j k d);have Z:=(g.cell (p:=⟨D,F+k,none⟩) r).trans (h k c);clear j h l o;have n1:(k:Int)<(a.length:Int):=by omega
    have Y:(k:Int)<(b.length:Int):=by omega
    by_cases n:a[k]=b[k]
    ·have s:(FP a[k] b[k] !=0)=false:=by simp[FP,n]
     have x:=Lib.hid n;clear n;go_wp2
     go_quiet ((go_at_call 213;exact Calls.quiet_of_same (AG _ _ _)));go_wp2
     go_roundw
     case rel=>exact⟨k+1,by go_num,by omega,Lib.hid (by rw[ht.out,Jbp a b k d c x.out]),NF g _⟩
     case measure=>simp[intOf];omega
    ·have s:(FP a[k] b[k] !=0)=true:=by rw[bne_iff_ne];unfold FP;split;omega;split<;>omega
     have x:=Lib.hid n;clear n;go_wp2
     go_quiet ((go_at_call 213;exact Calls.quiet_of_same (AG _ _ _)));go_wp2;go_ret;exact⟨JZ (by rw[ht.out,RT a b k d c x.out]),NF g _⟩
   ·go_wp2_with (go_at_call 213;refine(AG _ _ _).mono ?_;rintro e E ⟨rfl,rfl⟩)
    go_ret;exact⟨JZ (by rw[ht.out,Jkp a b k (by omega) (by omega) (by omega)]),g⟩
section
open Go.RowKit
end
set_option maxHeartbeats 2000000 in
def JnP(a b:Ac Int)(u v:Ap)(w:AA)(D:Uc w u a)(z:Uc w v b)(S:a.length<=4000000)(T:b.length<=4000000):
  Calls prog 226 #[u,v] w fun e L=>e= .returned (.int .i64 (FO a b))/\Below w.heap.size w L:=by
 obtain⟨H,O,x⟩:=D.slice;obtain⟨G,M,o⟩:=z.slice;subst x;subst o;go_enter func226,ntmps226;go_wp2
 go_loopw [5] (fun i wr=>∃k:Nat,i= .int .i64 k/\k<=a.length/\k<=b.length/\Hid (FO a b=FO (a.drop k) (b.drop k))/\Below w.heap.size w wr) (fun i _=>a.length-(intOf i).toNat)
 case atStart=>exact⟨0,rfl,F9 _,F9 _,Lib.hid rfl,Below.refl _ _⟩
 case round=>
  obtain⟨k,rfl,W,P,ht,h⟩:=hrel;by_cases s:k<a.length/\k<b.length
  ·obtain⟨d,c⟩:=s;rcases D.open with⟨rfl,_⟩|⟨y,E,N,m,J,F,r,l⟩
   ·simp at d
   rcases z.open with⟨rfl,_⟩|⟨B,C,R,n,I,Q,q,j⟩
   ·simp at c
   obtain⟨rfl,rfl⟩:H=some ⟨y,E,none⟩/\O=N:=by simpa using m
   obtain⟨rfl,rfl⟩:G=some ⟨B,C,none⟩/\M=R:=by simpa using n
   have g1:=(h.cell (p:=⟨y,E+k,none⟩) r).trans (l k d);have V:=(h.cell (p:=⟨B,C+k,none⟩) q).trans (j k c);clear l j m n;have Y:(k:Int)<(a.length:Int):=by omega
   have U:(k:Int)<(b.length:Int):=by omega
   rcases sI a[k] b[k]with g|g|g
   ·go_wp2
    go_quiet (fail)
    go_wp2
    go_ret;exact⟨JZ (by rw[ht.out,RT a b k d c (by omega),FP,Aw g]),NF h _⟩
   ·have K:¬a[k]<b[k]:=by omega
    have Z:¬b[k]<a[k]:=by omega
    have t:=Lib.hid g;clear g;go_wp2
    go_quiet (fail)
    go_wp2
    go_quiet (fail)
    go_wp2
    go_roundw
    case rel=>exact⟨k+1,by go_num,by omega,by omega,Lib.hid (by rw[ht.out,Jbp a b k d c t.out]),by first|exact NF h _|exact NF (NF h _) _⟩
    case measure=>simp[intOf];omega
   ·have K:¬a[k]<b[k]:=by omega
    go_wp2
    go_quiet (fail)
    go_wp2
    go_quiet (fail)
    go_wp2
    go_ret;exact⟨JZ (by rw[ht.out,RT a b k d c (by omega),FP,Am (by omega),Aw g]),NF (NF h _) _⟩
  ·have g:FO a b=FP a.length b.length:=by rw[ht.out,Jkp a b k (by omega) (by omega) (by omega)]
   have t:=Lib.hid g;clear g;by_cases X:k<a.length
   all_goals
    go_wp2
    all_goals
     go_ret;exact⟨JZ (by rw[t.out,FP];first|rw[Aw (by omega)]|rw[Am (by omega),Aw (by omega)]|rw[Am (by omega),Am (by omega)]),h⟩
section
variable {P : Aj}
def Fo(w:AA)(t k e:AQ)(i:TypeInfo)(ht:P.underlying t=some (.slice e))(l:P.info? e=some i)(b o n h:Nat)(c:CX Ap)(g:AQ)(u:w.heap[b]? =some (.cells c g (0,0)))
  (a:Addr) (m sc:Nat) (vs:Ac Ap) (q:vs.length=Nat.min m n*i.size) (s:∀j v,vs[j]? =some v->w.cell? (a.add j)=some v) (p:∀v∈vs,v.oneCell'=true) (d:o+vs.length<=c.size):
  (Builtin.copy_ #[t,t] k #[.slice (some ⟨b,o,none⟩) n h,.slice (some a) m sc]).run P w= .ok (.int .i64 (Nat.min m n:Nat)) (w.setRow b (c.toList.take o++vs++c.toList.drop (o+vs.length)).toArray):=by
 have r:=run_firstCells_some (P:=P) w i.size (Nat.min m n) a m sc vs q s;have f:=run_storeCells_at P b o g vs 0 c w u (by simpa using d) p;simp only[MZ]at f;simp[Builtin.copy_,run_underlying ht,Builtin.lenOf,sizeOf,typeInfo,l,_root_.Go.goInt,r,f]
end
def Jrt(w:AA)(A R:CX Ap)(t:AQ):(w.alloc (.cells A t)).setRow w.heap.size R=w.alloc (.cells R t):=by
 unfold World.setRow World.alloc;congr 1
 grind
def Qds(arr:Ac Ap)(n i:Nat)(v:Ac Ap)(g:v.length=2)(e:i<n)(f:2*(n+1)<=arr.length):
  let a:=arr.take (2*(i+1))++(arr.drop (2*i)).take (2*(n-i))++arr.drop (2*(i+1)+2*(n-i))
  (a.take (2*i)++v++a.drop (2*i+2)).take (2*(n+1))=arr.take (2*i)++v++(arr.take (2*n)).drop (2*i):=by
 intro a;have d:a.take (2*i)=arr.take (2*i):=by grind
 have b:a.drop (2*i+2)=(arr.drop (2*i)).take (2*(n-i))++arr.drop (2*(i+1)+2*(n-i)):=by
  show(arr.take (2*(i+1))++_++_).drop (2*i+2)=_;rw[FV];exact pK (by simp;omega)
 rw[d,b];have c:(arr.drop (2*i)).take (2*(n-i))=(arr.take (2*n)).drop (2*i):=by
  rw[rR];congr 1;omega
 rw[c,<-FV];exact Ax (by simp;omega)
structure Joh(P:Program)(f:FuncId)(t:TypeId):Prop where
 body:∃fn,P.funcs[f]? =some fn∧fn.name≠ "runtime.NumGoroutine" ∧fn.body.isSome=true
 room:∀(b n c i vb vc:Nat) (arr arrv:Array Value) (tv:TypeId) (v0 v1:Value) (w:World),i<n->n+1<=c->c<=maxLen->w.heap[b]? =some (.cells arr t (0,0))->arr.size=c*2->w.heap[vb]? =some (.cells arrv tv (0,0))->arrv[0]? =some v0->arrv[1]? =some v1->
  v0.oneCell'=true->v1.oneCell'=true->vb≠b->(∀x∈arr.toList.take (2*n),x.oneCell'=true)->
  Calls P f #[.slice (some ⟨b,0,none⟩) n c,.int .i64 i,.slice (some ⟨vb,0,none⟩) 1 vc] w fun e w'=>∃A:Array Value,e= .returned (.slice (some ⟨b,0,none⟩) (n+1) c)/\w'=w.drew.setRow b A/\A.size=c*2/\
   A.toList.take (2*(n+1))=arr.toList.take (2*i)++[v0,v1]++(arr.toList.take (2*n)).drop (2*i)
 grow:∀(b n c i vb vc:Nat) (arr arrv:Array Value) (tv:TypeId) (v0 v1:Value) (w:World),i<n->n<=c->c<n+1->n<=1000000->w.heap[b]? =some (.cells arr t (0,0))->arr.size=c*2->w.heap[vb]? =some (.cells arrv tv (0,0))->arrv[0]? =some v0->arrv[1]? =some v1->
  v0.oneCell'=true->v1.oneCell'=true->vb≠b->(∀x∈arr.toList.take (2*n),x.oneCell'=true)->
  Calls P f #[.slice (some ⟨b,0,none⟩) n c,.int .i64 i,.slice (some ⟨vb,0,none⟩) 1 vc] w fun e w'=>∃(A:Array Value) (c':Nat),e= .returned (.slice (some ⟨w.heap.size,0,none⟩) (n+1) c')/\w'=w.drew.drew.alloc (.cells A t)/\n+1<=c'/\c'<=maxLen/\A.size=c'*2/\
   A.toList.take (2*(n+1))=arr.toList.take (2*i)++[v0,v1]++(arr.toList.take (2*n)).drop (2*i)
section
open Go.RowKit Go.Lib Go.Shelf
set_option maxHeartbeats 4000000 in
set_option maxRecDepth 100000 in
def Jlu(b n c i l y:Nat)(arr a:CX Ap)(H:AQ)(g k:Ap)(w:AA)(hi:i<n)(F:n+1<=c)(Q:c<=maxLen)(D:w.heap[b]? =some (.cells arr 44 (0,0)))(M:arr.size=c*2)
  (m:w.heap[l]? =some (.cells a H (0,0))) (h0:a[0]? =some g) (h1:a[1]? =some k) (o0:g.oneCell'=true) (o1:k.oneCell'=true) (z:l≠b) (S:∀x∈arr.toList.take (2*n),x.oneCell'=true):
  Calls prog 294 #[.slice (some ⟨b,0,none⟩) n c,.int .i64 i,.slice (some ⟨l,0,none⟩) 1 y] w fun e w'=>∃A:CX Ap,e= .returned (.slice (some ⟨b,0,none⟩) (n+1) c)/\w'=w.drew.setRow b A/\A.size=c*2/\
   A.toList.take (2*(n+1))=arr.toList.take (2*i)++[g,k]++(arr.toList.take (2*n)).drop (2*i):=by
 obtain⟨T,C,ab,L,Z⟩:=info_parts wQ;have J:∀w,(Go.sizeOf 44).run prog w= .ok 2 w:=fun w=>by rfl
 have V:c<=9223372036854775807:=by unfold maxLen at Q;omega
 have ak:¬((i:Int)=(n:Int)):=by omega
 have I:∀lb O,(callFunc 340 #[.slice (some ⟨l,0,none⟩) 1 y,.slice (some ⟨b,(i+1)*2,none⟩) lb O]).run prog w= .ok (.value (.bool false)) w:=fun lb O=>by
  rw[run_callFunc_extern func340 (by kernel_rfl) (by kernel_rfl) (by kernel_rfl) (e:=Extern.SlicesOverlaps.overlaps #[23,23] #[4]) (by kernel_rfl),
   Lib.run_overlaps_apart w 23 4 44 underlying23 2 J ⟨l,0,none⟩ ⟨b,(i+1)*2,none⟩ 1 y lb O z H 44 a.size arr.size (by simp[World.shape?,m]) (by simp[World.shape?,D]) (by omega) (by simp[World.frozen?,m]) (by simp[World.frozen?,m])]
  rfl
 have ae:arr.toList.length=c*2:=by simp[M]
 have ah:IntKind.i64.wrap ((i:Int)+1)=(i:Int)+1:=by rw[IntKind.wrap_i64];omega
 have aj:IntKind.i64.wrap ((n:Int)+1)=(n:Int)+1:=by rw[IntKind.wrap_i64];omega
 have ad:(0:Int)<=(i:Int)+1:=by omega
 have af:i<=n:=by omega
 have ag:((i:Int)+1).toNat=i+1:=by omega
 have ac:¬(c=i+1):=by omega
 have aa:(i:Int)<=(n:Int)+1:=by omega
 have ai:¬(c=i):=by omega
 obtain⟨R1,p⟩:∃R1:Ac Ap,R1=arr.toList.take (2*(i+1))++(arr.toList.drop (2*i)).take (2*(n-i))++arr.toList.drop (2*(i+1)+2*(n-i)):=⟨_,rfl⟩;have X:R1.length=c*2:=by rw[p];simp;omega
 have G:((arr.toList.drop (2*i)).take (2*(n-i))).length=2*(n-i):=by simp;omega
 have u:∀q o sc,(Builtin.copy_ #[23,23] q #[.slice (some ⟨b,(i+1)*2,none⟩) (n-i) o,.slice (some ⟨b,i*2,none⟩) (n+1-i) sc]).run prog w.drew= .ok (.int .i64 ((n-i:Nat):Int)) (w.drew.setRow b R1.toArray):=fun q o sc=>by
  have d:Nat.min (n+1-i) (n-i)=n-i:=by grind
  have h:=Fo (P:=prog) w.drew 23 q 44 T underlying23 C b ((i+1)*2) (n-i) o arr 44 D ⟨b,i*2,none⟩ (n+1-i) sc ((arr.toList.drop (2*i)).take (2*(n-i))) (by grind) (fun j v E=>by
   rw[Addr.add_lit];have Y:=(CV.1 E).1;rw[Xw (by omega),pM]at E;rw[show w.drew.cell? ⟨b,i*2+j,none⟩=w.cell? ⟨b,i*2+j,none⟩from rfl,KZ D,SQ i 2];simpa using E) (fun v hv=>by
   have e:(arr.toList.drop (2*i)).take (2*(n-i))=(arr.toList.take (2*n)).drop (2*i):=by rw[rR];congr 1;omega
   grind) (by rw[G];omega)
  grind
 have B:∀(W:AA),W.heap=(w.drew.setRow b R1.toArray).heap->∀q o,(Builtin.copy_ #[23,23] q #[.slice (some ⟨b,i*2,none⟩) (n+1-i) o,.slice (some ⟨l,0,none⟩) 1 y]).run prog W= .ok (.int .i64 1) (W.setRow b (R1.take (2*i)++[g,k]++R1.drop (2*i+2)).toArray):=fun W R q o=>by
  have d:Nat.min 1 (n+1-i)=1:=by grind
  have N:W.heap[b]? =some (.cells R1.toArray 44 (0,0)):=by rw[R];exact setRow_heap w.drew b arr _ _ _ D
  have K:W.heap[l]? =some (.cells a H (0,0)):=by rw[R,setRow_other w.drew b l _ z];exact m
  have h:=Fo (P:=prog) W 23 q 44 T underlying23 C b (i*2) (n+1-i) o R1.toArray 44 N ⟨l,0,none⟩ 1 y [g,k] (by rw[d,L];rfl) (fun j v E=>by
   rw[Addr.add_lit,KZ K]
   grind) (fun v hv=>by grind) (by simp;omega)
  rw[d]at h;rw[SQ 2 i];exact h
 have r:(R1.take (2*i)++[g,k]++R1.drop (2*i+2)).toArray.size=c*2:=by simp;omega
 have s:(R1.take (2*i)++[g,k]++R1.drop (2*i+2)).take (2*(n+1))=arr.toList.take (2*i)++[g,k]++(arr.toList.take (2*n)).drop (2*i):=by
  rw[p];exact Qds arr.toList n i [g,k] rfl hi (by omega)
 have U:prog.follows .mixedOrders=true:=by kernel_rfl
 go_enter func294,ntmps294;go_wp2_with (simp only[I])
 go_region_law_o (refine step_copy_runI rfl _ _ 23 23 rfl _ _ (by simp[Act.eval,Act.put]) (by simp[Act.eval,Act.put]) (u _ _ _) ?_)
 go_wp2_with (at_builtin;refine wpList_copy_runI _ rfl _ _ 23 23 rfl _ _ rfl rfl (B _ rfl _ _) ?_)
 go_ret;refine⟨_,rfl,?_,r,s⟩;rw[setRow_setRow,p];simp
def Jyh(arr z:Ac Ap)(n i:Nat)(v:Ac Ap)(j:v.length=2)(k:i<n)(h:2*n<=arr.length)(g:2*(n+1)<=2*i+z.length):
  let b:=arr.take (2*i)++z;let a:=b.take (2*i)++v++b.drop (2*i+2)
  (a.take (2*(i+1))++(arr.take (2*n)).drop (2*i)++a.drop (2*(i+1)+2*(n-i))).take (2*(n+1))=arr.take (2*i)++v++(arr.take (2*n)).drop (2*i)/\
  a.length=b.length/\(a.take (2*(i+1))++(arr.take (2*n)).drop (2*i)++a.drop (2*(i+1)+2*(n-i))).length=b.length:=by
 intro b a;have e:b.length=2*i+z.length:=by grind
 have f:b.take (2*i)=arr.take (2*i):=Ax (by simp;omega);have c:a.length=b.length:=by grind
 have d:a.take (2*(i+1))=arr.take (2*i)++v:=by grind
 refine⟨?_,c,by simp;omega⟩;rw[d];exact Ax (by simp;omega)
set_option maxHeartbeats 4000000 in
set_option maxRecDepth 100000 in
def Jzy(b n c i y vc:Nat)(arr g:CX Ap)(tv:AQ)(J K:Ap)(w:AA)(hi:i<n)(ax:n<=c)(q:c<n+1)(hn:n<=1000000)(hb:w.heap[b]? =some (.cells arr 44 (0,0)))(ai:arr.size=c*2)
  (Q:w.heap[y]? =some (.cells g tv (0,0))) (h0:g[0]? =some J) (h1:g[1]? =some K) (o0:J.oneCell'=true) (o1:K.oneCell'=true) (ap:y≠b) (Y:∀x∈arr.toList.take (2*n),x.oneCell'=true):
  Calls prog 294 #[.slice (some ⟨b,0,none⟩) n c,.int .i64 i,.slice (some ⟨y,0,none⟩) 1 vc] w fun e w'=>∃(A:CX Ap) (c':Nat),e= .returned (.slice (some ⟨w.heap.size,0,none⟩) (n+1) c')/\w'=w.drew.drew.alloc (.cells A 44)/\n+1<=c'/\c'<=maxLen/\A.size=c'*2/\
   A.toList.take (2*(n+1))=arr.toList.take (2*i)++[J,K]++(arr.toList.take (2*n)).drop (2*i):=by
 obtain⟨N,D,af,u,L⟩:=info_parts wQ;have a2:¬((i:Int)=(n:Int)):=by omega
 have ao:(c:Int)<(n:Int)+1:=by omega
 have az:arr.toList.length=c*2:=by simp[ai]
 have au:IntKind.i64.wrap ((i:Int)+1)=(i:Int)+1:=by rw[IntKind.wrap_i64];omega
 have av:IntKind.i64.wrap ((n:Int)+1)=(n:Int)+1:=by rw[IntKind.wrap_i64];omega
 have T:(n:Int)+1-(i:Int)=((n+1-i:Nat):Int):=by omega
 have z:i+(n+1-i)=n+1:=by omega
 have ak:b<w.heap.size:=(IY.1 hb).1;have ac:y<w.heap.size:=(IY.1 Q).1;have p:(Builtin.firstCells N.size i (.slice (some ⟨b,0,none⟩) i c)).run prog w.drew= .ok (arr.toList.take (2*i)).toArray w.drew:=
  run_firstCells_some w.drew N.size i ⟨b,0,none⟩ i c (arr.toList.take (2*i)) (by rw[u];simp;omega) (fun j v d=>by
   rw[Addr.add_lit,EE];have r:=(CV.1 d).1;rw[Xw (by simp at r;omega)]at d;rw[show w.drew.cell? ⟨b,j,none⟩=w.cell? ⟨b,j,none⟩from rfl,KZ hb];simpa using d)
 obtain⟨G,hG⟩:∃G,G=grownCap w (n+1) c 44 :=⟨_,rfl⟩;have ad:n+1<=G:=by rw[hG];exact grownCap_ge w _ _ _
 have V:G<=maxLen:=by rw[hG];exact grownCap_le_maxLen w (n+1) c 44 (by unfold maxLen;omega)
 have am:G<=9223372036854775807:=by unfold maxLen at V;omega
 obtain⟨Z,hZ⟩:∃Z:CX Ap,Z=Builtin.zeroCells (Value.agg #[.int .i64 0,.int .i64 0]).cells (n+1-i)++Builtin.zeroCells (Value.agg #[.int .i64 0,.int .i64 0]).cells (G-(n+1)):=⟨_,rfl⟩;have H:Z.size=2*(G-i):=by
  rw[hZ];simp only[L5,size_zeroCells,Value.cells];simp;omega
 have R:∀m,(Builtin.append_ #[23,3] m #[.slice (some ⟨b,0,none⟩) i c,.int .i64 ((n:Int)+1-(i:Int))]).run prog w=
   .ok (.slice (some ⟨w.heap.size,0,none⟩) (n+1) G) (w.drew.alloc (.cells (arr.toList.take (2*i)++Z.toList).toArray 44)):=fun m=>by
  have h:=Lib.run_append_grow_zeros w 23 3 m 44 N _ .i64 .i64 underlying23 underlying3 D af (some ⟨b,0,none⟩) i c (arr.toList.take (2*i)) p (n+1-i) (by omega) (by omega) (by omega) (by omega) (by rw[L];omega) (by rw[L,z];exact growslice_fits q (by omega));rw[z,<-hG]at h;rw[T,h,hZ];congr 3;simp
 obtain⟨R0,o⟩:∃R0:Ac Ap,R0=arr.toList.take (2*i)++Z.toList:=⟨_,rfl⟩;rw[<-o]at R;obtain⟨R1,B⟩:∃R1:Ac Ap,R1=R0.take (2*i)++[J,K]++R0.drop (2*i+2):=⟨_,rfl⟩;obtain⟨I,E⟩:∃I:Ac Ap,I=R1.take (2*(i+1))++(arr.toList.take (2*n)).drop (2*i)++R1.drop (2*(i+1)+2*(n-i)):=⟨_,rfl⟩;have k:=Jyh arr.toList Z.toList n i [J,K] rfl hi (by omega) (by simp[H];omega);simp only at k;rw[<-o,<-B,<-E]at k;obtain⟨aa,ae,aj⟩:=k;have ab:R0.length=G*2:=by rw[o];simp[H];omega
 have M:∀(W:AA),W.heap=(w.drew.alloc (.cells R0.toArray 44)).heap->∀m F,(Builtin.copy_ #[23,23] m #[.slice (some ⟨w.heap.size,i*2,none⟩) (n+1-i) F,.slice (some ⟨y,0,none⟩) 1 vc]).run prog W= .ok (.int .i64 1) (W.setRow w.heap.size R1.toArray):=fun W S m F=>by
  have a:Nat.min 1 (n+1-i)=1:=by simp only[Nat.min_def];split<;>omega
  have C:W.heap[w.heap.size]? =some (.cells R0.toArray 44 (0,0)):=by rw[S];exact heap_alloc_new w.drew _
  have ah:W.heap[y]? =some (.cells g tv (0,0)):=by rw[S,Gr w.drew _ ac];exact Q
  have h:=Fo (P:=prog) W 23 m 44 N underlying23 D w.heap.size (i*2) (n+1-i) F R0.toArray 44 C ⟨y,0,none⟩ 1 vc [J,K] (by rw[a,u];rfl) (fun j v d=>by
   rw[Addr.add_lit,KZ ah]
   match j,d with
   |0,d=>rw[<-d];exact h0
   |1,d=>rw[<-d];exact h1
   |j+2,d=>simp at d) (fun v hv=>by
   simp only[FY,QZ,or_false]at hv;rcases hv with rfl|rfl
   ·exact o0
   ·exact o1) (by simp;omega)
  rw[a]at h;rw[B,SQ 2 i];exact h
 have l:((arr.toList.take (2*n)).drop (2*i)).length=2*(n-i):=by simp;omega
 have O:∀(W:AA),W.heap=((w.drew.alloc (.cells R0.toArray 44)).setRow w.heap.size R1.toArray).heap->∀m F sc,(Builtin.copy_ #[23,23] m #[.slice (some ⟨w.heap.size,(i+1)*2,none⟩) (n-i) F,.slice (some ⟨b,i*2,none⟩) (n-i) sc]).run prog W= .ok (.int .i64 ((n-i:Nat):Int)) (W.setRow w.heap.size I.toArray):=fun W S m F sc=>by
  have a:Nat.min (n-i) (n-i)=n-i:=Nat.min_self _;have C:W.heap[w.heap.size]? =some (.cells R1.toArray 44 (0,0)):=by rw[S];exact setRow_heap _ _ R0.toArray _ _ _ (heap_alloc_new w.drew _)
  have ag:W.heap[b]? =some (.cells arr 44 (0,0)):=by rw[S,setRow_other _ _ b _ (by omega),Gr w.drew _ ak];exact hb
  have h:=Fo (P:=prog) W 23 m 44 N underlying23 D w.heap.size ((i+1)*2) (n-i) F R1.toArray 44 C ⟨b,i*2,none⟩ (n-i) sc ((arr.toList.take (2*n)).drop (2*i)) (by rw[a,u,l];omega) (fun j v d=>by
   rw[Addr.add_lit,KZ ag,SQ i 2];have r:=(CV.1 d).1;rw[pM,Xw (by rw[l]at r;omega)]at d;simpa using d) (fun v hv=>Y v (List.mem_of_mem_drop hv)) (by rw[l];simp;omega)
  rw[a,l,SQ (i+1) 2]at h;rw[E];rw[SQ (i+1) 2];exact h
 have ay:(0:Int)<=(i:Int)+1:=by omega
 have aq:i<=n:=by omega
 have a1:((i:Int)+1).toNat=i+1:=by omega
 have a0:¬(G=i):=by omega
 have an:¬(G=i+1):=by omega
 have ar:¬(c=i):=by omega
 have aw:(i:Int)<=(n:Int):=by omega
 have U:I.toArray.size=G*2:=by simp;omega
 have al:prog.follows .mixedOrders=true:=by kernel_rfl
 have s:∀X:AA,X=((w.drew.drew.alloc (.cells R0.toArray 44)).setRow w.heap.size R1.toArray).setRow w.heap.size I.toArray->X=w.drew.drew.alloc (.cells I.toArray 44):=fun X hX=>by
  rw[hX,setRow_setRow];exact Jrt w.drew.drew R0.toArray I.toArray _
 have hA:=M ((w.alloc (.cells R0.toArray 44)).drew) rfl;have hB:=O (((w.alloc (.cells R0.toArray 44)).drew.setRow w.heap.size R1.toArray).drew) rfl;clear T z p hG hZ H o B E ab ae aj l;go_enter func294,ntmps294;go_wp2_with (first
  |(at_builtin;refine Lib.wpList_append_run _ rfl _ _ _ _ rfl _ _ rfl rfl _ _ (R _) ?_)
  |simp only[hA])
 go_region_law_o (refine step_copy_runI rfl _ _ 23 23 rfl (.slice (some ⟨w.heap.size,(i+1)*2,none⟩) (n-i) (G-(i+1))) (.slice (some ⟨b,i*2,none⟩) (n-i) (c-i)) (by simp[Act.eval,Act.put]) (by simp[Act.eval,Act.put]) (hB _ _ _) ?_)
 go_wp2
 go_ret;exact⟨_,_,rfl,s _ rfl,ad,V,U,aa⟩
def JeI:Joh Aa 294 44 :=⟨⟨_,func294,by decide,rfl⟩,Jlu,Jzy⟩
end
def kS:Ac D->Af D
 |[b,a]=>(Gv b).bind fun l=>(Hg a).bind fun p=>if l.length<=3000000/\p.length<=3000000 then some (iD (Jk l p))else none
 |_=>none
def JzE:Bz Aa 260 kS:=by
 refine⟨⟨_,func260,by decide,rfl⟩,fun ds d a S vs W m k=> ?_⟩;unfold kS at a;split at a
 ·rename_i o q;rcases c:Gv o with _|l
  ·grind
  rw[c,BR]at a;rcases b:Hg q with _|p
  ·grind
  rw[b,BR]at a;split at a;rotate_left
  ·cases a
  rename_i G;cases a;simp only[Au]at k;obtain⟨h,t,rfl,s,⟨j,v,rfl,n,rfl⟩⟩:=k;have i:=(Nq c s).mono m;have g:=(Yc b n).mono m;refine(Jzi l p h j W i g (by omega) (by omega)).mono ?_;rintro e u ⟨rfl,r⟩;exact⟨_,rfl,by simp only[Rep],r⟩
 ·cases a
def kP:Ac D->Af D
 |[d,c]=>(Hg d).bind fun a=>(Hg c).bind fun b=>if a.length<=3000000/\b.length<=3000000 then some (iD (FO a b))else none
 |_=>none
def QaH:Bz Aa 212 kP:=by
 refine⟨⟨_,func212,by decide,rfl⟩,fun ds d c S vs W n m=> ?_⟩;unfold kP at c;split at c
 ·rename_i p q;rcases h:Hg p with _|a
  ·grind
  rw[h,BR]at c;rcases g:Hg q with _|b
  ·grind
  rw[g,BR]at c;split at c;rotate_left
  ·cases c
  rename_i G;cases c;simp only[Au]at m;obtain⟨l,t,rfl,s,⟨j,v,rfl,o,rfl⟩⟩:=m;have i:=(Yc h s).mono n;have k:=(Yc g o).mono n;refine(Jla a b l j W i k (by omega) (by omega)).mono ?_;rintro e u ⟨rfl,r⟩;exact⟨_,rfl,by simp only[Rep],r⟩
 ·cases c
def jX:Ac D->Af D
 |[d,c]=>(Hg d).bind fun a=>(Hg c).bind fun b=>if a.length<=3000000/\b.length<=3000000 then some (iD (FO a b))else none
 |_=>none
def QeP:Bz Aa 226 jX:=by
 refine⟨⟨_,func226,by decide,rfl⟩,fun ds d c S vs W n m=> ?_⟩;unfold jX at c;split at c
 ·rename_i p q;rcases h:Hg p with _|a
  ·grind
  rw[h,BR]at c;rcases g:Hg q with _|b
  ·grind
  rw[g,BR]at c;split at c;rotate_left
  ·cases c
  rename_i G;cases c;simp only[Au]at m;obtain⟨l,t,rfl,s,⟨j,v,rfl,o,rfl⟩⟩:=m;have i:=(Yc h s).mono n;have k:=(Yc g o).mono n;refine(JnP a b l j W i k (by omega) (by omega)).mono ?_;rintro e u ⟨rfl,r⟩;exact⟨_,rfl,by simp only[Rep],r⟩
 ·cases c
def iC:Ac D->Af D
 |[b,a]=>(Dz b).bind fun x=>(Dz a).bind fun y=>some (iD (FP x y))
 |_=>none
def QeH:Bz Aa 213 iC:=by
 refine⟨⟨_,func213,by decide,rfl⟩,fun ds d a S vs W r g=> ?_⟩;unfold iC at a;split at a
 ·rename_i k m;rcases c:Dz k with _|x
  ·grind
  rw[c,BR]at a;rcases b:Dz m with _|y
  ·grind
  rw[b,BR]at a;cases a;simp only[Au]at g;obtain⟨l,p,rfl,o,⟨i,s,rfl,j,rfl⟩⟩:=g;obtain rfl:=Vz c o;obtain rfl:=Vz b j;refine((AG x y W).mono (R':=fun e h=>e= .returned (.int .i64 (FP x y))/\Below W.heap.size W h) (by rintro e h ⟨rfl,rfl⟩;exact⟨rfl,Below.refl _ _⟩)).mono ?_;rintro e q ⟨rfl,n⟩;exact⟨_,rfl,by simp only[Rep],n⟩
 ·cases a
def iZ:Ac D->Af D
 |[a]=>(Hg a).bind fun l=>if l.length<=3000000 then some (AL l)else none
 |_=>none
def Jx4:Hr Aa 261 iZ:=by
 refine⟨⟨_,func261,by decide,rfl⟩,fun ds d a S vs W n h=> ?_⟩;unfold iZ at a;split at a
 ·rename_i j;rcases b:Hg j with _|l
  ·grind
  rw[b,BR]at a;split at a;rotate_left
  ·cases a
  rename_i G;cases a;simp only[Au]at h;obtain⟨g,o,rfl,m,rfl⟩:=h;have c:=Yc b m;refine(JdI l g W S n c (by omega)).mono ?_;rintro e p ⟨u,rfl,i,k⟩;exact⟨u,rfl,lN (oE i),k⟩
 ·cases a
def Mt:Ac Cj:=(260,true,Ak kS)::(212,true,Ak kP)::(226,true,Ak jX)::(213,true,Ak iC)::(261,true,DX iZ)::(293,true,DX PM)::KV
def Jaf:∀p∈Mt,Ci Aa p:=AC (Bf JzE)<|AC (Bf QaH)<|AC (Bf QeP)<|AC (Bf QeH)<|AC (Jy Jx4)<|AC (Jy JsN)<|Rp
def TQ:Tab:=⟨Mt,BM,[]⟩
def Ke:Bg Aa TQ:=CU Jaf
def xP:Ac Nat:=[2,3,6,7,8]
def JpV(n:Nat)(c:D)(h:Ae):AB Aa TQ xP n f211 [c] h=
(Ad (Bq .sl c) fun e=>
Dy (BZ Aa TQ xP n f211 0 [(iD 0),(iD 0),c,e,(iD 0)] h) (fun d b a=>
CW d 0
(some ((gD b 1),a))
(none)) (fun b a=>
some ((gD b 0),a))):=by kernel_rfl
def eM(n:Nat)(s0 b d c a:D)(h:Ae):BK Aa TQ xP n f211 0 [s0,b,d,c,a] h=
(Ad (Ag .int .lss a c) fun g=>
Az g
(Ad (BG 1 d a) fun i=>
Ad (Ai none h i) fun e=>
Ad (Ag .int .neq e b) fun j=>
Az j
(some (.ret,[e,b,d,c,a],h))
(Ad (Ag .int .add a (iD 1)) fun k=>
some (.normal,[s0,b,d,c,k],h)))
(some ((.exit 0),[s0,b,d,c,a],h))):=by kernel_rfl
def Tb:Ac Nat:=[]
def JmR(n:Nat)(a:D)(h:Ae):AB Aa TQ Tb n f295 [a] h=
(Ad (Ag .sl .eql a Aq) fun e=>
Az e
(some (Aq,h))
(Ah (DI 44 2 0 [(iD 0),(iD 0)] [] h) fun g d=>
Ah (D5 44 2 g a d) fun b c=>
some (b,c))):=by kernel_rfl
def Jf9:Ac Nat:=[]
def Qe4(n:Nat)(g:D)(h:Ae):AB Aa TQ Jf9 n f291 [g] h=
(Ah (BA 391 g h) fun e l=>
Ah (BX 44 [(iD 0),(iD 0)] l) fun i b=>
Ad (AP 0 e) fun k=>
AV 2 none b k fun j=>
AV 3 none b e fun o=>
Ce 2 (some 2) b j o fun c=>
Ah (Bh 2 i c b) fun m a=>
Ad (Ai (some 2) a i) fun d=>
some (d,a)):=by kernel_rfl
def JaY:Ac Nat:=[]
def JtQ(n:Nat)(b a:D)(h:Ae):AB Aa TQ JaY n f227 [b,a] h=
(Ad (Ag .int .lss b a) fun c=>
Az c
(some ((iD (-1)),h))
(Ad (Ag .int .gtr b a) fun d=>
Az d
(some ((iD 1),h))
(some ((iD 0),h)))):=by kernel_rfl
def JlI(l:Ac Nd)(p:Ac Int)(H:Ae)(a:l.length<=3000000)(hp:p.length<=3000000):Ak kS [A8 l,AL p] H=some (iD (Jk l p),H):=by
 rw[CP _ _ _ rfl];simp[kS,a,hp]
def JxN(a b:Ac Int)(H:Ae)(d:a.length<=3000000)(c:b.length<=3000000):Ak kP [AL a,AL b] H=some (iD (FO a b),H):=by
 rw[CP _ _ _ rfl];simp[kP,d,c]
def cV(a b:Ac Int)(H:Ae)(d:a.length<=3000000)(c:b.length<=3000000):Ak jX [AL a,AL b] H=some (iD (FO a b),H):=by
 rw[CP _ _ _ rfl];simp[jX,d,c]
def Qe3(x y:Int)(H:Ae):Ak iC [iD x,iD y] H=some (iD (FP x y),H):=by rfl
def Jzx(l:Ac Int)(H:Ae)(a:l.length<=3000000):DX iZ [AL l] H=some (AL l,H):=by
 rw[V9 _ _ _ rfl];simp[iZ,a]
def Um:Ac Int->Int
 |[]=>0
 |x::r=>if x≠0 then x else Um r
theorem XS:∀(l:Ac Int) (i:Nat),(∀j,j<i->l.getD j 0=0)->Um l=Um (l.drop i)
 |l,0,_=>by simp
 |[],i+1,_=>by simp
 |x::r,i+1,h=>by
  have a:x=0:=by simpa using h 0 (by omega)
  rw[Um,Am (by omega),pJ];exact XS r i fun j b=>by grind
def De:Ac D->Af D:=F1 OY fun l=>if l.length<=1000000 then some (iD (Um l))else none
def Qcv:Bz Aa 211 De:=FC (kp:=xP) Ke AX func211 fun l d h=>by
 split at h
 case isFalse=>cases h
 rename_i r;cases h;refine⟨l.length+1,_,?_,AY.refl _⟩;show BB (AB _ _ _ _ _ [AL l] [])=_;rw[JpV];have hs:=VO (P:=Aa) (T:=TQ) (kp:=xP) (fn:= f211) (li:=0) (fun i=>[iD 0,iD 0,AL l,iD l.length,iD i]) [] l.length (fun i=>decide (l.getD i 0=0))
  (fun i=>(.ret,[iD (l.getD i 0),iD 0,AL l,iD l.length,iD i],[])) (.exit 0,[iD 0,iD 0,AL l,iD l.length,iD l.length],[])
  (fun i=>by intro e;cases e) (by intro e;cases e) 0 (l.length+1) (F9 _) (by omega)
  (fun i _ a hp=>by
   have p:=Jj (i:Int) 1 (by omega) (by omega);have m:(i:Int)<l.length:=by omega
   simp only[F5,G7 _ i 0 a]at hp;rw[eM];simp[m,GY _ _ a,hp,p])
  (fun i _ a hp=>by
   have m:(i:Int)<l.length:=by omega
   simp only[decide_eq_false_iff_not,G7 _ i 0 a]at hp;rw[eM];simp[m,GY _ _ a,hp];simp[a])
  (by rw[eM];simp)
 rcases hs with⟨b,c⟩|⟨i,q,b,c,o,n⟩
 ·have k:Um l=0:=by
   rw[XS l l.length fun j g=>by simpa using b j (F9 _) g,Mh];rfl
  simp only[Td]at c;simp[c,k]
 ·have k:Um l=l.getD i 0:=by
   rw[decide_eq_false_iff_not,G7 _ i 0 b]at c;rw[XS l i fun j g=>by simpa using o j (F9 _) g,QW b,Um,Aw c,G7 _ i 0 b]
  simp only[Td]at n;simp[n,k]
def qX:Ac D->Af D:=F2 BV BV fun a b=>some (iD (FP a b))
def Jyd:Bz Aa 227 qX:=GK (kp:=JaY) Ke AX func227 fun a b d h=>by
 cases h
 refine⟨0,_,?_,AY.refl _⟩;show BB (AB _ _ _ _ _ [iD a,iD b] [])=_;rw[JtQ];unfold FP;by_cases c:a<b
 ·simp[c]
 ·by_cases e:b<a<;>simp[c,e]
def SM(a b:Int)(H:Ae):Ak qX [iD a,iD b] H=some (iD (FP a b),H):=by rfl
def Tz:Ac D->Af D:=F1 KI fun c=>if 0<=c.k/\c.k.toNat<c.p.body.length then some (.agg (Cb (Bj c.p.body c.k)))else none
def JhR:Bz Aa 291 Tz:=FC (kp:=Jf9) Ke AX func291 fun c d h=>by
 split at h
 case isFalse=>cases h
 rename_i a;cases h;refine⟨0,_,?_,AY.refl _⟩;show BB (AB _ _ _ _ _ [DT c] [])=_;rw[Qe4];unfold AV Ce;have b:=Yu c.p.body c.k a.1 a.2;have e:Bj c.p.body c.k=c.p.body[c.k.toNat]:=by unfold Bj;exact G7 _ _ _ a.2
 have hs:=JaA [.cells 391 5 [iD c.p.params,AL c.p.vars,A8 c.p.body,iD c.k,iD c.n],.cells 44 2 [iD 0,iD 0]] 1 44 (iD 0) (iD 0) c.p.body[c.k.toNat] rfl;simp[ZV,b,e,hs];rfl
def sO(P:Aj):GT:=CO P TQ Tb 0 295
def Qck(ds:Ac D)(H:Ae):sO Aa ds H=AB Aa TQ Tb 0 f295 ds H:=CJ func295 ds H
def Jzh:BN Aa 295 (sO Aa):=CQ Ke AX func295
def Qey(l:Ac Nd)(H:Ae)(c:0<l.length)(g:l.length<=1000000):sO Aa [A8 l] H=some (.hs (H.length+1) l.length,H++[.dead,.cells 44 2 (Ei l)]):=by
 rw[Qck,JmR];have e:Ag .sl .eql (A8 l) Aq=some (bD false):=by
  cases l with
  |nil=>simp at c
  |cons x r=>rfl
 have b:DI 44 2 0 [iD 0,iD 0] [] H=some (.hs H.length 0,H++[.cells 44 2 []]):=rfl;have f:D5 44 2 (.hs H.length 0) (A8 l) (H++[.cells 44 2 []])=some (.hs (H.length+1) l.length,H++[.dead,.cells 44 2 (Ei l)]):=by
  unfold D5 KW;rw[tS,BR,Jhq];have d:(Ei l).length/2=l.length:=by rw[Ur];omega
  have a:(Ei l).length<=4000000:=by omega
  simp[d,a]
 simp[e,b,f]
def TX(P:Aj):Ac Cj:=(211,true,Ak De)::(227,true,Ak qX)::(291,true,Ak Tz)::(295,false,sO P)::Mt
def tM:∀p∈TX Aa,Ci Aa p:=AC (Bf Qcv)<|AC (Bf Jyd)<|AC (Bf JhR)<|AC (CB Jzh)<|Jaf
def iT(P:Aj):Tab:=⟨TX P,BM,[]⟩
def Hd:Bg Aa (iT Aa):=CU tM
def tQ:Ac Nat:=[]
def JuJ(n:Nat)(y z:D)(h:Ae):AB Aa (iT Aa) tQ n f154 [y,z] h=
(Ah (BA 103 y h) fun q F=>
Ah (BA 103 z F) fun w o=>
Ad (AP 0 q) fun E=>
Ad (Ai none o E) fun G=>
Ad (AP 0 w) fun B=>
Ad (Ai none o B) fun C=>
Ah (Ak kP [G,C] o) fun H c=>
Ad (AP 1 q) fun d=>
Ad (Ai none c d) fun x=>
Ad (AP 1 w) fun e=>
Ad (Ai none c e) fun g=>
Ah (Ak iC [x,g] c) fun u a=>
Ad (AP 2 q) fun k=>
Ad (Ai none a k) fun r=>
Ad (AP 2 w) fun l=>
Ad (Ai none a l) fun b=>
Ah (Ak iC [r,b] a) fun p v=>
Ah (DI 3 1 3 [(iD 0)] [(0,H),(1,u),(2,p)] v) fun s j=>
Ah (Ak De [s] j) fun m i=>
some (m,i)):=by kernel_rfl
def Jac:Ac Nat:=[]
def JmT(n:Nat)(u v:D)(h:Ae):AB Aa (iT Aa) Jac n f176 [u,v] h=
(Ah (BA 103 u h) fun b y=>
Ah (BA 103 v y) fun c j=>
AV 0 none j b fun z=>
AV 0 none j c fun x=>
Ah (Ak jX [z,x] j) fun w a=>
Ad (Ag .int .neq w (iD 0)) fun g=>
Az g
(some (w,a))
(AV 1 none a b fun i=>
AV 1 none a c fun q=>
Ad (Ag .int .neq i q) fun r=>
Az r
(AV 1 none a b fun m=>
AV 1 none a c fun e=>
Ah (Ak qX [m,e] a) fun k s=>
some (k,s))
(AV 2 none a b fun l=>
AV 2 none a c fun o=>
Ah (Ak qX [l,o] a) fun d p=>
some (d,p)))):=by kernel_rfl
def JeX:Ac Nat:=[]
def QeL(n:Nat)(k l:D)(h:Ae):AB Aa (iT Aa) JeX n f292 [k,l] h=
(Ah (BA 391 k h) fun j q=>
Ah (BA 44 l q) fun r g=>
Ad (AP 0 j) fun p=>
AV 2 none g p fun m=>
Ah ((sO Aa) [m] g) fun i c=>
AV 3 none c j fun a=>
Ad (Ai (some 2) c r) fun e=>
Ad (BG 2 i a) fun b=>
Ah (Bh 2 b e c) fun o d=>
some (i,d)):=by kernel_rfl
def Jcn:Ac Nat:=[]
def Joq(n:Nat)(j g i:D)(h:Ae):AB Aa (iT Aa) Jcn n f338 [j,g,i] h=
(Ah (BA 391 j h) fun e k=>
Ad (Ai (some 5) k e) fun q=>
Ah (Ak Tz [q] k) fun p a=>
Ad (Vb none 0 p) fun l=>
Ad (Ag .int .geq l g) fun m=>
Az m
(Ad (Ag .int .leq l i) fun o=>
Az o
(AV 4 none a e fun r=>
Ad (Ag .int .geq r g) fun b=>
Az b
(AV 4 none a e fun c=>
Ad (Ag .int .leq c i) fun d=>
some (d,a))
(some ((bD false),a)))
(some ((bD false),a)))
(some ((bD false),a))):=by kernel_rfl
def yC(x y:Int):FP x y=0↔x=y:=by
 unfold FP;split
 ·omega
 ·split<;>omega
def Jcc(x y:Int):FP y x= -FP x y:=by
 unfold FP;rcases sI x y with h|h|h
 ·rw[Aw h,Am (by omega),Aw h];rfl
 ·rw[Am (by omega),Am (by omega),Am (by omega),Am (by omega)];rfl
 ·rw[Aw h,Am (by omega),Aw h]
def Jab(x y:Int):FP x y<0↔x<y:=by
 unfold FP;split
 ·omega
 ·split<;>omega
def GH(a b:Dl):Int:=if FO a.path b.path≠0 then FO a.path b.path else if FP a.op b.op≠0 then FP a.op b.op else FP a.n b.n
def kH(a b:Dl):GH a b=0↔a=b:=by
 unfold GH;have g:=gM a.path b.path;have f:=yC a.op b.op;have d:=yC a.n b.n;obtain⟨p,o,n⟩:=a;obtain⟨q,u,m⟩:=b;simp only[Dl.mk.injEq]at*;split
 ·rename_i h;exact⟨fun e=>absurd e h,fun e=>absurd (g.2 e.1) h⟩
 ·rename_i h;have h:=Classical.not_not.1 h;split
  ·rename_i c;exact⟨fun e=>absurd e c,fun e=>absurd (f.2 e.2.1) c⟩
  ·rename_i c;have c:=Classical.not_not.1 c;exact⟨fun e=>⟨g.1 h,f.1 c,d.1 e⟩,fun e=>d.2 e.2.2⟩
def JkS(a b:Dl):GH b a= -GH a b:=by
 unfold GH;rw[Jh1 a.path b.path,Jcc a.op b.op,Jcc a.n b.n];generalize FO a.path b.path=x;generalize FP a.op b.op=y;generalize FP a.n b.n=z;by_cases h:x=0
 ·subst h;by_cases c:y=0
  ·subst c;simp
  ·simp[c]
 ·simp[h]
def Jvs{a b:Dl}(h:FO a.path b.path<0):GH a b<0:=by
 unfold GH;rw[Aw (by omega)];exact h
def LC(a b:Int):Ac Int:=(List.range (b-a).toNat).map (fun j:Nat=>a+(j:Int))
def Jx2(a:Int):LC a a=[]:=by simp[LC]
def Jgl(a b x:Int):x∈LC a b↔a<=x/\x<b:=by
 simp only[LC,GN,oZ];constructor
 ·omega
 ·rintro⟨d,c⟩;exact⟨(x-a).toNat,by omega,by omega⟩
def Jkl(a b c:Int)(e:a<=b)(d:b<=c):LC a b++LC b c=LC a c:=by
 unfold LC;rw[show(c-a).toNat=(b-a).toNat+(c-b).toNat from by omega,List.range_add,JE,List.map_map];congr 1;apply SY
 grind
def Jx6(a b:Int)(h:a<b):a::LC (a+1) b=LC a b:=by
 rw[<-Jkl a (a+1) b (by omega) (by omega)];have:LC a (a+1)=[a]:=by
  unfold LC;rw[show(a+1-a).toNat=1 from by omega];simp
 rw[this];rfl
def Jlr(a b:Int):(LC a b).Pairwise (· < ·):=by
 unfold LC;rw[sL];exact(List.pairwise_lt_range).imp (fun h=>by omega)
def E6(l:Ac Nd)(k:Nat)(h:0<=Bc l k)(c:Nat)(b:c<(AZ l k).length):(AZ l k)[c]=Fz l (k+1) c/\c<(Fv l k).toNat:=by
 have e:=jG l k h;have a:(AZ l k).length=(Fv l k).toNat:=by rw[e,mV]
 refine⟨?_,by omega⟩;have:(AZ l k)[c]=(KJ (Fz l (k+1)) (Fv l k).toNat)[c]'(by rw[mV];omega):=by
  congr 1
 rw[this];simp[KJ]
def Jvx(l:Ac Nd)(k:Nat)(h:0<=Bc l k):(AZ l k).length=(Fv l k).toNat:=by rw[jG l k h,mV]
theorem cB(l:Ac Nd):∀(f:Nat) (i:Int) (own:Ac Int),0<=Bc l i->(l.length:Int)<i+f->(GL f l i own).map (·.1)=LC i (Bc l i)
 |0,i,own,h,m=>by
  obtain⟨d,o⟩:=F6 l i h;omega
 |f+1,i,own,h,m=>by
  obtain⟨d,o⟩:=F6 l i h;obtain⟨k,rfl⟩:=Fq d;have key:∀c,c<=(AZ l k).length->(TB f l k own c).map (·.1)=LC (k+1) (Fz l (k+1) c):=by
   intro c
   induction c with
   |zero=>intro _;rw[Jxw];show[]=LC _ (k+1);rw[Jx2]
   |succ c n=>
    intro p;have a:c<(AZ l k).length:=by omega
    obtain⟨e,b⟩:=E6 l k h c a;have g:=aG l k h c b;have j:=Sf l k h c b;rw[Cz f l k own c a,JE,n (by omega),e,cB l f _ _ g.2.2.1 (by omega),j.2];exact Jkl _ _ _ (by omega) (by omega)
  rw[<-JgW,EP,key _ (BQ _),Jvx l k h,DG l k h];exact Jx6 _ _ (by have:=PH l k h;omega)
theorem tG(l:Ac Nd):∀(f:Nat) (i:Int) (own:Ac Int) (x:Int×Ac Int),x∈GL f l i own->∃q,x.2=own++q/\F8 l i q=x.1
 |0,i,own,x,h=>by
  obtain rfl:x=(i,own):=by simpa[GL]using h
  exact⟨[],by simp,rfl⟩
 |f+1,i,own,x,h=>by
  rw[GL,FY]at h;rcases h with rfl|h
  ·exact⟨[],by simp,rfl⟩
  ·obtain⟨⟨y,c⟩,a,b⟩:=zV.1 h;rw[Av]at a;obtain⟨e,g⟩:=CV.1 a;obtain⟨q,d,j⟩:=tG l f _ _ _ b;refine⟨(c:Int)::q,by rw[d];simp,?_⟩;rw[Q9 l i c q c rfl e]
   grind
theorem JdT(l:Ac Nd):∀(f:Nat) (q:Ac Int) (i:Int) (own:Ac Int),(l.length:Int)<i+f->0<=i->0<=F8 l i q->(F8 l i q,own++q)∈GL f l i own
 |f,[],i,own,_,_,_=>by
  rw[Lj];show(i,own)∈_;cases f with
  |zero=>simp[GL]
  |succ f=>rw[GL];simp
 |0,n::r,i,own,d,e,a=>by
  exfalso;have:AZ l i=[]:=AK l i (by
     rcases XG l i with c|c; · omega
     ·have:=(F6 l i c).2;omega)
  rw[VJ l i n r (by rw[this];simp)]at a;omega
 |f+1,n::r,i,own,d,e,a=>by
  by_cases h:0<=n/\n.toNat<(AZ l i).length
  ·obtain⟨j,rfl⟩:=Fq h.1;have b:j<(AZ l i).length:=by simpa using h.2
   have g:=dY l i j b;rw[Q9 l i j r j rfl b]at a⊢;rw[GL,FY];right;refine zV.2 ⟨((AZ l i)[j],j),?_,?_⟩
   ·grind
   ·have:=JdT l f r (AZ l i)[j] (own++[(j:Int)]) (by omega) (by omega) a
    grind
  ·rw[VJ l i n r h]at a;omega
theorem M5(l:Ac Nd):∀(p q:Ac Int) (i:Int),0<=i->0<=F8 l i p->F8 l i (p++q)=F8 l (F8 l i p) q
 |[],q,i,_,_=>rfl
 |n::r,q,i,c,b=>by
  by_cases h:0<=n/\n.toNat<(AZ l i).length
  ·obtain⟨j,rfl⟩:=Fq h.1;have a:j<(AZ l i).length:=by simpa using h.2
   have d:=dY l i j a;rw[Jd,Q9 l i j _ j rfl a];rw[Q9 l i j _ j rfl a]at b⊢;exact M5 l r q _ (by omega) b
  ·rw[VJ l i n r h]at b;omega
theorem xH(l:Ac Nd):∀(q:Ac Int) (i:Int),0<=Bc l i->0<=F8 l i q->i<=F8 l i q/\F8 l i q<Bc l i/\0<=Bc l (F8 l i q)
 |[],i,h,_=>⟨Ab _,PH l i h,h⟩
 |n::r,i,h,a=>by
  by_cases b:0<=n/\n.toNat<(AZ l i).length
  ·obtain⟨j,rfl⟩:=Fq b.1;have d:j<(AZ l i).length:=by simpa using b.2
   obtain⟨g,_⟩:=F6 l i h;obtain⟨k,rfl⟩:=Fq g;obtain⟨e,c⟩:=E6 l k h j d;have f:=aG l k h j c;rw[Q9 l k j r j rfl d]at a⊢;rw[e]at a⊢;have:=xH l r _ f.2.2.1 a;omega
  ·rw[VJ l i n r b]at a;omega
def JuP{L:Ac (Int×Ac Int)}(a:(L.map (·.1)).Pairwise (· < ·)){i:Int}{p:Ac Int}(h:(i,p)∈L):L.find? (fun x=>x.1==i)=some (i,p):=by
 induction L with
 |nil=>cases h
 |cons x r b=>
  rw[EP,oQ]at a;rcases FY.1 h with rfl|h
  ·simp
  ·have:=a.1 i (GN.2 ⟨_,h,rfl⟩)
   grind
section whole
variable {l : Ac Nd} (hw : Bc l 0 = l.length)
include hw
def Ex(i:Int)(p:Ac Int):Fa l i=some p↔(i,p)∈GL (l.length+1) l 0 []:=by
 have hp:=cB l (l.length+1) 0 [] (by omega) (by omega);have hs:((GL (l.length+1) l 0 []).map (·.1)).Pairwise (· < ·):=by rw[hp];exact Jlr _ _
 rw[Fa,Aw hw];constructor
 ·intro h;obtain⟨x,a,rfl⟩:=DV.1 h
  grind
 ·intro h;rw[JuP hs h];rfl
def qZ{i:Int}{p:Ac Int}(h:Fa l i=some p):F8 l 0 p=i:=by
 obtain⟨q,a,b⟩:=tG l _ _ _ _ ((Ex hw i p).1 h)
 grind
def Q2{i:Int}{p:Ac Int}(a:0<=i)(h:F8 l 0 p=i):Fa l i=some p:=by
 rw[Ex hw];have:=JdT l (l.length+1) p 0 [] (by omega) (by omega) (by omega)
 grind
def aZ(i:Int):(Fa l i).isSome↔0<=i/\i<l.length:=by
 have hp:=cB l (l.length+1) 0 [] (by omega) (by omega);rw[hw]at hp;constructor
 ·intro h;obtain⟨p,a⟩:=Y9.1 h;have c:=(Ex hw i p).1 a;have:i∈LC 0 l.length:=by grind
  rw[Jgl]at this;omega
 ·intro h;have:i∈LC 0 l.length:=by rw[Jgl];omega
  rw[<-hp]at this;obtain⟨x,b,rfl⟩:=GN.1 this;rw[(Ex hw x.1 x.2).2 b];rfl
def Jvk{i:Int}{p:Ac Int}(h:Fa l i=some p)(n:Nat)(a:n<(AZ l i).length):Fa l (AZ l i)[n]=some (p++[(n:Int)]):=by
 have c:=dY l i n a;refine Q2 hw (by omega) ?_;have b:=qZ hw h;rw[M5 l p [(n:Int)] 0 (by omega) (by omega),b,Q9 l i n [] n rfl a];rfl
def Qdp{i:Int}(h:0<i)(u:i<l.length):∃(j:Nat) (n:Nat),(j:Int)<i/\∃y:n<(AZ l j).length,(AZ l j)[n]=i:=by
 obtain⟨p,hp⟩:=Y9.1 ((aZ hw i).2 ⟨by omega,u⟩);have w:=qZ hw hp;rcases List.eq_nil_or_concat p with rfl|⟨q,n,rfl⟩
 ·have:F8 l 0 []=0:=rfl;omega
 ·have a:F8 l 0 (q++[n])=i:=by simpa using w
  have f:0<=F8 l 0 q:=by
   rcases Int.lt_or_le (F8 l 0 q) 0 with t|e
   ·exfalso;have:∀(q:Ac Int) (k:Int),F8 l k q<0->0<=k->F8 l k (q++[n])= -1:=by
     intro q
     induction q with
     |nil=>intro k g x;have:F8 l k []=k:=rfl;omega
     |cons m r z=>
      intro k g x;by_cases b:0<=m/\m.toNat<(AZ l k).length
      ·obtain⟨j,rfl⟩:=Fq b.1;have d:j<(AZ l k).length:=by simpa using b.2
       have v:=dY l k j d;rw[Jd,Q9 l k j _ j rfl d];rw[Q9 l k j _ j rfl d]at g
       grind
      ·rw[Jd,VJ l k m _ b]
    grind
   ·exact e
  rw[M5 l q [n] 0 (by omega) f]at a;obtain⟨j,d⟩:=Fq f;rw[d]at a;by_cases b:0<=n/\n.toNat<(AZ l j).length
  ·obtain⟨c,rfl⟩:=Fq b.1;have o:c<(AZ l j).length:=by simpa using b.2
   have v:=dY l j c o;rw[Q9 l j c [] c rfl o]at a;have s:(AZ l j)[c]=i:=a
   grind
  ·rw[VJ l j n [] b]at a;omega
end whole
def Joe{l:Ac Nd}{k:Nat}{x:Nd}(h:l[k]? =some x):Bj l k=x:=by
 obtain⟨a,e⟩:=CV.1 h;unfold Bj;rw[NL,G7 _ _ _ a,e]
def ZN(l:Ac Nd)(k:Nat)(a:k<l.length):Bj l k=l[k]:=Joe (FQ a)
def Jdr(l:Ac Nd)(k:Nat)(b:0<=Bc l k)(h:(Bj l k).1=25):0<=Bc l ((k+1:Nat):Int)/\Bc l ((k+1:Nat):Int)=Bc l k/\k+1<l.length:=by
 obtain⟨f,c,a⟩:=wJ b;rw[ZN l k f]at h;have e:Fv l k=1:=by
  rw[a];generalize l[k]=x at*;obtain⟨t,m⟩:=x;simp only at h c;subst h;exact JjF c
 obtain⟨g,i,d⟩:=CK b (by omega);exact⟨g,JpA b e,d⟩
def JK(p:Pg)(d:Dl):Pg×Int:=
 if Jk p.body d.path<0 then(⟨0,[],[]⟩,16)else
 if Iw (Bj p.body (Jk p.body d.path)) d.op d.n then(⟨p.params,p.vars,Gw p.body (Jk p.body d.path).toNat (Bj p.body (Jk p.body d.path)) d.op d.n⟩,0)else(⟨0,[],[]⟩,17)
def JkK{l:Ac Nd}{p:Ac Int}(h:0<=Jk l p):∃k:Nat,Jk l p=k/\k<l.length/\0<=Bc l k/\l[k]? =some (Bj l k)/\Bc l 0=l.length:=by
 unfold Jk at h⊢;split at h
 ·rename_i b;rw[Aw b];have:=xH l p 0 (by omega) h;obtain⟨k,c⟩:=Fq h;rw[c]at this⊢;have a:k<l.length:=by omega
  exact⟨k,rfl,a,this.2.2,by rw[ZN _ _ a];exact FQ a,b⟩
 ·omega
def JkV{l:Ac Nd}{k:Nat}{x:Nd}{op n:Int}(d:Bc l 0=l.length)(e:0<=Bc l k)(b:l[k]? =some x)(f:Iw x op n):0<(Gw l k x op n).length:=by
 obtain⟨a,_⟩:=Ja1 d e x b f;refine Decidable.byContradiction fun g=> ?_;have c:Gw l k x op n=[]:=NK.1 (by omega);rw[c]at a;revert a;decide
def NR(l:Ac Nd)(k:Nat)(op n:Int):Ac Nd:=if Iw (Bj l k) op n then Gw l k (Bj l k) op n else[]
def JmZ(p:Pg)(d:Dl):(Jk p.body d.path<0/\JK p d=(⟨0,[],[]⟩,16))\/∃k:Nat,Jk p.body d.path=k/\k<p.body.length/\0<=Bc p.body k/\p.body[k]? =some (Bj p.body k)/\Bc p.body 0=p.body.length/\
  ((¬Iw (Bj p.body k) d.op d.n/\JK p d=(⟨0,[],[]⟩,17))\/(Iw (Bj p.body k) d.op d.n/\JK p d=(⟨p.params,p.vars,Gw p.body k (Bj p.body k) d.op d.n⟩,0))):=by
 by_cases h:Jk p.body d.path<0
 ·exact .inl ⟨h,by unfold JK;rw[Aw h]⟩
 ·obtain⟨k,b,f,e,c,g⟩:=JkK (l:=p.body) (p:=d.path) (by omega);refine .inr ⟨k,b,f,e,c,g,?_⟩;by_cases a:Iw (Bj p.body k) d.op d.n
  ·refine .inr ⟨a,?_⟩;unfold JK;rw[b,Am (by omega),Aw a];rfl
  ·refine .inl ⟨a,?_⟩;unfold JK;rw[b,Am (by omega),Am a]
end Go.Proofs.YtapdelkomkpgmaaGreatDoor
