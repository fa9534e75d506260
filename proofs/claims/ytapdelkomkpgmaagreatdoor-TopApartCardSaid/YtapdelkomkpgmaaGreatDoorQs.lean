import Derived.Test.YtapdelkomkpgmaaGreatDoorQr
namespace Go.Proofs.YtapdelkomkpgmaaGreatDoor
open Go.Proofs.Tryz
open Go.RowKit
set_option maxRecDepth 100000
set_option linter.all false
section
open Go.RowKit Go.Shelf
attribute [local go_sem] Oper.semAt_some
set_option maxHeartbeats 1000000 in
def Qbv(l:Ac Nd)(v:Ap)(w:AA)(S:Nat->Prop)(hS:∀k,S k->k<w.heap.size)(hv:E8 S w v l)(h0:0<l.length)(hl:l.length<=1000000):
  Calls prog 295 #[v] w fun e w'=>∃u,e= .returned u/\w'.ownsRow w.heap.size 44 2 u l.length (Gz l)/\Below w.heap.size w w':=by
 obtain⟨i0,hi,hz0,hz1,hz2⟩:=info_parts wQ;have qT:∀(w:AA) (a:Af Addr) (n c n' c':Nat),(binOp .eql 23 (.slice a n c) (.slice none n' c')).run prog w= .ok (.bool a.isNone) w:=fun w a n c n' c'=>Lib.run_eql_slice_nil w _ _ a n c n' c' underlying23;rcases hv.open with⟨rfl,_⟩|⟨b,o,cap,rfl,hpos,hcap,hbs,hcell⟩
 ·simp at h0
 ·go_enter func295,ntmps295;have hv2:=hv.kept (Tq (NZ w (.cells #[] 44)) hS);go_wp2_with (at_builtin;refine PA rfl _ _ 23 rfl w.heap.size 44 i0 (.agg #[.int .i64 0,.int .i64 0]) 2 16 underlying23 hi hz0 hz1 hz2 rfl (by decide) _ _ _ rfl (Dm w w.heap.size 44 2 (BQ _)) _ l.length _ rfl hv2 (by rw[Wi];omega) (Pk l) (by unfold maxLen;omega) (by omega) (by simp) ?_;intro v' w3 hown' hgrow);go_ret;refine⟨_,rfl,by simpa using hown',((Below.refl _ _).alloc (BQ _) _).grown hgrow (by simp) (fun j hj=> ?_)⟩;exact((Dm w w.heap.size 44 2 (BQ _)).lt j hj).1
def X7(l:Ac Nd)(k:Nat)(n:Int):Ac Nd:=if((Bj l k).1=23\/(Bj l k).1=24)/\n=0 then l.take (k+1)++(6,0)::l.drop (k+1)else[]
def Kn(w:AA)(a b:Int):(Instr.field 44 (.agg #[.int .i64 a,.int .i64 b]) 0).run prog w= .ok (.int .i64 a) w:=by
 simp[Instr.field,go_sem,asAgg]
def JtJ(v u:Ap):Prop:=∀(g n c b m e:Nat),v= .slice (some ⟨g,0,none⟩) n c->u= .slice (some ⟨b,0,none⟩) m e->g≠b
def Qfm(base:Nat)(V:AA)(u:Ap):Prop:=∃a,u= .slice (some ⟨a,0,none⟩) 1 1/\V.heap[a]? =some (.cells #[.int .i64 6,.int .i64 0] 44 (0,0))/\base<=a
def jL(base:Nat)(l:Ac Nd)(x y:Bool)(V:AA)(v u:Ap):Prop:=
 (x=true->V.ownsRow base 44 2 v l.length (Gz l))/\(y=true->Qfm base V u)/\(x=true->y=true->JtJ v u)
def JwG{base:Nat}{l:Ac Nd}{y:Bool}{V d:AA}{v k u:Ap}(h:jL base l false y V v u)(p:d.ownsRow V.heap.size 44 2 k l.length (Gz l))(x:Below V.heap.size V d)(s:base<=V.heap.size):jL base l true y d k u:=by
 obtain⟨B,r,C⟩:=h;refine⟨fun _=>Jcm p s,fun f=> ?_,fun _ f=> ?_⟩
 ·obtain⟨i,e,a,j⟩:=r f;exact⟨i,e,(x.block _ (IY.1 a).1).trans a,j⟩
 ·obtain⟨i,e,a,j⟩:=r f;intro g n c b m E ev o;rw[e]at o;cases o;have w:=(IY.1 a).1;rcases p.2 with⟨q,_⟩|⟨D,cap,z,q,A,_⟩
  ·rw[q]at ev;cases ev
  grind
def JmF{base:Nat}{l:Ac Nd}{x:Bool}{V:AA}{v u:Ap}(h:jL base l x false V v u)(f:base<=V.heap.size):
  jL base l x true (V.alloc (.cells #[.int .i64 6,.int .i64 0] 44)) v (.slice (some ⟨V.heap.size,0,none⟩) 1 1):=by
 obtain⟨d,r,p⟩:=h;refine⟨fun a=>SZ (d a) (NZ V _),fun _=>⟨V.heap.size,rfl,heap_alloc_new V _,f⟩,fun a _=> ?_⟩;intro g n c b m s ev i;cases i;rcases(d a).2 with⟨e,_⟩|⟨q,cap,j,e,k,o,_⟩
 ·rw[e]at ev;cases ev
 grind
def Jko{base:Nat}{V:AA}{b c:Nat}{A:CX Ap}{l:Ac Nd}(a:V.heap[b]? =some (.cells A 44 (0,0)))(d:base<=b)(f:l.length<=c)(e:0<l.length)(h:A.toList.take (2*l.length)=Gz l):
  Rep (fun k=>base<=k/\k<V.heap.size) [] V (.slice (some ⟨b,0,none⟩) l.length c) (A8 l):=by
 refine fP (.inr ⟨b,0,c,rfl,e,f,⟨d,(IY.1 a).1⟩,fun j g=> ?_⟩);rw[EE,KZ a]
 grind
def JrU{base:Nat}{l:Ac Nd}{V:AA}{v u:Ap}{k:Nat}(h:jL base l true true V v u)(C:k+1<l.length)(W:l.length<=300000)(z:base<=V.heap.size):
  Calls prog 294 #[v,.int .i64 ((k+1:Nat):Int),u] V fun e p=>∃r,e= .returned r/\Rep (fun k=>base<=k/\k<p.heap.size) [] p r (A8 (l.take (k+1)++(6,0)::l.drop (k+1)))/\Below base V p:=by
 obtain⟨N,Q,P⟩:=h;obtain⟨S,B⟩:=N rfl;obtain⟨q,rfl,E,U⟩:=Q rfl;rcases B with⟨_,B⟩|⟨g,cap,a,rfl,L,w,I,G,D,F⟩
 ·omega
 have o:q≠g:=fun e=>P rfl rfl g _ _ q _ _ rfl rfl e.symm;have b:(l.take (k+1)++(6,0)::l.drop (k+1)).length=l.length+1:=by simp;omega
 have n:a.toList.take (2*l.length)=Gz l:=by rw[SQ];exact F
 have i:∀x∈a.toList.take (2*l.length),x.oneCell'=true:=by rw[n];exact Pk l
 have d:∀A:CX Ap,A.toList.take (2*(l.length+1))=a.toList.take (2*(k+1))++[.int .i64 6,.int .i64 0]++(a.toList.take (2*l.length)).drop (2*(k+1))->A.toList.take (2*(l.length+1))=Gz (l.take (k+1)++(6,0)::l.drop (k+1)):=by
  intro A O;have H:a.toList.take (2*(k+1))=Gz (l.take (k+1)):=by
   have:a.toList.take (2*(k+1))=(a.toList.take (2*l.length)).take (2*(k+1)):=by rw[List.take_take,Nat.min_eq_left (by omega)]
   rw[this,n];have e:Gz l=Gz (l.take (k+1))++Gz (l.drop (k+1)):=by rw[<-E2,Zd]
   rw[e];exact Ax (by rw[Wi,eG];omega)
  have J:(a.toList.take (2*l.length)).drop (2*(k+1))=Gz (l.drop (k+1)):=by
   rw[n];have e:Gz l=Gz (l.take (k+1))++Gz (l.drop (k+1)):=by rw[<-E2,Zd]
   rw[e];exact pK (by rw[Wi,eG];omega)
  rw[O,H,J,E2];have K:Gz ((6,0)::l.drop (k+1))=[.int .i64 6,.int .i64 0]++Gz (l.drop (k+1)):=by simp[Gz]
  rw[K,FV]
 by_cases m:l.length+1<=cap
 ·refine(JeI.room g l.length cap (k+1) q 1 a #[.int .i64 6,.int .i64 0] _ (.int .i64 6) (.int .i64 0) V C m G w D E rfl rfl rfl rfl o i).mono ?_;rintro e p ⟨A,rfl,rfl,R,s⟩;have y:(V.drew.setRow g A).heap[g]? =some (.cells A 44 (0,0)):=setRow_heap V.drew g a A _ _ w;refine⟨_,rfl,?_,⟨rfl,rfl,rfl,by simp,fun j T=>setRow_other V.drew g j A (by omega)⟩⟩;have:=Jko (base:=base) (l:=l.take (k+1)++(6,0)::l.drop (k+1)) y L (c:=cap) (by omega) (by omega) (by rw[b];exact d A s);rw[b]at this;exact this
 ·refine(JeI.grow g l.length cap (k+1) q 1 a #[.int .i64 6,.int .i64 0] _ (.int .i64 6) (.int .i64 0) V C I (by omega) (by omega) w D E rfl rfl rfl rfl o i).mono ?_;rintro e p ⟨A,M,rfl,rfl,X,Y,R,s⟩;have y:(V.drew.drew.alloc (.cells A 44)).heap[V.heap.size]? =some (.cells A 44 (0,0)):=heap_alloc_new V.drew.drew _;refine⟨_,rfl,?_,(Below.refl _ _).drew.drew.alloc z _⟩;have:=Jko (base:=base) (l:=l.take (k+1)++(6,0)::l.drop (k+1)) y z (c:=M) (by omega) (by omega) (by rw[b];exact d A s);rw[b]at this;exact this
def JeP{base:Nat}{V b:AA}{v:Ap}{d:D}(h:Rep (fun k=>base<=k/\k<V.heap.size) [] V v d)(c:Below V.heap.size V b):Rep (fun k=>base<=k/\k<b.heap.size) [] b v d:=
 Rep.kept ⟨c.size,fun k a=>c.block k a.2⟩ (fun k a=>⟨a.1,OM a.2 c.size⟩) (fun i p e=>e) _ _ h
set_option maxHeartbeats 2000000 in
set_option maxRecDepth 100000 in
def Qbq(l:Ac Nd)(k:Nat)(n:Int)(s:Int)(P y:Ap)(w:AA)(S:Nat->Prop)(hS:∀k,S k->k<w.heap.size)(vs:Ac Int)(a1:Rep S [] w P (AL vs))(aw:Rep S [] w y (A8 l))(ay:k<l.length)(ar:((Bj l k).1=23\/(Bj l k).1=24)/\n=0->k+1<l.length)(hl:l.length<=300000):
  Calls prog 258 #[.agg #[.int .i64 s,P,y,.int .i64 k,.int .i64 n]] w fun e w'=>∃u,e= .returned u/\Rep (fun k=>w.heap.size<=k/\k<w'.heap.size) [] w' u (A8 (X7 l k n))/\Below w.heap.size w w':=by
 have a0:=Nq (Rr l) aw;have hx:Bj l k=l[k]:=by unfold Bj;rw[NL];exact G7 _ _ _ ay
 have j:∀W:AA,Below w.heap.size w W->Calls prog 291 #[.agg #[.int .i64 s,P,y,.int .i64 k,.int .i64 n]] W fun e w'=>e= .returned (.agg #[.int .i64 l[k].1,.int .i64 l[k].2])/\Below W.heap.size W w':=fun W hW=>by
  have H:Kept S w W:=Tq hW hS;have ax:∀k,S k->k<W.heap.size:=fun k hk=>OM (hS k hk) hW.size;have hr:Au S [] W [.agg #[.int .i64 s,P,y,.int .i64 k,.int .i64 n]] [DT ⟨⟨s,vs,l⟩,k,n⟩]:=by
   simp only[Au,DT,lK,Rep];have O:=Rep.kept H (fun _ h=>h) (fun i p hi=>hi) _ _ a1;have h2:=Rep.kept H (fun _ h=>h) (fun i p hi=>hi) _ _ aw;exact⟨_,[],rfl,⟨_,rfl,_,_,rfl,rfl,_,_,rfl,O,_,_,rfl,h2,_,_,rfl,rfl,_,_,rfl,rfl,rfl⟩,rfl⟩
  have hF:Tz [DT ⟨⟨s,vs,l⟩,k,n⟩]=some (.agg (Cb l[k])):=by
   have:Tz [DT ⟨⟨s,vs,l⟩,k,n⟩]=_:=EO (A:=KI) _ (⟨⟨s,vs,l⟩,k,n⟩:LZ)
   grind
  refine(JhR.calls _ _ hF S _ W ax hr).mono ?_;rintro e w' ⟨v,rfl,O,h2⟩;refine⟨?_,h2⟩;simp only[Rep,Cb,Au]at O
  grind
 rw[hx]at ar;generalize hX:l[k]=x at*;obtain⟨x1,x2⟩:=x;simp only at j;have q:∀(V:AA),Below (w.alloc (.cells #[.int .i64 s,P,y,.int .i64 k,.int .i64 n] 391)).heap.size (w.alloc (.cells #[.int .i64 s,P,y,.int .i64 k,.int .i64 n] 391)) V->
   V.cell? ⟨w.heap.size,2,none⟩=some y/\V.cell? ⟨w.heap.size,3,none⟩=some (.int .i64 k)/\V.cell? ⟨w.heap.size,4,none⟩=some (.int .i64 n):=fun V hV=>by
  have hz:w.heap.size<(w.alloc (.cells #[.int .i64 s,P,y,.int .i64 k,.int .i64 n] 391)).heap.size:=by simp
  exact⟨(hV.cell (p:=⟨w.heap.size,2,none⟩) hz).trans (Jk2 (w:=w) _ _ _ _ rfl),(hV.cell (p:=⟨w.heap.size,3,none⟩) hz).trans (Jk2 (w:=w) _ _ _ _ rfl),(hV.cell (p:=⟨w.heap.size,4,none⟩) hz).trans (Jk2 (w:=w) _ _ _ _ rfl)⟩
 have a:Below w.heap.size w (w.alloc (.cells #[.int .i64 s,P,y,.int .i64 k,.int .i64 n] 391)):=NZ _ _;refine(callsIn_wide (n:=0)).1 ?_;refine callsIn_of_wp_marks func258 rfl trivial ?_ rfl;simp only[ntmps258,SX,Ej,Hf,Nat.reduceAdd,Nat.reduceSub,Zf,Zg,Zh,Zi,JO,Jd];by_cases O:(x1=23\/x1=24)/\n=0
 ·have hk:k+1<l.length:=ar O;have G:X7 l k n=l.take (k+1)++(6,0)::l.drop (k+1):=by unfold X7;rw[hx];exact Aw O
  rw[G];have ap:prog.follows .mixedOrders=true:=by kernel_rfl
  obtain⟨rfl|rfl,rfl⟩:=O
  all_goals
   gi_wp2_with (first|(gi_at_call 291;refine(callsIn_wide.2 (j _ a)).mono ?_;rintro e w1 ⟨rfl,c⟩;obtain⟨g2,g3,g4⟩:=q _ c)|simp only[Kn])
   have a2:w.heap.size<w1.heap.size:=by have:=c.size;simp at this;omega
   obtain⟨am,ac⟩:∃am:(Nat->Bool)->Act->AA->Prop,am=(fun d a' Z=>∃(u0 u3 u4 u5 u6 u7 u8 u9 al ai ae ag ak ad af aj X ab J Y U aa Q R T D v2:Ap),a'={tmps:= #[u0,.pointer (some ⟨w.heap.size,0,none⟩),v2,u3,u4,u5,u6,u7,u8,u9,al,ai,ae,ag,ak,ad,af,aj,X,ab,J,Y,U,aa,Q,R,T,D],defers:=[]}/\Below w1.heap.size w1 Z/\
    (d 0=true->X= .pointer (some ⟨w.heap.size,0,none⟩))/\(d 1=true->ab= .pointer (some ⟨w.heap.size,2,none⟩))/\(d 2=true->J=y)/\(d 4=true->U= .pointer (some ⟨w.heap.size,3,none⟩))/\(d 5=true->aa= .int .i64 k)/\(d 6=true->Q= .int .i64 ((k+1:Nat):Int))/\(d 7=true->R= .agg #[.int .i64 6,.int .i64 0])/\
    (d 9=false->jL w1.heap.size l (d 3) (d 8) Z Y T)/\(d 9=true->Rep (fun k=>w1.heap.size<=k/\k<Z.heap.size) [] Z D (A8 (l.take (k+1)++(6,0)::l.drop (k+1))))/\(d 10=true->d 9=true/\v2=D)):=⟨_,rfl⟩
   have r:=Lib.hid ac;clear ac;refine Jkb ap am (by kernel_rfl) ?_ ?_ ?_
   ·rw[r.out];exact⟨_,_,_,_,_,_,_,_,_,_,_,_,_,_,_,_,_,_,_,_,_,_,_,_,_,_,_,rfl,(Below.refl _ _).drew,(fun h=>by cases h),(fun h=>by cases h),(fun h=>by cases h),(fun h=>by cases h),(fun h=>by cases h),(fun h=>by cases h),(fun h=>by cases h),(fun _=>⟨(fun h=>by cases h),(fun h=>by cases h),(fun h=>by cases h)⟩),(fun h=>by cases h),(fun h=>by cases h)⟩
   ·refine⟨?_,?_,?_,?_,?_,?_,?_,?_,?_,?_,?_,trivial⟩
    all_goals
     intro d a' Z K hd b hI hK;rw[r.out]at hI;obtain⟨u0,u3,u4,u5,u6,u7,u8,u9,al,ai,ae,ag,ak,ad,af,aj,X,ab,J,Y,U,aa,Q,R,T,D,v2,rfl,m,E,I,N,F,L,C,M,B,z,g⟩:=hI;rw[Aw (show Region.wanted _ _=true from rfl)];have an:Below (w.alloc (.cells #[.int .i64 s,P,y,.int .i64 k,.int .i64 0] 391)).heap.size (w.alloc (.cells #[.int .i64 s,P,y,.int .i64 k,.int .i64 0] 391)) Z:=c.trans (m.mono c.size);obtain⟨q2,q3,q4⟩:=q _ an
    ·gi_wp2
     rw[r.out];exact⟨_,_,_,_,_,_,_,_,_,_,_,_,_,_,_,_,_,_,_,_,_,_,_,_,_,_,_,rfl,m,(fun _=>rfl),I,N,F,L,C,M,B,z,g⟩
    ·obtain rfl:=E (b ⟨0,.data⟩ (by simp) rfl)
     gi_wp2
     rw[r.out];exact⟨_,_,_,_,_,_,_,_,_,_,_,_,_,_,_,_,_,_,_,_,_,_,_,_,_,_,_,rfl,m,(fun _=>rfl),(fun _=>rfl),N,F,L,C,M,B,z,g⟩
    ·obtain rfl:=I (b ⟨1,.data⟩ (by simp) rfl)
     gi_wp2
     rw[r.out];exact⟨_,_,_,_,_,_,_,_,_,_,_,_,_,_,_,_,_,_,_,_,_,_,_,_,_,_,_,rfl,m,E,(fun _=>rfl),(fun _=>rfl),F,L,C,M,B,z,g⟩
    ·obtain rfl:=N (b ⟨2,.data⟩ (by simp) rfl);have az:E8 (fun k=>S k) Z J l:=a0.kept (Tq (a.trans (an.mono a.size)) hS)
     gi_wp2_with (gi_at_call 295;refine(callsIn_wide.2 (Qbv l _ _ S (fun k hk=>OM (hS k hk) (a.trans (an.mono a.size)).size) az (by omega) (by omega))).mono ?_;rintro e V2 ⟨u2,rfl,ah,o⟩)
     rw[r.out];exact⟨_,_,_,_,_,_,_,_,_,_,_,_,_,_,_,_,_,_,_,_,_,_,_,_,_,_,_,rfl,m.trans (o.mono m.size),E,I,(fun _=>rfl),F,L,C,M,(fun h9=>JwG (by have:=B h9;rw[hd]at this;exact this) ah o m.size),(fun h=>JeP (z h) o),g⟩
    ·gi_wp2
     rw[r.out];exact⟨_,_,_,_,_,_,_,_,_,_,_,_,_,_,_,_,_,_,_,_,_,_,_,_,_,_,_,rfl,m,E,I,N,(fun _=>rfl),L,C,M,B,z,g⟩
    ·obtain rfl:=F (b ⟨4,.data⟩ (by simp) rfl)
     gi_wp2
     rw[r.out];exact⟨_,_,_,_,_,_,_,_,_,_,_,_,_,_,_,_,_,_,_,_,_,_,_,_,_,_,_,rfl,m,E,I,N,(fun _=>rfl),(fun _=>rfl),C,M,B,z,g⟩
    ·obtain rfl:=L (b ⟨5,.data⟩ (by simp) rfl)
     gi_wp2
     rw[r.out];exact⟨_,_,_,_,_,_,_,_,_,_,_,_,_,_,_,_,_,_,_,_,_,_,_,_,_,_,_,rfl,m,E,I,N,F,(fun _=>rfl),(fun _=>by go_num),M,B,z,g⟩
    ·gi_wp2
     rw[r.out];exact⟨_,_,_,_,_,_,_,_,_,_,_,_,_,_,_,_,_,_,_,_,_,_,_,_,_,_,_,rfl,m,E,I,N,F,L,C,(fun _=>rfl),B,z,g⟩
    ·obtain rfl:=M (b ⟨7,.data⟩ (by simp) rfl);have o:=NZ Z (.cells #[.int .i64 6,.int .i64 0] 44)
     gi_wp2
     rw[r.out];exact⟨_,_,_,_,_,_,_,_,_,_,_,_,_,_,_,_,_,_,_,_,_,_,_,_,_,_,_,rfl,m.trans (o.mono m.size),E,I,N,F,L,C,(fun _=>rfl),(fun h9=>JmF (by have:=B h9;rw[hd]at this;exact this) m.size),(fun h=>JeP (z h) o),g⟩
    ·obtain rfl:=C (b ⟨6,.data⟩ (by simp) rfl);have hm:=B hd;rw[b ⟨3,.data⟩ (by simp) rfl,b ⟨8,.data⟩ (by simp) rfl]at hm
     gi_wp2_with (gi_at_call 294;refine(callsIn_wide.2 (JrU hm hk hl m.size)).mono ?_;rintro e V2 ⟨u2,rfl,ah,o⟩)
     rw[r.out];exact⟨_,_,_,_,_,_,_,_,_,_,_,_,_,_,_,_,_,_,_,_,_,_,_,_,_,_,_,rfl,m.trans o,E,I,N,F,L,(fun _=>by go_num),M,(fun h=>by rw[Lu]at h;cases h),(fun _=>ah),(fun h=>by have:=(g h).1;grind)⟩
    ·have h9:=b ⟨9,.data⟩ (by simp) rfl
     gi_wp2
     rw[r.out];exact⟨_,_,_,_,_,_,_,_,_,_,_,_,_,_,_,_,_,_,_,_,_,_,_,_,_,_,_,rfl,m,E,I,N,F,L,C,M,B,z,(fun _=>⟨h9,rfl⟩)⟩
   ·intro d a' Z aq hI;rw[r.out]at hI;obtain⟨u0,u3,u4,u5,u6,u7,u8,u9,al,ai,ae,ag,ak,ad,af,aj,X,ab,J,Y,U,aa,Q,R,T,D,v2,rfl,m,E,I,N,F,L,C,M,B,z,g⟩:=hI;obtain⟨h9,rfl⟩:=g (aq 10 (by decide));have ao:=z h9
    gi_wp2
    exact⟨_,results_tmp rfl _ _ _,v2,rfl,Rep.kept (Kept.refl _ _) (fun k hk=>⟨by have:=hk.1;omega,hk.2⟩) (fun i p hi=>hi) _ _ ao,(a.trans (c.mono a.size)).trans (m.mono (by omega))⟩
 have G:X7 l k n=[]:=by unfold X7;rw[hx];exact Am O
 rw[G];by_cases au:x1=23
 ·have hn:¬n=0:=fun e=>O ⟨.inl au,e⟩;subst au
  gi_wp2_with (first|(gi_at_call 291;refine(callsIn_wide.2 (j _ a)).mono ?_;rintro e w1 ⟨rfl,c⟩;obtain⟨g2,g3,g4⟩:=q _ c)|simp only[Kn])
  exact⟨_,results_tmp rfl _ _ _,.slice none 0 0,rfl,by simp only[A8,J7,Rep];grind,a.trans (c.mono a.size)⟩
 by_cases av:x1=24
 ·have hn:¬n=0:=fun e=>O ⟨.inr av,e⟩;subst av
  gi_wp2_with (first|(gi_at_call 291;refine(callsIn_wide.2 (j _ a)).mono ?_;rintro e w1 ⟨rfl,c⟩;obtain⟨g2,g3,g4⟩:=q _ c)|simp only[Kn])
  exact⟨_,results_tmp rfl _ _ _,.slice none 0 0,rfl,by simp only[A8,J7,Rep];grind,a.trans (c.mono a.size)⟩
 ·gi_wp2_with (first|(gi_at_call 291;refine(callsIn_wide.2 (j _ a)).mono ?_;rintro e w1 ⟨rfl,c⟩;obtain⟨g2,g3,g4⟩:=q _ c)|simp only[Kn])
  exact⟨_,results_tmp rfl _ _ _,.slice none 0 0,rfl,by simp only[A8,J7,Rep];grind,a.trans (c.mono a.size)⟩
def uI:Ac D->Af D:=F1 KI fun c=>if 0<=c.k/\c.k<c.p.body.length/\(((Bj c.p.body c.k).1=23\/(Bj c.p.body c.k).1=24)/\c.n=0->c.k+1<c.p.body.length)/\c.p.body.length<=300000 then some (A8 (X7 c.p.body c.k.toNat c.n))else none
def JqR:Bz Aa 258 uI:=by
 refine⟨⟨_,func258,by decide,rfl⟩,fun ds d a S vs W w o=> ?_⟩;unfold uI F1 at a;split at a
 ·rename_i C;obtain⟨c,x,a⟩:=Bi.1 a;split at a
  case isFalse=>cases a
  rename_i g;cases a;have b:Au S [] W vs [DT c]:=(Gt.cons (KI.ok _ _ x) .nil:Gt _ _).rep o;obtain⟨⟨q,t,l⟩,k,n⟩:=c;obtain⟨k,rfl⟩:=Fq g.1;simp only[Au,DT,lK,Rep]at b;obtain⟨_,_,rfl,⟨_,rfl,_,_,rfl,rfl,y,_,rfl,j,r,_,rfl,m,_,_,rfl,rfl,_,_,rfl,rfl,rfl⟩,rfl⟩:=b;simp only[NL]at g⊢;refine(Qbq l k n q y r W S w t j m (by omega) (fun h=>by omega) g.2.2.2).mono ?_;rintro e B ⟨u,rfl,s,z⟩;exact⟨u,rfl,Rep.kept (Kept.refl _ _) (fun k v=> .inr v) (fun i p b=>b) _ _ s,z⟩
 ·cases a
end
def JxT(t:AQ)(a b c:Int)(H:Ae):DI t 1 3 [iD 0] [(0,iD a),(1,iD b),(2,iD c)] H=some (.hs H.length 3,H++[.cells t 1 [iD a,iD b,iD c]]):=rfl
def Jo2(d e:HO)(t:AQ)(a b c:Int):Ak De [.hs 2 3] [d,e,.cells t 1 [iD a,iD b,iD c]]=some (iD (Um [a,b,c]),[d,e,.cells t 1 [iD a,iD b,iD c]]):=by rfl
def Qcg(a b:Dl):Um [FO a.path b.path,FP a.op b.op,FP a.n b.n]=GH a b:=by
 unfold GH;simp only[Um];omega
def P8:Ac D->Af D:=F2 Pj Pj fun a b=>if a.path.length<=3000000/\b.path.length<=3000000 then some (iD (GH a b))else none
def Mx:Bz Aa 154 P8:=GK (kp:=tQ) Hd AX func154 fun a b d h=>by
 split at h
 case isFalse=>cases h
 rename_i c;cases h;refine⟨0,_,?_,AY.refl _⟩;show BB (AB _ _ _ _ _ [Em a,Em b] [])=_;rw[JuJ,<-Qcg];simp[JxN _ _ _ c.1 c.2,Qe3,JxT,Jo2]
def JhF:Bz Aa 176 P8:=GK (kp:=Jac) Hd AX func176 fun a b d h=>by
 split at h
 case isFalse=>cases h
 rename_i c;cases h;refine⟨0,_,?_,AY.refl _⟩;show BB (AB _ _ _ _ _ [Em a,Em b] [])=_;rw[JmT];unfold AV;unfold GH;by_cases j:FO a.path b.path=0
 ·by_cases g:a.op=b.op
  ·have i:FP a.op b.op=0:=(yC _ _).2 g;rw[g]at i;simp[cV _ _ _ c.1 c.2,SM,j,g,i]
  ·have i:¬FP a.op b.op=0:=fun e=>g ((yC _ _).1 e);simp[cV _ _ _ c.1 c.2,SM,j,g,i]
 ·simp[cV _ _ _ c.1 c.2,SM,j]
def yO(c:LZ)(H:Ae)(a:0<=c.k)(b:c.k.toNat<c.p.body.length):Ak Tz [DT c] H=some (.agg (Cb (Bj c.p.body c.k)),H):=by
 rw[CP _ _ _ rfl];have:Tz [DT c]=_:=EO (A:=KI) _ c
 grind
def QcV(H:Ae)(id:Nat)(t:AQ)(l:Ac Nd)(k:Nat)(x:Nd)(a:k<l.length)(h:H[id]? =some (.cells t 2 (Ei l))):Bh 2 (.hp id (k*2)) (.agg (Cb x)) H=some (.v undef,H.set id (.cells t 2 (Ei (l.set k x)))):=by
 have b:k*2+2<=(Ei l).length:=by rw[Ur];omega
 rw[Qeo l k x a,SQ 2 k];simp[Bh,FI,h,Cb,D7,b]
def aP:Ac D->Af D:=F2 KI tH fun c x=>if 0<=c.k/\c.k.toNat<c.p.body.length/\c.p.body.length<=1000000 then some (A8 (c.p.body.set c.k.toNat x))else none
def JuO:Bz Aa 292 aP:=GK (kp:=JeX) Hd AX func292 fun c x d h=>by
 split at h
 case isFalse=>cases h
 rename_i o;cases h;obtain⟨j,a,e⟩:=o;obtain⟨⟨m,vs,l⟩,k,n⟩:=c;obtain⟨k,rfl⟩:=Fq j;simp only[NL]at a e⊢;refine⟨0,_,?_,AY.refl _⟩;show BB (AB _ _ _ _ _ [DT ⟨⟨m,vs,l⟩,k,n⟩,.agg (Cb x)] [])=_;rw[QeL];unfold AV;have b:=Qey l [.cells 391 5 [iD m,AL vs,A8 l,iD k,iD n],.cells 44 2 [iD x.1,iD x.2]] (by omega) e;have p:BG 2 (.hs 3 l.length) (iD k)=some (.hp 3 (k*2)):=by
  simp[BG,a]
 have hs:=QcV [.cells 391 5 [iD m,AL vs,A8 l,iD k,iD n],.cells 44 2 [iD x.1,iD x.2],.dead,.cells 44 2 (Ei l)] 3 44 l k x a rfl;have g:=Jto [.cells 391 5 [iD m,AL vs,A8 l,iD k,iD n],.cells 44 2 [iD x.1,iD x.2],.dead,.cells 44 2 (Ei (l.set k x))] 44 3 (l.set k x) rfl;rw[Za]at g;have i:D.agg [iD x.1,iD x.2]= .agg (Cb x):=rfl;simp at b;simp[b,p,i,hs,g]
def sK:Ac D->Af D:=F3 KI BV BV fun c b a=>if 0<=c.k/\c.k.toNat<c.p.body.length then some (bD (decide (b<=(Bj c.p.body c.k).1/\(Bj c.p.body c.k).1<=a/\b<=c.n/\c.n<=a)))else none
def Jo3:Bz Aa 338 sK:=V4 (kp:=Jcn) Hd AX func338 fun c g l d h=>by
 split at h
 case isFalse=>cases h
 rename_i k;cases h;refine⟨0,_,?_,AY.refl _⟩;show BB (AB _ _ _ _ _ [DT c,iD g,iD l] [])=_;rw[Joq];unfold AV;have b:=fun H=>yO c H k.1 k.2;have a:D.agg [iD c.p.params,AL c.p.vars,A8 c.p.body,iD c.k,iD c.n]=DT c:=rfl;generalize Bj c.p.body c.k=x at*;by_cases e:g<=x.1
 ·by_cases i:x.1<=l
  ·by_cases j:g<=c.n
   ·simp[b,a,e,i,j]
   ·simp[b,a,e,i,j]
  ·simp[b,a,e,i]
 ·simp[b,a,e]
def JqO{x:Nd}{op n:Int}(h:Iw x op n):op=1\/op=2\/op=3\/op=4\/op=5\/op=6\/(op=7/\x.1=25):=by
 rcases h with h|h|h|h|h|h|h
 ·exact .inl h.1
 ·exact .inr (.inl h.1)
 ·omega
 ·omega
 ·omega
 ·omega
 omega
def M4(P:Aj):Ac Cj:=(154,true,Ak P8)::(176,true,Ak P8)::(292,true,Ak aP)::(338,true,Ak sK)::(258,true,Ak uI)::TX P
def JiO:∀p∈M4 Aa,Ci Aa p:=AC (Bf Mx)<|AC (Bf JhF)<|AC (Bf JuO)<|AC (Bf Jo3)<|AC (Bf JqR)<|tM
def ZG(P:Aj):Tab:=⟨M4 P,BM,[]⟩
def vI:Bg Aa (ZG Aa):=CU JiO
def JeV:Ac Nat:=[]
def Jzd(n:Nat)(b c:D)(h:Ae):AB Aa (ZG Aa) JeV n f186 [b,c] h=
(Ah (BA 103 b h) fun e j=>
Ah (BA 103 c j) fun k a=>
Ad (Ai (some 3) a e) fun g=>
Ad (Ai (some 3) a k) fun l=>
Ah (Ak P8 [g,l] a) fun d i=>
Ad (Ag .int .eql d (iD 0)) fun m=>
some (m,i)):=by kernel_rfl
def Jae:Ac Nat:=[]
def JjM(n:Nat)(k m o:D)(h:Ae):AB Aa (ZG Aa) Jae n f290 [k,m,o] h=
(Ah (BA 391 k h) fun b l=>
Ad (Ai (some 5) l b) fun s=>
Ah (Ak sK [s,m,o] l) fun r a=>
Ad (Gn r) fun u=>
Az u
(some (Aq,a))
(Ad (Ai (some 5) a b) fun p=>
Ad (AP 4 b) fun q=>
Ad (Ai none a q) fun v=>
Ad (Ai (some 5) a b) fun w=>
Ah (Ak Tz [w] a) fun c i=>
Ad (Vb none 1 c) fun d=>
Ad (CY [(0,1),(1,1)] [(iD 0),(iD 0)] [(0,v),(1,d)]) fun e=>
Ah (Ak aP [p,e] i) fun j g=>
some (j,g))):=by kernel_rfl
def Jje:Ac Nat:=[]
def Nf(n:Nat)(L:D)(h:Ae):AB Aa (ZG Aa) Jje n f256 [L] h=
(Ah (BA 391 L h) fun b K=>
Ad (Ai (some 5) K b) fun Q=>
Ah (Ak Tz [Q] K) fun N O=>
Ah (BX 44 [(iD 0),(iD 0)] O) fun c M=>
Ah (Bh 2 c N M) fun R a=>
Ad (AP 0 c) fun P=>
Ad (Ai none a P) fun j=>
Ad (Ag .int .neq j (iD 1)) fun J=>
Az J
(Ad (AP 0 c) fun l=>
Ad (Ai none a l) fun o=>
Ad (Ag .int .neq o (iD 2)) fun G=>
Az G
(some (Aq,a))
(Ad (AP 4 b) fun H=>
Ad (Ai none a H) fun r=>
Ad (Ag .int .lss r (iD 0)) fun y=>
Az y
(some (Aq,a))
(Ad (AP 4 b) fun s=>
Ad (Ai none a s) fun i=>
Ad (Ag .int .gtr i (iD 1)) fun w=>
Az w
(some (Aq,a))
(Ad (Ai (some 5) a b) fun k=>
Ad (AP 0 c) fun F=>
Ad (Ai none a F) fun x=>
Ad (AP 4 b) fun v=>
Ad (Ai none a v) fun E=>
Ad (CY [(0,1),(1,1)] [(iD 0),(iD 0)] [(0,x),(1,E)]) fun g=>
Ah (Ak aP [k,g] a) fun I p=>
some (I,p)))))
(Ad (Ai (some 5) a b) fun e=>
Ad (AP 0 c) fun C=>
Ad (Ai none a C) fun m=>
Ad (AP 4 b) fun B=>
Ad (Ai none a B) fun z=>
Ad (CY [(0,1),(1,1)] [(iD 0),(iD 0)] [(0,m),(1,z)]) fun d=>
Ah (Ak aP [e,d] a) fun q u=>
some (q,u))):=by kernel_rfl
def JfY:Ac Nat:=[]
def cT(n:Nat)(x0:D)(h:Ae):AB Aa (ZG Aa) JfY n f257 [x0] h=
(Ah (BA 391 x0 h) fun b h1=>
Ad (Ai (some 5) h1 b) fun y2=>
Ah (Ak Tz [y2] h1) fun y3 a=>
Ad (Vb none 0 y3) fun c=>
Ad (Ag .int .eql c (iD 21)) fun y6=>
Az y6
(Ad (AP 4 b) fun y7=>
Ad (Ai none a y7) fun y8=>
Ad (Ag .int .eql y8 (iD 0)) fun y9=>
Az y9
(Ad (AP 0 b) fun m=>
Ad (AP 2 m) fun ax=>
Ad (Ai none a ax) fun o=>
Ad (AP 3 b) fun p=>
Ad (Ai none a p) fun O=>
Ad (CY [(0,1),(1,1)] [(iD 0),(iD 0)] [(0,(iD 26))]) fun av=>
Ah (DI 44 2 1 [(iD 0),(iD 0)] [(0,av)] a) fun x L=>
Ah (DX PM [o,O,x] L) fun aa u=>
some (aa,u))
(some (Aq,a)))
(Ad (Ag .int .eql c (iD 22)) fun aj=>
Az aj
(Ad (AP 4 b) fun l=>
Ad (Ai none a l) fun M=>
Ad (Ag .int .eql M (iD 0)) fun G=>
Az G
(Ad (AP 0 b) fun ad=>
Ad (AP 2 ad) fun ar=>
Ad (Ai none a ar) fun d=>
Ad (AP 3 b) fun aw=>
Ad (Ai none a aw) fun y=>
Ad (CY [(0,1),(1,1)] [(iD 0),(iD 0)] [(0,(iD 26))]) fun e=>
Ah (DI 44 2 1 [(iD 0),(iD 0)] [(0,e)] a) fun aq k=>
Ah (DX PM [d,y,aq] k) fun ao ac=>
some (ao,ac))
(some (Aq,a)))
(Ad (Ag .int .eql c (iD 23)) fun g=>
Az g
(Ad (AP 4 b) fun r=>
Ad (Ai none a r) fun i=>
Ad (Ag .int .eql i (iD 0)) fun W=>
Az W
(Ad (AP 0 b) fun ah=>
Ad (AP 2 ah) fun al=>
Ad (Ai none a al) fun S=>
Ad (AP 3 b) fun U=>
Ad (Ai none a U) fun ay=>
Ad (CY [(0,1),(1,1)] [(iD 0),(iD 0)] [(0,(iD 26))]) fun C=>
Ah (DI 44 2 1 [(iD 0),(iD 0)] [(0,C)] a) fun R am=>
Ah (DX PM [S,ay,R] am) fun ap V=>
some (ap,V))
(some (Aq,a)))
(Ad (Ag .int .eql c (iD 24)) fun v=>
Az v
(Ad (AP 4 b) fun s=>
Ad (Ai none a s) fun K=>
Ad (Ag .int .eql K (iD 0)) fun ak=>
Az ak
(Ad (AP 0 b) fun J=>
Ad (AP 2 J) fun q=>
Ad (Ai none a q) fun B=>
Ad (AP 3 b) fun z=>
Ad (Ai none a z) fun ai=>
Ad (CY [(0,1),(1,1)] [(iD 0),(iD 0)] [(0,(iD 26))]) fun I=>
Ah (DI 44 2 1 [(iD 0),(iD 0)] [(0,I)] a) fun an Y=>
Ah (DX PM [B,ai,an] Y) fun ab ag=>
some (ab,ag))
(some (Aq,a)))
(Ad (Ag .int .eql c (iD 25)) fun F=>
Az F
(Ad (AP 4 b) fun X=>
Ad (Ai none a X) fun T=>
Ad (Ag .int .eql T (iD 0)) fun au=>
Az au
(Ad (AP 0 b) fun N=>
Ad (AP 2 N) fun E=>
Ad (Ai none a E) fun j=>
Ad (AP 3 b) fun w=>
Ad (Ai none a w) fun af=>
Ad (CY [(0,1),(1,1)] [(iD 0),(iD 0)] [(0,(iD 26))]) fun H=>
Ah (DI 44 2 1 [(iD 0),(iD 0)] [(0,H)] a) fun Q P=>
Ah (DX PM [j,af,Q] P) fun ae Z=>
some (ae,Z))
(some (Aq,a)))
(some (Aq,a))))))):=by kernel_rfl
def JhN:Ac Nat:=[]
def zP(n:Nat)(p:D)(h:Ae):AB Aa (ZG Aa) JhN n f259 [p] h=
(Ah (BA 391 p h) fun b q=>
Ad (Ai (some 5) q b) fun v=>
Ah (Ak Tz [v] q) fun u a=>
Ad (Vb none 0 u) fun w=>
Ad (Ag .int .neq w (iD 25)) fun r=>
Az r
(some (Aq,a))
(Ad (AP 0 b) fun s=>
Ad (AP 2 s) fun x=>
Ad (Ai none a x) fun y=>
Ad (AP 3 b) fun c=>
Ad (Ai none a c) fun l=>
Ad (Ag .int .add l (iD 1)) fun d=>
Ad (AP 4 b) fun e=>
Ad (Ai none a e) fun j=>
Ad (CY [(0,1),(1,1)] [(iD 0),(iD 0)] [(0,(iD 1)),(1,j)]) fun k=>
Ah (DI 44 2 1 [(iD 0),(iD 0)] [(0,k)] a) fun m g=>
Ah (DX PM [y,d,m] g) fun o i=>
some (o,i))):=by kernel_rfl
def AI(a b:Dl)(H:Ae)(d:a.path.length<=3000000)(c:b.path.length<=3000000):Ak P8 [Em a,Em b] H=some (iD (GH a b),H):=by
 rw[CP _ _ _ rfl];have:P8 [Em a,Em b]=_:=JU (A:=Pj) (B:=Pj) _ a b
 grind
def JcO(c:LZ)(x:Nd)(H:Ae)(a:0<=c.k)(b:c.k.toNat<c.p.body.length)(d:c.p.body.length<=1000000):Ak aP [DT c,.agg (Cb x)] H=some (A8 (c.p.body.set c.k.toNat x),H):=by
 rw[CP _ _ _ rfl];have:aP [DT c,.agg (Cb x)]=_:=JU (A:=KI) (B:=tH) _ c x
 grind
def JnH(c:LZ)(b a:Int)(H:Ae)(d:0<=c.k)(e:c.k.toNat<c.p.body.length):Ak sK [DT c,iD b,iD a] H=some (bD (decide (b<=(Bj c.p.body c.k).1/\(Bj c.p.body c.k).1<=a/\b<=c.n/\c.n<=a)),H):=by
 rw[CP _ _ _ rfl];have:sK [DT c,iD b,iD a]=_:=V6 (A:=KI) (B:=BV) (C:=BV) _ c b a
 grind
def Ji0(l:Ac Nd)(i:Int)(x:Nd)(o:HO)(t:AQ)(a:l.length<=3000000):DX PM [A8 l,iD i,.hs 1 1] [o,.cells t 2 [iD x.1,iD x.2]]=some (A8 (I5 l i [x]),[o,.cells t 2 [iD x.1,iD x.2]]):=by
 have b:[A8 l,iD i,D.hs 1 1].mapM (Dh [o,.cells t 2 [iD x.1,iD x.2]] 9)=some [A8 l,iD i,A8 [x]]:=by rfl
 rw[KM _ _ _ _ rfl b];simp[PM,a]
abbrev LZ.fits(c:LZ):Prop:=0<=c.k/\c.k.toNat<c.p.body.length/\c.p.body.length<=300000
def Km:Ac D->Af D:=F2 Pj Pj fun a b=>if a.path.length<=3000000/\b.path.length<=3000000 then some (bD (decide (a=b)))else none
def Tl:Bz Aa 186 Km:=GK (kp:=JeV) vI AX func186 fun a b d h=>by
 split at h
 case isFalse=>cases h
 rename_i c;cases h;refine⟨0,_,?_,AY.refl _⟩;show BB (AB _ _ _ _ _ [Em a,Em b] [])=_;rw[Jzd];have e:(GH a b==0)=decide (a=b):=by
  rw[rI];simp[kH]
 simp[JqN,AI _ _ _ c.1 c.2,e]
def Z4(l:Ac Nd)(k:Nat)(n b a:Int):Ac Nd:=if b<=(Bj l k).1/\(Bj l k).1<=a/\b<=n/\n<=a then l.set k (n,(Bj l k).2)else[]
def aT:Ac D->Af D:=F3 KI BV BV fun c b a=>if c.fits then some (A8 (Z4 c.p.body c.k.toNat c.n b a))else none
def JyC:Bz Aa 290 aT:=V4 (kp:=Jae) vI AX func290 fun c a b d h=>by
 split at h
 case isFalse=>cases h
 rename_i l;cases h;obtain⟨g,i,n⟩:=l;have j:=fun H=>yO c H g i;have k:=fun H=>JnH c a b H g i;have hp:=fun x H=>JcO c x H g i (by omega);have m:((c.k.toNat:Nat):Int)=c.k:=by omega
 unfold Z4;rw[m];generalize Bj c.p.body c.k=x at*;by_cases e:a<=x.1/\x.1<=b/\a<=c.n/\c.n<=b
 ·refine⟨0,_,?_,AY.refl _⟩;show BB (AB _ _ _ _ _ [DT c,iD a,iD b] [])=_;rw[JjM,Aw e];simp[LV,j,k,e,sW,hp]
 ·refine⟨0,Aq,?_,by rw[Am e];exact AY.nil 2⟩;show BB (AB _ _ _ _ _ [DT c,iD a,iD b] [])=_;rw[JjM];simp[LV,j,k,e,sW,hp]
def DB(l:Ac Nd)(k:Nat)(n:Int):Ac Nd:=if(Bj l k).1=1\/((Bj l k).1=2/\0<=n/\n<=1)then l.set k ((Bj l k).1,n)else[]
def Hj:Ac D->Af D:=F1 KI fun c=>if c.fits then some (A8 (DB c.p.body c.k.toNat c.n))else none
def Jn5:Bz Aa 256 Hj:=FC (kp:=Jje) vI AX func256 fun c d h=>by
 split at h
 case isFalse=>cases h
 rename_i m;cases h;obtain⟨k,l,p⟩:=m;have b:=fun H=>yO c H k l;have hp:=fun x H=>JcO c x H k l (by omega);have n:((c.k.toNat:Nat):Int)=c.k:=by omega
 unfold DB;rw[n];generalize Bj c.p.body c.k=x at*;have o:=ZV 44 [.cells 391 5 [iD c.p.params,AL c.p.vars,A8 c.p.body,iD c.k,iD c.n]];have hs:=JaA [.cells 391 5 [iD c.p.params,AL c.p.vars,A8 c.p.body,iD c.k,iD c.n],.cells 44 2 [iD 0,iD 0]] 1 44 (iD 0) (iD 0) x rfl;have a:(Cb x)[0]? =some (iD x.1):=rfl;by_cases g:x.1=1
 ·refine⟨0,_,?_,AY.refl _⟩;show BB (AB _ _ _ _ _ [DT c] [])=_;rw[Nf,Aw (.inl g)];simp[LV,b,ZV,hs,a,g,sW,hp]
 ·by_cases t2:x.1=2/\0<=c.n/\c.n<=1
  ·refine⟨0,_,?_,AY.refl _⟩;show BB (AB _ _ _ _ _ [DT c] [])=_;rw[Nf,Aw (.inr t2)];have e:¬c.n<0:=by omega
   have i:¬1<c.n:=by omega
   simp[LV,b,ZV,hs,a,t2.1,e,i,sW,hp]
  ·refine⟨0,Aq,?_,by rw[Am (by omega)];exact AY.nil 2⟩;show BB (AB _ _ _ _ _ [DT c] [])=_;rw[Nf];by_cases j:x.1=2
   ·by_cases e:c.n<0
    ·simp[LV,b,ZV,hs,a,j,e]
    ·have i:1<c.n:=by omega
     simp[LV,b,ZV,hs,a,j,e,i]
   ·simp[LV,b,ZV,hs,a,g,j]
def GW(l:Ac Nd)(k:Nat)(n:Int):Ac Nd:=if((Bj l k).1=21\/(Bj l k).1=22\/(Bj l k).1=23\/(Bj l k).1=24\/(Bj l k).1=25)/\n=0 then I5 l k [(26,0)]else[]
def E9:Ac D->Af D:=F1 KI fun c=>if c.fits then some (A8 (GW c.p.body c.k.toNat c.n))else none
def Qek:Bz Aa 257 E9:=FC (kp:=JfY) vI AX func257 fun c d h=>by
 split at h
 case isFalse=>cases h
 rename_i q;cases h;obtain⟨o,r,u⟩:=q;have a:=fun H=>yO c H o r;have s:((c.k.toNat:Nat):Int)=c.k:=by omega
 unfold GW;rw[s];generalize Bj c.p.body c.k=x at*;have l:=Ji0 c.p.body c.k (26,0) (.cells 391 5 [iD c.p.params,AL c.p.vars,A8 c.p.body,iD c.k,iD c.n]) 44 (by omega);by_cases b:c.n=0
 ·by_cases ht:x.1=21\/x.1=22\/x.1=23\/x.1=24\/x.1=25
  ·refine⟨0,_,?_,AY.refl _⟩;show BB (AB _ _ _ _ _ [DT c] [])=_;rw[cT,Aw ⟨ht,b⟩];obtain⟨p,k,n⟩:=c;simp only at b a l;subst b;have m:D.agg [iD p.params,AL p.vars,A8 p.body,iD k,iD 0]=DT ⟨p,k,0⟩:=rfl;rcases ht with ht|ht|ht|ht|ht<;>simp[m,a,ht,JmN,eO,l]
  ·refine⟨0,Aq,?_,by rw[Am (fun h=>ht h.1)];exact AY.nil 2⟩;show BB (AB _ _ _ _ _ [DT c] [])=_;rw[cT];have g:¬x.1=21:=by omega
   have t2:¬x.1=22:=by omega
   have j:¬x.1=23:=by omega
   have e:¬x.1=24:=by omega
   have i:¬x.1=25:=by omega
   simp[LV,a,g,t2,j,e,i]
 ·refine⟨0,Aq,?_,by rw[Am (fun h=>b h.2)];exact AY.nil 2⟩;show BB (AB _ _ _ _ _ [DT c] [])=_;rw[cT];by_cases g:x.1=21
  ·simp[LV,a,b,g]
  by_cases t2:x.1=22
  ·simp[LV,a,b,t2]
  by_cases j:x.1=23
  ·simp[LV,a,b,j]
  by_cases e:x.1=24
  ·simp[LV,a,b,e]
  by_cases i:x.1=25
  ·simp[LV,a,b,i]
  simp[LV,a,g,t2,j,e,i]
def Ge(l:Ac Nd)(k:Nat)(n:Int):Ac Nd:=if(Bj l k).1=25 then I5 l ((k+1:Nat):Int) [(1,n)]else[]
def Kh:Ac D->Af D:=F1 KI fun c=>if c.fits then some (A8 (Ge c.p.body c.k.toNat c.n))else none
def JyJ:Bz Aa 259 Kh:=FC (kp:=JhN) vI AX func259 fun c d h=>by
 split at h
 case isFalse=>cases h
 rename_i j;cases h;obtain⟨g,k,m⟩:=j;have b:=fun H=>yO c H g k;have l:((c.k.toNat:Nat):Int)=c.k:=by omega
 have a:((c.k.toNat+1:Nat):Int)=c.k+1:=by omega
 unfold Ge;rw[l,a];generalize Bj c.p.body c.k=x at*;have e:=Ji0 c.p.body (c.k+1) (1,c.n) (.cells 391 5 [iD c.p.params,AL c.p.vars,A8 c.p.body,iD c.k,iD c.n]) 44 (by omega);have i:=Jj c.k 1 (by omega) (by omega);by_cases ht:x.1=25
 ·refine⟨0,_,?_,AY.refl _⟩;show BB (AB _ _ _ _ _ [DT c] [])=_;rw[zP,Aw ht];simp[LV,b,ht,sW,eO,i,e]
 ·refine⟨0,Aq,?_,by rw[Am ht];exact AY.nil 2⟩;show BB (AB _ _ _ _ _ [DT c] [])=_;rw[zP];simp[LV,b,ht]
def wI(t:AQ)(H:Ae):BX t [iD 0,Aq,Aq] H=some (.hp H.length 0,H++[.cells t 3 [iD 0,Aq,Aq]]):=rfl
def JtW(H:Ae)(i:Nat)(t:AQ)(a b c x y z:D)(h:H[i]? =some (.cells t 3 [a,b,c]))(d:Df x=true)(e:Df y=true)(f:Df z=true):Bh 3 (.hp i 0) (.agg [x,y,z]) H=some (.v undef,H.set i (.cells t 3 [x,y,z])):=by
 simp[Bh,FI,h,D7,d,e,f]
def JkC(m:Int)(vs:Ac Int)(l:Ac Nd):CY [(0,1),(1,1),(2,1)] [iD 0,Aq,Aq] [(0,iD m),(1,AL vs),(2,A8 l)]=some (.agg [iD m,AL vs,A8 l]):=rfl
def nO:CY [(0,1),(1,1),(2,1)] [iD 0,Aq,Aq] []=some (.agg [iD 0,Aq,Aq]):=rfl
def xU:AY (.agg [iD 0,Aq,Aq]) (Be ⟨0,[],[]⟩):=AY.agg (.cons (AY.refl _) (.cons (AY.nil 1) (.cons (AY.nil 2) .nil)))
abbrev aW(p:Pg)(d:Dl):Prop:=p.vars.length<=300000/\p.body.length<=300000/\d.path.length<=300000
def qO:Ac D->Af D:=F2 Ef Pj fun p d=>if aW p d then some (.tup [Be (JK p d).1,iD (JK p d).2])else none
def Se(P:Aj):Ac Cj:=(186,true,Ak Km)::(290,true,Ak aT)::(256,true,Ak Hj)::(257,true,Ak E9)::(259,true,Ak Kh)::M4 P
def JfE:∀p∈Se Aa,Ci Aa p:=AC (Bf Tl)<|AC (Bf JyC)<|AC (Bf Jn5)<|AC (Bf Qek)<|AC (Bf JyJ)<|JiO
def uH(P:Aj):Tab:=⟨Se P,BM,[]⟩
def cG:Bg Aa (uH Aa):=CU JfE
def JgO:Ac Nat:=[]
def JkA(n:Nat)(b:D)(h:Ae):AB Aa (uH Aa) JgO n f253 [b] h=
(Ah (BA 391 b h) fun g a=>
Ad (Ai (some 5) a g) fun e=>
Ah (Ak aT [e,(iD 7),(iD 11)] a) fun c d=>
some (c,d)):=by kernel_rfl
def Jiz:Ac Nat:=[]
def Qfc(n:Nat)(b:D)(h:Ae):AB Aa (uH Aa) Jiz n f254 [b] h=
(Ah (BA 391 b h) fun g a=>
Ad (Ai (some 5) a g) fun e=>
Ah (Ak aT [e,(iD 12),(iD 17)] a) fun c d=>
some (c,d)):=by kernel_rfl
def Jds:Ac Nat:=[]
def QdI(n:Nat)(b:D)(h:Ae):AB Aa (uH Aa) Jds n f255 [b] h=
(Ah (BA 391 b h) fun g a=>
Ad (Ai (some 5) a g) fun e=>
Ah (Ak aT [e,(iD 18),(iD 19)] a) fun c d=>
some (c,d)):=by kernel_rfl
def Ty(c:LZ)(b a:Int)(H:Ae)(h:c.fits):Ak aT [DT c,iD b,iD a] H=some (A8 (Z4 c.p.body c.k.toNat c.n b a),H):=by
 rw[CP _ _ _ rfl];have:aT [DT c,iD b,iD a]=_:=V6 (A:=KI) (B:=BV) (C:=BV) _ c b a;rw[this,Aw h];rfl
def rZ(b a:Int):Ac D->Af D:=F1 KI fun c=>if c.fits then some (A8 (Z4 c.p.body c.k.toNat c.n b a))else none
def NO:Ac D->Af D:=rZ 7 11
def Ok:Ac D->Af D:=rZ 12 17
def mA:Ac D->Af D:=rZ 18 19
def JxO:Bz Aa 253 NO:=FC (kp:=JgO) cG AX func253 fun c d h=>by
 split at h
 case isFalse=>cases h
 rename_i a;cases h;refine⟨0,_,?_,AY.refl _⟩;show BB (AB _ _ _ _ _ [DT c] [])=_;rw[JkA];simp[LV,Ty c _ _ _ a]
def JuD:Bz Aa 254 Ok:=FC (kp:=Jiz) cG AX func254 fun c d h=>by
 split at h
 case isFalse=>cases h
 rename_i a;cases h;refine⟨0,_,?_,AY.refl _⟩;show BB (AB _ _ _ _ _ [DT c] [])=_;rw[Qfc];simp[LV,Ty c _ _ _ a]
def Jlo:Bz Aa 255 mA:=FC (kp:=Jds) cG AX func255 fun c d h=>by
 split at h
 case isFalse=>cases h
 rename_i a;cases h;refine⟨0,_,?_,AY.refl _⟩;show BB (AB _ _ _ _ _ [DT c] [])=_;rw[QdI];simp[LV,Ty c _ _ _ a]
def cE(P:Aj):Ac Cj:=(253,true,Ak NO)::(254,true,Ak Ok)::(255,true,Ak mA)::Se P
def Jfd:∀p∈cE Aa,Ci Aa p:=AC (Bf JxO)<|AC (Bf JuD)<|AC (Bf Jlo)<|JfE
def P9(P:Aj):Tab:=⟨cE P,BM,[]⟩
def JpK:Bg Aa (P9 Aa):=CU Jfd
def Jfu:Ac Nat:=[]
def G2(n:Nat)(W X:D)(h:Ae):AB Aa (P9 Aa) Jfu n f201 [W,X] h=
(Ah (BA 25 W h) fun p h1=>
Ah (BA 103 X h1) fun j h3=>
Ah (BX 25 [(iD 0),Aq,Aq] h3) fun b h5=>
Ad (XX 1 [BI,BI,BI,BI,BI,BI,BI,BI] [(0,BI),(1,(.clo (.func 253) [] [])),(2,(.clo (.func 254) [] [])),(3,(.clo (.func 255) [] [])),(4,(.clo (.func 256) [] [])),(5,(.clo (.func 257) [] [])),(6,(.clo (.func 258) [] [])),(7,(.clo (.func 259) [] []))]) fun Z=>
Dw 392 [BI,BI,BI,BI,BI,BI,BI,BI] 8 Z h5 fun y7 d=>
AV 2 none d p fun r=>
AV 0 none d j fun E=>
Ah (Ak kS [r,E] d) fun o a=>
Ad (Ag .int .lss o (iD 0)) fun N=>
Az N
(Ad (CY [(0,1),(1,1),(2,1)] [(iD 0),Aq,Aq] []) fun J=>
Ah (Bh 3 b J a) fun ad e=>
Ad (Ai (some 3) e b) fun q=>
some (.tup [q,(iD 16)],e))
(AV 1 none a j fun C=>
Ad (Ag .int .lss C (iD 1)) fun K=>
Az K
(Ad (CY [(0,1),(1,1),(2,1)] [(iD 0),Aq,Aq] []) fun U=>
Ah (Bh 3 b U a) fun Y g=>
Ad (Ai (some 3) g b) fun y=>
some (.tup [y,(iD 17)],g))
(AV 1 none a j fun T=>
Ad (Ag .int .geq T (iD 8)) fun s=>
Az s
(Ad (CY [(0,1),(1,1),(2,1)] [(iD 0),Aq,Aq] []) fun R=>
Ah (Bh 3 b R a) fun ac l=>
Ad (Ai (some 3) l b) fun v=>
some (.tup [v,(iD 17)],l))
(AV 1 none a j fun I=>
Ad (Ec 8 1 y7 I) fun L=>
Ad (Ai none a L) fun P=>
Ad (Ai (some 3) a p) fun G=>
AV 2 none a j fun V=>
Ad (CY [(0,3),(3,1),(4,1)] [(iD 0),Aq,Aq,(iD 0),(iD 0)] [(0,G),(1,o),(2,V)]) fun B=>
Ah (C9 (P9 Aa) P [B] a) fun k c=>
Ad (Bq .sl k) fun S=>
Ad (Ag .int .eql S (iD 0)) fun F=>
Az F
(Ad (CY [(0,1),(1,1),(2,1)] [(iD 0),Aq,Aq] []) fun w=>
Ah (Bh 3 b w c) fun ab i=>
Ad (Ai (some 3) i b) fun O=>
some (.tup [O,(iD 17)],i))
(AV 0 none c p fun u=>
AV 1 none c p fun z=>
Ah (DX iZ [z] c) fun M H=>
Ad (CY [(0,1),(1,1),(2,1)] [(iD 0),Aq,Aq] [(0,u),(1,M),(2,k)]) fun Q=>
Ah (Bh 3 b Q H) fun aa m=>
Ad (Ai (some 3) m b) fun x=>
some (.tup [x,(iD 0)],m)))))):=by kernel_rfl
def eJ(l:Ac Nd)(k:Nat)(n b a op:Int)(h:(op=1/\b=7/\a=11)\/(op=2/\b=12/\a=17)\/(op=3/\b=18/\a=19)):Z4 l k n b a=NR l k op n:=by
 have d:Iw (Bj l k) op n↔b<=(Bj l k).1/\(Bj l k).1<=a/\b<=n/\n<=a:=by
  unfold Iw;rcases h with⟨rfl,rfl,rfl⟩|⟨rfl,rfl,rfl⟩|⟨rfl,rfl,rfl⟩<;>simp
 unfold Z4 NR;by_cases c:Iw (Bj l k) op n
 ·rw[Aw c,Aw (d.1 c)];unfold Gw;rw[Aw (by omega)]
 grind
def Qan(l:Ac Nd)(k:Nat)(n:Int):DB l k n=NR l k 4 n:=by
 unfold DB NR;by_cases a:Iw (Bj l k) 4 n
 ·rw[Aw a,Aw (by unfold Iw at a;omega)];rfl
 ·rw[Am a,Am (by unfold Iw at a;omega)]
def Jzg(l:Ac Nd)(k:Nat)(n:Int):GW l k n=NR l k 5 n:=by
 unfold GW NR;by_cases a:Iw (Bj l k) 5 n
 ·rw[Aw a,Aw (by unfold Iw at a;omega)];rfl
 ·rw[Am a,Am (by unfold Iw at a;omega)]
def JuC(l:Ac Nd)(k:Nat)(n:Int):X7 l k n=NR l k 6 n:=by
 unfold X7 NR;by_cases a:Iw (Bj l k) 6 n
 ·rw[Aw a,Aw (by unfold Iw at a;omega)];rfl
 ·rw[Am a,Am (by unfold Iw at a;omega)]
def Qcc(l:Ac Nd)(k:Nat)(n:Int):Ge l k n=NR l k 7 n:=by
 unfold Ge NR;by_cases a:Iw (Bj l k) 7 n
 ·rw[Aw a,Aw (by unfold Iw at a;omega)];rfl
 ·rw[Am a,Am (by unfold Iw at a;omega)]
def kU:Ac D:=[BI,.clo (.func 253) [] [],.clo (.func 254) [] [],.clo (.func 255) [] [],.clo (.func 256) [] [],.clo (.func 257) [] [],.clo (.func 258) [] [],.clo (.func 259) [] []]
def Jtg(c:LZ)(H:Ae)(op:Int)(v:1<=op)(B:op<=7)(o:c.fits)(j:0<=Bc c.p.body c.k):∃x,kU[op.toNat]? =some x/\C9 (P9 Aa) x [DT c] H=some (A8 (NR c.p.body c.k.toNat op c.n),H):=by
 have hp:∀(F:Ac D->Af D) (l:Ac Nd),F [DT c]=some (A8 l)->Ak F [DT c] H=some (A8 l,H):=fun F l h=>by
  rw[CP _ _ _ rfl,h];rfl
 have i:op=1\/op=2\/op=3\/op=4\/op=5\/op=6\/op=7:=by omega
 have ht:∀b d,rZ b d [DT c]=some (A8 (Z4 c.p.body c.k.toNat c.n b d)):=fun b d=>by
  have:rZ b d [DT c]=_:=EO (A:=KI) _ c;rw[this,Aw o]
 rcases i with rfl|rfl|rfl|rfl|rfl|rfl|rfl
 ·refine⟨_,rfl,?_⟩;have:C9 (P9 Aa) (.clo (.func 253) [] []) [DT c] H=Ak NO [DT c] H:=rfl;rw[<-eJ _ _ _ 7 11 1 (.inl ⟨rfl,rfl,rfl⟩)];exact this.trans (hp _ _ (ht 7 11))
 ·refine⟨_,rfl,?_⟩;have:C9 (P9 Aa) (.clo (.func 254) [] []) [DT c] H=Ak Ok [DT c] H:=rfl;rw[<-eJ _ _ _ 12 17 2 (.inr (.inl ⟨rfl,rfl,rfl⟩))];exact this.trans (hp _ _ (ht 12 17))
 ·refine⟨_,rfl,?_⟩;have:C9 (P9 Aa) (.clo (.func 255) [] []) [DT c] H=Ak mA [DT c] H:=rfl;rw[<-eJ _ _ _ 18 19 3 (.inr (.inr ⟨rfl,rfl,rfl⟩))];exact this.trans (hp _ _ (ht 18 19))
 ·refine⟨_,rfl,?_⟩;have:C9 (P9 Aa) (.clo (.func 256) [] []) [DT c] H=Ak Hj [DT c] H:=rfl;rw[<-Qan];have h:Hj [DT c]=_:=EO (A:=KI) _ c
  grind
 ·refine⟨_,rfl,?_⟩;have:C9 (P9 Aa) (.clo (.func 257) [] []) [DT c] H=Ak E9 [DT c] H:=rfl;rw[<-Jzg];have h:E9 [DT c]=_:=EO (A:=KI) _ c
  grind
 ·refine⟨_,rfl,?_⟩;have:C9 (P9 Aa) (.clo (.func 258) [] []) [DT c] H=Ak uI [DT c] H:=rfl;rw[<-JuC];have h:uI [DT c]=_:=EO (A:=KI) _ c;have q:((Bj c.p.body c.k).1=23\/(Bj c.p.body c.k).1=24)/\c.n=0->c.k+1<c.p.body.length:=fun a=>by
   obtain⟨p,k,n⟩:=c;obtain⟨k,rfl⟩:=Fq o.1;simp only at j a⊢;obtain⟨r,e,g⟩:=wJ j;have s:Bj p.body k=p.body[k]:=ZN _ k r;rw[s]at a;have u:0<Fv p.body k:=by
    rw[g];generalize p.body[k]=x at*;obtain⟨t,m⟩:=x;simp only at a e;rcases a.1 with rfl|rfl
    ·rw[Jex e];omega
    ·rw[JgM e];omega
   obtain⟨w,y,z⟩:=CK j u;omega
  grind
 ·refine⟨_,rfl,?_⟩;have:C9 (P9 Aa) (.clo (.func 259) [] []) [DT c] H=Ak Kh [DT c] H:=rfl;rw[<-Qcc];have h:Kh [DT c]=_:=EO (A:=KI) _ c
  grind
def uX:XX 1 [BI,BI,BI,BI,BI,BI,BI,BI] [(0,BI),(1,.clo (.func 253) [] []),(2,.clo (.func 254) [] []),(3,.clo (.func 255) [] []),(4,.clo (.func 256) [] []),(5,.clo (.func 257) [] []),(6,.clo (.func 258) [] []),(7,.clo (.func 259) [] [])]=some (.agg kU):=rfl
def qN(t:AQ)(H:Ae):BX t [BI,BI,BI,BI,BI,BI,BI,BI] H=some (.hp H.length 0,H++[.cells t 8 [BI,BI,BI,BI,BI,BI,BI,BI]]):=rfl
def Jbx(p:Pg)(k n:Int):CY [(0,3),(3,1),(4,1)] [iD 0,Aq,Aq,iD 0,iD 0] [(0,Be p),(1,iD k),(2,iD n)]=some (DT ⟨p,k,n⟩):=rfl
def JwS:Bz Aa 201 qO:=GK (kp:=Jfu) JpK AX func201 fun p d r h=>by
 split at h
 case isFalse=>cases h
 rename_i w;cases h;have i:=fun H=>JlI p.body d.path H (by have:=w.2.1;omega) (by have:=w.2.2;omega);have a:Bh 8 (.hp 3 0) (.agg kU) [.cells 25 3 [iD p.params,AL p.vars,A8 p.body],.cells 103 3 [AL d.path,iD d.op,iD d.n],.cells 25 3 [iD 0,Aq,Aq],.cells 392 8 [BI,BI,BI,BI,BI,BI,BI,BI]]=
  some (.v undef,[.cells 25 3 [iD p.params,AL p.vars,A8 p.body],.cells 103 3 [AL d.path,iD d.op,iD d.n],.cells 25 3 [iD 0,Aq,Aq],.cells 392 8 kU]):=rfl
 have hs:=fun x y z c D u=>JtW [.cells 25 3 [iD p.params,AL p.vars,A8 p.body],.cells 103 3 [AL d.path,iD d.op,iD d.n],.cells 25 3 [iD 0,Aq,Aq],.cells 392 8 kU] 2 25 _ _ _ x y z rfl c D u;have s:=hs (iD 0) Aq Aq rfl rfl rfl;rcases JmZ p d with⟨c,e⟩|⟨k,c,D,u,M,O,N⟩
 ·rw[e];refine⟨0,_,?_,AY.tup (.cons xU (.cons (AY.refl (iD 16)) .nil))⟩;show BB (AB _ _ _ _ _ [Be p,Em d] [])=_;rw[G2];unfold AV Dw;simp[i,wI,uX,qN,a,c,nO,s]
 ·have v:¬((k:Int)<0):=by omega
  by_cases F:1<=d.op/\d.op<=7
  ·have E:=fun H=>Jtg ⟨p,k,d.n⟩ H d.op F.1 F.2 ⟨by simp,by simpa using D,w.2.1⟩ u;obtain⟨x,j,_⟩:=E [];have b:∀H,C9 (P9 Aa) x [DT ⟨p,k,d.n⟩] H=some (A8 (NR p.body k d.op d.n),H):=fun H=>by simp_all
   have m:¬d.op<1:=by omega
   have o:¬8<=d.op:=by omega
   have K:0<=d.op:=by omega
   have L:d.op.toNat<8:=by omega
   have l:Ec 8 1 (.hp 3 0) (iD d.op)=some (.hp 3 d.op.toNat):=by simp[Ec,K,L]
   have J:(List.drop d.op.toNat kU)[0]? =some x:=by grind
   rcases N with⟨n,e⟩|⟨n,e⟩
   ·have C:NR p.body k d.op d.n=[]:=by unfold NR;rw[Am n]
    rw[e];refine⟨0,_,?_,AY.tup (.cons xU (.cons (AY.refl (iD 17)) .nil))⟩;show BB (AB _ _ _ _ _ [Be p,Em d] [])=_;rw[G2];unfold AV Dw;simp[i,wI,uX,qN,a,c,v,m,o,l,j,JhL,Jbx,b,C,nO,s]
   ·have C:NR p.body k d.op d.n=Gw p.body k (Bj p.body k) d.op d.n:=by unfold NR;rw[Aw n]
    have G:=JkV O u M n;have I:¬((Gw p.body k (Bj p.body k) d.op d.n).length:Int)=0:=by omega
    have q:=hs (iD p.params) (AL p.vars) (A8 (Gw p.body k (Bj p.body k) d.op d.n)) rfl rfl rfl;have B:=fun H=>Jzx p.vars H (by have:=w.1;omega);rw[e];refine⟨0,_,?_,AY.refl _⟩;show BB (AB _ _ _ _ _ [Be p,Em d] [])=_;rw[G2];unfold AV Dw;simp only[C]at b;generalize Gw p.body k (Bj p.body k) d.op d.n=R at*;have g:¬R=[]:=by grind
    simp[i,wI,uX,qN,a,c,v,m,o,l,j,JhL,Jbx,b,g,B,JkC,q];rfl
  ·have n:¬Iw (Bj p.body k) d.op d.n:=fun h=>by have:=JqO h;omega
   have e:JK p d=(⟨0,[],[]⟩,17):=by grind
   rw[e];refine⟨0,_,?_,AY.tup (.cons xU (.cons (AY.refl (iD 17)) .nil))⟩;show BB (AB _ _ _ _ _ [Be p,Em d] [])=_;rw[G2];unfold AV Dw;by_cases m:d.op<1
   ·simp[i,wI,uX,qN,a,c,v,m,nO,s]
   ·have o:8<=d.op:=by omega
    simp[i,wI,uX,qN,a,c,v,m,o,nO,s]
def yE(P:Aj):Ac Cj:=(201,true,Ak qO)::cE P
def CI:∀p∈yE Aa,Ci Aa p:=AC (Bf JwS)<|Jfd
def Jh(P:Aj):Tab:=⟨yE P,BM,[]⟩
def vF:Bg Aa (Jh Aa):=CU CI
def Ji9:Ac Nat:=[]
def JuU(n:Nat)(a:D)(h:Ae):AB Aa (Jh Aa) Ji9 n f273 [a] h=
(Ad (Ag .int .neq a a) fun b=>
some (b,h)):=by kernel_rfl
def Oy:Ac Nat:=[0,2,3,4,5]
def Juo(n:Nat)(a:D)(h:Ae):AB Aa (Jh Aa) Oy n f370 [a] h=
(Ad (Bq .sl a) fun e=>
Ad (Ag .int .lss e (iD 2)) fun g=>
Az g
(some (a,h))
(Dy (BZ Aa (Jh Aa) Oy n f370 0 [a,Aq,(iD 1),.undef,.undef] h) (fun d c b=>
CW d 0
(some ((gD c 0),b))
(none)) (fun c b=>
some ((gD c 1),b)))):=by kernel_rfl
def Q6(n:Nat)(s0 d c l j:D)(h:Ae):BK Aa (Jh Aa) Oy n f370 0 [s0,d,c,l,j] h=
(Ad (Bq .sl s0) fun v=>
Ad (Ag .int .lss c v) fun w=>
Az w
(Ad (BG 1 s0 c) fun x=>
Ad (Ai none h x) fun s=>
Ad (Ag .int .sub c (iD 1)) fun t=>
Ad (BG 1 s0 t) fun u=>
Ad (Ai none h u) fun p=>
Ad (Ag .int .eql s p) fun q=>
Az q
(Ad (IJ 1 s0 (some c) none) fun y=>
Dy (BZ Aa (Jh Aa) Oy n f370 1 [s0,d,c,y,(iD 1)] h) (fun k a b=>
CW k 2
(Ad (IJ 1 (gD a 0) (some (gD a 2)) none) fun e=>
Ah (WO 1 [(iD 0)] e b) fun r o=>
Ad (IJ 1 (gD a 0) none (some (gD a 2))) fun m=>
some (.ret,[(gD a 0),m,(gD a 2),(gD a 3),(gD a 4)],o))
(CW k 1
(Ad (Ag .int .add (gD a 2) (iD 1)) fun g=>
some (.normal,[(gD a 0),(gD a 1),g,(gD a 3),(gD a 4)],b))
(some ((.exit k),[(gD a 0),(gD a 1),(gD a 2),(gD a 3),(gD a 4)],b)))) (fun a b=>
some (.ret,[(gD a 0),(gD a 1),(gD a 2),(gD a 3),(gD a 4)],b)))
(Ad (Ag .int .add c (iD 1)) fun i=>
some (.normal,[s0,d,i,l,j],h)))
(some ((.exit 0),[s0,d,c,l,j],h))):=by kernel_rfl
def hU(n:Nat)(s0 d c b a:D)(h:Ae):BK Aa (Jh Aa) Oy n f370 1 [s0,d,c,b,a] h=
(Ad (Bq .sl b) fun o=>
Ad (Ag .int .lss a o) fun p=>
Az p
(Ce 1 none h b a fun q=>
Ad (Ag .int .sub a (iD 1)) fun r=>
Ce 1 none h b r fun l=>
Ad (Ag .int .neq q l) fun m=>
Az m
(Ce 1 none h b a fun t=>
Ad (BG 1 s0 c) fun e=>
Ah (Bh 1 e t h) fun s j=>
Ad (Ag .int .add c (iD 1)) fun g=>
Ad (Ag .int .add a (iD 1)) fun i=>
some (.normal,[s0,d,g,b,i],j))
(Ad (Ag .int .add a (iD 1)) fun k=>
some (.normal,[s0,d,c,b,k],h)))
(some ((.exit 2),[s0,d,c,b,a],h))):=by kernel_rfl
def mB:Ac Nat:=[]
def Ju3(n:Nat)(b a:D)(h:Ae):AB Aa (Jh Aa) mB n f372 [b,a] h=
(Ad (Ai none h a) fun c=>
Ad (Ag .int .eql b c) fun d=>
some (d,h)):=by kernel_rfl
def qU:Ac Nat:=[1,2,7,8]
def Jle(n:Nat)(e d c:D)(h:Ae):AB Aa (Jh Aa) qU n f355 [e,d,c] h=
(Dy (BZ Aa (Jh Aa) qU n f355 0 [d,c,Aq,e] h) (fun g b a=>
CW g 0
(some ((gD b 2),a))
(none)) (fun b a=>
some (.undef,a))):=by kernel_rfl
def JbR(n:Nat)(s0 b c a:D)(h:Ae):BK Aa (Jh Aa) qU n f355 0 [s0,b,c,a] h=
(Ad (Ag .int .leq a s0) fun i=>
Az i
(Ad (Ag .int .neq a b) fun j=>
Az j
(Ah (DI 3 1 1 [(iD 0)] [(0,a)] h) fun l d=>
Ah (D5 3 1 c l d) fun k m=>
Ad (Ag .int .add a (iD 1)) fun e=>
some (.normal,[s0,b,k,e],m))
(Ad (Ag .int .add a (iD 1)) fun g=>
some (.normal,[s0,b,c,g],h)))
(some ((.exit 0),[s0,b,c,a],h))):=by kernel_rfl
def Vr(id n i:Nat)(h:i<n):BG 1 (.hs id n) (iD i)=some (.hp id i):=by simp[BG,h]
def VA{H:Ae}{id:Nat}{t:AQ}{l:Ac Int}(h:H[id]? =some (.cells t 1 (BP l)))(i:Nat)(a:i<l.length):Ai none H (.hp id i)=some (iD (l.getD i 0)):=
 D6 H id i _ _ _ _ h (by rw[G7 _ _ _ a];simp[BP,a])
def G3{H:Ae}{id:Nat}{t:AQ}{l:Ac Int}(h:H[id]? =some (.cells t 1 (BP l)))(i:Nat)(a:i<l.length)(x:Int):Bh 1 (.hp id i) (iD x) H=some (.v undef,H.set id (.cells t 1 (BP (l.set i x)))):=by
 have:=IV H id i _ _ _ (iD x) h (by rw[TK];exact a) rfl rfl;rw[this];congr 3;simp[BP,zY]
def Wp{H:Ae}{id:Nat}{o:HO}(h:∃a,H[id]? =some a):(H.set id o)[id]? =some o:=by
 obtain⟨a,h⟩:=h;rw[Hw (CV.1 h).1]
def Ja9(l:Ac Int)(i:Nat)(x:Int)(h:i<l.length):(l.set i x).getD i 0=x:=by
 simp[Ed,h]
def D3(l:Ac Int)(i j:Nat)(x:Int)(h:i≠j):(l.set i x).getD j 0=l.getD j 0:=by
 rw[Ed,Ee h,<-Ed]
def C7(l:Ac Int)(x:Int):x∈l↔∃p,p<l.length/\l.getD p 0=x:=by
 rw[oU];constructor
 ·rintro⟨p,hp,rfl⟩;exact⟨p,hp,G7 _ _ _ hp⟩
 ·rintro⟨p,hp,rfl⟩;exact⟨p,hp,(G7 _ _ _ hp).symm⟩
def Zq(l:Ac Int)(j:Nat):Ac Int:=(l.set (j+1) (l.getD j 0)).set j (l.getD (j+1) 0)
def JiK(l:Ac Int)(j:Nat):(Zq l j).length=l.length:=by simp[Zq]
def lV(l:Ac Int)(j p:Nat)(h:j+1<l.length):(Zq l j).getD p 0=if p=j then l.getD (j+1) 0 else if p=j+1 then l.getD j 0 else l.getD p 0:=by
 unfold Zq;by_cases b:p=j
 ·subst b;rw[Aw rfl,Ja9 _ _ _ (by simp;omega)]
 ·rw[Am b,D3 _ _ _ _ (Ne.symm b)];by_cases a:p=j+1
  ·subst a;rw[Aw rfl,Ja9 _ _ _ h]
  ·rw[Am a,D3 _ _ _ _ (Ne.symm a)]
def QbA(l:Ac Int)(j:Nat)(h:j+1<l.length)(x:Int):x∈Zq l j↔x∈l:=by
 rw[C7,C7,JiK];constructor
 ·rintro⟨p,hp,e⟩;rw[lV _ _ _ h]at e;split at e
  ·exact⟨j+1,h,e⟩
  ·split at e
   ·exact⟨j,by omega,e⟩
   ·exact⟨p,hp,e⟩
 ·rintro⟨p,hp,e⟩;by_cases b:p=j
  ·subst b;exact⟨p+1,h,by rw[lV _ _ _ h,Am (by omega),Aw rfl];exact e⟩
  ·by_cases a:p=j+1
   ·subst a;exact⟨j,by omega,by rw[lV _ _ _ h,Aw rfl];exact e⟩
   ·exact⟨p,hp,by rw[lV _ _ _ h,Am b,Am a];exact e⟩
def WL(l:Ac Int)(m:Nat):Prop:=∀p q,p<q->q<m->l.getD p 0<=l.getD q 0
def rU(l:Ac Int)(i j:Nat):Prop:=∀p q,p<q->q<=i->q≠j->l.getD p 0<=l.getD q 0
def Js2{l:Ac Int}{i:Nat}(h:WL l i):rU l i i:=fun p q a c b=>h p q a (by omega)
def Jwp{l:Ac Int}{i j:Nat}(m:i<l.length)(k:j+1<=i)(h:rU l i (j+1))(f:l.getD (j+1) 0<l.getD j 0):rU (Zq l j) i j:=by
 intro p q g c e;have d:j+1<l.length:=by omega
 rw[lV _ _ _ d,lV _ _ _ d];rw[Am (show¬q=j from e)];by_cases a:q=j+1
 ·rw[Aw a];by_cases hp:p=j
  ·rw[Aw hp];omega
  ·rw[Am hp,Am (by omega)];exact h p j (by omega) (by omega) (by omega)
 ·rw[Am a];by_cases hp:p=j
  ·rw[Aw hp];exact h (j+1) q (by omega) c a
  ·rw[Am hp];by_cases b:p=j+1
   ·rw[Aw b];exact h j q (by omega) c a
   ·rw[Am b];exact h p q g c a
def JcS{l:Ac Int}{i j:Nat}(h:rU l i j)(d:j<=i)(a:j=0\/l.getD (j-1) 0<=l.getD j 0):WL l (i+1):=by
 intro p q c e;by_cases b:q=j
 ·subst b;rcases a with rfl|a
  ·omega
  ·by_cases hp:p=q-1
   ·rw[hp];exact a
   ·exact Int.le_trans (h p (q-1) (by omega) (by omega) (by omega)) a
 ·exact h p q c (by omega) b
theorem Jb7{α:Type}(R:α->α->Prop)(f:∀a,¬R a a)(c:∀a b,R a b->¬R b a):∀(l d:Ac α),l.Pairwise R->d.Pairwise R->(∀a,a∈l↔a∈d)->l=d
 |[],[],_,_,_=>rfl
 |[],y::s,_,_,h=>by have:=(h y).2 (KE ..);cases this
 |x::r,[],_,_,h=>by have:=(h x).1 (KE ..);cases this
 |x::r,y::s,i,g,h=>by
  rw[oQ]at i g;have e:x=y:=by
   have a:=(h x).1 (KE ..);have b:=(h y).2 (KE ..);rcases FY.1 a with a|a
   ·exact a
   ·grind
  subst e;congr 1;refine Jb7 R f c r s i.2 g.2 fun a=>⟨fun j=> ?_,fun j=> ?_⟩
  ·grind
  grind
def Nj(a:Int):Ac Int->Ac Int
 |[]=>[a]
 |b::r=>if a<b then a::b::r else if a=b then b::r else b::Nj a r
theorem TO(a:Int):∀(l:Ac Int) (x:Int),x∈Nj a l↔x=a\/x∈l
 |[],x=>by simp[Nj]
 |b::r,x=>by
  unfold Nj;split
  ·simp
  ·split
   ·grind
   ·simp only[FY,TO a r x]
    grind
theorem JfU(a:Int):∀(l:Ac Int),l.Pairwise (· < ·)->(Nj a l).Pairwise (· < ·)
 |[],_=>by simp[Nj]
 |b::r,h=>by
  have d:=h;rw[oQ]at h;unfold Nj;split
  ·rename_i e;rw[oQ]
   grind
  ·split
   ·exact d
   ·rename_i g f;rw[oQ];refine⟨fun y c=> ?_,JfU a r h.2⟩;rcases(TO a r y).1 c with rfl|c
    ·omega
    ·exact h.1 y c
def JF(l:Ac Int):Ac Int:=l.foldr Nj []
def Jc7(l:Ac Int)(x:Int):x∈JF l↔x∈l:=by
 induction l with
 |nil=>simp[JF]
 |cons a r b=>
  have:JF (a::r)=Nj a (JF r):=rfl;rw[this,TO,b,FY]
def JcK(l:Ac Int):(JF l).Pairwise (· < ·):=by
 induction l with
 |nil=>simp[JF]
 |cons a r b=>exact JfU a _ b
def Nr(a:Int)(l:Ac Int):Ac Int:=(JF l).filter fun x=>decide (x≠a)
def Jch(a:Int)(l:Ac Int)(x:Int):x∈Nr a l↔x∈l/\x≠a:=by
 simp[Nr,Jc7]
def Ja3(a:Int)(l:Ac Int):(Nr a l).Pairwise (· < ·):=(JcK l).filter _
def GX(n:Int):Int:=IntKind.i64.wrap n
def wR(x y:Nd)(op n:Int):Prop:=
 (op=1/\7<=x.1/\x.1<=11/\7<=n/\n<=11/\n≠x.1)\/(op=2/\12<=x.1/\x.1<=17/\12<=n/\n<=17/\n≠x.1)\/(op=3/\18<=x.1/\x.1<=19/\18<=n/\n<=19/\n≠x.1)\/
 (op=4/\((x.1=1/\(n=0\/n=1\/n= -1\/n=GX (x.2+1)\/n=GX (x.2-1))/\n≠x.2)\/(x.1=2/\n=GX (1-x.2))))\/
 (op=5/\(x.1=21\/x.1=22\/x.1=23\/x.1=24\/x.1=25)/\n=0)\/(op=6/\(x.1=23\/x.1=24)/\n=0)\/(op=7/\x.1=25/\(n=0\/n=1)/\y≠(1,n))
instance (x y:Nd)(op n:Int):Decidable (wR x y op n):=by unfold wR;infer_instance
def JL(b c a:Int):Ac Int:=((List.range (c-b+1).toNat).map fun i:Nat=>b+(i:Int)).filter fun n=>decide (n≠a)
def pN(b c a n:Int):n∈JL b c a↔b<=n/\n<=c/\n≠a:=by
 simp only[JL,Mb,GN,oZ,F5];constructor
 ·omega
 ·rintro⟨f,e,d⟩;exact⟨⟨(n-b).toNat,by omega,by omega⟩,d⟩
def QeJ(c b a:Int):(JL c b a).Pairwise (· < ·):=by
 refine List.Pairwise.filter _ ?_;rw[sL];exact List.pairwise_lt_range.imp fun h=>by omega
def Nc(y:Nd):Ac Int:=if y.1=1 then Nr y.2 [0,1]else[0,1]
def JyR(y:Nd)(n:Int):n∈Nc y↔(n=0\/n=1)/\y≠(1,n):=by
 obtain⟨t,m⟩:=y;unfold Nc;split
 ·rename_i h;simp only at h;subst h;rw[Jch]
  grind
 grind
def JnZ(y:Nd):(Nc y).Pairwise (· < ·):=by
 unfold Nc;split
 ·exact Ja3 _ _
 ·simp
def XM(x y:Nd):Ac (Int×Ac Int):=
 (if 7<=x.1/\x.1<=11 then[(1,JL 7 11 x.1)]else if 12<=x.1/\x.1<=17 then[(2,JL 12 17 x.1)]else if x.1=18\/x.1=19 then[(3,JL 18 19 x.1)]
  else if x.1=1 then[(4,Nr x.2 [0,1,-1,GX (x.2+1),GX (x.2-1)])]else if x.1=2 then[(4,[GX (1-x.2)])]else[])++
 ((if x.1=21\/x.1=22\/x.1=23\/x.1=24\/x.1=25 then[(5,[0])]else[])++
 (if x.1=23\/x.1=24 then[(6,[0])]else if x.1=25 then[(7,Nc y)]else[]))
def PR(x y:Nd):Ac (Int×Int):=(XM x y).flatMap fun e=>e.2.map fun n=>(e.1,n)
def uV(a b:Int×Int):Prop:=a.1<b.1\/(a.1=b.1/\a.2<b.2)
def QcC(x y:Nd)(op n:Int):(op,n)∈PR x y↔∃e∈XM x y,op=e.1/\n∈e.2:=by
 simp only[PR,zV,GN,Hu]
 grind
theorem Je2:∀(L:Ac (Int×Ac Int)),(L.Pairwise fun a b=>a.1<b.1)->(∀e∈L,e.2.Pairwise (· < ·))->(L.flatMap fun e=>e.2.map fun n=>(e.1,n)).Pairwise uV
 |[],_,_=>by simp
 |e::r,h,hs=>by
  rw[oQ]at h;rw[zM,Jk3];refine⟨?_,Je2 r h.2 fun e f=>hs e (QY _ f),fun a g b d=> ?_⟩
  ·rw[sL];exact(hs e (KE ..)).imp fun h=> .inr ⟨rfl,h⟩
  ·obtain⟨m,_,rfl⟩:=GN.1 g;obtain⟨i,c,d⟩:=zV.1 d;obtain⟨m',_,rfl⟩:=GN.1 d;exact .inl (h.1 i c)
def JdP(x y:Nd):((XM x y).Pairwise fun a b=>a.1<b.1)/\∀e∈XM x y,e.2.Pairwise (· < ·):=by
 have r:=QeJ;have a:=JnZ y;have o:=Ja3;unfold XM
 repeat' split
 all_goals simp[r,a,o]
def Jpc(x y:Nd):(PR x y).Pairwise uV:=Je2 _ (JdP x y).1 (JdP x y).2
def gY{p:Int×Ac Int->Prop}(e:Int×Ac Int):(∃x∈[e],p x)↔p e:=by simp
def Jx1(x:Nd)(op n:Int):(∃e∈(if 7<=x.1/\x.1<=11 then[(1,JL 7 11 x.1)]else if 12<=x.1/\x.1<=17 then[(2,JL 12 17 x.1)]else if x.1=18\/x.1=19 then[(3,JL 18 19 x.1)]
  else if x.1=1 then[(4,Nr x.2 [0,1,-1,GX (x.2+1),GX (x.2-1)])]else if x.1=2 then[(4,[GX (1-x.2)])]else[]:Ac (Int×Ac Int)),op=e.1/\n∈e.2)↔
 (op=1/\7<=x.1/\x.1<=11/\7<=n/\n<=11/\n≠x.1)\/(op=2/\12<=x.1/\x.1<=17/\12<=n/\n<=17/\n≠x.1)\/(op=3/\18<=x.1/\x.1<=19/\18<=n/\n<=19/\n≠x.1)\/
 (op=4/\((x.1=1/\(n=0\/n=1\/n= -1\/n=GX (x.2+1)\/n=GX (x.2-1))/\n≠x.2)\/(x.1=2/\n=GX (1-x.2)))):=by
 by_cases a:7<=x.1/\x.1<=11
 ·rw[Aw a,gY,pN]
  grind
 rw[Am a];by_cases c:12<=x.1/\x.1<=17
 ·rw[Aw c,gY,pN]
  grind
 rw[Am c];by_cases b:x.1=18\/x.1=19
 ·rw[Aw b,gY,pN]
  grind
 rw[Am b];by_cases d:x.1=1
 ·rw[Aw d,gY,Jch]
  grind
 rw[Am d];by_cases f:x.1=2
 ·simp_all
 grind
def Qdb(x:Nd)(op n:Int):(∃e∈(if x.1=21\/x.1=22\/x.1=23\/x.1=24\/x.1=25 then[(5,[0])]else[]:Ac (Int×Ac Int)),op=e.1/\n∈e.2)↔(op=5/\(x.1=21\/x.1=22\/x.1=23\/x.1=24\/x.1=25)/\n=0):=by
 split
 ·simp_all
 grind
def JpF(x y:Nd)(op n:Int):(∃e∈(if x.1=23\/x.1=24 then[(6,[0])]else if x.1=25 then[(7,Nc y)]else[]:Ac (Int×Ac Int)),op=e.1/\n∈e.2)↔(op=6/\(x.1=23\/x.1=24)/\n=0)\/(op=7/\x.1=25/\(n=0\/n=1)/\y≠(1,n)):=by
 by_cases a:x.1=23\/x.1=24
 ·rw[Aw a,gY]
  grind
 rw[Am a];by_cases b:x.1=25
 ·rw[Aw b,gY,JyR]
  grind
 grind
def Jij{p:Int×Ac Int->Prop}(a b:Ac (Int×Ac Int)):(∃e∈a++b,p e)↔(∃e∈a,p e)\/∃e∈b,p e:=by grind
def Jyp(x y:Nd)(op n:Int):(op,n)∈PR x y↔wR x y op n:=by
 rw[QcC];unfold XM;rw[Jij,Jij,Jx1,Qdb,JpF];unfold wR;simp only[or_assoc]
def Jn4(x y:Nd):(PR x y).length<=5:=by
 have k:∀d f c:Int,d<=c->c<=f->(JL d f c).length<=(f-d).toNat:=by
  intro d f c m q;have:(JL d f c).length<((List.range (f-d+1).toNat).map fun i:Nat=>d+(i:Int)).length:=by
   unfold JL;rw[Qfw];exact⟨c,GN.2 ⟨(c-d).toNat,by simp;omega,by omega⟩,by simp⟩
  simp at this;omega
 have hs:∀a:Int,∀l:Ac Int,(Nj a l).length<=l.length+1:=by
  intro a l
  induction l with
  |nil=>simp[Nj]
  |cons b r v=>
   unfold Nj
   grind
 have j:∀l:Ac Int,(JF l).length<=l.length:=by
  intro l
  induction l with
  |nil=>simp[JF]
  |cons a r v=>
   have:=hs a (JF r);have e:JF (a::r)=Nj a (JF r):=rfl
   grind
 have o:∀(c:Int) (l:Ac Int),(Nr c l).length<=l.length:=fun c l=>Ig (Jk0 _ _) (j l);have C:(Nc y).length<=2:=by
  unfold Nc;split
  ·exact o _ _
  ·simp
 have m:=fun t (a:7<=t) (b:t<=11)=>k 7 11 t a b;have q:=fun t (a:12<=t) (b:t<=17)=>k 12 17 t a b;have z:=fun t (a:18<=t) (b:t<=19)=>k 18 19 t a b;have u:=o x.2 [0,1,-1,GX (x.2+1),GX (x.2-1)];simp only[Ej,Hf]at u;unfold PR XM;by_cases g:7<=x.1/\x.1<=11
 ·have:=m x.1 g.1 g.2;rw[Aw g,Am (by omega),Am (by omega),Am (by omega)];simp;omega
 by_cases h:12<=x.1/\x.1<=17
 ·have:=q x.1 h.1 h.2;rw[Am g,Aw h,Am (by omega),Am (by omega),Am (by omega)];simp;omega
 by_cases n:x.1=18\/x.1=19
 ·have:=z x.1 (by omega) (by omega);rw[Am g,Am h,Aw n,Am (by omega),Am (by omega),Am (by omega)];simp;omega
 by_cases B:x.1=1
 ·simp_all
 by_cases s:x.1=2
 ·simp_all
 rw[Am g,Am h,Am n,Am B,Am s];by_cases w:x.1=21\/x.1=22\/x.1=23\/x.1=24\/x.1=25
 ·rw[Aw w];by_cases p:x.1=23\/x.1=24
  ·rw[Aw p];simp
  ·rw[Am p];by_cases A:x.1=25
   ·grind
   ·rw[Am A];simp
 grind
end Go.Proofs.YtapdelkomkpgmaaGreatDoor
