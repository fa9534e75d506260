import Derived.OrdersIn
import Derived.LoopNIn
import Derived.RangeFuncLeaves
import Derived.RangeFuncCalls
import Derived.Test.YtapdelkomkpgmaaGreatDoorQc
namespace Go.Proofs.YtapdelkomkpgmaaGreatDoor
open Go.RowKit
set_option maxRecDepth 100000
set_option linter.all false
mutual
def EC:D->Bool
 | .undef| .v _| .sl _ _| .ptr _=>true
 | .hp _ _| .hs _ _| .mp _| .yld _| .ht _ _ _=>false
 | .mv _ _=>true
 | .agg cs=>Fj cs
 | .tup cs=>Fj cs
 | .ifc _ d=>EC d
 | .clo _ a b=>Fj a&&Fj b
def Fj:Ac D->Bool
 |[]=>true
 |d::r=>EC d&&Fj r
end
section
variable {S : Nat → Prop} {L : Ac (Nat × Nat)} {w : AA}
mutual
theorem CN:∀(d:D) (x:Ap),EC d=true->Rep S L w x d->Rep S [] w x d
 | .undef,x,_,h=>by simp only[Rep]
 | .v y,x,_,h=>by simpa only[Rep]using h
 | .sl sz els,x,_,h=>by simpa only[Rep]using h
 | .ptr cs,x,_,h=>by simpa only[Rep]using h
 | .hp i o,x,hp,h=>by simp[EC]at hp
 | .hs i n,x,hp,h=>by simp[EC]at hp
 | .mp i,x,hp,h=>by simp[EC]at hp
 | .yld i,x,hp,h=>by simp[EC]at hp
 | .ht i o n,x,hp,h=>by simp[EC]at hp
 | .mv ks vs,x,_,h=>by simpa only[Rep]using h
 | .agg cs,x,hp,h=>by
  simp only[Rep]at h⊢;obtain⟨xs,h1,h2⟩:=h;exact⟨xs,h1,ZI cs xs (by simpa[EC]using hp) h2⟩
 | .tup cs,x,hp,h=>by
  simp only[Rep]at h⊢;obtain⟨xs,h1,h2⟩:=h;exact⟨xs,h1,ZI cs xs (by simpa[EC]using hp) h2⟩
 | .ifc t d,x,hp,h=>by
  simp only[Rep]at h⊢;obtain⟨y,h1,h2⟩:=h;exact⟨y,h1,CN d y (by simpa[EC]using hp) h2⟩
 | .clo f a b,x,hp,h=>by
  simp only[Rep]at h⊢;simp only[EC,DJ]at hp;obtain⟨ys,zs,h1,h2,h3⟩:=h;exact⟨ys,zs,h1,ZI a ys hp.1 h2,ZI b zs hp.2 h3⟩
theorem ZI:∀(ds:Ac D) (xs:Ac Ap),Fj ds=true->Au S L w xs ds->Au S [] w xs ds
 |[],xs,_,h=>by simpa only[Au]using h
 |d::r,xs,hp,h=>by
  simp only[Au]at h⊢;simp only[Fj,DJ]at hp;obtain⟨x,ys,h1,h2,h3⟩:=h;exact⟨x,ys,h1,CN d x hp.1 h2,ZI r ys hp.2 h3⟩
end
end
def Dh(H:Ae):Nat->D->Af D
 |0,d=>if EC d then some d else none
 |n+1,d=>
  match d with
  | .hs id k=>
   match H[id]? with
   |some (.cells _ sz cs)=>if k*sz<=cs.length then((cs.take (k*sz)).mapM (Dh H n)).map fun a=> .sl sz (G9 sz k a)else none
   |_=>none
  | .ht id off k=>
   match H[id]? with
   |some (.cells _ sz cs)=>if off+k*sz<=cs.length then(((cs.drop off).take (k*sz)).mapM (Dh H n)).map fun a=> .sl sz (G9 sz k a)else none
   |_=>none
  | .hp id off=>
   match H[id]? with
   |some (.cells _ _ cs)=>((cs.drop off).mapM (Dh H n)).map .ptr
   |_=>none
  | .agg cs=>(cs.mapM (Dh H n)).map .agg
  | .tup cs=>(cs.mapM (Dh H n)).map .tup
  | .mp id=>
   match H[id]? with
   |some (.map c vs)=>(vs.mapM (Dh H n)).map fun b=> .mv c b
   |_=>none
  | .ifc t d=>(Dh H n d).map (.ifc t)
  |d=>if EC d then some d else none
section
variable {B : Nat} {S S' : Nat → Prop} {L : Ac (Nat × Nat)} {w : AA} {H : Ae}
theorem SH{m:Ac (Nat×Nat)}{g:D->Af D}(j:∀d b x,g d=some b->Rep S L w x d->Rep S' m w x b):∀(cs c:Ac D) (xs:Ac Ap),cs.mapM g=some c->Au S L w xs cs->Au S' m w xs c
 |[],c,xs,h,a=>by simp at h;subst h;simpa only[Au]using a
 |d::r,c,xs,h,a=>by
  simp only[FZ,eQ,Zb]at h;cases f:g d with
  |none=>rw[f]at h;cases h
  |some b=>
   cases l:r.mapM g with
   |none=>grind
   |some i=>
    rw[f,l]at h;cases h;simp only[Au]at a⊢;obtain⟨x,k,e,n,o⟩:=a;exact⟨x,k,e,j d b x f n,SH j r i k l o⟩
theorem yK{g:D->Af D}:∀(cs a:Ac D),cs.mapM g=some a->a.length=cs.length
 |[],a,h=>by simp at h;subst h;rfl
 |d::r,a,h=>by
  simp only[FZ,eQ,Zb]at h;cases e:g d with
  |none=>rw[e]at h;cases h
  |some f=>
   cases c:r.mapM g with
   |none=>grind
   |some b=>
    rw[e,c]at h;cases h;simp[yK r b c]
def Tk(z:BD B S L w H):∀(n:Nat) (d g:D) (x:Ap),Dh H n d=some g->Rep S L w x d->Rep (fun k=>S k\/(B<=k/\k<w.heap.size)) [] w x g:=by
 have C:∀d g x,(if EC d then some d else none)=some g->Rep S L w x d->Rep (fun k=>S k\/(B<=k/\k<w.heap.size)) [] w x g:=by
  intro d g x h m;split at h
  ·rename_i hp;cases h;exact Rep.kept (Kept.refl _ _) (fun k Z=> .inl Z) (fun i p Y=>by simp at Y) d x (CN d x hp m)
  ·cases h
 intro n
 induction n with
 |zero=>intro d g x h m;exact C d g x h m
 |succ n F=>
  intro d g x h m;simp only[Dh]at h;split at h
  ·rename_i id k;split at h
   ·rename_i t sz cs hid;split at h
    ·rename_i K;cases a:(cs.take (k*sz)).mapM (Dh H n)with
     |none=>rw[a]at h;cases h
     |some y=>
      rw[a]at h;simp only[Dt,CE]at h;subst h;simp only[Rep]at m;obtain⟨b,c,s,A,rfl⟩:=m;obtain⟨arr,J,R,O,P,G⟩:=SE z hid s;have M:=yK _ _ a;have u:y.length=k*sz:=by grind
      have q:=SH (fun d g x l r=>F d g x l r) _ y _ a (G.take (k*sz));have f:=z.lt hid s;have I:S b\/(B<=b/\b<w.heap.size):= .inr ⟨f.1,f.2.1⟩;simp only[Rep,W8];by_cases E:k=0
      ·subst E;exact .inl ⟨rfl,_,c,rfl,fun h=>by cases h⟩
      ·refine .inr ⟨b,0,c,rfl,by omega,A,I,EM.of (oR _ _ _ u) ?_⟩;rw[G4 _ _ _ u];refine Eg.of q fun j v Q=> ?_;rw[EE,KZ J]
       grind
    ·cases h
   ·cases h
  ·rename_i id off k;split at h
   ·rename_i t sz cs hid;split at h
    ·rename_i K;cases a:((cs.drop off).take (k*sz)).mapM (Dh H n)with
     |none=>rw[a]at h;cases h
     |some y=>
      rw[a]at h;simp only[Dt,CE]at h;subst h;simp only[Rep]at m;obtain⟨b,c,o,cap,s,rfl,A,U⟩:=m;obtain⟨arr,J,R,O,P,G⟩:=SE z hid s;have M:=yK _ _ a;have u:y.length=k*sz:=by grind
      have q:=SH (fun d g x l r=>F d g x l r) _ y _ a ((G.drop off).take (k*sz));have f:=z.lt hid s;have I:S b\/(B<=b/\b<w.heap.size):= .inr ⟨f.1,f.2.1⟩;simp only[Rep,W8];by_cases E:k=0
      ·subst E;exact .inl ⟨rfl,_,cap,rfl,fun h=>by cases h⟩
      ·obtain rfl:=U (by omega);refine .inr ⟨b,o,cap,rfl,by omega,A,I,EM.of (oR _ _ _ u) ?_⟩;rw[G4 _ _ _ u];refine Eg.of q fun j v Q=> ?_;rw[KZ J]
       grind
    ·cases h
   ·cases h
  ·rename_i id off;split at h
   ·rename_i t sz cs hid;cases a:(cs.drop off).mapM (Dh H n)with
    |none=>rw[a]at h;cases h
    |some y=>
     rw[a]at h;simp only[Dt,CE]at h;subst h;simp only[Rep]at m;obtain⟨b,c,s,rfl⟩:=m;obtain⟨arr,J,R,O,P,G⟩:=SE z hid s;have f:=z.lt hid s;have I:S b\/(B<=b/\b<w.heap.size):= .inr ⟨f.1,f.2.1⟩;have q:=SH (fun d g x l r=>F d g x l r) _ y _ a (G.drop off);simp only[Rep];refine⟨b,off,rfl,I,Eg.of q fun j v Q=> ?_⟩;rw[KZ J]
     grind
   ·cases h
  ·rename_i cs;cases a:cs.mapM (Dh H n)with
   |none=>rw[a]at h;cases h
   |some y=>
    rw[a]at h;simp only[Dt,CE]at h;subst h;simp only[Rep]at m⊢;obtain⟨xs,l,r⟩:=m;exact⟨xs,l,SH (fun d g x l r=>F d g x l r) _ y _ a r⟩
  ·rename_i cs;cases a:cs.mapM (Dh H n)with
   |none=>rw[a]at h;cases h
   |some y=>
    rw[a]at h;simp only[Dt,CE]at h;subst h;simp only[Rep]at m⊢;obtain⟨xs,l,r⟩:=m;exact⟨xs,l,SH (fun d g x l r=>F d g x l r) _ y _ a r⟩
  ·rename_i id;split at h
   ·rename_i ks vs hid;cases a:vs.mapM (Dh H n)with
    |none=>rw[a]at h;cases h
    |some V=>
     rw[a]at h;simp only[Dt,CE]at h;subst h;simp only[Rep]at m;obtain⟨b,c,s,rfl⟩:=m;obtain⟨b',c',l,r,h3,arr,N,X,W,T⟩:=z.obj id _ hid (by intro e;cases e);rw[s]at l;cases l;have f:=z.lt' hid (by intro e;cases e) s;simp only[Rep];exact⟨b,arr,N,rfl,.inr ⟨f.1,f.2.1⟩,X,W,SH (fun d g x l r=>F d g x l r) _ V _ a T⟩
   ·cases h
  ·rename_i t e;cases a:Dh H n e with
   |none=>rw[a]at h;cases h
   |some e'=>
    rw[a]at h;simp only[Dt,CE]at h;subst h;simp only[Rep]at m⊢
    grind
  grind
def Ji4(b:BD B S L w H)(n:Nat)(d a:D)(x:Ap)(h:Dh H n d=some a)(c:Rep S L w x d):Rep (· <w.heap.size) [] w x a:=
 Rep.kept (Kept.refl _ _) (fun k f=>f.elim (b.small k) fun h=>h.2) (fun i p e=>e) a x (Tk b n d a x h c)
end
structure Bz(P:Program)(f:FuncId)(F:List D->Option D):Prop where
 body:∃fn,P.funcs[f]? =some fn∧fn.name≠ "runtime.NumGoroutine" ∧fn.body.isSome=true
 calls:∀ds d,F ds=some d->∀(S:Nat->Prop) (vs:List Value) (w:World),(∀k,S k->k<w.heap.size)->Au S [] w vs ds->
  Calls P f vs.toArray w fun e w'=>∃v,e= .returned v/\Rep (fun k=>S k\/(w.heap.size<=k/\k<w'.heap.size)) [] w' v d/\Below w.heap.size w w'
structure BN(P:Program)(f:FuncId)(G:GT):Prop where
 body:∃fn,P.funcs[f]? =some fn∧fn.name≠ "runtime.NumGoroutine" ∧fn.body.isSome=true
 calls:∀ds H d H',G ds H=some (d,H')->∀(B:Nat) (S:Nat->Prop) (L:List (Nat×Nat)) (vs:List Value) (w:World),BD B S L w H->Au S L w vs ds->
  Calls P f vs.toArray w fun e w'=>∃v S' L',e= .returned v/\Rep S' L' w' v d/\BD B S' L' w' H'/\Later B S S' L L' w w'
inductive Out where
 |ret (d:D)
 |pan (x:Value)
def Jdm(S:Nat->Prop)(L:Ac (Nat×Nat))(w:AA)(e:Ending):Out->Prop
 | .ret d=>∃v,e= .returned v/\Rep S L w v d
 | .pan x=>e= .panicked [{v:=x,recovered:=false}]
structure ZB(P:Program)(f:FuncId)(G:List D->Ae->Option (Out×Ae)):Prop where
 body:∃fn,P.funcs[f]? =some fn∧fn.name≠ "runtime.NumGoroutine" ∧fn.body.isSome=true
 calls:∀ds H o H',G ds H=some (o,H')->∀(B:Nat) (S:Nat->Prop) (L:List (Nat×Nat)) (vs:List Value) (w:World),BD B S L w H->Au S L w vs ds->
  Calls P f vs.toArray w fun e w'=>∃S' L',Jdm S' L' w' e o/\BD B S' L' w' H'/\Later B S S' L L' w w'
def nR:Af (Out×Ae)->Af (D×Ae)
 |some (.ret d,H)=>some (d,H)
 |_=>none
def ZB.ret{P:Aj}{f:CG}{G:Ac D->Ae->Af (Out×Ae)}(h:ZB P f G):BN P f (fun ds H=>nR (G ds H)):=by
 refine⟨h.body,fun ds H d H' a B S L vs w c b=> ?_⟩;unfold nR at a;split at a
 ·rename_i m o g;cases a;refine(h.calls ds H _ _ g B S L vs w c b).mono ?_;rintro e k ⟨n,q,⟨v,j,p⟩,l,i⟩
  grind
 ·cases a
def vM:D->Bool
 | .v _=>true
 |_=>false
def vU:D->Bool
 | .v _=>true
 | .tup ds=>ds.all vM
 |_=>false
def JtD{S i:Nat->Prop}{L m:Ac (Nat×Nat)}{w l:AA}{d:D}{x:Ap}(a:vU d=true)(h:Rep S L w x d):Rep i m l x d:=by
 cases d with
 |v y=>simpa only[Rep]using h
 |tup ds=>
  simp only[Rep]at h⊢;obtain⟨xs,f,b⟩:=h;refine⟨xs,f,?_⟩;clear f;simp only[vU]at a
  induction ds generalizing xs with
  |nil=>simpa only[Au]using b
  |cons d r k=>
   simp only[Na,DJ]at a;simp only[Au]at b⊢;obtain⟨y,c,e,g,j⟩:=b;refine⟨y,c,e,?_,k a.2 c j⟩;cases d with
   |v z=>simpa only[Rep]using g
   |_=>simp[vM]at a
 |_=>simp[vU]at a
def Ak(F:Ac D->Af D)(ds:Ac D)(H:Ae):Af (D×Ae):=
 match Fj ds with
 |true=>(F ds).map fun d=>(d,H)
 |false=>(ds.mapM (Dh H 9)).bind fun a=>(F a).bind fun d=>if vU d then some (d,H)else none
def JtY{P:Aj}{f:CG}{F:Ac D->Af D}(h:Bz P f F):BN P f (Ak F):=by
 refine⟨h.body,fun ds H d H' a B S L vs w j q=> ?_⟩;unfold Ak at a;split at a
 ·rename_i hp;cases b:F ds with
  |none=>rw[b]at a;cases a
  |some p=>
   rw[b]at a;simp only[Dt,CE,Hu]at a;obtain⟨rfl,rfl⟩:=a;refine(h.calls ds _ b S vs w j.small (ZI ds vs hp q)).mono ?_;rintro e r ⟨v,rfl,c,i⟩;obtain⟨o,n⟩:=j.call i;exact⟨v,_,L,rfl,c.lift,o,n⟩
 ·obtain⟨g,l,a⟩:=Bi.1 a;obtain⟨p,b,a⟩:=Bi.1 a;split at a
  ·rename_i t;cases a;have m:=SH (fun d p x c i=>Ji4 j 9 d p x c i) ds g vs l q;refine(h.calls g _ b _ vs w (fun k s=>s) m).mono ?_;rintro e r ⟨v,rfl,c,i⟩;obtain⟨o,n⟩:=j.call i;exact⟨v,_,L,rfl,JtD t c,o,n⟩
  ·cases a
structure Tab where
 fs:List (FuncId×Bool×GT)
 yl:Nat->GT
 pn:List (FuncId×(List D->Ae->Option (Out×Ae)))
def BM:Nat->GT:=fun _ _ _=>none
def VG:Ac (CG×Bool×GT)->CG->GT
 |[],_,_,_=>none
 |(g,_,F)::r,f,ds,H=>if f=g then F ds H else VG r f ds H
def UO:Ac (CG×(Ac D->Ae->Af (Out×Ae)))->CG->Af (Ac D->Ae->Af (Out×Ae))
 |[],_=>none
 |(g,G)::r,f=>if f=g then some G else UO r f
def QC(T:Tab)(f:CG)(ds:Ac D)(H:Ae):Af (D×Ae):=
 match T.pn with
 |[]=>VG T.fs f ds H
 |p=>match UO p f with|some G=>nR (G ds H)|none=>VG T.fs f ds H
def rV:Ac (CG×Bool×GT)->CG->Bool
 |[],_=>false
 |(g,b,_)::r,f=>if f=g then b else rV r f
def qE(T:Tab)(f:CG):Bool:=
 match T.pn with
 |[]=>rV T.fs f
 |p=>match UO p f with|some _=>false|none=>rV T.fs f
def FT(P:Aj)(Y:Nat->GT):Prop:=∀id ds H d H',Y id ds H=some (d,H')->∀(B:Nat) (S:Nat->Prop) (L:Ac (Nat×Nat)) (vs:Ac Ap) (w:AA),BD B S L w H->Au S L w vs ds->
 ∃b c f tmps assign body,L[id]? =some (b,c)/\(Instr.yield b vs.toArray).run P w= .ok (.round b f tmps assign body) w/\
  ∀n,RoundIn Fence.wide n P b f tmps assign body w fun e a=>∃v g h,e= .returned v/\Rep g h a v d/\BD B g h a H'/\Later B S g L h w a
def cZ(P:Aj):FT P BM:=fun _ _ _ _ _ h=>by cases h
def Hk(G:GT):Prop:=∀ds H d H',G ds H=some (d,H')->H'=H/\(∀t,G ds (H++t)=some (d,H++t))/\(Fj ds=true->∀a,G ds a=some (d,a))
structure Bg(P:Program)(T:Tab):Prop where
 fs:∀p∈T.fs,BN P p.1 p.2.2/\(p.2.1=true->Hk p.2.2)
 yl:FT P T.yl
 pn:∀p∈T.pn,ZB P p.1 p.2
theorem oX{P:Aj}:∀{l:Ac (CG×(Ac D->Ae->Af (Out×Ae)))} {f:CG} {G:Ac D->Ae->Af (Out×Ae)},(∀p∈l,ZB P p.1 p.2)->UO l f=some G->ZB P f G
 |[],f,G,_,h=>by cases h
 |(g,F)::r,f,G,a,h=>by
  simp only[UO]at h;split at h
  ·simp_all
  ·exact oX (fun p hp=>a p (by simp[hp])) h
def JaU{P:Aj}{T:Tab}(h:Bg P T){f:CG}{ds:Ac D}{H:Ae}{r:D×Ae}(a:VG T.fs f ds H=some r):∃G,BN P f G/\G ds H=some r/\(rV T.fs f=true->r.2=H/\(∀t,VG T.fs f ds (H++t)=some (r.1,H++t))/\(Fj ds=true->∀e,VG T.fs f ds e=some (r.1,e))):=by
 have c:=h.fs;generalize T.fs=l at a c⊢
 induction l with
 |nil=>cases a
 |cons p t m=>
  obtain⟨g,b,F⟩:=p;simp only[VG]at a;simp only[rV];split at a
  ·rename_i d;subst d;obtain⟨j,i⟩:=c (f,b,F) (by simp);refine⟨F,j,a,fun k=> ?_⟩;have:=i (by simpa using k) ds H r.1 r.2 a;refine⟨this.1,fun t=> ?_,fun hp e=> ?_⟩
   ·simp only[VG,Bv];exact this.2.1 t
   ·simp only[VG,Bv];exact this.2.2 hp e
  ·rename_i d;rw[Am d];simp only[VG,Am d];simp_all
def vO{P:Aj}{T:Tab}(h:Bg P T){f:CG}{ds:Ac D}{H:Ae}{r:D×Ae}(b:QC T f ds H=some r):∃G,BN P f G/\G ds H=some r/\(qE T f=true->r.2=H/\(∀t,QC T f ds (H++t)=some (r.1,H++t))/\(Fj ds=true->∀d,QC T f ds d=some (r.1,d))):=by
 unfold QC at b⊢;unfold qE;have hp:=h.pn;generalize T.pn=p at b hp⊢;cases p with
 |nil=>exact JaU h b
 |cons a p=>
  simp only at b⊢;cases c:UO (a::p) f with
  |none=>
   rw[c]at b;exact JaU h b
  |some G=>
   rw[c]at b;exact⟨_,(oX hp c).ret,b,fun h=>by cases h⟩
theorem B6{g i:D->Af D}(h:∀d b,g d=some b->i d=some b):∀(cs c:Ac D),cs.mapM g=some c->cs.mapM i=some c
 |[],c,a=>a
 |d::r,c,a=>by
  simp only[FZ,eQ,Zb]at a⊢;cases e:g d with
  |none=>rw[e]at a;cases a
  |some b=>
   cases j:r.mapM g with
   |none=>grind
   |some f=>
    rw[e,j]at a;rw[h d b e,B6 h r f j];exact a
def JX{H t:Ae}{id:Nat}{o:HO}(h:H[id]? =some o):(H++t)[id]? =some o:=by grind
theorem cP(H t:Ae):∀(n:Nat) (d g:D),Dh H n d=some g->Dh (H++t) n d=some g
 |0,d,g,h=>h
 |n+1,d,g,h=>by
  have l:=cP H t n;have j:∀cs a:Ac D,cs.mapM (Dh H n)=some a->cs.mapM (Dh (H++t) n)=some a:=B6 l;simp only[Dh]at h⊢;split at h
  ·rename_i id k;split at h
   ·rename_i i sz cs hid;rw[JX hid];simp only;split at h
    ·rename_i b;rw[Aw b];obtain⟨a,f,c⟩:=DV.1 h
     grind
    ·cases h
   ·cases h
  ·rename_i id off k;split at h
   ·rename_i i sz cs hid;rw[JX hid];simp only;split at h
    ·rename_i b;rw[Aw b];obtain⟨a,f,c⟩:=DV.1 h
     grind
    ·cases h
   ·cases h
  ·rename_i id off;split at h
   ·rename_i i sz cs hid;rw[JX hid];simp only;obtain⟨a,f,c⟩:=DV.1 h
    grind
   ·cases h
  ·obtain⟨a,f,c⟩:=DV.1 h
   grind
  ·obtain⟨a,f,c⟩:=DV.1 h
   grind
  ·rename_i id;split at h
   ·rename_i m vs hid;rw[JX hid];simp only;obtain⟨a,f,c⟩:=DV.1 h
    grind
   ·cases h
  ·obtain⟨e,f,c⟩:=DV.1 h
   grind
  ·exact h
def vQ(F:Ac D->Af D):∀ds H d H',Ak F ds H=some (d,H')->H'=H:=by
 intro ds H d H' h;unfold Ak at h;split at h
 ·cases a:F ds with
  |none=>rw[a]at h;cases h
  |some e=>
   grind
 ·obtain⟨c,b,h⟩:=Bi.1 h;obtain⟨e,a,h⟩:=Bi.1 h
  grind
def Jm9(F:Ac D->Af D):Hk (Ak F):=by
 intro ds H d H' h;refine⟨vQ F ds H d H' h,fun t=> ?_,fun hp i=>by
  unfold Ak at h⊢;rw[hp]at h⊢;simp only at h⊢;obtain⟨f,c,e⟩:=DV.1 h
  grind⟩
 have g:=vQ F ds H d H' h;unfold Ak at h⊢;split at h
 ·simp_all
 ·obtain⟨a,b,h⟩:=Bi.1 h;rw[B6 (cP H t 9) ds a b];cases c:F a with
  |none=>rw[c]at h;cases h
  |some f=>
   grind
def OC(d:Nat->Bool)(i:Nat):Nat->Bool:=fun j=>if j=i then true else d j
def Lu(d:Nat->Bool)(i:Nat):OC d i i=true:=by simp[OC]
def JW(d:Nat->Bool){i j:Nat}(h:j≠i):OC d i j=d j:=by simp[OC,h]
section
variable {F : Fence} {n : Nat} {P : Aj}
def mT(F:Fence)(n:Nat)(P:Aj)(ops:CX Oper)(Q:Exit->Act->AA->Prop)(b:(Nat->Bool)->Act->AA->Prop)(i:Nat)(o:Oper):Prop:=
 ∀(d:Nat->Bool) (a:Act) (w:AA) (K:Act->AA->Prop),d i=false->(∀e∈o.after,Region.binds .any e=true->d e.on=true)->b d a w->(∀g c,b (OC d i) g c->K g c)->
  if Region.wanted o (yielded ops a.tmps)then o.wpIn F n P a w K Q else(∀f,o.about P w a.eval=some f->F.fn f)/\K (a.put o.dst undef) w
def yX(F:Fence)(n:Nat)(P:Aj)(ops:CX Oper)(Q:Exit->Act->AA->Prop)(a:(Nat->Bool)->Act->AA->Prop):Ac Oper->Nat->Prop
 |[],_=>True
 |o::r,i=>mT F n P ops Q a i o/\yX F n P ops Q a r (i+1)
theorem Jfp{ops:CX Oper}{Q:Exit->Act->AA->Prop}{a:(Nat->Bool)->Act->AA->Prop}:∀(l:Ac Oper) (k:Nat),yX F n P ops Q a l k->∀(j:Nat) (o:Oper),l[j]? =some o->mT F n P ops Q a (k+j) o
 |[],_,_,j,o,h=>by simp at h
 |x::r,k,hs,0,o,h=>by
  have b:x=o:=by simpa using h
  subst b;exact hs.1
 |x::r,k,hs,j+1,o,h=>by
  have:=Jfp r (k+1) hs.2 j o (by simpa using h)
  grind
def cL{id:Nat}{ops:CX Oper}{Q:Exit->Act->AA->Prop}{a:Act}{w:AA}(M:P.follows .mixedOrders=true)(k:(Nat->Bool)->Act->AA->Prop)
  (D:(ops.toList.zipIdx.all fun x=>x.1.after.all fun e=>decide (e.on<x.2)|| !Region.binds .any e)=true)
  (L:k (fun _=>false) a w.drew) (p:yX F n P ops Q k ops.toList 0)
  (l:∀d a w,(∀i,i<ops.size->d i=true)->k d a w->Q .normal a w):(Code.region id ops true).wpIn F n P Q a w:=by
 refine wpIn_region_any M ?_;have key:∀(fuel:Nat) (b:CX Bool) (d:Nat->Bool) (a:Act) (w:AA),b.size=ops.size->(∀i,i<ops.size->b.getD i false=d i)->
   ((List.range ops.size).filter fun i=> !d i).length<=fuel->k d a w->wpAnyIn F n P .any ops Q fuel b a w:=by
  have m:∀(b:CX Bool) (d:Nat->Bool),b.size=ops.size->(∀i,i<ops.size->b.getD i false=d i)->Region.ready .any ops b=[]->∀i,i<ops.size->d i=true:=by
   intro b d g z E i
   induction i using Nat.strongRecOn with
   |_ i H=>
    intro q;cases T:d i with
    |true=>rfl
    |false=>
     exfalso;have:i∈Region.ready .any ops b:=by
      refine mem_ready.2 ⟨?_,ops[i],Jku q,fun e I s=> ?_⟩
      ·grind
      ·have S:e.on<i:=by
        have B:=Ew.1 D (ops[i],i) (by grind);have J:=(Array.all_eq_true_iff_forall_mem.1 B) e I;simp only[s,MX,Bool.or_false]at J;exact L8 J
       grind
     grind
  intro fuel
  induction fuel with
  |zero=>
   intro b d a w g z R q;have r:∀i,i<ops.size->d i=true:=by simp_all
   refine⟨?_,l d a w r q⟩;apply List.eq_nil_iff_forall_not_mem.2;intro i f;obtain⟨B,o,y,_⟩:=mem_ready.1 f
   grind
  |succ fuel H=>
   intro b d a w g z R q;refine⟨fun E=>l d a w (m b d g z E) q,fun i f=> ?_⟩;obtain⟨B,o,y,G⟩:=mem_ready.1 f;have A:i<ops.size:=(IY.1 y).1;have u:d i=false:=by grind
   have t:=Jfp ops.toList 0 p i o (by simpa using y);rw[EE]at t;unfold wpOpIn;simp only[y];refine t d a w _ u (fun e I U=> ?_) q (fun K O C=>H _ (OC d i) K O (by simpa using g) (fun j N=> ?_) ?_ C)
   ·grind
   ·by_cases c:j=i
    ·subst c;rw[Lu,rA,Array.getElem?_setIfInBounds_self_of_lt (by omega)];rfl
    ·rw[JW d c,getD_set_ne false (fun h=>c h.symm)];exact z j N
   ·have:((List.range ops.size).filter fun j=> !OC d i j).length<((List.range ops.size).filter fun j=> !d j).length:=by
     have v:((List.range ops.size).filter fun j=> !OC d i j)=((List.range ops.size).filter fun j=> !d j).filter fun j=>j !=i:=by
      rw[List.filter_filter];apply List.filter_congr;intro j _;by_cases c:j=i
      ·subst c;simp[Lu]
      ·simp[JW d c,c]
     rw[v];refine Qfw.2 ⟨i,by simp[A,u],by simp⟩
    omega
 exact key ops.size _ (fun _=>false) a _ (by simp) (fun i q=>by simp_all) (by grind) L
def Jkb{id:Nat}{ops:CX Oper}{Q:Exit->Act->AA->Prop}{a:Act}{w:AA}(j:P.follows .mixedOrders=true)(b:(Nat->Bool)->Act->AA->Prop)
  (h:(ops.toList.zipIdx.all fun x=>x.1.after.all fun e=>e.on<x.2)=true)
  (g:b (fun _=>false) a w.drew) (c:yX F n P ops Q b ops.toList 0)
  (f:∀d a w,(∀i,i<ops.size->d i=true)->b d a w->Q .normal a w):(Code.region id ops true).wpIn F n P Q a w:=by
 refine cL j b ?_ g c f
 grind
end
def DU(fr:Ac D):Operand->D
 | .tmp t=>fr.getD t .undef
 | .const v=> .v v
 | .global g=> .v (.pointer (some ⟨g,0,none⟩))
 | .func f=> .clo (.func f) [] []
def JV(fr:Ac D)(dst:Af Tmp)(d:D):Ac D:=
 match dst with
 |some t=>fr.set t d
 |none=>fr
def C9(T:Tab)(f:D)(args:Ac D)(H:Ae):Af (D×Ae):=
 match f with
 | .clo (.func f) fs cs=>QC T f (fs++args++cs) H
 | .yld id=>T.yl id args H
 |_=>none
def XI(P:Aj)(T:Tab)(r:D)(name:String)(args:Ac D)(H:Ae):Af (D×Ae):=
 match r with
 | .ifc t d=>(WI P t name).bind fun f=>QC T f (d::args) H
 |_=>none
def JmV{P:Aj}{t:AQ}{name:String}{f:CG}(h:WI P t name=some f)(v:Ap)(w:AA)(n:Nat):(method (n+1) t v name).run P w= .ok (f,v) w:=by
 unfold WI at h;split at h
 ·rename_i i u d c;split at h
  ·rename_i m j;split at h
   ·rename_i g b hp a;split at h
    ·rename_i e;cases h;have:∀wr,(receiverAt t (.val v) b wr).run P w= .ok v w:=by
      intro wr;subst e;cases u<;>simp[receiverAt,run_underlying c,cQ,Place.get]
     simp[method,typeInfo,d,j,hp,follow,a,this]
    ·cases h
   ·cases h
  ·cases h
 ·cases h
def RW(T:Tab):Bool:=
 match T.fs with
 |(f,_)::(g,_)::_=>Nat.beq f g
 |_=>false
def OP(P:Aj)(t:AQ)(n:Nat)(a:Ac (Nat×D)):Af D:=
 (Fl P t n).bind fun r=>(tX r.2.1 n r.2.2 a).bind fun d=>(IU r.2.1 d).bind fun els=>if els.flatten.all vM=true/\(∀e∈els,e.length=r.2.1)/\els.length=n/\0<n then some (.sl r.2.1 els)else none
def DF(P:Aj)(T:Tab)(op:Op)(ρ:Operand->D)(H:Ae):Af (D×Ae):=
 match op with
 | .call {callee:= .value (.func f),args,.. }=>QC T f (args.toList.map ρ) H
 | .call {callee:= .value (.tmp t),args,.. }=>C9 T (ρ (.tmp t)) (args.toList.map ρ) H
 | .call {callee:= .invoke r name,args,.. }=>XI P T (ρ r) name (args.toList.map ρ) H
 | .buildSlice t n a=>if RW T&&Nat.blt 0 n then same H (OP P t n (a.toList.map fun(i,x)=>(i,ρ x)))else Cc P (.buildSlice t n a) ρ H
 |op=>Cc P op ρ H
mutual
def MC:D->Af Ap
 | .v x=>some x
 | .agg cs=>(xK cs).map fun l=> .agg l.toArray
 | .ifc t d=>(MC d).map (.iface t)
 |_=>none
def xK:Ac D->Af (Ac Ap)
 |[]=>some []
 |d::r=>(MC d).bind fun x=>(xK r).map (x:: ·)
end
section
variable {S : Nat → Prop} {L : Ac (Nat × Nat)} {w : AA}
mutual
theorem gH:∀(d:D) (x y:Ap),MC d=some y->Rep S L w x d->x=y
 | .v z,x,y,h,hx=>by simp only[MC,CE]at h;simp only[Rep]at hx;rw[hx,h]
 | .agg cs,x,y,h,hx=>by
  simp only[MC]at h;obtain⟨l,h1,rfl⟩:=DV.1 h;simp only[Rep]at hx;obtain⟨xs,rfl,h2⟩:=hx;rw[JiN cs xs l h1 h2]
 | .ifc t d,x,y,h,hx=>by
  simp only[MC]at h;obtain⟨z,h1,rfl⟩:=DV.1 h;simp only[Rep]at hx;obtain⟨u,rfl,h2⟩:=hx;rw[gH d u z h1 h2]
 | .undef,x,y,h,hx=>by simp[MC]at h
 | .sl _ _,x,y,h,hx=>by simp[MC]at h
 | .ptr _,x,y,h,hx=>by simp[MC]at h
 | .tup _,x,y,h,hx=>by simp[MC]at h
 | .hp _ _,x,y,h,hx=>by simp[MC]at h
 | .hs _ _,x,y,h,hx=>by simp[MC]at h
 | .clo _ _ _,x,y,h,hx=>by simp[MC]at h
 | .mp _,x,y,h,hx=>by simp[MC]at h
 | .mv _ _,x,y,h,hx=>by simp[MC]at h
 | .yld _,x,y,h,hx=>by simp[MC]at h
 | .ht _ _ _,x,y,h,hx=>by simp[MC]at h
theorem JiN:∀(ds:Ac D) (xs l:Ac Ap),xK ds=some l->Au S L w xs ds->xs=l
 |[],xs,l,h,hx=>by simp only[xK,CE]at h;simp only[Au]at hx;rw[hx,h]
 |d::r,xs,l,h,hx=>by
  simp only[xK]at h;obtain⟨z,h1,h⟩:=Bi.1 h;obtain⟨l',h2,rfl⟩:=DV.1 h;simp only[Au]at hx;obtain⟨u,us,rfl,h3,h4⟩:=hx;rw[gH d u z h1 h3,JiN r us l' h2 h4]
end
end
def eN:D->Af Ap
 | .ifc t d=>MC (.ifc t d)
 |_=>none
def I2:Af (Out×Ae)->Af (Ap×Ae)
 |some (.pan x,H)=>some (x,H)
 |_=>none
def dC(T:Tab)(op:Op)(ρ:Operand->D):Af ((Ac D->Ae->Af (Out×Ae))×Ac D):=
 match T.pn with
 |[]=>none
 |p=>
  match op with
  | .call {callee:= .value (.func f),args,.. }=>(UO p f).map fun G=>(G,args.toList.map ρ)
  | .call {callee:= .value (.tmp t),args,.. }=>
   match ρ (.tmp t)with
   | .clo (.func f) fs cs=>(UO p f).map fun G=>(G,fs++args.toList.map ρ++cs)
   |_=>none
  |_=>none
def LU(T:Tab)(op:Op)(ρ:Operand->D)(H:Ae):Af (Ap×Ae):=
 match op with
 | .panic x=>(eN (ρ x)).map fun v=>(v,H)
 |op=>(dC T op ρ).bind fun g=>I2 (g.1 g.2 H)
def Jhu{P:Aj}{T:Tab}{op:Op}{ρ:Operand->D}{H:Ae}{g:(Ac D->Ae->Af (Out×Ae))×Ac D}(h:dC T op ρ=some g):DF P T op ρ H=nR (g.1 g.2 H):=by
 unfold dC at h;split at h
 ·cases h
 ·rename_i p hp;have b:∀f G ds,UO T.pn f=some G->QC T f ds H=nR (G ds H):=by
   intro f G ds a;unfold QC;split
   ·grind
   ·simp only[a]
  split at h
  ·obtain⟨G,a,rfl⟩:=DV.1 h;exact b _ G _ a
  ·split at h
   ·rename_i f fs cs c;obtain⟨G,a,rfl⟩:=DV.1 h;simp only[DF,C9,c];exact b _ G _ a
   ·cases h
  ·cases h
def Jb0{P:Aj}{T:Tab}{op:Op}{ρ:Operand->D}{H:Ae}{r:Ap×Ae}(h:LU T op ρ H=some r):DF P T op ρ H=none:=by
 unfold LU at h;split at h
 ·rfl
 ·obtain⟨g,a,h⟩:=Bi.1 h;rw[Jhu a];unfold I2 at h;unfold nR
  grind
def Ns(ops:Ac Oper)(o:Oper)(fr:Ac D):Af Bool:=
 match o.guard with
 |none=>some true
 |some (j,a)=>
  match((ops[j]?).bind (·.dst)).bind (fr[·]?)with
  |some (.v (.bool b))=>some (b==a)
  |some (.v (.tuple _))=>some false
  |_=>none
def Iq(P:Aj)(T:Tab)(ops:Ac Oper)(o:Oper)(fr:Ac D)(H:Ae):Af (D×Ae):=
 match Ns ops o fr with
 |some true=>DF P T o.op (DU fr) H
 |some false=>some (.v undef,H)
 |none=>none
abbrev Fr:=Ac D×Ae
def GG(P:Aj)(T:Tab)(ops:Ac Oper):Ac Oper->Fr->Af Fr
 |[],s=>some s
 |o::r,s=>(Iq P T ops o s.1 s.2).bind fun d=>GG P T ops r (JV s.1 o.dst d.1,d.2)
def QV(P:Aj)(T:Tab)(ops:Ac Oper):Ac Oper->Nat->Fr->Af (Nat×Ap×Fr)
 |[],_,_=>none
 |o::r,i,s=>
  match Ns ops o s.1 with
  |some true=>
   match LU T o.op (DU s.1) s.2 with
   |some x=>some (i,x.1,(s.1,x.2))
   |none=>(DF P T o.op (DU s.1) s.2).bind fun d=>QV P T ops r (i+1) (JV s.1 o.dst d.1,d.2)
  |some false=>QV P T ops r (i+1) (JV s.1 o.dst (.v undef),s.2)
  |none=>none
theorem nQ{P:Aj}{T:Tab}{all:Ac Oper}:∀(ops:Ac Oper) (i:Nat) (s:Fr) (k:Nat) (x:Ap) (s':Fr),QV P T all ops i s=some (k,x,s')->
  ∃j o a,k=i+j/\ops[j]? =some o/\GG P T all (ops.take j) s=some (s'.1,a)/\Ns all o s'.1=some true/\LU T o.op (DU s'.1) a=some (x,s'.2)
 |[],i,s,k,x,s',h=>by cases h
 |o::r,i,s,k,x,s',h=>by
  simp only[QV]at h;split at h
  ·rename_i b;split at h
   ·rename_i y n;cases h;exact⟨0,o,s.2,rfl,rfl,rfl,b,n⟩
   ·obtain⟨d,p,h⟩:=Bi.1 h;obtain⟨j,g,a,m,f,e,c,l⟩:=nQ r _ _ k x s' h;refine⟨j+1,g,a,by omega,by simpa using f,?_,c,l⟩;simp only[QX,GG,Iq,b,p,BR];exact e
  ·rename_i b;obtain⟨j,g,a,m,f,e,c,l⟩:=nQ r _ _ k x s' h;refine⟨j+1,g,a,by omega,by simpa using f,?_,c,l⟩;simp only[QX,GG,Iq,b,BR];exact e
  ·cases h
def Ja(P:Aj)(T:Tab)(ops:Ac Oper):Ac Oper->Fr->Ac Ae
 |[],s=>[s.2]
 |o::r,s=>s.2::(match Iq P T ops o s.1 s.2 with|some d=>Ja P T ops r (JV s.1 o.dst d.1,d.2)|none=>[])
inductive Wd:Fence->Prop
 |wide:Wd Fence.wide
 |round (l:Nat):Wd (Fence.wide.inRound l)
def Wd.fn{F:Fence}(h:Wd F)(f:CG):F.fn f:=by cases h<;>trivial
def Wd.depth{F:Fence}(h:Wd F):F.depth=none:=by cases h<;>rfl
def Wd.calls{F:Fence}(h:Wd F){n:Nat}{P:Aj}{f:CG}{args:CX Ap}{w:AA}{R:Ending->AA->Prop}(a:Calls P f args w R):CallsIn F n P f args w R:=by
 cases h with
 |wide=>exact callsIn_wide.2 a
 |round l=>exact CallsIn.inRound l (callsIn_wide.2 a)
def Wd.round'{F:Fence}(h:Wd F){n:Nat}{P:Aj}{l:Nat}{f:CG}{tmps:CX Ap}{assign body:Code}{w:AA}{R:Ending->AA->Prop}(a:RoundIn Fence.wide n P l f tmps assign body w R):RoundIn F n P l f tmps assign body w R:=by
 cases h with
 |wide=>exact a
 |round l=>exact a
def vZ(a:Ac Nat):Ac Deferred:=a.map fun D=>{target:= .collected D,args:= #[]}
structure NB where
 n:Nat
 bs:List Deferred
 no:Bool
def Pq(N:NB)(S:Nat->Prop)(w:AA)(ds:Ac Deferred):Prop:=∃a:Ac Nat,ds=vZ a++N.bs/\a.Nodup/\(∀D∈a,N.n<=D/\¬S D/\w.heap[D]? =some (.deferred (some [])))/\(N.no=true->a=[])
def Pq.nil{N:Nat}{no:Bool}{S:Nat->Prop}{w:AA}:Pq ⟨N,[],no⟩ S w []:=⟨[],rfl,List.nodup_nil,fun D h=>by(cases h),fun _=>rfl⟩
def Pq.later{N:NB}{B:Nat}{S a:Nat->Prop}{L n:Ac (Nat×Nat)}{w b:AA}{ds:Ac Deferred}(h:Pq N S w ds)(c:Later B S a L n w b):Pq N a b ds:=by
 obtain⟨f,m,k,e,j⟩:=h;refine⟨f,m,k,fun D g=> ?_,j⟩;obtain⟨i,d,l⟩:=e D g;refine⟨i,fun o=> ?_,c.marks D l⟩;rcases c.only D o with h|h
 ·exact d h
 grind
structure EY(B:Nat)(N:NB)(S:Nat->Prop)(L:List (Nat×Nat))(w:World)(a:Act)(s:Fr):Prop where
 defers:Pq N S w a.defers
 tmps:Au S L w a.tmps.toList s.1
 objs:BD B S L w s.2
def Au.put{S:Nat->Prop}{L:Ac (Nat×Nat)}{w:AA}{a:Act}{fr:Ac D}(h:Au S L w a.tmps.toList fr)(dst:Af Tmp){v:Ap}{d:D}(b:Rep S L w v d):Au S L w (a.put dst v).tmps.toList (JV fr dst d):=by
 cases dst with
 |none=>exact h
 |some t=>
  simp only[Act.put,JV,Array.toList_setIfInBounds];exact h.set t b
def UH(a:Act)(dst:Af Tmp)(v:Ap):(a.put dst v).defers=a.defers:=by
 cases dst<;>rfl
def Au.getD{S:Nat->Prop}{L:Ac (Nat×Nat)}{w:AA}{xs:Ac Ap}{ds:Ac D}(h:Au S L w xs ds)(t:Nat)(u:Ap):Rep S L w (xs.getD t u) (ds.getD t .undef):=by
 cases a:ds[t]? with
 |none=>rw[Ed,Ed,a];simp only[Option.getD_none,Rep]
 |some d=>
  obtain⟨x,c,b⟩:=h.get t d a
  grind
def XO{S:Nat->Prop}{L:Ac (Nat×Nat)}{w:AA}{a:Act}{fr:Ac D}(h:Au S L w a.tmps.toList fr)(x:Operand):Rep S L w (a.eval x) (DU fr x):=by
 cases x with
 |tmp t=>
  have:=h.getD t undef;simpa[Act.eval,DU]using this
 |func f=>
  simp only[DU,Rep,Au];exact⟨[],[],rfl,rfl,rfl⟩
 |_=>rfl
def Juu(x:Ap)(xs:CX Ap):(#[x]++xs).extract 1 (#[x]++xs).size=xs:=by simp
theorem JiS{S c:Nat->Prop}{L j:Ac (Nat×Nat)}{w i:AA}:∀{ds:Ac D} {xs:Ac Ap},ds.all vM=true->Au S L w xs ds->Au c j i xs ds
 |[],xs,_,h=>by simpa only[Au]using h
 |d::r,xs,a,h=>by
  simp only[Au]at h⊢;simp only[Na,DJ]at a;obtain⟨x,e,g,f,b⟩:=h;refine⟨x,e,g,?_,JiS a.2 b⟩;cases d<;>simp[vM]at a
  simpa only[Rep]using f
def Qd2(w:AA)(a:Ac Ap)(e:AQ)(j:Nat)(x:Ap)(h:a[j]? =some x):(w.alloc (.cells a.toArray e)).cell? ⟨w.heap.size,j,none⟩=some x:=by simp_all
def Zk{P:Aj}{T:Tab}(hT:Bg P T){F:Fence}(hF:Wd F){n:Nat}{o:Oper}{d:D}{H H':Ae}{a:Act}{w:AA}{B:Nat}{S:Nat->Prop}{L:Ac (Nat×Nat)}{ρ:Operand->D}{K:Act->AA->Prop}{Q:Exit->Act->AA->Prop}(h:DF P T o.op ρ H=some (d,H'))
  (M:∀x,Rep S L w (a.eval x) (ρ x)) (hr:BD B S L w H) (V:∀v A I E,Rep I E A v d->BD B I E A H'->Later B S I L E w A->K (a.put o.dst v) A):o.wpIn F n P a w K Q:=by
 refine⟨fun f _=>hF.fn f,?_⟩;have R:∀{p:Prop},F.depth.isSome=true->p:=fun e=>by rw[hF.depth]at e;cases e
 rw[Oper.semAt_eq _ _ _ (fun c e=>by rw[e]at h;simp[DF,Cc]at h)];have call:∀(f:CG) (ds:Ac D) (vs:Ac Ap),QC T f ds H=some (d,H')→Au S L w vs ds→(∀fn,P.funcs[f]? =some fn→fn.name≠ "runtime.NumGoroutine" →fn.body.isSome=true→(execOp a.eval o).run P w= .ok (.enter f vs.toArray) w)→
   o.uponIn F n P a K Q ((execOp a.eval o).run P w):=by
  intro f ds vs hl s l;obtain⟨G,hG,hd,_⟩:=vO hT hl;obtain⟨fn,k,q,u⟩:=hG.body;rw[l fn k q u];refine⟨R,?_⟩;refine(hF.calls (hG.calls ds H d H' hd B S L vs w hr s)).mono ?_;rintro e A ⟨v,I,E,rfl,C,h5,h6⟩;exact V v A I E C h5 h6
 unfold DF at h;split at h
 ·rename_i f args ab g;refine call f _ (args.toList.map a.eval) h (Au.ops M args.toList) fun fn k q u=> ?_;obtain⟨dst,op,type,N,after,guard⟩:=o;simp only at g;subst g;have hb:fn.body≠none:=by grind
  simp[execOp,resolve,Act.eval,Deferred.ofValue,invoke,callFunc,run_program,k,q,hb]
  grind
 ·rename_i t args ab g;unfold C9 at h;split at h
  ·rename_i f fs cs U;have J:=M (.tmp t);rw[U]at J;simp only[Rep]at J;obtain⟨W,zs,O,hy,hz⟩:=J;refine call f _ (W++args.toList.map a.eval++zs) h ((hy.append (Au.ops M args.toList)).append hz) fun fn k q u=> ?_;obtain⟨dst,op,type,N,after,guard⟩:=o;simp only at g;subst g;have hb:fn.body≠none:=by grind
   simp[execOp,resolve,O,Deferred.ofValue,invoke,callFunc,run_program,k,q,hb]
  ·rename_i id U;have J:=M (.tmp t);rw[U]at J;obtain⟨b,c,f,tmps,assign,body,k,q,u⟩:=hT.yl id _ H d H' h B S L _ w hr (Au.ops M args.toList);simp only[Rep]at J;obtain⟨b',c',C,O⟩:=J;rw[k]at C;cases C;have l:(execOp a.eval o).run P w= .ok (.round b f tmps assign body) w:=by
    obtain⟨dst,op,type,N,after,guard⟩:=o;simp only at g;subst g;have ad:(Instr.yield b (Array.map a.eval args)).run P w= .ok (.round b f tmps assign body) w:=by rw[<-q];congr 2;apply Al;simp
    simp[execOp,resolve,O,Deferred.ofValue,invoke,ad]
   rw[l];refine⟨R,?_⟩;refine(hF.round' (u (n-1))).mono ?_
   grind
  ·cases h
 ·rename_i r name args ab g;unfold XI at h;split at h
  ·rename_i ty d U;obtain⟨f,hm,h⟩:=Bi.1 h;have J:=M r;rw[U]at J;simp only[Rep]at J;obtain⟨y,O,hy⟩:=J;refine call f _ (y::args.toList.map a.eval) h (Au.cons hy (Au.ops M args.toList)) fun fn k q u=> ?_;obtain⟨dst,op,type,N,after,guard⟩:=o;simp only at g;subst g;have hb:fn.body≠none:=by grind
   have ac:(method (P.types.size+Made.depth) ty y name).run P w= .ok (f,y) w:=JmV hm y w (P.types.size+99);have e1:(#[y]++(#[a.eval r]++args.map a.eval).extract 1 (#[a.eval r]++args.map a.eval).size:CX Ap)=(y::args.toList.map a.eval).toArray:=by
    rw[Juu];apply Al;simp
   have af:(callMethod (.iface ty y) name ((#[a.eval r]++args.map a.eval).extract 1 (#[a.eval r]++args.map a.eval).size)).run P w= .ok (.enter f (y::args.toList.map a.eval).toArray) w:=by
    unfold callMethod;simp only[Sem.run_bind,run_program,Result.andThen_ok,ac,e1];simp[callFunc,run_program,k,q,hb]
   simp only[execOp,resolve,Sem.run_bind,Sem.run_pure,Result.andThen_ok,invoke]
   grind
  ·cases h
 ·rename_i t m ps g;split at h
  ·cases s:OP P t m (ps.toList.map fun(i,x)=>(i,ρ x))with
   |none=>rw[s]at h;cases h
   |some dv=>
    rw[s]at h;cases h;unfold OP at s;obtain⟨⟨e,sz,z⟩,hi,s⟩:=Bi.1 s;obtain⟨dr,X,s⟩:=Bi.1 s;obtain⟨els,he,s⟩:=Bi.1 s;split at s
    case isFalse=>cases s
    rename_i U;cases s;obtain⟨Z,Y,hn,ae⟩:=U;obtain⟨W,k,q,u,C,h5⟩:=JdS M m ps hi X he;have aa:Below w.heap.size w (w.alloc (.cells W.toArray e)):=(Below.refl _ _).alloc (BQ _) _;obtain⟨q1,q2⟩:=hr.call aa;have l:(execOp a.eval o).run P w= .ok (.value (.slice (some ⟨w.heap.size,0,none⟩) m m)) (w.alloc (.cells W.toArray e)):=by
     obtain⟨dst,op,type,N,after,guard⟩:=o;simp only at g;subst g;simp[execOp,k]
    rw[l];refine V _ _ _ L ?_ q1 q2;simp only[Rep];refine .inr ⟨w.heap.size,0,m,by rw[hn],by omega,by omega,.inr ⟨BQ _,by simp⟩,EM.of Y (Eg.of (xs:=W) (JiS Z q) fun j x hj=> ?_)⟩;rw[EE];exact Qd2 w W e j x hj
  ·obtain⟨x,A,I,E,k,q,u,C⟩:=nB (o:=o) (by rw[g];exact h) M hr;rcases k with k|⟨k,rfl⟩
   ·rw[k];exact V x A I E q u C
   ·rw[k];exact V undef A I E q u C
 ·obtain⟨x,A,I,E,k,q,u,C⟩:=nB h M hr;rcases k with k|⟨k,rfl⟩
  ·rw[k];exact V x A I E q u C
  ·rw[k];exact V undef A I E q u C
def Jc2{P:Aj}{T:Tab}(hT:Bg P T){F:Fence}(hF:Wd F){n:Nat}{o:Oper}{y:Ap}{H H':Ae}{a:Act}{w:AA}{B:Nat}{S:Nat->Prop}{L:Ac (Nat×Nat)}{ρ:Operand->D}{K:Act->AA->Prop}{Q:Exit->Act->AA->Prop}(h:LU T o.op ρ H=some (y,H'))
  (hρ:∀x,Rep S L w (a.eval x) (ρ x)) (hr:BD B S L w H) (hQ:∀w' S' L',BD B S' L' w' H'->Later B S S' L L' w w'->Q (.panic [{v:=y,recovered:=false}]) a w'):o.wpIn F n P a w K Q:=by
 refine⟨fun f _=>hF.fn f,?_⟩;have hdep:∀{p:Prop},F.depth.isSome=true->p:=fun e=>by rw[hF.depth]at e;cases e
 rw[Oper.semAt_eq _ _ _ (fun c e=>by rw[e]at h;unfold LU dC at h;grind)]
 have call:∀(f:CG) (G:Ac D→Ae→Af (Out×Ae)) (ds:Ac D) (vs:Ac Ap),UO T.pn f=some G→I2 (G ds H)=some (y,H')→Au S L w vs ds→(∀fn,P.funcs[f]? =some fn→fn.name≠ "runtime.NumGoroutine" →fn.body.isSome=true→(execOp a.eval o).run P w= .ok (.enter f vs.toArray) w)→
   o.uponIn F n P a K Q ((execOp a.eval o).run P w):=by
  intro f G ds vs hl hp hv hrun;have hG:=oX hT.pn hl;obtain⟨fn,h1,h2,h3⟩:=hG.body;rw[hrun fn h1 h2 h3];refine⟨hdep,?_⟩;unfold I2 at hp;split at hp
  ·rename_i x H2 hg;cases hp;refine(hF.calls (hG.calls ds H _ _ hg B S L vs w hr hv)).mono ?_;rintro e w' ⟨S',L',rfl,h5,h6⟩;exact hQ w' S' L' h5 h6
  ·cases hp
 unfold LU at h;split at h
 ·rename_i x heq;obtain⟨v,hv,h⟩:=DV.1 h;cases h;have hx:=hρ x;obtain⟨dst,op,type,pos,after,guard⟩:=o;simp only at heq;subst heq;unfold eN at hv;split at hv
  ·rename_i t d hd;rw[hd]at hx;have hex:=gH _ _ _ hv hx;simp only[Rep]at hx;obtain⟨z,hz,_⟩:=hx;rw[hz]at hex;have hrun:(execOp a.eval {dst,op:= .panic x,type,pos,after,guard}).run P w= .halt (.panic y) w:=by
    simp only[execOp,hz];rw[<-hex];rfl
   rw[hrun];exact hQ w S L hr Later.refl
  ·cases hv
 ·obtain⟨g,hg,hp⟩:=Bi.1 h;unfold dC at hg;split at hg
  ·cases hg
  ·split at hg
   ·rename_i f args ats heq;obtain⟨G,hG,rfl⟩:=DV.1 hg;refine call f G _ (args.toList.map a.eval) hG hp (Au.ops hρ args.toList) fun fn h1 h2 h3=> ?_;obtain⟨dst,op,type,pos,after,guard⟩:=o;simp only at heq;subst heq;have hb:fn.body≠none:=by grind
    simp[execOp,resolve,Act.eval,Deferred.ofValue,invoke,callFunc,run_program,h1,h2,hb]
    grind
   ·rename_i t args ats heq;split at hg
    ·rename_i f fs cs hc;obtain⟨G,hG,rfl⟩:=DV.1 hg;have hf:=hρ (.tmp t);rw[hc]at hf;simp only[Rep]at hf;obtain⟨ys,zs,hfv,hy,hz⟩:=hf;refine call f G _ (ys++args.toList.map a.eval++zs) hG hp ((hy.append (Au.ops hρ args.toList)).append hz) fun fn h1 h2 h3=> ?_;obtain⟨dst,op,type,pos,after,guard⟩:=o;simp only at heq;subst heq;have hb:fn.body≠none:=by grind
     simp[execOp,resolve,hfv,Deferred.ofValue,invoke,callFunc,run_program,h1,h2,hb]
    ·cases hg
   ·cases hg
def iH{ops:CX Oper}{o:Oper}{fr:Ac D}{tmps:CX Ap}{b:Bool}(d:Ns ops.toList o fr=some b)
  (c:∀j a t v,o.guard=some (j,a)->(ops.toList[j]?).bind (·.dst)=some t->fr[t]? =some (.v v)->tmps[t]? =some v):Region.wanted o (yielded ops tmps)=b:=by
 unfold Ns at d;unfold Region.wanted;split at d
 ·grind
 ·rename_i j a g;rw[g];have key:∀v,((ops.toList[j]?).bind (·.dst)).bind (fr[·]?)=some (.v v)->yielded ops tmps j=match v with| .bool b=>some b|_=>none:=by
   intro v e;cases f:(ops.toList[j]?).bind (·.dst)with
   |none=>rw[f]at e;cases e
   |some t=>
    rw[f,BR]at e;have i:=c j a t v g f e;have h:(ops[j]?).bind (·.dst)=some t:=by grind
    unfold yielded
    grind
  split at d
  ·simp_all
  ·grind
  ·cases d
def QaY{P:Aj}{T:Tab}(W:Bg P T){F:Fence}(J:Wd F){n B:Nat}{N:NB}(ops:CX Oper){Q:Exit->Act->AA->Prop}:∀(l:Ac Nat) (m:Ac Oper) (a:Act) (w:AA) (S:Nat->Prop) (L:Ac (Nat×Nat)) (s s':Fr),l.map (ops[·]?)=m.map some->GG P T ops.toList m s=some s'->EY B N S L w a s->
  (∀q y u A,EY B N u A y q s'->Later B S u L A w y->Q .normal q y)->wpOpsIn F n P ops Q l a w:=by
 intro l
 induction l with
 |nil=>
  intro m a w S L s s' g h e z;cases m with
  |nil=>
   simp only[GG,CE]at h;subst h;exact z a w S L e Later.refl
  |cons o r=>cases g
 |cons i K I=>
  intro m a w S L s s' g h e z;cases m with
  |nil=>cases g
  |cons o r=>
   simp only[EP,Q3]at g;obtain⟨R,g⟩:=g;simp only[wpOpsIn,R];simp only[GG]at h;cases k:Iq P T ops.toList o s.1 s.2 with
   |none=>rw[k]at h;cases h
   |some d=>
    rw[k,BR]at h;have c:∀b,Ns ops.toList o s.1=some b->Region.wanted o (yielded ops a.tmps)=b:=fun b p=>iH p fun j H t v _ _ O=>by
     obtain⟨x,Z,U⟩:=e.tmps.get t _ O;simp only[Rep]at U
     grind
    unfold Iq at k;split at k
    ·rename_i p;rw[c _ p];simp only[Bv];obtain⟨d,H'⟩:=d;refine Zk W J k (XO e.tmps) e.objs fun v y u A Y X G=> ?_;exact I r _ _ u A _ _ g h ⟨by rw[UH];exact e.defers.later G,(G.repA e.tmps).put o.dst Y,X⟩ fun q D C E V M=>z q D C E V (G.trans M)
    ·rename_i p;rw[c _ p];simp only[BF,BC];cases k;exact⟨fun f _=>J.fn f,I r _ _ S L _ _ g h ⟨by rw[UH];exact e.defers,e.tmps.put o.dst (v:=undef) (d:= .v undef) (by simp only[Rep]),e.objs⟩ z⟩
    ·cases k
def JuR{P:Aj}{T:Tab}(hT:Bg P T){F:Fence}(Z:Wd F){n B:Nat}{N:NB}(ops:CX Oper){Q:Exit->Act->AA->Prop}(j:Nat){o:Oper}{x:Ap}{u:Ac D}{f1 H':Ae}{a:Act}{w:AA}{S:Nat->Prop}{L:Ac (Nat×Nat)}{s:Fr}
  (U:ops.toList[j]? =some o) (h:GG P T ops.toList (ops.toList.take j) s=some (u,f1)) (E:Ns ops.toList o u=some true) (hp:LU T o.op (DU u) f1=some (x,H')) (e:EY B N S L w a s)
  (K:∀k z A C,EY B N A C z k (u,H')->Later B S A L C w z->Q (.panic [{v:=x,recovered:=false}]) k z):wpOpsIn F n P ops Q (List.range ops.size) a w:=by
 have hj:j<ops.size:=by have:=(CV.1 U).1;simpa using this
 have q:List.range ops.size=List.range j++(List.range' j (ops.size-j)):=by
  have h:=List.range'_append_1 (s:=0) (m:=j) (n:=ops.size-j);rw[EE,show j+(ops.size-j)=ops.size from by omega]at h;rw[Jkv,Jkv,h]
 have key:∀(l:Ac Nat) (J:Ac Oper) (a:Act) (w:AA) (S:Nat->Prop) (L:Ac (Nat×Nat)) (s s':Fr),l.map (ops[·]?)=J.map some->GG P T ops.toList J s=some s'->EY B N S L w a s->∀(tail:Ac Nat),
   (∀k z A C,EY B N A C z k s'->Later B S A L C w z->wpOpsIn F n P ops Q tail k z)->wpOpsIn F n P ops Q (l++tail) a w:=by
  intro l
  induction l with
  |nil=>
   intro J a w S L s s' p h e tail K;cases J with
   |nil=>
    simp only[GG,CE]at h;subst h;exact K a w S L e Later.refl
   |cons o r=>cases p
  |cons i aa ih=>
   intro J a w S L s s' p h e tail K;cases J with
   |nil=>cases p
   |cons o r=>
    simp only[EP,Q3]at p;obtain⟨U,p⟩:=p;simp only[Jd,wpOpsIn,U];simp only[GG]at h;cases y:Iq P T ops.toList o s.1 s.2 with
    |none=>rw[y]at h;cases h
    |some d=>
     rw[y,BR]at h;have c:∀b,Ns ops.toList o s.1=some b->Region.wanted o (yielded ops a.tmps)=b:=fun b E=>iH E fun j M t v _ _ V=>by
      obtain⟨x,W,O⟩:=e.tmps.get t _ V;simp only[Rep]at O;subst O;simpa using W
     unfold Iq at y;split at y
     ·rename_i E;rw[c _ E];simp only[Bv];obtain⟨d,H'⟩:=d;refine Zk hT Z y (XO e.tmps) e.objs fun v z A C R h3 Y=> ?_;exact ih r _ _ A C _ _ p h ⟨by rw[UH];exact e.defers.later Y,(Y.repA e.tmps).put o.dst R,h3⟩ tail fun k H G I h5 h6=>K k H G I h5 (Y.trans h6)
     ·rename_i E;rw[c _ E];simp only[BF,BC];cases y;exact⟨fun f _=>Z.fn f,ih r _ _ S L _ _ p h ⟨by rw[UH];exact e.defers,e.tmps.put o.dst (v:=undef) (d:= .v undef) (by simp only[Rep]),e.objs⟩ tail K⟩
     ·cases y
 rw[q];refine key _ (ops.toList.take j) a w S L s _ ?_ h e _ ?_
 ·apply PU;intro i;by_cases hi:i<j
  ·have:i<ops.size:=by omega
   simp[hi,this]
  ·simp[hi,List.getElem?_take]
 ·intro k z A C g p;obtain⟨m,hm⟩:∃m,ops.size-j=m+1:=⟨ops.size-j-1,by omega⟩;rw[hm,List.range'_succ];have X:ops[j]? =some o:=by rw[<-Zc];exact U
  simp only[wpOpsIn,X];have c:Region.wanted o (yielded ops k.tmps)=true:=iH E fun j M t v _ _ V=>by
   obtain⟨x,W,O⟩:=g.tmps.get t _ V;simp only[Rep]at O;subst O;simpa using W
  rw[c];simp only[Bv];refine Jc2 hT Z hp (XO g.tmps) g.objs fun H G I y R=> ?_;exact K k H G I ⟨g.defers.later R,R.repA g.tmps,y⟩ (p.trans R)
def Jx8(ops:CX Oper):(List.range ops.size).map (ops[·]?)=ops.toList.map some:=by
 apply PU
 grind
end Go.Proofs.YtapdelkomkpgmaaGreatDoor
