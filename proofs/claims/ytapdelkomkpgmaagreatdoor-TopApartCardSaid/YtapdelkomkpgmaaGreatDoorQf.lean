import Derived.Test.YtapdelkomkpgmaaGreatDoorQe
namespace Go.Proofs.YtapdelkomkpgmaaGreatDoor
open Go.RowKit
set_option maxRecDepth 100000
set_option linter.all false
def Yv(body:Fr->Af (Lv×Fr)):Nat->Fr->Af (Lv×Fr)
 |0,_=>none
 |n+1,fr=>
  match body fr with
  |some (.normal,a)=>Yv body n a
  |r=>r
def DS(r:Af (Lv×Fr))(k:Fr->Af (Lv×Fr)):Af (Lv×Fr):=
 match r with
 |some (.normal,fr)=>k fr
 |r=>r
def oF(c:D)(x y:Af (Lv×Fr)):Af (Lv×Fr):=
 match c with
 | .v (.bool true)=>x
 | .v (.bool false)=>y
 |_=>none
def nU(id:Nat)(r:Af (Lv×Fr)):Af (Lv×Fr):=
 match r with
 |some (.exit j,fr)=>some (if j=id then .normal else .exit j,fr)
 |r=>r
def PW(P:Aj)(T:Tab)(ops:Ac Oper)(a:Bool)(fr:Fr):Af (Lv×Fr):=
 if !a||Wx T ops then(GG P T ops ops fr).bind fun b=>if !a||(bQ T ops).all (Gd.holds (DU b.1) (Ja P T ops ops fr))then some (.normal,b)else none else none
def HZ(P:Aj)(T:Tab)(ops:Ac Oper)(a:Bool)(fr:Fr):Af (Lv×Fr):=
 (QV P T ops ops 0 fr).bind fun r=>
  if a then(if Wx T ops&&Ts T ops r.1&&(fC T ops r.1).all (Gd.holds (DU r.2.2.1) (Ja P T ops (ops.take r.1) fr))then some (.pan r.2.1,(List.replicate fr.1.length .undef,r.2.2.2))else none)else some (.pan r.2.1,r.2.2)
def Y2(x y:Af (Lv×Fr)):Af (Lv×Fr):=
 match x with
 |some r=>some r
 |none=>y
def JdV(r:Af (Lv×Fr)):Af (Lv×Fr):=
 match r with
 |some (.goto _,_)=>none
 |r=>r
def rP(ops:Ac Oper):Af Nat:=(ops.getLast?).bind (·.dst)
def RZ(ops:Ac Oper):Ac Nat:=(ops.filterMap (·.dst)).filter fun t=>match rP ops with|some u=> !Nat.beq t u|none=>true
def TN(l:Ac Nat)(fr:Ac D):Ac D:=l.foldl (fun f t=>f.set t .undef) fr
def nY(kp:Ac Nat)(id:Nat)(ops:Ac Oper)(r:Af (Lv×Fr)):Af (Lv×Fr):=
 match kp.contains (1000000+id)||kp.contains (2000000+id),r with
 |true,some (.normal,fr)=>some (.normal,(TN (RZ ops) fr.1,fr.2))
 |_,r=>r
def JgS{kp:Ac Nat}{id:Nat}{ops:Ac Oper}{r:Af (Lv×Fr)}{x:Lv}{fr:Fr}(h:nY kp id ops r=some (x,fr)):∃a,r=some (x,a)/\(fr=a\/fr=(TN (RZ ops) a.1,a.2)):=by
 unfold nY at h
 grind
theorem Ps:∀(l:Ac Nat) (fr:Ac D),(TN l fr).length=fr.length
 |[],fr=>rfl
 |t::r,fr=>by
  show(TN r (fr.set t .undef)).length=_;rw[Ps r,Za]
def Au.undef{S:Nat->Prop}{L:Ac (Nat×Nat)}{w:AA}{xs:Ac Ap}{ds:Ac D}(h:Au S L w xs ds)(t:Nat):Au S L w xs (ds.set t .undef):=by
 induction ds generalizing xs t with
 |nil=>exact h
 |cons d r b=>
  simp only[Au]at h;obtain⟨y,e,rfl,c,a⟩:=h;cases t with
  |zero=>exact Au.cons (by simp only[Rep]) a
  |succ t=>exact Au.cons c (b a t)
theorem Au.scrub{S:Nat->Prop}{L:Ac (Nat×Nat)}{w:AA}{xs:Ac Ap}:∀(l:Ac Nat) {ds:Ac D},Au S L w xs ds->Au S L w xs (TN l ds)
 |[],ds,h=>h
 |t::r,ds,h=>Au.scrub r (h.undef t)
def P7(kp:Ac Nat):Ac D->Nat->Ac D
 |[],_=>[]
 |d::r,i=>(if kp.contains i then d else .undef)::P7 kp r (i+1)
def forget(kp:Ac Nat)(fr:Fr):Fr:=(P7 kp fr.1 0,fr.2)
def JiG(kp:Ac Nat)(r:Af (Lv×Fr)):Af (Lv×Fr):=r.map fun p=>(p.1,forget kp p.2)
def LK:Code->Bool
 | .seq x y| .cond _ x y=>LK x&&LK y
 | .block _ c| .loop c| .scope c=>LK c
 | .rangeFunc _ _ _ _=>false
 |_=>true
def MQ(r:Af (D×Ae))(id:Nat):Af (Lv×Ae):=
 match r with
 |some (_,H)=>
  match H[id]? with
  |some (.loop .ready _ _ _ _ _ _)=>some (.normal,H.set id .dead)
  |some (.loop (.done .normal) _ _ _ _ _ _)=>none
  |some (.loop (.done (.goto _)) _ _ _ _ _ _)=>none
  |some (.loop (.done (.pan _)) _ _ _ _ _ _)=>none
  |some (.loop (.done a) _ _ _ _ _ _)=>some (a,H.set id .dead)
  |_=>none
 |none=>none
def IK(T:Tab)(g:D)(a:Ac Nat)(assign body:Code)(sz:Nat)(kp:Ac Nat)(s:Ac D)(H:Ae):Af (Lv×Ae):=
 match g with
 | .clo (.func f) fs cs=>MQ (QC T f (fs++[.yld H.length]++cs) (H++[.loop .ready a assign body sz kp s])) H.length
 |_=>none
def Ep(P:Aj)(T:Tab)(kp:Ac Nat)(n:Nat):Code->Fr->Af (Lv×Fr)
 | .skip,fr| .label _,fr=>some (.normal,fr)
 | .region id ops a,fr=>nY kp id ops.toList (Y2 (PW P T ops.toList a fr) (HZ P T ops.toList a fr))
 | .seq x y,fr=>DS (Ep P T kp n x fr) (Ep P T kp n y)
 | .cond c x y,fr=>oF (DU fr.1 c) (Ep P T kp n x fr) (Ep P T kp n y fr)
 | .block id c,fr=>nU id (Ep P T kp n c fr)
 | .loop c,fr=>JiG kp (Yv (fun fr=>Ep P T kp n c (forget kp fr)) n fr)
 | .exit id,fr=>some (.exit id,fr)
 | .ret,fr=>some (.ret,fr)
 | .scope c,fr=>JdV (Ep P T kp n c fr)
 | .goto l,fr=>some (.goto l,fr)
 | .rangeFunc g b assign body,fr=>(IK T (DU fr.1 g) b.toList assign body fr.1.length kp (kp.map (fr.1.getD · .undef)) fr.2).map fun r=>(r.1,(fr.1,r.2))
 |_,_=>none
section
variable {P : Aj} {T : Tab} {kp : Ac Nat}
theorem Cl(kp:Ac Nat):∀(l:Ac D) (i:Nat),(P7 kp l i).length=l.length
 |[],i=>rfl
 |d::r,i=>by simp[P7,Cl kp r (i+1)]
theorem eT(kp:Ac Nat):∀(l:Ac D) (i t:Nat),(P7 kp l i).getD t .undef=if kp.contains (i+t)then l.getD t .undef else .undef
 |[],i,t=>by simp[P7]
 |d::r,i,0=>by simp[P7]
 |d::r,i,t+1=>by
  have:=eT kp r (i+1) t;simp only[P7,NJ]
  grind
theorem M7{S:Nat->Prop}{L:Ac (Nat×Nat)}{w:AA}:∀(l:Ac D) (xs:Ac Ap) (i:Nat),Au S L w xs l->Au S L w xs (P7 kp l i)
 |[],xs,i,h=>h
 |d::r,xs,i,h=>by
  simp only[Au]at h;obtain⟨x,a,rfl,c,b⟩:=h;refine Au.cons ?_ (M7 r a (i+1) b);split
  ·exact c
  ·simp only[Rep]
def EY.forget{B:Nat}{N:NB}{S:Nat->Prop}{L:Ac (Nat×Nat)}{w:AA}{a:Act}{s:Fr}(h:EY B N S L w a s):EY B N S L w a (forget kp s):=⟨h.defers,M7 _ _ 0 h.tmps,h.objs⟩
def V7{P:Aj}{b:Frame}{a:Act}{k:Ac Item}{cs:Ac Frame}{w:AA}{c:Code}:step P (lone (b.atR a (.code (.scope c)::k)) cs w)= .next (lone (b.atR a (.code c:: .inScope c::k)) cs w):=
 step_lone_go (by rfl)
def cC{P:Aj}{b:Frame}{a:Act}{k:Ac Item}{cs:Ac Frame}{w:AA}{c:Code}:step P (lone (b.atR a (.inScope c::k)) cs w)= .next (lone (b.atR a k) cs w):=
 step_lone_go (by rfl)
def Qdn{F:Fence}{n:Nat}{P:Aj}{a:Act}{w:AA}{Q:Exit->Act->AA->Prop}{c:Code}(h:c.wpIn F n P (Exit.noGoto Q) a w):(Code.scope c).wpIn F n P Q a w:=by
 intro b k cs o q p;have g:(lone (b.atR a (.code (.scope c)::k)) cs w).fenced P F:=fenced_calm q p rfl;obtain⟨e,i,r,f,d⟩:=h b (.inScope c::k) cs o q p;cases e with
 |normal=>exact⟨.normal,i,r,f,.head g V7 (StepsIn.trans d (.one (fenced_calm q p rfl) cC))⟩
 |exit id=>
  have s:exitTo id (.inScope c::k)=exitTo id k:=by simp[exitTo]
  exact⟨.exit id,i,r,f,fun t m=> .head g V7 (d.1 t (by rw[s];exact m)),
   fun j m=>let⟨u,v,x⟩:=d.2 j (by rw[s];exact m);⟨u,v,.head g V7 x⟩⟩
 |goto l=>exact f.elim
 |_=>exact⟨_,i,r,f,.of_steps (.one g V7) d⟩
def Jxj(kp:Ac Nat)(g:Nat->D)(t:Nat):Ru kp (kp.map g) t=if kp.contains t then g t else .undef:=by
 induction kp with
 |nil=>rfl
 |cons k r a=>
  simp only[EP,Ru]
  grind
def Jze{S:Nat->Prop}{L:Ac (Nat×Nat)}{w:AA}{xs:Ac Ap}{l:Ac D}(kp:Ac Nat)(h:Au S L w xs l):Au S L w xs (Uk l.length kp (kp.map (l.getD · .undef))):=by
 have:Uk l.length kp (kp.map (l.getD · .undef))=P7 kp l 0:=by
  apply PU;intro i;by_cases b:i<l.length
  ·have c:=eT kp l 0 i;have a:i<(P7 kp l 0).length:=by rw[Cl];exact b
   rw[FQ a];rw[Ed,FQ a,zS,EE]at c;rw[c,Uk,Xy,pI b,Dt,Jxj]
  ·rw[UC (by simp[Uk];omega),UC (by rw[Cl];omega)]
 rw[this];exact M7 l xs 0 h
def BD.junk{B:Nat}{S:Nat->Prop}{L:Ac (Nat×Nat)}{w:AA}{H:Ae}(h:BD B S L w H)(o:Obj):BD B S L (w.alloc o) H/\Later B S S L L w (w.alloc o):=by
 have a:∀k,k<w.heap.size->(w.alloc o).heap[k]? =w.heap[k]? :=fun k d=>Gr w o d;have f:Later B S S L L w (w.alloc o):=⟨(Below.refl _ _).alloc h.base _,⟨by simp,fun k d=>a k (h.small k d)⟩,fun _ d=>d,eF _,fun _ h=> .inl h,fun k d=>(a k (IY.1 d).1).trans d⟩;refine⟨⟨h.len,fun k d=>by have:=h.small k d;simp;omega,by have:=h.base;simp;omega,?_,h.inj⟩,f⟩;intro id m hid e;obtain⟨b,c,l,j,i,g⟩:=h.obj id m hid e;exact⟨b,c,l,j,i,g.kept (a b (g.lt e)) (fun _ _=>f.rep) (fun _ _=>f.repA)⟩
def BD.free{B:Nat}{S:Nat->Prop}{L:Ac (Nat×Nat)}{w:AA}{H:Ae}(h:BD B S L w H){k:Nat}(x:B<=k)(q:¬S k)(s:∀(id:Nat) (o:HO) (c:Nat),H[id]? =some o->o≠HO.dead->L[id]? ≠some (k,c))(o:Obj):
  BD B S L (w.putObj k o) H/\Below B w (w.putObj k o)/\Kept S w (w.putObj k o):=by
 have a:∀i,i≠k->(w.putObj k o).heap[i]? =w.heap[i]? :=fun i g=>World.putObj_heap_other (fun e=>g e);have g:Kept S w (w.putObj k o):=⟨by simp,fun i j=>a i (fun e=>q (e▸j))⟩;have v:Below B w (w.putObj k o):=⟨rfl,rfl,rfl,by simp,fun i j=>a i (by omega)⟩;refine⟨⟨h.len,fun i j=>by have:=h.small i j;simpa using this,by have:=h.base;simpa using this,?_,h.inj⟩,v,g⟩;intro id n hid f;obtain⟨b,c,m,u,r,p⟩:=h.obj id n hid f;exact⟨b,c,m,u,r,p.kept (a b (fun e=>s id n c hid f (e▸m))) (fun y d l=>Rep.kept g (fun _ h=>h) (fun _ _ h=>h) d y l) (fun t ds l=>Au.kept g (fun _ h=>h) (fun _ _ h=>h) ds t l)⟩
def BD.shut{B:Nat}{S:Nat->Prop}{L:Ac (Nat×Nat)}{w:AA}{H:Ae}(h:BD B S L w H){D:Nat}{x:Af (Ac Deferred)}(f:w.heap[D]? =some (.deferred x))(i:¬S D)(e:B<=D)(o:Obj):
  BD B S L (w.putObj D o) H/\Below B w (w.putObj D o)/\Kept S w (w.putObj D o):=by
 refine h.free e i (fun id k c hid a j=> ?_) o;obtain⟨b,l,d,n,m,g⟩:=h.obj id k hid a;rw[j]at d;cases d;exact g.mark a x f
def BD.over{P:Aj}{B:Nat}{S:Nat->Prop}{L:Ac (Nat×Nat)}{w:AA}{H:Ae}(h:BD B S L w H){id:Nat}{st:LS}{z:Ac Nat}{as' A:Code}{sz:Nat}{kp:Ac Nat}{s:Ac D}(hid:H[id]? =some (.loop st z as' A sz kp s))(g:st.state≠ .busy){lp c:Nat}(m:L[id]? =some (lp,c)):
  ∃f,(Instr.endLoop lp).run P w= .ok st.pend f/\BD B S L f (H.set id .dead)/\Later B S S L L w f:=by
 obtain⟨b,G,j,E,x,r,t,F,q,I⟩:=h.obj id _ hid (by intro e;cases e);rw[m]at j;cases j;have y:=run_endLoop (P:=P) t (by rw[F];exact g);obtain⟨C,n,u⟩:=(h.kill id).free E x (fun i o J v l d=>by
  rcases Zx H id i _ o v with⟨_,e,_⟩|⟨p,e⟩
  ·exact l e.symm
  ·exact p (h.inj i id _ _ _ _ e l hid (by intro e;cases e) d m rfl)) (.loop {r with state:= .exhausted})
 refine⟨w.putObj lp (.loop {r with state:= .exhausted}),by rw[<-q];exact y,C,n,u,fun _ a=>a,eF _,fun _ a=> .inl a,fun k a=>(World.putObj_heap_other (by grind)).trans a⟩
def SN(hT:Bg P T)(hm:P.follows .mixedOrders=true){F:Fence}(hF:Wd F){n m B:Nat}{N:NB}(hN:B<=N.n)(c:Code):∀{fr s:Fr} {x:Lv} {a:Act} {w:AA} {S:Nat->Prop} {L:Ac (Nat×Nat)} {Q:Exit->Act->AA->Prop},Ep P T kp n c fr=some (x,s)->((F.round=none/\N.no=false)\/LK c=true)->N.n<=w.heap.size->EY B N S L w a fr->
  (∀C z H A,EY B N H A z C s->Later B S H L A w z->Q x.toExit C z)->c.wpIn F m P Q a w:=by
 induction c with
 |skip=>
  intro fr s x a w S L Q h I b q t;simp only[Ep,CE,Hu]at h;obtain⟨rfl,rfl⟩:=h;exact wpIn_skip (t a w S L q Later.refl)
 |label l=>
  intro fr s x a w S L Q h I b q t;simp only[Ep,CE,Hu]at h;obtain⟨rfl,rfl⟩:=h;exact wpIn_label (t a w S L q Later.refl)
 |region id ops W=>
  intro fr be x a w S L Q h I b q ao;simp only[Ep]at h;obtain⟨s,h,hj⟩:=JgS h;have t:∀C z H A,EY B N H A z C s->Later B S H L A w z->Q x.toExit C z:=fun C z H A q1 q2=>by
   refine ao C z H A ?_ q2;rcases hj with rfl|rfl
   ·exact q1
   ·exact⟨q1.defers,q1.tmps.scrub _,q1.objs⟩
  clear hj ao;cases Y:PW P T ops.toList W fr with
  |none=>
   rw[Y]at h;simp only[Y2,HZ]at h;obtain⟨⟨i,y,f⟩,hp,h⟩:=Bi.1 h;obtain⟨j,o,f1,M,J,h3,h4,h5⟩:=nQ _ _ _ _ _ _ hp;rw[EE]at M;subst M;cases W with
   |true=>
    simp only[Bv]at h;split at h
    ·rename_i U;cases h;simp only[DJ]at U;exact JrZ hT hm hF i U.1.1 U.1.2 (by simpa using U.2) J h3 h4 h5 q t
    ·cases h
   |false=>
    cases h
    exact wpIn_region (JuR hT hF ops i J h3 h4 h5 q t)
  |some r=>
  rw[Y]at h;simp only[Y2]at h;rw[h]at Y;clear h;have h:=Y;clear Y;simp only[PW]at h;split at h
  ·rename_i Y;cases ho:GG P T ops.toList ops.toList fr with
   |none=>rw[ho]at h;cases h
   |some f2=>
    rw[ho]at h;simp only[BR]at h;split at h
    case isFalse=>cases h
    rename_i ax;simp only[CE,Hu]at h;obtain⟨rfl,rfl⟩:=h;cases W with
    |true=>exact Jym hT hm hF (by simpa using Y) (by simpa using ax) ho q t
    |false=>exact wpIn_region (QaY hT hF ops _ _ a w S L fr _ (Jx8 ops) ho q t)
  ·cases h
 |seq x y aj aa=>
  intro fr s e a w S L Q h I b q t;simp only[Ep]at h;refine wpIn_seq ?_;cases R:Ep P T kp n x fr with
  |none=>rw[R]at h;cases h
  |some p=>
   obtain⟨e1,f1⟩:=p;refine aj R (I.imp (fun h=>h) fun h=>by simp only[LK,DJ]at h;exact h.1) b q fun C z H A M J=> ?_;rw[R]at h;cases e1 with
   |normal=>exact aa h (I.imp (fun h=>h) fun h=>by simp only[LK,DJ]at h;exact h.2) (Ig b J.kept.size) M fun ak ah ag ai h3 h4=>t ak ah ag ai h3 (J.trans h4)
   |_=>
    simp only[DS,CE,Hu]at h;obtain⟨rfl,rfl⟩:=h;exact t C z H A M J
 |cond c x y aj aa=>
  intro fr s e a w S L Q h I b q t;simp only[Ep]at h;have U:=XO q.tmps c;unfold oF at h;split at h
  ·rename_i hb;rw[hb]at U;simp only[Rep]at U;exact wpIn_cond_true U (aj h (I.imp (fun h=>h) fun h=>by simp only[LK,DJ]at h;exact h.1) b q t)
  ·rename_i hb;rw[hb]at U;simp only[Rep]at U;exact wpIn_cond_false U (aa h (I.imp (fun h=>h) fun h=>by simp only[LK,DJ]at h;exact h.2) b q t)
  ·cases h
 |block id c ih=>
  intro fr s e a w S L Q h I b q t;simp only[Ep]at h;refine wpIn_block ?_;cases R:Ep P T kp n c fr with
  |none=>rw[R]at h;cases h
  |some p=>
   obtain⟨e1,f1⟩:=p;refine ih R (I.imp (fun h=>h) fun h=>by simpa only[LK]using h) b q fun C z H A M J=> ?_;rw[R]at h;cases e1 with
   |normal=>
    simp only[nU,CE,Hu]at h;obtain⟨rfl,rfl⟩:=h;exact t C z H A M J
   |exit j=>
    simp only[nU,CE,Hu]at h;obtain⟨rfl,rfl⟩:=h;simp only[Lv.toExit,Exit.inBlock];by_cases hj:j=id
    ·rw[Aw hj]at t⊢;exact t C z H A M J
    ·rw[Am hj]at t⊢;exact t C z H A M J
   |_=>
    simp only[nU,CE,Hu]at h;obtain⟨rfl,rfl⟩:=h;exact t C z H A M J
 |loop c ih=>
  intro fr s e a w S L Q h I b q t;simp only[Ep]at h;unfold JiG at h;obtain⟨X,bl,aq⟩:∃X,Yv (fun fr=>Ep P T kp n c (forget kp fr)) n fr=some (e,X)/\s=forget kp X:=by
   cases R:Yv (fun fr=>Ep P T kp n c (forget kp fr)) n fr with
   |none=>rw[R]at h;cases h
   |some p=>
    grind
  subst aq;clear h;refine wpIn_loop_rounds n ?_;have key:∀(k:Nat) (fr:Fr) (a:Act) (w:AA) (S:Nat->Prop) (L:Ac (Nat×Nat)),Yv (fun fr=>Ep P T kp n c (forget kp fr)) k fr=some (e,X)->N.n<=w.heap.size->EY B N S L w a fr->(∀C z H A,EY B N H A z C (forget kp X)->Later B S H L A w z->Q e.toExit C z)->Code.roundsIn F m P c Q k a w:=by
   intro k
   induction k with
   |zero=>intro fr a w S L h;cases h
   |succ k az=>
    intro fr a w S L h b q t;rw[roundsIn_succ];simp only[Yv]at h;cases R:Ep P T kp n c (forget kp fr)with
    |none=>rw[R]at h;cases h
    |some p=>
     obtain⟨e1,f1⟩:=p;refine ih R (I.imp (fun h=>h) fun h=>by simpa only[LK]using h) b q.forget fun C z H A M J=> ?_;rw[R]at h;cases e1 with
     |normal=>exact az f1 C z H A h (Ig b J.kept.size) M fun ak ah ag ai h3 h4=>t ak ah ag ai h3 (J.trans h4)
     |_=>
      simp only[CE,Hu]at h;obtain⟨rfl,rfl⟩:=h;exact t C z H A M.forget J
  grind
 |exit id=>
  intro fr s x a w S L Q h I b q t;simp only[Ep,CE,Hu]at h;obtain⟨rfl,rfl⟩:=h;exact wpIn_exit (t a w S L q Later.refl)
 |ret=>
  intro fr s x a w S L Q h I b q t;simp only[Ep,CE,Hu]at h;obtain⟨rfl,rfl⟩:=h;exact wpIn_ret (t a w S L q Later.refl)
 |scope c ih=>
  intro fr s x a w S L Q h I b q t;simp only[Ep]at h;have a2:Ep P T kp n c fr=some (x,s)/\∀l,x≠ .goto l:=by
   unfold JdV at h;split at h
   ·cases h
   ·simp_all
  replace h:=a2.1
  refine Qdn (ih h (I.imp (fun h=>h) fun h=>by simpa only[LK]using h) b q fun C z H A M J=> ?_);have:=t C z H A M J;cases x with
  |goto l=>grind
  |_=>exact this
 |goto l=>
  intro fr s x a w S L Q h I b q t;simp only[Ep,CE,Hu]at h;obtain⟨rfl,rfl⟩:=h;exact wpIn_goto (t a w S L q Later.refl)
 |rangeFunc g ps O bd bj bh=>
  intro fr s x a w S L Q h I b q t;have Z:F.round=none/\N.no=false:=I.elim (fun h=>h) fun h=>by simp[LK]at h
  have ay:F=Fence.wide:=by
   cases hF with
   |wide=>rfl
   |round l=>cases Z.1
  subst ay;simp only[Ep]at h;obtain⟨⟨lv,H2⟩,u,h⟩:=DV.1 h;cases h;unfold IK at u;have hid:fr.2.length=L.length:=q.objs.len.symm;let D:=w.heap.size;let lp:=w.heap.size+1;refine wpIn_rangeFunc fun fn _=> ?_;let rc:Loop:={state:= .ready,pending:=none,fn:=fn,tmps:=a.tmps,params:=ps,assign:=O,body:=bd,defers:=D};let w0:=w.alloc (.deferred (some []));let w1:=w0.alloc (.loop rc);have bf:w0.heap.size=w.heap.size+1:=by simp[w0]
  obtain⟨j1,j2⟩:=q.objs.junk (.deferred (some []));have ar:=j1.newO w0 rfl (Below.refl _ _) (.loop rc) 0 (.loop .ready ps.toList O bd fr.1.length kp (kp.map (fr.1.getD · .undef))) fun z A bk am hh=>
   ⟨rc,hh,rfl,rfl,rfl,rfl,rfl,Jze kp (am _ _ (j2.repA q.tmps))⟩
  obtain⟨n1,n2⟩:=ar;have af:=j2.trans n2;have a4:w1.heap[D]? =some (.deferred (some [])):=n2.marks D (heap_alloc_new w _);have a8:∀S1 L1 w2,Later B S S1 (L++[(w0.heap.size,0)]) L1 w1 w2->¬S1 D/\w2.heap[D]? =some (.deferred (some [])):=by
   intro S1 L1 w2 hl;refine⟨fun hS=> ?_,hl.marks D a4⟩;rcases hl.only D hS with h|h
   ·have:=q.objs.small D h;omega
   ·grind
  have a9:(L++[(w0.heap.size,0)])[fr.2.length]? =some (lp,0):=by grind
  have bi:=j2.repA q.tmps;cases hg:DU fr.1 g with
  |clo fk fs cs=>
   cases fk with
   |func f=>
    rw[hg]at u;simp only at u;have ae:=XO q.tmps g;rw[hg]at ae;simp only[Rep]at ae;obtain⟨ys,zs,a7,a5,a0⟩:=ae;cases al:QC T f (fs++[.yld fr.2.length]++cs) (fr.2++[.loop .ready ps.toList O bd fr.1.length kp (kp.map (fr.1.getD · .undef))])with
    |none=>rw[al]at u;cases u
    |some r=>
     rw[al]at u;obtain⟨d,H3⟩:=r;obtain⟨G,hG,Y,_⟩:=vO hT al;obtain⟨a6,b1,b2,b3⟩:=hG.body;have ad:Au S (L++[(w0.heap.size,0)]) w1 (ys++[Value.func (.yield lp) #[] #[]]++zs) (fs++[.yld fr.2.length]++cs):=
      ((af.repA a5).append (Au.cons (x:=Value.func (.yield lp) #[] #[]) (by simp only[Rep];grind) Au.nil)).append (af.repA a0)
     refine⟨lp,[{target:= .collected D,args:= #[]}],w1,{target:= .fn (.func f) zs.toArray,args:=ys.toArray++ #[Value.func (.yield lp) #[] #[]]},w1,f,(ys++[Value.func (.yield lp) #[] #[]]++zs).toArray,w1,?_,?_,fun _ _=>trivial,?_,(fun h=>by cases h),?_⟩
     ·exact run_enterLoop_outer _ _ _ _ _
     ·simp only[resolve,a7];simp[Deferred.ofValue,Act.eval]
     ·have hb:a6.body≠none:=by grind
      simp[invoke,callFunc,run_program,b1,b2,hb]
     ·refine(callsIn_wide.2 (hG.calls _ _ d H3 Y B S _ _ w1 n1 ad)).mono ?_;rintro e w3 ⟨v,S3,L3,rfl,q1,q2,q3⟩;have aw:=TM q3.pre _ _ a9;obtain⟨ba,a3⟩:=a8 S3 L3 w3 q3;have DK:∀(st:LS) ap O an au kp' s',H3[fr.2.length]? =some (.loop st ap O an au kp' s')->st.state≠ .busy->
        ∃w4,(Instr.endLoop lp).run P w3= .ok st.pend w4/\EY B N S3 L3 w4 {a with defers:={target:= .collected D,args:= #[]}::a.defers} (fr.1,H3.set fr.2.length .dead)/\Later B S S3 L L3 w w4:=by
       intro st ap O an au kp' s' K ac;obtain⟨w4,p1,p2,p3⟩:=q2.over (P:=P) K ac aw;have V:=(af.trans q3).trans p3;refine⟨w4,p1,⟨?_,V.repA q.tmps,p2⟩,V⟩;obtain⟨Ds,m1,m2,m3,_⟩:=q.defers.later V;obtain⟨ab,av,_,bg,_⟩:=q.defers;have a1:ab=Ds:=by
        have:vZ ab=vZ Ds:=List.append_cancel_right (av.symm.trans m1);simp only[vZ]at this;exact List.map_inj_right (fun x y e=>by simpa using e)|>.1 this
       subst a1;refine⟨D::ab,by rw[av];rfl,Ma.2 ⟨fun hm=> ?_,m2⟩,fun E hE=> ?_,fun e=>by grind⟩
       ·grind
       ·rcases FY.1 hE with rfl|hE
        ·exact⟨b,ba,p3.marks _ a3⟩
        ·exact m3 E hE
      unfold MQ at u;simp only at u;split at u
      ·rename_i K;cases u;obtain⟨w4,p1,p2,p3⟩:=DK .ready _ _ _ _ _ _ K (by intro e;cases e);exact⟨none,w4,p1,t _ w4 S3 L3 p2 p3⟩
      ·cases u
      ·cases u
      ·cases u
      ·rename_i bc bb bm K;cases u;obtain⟨w4,p1,p2,p3⟩:=DK (.done _) _ _ _ _ _ _ K (by intro e;cases e);have hq:=t _ w4 S3 L3 p2 p3;refine⟨some _,w4,p1,?_⟩;cases lv with
       |normal=>grind
       |exit j=>exact wpIn_exit hq
       |ret=>exact wpIn_ret hq
       |goto l=>grind
       |pan y=>grind
      ·cases u
   |_=>grind
  |_=>rw[hg]at u;cases u
 |_=>
  intro fr s x a w S L Q h I b q t;simp only[Ep]at h;cases h
end
def MJ(P:Aj)(fr:Fr):ResultVar->Af D
 | .tmp t=>some (fr.1.getD t .undef)
 | .cell a t=>(L9 P t).bind fun s=>Ai s fr.2 (fr.1.getD a .undef)
def UI(P:Aj)(rs:Ac ResultVar)(fr:Fr):Af D:=
 match rs.mapM (MJ P fr)with
 |some [d]=>some d
 |some ds=>some (.tup ds)
 |none=>none
def dJ(P:Aj)(T:Tab)(kp:Ac Nat)(n:Nat)(c:Code)(ntmps:Nat)(rs:Ac ResultVar)(ds:Ac D)(H:Ae):Af (D×Ae):=
 match Ep P T kp n c (ds++List.replicate (ntmps-ds.length) .undef,H)with
 |some (.exit _,_)|some (.goto _,_)|some (.pan _,_)=>none
 |some (_,fr)=>(UI P rs fr).map fun d=>(d,fr.2)
 |none=>none
def Cd(a:Act):ResultVar->Sem Ap
 | .tmp t=>pure (a.tmps.getD t undef)
 | .cell b t=>do loadVar t (<-asAddr (a.tmps.getD b undef))
def JwN(fn:Func)(a:Act):results fn a.tmps=(do let vs<-fn.results.mapM (Cd a);pure (if h:vs.size=1 then vs[0]else .tuple vs)):=by rfl
def JoC{P:Aj}{t:AQ}{v x:Ap}{w:AA}(h:(Instr.loadAt t v).run P w= .ok x w):∃a,v= .pointer (some a)/\(loadVar t a).run P w= .ok x w:=by
 cases v with
 |pointer p=>
  cases p with
  |some a=>exact⟨a,rfl,by simpa[Instr.loadAt,Instr.sureAddr]using h⟩
  |none=>simp[Instr.loadAt,Instr.sureAddr,stuck]at h
 |_=>simp[Instr.loadAt,Instr.sureAddr,stuck]at h
def JkM{P:Aj}{w:AA}{a:Act}{fr:Fr}{B:Nat}{N:NB}{S:Nat->Prop}{L:Ac (Nat×Nat)}(c:EY B N S L w a fr)(r:ResultVar)(d:D)(h:MJ P fr r=some d):
  ∃v,(Cd a r).run P w= .ok v w/\Rep S L w v d:=by
 cases r with
 |tmp t=>
  simp only[MJ,CE]at h;subst h;have:=c.tmps.getD t undef;exact⟨_,rfl,by simpa using this⟩
 |cell t k=>
  simp only[MJ]at h;obtain⟨s,hs,h⟩:=Bi.1 h;have g:=c.tmps.getD t undef;obtain⟨x,i,f⟩:=Jgx (P:=P) hs h g c.objs;obtain⟨ad,j,e⟩:=JoC i;refine⟨x,?_,f⟩;have b:a.tmps.getD t undef= .pointer (some ad):=by simpa using j
  simp[Cd,b,asAddr,e]
def aD{P:Aj}{fn:Func}{w:AA}{a:Act}{fr:Fr}{d:D}{B:Nat}{N:NB}{S:Nat->Prop}{L:Ac (Nat×Nat)}(p:EY B N S L w a fr)(h:UI P fn.results.toList fr=some d):∃v,(results fn a.tmps).run P w= .ok v w/\Rep S L w v d:=by
 unfold UI at h;have key:∀(rs:Ac ResultVar) (ds:Ac D),rs.mapM (MJ P fr)=some ds->∃vs:Ac Ap,(rs.mapM (Cd a)).run P w= .ok vs w/\Au S L w vs ds:=by
  intro rs
  induction rs with
  |nil=>intro ds h;simp at h;subst h;exact⟨[],rfl,Au.nil⟩
  |cons r t m=>
   intro ds h;simp only[FZ,eQ,Zb]at h;cases f:MJ P fr r with
   |none=>rw[f]at h;cases h
   |some e=>
    rw[f,BR]at h;cases c:t.mapM (MJ P fr)with
    |none=>rw[c]at h;cases h
    |some q=>
     rw[c,BR]at h;cases h;obtain⟨v,j,i⟩:=JkM p r e f;obtain⟨vs,s,l⟩:=m q c;refine⟨v::vs,?_,Au.cons i l⟩;simp only[FZ,Sem.run_bind];rw[j];simp only[Result.andThen_ok];rw[s];rfl
 cases k:fn.results.toList.mapM (MJ P fr)with
 |none=>rw[k]at h;cases h
 |some ds=>
  rw[k]at h;obtain⟨vs,f,c⟩:=key _ _ k;have n:=c.length;rw[JwN,Array.mapM_eq_mapM_toList];simp only[Sem.run_bind,Sem.run_map];rw[f];simp only[Result.andThen_ok,Sem.run_pure];split at h
  ·rename_i u b;cases b;cases h;obtain⟨v,y,rfl,j,i⟩:=by simpa only[Au]using c
   subst i;exact⟨v,by simp,j⟩
  ·rename_i o g b;cases b;cases h;refine⟨.tuple vs.toArray,?_,by simp only[Rep];exact⟨vs,rfl,c⟩⟩;have:vs.length≠1:=by
    intro e;rw[n]at e;obtain⟨x,rfl⟩:=List.length_eq_one_iff.1 e;exact g x rfl
   simp[this]
  ·rename_i b;cases b
theorem Jbd{P:Aj}{F:Fence}{n:Nat}{fn:Func}{tmps:CX Ap}{R:Ending->AA->Prop}(a:AA->Prop){u:FrameMode}(i:u≠ .run){bs:Ac Deferred}:∀(b:Ac Nat) (W:AA),b.Nodup->(∀D,D∈b->W.heap[D]? =some (.deferred (some [])))->
  (∀A D,D∈b->A.heap[D]? =some (.deferred (some []))->a A->a (A.putObj D (.deferred none)))->a W->
  (∀j,a j->LeavesInM F n P fn tmps R bs u j)->
  LeavesInM F n P fn tmps R (vZ b++bs) u W
 |[],W,_,_,_,d,h=>h W d
 |D::b,W,f,e,hs,d,h=>by
  have c:=Ma.1 f;refine⟨i,.inl ⟨D,_,rfl,run_takeDeferred (e D (by simp)),?_⟩⟩;exact Jbd a i b _ c.2 (fun E g=>(World.putObj_heap_other (by grind)).trans (e E (by simp[g])))
   (fun A E g=>hs A E (by simp[g])) (hs W D (by simp) (e D (by simp)) d) h
def EY.shut{P:Aj}{F:Fence}{n B:Nat}{N:NB}{S f:Nat->Prop}{L g:Ac (Nat×Nat)}{w c:AA}{a:Act}{s:Fr}{fn:Func}{R:Ending->AA->Prop}{u:FrameMode}(z:u≠ .run)(h:EY B N S L w a s)(r:Later B f S g L c w)(J:c.heap.size<=N.n)(o:B<=N.n)
  (G:∀W,Au S L W a.tmps.toList s.1->BD B S L W s.2->Later B f S g L c W->LeavesInM F n P fn a.tmps R N.bs u W):LeavesInM F n P fn a.tmps R a.defers u w:=by
 obtain⟨y,C,q,i,_⟩:=h.defers;rw[C];refine Jbd (fun W=>Au S L W a.tmps.toList s.1/\BD B S L W s.2/\Later B f S g L c W) z y w q (fun D e=>(i D e).2.2) ?_ ⟨h.tmps,h.objs,r⟩ fun W d=>G W d.1 d.2.1 d.2.2;rintro A D e v ⟨p,t,b⟩;obtain⟨E,m,I⟩:=i D e;obtain⟨x,H,l⟩:=t.shut v m (Ig o E) (.deferred none);refine⟨Au.kept l (fun _ h=>h) (fun _ _ h=>h) _ _ p,x,b.below.trans H,b.kept.trans (l.mono b.more),b.more,b.pre,b.only,fun k j=> ?_⟩;have:=(IY.1 j).1;exact(World.putObj_heap_other (by rintro rfl;omega)).trans (b.marks k j)
def JgN{P:Aj}{T:Tab}{kp:Ac Nat}(M:Bg P T)(E:P.follows .mixedOrders=true){f:CG}{fn:Func}{c:Code}(O:P.funcs[f]? =some fn)(C:fn.body=some c){n:Nat}{ds:Ac D}{H H':Ae}{d:D}
  (j:dJ P T kp n c fn.ntmps fn.results.toList ds H=some (d,H')) {B:Nat} {S:Nat->Prop} {L:Ac (Nat×Nat)} {vs:Ac Ap} {w:AA} (u:BD B S L w H) (z:Au S L w vs ds):
  Calls P f vs.toArray w fun e g=>∃v b h,e= .returned v/\Rep b h g v d/\BD B b h g H'/\Later B S b L h w g:=by
 unfold dJ at j;have K:=z.length;have q:EY B ⟨w.heap.size,[],false⟩ S L w {tmps:=vs.toArray++Array.replicate (fn.ntmps-vs.toArray.size) undef,defers:=[]} (ds++List.replicate (fn.ntmps-ds.length) .undef,H):=by
  refine⟨Pq.nil,?_,u⟩;have o:∀k,Au S L w (List.replicate k undef) (List.replicate k .undef):=by
   intro k
   induction k with
   |zero=>exact Au.nil
   |succ k I=>exact Au.cons (by simp only[Rep]) I
  have t:=z.append (o (fn.ntmps-ds.length));rw[<-K]at t⊢;simpa using t
 cases x:Ep P T kp n c (ds++List.replicate (fn.ntmps-ds.length) .undef,H)with
 |none=>rw[x]at j;cases j
 |some p=>
  obtain⟨e,fr⟩:=p;rw[x]at j;have DK:∀Q:Lv,(UI P fn.results.toList fr).map (fun d=>(d,fr.2))=some (d,H')->∀m g b h,EY B ⟨w.heap.size,[],false⟩ b h g m fr->Later B S b L h w g->
    LeavesInM Fence.wide 1 P fn m.tmps (fun e g=>∃v b h,e= .returned v/\Rep b h g v d/\BD B b h g H'/\Later B S b L h w g) m.defers .returning g:=by
   intro Q i m g b h s o;cases r:UI P fn.results.toList fr with
   |none=>grind
   |some R=>
    rw[r]at i;simp only[Dt,CE,Hu]at i;obtain⟨rfl,rfl⟩:=i;refine s.shut (by simp) o (BQ _) u.base fun W J A F=> ?_;obtain⟨v,t,G⟩:=aD (fn:=fn) (a:=⟨m.tmps,[]⟩) (N:=⟨0,[],false⟩) ⟨Pq.nil,J,A⟩ r;exact⟨v,t,v,b,h,rfl,G,A,F⟩
  refine callsIn_wide.1 (callsIn_of_wp_marks (n:=1) O C trivial (SN M E .wide u.base c x (.inl ⟨rfl,rfl⟩) (BQ _) q fun m g b h s o=> ?_));cases e with
  |exit id=>cases j
  |goto l=>cases j
  |pan y=>cases j
  |normal=>exact DK .normal j m g b h s o
  |ret=>exact DK .ret j m g b h s o
def JiJ{P:Aj}{T:Tab}{kp:Ac Nat}(l:Bg P T)(m:P.follows .mixedOrders=true){f:CG}{fn:Func}{c:Code}(b:P.funcs[f]? =some fn)(e:fn.body=some c)(a:fn.name≠ "runtime.NumGoroutine"){G:GT}
  (h:∀ds H d H',G ds H=some (d,H')->∃n,dJ P T kp n c fn.ntmps fn.results.toList ds H=some (d,H')):BN P f G:=by
 refine⟨⟨fn,b,a,by rw[e];rfl⟩,fun ds H d H' g B S L vs w k j=> ?_⟩;obtain⟨n,i⟩:=h ds H d H' g;exact JgN l m b e i k j
def bM(S:Nat->Prop)(w:AA)(b:∀k,S k->k<w.heap.size):BD w.heap.size S [] w []:=
 ⟨rfl,b,BQ _,fun id o h=>by simp at h,fun id a o c p d h=>by simp at h⟩
def BB(r:Af (D×Ae)):Af D:=r.bind fun x=>Dh x.2 9 x.1
def Jy4{P:Aj}{T:Tab}{kp:Ac Nat}(z:Bg P T)(C:P.follows .mixedOrders=true){f:CG}{fn:Func}{c:Code}(m:P.funcs[f]? =some fn)(q:fn.body=some c)(a:fn.name≠ "runtime.NumGoroutine"){F:Ac D→Af D}
  (h:∀ds d,F ds=some d->∃n,BB (dJ P T kp n c fn.ntmps fn.results.toList ds [])=some d):Bz P f F:=by
 refine⟨⟨fn,m,a,by rw[q];rfl⟩,fun ds d x S vs w y r=> ?_⟩;obtain⟨n,g⟩:=h ds d x;unfold BB at g;obtain⟨⟨A,H'⟩,g,B⟩:=Bi.1 g;refine(JgN z C m q g (bM S w y) r).mono ?_;rintro e E ⟨v,G,H,rfl,u,o,l⟩;refine⟨v,rfl,?_,l.below⟩;have s:=Tk o 9 A d v B u;refine Rep.kept (Kept.refl _ _) (fun k b=> ?_) (fun i p t=>t) d v s;rcases b with b|b
 ·rcases l.only k b with j|j
  ·exact .inl j
  ·exact .inr ⟨j,o.small k b⟩
 ·exact .inr b
end Go.Proofs.YtapdelkomkpgmaaGreatDoor
