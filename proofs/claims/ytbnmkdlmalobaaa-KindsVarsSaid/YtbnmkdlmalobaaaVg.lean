/-
  Parts joined into one text: HDenCode. No condition.
-/
import Derived.Test.YtbnmkdlmalobaaaVf

section
namespace Go.Proofs.Ytbnmkdlmalobaaa
open Go.RowKit
set_option linter.unusedVariables false
set_option linter.unusedSimpArgs false

def iterD (body : Fr → Option (Lv × Fr)) : Nat → Fr → Option (Lv × Fr)
  | 0, _ => none
  | n + 1, fr =>
    match body fr with
    | some (.normal, fr') => iterD body n fr'
    | r => r
def thenD (r : Option (Lv × Fr)) (k : Fr → Option (Lv × Fr)) : Option (Lv × Fr) :=
  match r with
  | some (.normal, fr) => k fr
  | r => r
def condD (c : D) (x y : Option (Lv × Fr)) : Option (Lv × Fr) :=
  match c with
  | .v (.bool true) => x
  | .v (.bool false) => y
  | _ => none
def blockD (id : Nat) (r : Option (Lv × Fr)) : Option (Lv × Fr) :=
  match r with
  | some (.exit j, fr) => some (if j = id then .normal else .exit j, fr)
  | r => r
def regD (P : Program) (T : Tab) (ops : List Oper) (draw : Bool) (fr : Fr) : Option (Lv × Fr) :=
  if !draw || drawOk T ops then (runOps P T ops ops fr).bind fun fr' => if !draw || (guardsOf T ops).all (Gd.holds (evalD fr'.1) (heapsOf P T ops ops fr)) then some (.normal, fr') else none else none

/-- What is not kept is forgotten. -/
def forgetL (kp : List Nat) : List D → Nat → List D
  | [], _ => []
  | d :: r, i => (if kp.contains i then d else .undef) :: forgetL kp r (i + 1)
def forget (kp : List Nat) (fr : Fr) : Fr := (forgetL kp fr.1 0, fr.2)
def leaveD (kp : List Nat) (r : Option (Lv × Fr)) : Option (Lv × Fr) := r.map fun p => (p.1, forget kp p.2)
/-- No loop in it goes over a function. -/
def noRange : Code → Bool
  | .seq x y | .cond _ x y => noRange x && noRange y
  | .block _ c | .loop c | .scope c => noRange c
  | .rangeFunc _ _ _ _ => false
  | _ => true
/-- What has come of a loop over a function, when the function has returned. -/
def leftR (r : Option (D × Heap)) (id : Nat) : Option (Lv × Heap) :=
  match r with
  | some (_, H) =>
    match H[id]? with
    | some (.loop .ready _ _ _ _ _ _) => some (.normal, H.set id .dead)
    | some (.loop (.done .normal) _ _ _ _ _ _) => none
    | some (.loop (.done lv) _ _ _ _ _ _) => some (lv, H.set id .dead)
    | _ => none
  | none => none
/-- A loop over a function g: of the slots, kp alone are known in a round: they hold s. -/
def rangeS (T : Tab) (g : D) (ps : List Nat) (assign body : Code) (sz : Nat) (kp : List Nat) (s : List D) (H : Heap) : Option (Lv × Heap) :=
  match g with
  | .clo (.func f) fs cs => leftR (look T f (fs ++ [.yld H.length] ++ cs) (H ++ [.loop .ready ps assign body sz kp s])) H.length
  | _ => none
/-- Code, run; each loop no more than n rounds; at a loop's head, and behind it, the slots kp alone are kept. -/
def runC (P : Program) (T : Tab) (kp : List Nat) (n : Nat) : Code → Fr → Option (Lv × Fr)
  | .skip, fr | .label _, fr => some (.normal, fr)
  | .region _ ops draw, fr => regD P T ops.toList draw fr
  | .seq x y, fr => thenD (runC P T kp n x fr) (runC P T kp n y)
  | .cond c x y, fr => condD (evalD fr.1 c) (runC P T kp n x fr) (runC P T kp n y fr)
  | .block id c, fr => blockD id (runC P T kp n c fr)
  | .loop c, fr => leaveD kp (iterD (fun fr => runC P T kp n c (forget kp fr)) n fr)
  | .exit id, fr => some (.exit id, fr)
  | .ret, fr => some (.ret, fr)
  | .scope c, fr => runC P T kp n c fr
  | .rangeFunc g ps assign body, fr => (rangeS T (evalD fr.1 g) ps.toList assign body fr.1.length kp (kp.map (fr.1.getD · .undef)) fr.2).map fun r => (r.1, (fr.1, r.2))
  | _, _ => none

section
variable {P : Program} {T : Tab} {kp : List Nat}
theorem forgetL_length (kp : List Nat) : ∀ (l : List D) (i : Nat), (forgetL kp l i).length = l.length
  | [], i => rfl
  | d :: r, i => by simp [forgetL, forgetL_length kp r (i + 1)]
theorem forgetL_get (kp : List Nat) : ∀ (l : List D) (i t : Nat), (forgetL kp l i).getD t .undef = if kp.contains (i + t) then l.getD t .undef else .undef
  | [], i, t => by simp [forgetL]
  | d :: r, i, 0 => by simp [forgetL]
  | d :: r, i, t + 1 => by
    have := forgetL_get kp r (i + 1) t
    simp only [forgetL, List.getD_cons_succ]
    rw [this, show i + 1 + t = i + (t + 1) from by omega]
theorem forget_rep {S : Nat → Prop} {L : List (Nat × Nat)} {w : World} : ∀ (l : List D) (xs : List Value) (i : Nat), RepA S L w xs l → RepA S L w xs (forgetL kp l i)
  | [], xs, i, h => h
  | d :: r, xs, i, h => by
    simp only [RepA] at h
    obtain ⟨x, ys, rfl, h1, h2⟩ := h
    refine RepA.cons ?_ (forget_rep r ys (i + 1) h2)
    split
    · exact h1
    · simp only [Rep]
theorem RepF.forget {B N : Nat} {S : Nat → Prop} {L : List (Nat × Nat)} {w : World} {a : Act} {s : Fr} (h : RepF B N S L w a s) : RepF B N S L w a (forget kp s) := ⟨h.defers, forget_rep _ _ 0 h.tmps, h.objs⟩
theorem runOps_length {all : List Oper} : ∀ (ops : List Oper) (fr fr' : Fr), runOps P T all ops fr = some fr' → fr'.1.length = fr.1.length
  | [], fr, fr', h => by simp only [runOps, Option.some.injEq] at h; rw [h]
  | o :: r, fr, fr', h => by
    simp only [runOps] at h
    cases h1 : oneD P T all o fr.1 fr.2 with
    | none => rw [h1] at h; cases h
    | some d =>
      rw [h1, Option.bind_some] at h
      rw [runOps_length r _ _ h]
      simp only
      rw [putD_length]
theorem iterD_length {body : Fr → Option (Lv × Fr)} (hb : ∀ fr lv fr', body fr = some (lv, fr') → fr'.1.length = fr.1.length) : ∀ (n : Nat) (fr : Fr) (lv : Lv) (fr' : Fr), iterD body n fr = some (lv, fr') → fr'.1.length = fr.1.length
  | 0, fr, lv, fr', h => by cases h
  | n + 1, fr, lv, fr', h => by
    simp only [iterD] at h
    cases hx : body fr with
    | none => rw [hx] at h; cases h
    | some p =>
      obtain ⟨l1, f1⟩ := p
      rw [hx] at h
      have h1 := hb _ _ _ hx
      cases l1 with
      | normal => rw [iterD_length hb n f1 lv fr' h, h1]
      | exit j => cases h; exact h1
      | ret => cases h; exact h1
theorem runC_length {n : Nat} (c : Code) : ∀ {fr fr' : Fr} {lv : Lv}, runC P T kp n c fr = some (lv, fr') → fr'.1.length = fr.1.length := by
  induction c with
  | skip => intro fr fr' lv h; cases h; rfl
  | label l => intro fr fr' lv h; cases h; rfl
  | exit id => intro fr fr' lv h; cases h; rfl
  | ret => intro fr fr' lv h; cases h; rfl
  | region id ops draw =>
    intro fr fr' lv h
    simp only [runC, regD] at h
    split at h
    · cases ho : runOps P T ops.toList ops.toList fr with
      | none => rw [ho] at h; cases h
      | some f2 =>
        rw [ho] at h
        simp only [Option.bind_some] at h
        split at h
        · simp only [Option.some.injEq, Prod.mk.injEq] at h
          obtain ⟨_, rfl⟩ := h
          exact runOps_length _ _ _ ho
        · cases h
    · cases h
  | seq x y ihx ihy =>
    intro fr fr' lv h
    simp only [runC] at h
    cases hx : runC P T kp n x fr with
    | none => rw [hx] at h; cases h
    | some p =>
      obtain ⟨e1, f1⟩ := p
      have h1 := ihx hx
      rw [hx] at h
      cases e1 with
      | normal => rw [ihy h, h1]
      | exit id => cases h; exact h1
      | ret => cases h; exact h1
  | cond c x y ihx ihy =>
    intro fr fr' lv h
    simp only [runC, condD] at h
    split at h
    · exact ihx h
    · exact ihy h
    · cases h
  | block id c ih =>
    intro fr fr' lv h
    simp only [runC] at h
    cases hx : runC P T kp n c fr with
    | none => rw [hx] at h; cases h
    | some p =>
      obtain ⟨e1, f1⟩ := p
      have h1 := ih hx
      rw [hx] at h
      cases e1 <;> (cases h; exact h1)
  | loop c ih =>
    intro fr fr' lv h
    simp only [runC, leaveD] at h
    cases hx : iterD (fun fr => runC P T kp n c (forget kp fr)) n fr with
    | none => rw [hx] at h; cases h
    | some p =>
      rw [hx] at h
      simp only [Option.map_some, Option.some.injEq, Prod.mk.injEq] at h
      obtain ⟨_, rfl⟩ := h
      have := iterD_length (fun fr lv fr' h => (ih h).trans (by simp [forget, forgetL_length])) n fr p.1 p.2 hx
      simp [forget, forgetL_length, this]
  | scope c ih => intro fr fr' lv h; exact ih (by simpa only [runC] using h)
  | rangeFunc g ps as' c iha ihc =>
    intro fr fr' lv h
    simp only [runC] at h
    obtain ⟨r, _, h⟩ := Option.map_eq_some_iff.1 h
    cases h
    rfl
  | _ => intro fr fr' lv h; cases h

theorem stepR_scope {P : Program} {b : Frame} {a : Act} {k : List Item} {cs : List Frame} {w : World} {c : Code} : step P (lone (b.atR a (.code (.scope c) :: k)) cs w) = .next (lone (b.atR a (.code c :: .inScope c :: k)) cs w) :=
  step_lone_go (by simp [stepG, stepG.exec, Frame.atR])
theorem stepR_inScope {P : Program} {b : Frame} {a : Act} {k : List Item} {cs : List Frame} {w : World} {c : Code} : step P (lone (b.atR a (.inScope c :: k)) cs w) = .next (lone (b.atR a k) cs w) :=
  step_lone_go (by simp [stepG, stepG.exec, Frame.atR])
theorem wpIn_scope_straight {F : Fence} {n : Nat} {P : Program} {a : Act} {w : World} {Q : Exit → Act → World → Prop} {c : Code} (h : c.wpIn F n P (Exit.noGoto Q) a w) : (Code.scope c).wpIn F n P Q a w := by
  intro b k cs hro hb hr
  have h0 : (lone (b.atR a (.code (.scope c) :: k)) cs w).fenced P F := fenced_calm hb hr rfl
  obtain ⟨e, a₁, w₁, hq, harr⟩ := h b (.inScope c :: k) cs hro hb hr
  cases e with
  | normal => exact ⟨.normal, a₁, w₁, hq, .head h0 stepR_scope (StepsIn.trans harr (.one (fenced_calm hb hr rfl) stepR_inScope))⟩
  | exit id =>
    have hx : exitTo id (.inScope c :: k) = exitTo id k := by simp [exitTo]
    exact ⟨.exit id, a₁, w₁, hq, fun k' hk => .head h0 stepR_scope (harr.1 k' (by rw [hx]; exact hk)),
      fun hr' hk => let ⟨k₁, h1, h2⟩ := harr.2 hr' (by rw [hx]; exact hk); ⟨k₁, h1, .head h0 stepR_scope h2⟩⟩
  | goto l => exact hq.elim
  | _ => exact ⟨_, a₁, w₁, hq, .of_steps (.one h0 stepR_scope) harr⟩
theorem getU_map (kp : List Nat) (g : Nat → D) (t : Nat) : getU kp (kp.map g) t = if kp.contains t then g t else .undef := by
  induction kp with
  | nil => rfl
  | cons k r ih =>
    simp only [List.map_cons, getU]
    by_cases h : k = t
    · subst h; simp
    · rw [if_neg h, ih]
      have : (k :: r).contains t = r.contains t := by
        simp only [List.contains_cons]
        have : (t == k) = false := by simp; exact fun e => h e.symm
        rw [this, Bool.false_or]
      rw [this]
theorem frU_rep {S : Nat → Prop} {L : List (Nat × Nat)} {w : World} {xs : List Value} {l : List D} (kp : List Nat) (h : RepA S L w xs l) : RepA S L w xs (frU l.length kp (kp.map (l.getD · .undef))) := by
  have : frU l.length kp (kp.map (l.getD · .undef)) = forgetL kp l 0 := by
    apply List.ext_getElem?
    intro i
    by_cases hi : i < l.length
    · have h1 := forgetL_get kp l 0 i
      have h2 : i < (forgetL kp l 0).length := by rw [forgetL_length]; exact hi
      rw [List.getElem?_eq_getElem h2]
      rw [List.getD_eq_getElem?_getD, List.getElem?_eq_getElem h2, Option.getD_some, Nat.zero_add] at h1
      rw [h1, frU, List.getElem?_map, List.getElem?_range hi, Option.map_some, getU_map]
    · rw [List.getElem?_eq_none (by simp [frU]; omega), List.getElem?_eq_none (by rw [forgetL_length]; omega)]
  rw [this]
  exact forget_rep l xs 0 h

/-- A new object that nobody speaks of. -/
theorem HRel.junk {B : Nat} {S : Nat → Prop} {L : List (Nat × Nat)} {w : World} {H : Heap} (h : HRel B S L w H) (o : Obj) : HRel B S L (w.alloc o) H ∧ Later B S S L L w (w.alloc o) := by
  have hold : ∀ k, k < w.heap.size → (w.alloc o).heap[k]? = w.heap[k]? := fun k hk => heapAllocOld w o hk
  have hl : Later B S S L L w (w.alloc o) := ⟨(Below.refl _ _).alloc h.base _, ⟨by simp, fun k hk => hold k (h.small k hk)⟩, fun _ hk => hk, List.prefix_refl _, fun _ h => .inl h, fun k hk => (hold k (Array.getElem?_eq_some_iff.1 hk).1).trans hk⟩
  refine ⟨⟨h.len, fun k hk => by have := h.small k hk; simp; omega, by have := h.base; simp; omega, ?_, h.inj⟩, hl⟩
  intro id o' hid ho'
  obtain ⟨b, c, h1, h2, h3, h4⟩ := h.obj id o' hid ho'
  exact ⟨b, c, h1, h2, h3, h4.kept (hold b (h4.lt ho')) (fun _ _ => hl.rep) (fun _ _ => hl.repA)⟩
/-- A block that nobody speaks of is written. -/
theorem HRel.free {B : Nat} {S : Nat → Prop} {L : List (Nat × Nat)} {w : World} {H : Heap} (h : HRel B S L w H) {k : Nat} (hB : B ≤ k) (hS : ¬ S k) (hf : ∀ (id : Nat) (o : HO) (c : Nat), H[id]? = some o → o ≠ HO.dead → L[id]? ≠ some (k, c)) (o : Obj) :
    HRel B S L (w.putObj k o) H ∧ Below B w (w.putObj k o) ∧ Kept S w (w.putObj k o) := by
  have hother : ∀ i, i ≠ k → (w.putObj k o).heap[i]? = w.heap[i]? := fun i hk => World.putObj_heap_other (fun e => hk e)
  have hk : Kept S w (w.putObj k o) := ⟨by simp, fun i hi => hother i (fun e => hS (e ▸ hi))⟩
  have hb : Below B w (w.putObj k o) := ⟨rfl, rfl, rfl, by simp, fun i hi => hother i (by omega)⟩
  refine ⟨⟨h.len, fun i hi => by have := h.small i hi; simpa using this, by have := h.base; simpa using this, ?_, h.inj⟩, hb, hk⟩
  intro id o' hid ho'
  obtain ⟨b, c, h1, h2, h3, h4⟩ := h.obj id o' hid ho'
  exact ⟨b, c, h1, h2, h3, h4.kept (hother b (fun e => hf id o' c hid ho' (e ▸ h1))) (fun y d hy => Rep.kept hk (fun _ h => h) (fun _ _ h => h) d y hy) (fun ys ds hy => RepA.kept hk (fun _ h => h) (fun _ _ h => h) ds ys hy)⟩
/-- .. a block for deferred calls. -/
theorem HRel.shut {B : Nat} {S : Nat → Prop} {L : List (Nat × Nat)} {w : World} {H : Heap} (h : HRel B S L w H) {D : Nat} {x : Option (List Deferred)} (hD : w.heap[D]? = some (.deferred x)) (hS : ¬ S D) (hB : B ≤ D) (o : Obj) :
    HRel B S L (w.putObj D o) H ∧ Below B w (w.putObj D o) ∧ Kept S w (w.putObj D o) := by
  refine h.free hB hS (fun id o' c hid ho' hL => ?_) o
  obtain ⟨b, c', h1, h2, h3, h4⟩ := h.obj id o' hid ho'
  rw [hL] at h1
  cases h1
  exact h4.mark ho' x hD
/-- A loop over a function is over. -/
theorem HRel.over {P : Program} {B : Nat} {S : Nat → Prop} {L : List (Nat × Nat)} {w : World} {H : Heap} (h : HRel B S L w H) {id : Nat} {st : LS} {ps : List Nat} {as' bd : Code} {sz : Nat} {kp : List Nat} {s : List D} (hid : H[id]? = some (.loop st ps as' bd sz kp s)) (hst : st.state ≠ .busy) {lp c : Nat} (hL : L[id]? = some (lp, c)) :
    ∃ w', (Instr.endLoop lp).run P w = .ok st.pend w' ∧ HRel B S L w' (H.set id .dead) ∧ Later B S S L L w w' := by
  obtain ⟨b, c', h1, h2, h3, r, h4, h5, h6, h7⟩ := h.obj id _ hid (by intro e; cases e)
  rw [hL] at h1
  cases h1
  have hr := run_endLoop (P := P) h4 (by rw [h5]; exact hst)
  obtain ⟨k1, k2, k3⟩ := (h.kill id).free h2 h3 (fun i o c2 hi ho hLi => by
    rcases set_get H id i _ o hi with ⟨_, e, _⟩ | ⟨e1, e⟩
    · exact ho e.symm
    · exact e1 (h.inj i id _ _ _ _ e ho hid (by intro e; cases e) hLi hL rfl)) (.loop { r with state := .exhausted })
  refine ⟨w.putObj lp (.loop { r with state := .exhausted }), by rw [← h6]; exact hr, k1, k2, k3, fun _ hk => hk, List.prefix_refl _, fun _ hk => .inl hk, fun k hk => (World.putObj_heap_other (by rintro rfl; rw [h4] at hk; cases hk)).trans hk⟩

theorem runC_ok (hT : TabOk P T) (hm : P.follows .mixedOrders = true) {F : Fence} (hF : Wd F) {n m B N : Nat} (hN : B ≤ N) (c : Code) : ∀ {fr fr' : Fr} {x : Lv} {a : Act} {w : World} {S : Nat → Prop} {L : List (Nat × Nat)} {Q : Exit → Act → World → Prop}, runC P T kp n c fr = some (x, fr') → (F.round = none ∨ noRange c = true) → N ≤ w.heap.size → RepF B N S L w a fr →
    (∀ a' w' S' L', RepF B N S' L' w' a' fr' → Later B S S' L L' w w' → Q x.toExit a' w') → c.wpIn F m P Q a w := by
  induction c with
  | skip =>
    intro fr fr' x a w S L Q h hn hN' hr hQ
    simp only [runC, Option.some.injEq, Prod.mk.injEq] at h
    obtain ⟨rfl, rfl⟩ := h
    exact wpIn_skip (hQ a w S L hr Later.refl)
  | label l =>
    intro fr fr' x a w S L Q h hn hN' hr hQ
    simp only [runC, Option.some.injEq, Prod.mk.injEq] at h
    obtain ⟨rfl, rfl⟩ := h
    exact wpIn_label (hQ a w S L hr Later.refl)
  | region id ops draw =>
    intro fr fr' x a w S L Q h hn hN' hr hQ
    simp only [runC, regD] at h
    split at h
    · rename_i hd
      cases ho : runOps P T ops.toList ops.toList fr with
      | none => rw [ho] at h; cases h
      | some f2 =>
        rw [ho] at h
        simp only [Option.bind_some] at h
        split at h
        case isFalse => cases h
        rename_i hgd
        simp only [Option.some.injEq, Prod.mk.injEq] at h
        obtain ⟨rfl, rfl⟩ := h
        cases draw with
        | true => exact draw_ok hT hm hF (by simpa using hd) (by simpa using hgd) ho hr hQ
        | false => exact wpIn_region (wpListD_ok hT hF ops _ _ a w S L fr _ (range_ops ops) ho hr hQ)
    · cases h
  | seq x y ihx ihy =>
    intro fr fr' e a w S L Q h hn hN' hr hQ
    simp only [runC] at h
    refine wpIn_seq ?_
    cases hx : runC P T kp n x fr with
    | none => rw [hx] at h; cases h
    | some p =>
      obtain ⟨e1, f1⟩ := p
      refine ihx hx (hn.imp (fun h => h) fun h => by simp only [noRange, Bool.and_eq_true] at h; exact h.1) hN' hr fun a' w' S' L' h1 h2 => ?_
      rw [hx] at h
      cases e1 with
      | normal => exact ihy h (hn.imp (fun h => h) fun h => by simp only [noRange, Bool.and_eq_true] at h; exact h.2) (Nat.le_trans hN' h2.kept.size) h1 fun a'' w'' S'' L'' h3 h4 => hQ a'' w'' S'' L'' h3 (h2.trans h4)
      | exit id =>
        simp only [thenD, Option.some.injEq, Prod.mk.injEq] at h
        obtain ⟨rfl, rfl⟩ := h
        exact hQ a' w' S' L' h1 h2
      | ret =>
        simp only [thenD, Option.some.injEq, Prod.mk.injEq] at h
        obtain ⟨rfl, rfl⟩ := h
        exact hQ a' w' S' L' h1 h2
  | cond c x y ihx ihy =>
    intro fr fr' e a w S L Q h hn hN' hr hQ
    simp only [runC] at h
    have hc := evalD_ok hr.tmps c
    unfold condD at h
    split at h
    · rename_i hb
      rw [hb] at hc
      simp only [Rep] at hc
      exact wpIn_cond_true hc (ihx h (hn.imp (fun h => h) fun h => by simp only [noRange, Bool.and_eq_true] at h; exact h.1) hN' hr hQ)
    · rename_i hb
      rw [hb] at hc
      simp only [Rep] at hc
      exact wpIn_cond_false hc (ihy h (hn.imp (fun h => h) fun h => by simp only [noRange, Bool.and_eq_true] at h; exact h.2) hN' hr hQ)
    · cases h
  | block id c ih =>
    intro fr fr' e a w S L Q h hn hN' hr hQ
    simp only [runC] at h
    refine wpIn_block ?_
    cases hx : runC P T kp n c fr with
    | none => rw [hx] at h; cases h
    | some p =>
      obtain ⟨e1, f1⟩ := p
      refine ih hx (hn.imp (fun h => h) fun h => by simpa only [noRange] using h) hN' hr fun a' w' S' L' h1 h2 => ?_
      rw [hx] at h
      cases e1 with
      | normal =>
        simp only [blockD, Option.some.injEq, Prod.mk.injEq] at h
        obtain ⟨rfl, rfl⟩ := h
        exact hQ a' w' S' L' h1 h2
      | ret =>
        simp only [blockD, Option.some.injEq, Prod.mk.injEq] at h
        obtain ⟨rfl, rfl⟩ := h
        exact hQ a' w' S' L' h1 h2
      | exit j =>
        simp only [blockD, Option.some.injEq, Prod.mk.injEq] at h
        obtain ⟨rfl, rfl⟩ := h
        simp only [Lv.toExit, Exit.inBlock]
        by_cases hj : j = id
        · rw [if_pos hj] at hQ ⊢
          exact hQ a' w' S' L' h1 h2
        · rw [if_neg hj] at hQ ⊢
          exact hQ a' w' S' L' h1 h2
  | loop c ih =>
    intro fr fr' e a w S L Q h hn hN' hr hQ
    simp only [runC] at h
    unfold leaveD at h
    obtain ⟨fr0, hit, hfr0⟩ : ∃ fr0, iterD (fun fr => runC P T kp n c (forget kp fr)) n fr = some (e, fr0) ∧ fr' = forget kp fr0 := by
      cases hx : iterD (fun fr => runC P T kp n c (forget kp fr)) n fr with
      | none => rw [hx] at h; cases h
      | some p =>
        rw [hx] at h
        simp only [Option.map_some, Option.some.injEq, Prod.mk.injEq] at h
        obtain ⟨rfl, rfl⟩ := h
        exact ⟨p.2, rfl, rfl⟩
    subst hfr0
    clear h
    refine wpIn_loop_rounds n ?_
    have key : ∀ (k : Nat) (fr : Fr) (a : Act) (w : World) (S : Nat → Prop) (L : List (Nat × Nat)), iterD (fun fr => runC P T kp n c (forget kp fr)) k fr = some (e, fr0) → N ≤ w.heap.size → RepF B N S L w a fr → (∀ a' w' S' L', RepF B N S' L' w' a' (forget kp fr0) → Later B S S' L L' w w' → Q e.toExit a' w') → Code.roundsIn F m P c Q k a w := by
      intro k
      induction k with
      | zero => intro fr a w S L h; cases h
      | succ k ihk =>
        intro fr a w S L h hN' hr hQ
        rw [roundsIn_succ]
        simp only [iterD] at h
        cases hx : runC P T kp n c (forget kp fr) with
        | none => rw [hx] at h; cases h
        | some p =>
          obtain ⟨e1, f1⟩ := p
          refine ih hx (hn.imp (fun h => h) fun h => by simpa only [noRange] using h) hN' hr.forget fun a' w' S' L' h1 h2 => ?_
          rw [hx] at h
          cases e1 with
          | normal => exact ihk f1 a' w' S' L' h (Nat.le_trans hN' h2.kept.size) h1 fun a'' w'' S'' L'' h3 h4 => hQ a'' w'' S'' L'' h3 (h2.trans h4)
          | exit id =>
            simp only [Option.some.injEq, Prod.mk.injEq] at h
            obtain ⟨rfl, rfl⟩ := h
            exact hQ a' w' S' L' h1.forget h2
          | ret =>
            simp only [Option.some.injEq, Prod.mk.injEq] at h
            obtain ⟨rfl, rfl⟩ := h
            exact hQ a' w' S' L' h1.forget h2
    exact key n fr a w S L hit hN' hr hQ
  | exit id =>
    intro fr fr' x a w S L Q h hn hN' hr hQ
    simp only [runC, Option.some.injEq, Prod.mk.injEq] at h
    obtain ⟨rfl, rfl⟩ := h
    exact wpIn_exit (hQ a w S L hr Later.refl)
  | ret =>
    intro fr fr' x a w S L Q h hn hN' hr hQ
    simp only [runC, Option.some.injEq, Prod.mk.injEq] at h
    obtain ⟨rfl, rfl⟩ := h
    exact wpIn_ret (hQ a w S L hr Later.refl)
  | scope c ih =>
    intro fr fr' x a w S L Q h hn hN' hr hQ
    simp only [runC] at h
    refine wpIn_scope_straight (ih h (hn.imp (fun h => h) fun h => by simpa only [noRange] using h) hN' hr fun a' w' S' L' h1 h2 => ?_)
    have := hQ a' w' S' L' h1 h2
    cases x <;> exact this
  | rangeFunc g ps as' bd iha ihc =>
    intro fr fr' x a w S L Q h hn hN' hr hQ
    have hround : F.round = none := hn.elim (fun h => h) fun h => by simp [noRange] at h
    have hFw : F = Fence.wide := by
      cases hF with
      | wide => rfl
      | round l => cases hround
    subst hFw
    simp only [runC] at h
    obtain ⟨⟨lv, H2⟩, hrs, h⟩ := Option.map_eq_some_iff.1 h
    cases h
    unfold rangeS at hrs
    have hid : fr.2.length = L.length := hr.objs.len.symm
    -- the two new objects
    let D := w.heap.size
    let lp := w.heap.size + 1
    refine wpIn_rangeFunc fun fn _ => ?_
    let rc : Loop := { state := .ready, pending := none, fn := fn, tmps := a.tmps, params := ps, assign := as', body := bd, defers := D }
    let w0 := w.alloc (.deferred (some []))
    let w1 := w0.alloc (.loop rc)
    have hsz0 : w0.heap.size = w.heap.size + 1 := by simp [w0]
    obtain ⟨j1, j2⟩ := hr.objs.junk (.deferred (some []))
    have hnew := j1.newO w0 rfl (Below.refl _ _) (.loop rc) 0 (.loop .ready ps.toList as' bd fr.1.length kp (kp.map (fr.1.getD · .undef))) fun w' L' hr' hra' hh =>
      ⟨rc, hh, rfl, rfl, rfl, rfl, rfl, frU_rep kp (hra' _ _ (j2.repA hr.tmps))⟩
    obtain ⟨n1, n2⟩ := hnew
    have hl1 := j2.trans n2
    have hmk : w1.heap[D]? = some (.deferred (some [])) := n2.marks D (heap_alloc_new w _)
    have hSD : ∀ S1 L1 w2, Later B S S1 (L ++ [(w0.heap.size, 0)]) L1 w1 w2 → ¬ S1 D ∧ w2.heap[D]? = some (.deferred (some [])) := by
      intro S1 L1 w2 hl
      refine ⟨fun hS => ?_, hl.marks D hmk⟩
      rcases hl.only D hS with h | h
      · have := hr.objs.small D h; omega
      · have : w1.heap.size = w.heap.size + 2 := by simp [w1, w0]
        omega
    have hL1 : (L ++ [(w0.heap.size, 0)])[fr.2.length]? = some (lp, 0) := by rw [hid]; simp [hsz0, lp]
    have hld := j2.repA hr.tmps
    -- the function is called
    cases hg : evalD fr.1 g with
    | clo fk fs cs =>
      cases fk with
      | func f =>
        rw [hg] at hrs
        simp only at hrs
        have hgr := evalD_ok hr.tmps g
        rw [hg] at hgr
        simp only [Rep] at hgr
        obtain ⟨ys, zs, hgv, hys, hzs⟩ := hgr
        cases hlk : look T f (fs ++ [.yld fr.2.length] ++ cs) (fr.2 ++ [.loop .ready ps.toList as' bd fr.1.length kp (kp.map (fr.1.getD · .undef))]) with
        | none => rw [hlk] at hrs; cases hrs
        | some r =>
          rw [hlk] at hrs
          obtain ⟨d, H3⟩ := r
          obtain ⟨G, hG, hd, _⟩ := look_ok hT hlk
          obtain ⟨fnn, b1, b2, b3⟩ := hG.body
          have hargs : RepA S (L ++ [(w0.heap.size, 0)]) w1 (ys ++ [Value.func (.yield lp) #[] #[]] ++ zs) (fs ++ [.yld fr.2.length] ++ cs) :=
            ((hl1.repA hys).append (RepA.cons (x := Value.func (.yield lp) #[] #[]) (by simp only [Rep]; exact ⟨lp, 0, hL1, rfl⟩) RepA.nil)).append (hl1.repA hzs)
          refine ⟨lp, [{ target := .collected D, args := #[] }], w1, { target := .fn (.func f) zs.toArray, args := ys.toArray ++ #[Value.func (.yield lp) #[] #[]] }, w1, f, (ys ++ [Value.func (.yield lp) #[] #[]] ++ zs).toArray, w1, ?_, ?_, fun _ _ => trivial, ?_, (fun h => by cases h), ?_⟩
          · exact run_enterLoop_outer _ _ _ _ _
          · simp only [resolve, hgv]
            simp [Deferred.ofValue, Act.eval]
          · have hb : fnn.body ≠ none := by intro e; rw [e] at b3; cases b3
            simp [invoke, callFunc, run_program, b1, b2, hb]
          · refine (callsIn_wide.2 (hG.calls _ _ d H3 hd B S _ _ w1 n1 hargs)).mono ?_
            rintro e w3 ⟨v, S3, L3, rfl, q1, q2, q3⟩
            have hL3 := prefix_get q3.pre _ _ hL1
            obtain ⟨hS3, hD3⟩ := hSD S3 L3 w3 q3
            have fin : ∀ (st : LS) ps' as' bd' sz' kp' s', H3[fr.2.length]? = some (.loop st ps' as' bd' sz' kp' s') → st.state ≠ .busy →
                ∃ w4, (Instr.endLoop lp).run P w3 = .ok st.pend w4 ∧ RepF B N S3 L3 w4 { a with defers := { target := .collected D, args := #[] } :: a.defers } (fr.1, H3.set fr.2.length .dead) ∧ Later B S S3 L L3 w w4 := by
              intro st ps' as' bd' sz' kp' s' hid3 hbusy
              obtain ⟨w4, p1, p2, p3⟩ := q2.over (P := P) hid3 hbusy hL3
              have hall := (hl1.trans q3).trans p3
              refine ⟨w4, p1, ⟨?_, hall.repA hr.tmps, p2⟩, hall⟩
              obtain ⟨Ds, m1, m2, m3⟩ := hr.defers.later hall
              obtain ⟨Ds0, m1', _, m3'⟩ := hr.defers
              have hDs : Ds0 = Ds := by
                have : marksOf Ds0 = marksOf Ds := m1'.symm.trans m1
                simp only [marksOf] at this
                exact List.map_inj_right (fun x y e => by simpa using e) |>.1 this
              subst hDs
              refine ⟨D :: Ds0, by rw [m1']; rfl, List.nodup_cons.2 ⟨fun hm => ?_, m2⟩, fun E hE => ?_⟩
              · have := (Array.getElem?_eq_some_iff.1 (m3' D hm).2.2).1
                omega
              · rcases List.mem_cons.1 hE with rfl | hE
                · exact ⟨hN', hS3, p3.marks _ hD3⟩
                · exact m3 E hE
            unfold leftR at hrs
            simp only at hrs
            split at hrs
            · rename_i hid3
              cases hrs
              obtain ⟨w4, p1, p2, p3⟩ := fin .ready _ _ _ _ _ _ hid3 (by intro e; cases e)
              exact ⟨none, w4, p1, hQ _ w4 S3 L3 p2 p3⟩
            · cases hrs
            · rename_i hlv hid3
              cases hrs
              obtain ⟨w4, p1, p2, p3⟩ := fin (.done _) _ _ _ _ _ _ hid3 (by intro e; cases e)
              have hq := hQ _ w4 S3 L3 p2 p3
              refine ⟨some _, w4, p1, ?_⟩
              cases lv with
              | normal => exact absurd rfl (by assumption)
              | exit j => exact wpIn_exit hq
              | ret => exact wpIn_ret hq
            · cases hrs
      | _ => rw [hg] at hrs; cases hrs
    | _ => rw [hg] at hrs; cases hrs
  | _ =>
    intro fr fr' x a w S L Q h hn hN' hr hQ
    simp only [runC] at h
    cases h
end

def resD (P : Program) (fr : Fr) : ResultVar → Option D
  | .tmp t => some (fr.1.getD t .undef)
  | .cell a t => (shapeOf P t).bind fun s => loadH s fr.2 (fr.1.getD a .undef)
def resultsD (P : Program) (rs : List ResultVar) (fr : Fr) : Option D :=
  match rs.mapM (resD P fr) with
  | some [d] => some d
  | some ds => some (.tup ds)
  | none => none
/-- What a function gives, of this body, and what becomes of the objects. -/
def runF (P : Program) (T : Tab) (kp : List Nat) (n : Nat) (c : Code) (ntmps : Nat) (rs : List ResultVar) (ds : List D) (H : Heap) : Option (D × Heap) :=
  match runC P T kp n c (ds ++ List.replicate (ntmps - ds.length) .undef, H) with
  | some (.exit _, _) => none
  | some (_, fr) => (resultsD P rs fr).map fun d => (d, fr.2)
  | none => none

/-- One result. -/
def oneRes (a : Act) : ResultVar → Sem Value
  | .tmp t => pure (a.tmps.getD t undef)
  | .cell a' t => do loadVar t (← asAddr (a.tmps.getD a' undef))
theorem results_one (fn : Func) (a : Act) : results fn a.tmps = (do let vs ← fn.results.mapM (oneRes a); pure (if h : vs.size = 1 then vs[0] else .tuple vs)) := by
  unfold results
  congr 2

theorem load_addr {P : Program} {t : TypeId} {v x : Value} {w : World} (h : (Instr.loadAt t v).run P w = .ok x w) : ∃ a, v = .pointer (some a) ∧ (loadVar t a).run P w = .ok x w := by
  cases v with
  | pointer p =>
    cases p with
    | some a => exact ⟨a, rfl, by simpa [Instr.loadAt, Instr.sureAddr] using h⟩
    | none => simp [Instr.loadAt, Instr.sureAddr, stuck] at h
  | _ => simp [Instr.loadAt, Instr.sureAddr, stuck] at h

theorem resD_ok {P : Program} {w : World} {a : Act} {fr : Fr} {B N : Nat} {S : Nat → Prop} {L : List (Nat × Nat)} (hr : RepF B N S L w a fr) (r : ResultVar) (d : D) (h : resD P fr r = some d) :
    ∃ v, (oneRes a r).run P w = .ok v w ∧ Rep S L w v d := by
  cases r with
  | tmp t =>
    simp only [resD, Option.some.injEq] at h
    subst h
    have := hr.tmps.getD t undef
    exact ⟨_, rfl, by simpa using this⟩
  | cell t ty =>
    simp only [resD] at h
    obtain ⟨s, hs, h⟩ := Option.bind_eq_some_iff.1 h
    have h1 := hr.tmps.getD t undef
    obtain ⟨x, h3, h4⟩ := loadH_ok (P := P) hs h h1 hr.objs
    obtain ⟨ad, h5, h6⟩ := load_addr h3
    refine ⟨x, ?_, h4⟩
    have h1' : a.tmps.getD t undef = .pointer (some ad) := by simpa using h5
    simp [oneRes, h1', asAddr, h6]

theorem results_ok {P : Program} {fn : Func} {w : World} {a : Act} {fr : Fr} {d : D} {B N : Nat} {S : Nat → Prop} {L : List (Nat × Nat)} (hr : RepF B N S L w a fr) (h : resultsD P fn.results.toList fr = some d) : ∃ v, (results fn a.tmps).run P w = .ok v w ∧ Rep S L w v d := by
  unfold resultsD at h
  have key : ∀ (rs : List ResultVar) (ds : List D), rs.mapM (resD P fr) = some ds → ∃ vs : List Value, (rs.mapM (oneRes a)).run P w = .ok vs w ∧ RepA S L w vs ds := by
    intro rs
    induction rs with
    | nil => intro ds h; simp at h; subst h; exact ⟨[], rfl, RepA.nil⟩
    | cons r t ih =>
      intro ds h
      simp only [List.mapM_cons, Option.pure_def, Option.bind_eq_bind] at h
      cases h1 : resD P fr r with
      | none => rw [h1] at h; cases h
      | some e =>
        rw [h1, Option.bind_some] at h
        cases h2 : t.mapM (resD P fr) with
        | none => rw [h2] at h; cases h
        | some es =>
          rw [h2, Option.bind_some] at h
          cases h
          obtain ⟨v, h3, h4⟩ := resD_ok hr r e h1
          obtain ⟨vs, h5, h6⟩ := ih es h2
          refine ⟨v :: vs, ?_, RepA.cons h4 h6⟩
          simp only [List.mapM_cons, Sem.run_bind]
          rw [h3]
          simp only [Result.andThen_ok, Sem.run_bind]
          rw [h5]
          rfl
  cases hm : fn.results.toList.mapM (resD P fr) with
  | none => rw [hm] at h; cases h
  | some ds =>
    rw [hm] at h
    obtain ⟨vs, h1, h2⟩ := key _ _ hm
    have hl := h2.length
    rw [results_one, Array.mapM_eq_mapM_toList]
    simp only [Sem.run_bind, Sem.run_map]
    rw [h1]
    simp only [Result.andThen_ok, Sem.run_pure]
    split at h
    · rename_i d' heq
      cases heq
      cases h
      obtain ⟨v, ys, rfl, h3, h4⟩ := by simpa only [RepA] using h2
      subst h4
      exact ⟨v, by simp, h3⟩
    · rename_i ds' hne heq
      cases heq
      cases h
      refine ⟨.tuple vs.toArray, ?_, by simp only [Rep]; exact ⟨vs, rfl, h2⟩⟩
      have : vs.length ≠ 1 := by
        intro e
        rw [hl] at e
        obtain ⟨x, rfl⟩ := List.length_eq_one_iff.1 e
        exact hne x rfl
      simp [this]
    · rename_i heq
      cases heq

/-- A function leaves, and each block for deferred calls is shut. -/
theorem leaves_marksOf {P : Program} {F : Fence} {n : Nat} {fn : Func} {tmps : Array Value} {R : Ending → World → Prop} (Inv : World → Prop) : ∀ (Ds : List Nat) (W : World), Ds.Nodup → (∀ D, D ∈ Ds → W.heap[D]? = some (.deferred (some []))) →
    (∀ A D, D ∈ Ds → A.heap[D]? = some (.deferred (some [])) → Inv A → Inv (A.putObj D (.deferred none))) → Inv W →
    (∀ W', Inv W' → ∃ v, (results fn tmps).run P W' = .ok v W' ∧ R (.returned v) W') →
    LeavesInM F n P fn tmps R (marksOf Ds) .returning W
  | [], W, _, _, _, h0, h => h W h0
  | D :: Ds, W, hnd, hD, hs, h0, h => by
    have hnd' := List.nodup_cons.1 hnd
    refine ⟨by simp, .inl ⟨D, _, rfl, run_takeDeferred (hD D (by simp)), ?_⟩⟩
    exact leaves_marksOf Inv Ds _ hnd'.2 (fun E hE => (World.putObj_heap_other (by rintro rfl; exact hnd'.1 hE)).trans (hD E (by simp [hE])))
      (fun A E hE => hs A E (by simp [hE])) (hs W D (by simp) (hD D (by simp)) h0) h

theorem runF_calls {P : Program} {T : Tab} {kp : List Nat} (hT : TabOk P T) (hm : P.follows .mixedOrders = true) {f : FuncId} {fn : Func} {c : Code} (hf : P.funcs[f]? = some fn) (hb : fn.body = some c) {n : Nat} {ds : List D} {H H' : Heap} {d : D}
    (hn : runF P T kp n c fn.ntmps fn.results.toList ds H = some (d, H')) {B : Nat} {S : Nat → Prop} {L : List (Nat × Nat)} {vs : List Value} {w : World} (ho : HRel B S L w H) (hv : RepA S L w vs ds) :
    Calls P f vs.toArray w fun e w' => ∃ v S' L', e = .returned v ∧ Rep S' L' w' v d ∧ HRel B S' L' w' H' ∧ Later B S S' L L' w w' := by
  unfold runF at hn
  have hl := hv.length
  have hrep : RepF B w.heap.size S L w { tmps := vs.toArray ++ Array.replicate (fn.ntmps - vs.toArray.size) undef, defers := [] } (ds ++ List.replicate (fn.ntmps - ds.length) .undef, H) := by
    refine ⟨MarksOk.nil, ?_, ho⟩
    have h2 : ∀ k, RepA S L w (List.replicate k undef) (List.replicate k .undef) := by
      intro k
      induction k with
      | zero => exact RepA.nil
      | succ k ih => exact RepA.cons (by simp only [Rep]) ih
    have h3 := hv.append (h2 (fn.ntmps - ds.length))
    rw [← hl] at h3 ⊢
    simpa using h3
  cases hr : runC P T kp n c (ds ++ List.replicate (fn.ntmps - ds.length) .undef, H) with
  | none => rw [hr] at hn; cases hn
  | some p =>
    obtain ⟨e, fr⟩ := p
    rw [hr] at hn
    have fin : ∀ lv : Lv, (resultsD P fn.results.toList fr).map (fun d => (d, fr.2)) = some (d, H') → ∀ a' w' S' L', RepF B w.heap.size S' L' w' a' fr → Later B S S' L L' w w' →
        LeavesInM Fence.wide 1 P fn a'.tmps (fun e w' => ∃ v S' L', e = .returned v ∧ Rep S' L' w' v d ∧ HRel B S' L' w' H' ∧ Later B S S' L L' w w') a'.defers .returning w' := by
      intro lv hres a' w' S' L' h1 h2
      cases hrs : resultsD P fn.results.toList fr with
      | none => rw [hrs] at hres; cases hres
      | some d' =>
        rw [hrs] at hres
        simp only [Option.map_some, Option.some.injEq, Prod.mk.injEq] at hres
        obtain ⟨rfl, rfl⟩ := hres
        obtain ⟨Ds, m1, m2, m3⟩ := h1.defers
        rw [m1]
        refine leaves_marksOf (fun W => RepA S' L' W a'.tmps.toList fr.1 ∧ HRel B S' L' W fr.2 ∧ Later B S S' L L' w W) Ds w' m2 (fun D hD => (m3 D hD).2.2) ?_ ⟨h1.tmps, h1.objs, h2⟩ ?_
        · rintro A D hD hA ⟨i1, i2, i3⟩
          obtain ⟨k1, k2, k3⟩ := m3 D hD
          obtain ⟨q1, q2, q3⟩ := i2.shut hA k2 (Nat.le_trans ho.base k1) (.deferred none)
          refine ⟨RepA.kept q3 (fun _ h => h) (fun _ _ h => h) _ _ i1, q1, i3.below.trans q2, i3.kept.trans (q3.mono i3.more), i3.more, i3.pre, i3.only, fun k hk => ?_⟩
          have := (Array.getElem?_eq_some_iff.1 hk).1
          exact (World.putObj_heap_other (by rintro rfl; omega)).trans (i3.marks k hk)
        · rintro W ⟨i1, i2, i3⟩
          obtain ⟨v, h3, h4⟩ := results_ok (fn := fn) (a := ⟨a'.tmps, []⟩) (N := 0) ⟨MarksOk.nil, i1, i2⟩ hrs
          exact ⟨v, h3, v, S', L', rfl, h4, i2, i3⟩
    refine callsIn_wide.1 (callsIn_of_wp_marks (n := 1) hf hb trivial (runC_ok hT hm .wide ho.base c hr (.inl rfl) (Nat.le_refl _) hrep fun a' w' S' L' h1 h2 => ?_))
    cases e with
    | exit id => cases hn
    | normal => exact fin .normal hn a' w' S' L' h1 h2
    | ret => exact fin .ret hn a' w' S' L' h1 h2

/-- A function does to the caller's objects what its body does. -/
theorem hcall_run {P : Program} {T : Tab} {kp : List Nat} (hT : TabOk P T) (hm : P.follows .mixedOrders = true) {f : FuncId} {fn : Func} {c : Code} (hf : P.funcs[f]? = some fn) (hb : fn.body = some c) (hname : fn.name ≠ "runtime.NumGoroutine") {G : List D → Heap → Option (D × Heap)}
    (h : ∀ ds H d H', G ds H = some (d, H') → ∃ n, runF P T kp n c fn.ntmps fn.results.toList ds H = some (d, H')) : HCallOk P f G := by
  refine ⟨⟨fn, hf, hname, by rw [hb]; rfl⟩, fun ds H d H' hG B S L vs w ho hv => ?_⟩
  obtain ⟨n, hn⟩ := h ds H d H' hG
  exact runF_calls hT hm hf hb hn ho hv

theorem hrel_none (S : Nat → Prop) (w : World) (hS : ∀ k, S k → k < w.heap.size) : HRel w.heap.size S [] w [] :=
  ⟨rfl, hS, Nat.le_refl _, fun id o h => by simp at h, fun id id' o o' p p' h => by simp at h⟩
/-- What a function gives by value. -/
def outD (r : Option (D × Heap)) : Option D := r.bind fun x => derefN x.2 9 x.1
/-- A function gives by value what its body gives. -/
theorem call_run {P : Program} {T : Tab} {kp : List Nat} (hT : TabOk P T) (hm : P.follows .mixedOrders = true) {f : FuncId} {fn : Func} {c : Code} (hf : P.funcs[f]? = some fn) (hb : fn.body = some c) (hname : fn.name ≠ "runtime.NumGoroutine") {F : List D → Option D}
    (h : ∀ ds d, F ds = some d → ∃ n, outD (runF P T kp n c fn.ntmps fn.results.toList ds []) = some d) : CallOk P f F := by
  refine ⟨⟨fn, hf, hname, by rw [hb]; rfl⟩, fun ds d hF S vs w hS hv => ?_⟩
  obtain ⟨n, hn⟩ := h ds d hF
  unfold outD at hn
  obtain ⟨⟨d', H'⟩, hn, hd⟩ := Option.bind_eq_some_iff.1 hn
  refine (runF_calls hT hm hf hb hn (hrel_none S w hS) hv).mono ?_
  rintro e w' ⟨v, S', L', rfl, h1, h2, h3⟩
  refine ⟨v, rfl, ?_, h3.below⟩
  have h4 := deref_in h2 9 d' d v hd h1
  refine Rep.kept (Kept.refl _ _) (fun k hk => ?_) (fun i p hi => hi) d v h4
  rcases hk with hk | hk
  · rcases h3.only k hk with h5 | h5
    · exact .inl h5
    · exact .inr ⟨h5, h2.small k hk⟩
  · exact .inr hk
end Go.Proofs.Ytbnmkdlmalobaaa
end
