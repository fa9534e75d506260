/-
  A range over a function whose iterator hands out values that live in memory: its contract may say, at each element, how that element reads ('G'); and a function that has gone through several such loops leaves.
-/
import Derived.Test.YtnmgfobpcengkaaKids
namespace Go.Proofs.Ytnmgfobpcengkaa
open Go.RowKit Go.Shelf
set_option linter.unusedVariables false

section
variable {P : Program}

/-- The iterator's contract, at the world W in which it is called: whatever the loop lp and whatever its invariant J (which new blocks do not disturb), the elements come one by one, each reading as G says, at most N;
    a round keeps Kp; in the end either all have come (R xs true) or a round has said 'no more' (R xs false). -/
def Iter {α : Type} (P : Program) (gf : Nat) (lb : Array Value) (encs : α → Array Value) (G : α → World → Prop) (Kp : World → World → Prop) (N : Nat) (R : List α → Bool → Prop) (W : World) : Prop :=
  ∀ (lp : Nat) (J : List α → Bool → World → Prop), (∀ b, OwnFrom W.heap.size (fun xs V => J xs b V)) →
    (∀ pre x W1, J pre true W1 → G x W1 → pre.length < N → YieldAt Fence.wide 0 P lp (encs x) W1 fun e W' => ∃ b, e = .returned (.bool b) ∧ J (pre ++ [x]) b W' ∧ Kp W1 W') →
    J [] true W →
    CallsIn Fence.wide 0 P gf (#[.func (.yield lp) #[] #[]] ++ lb) W fun e W' => (∃ v, e = .returned v) ∧ ∃ xs b, R xs b ∧ J xs b W'

theorem ownFrom_belows {β : Type} {B : Nat} {I : β → World → Prop} (h : OwnFrom B I) {s : β} {A C : World} (hi : I s A) (hb : Below A.heap.size A C) : I s C :=
  h s A C none hi (grown_of_below hb none) (fun r e => by cases e)

/-- The loop's record, in state st, a jump pending. -/
def recOf (fn : FuncId) (a : Act) (ps : Array Tmp) (assign body : Code) (D : Nat) (st : LoopState) (pe : Option Code) : Loop :=
  { state := st, pending := pe, fn, tmps := a.tmps, params := ps, assign, body, defers := D }

/-- How the body of a round may be left. -/
def roundOut {α : Type} (B : Nat) (Kp : World → World → Prop) (I : List α → World → Prop) (Ix : Code → List α → World → Prop) (xs : List α) (W : World) : Exit → Act → World → Prop
  | .normal, _, W' => KeepsFrom B W W' ∧ Kp W W' ∧ I xs W'
  | .ret, _, W' => KeepsFrom B W W' ∧ Kp W W' ∧ Ix .ret xs W'
  | .exit id, _, W' => KeepsFrom B W W' ∧ Kp W W' ∧ Ix (.exit id) xs W'
  | .goto t, _, W' => KeepsFrom B W W' ∧ Kp W W' ∧ Ix (.goto t) xs W'
  | .panic _, _, _ => False
  | .outgrown, _, _ => False

/-- What a round leaves, by how it is left, brought to the form that the iterator sees. -/
theorem round_left {α : Type} {B lp D : Nat} {Kp : World → World → Prop} {I : List α → World → Prop} {Ix : Code → List α → World → Prop} {xs : List α} {r : Loop} {W : World} {e : Exit} {a : Act} {W3 : World}
    (hI : OwnFrom B I) (hIx : ∀ c, OwnFrom B (Ix c)) (hKt : ∀ {A C E : World}, Kp A C → Kp C E → Kp A E)
    (hKb : ∀ (W : World) (l : Nat) (o o' : Obj), B ≤ l → l < B + 2 → W.heap[l]? = some o → o.isCells = false → o.isWalk = false → Kp W (W.putObj l o'))
    (hB : B ≤ lp) (hB2 : lp < B + 2) (hD : B ≤ D) (hne : D ≠ lp) (hl : W.heap[lp]? = some (.loop r)) (hk : W.heap[D]? = some (.deferred (some [])))
    (h : roundOut B Kp I Ix xs W e a W3) :
    roundPost P lp (fun e W' => ∃ b, e = .returned (.bool b) ∧
      ((b = true ∧ I xs W' ∧ W'.heap[lp]? = some (.loop { r with state := .ready, pending := none }) ∧ W'.heap[D]? = some (.deferred (some [])) ∧ Kp W W') ∨
       (b = false ∧ ∃ c, Ix c xs W' ∧ W'.heap[lp]? = some (.loop { r with state := .done, pending := some c }) ∧ W'.heap[D]? = some (.deferred (some [])) ∧ Kp W W'))) e a W3 := by
  have go : ∀ j, KeepsFrom B W W3 → (Instr.endRound lp j).run P W3 = .ok (.bool j.isNone) (W3.putObj lp (.loop { r with state := if j.isNone then .ready else .done, pending := j })) ∧
      (W3.putObj lp (.loop { r with state := if j.isNone then .ready else .done, pending := j })).heap[lp]? = some (.loop { r with state := if j.isNone then .ready else .done, pending := j }) ∧
      (W3.putObj lp (.loop { r with state := if j.isNone then .ready else .done, pending := j })).heap[D]? = some (.deferred (some [])) ∧ W3.heap[lp]? = some (.loop r) := fun j hkf => by
    have h3 := hkf.same lp _ hB hl rfl
    exact ⟨run_endRound j h3, World.putObj_heap_same (Array.getElem?_eq_some_iff.1 h3).1, (World.putObj_heap_other hne).trans (hkf.same D _ hD hk rfl), h3⟩
  cases e with
  | normal =>
    obtain ⟨hkf, hkp, hi⟩ := h
    obtain ⟨r1, r2, r3, r4⟩ := go none hkf
    exact ⟨_, _, r1, true, rfl, .inl ⟨rfl, hI.putObj _ hi hB r4 rfl, r2, r3, hKt hkp (hKb _ _ _ _ hB hB2 r4 rfl rfl)⟩⟩
  | ret =>
    obtain ⟨hkf, hkp, hi⟩ := h
    obtain ⟨r1, r2, r3, r4⟩ := go (some .ret) hkf
    exact ⟨_, _, r1, false, rfl, .inr ⟨rfl, _, (hIx _).putObj _ hi hB r4 rfl, r2, r3, hKt hkp (hKb _ _ _ _ hB hB2 r4 rfl rfl)⟩⟩
  | exit id =>
    obtain ⟨hkf, hkp, hi⟩ := h
    obtain ⟨r1, r2, r3, r4⟩ := go (some (.exit id)) hkf
    exact ⟨_, _, r1, false, rfl, .inr ⟨rfl, _, (hIx _).putObj _ hi hB r4 rfl, r2, r3, hKt hkp (hKb _ _ _ _ hB hB2 r4 rfl rfl)⟩⟩
  | goto t =>
    obtain ⟨hkf, hkp, hi⟩ := h
    obtain ⟨r1, r2, r3, r4⟩ := go (some (.goto t)) hkf
    exact ⟨_, _, r1, false, rfl, .inr ⟨rfl, _, (hIx _).putObj _ hi hB r4 rfl, r2, r3, hKt hkp (hKb _ _ _ _ hB hB2 r4 rfl rfl)⟩⟩
  | panic _ => exact h.elim
  | outgrown => exact h.elim

/-- 'for .. := range g { body }', g's value having the contract 'Iter': an outermost loop, its variables unboxed. -/
theorem range_rule {α : Type} {g : Operand} {ps : Array Tmp} {assign body : Code} {Q : Exit → Act → World → Prop} {a : Act} {w : World} {n : Nat}
    {gf : Nat} {lb : Array Value} (hg : a.eval g = .func (.func gf) #[] lb) (eg : ∀ args w, (callFunc gf args).run P w = .ok (.enter gf args) w)
    {encs : α → Array Value} {G : α → World → Prop} {Kp : World → World → Prop} {N : Nat} {R : List α → Bool → Prop} (hps : ∀ x, (encs x).size = ps.size)
    (hit : ∀ W', Below w.heap.size w W' → W'.heap.size = w.heap.size + 2 → Iter P gf lb encs G Kp N R W')
    (hKt : ∀ {A C E : World}, Kp A C → Kp C E → Kp A E)
    (hKb : ∀ (W : World) (l : Nat) (o o' : Obj), w.heap.size ≤ l → l < w.heap.size + 2 → W.heap[l]? = some o → o.isCells = false → o.isWalk = false → Kp W (W.putObj l o'))
    (I : List α → World → Prop) (Ix : Code → List α → World → Prop) (hI : OwnFrom w.heap.size I) (hIx : ∀ c, OwnFrom w.heap.size (Ix c)) (hG : ∀ x, OwnFrom w.heap.size (fun (_ : Unit) W => G x W)) (h0 : I [] w)
    (a₁ : α → Act)
    (hassign : ∀ (lp : Nat) (x : α) (W : World) (K : Act → World → Prop), K (a₁ x) W →
      assign.wpIn (Fence.wide.inRound lp) 0 P (Exit.then K (fun _ _ _ => False)) { tmps := (ps.zip (encs x)).foldl (fun t (p, v) => t.setIfInBounds p v) a.tmps, defers := [] } W)
    (hbody : ∀ (lp : Nat) (pre : List α) (x : α) (W : World), I pre W → G x W → pre.length < N → body.wpIn (Fence.wide.inRound lp) 0 P (roundOut w.heap.size Kp I Ix (pre ++ [x]) W) (a₁ x) W)
    (hend : ∀ (D : Nat) (xs : List α) (W : World), w.heap.size ≤ D → R xs true → I xs W → W.heap[D]? = some (.deferred (some [])) → Q .normal { a with defers := { target := .collected D, args := #[] } :: a.defers } W)
    (hout : ∀ (D : Nat) (c : Code) (xs : List α) (W : World), w.heap.size ≤ D → R xs false → Ix c xs W → W.heap[D]? = some (.deferred (some [])) → c.wpIn Fence.wide n P Q { a with defers := { target := .collected D, args := #[] } :: a.defers } W) :
    (Code.rangeFunc g ps assign body).wpIn Fence.wide n P Q a w := by
  refine wpIn_rangeFunc fun fn hfn => ?_
  let D := w.heap.size
  let lp := w.heap.size + 1
  let rc := recOf fn a ps assign body D
  let W1 := (w.alloc (.deferred (some []))).alloc (.loop (rc .ready none))
  have hb1 : Below w.heap.size w W1 := ((Below.refl _ w).alloc (Nat.le_refl _) _).alloc (by simp) _
  have hL : W1.heap[lp]? = some (.loop (rc .ready none)) := by
    have := World.alloc_heap_new (w.alloc (.deferred (some []))) (.loop (rc .ready none)); rwa [World.size_alloc] at this
  have hK : W1.heap[D]? = some (.deferred (some [])) := (Below.heap_alloc _ _ _ (by simp [D])).trans (World.alloc_heap_new w _)
  refine ⟨lp, [{ target := .collected D, args := #[] }], W1, { target := .fn (.func gf) lb, args := #[.func (.yield lp) #[] #[]] }, W1, gf, #[.func (.yield lp) #[] #[]] ++ lb, W1,
    run_enterLoop_outer _ _ _ _ _, by simp only [resolve, hg]; simp [go_sem], fun _ _ => trivial, by simp [invoke, go_sem, eg], (fun h => by cases h), ?_⟩
  refine CallsIn.more (n := 0) ?_ (Nat.zero_le _)
  have hsz : W1.heap.size = w.heap.size + 2 := by simp [W1]
  refine (hit W1 hb1 hsz lp (fun xs b W => (b = true ∧ I xs W ∧ W.heap[lp]? = some (.loop (rc .ready none)) ∧ W.heap[D]? = some (.deferred (some []))) ∨
    (b = false ∧ ∃ c, Ix c xs W ∧ W.heap[lp]? = some (.loop (rc .done (some c))) ∧ W.heap[D]? = some (.deferred (some [])))) ?_ ?_ (.inl ⟨rfl, ?_, hL, hK⟩)).mono ?_
  · intro b xs A B row hs hgr hr
    have hkeep : ∀ {k : Nat} {o : Obj}, k < w.heap.size + 2 → A.heap[k]? = some o → B.heap[k]? = some o := fun hk2 hk =>
      (hgr.block _ (Array.getElem?_eq_some_iff.1 hk).1 (fun e => by have := (hr _ e.symm).1; omega)).trans hk
    have hr' : ∀ r, row = some r → w.heap.size ≤ r ∧ ∃ o : Obj, A.heap[r]? = some o ∧ o.isCells = false := fun r e => by obtain ⟨h1, h2⟩ := hr r e; exact ⟨by omega, h2⟩
    rcases hs with ⟨rfl, hi, hl, hk⟩ | ⟨rfl, c, hi, hl, hk⟩
    · exact .inl ⟨rfl, hI xs A B row hi hgr hr', hkeep (by simp [lp]) hl, hkeep (by simp [D]) hk⟩
    · exact .inr ⟨rfl, c, hIx c xs A B row hi hgr hr', hkeep (by simp [lp]) hl, hkeep (by simp [D]) hk⟩
  · rintro pre x W (⟨_, hi, hl, hk⟩ | ⟨h, _⟩) hgx hlen
    case inr => cases h
    refine ⟨fn, _, assign, body, run_yield hl (hps x), roundIn_of_wpIn hfn (hassign lp x W _ ⟨_, run_beginRound hl rfl, ?_⟩)⟩
    have hl2 : (W.putObj lp (.loop { rc .ready none with state := .busy })).heap[lp]? = some (.loop { rc .ready none with state := .busy }) := World.putObj_heap_same (Array.getElem?_eq_some_iff.1 hl).1
    have hk2 : (W.putObj lp (.loop { rc .ready none with state := .busy })).heap[D]? = some (.deferred (some [])) := (World.putObj_heap_other (by simp [D, lp])).trans hk
    have hw2 : Kp W (W.putObj lp (.loop { rc .ready none with state := .busy })) := hKb _ _ _ _ (by simp [lp]) (by simp [lp]) hl rfl rfl
    refine wpIn_mono (hbody lp pre x _ (hI.putObj _ hi (by simp [lp]) hl rfl) ((hG x).putObj (s := ()) _ hgx (by simp [lp]) hl rfl) hlen) fun e a3 W3 hp => ?_
    have := round_left (P := P) (lp := lp) (D := D) (Kp := Kp) (I := I) (Ix := Ix) (xs := pre ++ [x]) hI hIx (fun {A C E} h k => hKt h k) hKb (by simp [lp]) (by simp [lp]) (Nat.le_refl _) (by simp [D, lp]) hl2 hk2 hp
    revert this
    have key : ∀ (e : Ending) (W' : World), (∃ b, e = .returned (.bool b) ∧
        ((b = true ∧ I (pre ++ [x]) W' ∧ W'.heap[lp]? = some (.loop { ({ rc .ready none with state := .busy } : Loop) with state := .ready, pending := none }) ∧ W'.heap[D]? = some (.deferred (some [])) ∧ Kp (W.putObj lp (.loop { rc .ready none with state := .busy })) W') ∨
         (b = false ∧ ∃ c, Ix c (pre ++ [x]) W' ∧ W'.heap[lp]? = some (.loop { ({ rc .ready none with state := .busy } : Loop) with state := .done, pending := some c }) ∧ W'.heap[D]? = some (.deferred (some [])) ∧ Kp (W.putObj lp (.loop { rc .ready none with state := .busy })) W'))) →
        ∃ b, e = .returned (.bool b) ∧ ((b = true ∧ I (pre ++ [x]) W' ∧ W'.heap[lp]? = some (.loop (rc .ready none)) ∧ W'.heap[D]? = some (.deferred (some []))) ∨
          (b = false ∧ ∃ c, Ix c (pre ++ [x]) W' ∧ W'.heap[lp]? = some (.loop (rc .done (some c))) ∧ W'.heap[D]? = some (.deferred (some [])))) ∧ Kp W W' := by
      rintro e W' ⟨b, rfl, ⟨rfl, h1, h2, h3, h4⟩ | ⟨rfl, c, h1, h2, h3, h4⟩⟩
      · exact ⟨true, rfl, .inl ⟨rfl, h1, h2, h3⟩, hKt hw2 h4⟩
      · exact ⟨false, rfl, .inr ⟨rfl, c, h1, h2, h3⟩, hKt hw2 h4⟩
    intro this
    cases e with
    | normal => obtain ⟨v, w', r1, r2⟩ := this; exact ⟨v, w', r1, key _ _ r2⟩
    | ret => obtain ⟨v, w', r1, r2⟩ := this; exact ⟨v, w', r1, key _ _ r2⟩
    | exit id => obtain ⟨v, w', r1, r2⟩ := this; exact ⟨v, w', r1, key _ _ r2⟩
    | goto t => obtain ⟨v, w', r1, r2⟩ := this; exact ⟨v, w', r1, key _ _ r2⟩
    | panic _ => exact this.elim
    | outgrown => exact this.elim
  · exact ownFrom_belows hI h0 hb1
  · rintro e W2 ⟨⟨v, rfl⟩, xs, b, hR, ⟨rfl, hi, hl, hk⟩ | ⟨rfl, c, hi, hl, hk⟩⟩
    · exact ⟨none, _, run_endLoop hl (by simp [rc, recOf]), hend D xs _ (Nat.le_refl _) hR (hI.putObj _ hi (by simp [lp]) hl rfl) ((World.putObj_heap_other (by simp [D, lp])).trans hk)⟩
    · exact ⟨some c, _, run_endLoop hl (by simp [rc, recOf]), hout D c xs _ (Nat.le_refl _) hR ((hIx c).putObj _ hi (by simp [lp]) hl rfl) ((World.putObj_heap_other (by simp [D, lp])).trans hk)⟩

/-- The marks of the loops that were gone through. -/
def marks (Ds : List Nat) : List Deferred := Ds.map fun D => { target := .collected D, args := #[] }

/-- A function that has gone through several such loops leaves: each block is shut; what abides that stays. -/
theorem leaves_marks {F : Fence} {n : Nat} {fn : Func} {tmps : Array Value} {R : Ending → World → Prop} (v : Value) (Inv : World → Prop) : ∀ (Ds : List Nat) (W : World), Ds.Nodup → (∀ D, D ∈ Ds → W.heap[D]? = some (.deferred (some []))) →
    (∀ A D, D ∈ Ds → A.heap[D]? = some (.deferred (some [])) → Inv A → Inv (A.putObj D (.deferred none))) → Inv W →
    (∀ W', Inv W' → (results fn tmps).run P W' = .ok v W' ∧ R (.returned v) W') →
    LeavesInM F n P fn tmps R (marks Ds) .returning W
  | [], W, _, _, _, h0, h => by
    obtain ⟨h1, h2⟩ := h W h0
    exact ⟨v, h1, h2⟩
  | D :: Ds, W, hnd, hD, hs, h0, h => by
    have hnd' := List.nodup_cons.1 hnd
    refine ⟨by simp, .inl ⟨D, _, rfl, run_takeDeferred (hD D (by simp)), ?_⟩⟩
    exact leaves_marks v Inv Ds _ hnd'.2 (fun E hE => (World.putObj_heap_other (by rintro rfl; exact hnd'.1 hE)).trans (hD E (by simp [hE])))
      (fun A E hE => hs A E (by simp [hE])) (hs W D (by simp) (hD D (by simp)) h0) h

/-- All cells lie as they lay, but in the blocks of X; and whatever is no cells, from block B on. -/
structure KeptBut (X : Nat → Prop) (B : Nat) (W W' : World) : Prop where
  size : W.heap.size ≤ W'.heap.size
  cells : ∀ k o, ¬ X k → W.heap[k]? = some o → o.isCells = true → W'.heap[k]? = some o
  other : ∀ k o, B ≤ k → W.heap[k]? = some o → o.isCells = false → W'.heap[k]? = some o
theorem KeptBut.refl (X : Nat → Prop) (B : Nat) (W : World) : KeptBut X B W W := ⟨Nat.le_refl _, fun _ _ _ h _ => h, fun _ _ _ h _ => h⟩
theorem KeptBut.trans {X : Nat → Prop} {B : Nat} {a b c : World} (h : KeptBut X B a b) (k : KeptBut X B b c) : KeptBut X B a c :=
  ⟨Nat.le_trans h.size k.size, fun i o hx hi ho => k.cells i o hx (h.cells i o hx hi ho) ho, fun i o hb hi ho => k.other i o hb (h.other i o hb hi ho) ho⟩
theorem KeptBut.mono {X : Nat → Prop} {B B' : Nat} {a b : World} (h : KeptBut X B a b) (hb : B ≤ B') : KeptBut X B' a b := ⟨h.size, h.cells, fun k o hk => h.other k o (Nat.le_trans hb hk)⟩
theorem keptBut_below {X : Nat → Prop} {B : Nat} {a b : World} (h : Below a.heap.size a b) : KeptBut X B a b :=
  ⟨h.size, fun k o _ hk _ => (h.block k (Array.getElem?_eq_some_iff.1 hk).1).trans hk, fun k o _ hk _ => (h.block k (Array.getElem?_eq_some_iff.1 hk).1).trans hk⟩
theorem keptBut_putObj {X : Nat → Prop} {B : Nat} (W : World) (l : Nat) (o o' : Obj) (hl : l < B) (h : W.heap[l]? = some o) (ho : o.isCells = false) : KeptBut X B W (W.putObj l o') :=
  ⟨by simp, fun k u _ hk hu => (World.putObj_heap_other (by rintro rfl; rw [h] at hk; cases hk; rw [ho] at hu; cases hu)).trans hk, fun k u hB hk _ => (World.putObj_heap_other (by omega)).trans hk⟩
theorem cells_of_cell {W : World} {p : Addr} {v : Value} (h : W.cell? p = some v) : ∃ o, W.heap[p.block]? = some o ∧ o.isCells = true := by
  unfold World.cell? at h
  split at h
  · rename_i c t s he; exact ⟨_, he, rfl⟩
  · cases h
theorem KeptBut.cell {X : Nat → Prop} {B : Nat} {a b : World} (h : KeptBut X B a b) {p : Addr} {v : Value} (hx : ¬ X p.block) (hv : a.cell? p = some v) : b.cell? p = some v := by
  obtain ⟨o, ho, hc⟩ := cells_of_cell hv
  exact (World.cell?_of_block (w := a) ((h.cells _ o hx ho hc).trans ho.symm)).trans hv
theorem SliceIn.keptBut {X : Nat → Prop} {B : Nat} {a b : World} {v : Value} {n : Nat} {xs : List Value} (h : SliceIn (fun k => ¬ X k ∧ k < a.heap.size) a v n xs) (hk : KeptBut X B a b) : SliceIn (fun k => ¬ X k ∧ k < b.heap.size) b v n xs := by
  rcases h with h | ⟨bk, o, cap, h1, h2, h3, h4, h5⟩
  · exact .inl h
  · refine .inr ⟨bk, o, cap, h1, h2, h3, ⟨h4.1, Nat.lt_of_lt_of_le h4.2 hk.size⟩, fun j hj => ?_⟩
    have h6 := h5 j hj
    rw [List.getElem?_eq_getElem hj] at h6 ⊢
    exact hk.cell (p := ⟨bk, o + j, none⟩) h4.1 h6
theorem ownFrom_keptBut {β : Type} {X : Nat → Prop} {B B' : Nat} {W : World} (hB : W.heap.size ≤ B') : OwnFrom B' (fun (_ : β) V => KeptBut X B W V) := by
  intro s A C row hs hg hr
  refine ⟨Nat.le_trans hs.size hg.size, fun k o hx hk ho => ?_, fun k o hb hk ho => ?_⟩
  · have hlt := (Array.getElem?_eq_some_iff.1 hk).1
    exact (hg.block k (Nat.lt_of_lt_of_le hlt hs.size) (fun e => by have := (hr _ e.symm).1; omega)).trans (hs.cells k o hx hk ho)
  · have hlt := (Array.getElem?_eq_some_iff.1 hk).1
    exact (hg.block k (Nat.lt_of_lt_of_le hlt hs.size) (fun e => by have := (hr _ e.symm).1; omega)).trans (hs.other k o hb hk ho)
/-- A reading of cells abides what turns no cells. -/
theorem ownFrom_slice {X : Nat → Prop} {B : Nat} {v : Value} {n : Nat} {xs : List Value} : OwnFrom B (fun (_ : Unit) W => SliceIn (fun k => ¬ X k ∧ k < W.heap.size) W v n xs) := by
  intro s A C row hs hg hr
  refine SliceIn.keptBut (B := C.heap.size) hs ⟨hg.size, fun k o _ hk ho => ?_, fun k o hb hk _ => ?_⟩
  · refine (hg.block k (Array.getElem?_eq_some_iff.1 hk).1 (fun e => ?_)).trans hk
    obtain ⟨_, u, hu, hc⟩ := hr _ e.symm
    rw [hk] at hu; cases hu; rw [ho] at hc; cases hc
  · have := (Array.getElem?_eq_some_iff.1 hk).1; have := hg.size; omega
theorem ownFrom_deferred {β : Type} {B D : Nat} (hD : D < B) : OwnFrom B (fun (_ : β) W => W.heap[D]? = some (.deferred (some []))) := by
  intro s A C row hs hg hr
  exact (hg.block D (Array.getElem?_eq_some_iff.1 hs).1 (fun e => by have := (hr _ e.symm).1; omega)).trans hs
theorem RoundIn_inRound {F : Fence} {n : Nat} {l lp : Nat} {f : FuncId} {tmps : Array Value} {assign body : Code} {w : World} {R : Ending → World → Prop} (h : RoundIn F n P l f tmps assign body w R) : RoundIn (F.inRound lp) n P l f tmps assign body w R := h
end
theorem keptBut_setCell {X : Nat → Prop} {B : Nat} (W : World) {p : Addr} (hx : X p.block) (u : Value) : KeptBut X B W (W.setCell p u) := by
  refine ⟨by simp [World.setCell], fun k o hk ho _ => ?_, fun k o _ hk ho => ?_⟩
  · rw [Below.heap_setCell W p u k (fun e => hk (e ▸ hx))]; exact ho
  · obtain ⟨b, o', sp⟩ := p
    simp only [World.setCell, Array.getElem?_modify, hk]
    split
    · rename_i h0
      cases o <;> first | rfl | (cases ho)
    · rfl
theorem boxed_putObj {W : World} {b D : Nat} {t : TypeId} {v : Value} (h : Boxed W b t v) (o : Obj) (hne : b ≠ D) : Boxed (W.putObj D o) b t v := h.kept (grownBy_putObj' W D o) (by intro e; cases e; exact hne rfl)
end Go.Proofs.Ytnmgfobpcengkaa
