/-
  Parts joined into one text: Iter, Scan, KidsIter, DepthV, KidsAny, Depth, RefA, RefB, RefKids, RefDepth. No condition.
-/
import Derived.Test.YtbnmkdlmalobaaaProg
import Derived.Test.YtbnmkdlmalobaaaVa
import Derived.Test.YtbnmkdlmalobaaaVi

section
namespace Go.Proofs.Ytbnmkdlmalobaaa
open Go.RowKit Go.Shelf
set_option linter.unusedVariables false

section
variable {P : Program}

/-- The iterator's contract, at the world W in which it is called: whatever the loop lp and whatever its invariant J (which new blocks do not disturb), the elements come one by one, each reading as G says, at most N;
    a round keeps Kp; in the end either all have come (R xs true) or a round has said 'no more' (R xs false). -/
def Iter {α : Type} (P : Program) (gf : Nat) (lb : Array Value) (encs : α → Array Value) (G : α → World → Prop) (Kp : World → World → Prop) (N : Nat) (R : List α → Bool → Prop) (W : World) : Prop :=
  ∀ (lp : Nat) (J : List α → Bool → World → Prop), (∀ b, OwnFrom W.heap.size (fun xs V => J xs b V)) →
    (∀ pre x W1, J pre true W1 → G x W1 → pre.length < N → YieldAt Fence.wide 0 P lp (encs x) W1 fun e W' => ∃ b, e = .returned (.bool b) ∧ J (pre ++ [x]) b W' ∧ Kp W1 W') →
    J [] true W →
    CallsIn Fence.wide 0 P gf (#[.func (.yield lp) #[] #[]] ++ lb) W fun e W' => (∃ v, e = .returned v) ∧ ∃ xs b, R xs b ∧ J xs b W'

theorem ownFrom_belows {β : Type} {B : Nat} {I : β → World → Prop} (h : OwnFrom B I) {s : β} {A C : World} (hi : I s A) (hb : Below A.heap.size A C) : I s C :=
  h s A C none hi (grown_of_below hb none) (fun r e => by cases e)

/-- The loop's record, in state st, a jump pending. -/
def recOf (fn : FuncId) (a : Act) (ps : Array Tmp) (assign body : Code) (D : Nat) (st : LoopState) (pe : Option Code) : Loop :=
  { state := st, pending := pe, fn, tmps := a.tmps, params := ps, assign, body, defers := D }

/-- How the body of a round may be left. -/
def roundOut {α : Type} (B : Nat) (Kp : World → World → Prop) (I : List α → World → Prop) (Ix : Code → List α → World → Prop) (xs : List α) (W : World) : Exit → Act → World → Prop
  | .normal, _, W' => KeepsFrom B W W' ∧ Kp W W' ∧ I xs W'
  | .ret, _, W' => KeepsFrom B W W' ∧ Kp W W' ∧ Ix .ret xs W'
  | .exit id, _, W' => KeepsFrom B W W' ∧ Kp W W' ∧ Ix (.exit id) xs W'
  | .goto t, _, W' => KeepsFrom B W W' ∧ Kp W W' ∧ Ix (.goto t) xs W'
  | .panic _, _, _ => False
  | .outgrown, _, _ => False

/-- What a round leaves, by how it is left, brought to the form that the iterator sees. -/
theorem round_left {α : Type} {B lp D : Nat} {Kp : World → World → Prop} {I : List α → World → Prop} {Ix : Code → List α → World → Prop} {xs : List α} {r : Loop} {W : World} {e : Exit} {a : Act} {W3 : World}
    (hI : OwnFrom B I) (hIx : ∀ c, OwnFrom B (Ix c)) (hKt : ∀ {A C E : World}, Kp A C → Kp C E → Kp A E)
    (hKb : ∀ (W : World) (l : Nat) (o o' : Obj), B ≤ l → l < B + 2 → W.heap[l]? = some o → o.isCells = false → o.isWalk = false → Kp W (W.putObj l o'))
    (hB : B ≤ lp) (hB2 : lp < B + 2) (hD : B ≤ D) (hne : D ≠ lp) (hl : W.heap[lp]? = some (.loop r)) (hk : W.heap[D]? = some (.deferred (some [])))
    (h : roundOut B Kp I Ix xs W e a W3) :
    roundPost P lp (fun e W' => ∃ b, e = .returned (.bool b) ∧
      ((b = true ∧ I xs W' ∧ W'.heap[lp]? = some (.loop { r with state := .ready, pending := none }) ∧ W'.heap[D]? = some (.deferred (some [])) ∧ Kp W W') ∨
       (b = false ∧ ∃ c, Ix c xs W' ∧ W'.heap[lp]? = some (.loop { r with state := .done, pending := some c }) ∧ W'.heap[D]? = some (.deferred (some [])) ∧ Kp W W'))) e a W3 := by
  have go : ∀ j, KeepsFrom B W W3 → (Instr.endRound lp j).run P W3 = .ok (.bool j.isNone) (W3.putObj lp (.loop { r with state := if j.isNone then .ready else .done, pending := j })) ∧
      (W3.putObj lp (.loop { r with state := if j.isNone then .ready else .done, pending := j })).heap[lp]? = some (.loop { r with state := if j.isNone then .ready else .done, pending := j }) ∧
      (W3.putObj lp (.loop { r with state := if j.isNone then .ready else .done, pending := j })).heap[D]? = some (.deferred (some [])) ∧ W3.heap[lp]? = some (.loop r) := fun j hkf => by
    have h3 := hkf.same lp _ hB hl rfl
    exact ⟨run_endRound j h3, World.putObj_heap_same (Array.getElem?_eq_some_iff.1 h3).1, (World.putObj_heap_other hne).trans (hkf.same D _ hD hk rfl), h3⟩
  cases e with
  | normal =>
    obtain ⟨hkf, hkp, hi⟩ := h
    obtain ⟨r1, r2, r3, r4⟩ := go none hkf
    exact ⟨_, _, r1, true, rfl, .inl ⟨rfl, hI.putObj _ hi hB r4 rfl, r2, r3, hKt hkp (hKb _ _ _ _ hB hB2 r4 rfl rfl)⟩⟩
  | ret =>
    obtain ⟨hkf, hkp, hi⟩ := h
    obtain ⟨r1, r2, r3, r4⟩ := go (some .ret) hkf
    exact ⟨_, _, r1, false, rfl, .inr ⟨rfl, _, (hIx _).putObj _ hi hB r4 rfl, r2, r3, hKt hkp (hKb _ _ _ _ hB hB2 r4 rfl rfl)⟩⟩
  | exit id =>
    obtain ⟨hkf, hkp, hi⟩ := h
    obtain ⟨r1, r2, r3, r4⟩ := go (some (.exit id)) hkf
    exact ⟨_, _, r1, false, rfl, .inr ⟨rfl, _, (hIx _).putObj _ hi hB r4 rfl, r2, r3, hKt hkp (hKb _ _ _ _ hB hB2 r4 rfl rfl)⟩⟩
  | goto t =>
    obtain ⟨hkf, hkp, hi⟩ := h
    obtain ⟨r1, r2, r3, r4⟩ := go (some (.goto t)) hkf
    exact ⟨_, _, r1, false, rfl, .inr ⟨rfl, _, (hIx _).putObj _ hi hB r4 rfl, r2, r3, hKt hkp (hKb _ _ _ _ hB hB2 r4 rfl rfl)⟩⟩
  | panic _ => exact h.elim
  | outgrown => exact h.elim

/-- 'for .. := range g { body }', g's value having the contract 'Iter': an outermost loop, its variables unboxed. -/
theorem range_rule {α : Type} {g : Operand} {ps : Array Tmp} {assign body : Code} {Q : Exit → Act → World → Prop} {a : Act} {w : World} {n : Nat}
    {gf : Nat} {lb : Array Value} (hg : a.eval g = .func (.func gf) #[] lb) (eg : ∀ args w, (callFunc gf args).run P w = .ok (.enter gf args) w)
    {encs : α → Array Value} {G : α → World → Prop} {Kp : World → World → Prop} {N : Nat} {R : List α → Bool → Prop} (hps : ∀ x, (encs x).size = ps.size)
    (hit : ∀ W', Below w.heap.size w W' → W'.heap.size = w.heap.size + 2 → Iter P gf lb encs G Kp N R W')
    (hKt : ∀ {A C E : World}, Kp A C → Kp C E → Kp A E)
    (hKb : ∀ (W : World) (l : Nat) (o o' : Obj), w.heap.size ≤ l → l < w.heap.size + 2 → W.heap[l]? = some o → o.isCells = false → o.isWalk = false → Kp W (W.putObj l o'))
    (I : List α → World → Prop) (Ix : Code → List α → World → Prop) (hI : OwnFrom w.heap.size I) (hIx : ∀ c, OwnFrom w.heap.size (Ix c)) (hG : ∀ x, OwnFrom w.heap.size (fun (_ : Unit) W => G x W)) (h0 : I [] w)
    (a₁ : α → Act)
    (hassign : ∀ (lp : Nat) (x : α) (W : World) (K : Act → World → Prop), K (a₁ x) W →
      assign.wpIn (Fence.wide.inRound lp) 0 P (Exit.then K (fun _ _ _ => False)) { tmps := (ps.zip (encs x)).foldl (fun t (p, v) => t.setIfInBounds p v) a.tmps, defers := [] } W)
    (hbody : ∀ (lp : Nat) (pre : List α) (x : α) (W : World), I pre W → G x W → pre.length < N → body.wpIn (Fence.wide.inRound lp) 0 P (roundOut w.heap.size Kp I Ix (pre ++ [x]) W) (a₁ x) W)
    (hend : ∀ (D : Nat) (xs : List α) (W : World), w.heap.size ≤ D → R xs true → I xs W → W.heap[D]? = some (.deferred (some [])) → Q .normal { a with defers := { target := .collected D, args := #[] } :: a.defers } W)
    (hout : ∀ (D : Nat) (c : Code) (xs : List α) (W : World), w.heap.size ≤ D → R xs false → Ix c xs W → W.heap[D]? = some (.deferred (some [])) → c.wpIn Fence.wide n P Q { a with defers := { target := .collected D, args := #[] } :: a.defers } W) :
    (Code.rangeFunc g ps assign body).wpIn Fence.wide n P Q a w := by
  refine wpIn_rangeFunc fun fn hfn => ?_
  let D := w.heap.size
  let lp := w.heap.size + 1
  let rc := recOf fn a ps assign body D
  let W1 := (w.alloc (.deferred (some []))).alloc (.loop (rc .ready none))
  have hb1 : Below w.heap.size w W1 := ((Below.refl _ w).alloc (Nat.le_refl _) _).alloc (by simp) _
  have hL : W1.heap[lp]? = some (.loop (rc .ready none)) := by
    have := World.alloc_heap_new (w.alloc (.deferred (some []))) (.loop (rc .ready none)); rwa [World.size_alloc] at this
  have hK : W1.heap[D]? = some (.deferred (some [])) := (Below.heap_alloc _ _ _ (by simp [D])).trans (World.alloc_heap_new w _)
  refine ⟨lp, [{ target := .collected D, args := #[] }], W1, { target := .fn (.func gf) lb, args := #[.func (.yield lp) #[] #[]] }, W1, gf, #[.func (.yield lp) #[] #[]] ++ lb, W1,
    run_enterLoop_outer _ _ _ _ _, by simp only [resolve, hg]; simp [go_sem], fun _ _ => trivial, by simp [invoke, go_sem, eg], (fun h => by cases h), ?_⟩
  refine CallsIn.more (n := 0) ?_ (Nat.zero_le _)
  have hsz : W1.heap.size = w.heap.size + 2 := by simp [W1]
  refine (hit W1 hb1 hsz lp (fun xs b W => (b = true ∧ I xs W ∧ W.heap[lp]? = some (.loop (rc .ready none)) ∧ W.heap[D]? = some (.deferred (some []))) ∨
    (b = false ∧ ∃ c, Ix c xs W ∧ W.heap[lp]? = some (.loop (rc .done (some c))) ∧ W.heap[D]? = some (.deferred (some [])))) ?_ ?_ (.inl ⟨rfl, ?_, hL, hK⟩)).mono ?_
  · intro b xs A B row hs hgr hr
    have hkeep : ∀ {k : Nat} {o : Obj}, k < w.heap.size + 2 → A.heap[k]? = some o → B.heap[k]? = some o := fun hk2 hk =>
      (hgr.block _ (Array.getElem?_eq_some_iff.1 hk).1 (fun e => by have := (hr _ e.symm).1; omega)).trans hk
    have hr' : ∀ r, row = some r → w.heap.size ≤ r ∧ ∃ o : Obj, A.heap[r]? = some o ∧ o.isCells = false := fun r e => by obtain ⟨h1, h2⟩ := hr r e; exact ⟨by omega, h2⟩
    rcases hs with ⟨rfl, hi, hl, hk⟩ | ⟨rfl, c, hi, hl, hk⟩
    · exact .inl ⟨rfl, hI xs A B row hi hgr hr', hkeep (by simp [lp]) hl, hkeep (by simp [D]) hk⟩
    · exact .inr ⟨rfl, c, hIx c xs A B row hi hgr hr', hkeep (by simp [lp]) hl, hkeep (by simp [D]) hk⟩
  · rintro pre x W (⟨_, hi, hl, hk⟩ | ⟨h, _⟩) hgx hlen
    case inr => cases h
    refine ⟨fn, _, assign, body, run_yield hl (hps x), roundIn_of_wpIn hfn (hassign lp x W _ ⟨_, run_beginRound hl rfl, ?_⟩)⟩
    have hl2 : (W.putObj lp (.loop { rc .ready none with state := .busy })).heap[lp]? = some (.loop { rc .ready none with state := .busy }) := World.putObj_heap_same (Array.getElem?_eq_some_iff.1 hl).1
    have hk2 : (W.putObj lp (.loop { rc .ready none with state := .busy })).heap[D]? = some (.deferred (some [])) := (World.putObj_heap_other (by simp [D, lp])).trans hk
    have hw2 : Kp W (W.putObj lp (.loop { rc .ready none with state := .busy })) := hKb _ _ _ _ (by simp [lp]) (by simp [lp]) hl rfl rfl
    refine wpIn_mono (hbody lp pre x _ (hI.putObj _ hi (by simp [lp]) hl rfl) ((hG x).putObj (s := ()) _ hgx (by simp [lp]) hl rfl) hlen) fun e a3 W3 hp => ?_
    have := round_left (P := P) (lp := lp) (D := D) (Kp := Kp) (I := I) (Ix := Ix) (xs := pre ++ [x]) hI hIx (fun {A C E} h k => hKt h k) hKb (by simp [lp]) (by simp [lp]) (Nat.le_refl _) (by simp [D, lp]) hl2 hk2 hp
    revert this
    have key : ∀ (e : Ending) (W' : World), (∃ b, e = .returned (.bool b) ∧
        ((b = true ∧ I (pre ++ [x]) W' ∧ W'.heap[lp]? = some (.loop { ({ rc .ready none with state := .busy } : Loop) with state := .ready, pending := none }) ∧ W'.heap[D]? = some (.deferred (some [])) ∧ Kp (W.putObj lp (.loop { rc .ready none with state := .busy })) W') ∨
         (b = false ∧ ∃ c, Ix c (pre ++ [x]) W' ∧ W'.heap[lp]? = some (.loop { ({ rc .ready none with state := .busy } : Loop) with state := .done, pending := some c }) ∧ W'.heap[D]? = some (.deferred (some [])) ∧ Kp (W.putObj lp (.loop { rc .ready none with state := .busy })) W'))) →
        ∃ b, e = .returned (.bool b) ∧ ((b = true ∧ I (pre ++ [x]) W' ∧ W'.heap[lp]? = some (.loop (rc .ready none)) ∧ W'.heap[D]? = some (.deferred (some []))) ∨
          (b = false ∧ ∃ c, Ix c (pre ++ [x]) W' ∧ W'.heap[lp]? = some (.loop (rc .done (some c))) ∧ W'.heap[D]? = some (.deferred (some [])))) ∧ Kp W W' := by
      rintro e W' ⟨b, rfl, ⟨rfl, h1, h2, h3, h4⟩ | ⟨rfl, c, h1, h2, h3, h4⟩⟩
      · exact ⟨true, rfl, .inl ⟨rfl, h1, h2, h3⟩, hKt hw2 h4⟩
      · exact ⟨false, rfl, .inr ⟨rfl, c, h1, h2, h3⟩, hKt hw2 h4⟩
    intro this
    cases e with
    | normal => obtain ⟨v, w', r1, r2⟩ := this; exact ⟨v, w', r1, key _ _ r2⟩
    | ret => obtain ⟨v, w', r1, r2⟩ := this; exact ⟨v, w', r1, key _ _ r2⟩
    | exit id => obtain ⟨v, w', r1, r2⟩ := this; exact ⟨v, w', r1, key _ _ r2⟩
    | goto t => obtain ⟨v, w', r1, r2⟩ := this; exact ⟨v, w', r1, key _ _ r2⟩
    | panic _ => exact this.elim
    | outgrown => exact this.elim
  · exact ownFrom_belows hI h0 hb1
  · rintro e W2 ⟨⟨v, rfl⟩, xs, b, hR, ⟨rfl, hi, hl, hk⟩ | ⟨rfl, c, hi, hl, hk⟩⟩
    · exact ⟨none, _, run_endLoop hl (by simp [rc, recOf]), hend D xs _ (Nat.le_refl _) hR (hI.putObj _ hi (by simp [lp]) hl rfl) ((World.putObj_heap_other (by simp [D, lp])).trans hk)⟩
    · exact ⟨some c, _, run_endLoop hl (by simp [rc, recOf]), hout D c xs _ (Nat.le_refl _) hR ((hIx c).putObj _ hi (by simp [lp]) hl rfl) ((World.putObj_heap_other (by simp [D, lp])).trans hk)⟩

/-- The marks of the loops that were gone through. -/
def marks (Ds : List Nat) : List Deferred := Ds.map fun D => { target := .collected D, args := #[] }

/-- A function that has gone through several such loops leaves: each block is shut; what abides that stays. -/
theorem leaves_marks {F : Fence} {n : Nat} {fn : Func} {tmps : Array Value} {R : Ending → World → Prop} (v : Value) (Inv : World → Prop) : ∀ (Ds : List Nat) (W : World), Ds.Nodup → (∀ D, D ∈ Ds → W.heap[D]? = some (.deferred (some []))) →
    (∀ A D, D ∈ Ds → A.heap[D]? = some (.deferred (some [])) → Inv A → Inv (A.putObj D (.deferred none))) → Inv W →
    (∀ W', Inv W' → (results fn tmps).run P W' = .ok v W' ∧ R (.returned v) W') →
    LeavesInM F n P fn tmps R (marks Ds) .returning W
  | [], W, _, _, _, h0, h => by
    obtain ⟨h1, h2⟩ := h W h0
    exact ⟨v, h1, h2⟩
  | D :: Ds, W, hnd, hD, hs, h0, h => by
    have hnd' := List.nodup_cons.1 hnd
    refine ⟨by simp, .inl ⟨D, _, rfl, run_takeDeferred (hD D (by simp)), ?_⟩⟩
    exact leaves_marks v Inv Ds _ hnd'.2 (fun E hE => (World.putObj_heap_other (by rintro rfl; exact hnd'.1 hE)).trans (hD E (by simp [hE])))
      (fun A E hE => hs A E (by simp [hE])) (hs W D (by simp) (hD D (by simp)) h0) h

/-- All cells lie as they lay, but in the blocks of X; and whatever is no cells, from block B on. -/
structure KeptBut (X : Nat → Prop) (B : Nat) (W W' : World) : Prop where
  size : W.heap.size ≤ W'.heap.size
  cells : ∀ k o, ¬ X k → W.heap[k]? = some o → o.isCells = true → W'.heap[k]? = some o
  other : ∀ k o, B ≤ k → W.heap[k]? = some o → o.isCells = false → W'.heap[k]? = some o
theorem KeptBut.refl (X : Nat → Prop) (B : Nat) (W : World) : KeptBut X B W W := ⟨Nat.le_refl _, fun _ _ _ h _ => h, fun _ _ _ h _ => h⟩
theorem KeptBut.trans {X : Nat → Prop} {B : Nat} {a b c : World} (h : KeptBut X B a b) (k : KeptBut X B b c) : KeptBut X B a c :=
  ⟨Nat.le_trans h.size k.size, fun i o hx hi ho => k.cells i o hx (h.cells i o hx hi ho) ho, fun i o hb hi ho => k.other i o hb (h.other i o hb hi ho) ho⟩
theorem KeptBut.mono {X : Nat → Prop} {B B' : Nat} {a b : World} (h : KeptBut X B a b) (hb : B ≤ B') : KeptBut X B' a b := ⟨h.size, h.cells, fun k o hk => h.other k o (Nat.le_trans hb hk)⟩
theorem keptBut_below {X : Nat → Prop} {B : Nat} {a b : World} (h : Below a.heap.size a b) : KeptBut X B a b :=
  ⟨h.size, fun k o _ hk _ => (h.block k (Array.getElem?_eq_some_iff.1 hk).1).trans hk, fun k o _ hk _ => (h.block k (Array.getElem?_eq_some_iff.1 hk).1).trans hk⟩
theorem keptBut_putObj {X : Nat → Prop} {B : Nat} (W : World) (l : Nat) (o o' : Obj) (hl : l < B) (h : W.heap[l]? = some o) (ho : o.isCells = false) : KeptBut X B W (W.putObj l o') :=
  ⟨by simp, fun k u _ hk hu => (World.putObj_heap_other (by rintro rfl; rw [h] at hk; cases hk; rw [ho] at hu; cases hu)).trans hk, fun k u hB hk _ => (World.putObj_heap_other (by omega)).trans hk⟩
theorem cells_of_cell {W : World} {p : Addr} {v : Value} (h : W.cell? p = some v) : ∃ o, W.heap[p.block]? = some o ∧ o.isCells = true := by
  unfold World.cell? at h
  split at h
  · rename_i c t s he; exact ⟨_, he, rfl⟩
  · cases h
theorem KeptBut.cell {X : Nat → Prop} {B : Nat} {a b : World} (h : KeptBut X B a b) {p : Addr} {v : Value} (hx : ¬ X p.block) (hv : a.cell? p = some v) : b.cell? p = some v := by
  obtain ⟨o, ho, hc⟩ := cells_of_cell hv
  exact (World.cell?_of_block (w := a) ((h.cells _ o hx ho hc).trans ho.symm)).trans hv
theorem SliceIn.keptBut {X : Nat → Prop} {B : Nat} {a b : World} {v : Value} {n : Nat} {xs : List Value} (h : SliceIn (fun k => ¬ X k ∧ k < a.heap.size) a v n xs) (hk : KeptBut X B a b) : SliceIn (fun k => ¬ X k ∧ k < b.heap.size) b v n xs := by
  rcases h with h | ⟨bk, o, cap, h1, h2, h3, h4, h5⟩
  · exact .inl h
  · refine .inr ⟨bk, o, cap, h1, h2, h3, ⟨h4.1, Nat.lt_of_lt_of_le h4.2 hk.size⟩, fun j hj => ?_⟩
    have h6 := h5 j hj
    rw [List.getElem?_eq_getElem hj] at h6 ⊢
    exact hk.cell (p := ⟨bk, o + j, none⟩) h4.1 h6
theorem ownFrom_keptBut {β : Type} {X : Nat → Prop} {B B' : Nat} {W : World} (hB : W.heap.size ≤ B') : OwnFrom B' (fun (_ : β) V => KeptBut X B W V) := by
  intro s A C row hs hg hr
  refine ⟨Nat.le_trans hs.size hg.size, fun k o hx hk ho => ?_, fun k o hb hk ho => ?_⟩
  · have hlt := (Array.getElem?_eq_some_iff.1 hk).1
    exact (hg.block k (Nat.lt_of_lt_of_le hlt hs.size) (fun e => by have := (hr _ e.symm).1; omega)).trans (hs.cells k o hx hk ho)
  · have hlt := (Array.getElem?_eq_some_iff.1 hk).1
    exact (hg.block k (Nat.lt_of_lt_of_le hlt hs.size) (fun e => by have := (hr _ e.symm).1; omega)).trans (hs.other k o hb hk ho)
/-- A reading of cells abides what turns no cells. -/
theorem ownFrom_slice {X : Nat → Prop} {B : Nat} {v : Value} {n : Nat} {xs : List Value} : OwnFrom B (fun (_ : Unit) W => SliceIn (fun k => ¬ X k ∧ k < W.heap.size) W v n xs) := by
  intro s A C row hs hg hr
  refine SliceIn.keptBut (B := C.heap.size) hs ⟨hg.size, fun k o _ hk ho => ?_, fun k o hb hk _ => ?_⟩
  · refine (hg.block k (Array.getElem?_eq_some_iff.1 hk).1 (fun e => ?_)).trans hk
    obtain ⟨_, u, hu, hc⟩ := hr _ e.symm
    rw [hk] at hu; cases hu; rw [ho] at hc; cases hc
  · have := (Array.getElem?_eq_some_iff.1 hk).1; have := hg.size; omega
theorem ownFrom_deferred {β : Type} {B D : Nat} (hD : D < B) : OwnFrom B (fun (_ : β) W => W.heap[D]? = some (.deferred (some []))) := by
  intro s A C row hs hg hr
  exact (hg.block D (Array.getElem?_eq_some_iff.1 hs).1 (fun e => by have := (hr _ e.symm).1; omega)).trans hs
theorem RoundIn_inRound {F : Fence} {n : Nat} {l lp : Nat} {f : FuncId} {tmps : Array Value} {assign body : Code} {w : World} {R : Ending → World → Prop} (h : RoundIn F n P l f tmps assign body w R) : RoundIn (F.inRound lp) n P l f tmps assign body w R := h
end
theorem keptBut_setCell {X : Nat → Prop} {B : Nat} (W : World) {p : Addr} (hx : X p.block) (u : Value) : KeptBut X B W (W.setCell p u) := by
  refine ⟨by simp [World.setCell], fun k o hk ho _ => ?_, fun k o _ hk ho => ?_⟩
  · rw [Below.heap_setCell W p u k (fun e => hk (e ▸ hx))]; exact ho
  · obtain ⟨b, o', sp⟩ := p
    simp only [World.setCell, Array.getElem?_modify, hk]
    split
    · rename_i h0
      cases o <;> first | rfl | (cases ho)
    · rfl
theorem boxed_putObj {W : World} {b D : Nat} {t : TypeId} {v : Value} (h : Boxed W b t v) (o : Obj) (hne : b ≠ D) : Boxed (W.putObj D o) b t v := h.kept (grownBy_putObj' W D o) (by intro e; cases e; exact hne rfl)
end Go.Proofs.Ytbnmkdlmalobaaa
end

section
namespace Go.Proofs.Ytbnmkdlmalobaaa

theorem scan_add (a b : Nat) (l : List Nd) : scan (a + b) l = (scan a l).bind fun m => (scan b (l.drop m)).map (m + ·) := by
  induction l generalizing a with
  | nil =>
    cases a with
    | zero => simp [scan_zero]
    | succ a =>
      rw [scan_nil _ (by omega), scan_nil _ (by omega)]
      rfl
  | cons x r ih =>
    cases a with
    | zero => simp [scan_zero]
    | succ a =>
      rw [show a + 1 + b = (a + b) + 1 from by omega, scan_cons, scan_cons]
      by_cases hx : ar x < 0
      · rw [if_pos hx, if_pos hx]; rfl
      · rw [if_neg hx, if_neg hx, show a + b + (ar x).toNat = (a + (ar x).toNat) + b from by omega, ih]
        cases scan (a + (ar x).toNat) r with
        | none => rfl
        | some m =>
          simp only [Option.bind_some, Option.map_some, List.drop_succ_cons]
          cases scan b (r.drop m) with
          | none => rfl
          | some c => simp only [Option.map_some, Option.some.injEq]; omega

theorem scan_le (k : Nat) (l : List Nd) (m : Nat) (h : scan k l = some m) : m ≤ l.length := by
  induction l generalizing k m with
  | nil =>
    cases k with
    | zero => rw [scan_zero] at h; cases h; simp
    | succ k => rw [scan_nil _ (by omega)] at h; cases h
  | cons x r ih =>
    cases k with
    | zero => rw [scan_zero] at h; cases h; simp
    | succ k =>
      rw [scan_cons] at h
      by_cases hx : ar x < 0
      · rw [if_pos hx] at h; cases h
      · rw [if_neg hx] at h
        cases hs : scan (k + (ar x).toNat) r with
        | none => rw [hs] at h; cases h
        | some c =>
          rw [hs] at h
          have := ih _ _ hs
          simp only [Option.map_some, Option.some.injEq] at h
          simp only [List.length_cons]
          omega
/-- At least as many nodes are read as are wanted. -/
theorem scan_ge (k : Nat) (l : List Nd) (m : Nat) (h : scan k l = some m) : k ≤ m := by
  induction l generalizing k m with
  | nil =>
    cases k with
    | zero => omega
    | succ k => rw [scan_nil _ (by omega)] at h; cases h
  | cons x r ih =>
    cases k with
    | zero => omega
    | succ k =>
      rw [scan_cons] at h
      by_cases hx : ar x < 0
      · rw [if_pos hx] at h; cases h
      · rw [if_neg hx] at h
        cases hs : scan (k + (ar x).toNat) r with
        | none => rw [hs] at h; cases h
        | some c =>
          rw [hs] at h
          have := ih _ _ hs
          simp only [Option.map_some, Option.some.injEq] at h
          omega
/-- What is read hangs on what is read alone. -/
theorem scan_take (k : Nat) (l : List Nd) (m : Nat) (h : scan k l = some m) (r' : List Nd) : scan k (l.take m ++ r') = some m := by
  induction l generalizing k m with
  | nil =>
    cases k with
    | zero => rw [scan_zero] at h ⊢; exact h
    | succ k => rw [scan_nil _ (by omega)] at h; cases h
  | cons x r ih =>
    cases k with
    | zero => rw [scan_zero] at h ⊢; exact h
    | succ k =>
      rw [scan_cons] at h
      by_cases hx : ar x < 0
      · rw [if_pos hx] at h; cases h
      · rw [if_neg hx] at h
        cases hs : scan (k + (ar x).toNat) r with
        | none => rw [hs] at h; cases h
        | some c =>
          rw [hs] at h
          simp only [Option.map_some, Option.some.injEq] at h
          subst h
          rw [List.take_succ_cons, List.cons_append, scan_cons, if_neg hx, ih _ _ hs]
          rfl

theorem endv_some (l : List Nd) (k m : Nat) (h : scan 1 (l.drop k) = some m) : endv l k = ((k + m : Nat) : Int) := by
  rw [endv_nat]; show fin k (scan 1 (l.drop k)) = _; rw [h]; simp [fin]
theorem endv_get (l : List Nd) (k : Nat) (h : 0 ≤ endv l k) : ∃ m, scan 1 (l.drop k) = some m ∧ endv l k = ((k + m : Nat) : Int) := by
  cases hs : scan 1 (l.drop k) with
  | none => rw [endv_nat] at h; change 0 ≤ fin k (scan 1 (l.drop k)) at h; rw [hs] at h; simp [fin] at h
  | some m => exact ⟨m, rfl, endv_some l k m hs⟩
theorem endv_le (l : List Nd) (i : Int) : endv l i ≤ l.length := by
  rcases endv_bound l i with h | h
  · omega
  · obtain ⟨h0, hl⟩ := endv_in l i h
    obtain ⟨k, rfl⟩ := Int.eq_ofNat_of_zero_le h0
    obtain ⟨m, hs, he⟩ := endv_get l k h
    have := scan_le _ _ _ hs
    simp only [List.length_drop] at this
    have hk : k < l.length := by simpa using hl
    omega
theorem endv_gt (l : List Nd) (i : Int) (h : 0 ≤ endv l i) : i < endv l i := by
  obtain ⟨h0, hl⟩ := endv_in l i h
  obtain ⟨k, rfl⟩ := Int.eq_ofNat_of_zero_le h0
  obtain ⟨m, hs, he⟩ := endv_get l k h
  have := scan_ge _ _ _ hs
  omega

/-- A node that may be: what stands behind it is read as many times as it has kids. -/
theorem scan_node (l : List Nd) (k : Nat) (h : 0 ≤ endv l k) : ∃ c, scan (arAt l k).toNat (l.drop (k + 1)) = some c ∧ endv l k = ((k + 1 + c : Nat) : Int) := by
  obtain ⟨m, hs, he⟩ := endv_get l k h
  have hk : k < l.length := by have := (endv_in l k h).2; simpa using this
  have har := endv_ar l k h
  rw [arAt_in l k hk] at har ⊢
  rw [List.drop_eq_getElem_cons hk, show (1 : Nat) = 0 + 1 from rfl, scan_cons, if_neg (by omega), Nat.zero_add] at hs
  cases hc : scan (ar l[k]).toNat (l.drop (k + 1)) with
  | none => rw [hc] at hs; cases hs
  | some c =>
    rw [hc] at hs
    simp only [Option.map_some, Option.some.injEq] at hs
    exact ⟨c, rfl, by rw [he]; omega⟩

/-- The j-th kid stands behind what is read for j nodes. -/
theorem kth_at (l : List Nd) (k : Nat) (h : 0 ≤ endv l k) (j : Nat) (hj : j ≤ (arAt l k).toNat) : ∃ m, scan j (l.drop (k + 1)) = some m ∧ kth l (k + 1) j = ((k + 1 + m : Nat) : Int) := by
  obtain ⟨c, hc, _⟩ := scan_node l k h
  induction j with
  | zero => exact ⟨0, scan_zero _, rfl⟩
  | succ j ih =>
    obtain ⟨m, hm, hkm⟩ := ih (by omega)
    have hle := scan_add (j + 1) ((arAt l k).toNat - (j + 1)) (l.drop (k + 1))
    rw [show j + 1 + ((arAt l k).toNat - (j + 1)) = (arAt l k).toNat from by omega, hc] at hle
    cases hs : scan (j + 1) (l.drop (k + 1)) with
    | none => rw [hs] at hle; cases hle
    | some m' =>
      refine ⟨m', rfl, ?_⟩
      rw [scan_add, hm] at hs
      simp only [Option.bind_some, List.drop_drop] at hs
      cases h1 : scan 1 (l.drop (k + 1 + m)) with
      | none => rw [h1] at hs; cases hs
      | some d =>
        rw [h1] at hs
        simp only [Option.map_some, Option.some.injEq] at hs
        show endv l (kth l (k + 1) j) = _
        rw [hkm, endv_some l _ d h1]
        omega
/-- The last kid's end is the node's. -/
theorem kth_last (l : List Nd) (k : Nat) (h : 0 ≤ endv l k) : kth l (k + 1) (arAt l k).toNat = endv l k := by
  obtain ⟨c, hc, he⟩ := scan_node l k h
  obtain ⟨m, hm, hk⟩ := kth_at l k h _ (Nat.le_refl _)
  rw [hc] at hm
  cases hm
  rw [hk, he]
/-- A kid that is one has an end. -/
theorem kth_end (l : List Nd) (k : Nat) (h : 0 ≤ endv l k) (j : Nat) (hj : j < (arAt l k).toNat) : kth l (k + 1) j < kth l (k + 1) (j + 1) ∧ endv l (kth l (k + 1) j) = kth l (k + 1) (j + 1) := by
  refine ⟨?_, rfl⟩
  obtain ⟨m, _, hk⟩ := kth_at l k h (j + 1) hj
  exact endv_gt l _ (show 0 ≤ endv l (kth l (k + 1) j) by have : kth l (k + 1) (j + 1) = endv l (kth l (k + 1) j) := rfl; omega)
theorem kth_mono (l : List Nd) (k : Nat) (h : 0 ≤ endv l k) (j d : Nat) (hj : j + d ≤ (arAt l k).toNat) : kth l (k + 1) j + d ≤ kth l (k + 1) (j + d) := by
  induction d with
  | zero => simp
  | succ d ih =>
    have h1 := ih (by omega)
    have h2 := (kth_end l k h (j + d) (by omega)).1
    rw [show j + (d + 1) = j + d + 1 from by omega]
    omega
theorem kth_range (l : List Nd) (k : Nat) (h : 0 ≤ endv l k) (j : Nat) (hj : j < (arAt l k).toNat) : (k : Int) < kth l (k + 1) j ∧ kth l (k + 1) j < endv l k ∧ 0 ≤ endv l (kth l (k + 1) j) ∧ endv l (kth l (k + 1) j) ≤ endv l k := by
  have h0 := kth_mono l k h 0 j (by omega)
  have h1 := kth_end l k h j hj
  have h2 := kth_mono l k h (j + 1) ((arAt l k).toNat - (j + 1)) (by omega)
  rw [show j + 1 + ((arAt l k).toNat - (j + 1)) = (arAt l k).toNat from by omega, kth_last l k h] at h2
  have h3 : kth l (k + 1) 0 = k + 1 := rfl
  rw [Nat.zero_add] at h0
  omega
theorem mem_kidsv (l : List Nd) (k : Nat) (x : Int) (hx : x ∈ kidsv l k) : 0 ≤ endv l k ∧ ∃ j, j < (arAt l k).toNat ∧ x = kth l (k + 1) j := by
  by_cases h : endv l k < 0
  · rw [kidsv_no l k h] at hx; cases hx
  · have h' : 0 ≤ endv l k := by omega
    rw [kidsv_eq l k h'] at hx
    simp only [upto, List.mem_map, List.mem_range] at hx
    obtain ⟨j, hj, rfl⟩ := hx
    exact ⟨h', j, hj, rfl⟩
theorem kidsv_fact (l : List Nd) (i : Int) (c : Nat) (h : c < (kidsv l i).length) : i < (kidsv l i)[c] ∧ 0 ≤ i ∧ (kidsv l i)[c] ≤ l.length := by
  have hm := List.getElem_mem h
  have hp : 0 ≤ endv l i := by
    rcases endv_bound l i with h1 | h1
    · rw [kidsv_no l i (by omega)] at h; simp at h
    · exact h1
  obtain ⟨h0, _⟩ := endv_in l i hp
  obtain ⟨k, rfl⟩ := Int.eq_ofNat_of_zero_le h0
  obtain ⟨_, j, hj, hx⟩ := mem_kidsv l k _ hm
  have := kth_range l k hp j hj
  have := endv_le l k
  omega

theorem kidsv_len (l : List Nd) (i : Int) : (kidsv l i).length ≤ 200 := by
  unfold kidsv
  split
  · simp
  · have := arAt_bound l i
    rw [List.length_map, List.length_range]
    omega
end Go.Proofs.Ytbnmkdlmalobaaa
end

section
namespace Go.Proofs.Ytbnmkdlmalobaaa
set_option maxRecDepth 100000
open Go.RowKit Go.Shelf
set_option linter.unusedVariables false
attribute [local go_sem] Oper.semAt_some

def wholeOr (ys xs : List Int) (b : Bool) : Prop := if b = true then xs = ys else xs <+: ys

theorem upto_prefix {α : Type} (f : Nat → α) (m d : Nat) : upto f m <+: upto f (m + d) := by
  rw [upto, upto, List.range_add, List.map_append]
  exact List.prefix_append _ _

set_option maxRecDepth 100000 in
set_option maxHeartbeats 4000000 in
theorem kids_iter (l : List Nd) (v : Value) (hl : l.length ≤ 4000000) (X : Nat → Prop) (i Bl Ba : Nat) (W : World) (hE : 0 ≤ endv l i) (hX : ∀ k, X k → k < W.heap.size) (hxl : ¬ X Bl) (hxa : ¬ X Ba)
    (hbl : W.cell? ⟨Bl, 0, none⟩ = some v) (hba : W.cell? ⟨Ba, 0, none⟩ = some (.int .i64 i)) (hv : NodesIn (fun k => ¬ X k ∧ k < W.heap.size) W v l) :
    Iter Try.prog 73 #[.pointer (some ⟨Ba, 0, none⟩), .pointer (some ⟨Bl, 0, none⟩)] (fun x : Int => #[Value.int .i64 x]) (fun x _ => x ∈ kidsv l i) (KeptBut X W.heap.size) (kidsv l i).length (wholeOr (kidsv l i)) W := by
  intro lp J hJ hY h0
  refine callsIn_of_wp Try.func73 rfl trivial ?_ rfl
  simp only [Try.ntmps73, List.size_toArray, List.length_cons, List.length_nil, Nat.reduceAdd, Nat.reduceSub, Array.replicate_succ, Array.replicate_zero, List.push_toArray, List.append_toArray, List.nil_append, List.cons_append]
  have hi : i < l.length := by simpa using (endv_in l i hE).2
  have har := endv_ar l i hE
  have HK := Lib.hid (kidsv_eq l i hE)
  rcases hv.open with ⟨rfl, _⟩ | ⟨b, o, cap, rfl, hpos, hcap, hbs, hcell⟩
  · simp at hi
  · obtain ⟨hc0, hc1⟩ := hcell i hi
    have hab := ar_bound l[i]
    have HA := Lib.hid (arAt_in l i hi)
    rw [HA.out] at har
    gi_wp2_with (gi_at_call 53; refine (callsIn_wide.2 (Arity_any l[i] _)).mono ?_; rintro e w1 ⟨rfl, hb⟩)
    gi_loopw [4, 12] (fun k c wr => ∃ m : Nat, (m : Int) ≤ ar l[i] ∧ c = .int .i64 m ∧ k = .int .i64 (kth l (i + 1) m) ∧ J (upto (kth l (i + 1)) m) true wr ∧ KeptBut X W.heap.size W wr) (fun _ c _ => (ar l[i] - intOf c).toNat)
    case atStart =>
      exact ⟨0, har, rfl, rfl, ownFrom_belows (hJ true) h0 hb, keptBut_below hb⟩
    case round =>
      obtain ⟨m, hm, rfl, rfl, hJs, hkw⟩ := hrel
      by_cases hlt : (m : Int) < ar l[i]
      · obtain ⟨fn, tmps, assign, body, hy, hR⟩ := hY _ (kth l (i + 1) m) wr hJs (by rw [HK.out]; exact List.mem_map.2 ⟨m, List.mem_range.2 (by rw [HA.out]; omega), rfl⟩) (by rw [upto_length, HK.out, upto_length, HA.out]; omega)
        gi_wp2
        refine hR.mono ?_
        rintro e W3 ⟨bb, rfl, hJ3, hk3⟩
        cases bb with
        | true =>
          have hk3' := hkw.trans hk3
          have hbl3 : W3.cell? ⟨Bl, 0, none⟩ = some (.slice (some ⟨b, o, none⟩) l.length cap) := hk3'.cell (p := ⟨Bl, 0, none⟩) hxl hbl
          have hv3 : NodesAt W3 (.slice (some ⟨b, o, none⟩) l.length cap) l := NodesIn.mono (SliceIn.keptBut hv hk3') (fun _ h => h.2)
          gi_wp2_with (gi_at_call 29; refine (callsIn_wide.2 (End_any l _ _ _ hv3 hl)).mono ?_; rintro e w4 ⟨rfl, hb4⟩)
          go_roundw
          case rel => exact ⟨m + 1, by omega, by go_num, rfl, by rw [upto_succ]; exact ownFrom_belows (hJ true) hJ3 hb4, hk3'.trans (keptBut_below hb4)⟩
          case measure => simp [intOf]; omega
        | false =>
          gi_wp2
          refine bodyPost_ret (results_none rfl _ _ _) rfl ?_
          refine ⟨⟨_, rfl⟩, _, false, ?_, hJ3⟩
          rw [wholeOr, if_neg (by decide), HK.out, HA.out, ← upto_succ]
          obtain ⟨d, hd⟩ : ∃ d, (ar l[i]).toNat = (m + 1) + d := ⟨(ar l[i]).toNat - (m + 1), by omega⟩
          rw [hd]
          exact upto_prefix _ _ _
      · gi_wp2
        go_end0
        refine ⟨⟨_, rfl⟩, _, .inr ⟨?_, hJs⟩⟩
        rw [wholeOr, if_pos rfl, HK.out, HA.out, show (ar l[i]).toNat = m from by omega]
end Go.Proofs.Ytbnmkdlmalobaaa
end

section
namespace Go.Proofs.Ytbnmkdlmalobaaa

/-- How deep the node at i is; f: how deep one looks. -/
def depV : Nat → List Nd → Int → Int
  | 0, _, _ => 0
  | f + 1, l, i => if endv l i < 0 then 0 else (kidsv l i).foldl (fun m k => max m (depV f l k)) 0 + 1
/-- The deepest of some kids. -/
def depTo (f : Nat) (l : List Nd) (ks : List Int) : Int := ks.foldl (fun m k => max m (depV f l k)) 0

theorem depTo_nil (f : Nat) (l : List Nd) : depTo f l [] = 0 := rfl
theorem depTo_snoc (f : Nat) (l : List Nd) (ks : List Int) (x : Int) : depTo f l (ks ++ [x]) = max (depTo f l ks) (depV f l x) := by simp [depTo]
theorem depV_no (f : Nat) (l : List Nd) (i : Int) (h : endv l i < 0) : depV f l i = 0 := by
  cases f with
  | zero => rfl
  | succ f => rw [depV, if_pos h]
theorem depV_yes (f : Nat) (l : List Nd) (i : Int) (h : 0 ≤ endv l i) : depV (f + 1) l i = depTo f l (kidsv l i) + 1 := by
  rw [depV, if_neg (by omega)]; rfl
theorem depV_bound : ∀ (f : Nat) (l : List Nd) (i : Int), 0 ≤ depV f l i ∧ depV f l i ≤ f := by
  intro f
  induction f with
  | zero => intro l i; exact ⟨Int.le_refl _, Int.le_refl _⟩
  | succ f ih =>
    intro l i
    have key : ∀ (ks : List Int) (m : Int), 0 ≤ m → m ≤ f → 0 ≤ ks.foldl (fun m k => max m (depV f l k)) m ∧ ks.foldl (fun m k => max m (depV f l k)) m ≤ f := by
      intro ks
      induction ks with
      | nil => intro m h1 h2; exact ⟨h1, h2⟩
      | cons k ks ihk => intro m h1 h2; have := ih l k; exact ihk _ (by show 0 ≤ max _ _; omega) (by show max _ _ ≤ _; omega)
    by_cases h : endv l i < 0
    · rw [depV_no _ _ _ h]; omega
    · rw [depV, if_neg h]
      have := key (kidsv l i) 0 (by omega) (by omega)
      omega
theorem depTo_bound (f : Nat) (l : List Nd) (ks : List Int) : 0 ≤ depTo f l ks ∧ depTo f l ks ≤ f := by
  have key : ∀ (ks : List Int) (m : Int), 0 ≤ m → m ≤ f → 0 ≤ ks.foldl (fun m k => max m (depV f l k)) m ∧ ks.foldl (fun m k => max m (depV f l k)) m ≤ f := by
    intro ks
    induction ks with
    | nil => intro m h1 h2; exact ⟨h1, h2⟩
    | cons k ks ihk => intro m h1 h2; have := depV_bound f l k; exact ihk _ (by show 0 ≤ max _ _; omega) (by show max _ _ ≤ _; omega)
  exact key ks 0 (by omega) (by omega)
theorem kidsv_mem (l : List Nd) (i : Int) (x : Int) (h : x ∈ kidsv l i) : i < x ∧ 0 ≤ i ∧ x ≤ l.length := by
  obtain ⟨c, hc, rfl⟩ := List.getElem_of_mem h
  exact kidsv_fact l i c hc
end Go.Proofs.Ytbnmkdlmalobaaa
end

section
namespace Go.Proofs.Ytbnmkdlmalobaaa
open Go.RowKit Go.Shelf

theorem Kids_any (l : List Nd) (i : Int) (v : Value) (w : World) (hv : NodesAt w v l) (hl : l.length ≤ 4000000) :
    Calls Try.prog 27 #[v, .int .i64 i] w fun e W' => ∃ u, e = .returned u ∧ IntsIn (fun k => w.heap.size ≤ k ∧ k < W'.heap.size) W' u (kidsv l i) ∧ Below w.heap.size w W' :=
  callsIn_wide.1 (Kids_in 3 (Nat.le_refl _) l i v w hv hl)

end Go.Proofs.Ytbnmkdlmalobaaa
end

section
namespace Go.Proofs.Ytbnmkdlmalobaaa
set_option maxRecDepth 100000
open Go.RowKit Go.Shelf
set_option linter.unusedVariables false
attribute [local go_sem] Oper.semAt_some

theorem ownFrom_true {β : Type} (B : Nat) (p : β → Prop) : OwnFrom B (fun (s : β) (_ : World) => p s) := fun _ _ _ _ hs _ _ => hs

/-- A round: a call that makes memory alone, and a store into one's own box. -/
theorem depth_round {W U w3 : World} {B Bn Bx : Nat} {t t' : TypeId} {u v : Value} {a : Int} {f : Nat} {l : List Nd} {ks : List Int} (hx : W.heap.size ≤ Bn ∧ Bx ≠ Bn) (e1 : Boxed U Bn t u) (e2 : Boxed U Bx t' v) (hBU : Below W.heap.size W U) (hb3 : Below U.drew.heap.size U.drew w3)
    (h : a = depTo f l ks) : KeepsFrom B U (w3.setCell ⟨Bn, 0, none⟩ (.int .i64 a)) ∧ KeptBut (fun j => j = Bn) (B + 2) U (w3.setCell ⟨Bn, 0, none⟩ (.int .i64 a)) ∧
      (Boxed (w3.setCell ⟨Bn, 0, none⟩ (.int .i64 a)) Bn t (.int .i64 (depTo f l ks)) ∧ Boxed (w3.setCell ⟨Bn, 0, none⟩ (.int .i64 a)) Bx t' v ∧ Below W.heap.size W (w3.setCell ⟨Bn, 0, none⟩ (.int .i64 a))) := by
  subst h
  have hb : Below U.heap.size U w3 := ⟨hb3.os, hb3.tape, hb3.output, hb3.size, hb3.block⟩
  have k1 : KeepsFrom B U w3 := ⟨hb.size, fun k o _ hk _ => (hb.block k (Array.getElem?_eq_some_iff.1 hk).1).trans hk⟩
  have d1 : Boxed w3 Bn t u := (hb.block _ e1.lt).trans e1
  have d2 : Boxed w3 Bx t' v := (hb.block _ e2.lt).trans e2
  exact ⟨k1.trans ((KeepsOthers.setCell _ _ _).from _), (keptBut_below hb).trans (keptBut_setCell (X := fun j => j = Bn) w3 (p := ⟨Bn, 0, none⟩) rfl _), d1.set _, d2.other hx.2 _, (hBU.trans (hb.mono hBU.size)).setCell (p := ⟨Bn, 0, none⟩) hx.1 _⟩

set_option maxRecDepth 100000 in
set_option maxHeartbeats 4000000 in
theorem Depth_any (l : List Nd) (hl : l.length ≤ 4000000) : ∀ (f : Nat) (i : Int) (v : Value) (w : World), f ≤ 4000001 → ((l.length : Int) ≤ i + f ∨ i < 0) → NodesAt w v l →
    Calls Try.prog 31 #[v, .int .i64 i] w fun e w' => e = .returned (.int .i64 (depV f l i)) ∧ Below w.heap.size w w' := by
  intro f
  induction f with
  | zero =>
    intro i v w hf hi hv
    have hlt : endv l i < 0 := by
      rcases endv_bound l i with hE | hE
      · omega
      · obtain ⟨h1, h2⟩ := endv_in l i hE; omega
    obtain ⟨p, cap, hsl⟩ := hv.slice
    subst hsl
    have hv0 := hv.below (below_alloc1 w (.cells #[.slice p l.length cap] 23))
    go_enter Try.func31, Try.ntmps31
    go_wp2_with (go_at_call 29; refine (End_any l _ _ _ hv0 hl).mono ?_; rintro e w1 ⟨rfl, hb⟩)
    go_ret
    exact ⟨rfl, (below_alloc1 w _).trans (hb.mono (by simp))⟩
  | succ f ih =>
    intro i v w hf hi hv
    obtain ⟨p, cap, hsl⟩ := hv.slice
    subst hsl
    have hv0 := hv.below (below_alloc1 w (.cells #[.slice p l.length cap] 23))
    refine callsIn_wide.1 (?_ : CallsIn Fence.wide 1 _ _ _ _ _)
    refine callsIn_of_wp_marks Try.func31 rfl trivial ?_ rfl
    simp only [Try.ntmps31, List.size_toArray, List.length_cons, List.length_nil, Nat.reduceAdd, Nat.reduceSub, Array.replicate_succ, Array.replicate_zero, List.push_toArray, List.append_toArray, List.nil_append, List.cons_append]
    rcases endv_bound l i with hE | hE
    · have hlt : endv l i < 0 := by omega
      have HK := Lib.hid (depV_no (f + 1) l i hlt)
      clear hE hi
      gi_wp2_with (gi_at_call 29; refine (callsIn_wide.2 (End_any l _ _ _ hv0 hl)).mono ?_; rintro e w1 ⟨rfl, hb⟩)
      exact ⟨_, results_tmp rfl _ _ _, by rw [HK.out]; rfl, (below_alloc1 w _).trans (hb.mono (by simp))⟩
    · obtain ⟨hi0, hil⟩ := endv_in l i hE
      obtain ⟨k, rfl⟩ := Int.eq_ofNat_of_zero_le hi0
      have hkl : k < l.length := by simpa using hil
      have HI : Hid ((l.length : Int) ≤ k + (f + 1 : Nat)) := Lib.hid (by omega)
      have HY := Lib.hid (depV_yes f l k hE)
      have hnlt : ¬ endv l k < 0 := by omega
      clear hi
      gi_wp2_with (first | (gi_at_call 29; refine (callsIn_wide.2 (End_any l _ _ _ hv0 hl)).mono ?_; rintro e w1 ⟨rfl, hb⟩; have hx := (hb.block w.heap.size (by simp)).trans (Boxed.new w 23 (.slice p l.length cap)); have hxc := Boxed.cell (Boxed.alloc hx (.cells #[.int .i64 0] 3))) | (gi_at_call 51; refine (kids_in _ _ _ _ _ rfl _ _).mono ?_; rintro e w2 ⟨rfl, rfl⟩))
      have hsz1 := hb.size
      rw [World.size_alloc] at hsz1
      have hBw : Below w.heap.size w w1 := (below_alloc1 w _).trans (hb.mono (by simp))
      have bN := Boxed.new w1 3 (.int .i64 0)
      have bL := Boxed.new (w1.alloc (.cells #[.int .i64 0] 3)) 23 (.slice p l.length cap)
      have bA := Boxed.new ((w1.alloc (.cells #[.int .i64 0] 3)).alloc (.cells #[.slice p l.length cap] 23)) 3 (.int .i64 k)
      rw [World.size_alloc] at bL
      rw [World.size_alloc, World.size_alloc] at bA
      obtain ⟨W0, hW0⟩ : ∃ W0, ((w1.alloc (.cells #[.int .i64 0] 3)).alloc (.cells #[.slice p l.length cap] 23)).alloc (.cells #[.int .i64 k] 3) = W0 := ⟨_, rfl⟩
      have bN := (bN.alloc (.cells #[.slice p l.length cap] 23)).alloc (.cells #[.int .i64 k] 3)
      have bL := bL.alloc (.cells #[.int .i64 k] 3)
      have hB0 : Below w1.heap.size w1 W0 := by rw [← hW0]; exact (((Below.refl _ w1).alloc (Nat.le_refl _) _).alloc (by simp) _).alloc (by simp; omega) _
      have hS0 : W0.heap.size = w1.heap.size + 3 := by rw [← hW0]; simp
      have hB1 : Below w.heap.size w W0 := hBw.trans (hB0.mono (by omega))
      have bX : Boxed W0 w.heap.size 23 (.slice p l.length cap) := (hB0.block _ (by omega)).trans hx
      rw [hW0] at bN bL bA ⊢
      refine range_rule (gf := 73) (lb := #[.pointer (some ⟨w1.heap.size + 1 + 1, 0, none⟩), .pointer (some ⟨w1.heap.size + 1, 0, none⟩)]) rfl (enters_of Try.func73 (by kernel_rfl) rfl)
        (encs := fun x : Int => #[Value.int .i64 x]) (G := fun x _ => x ∈ kidsv l k) (Kp := KeptBut (fun j => j = w1.heap.size) (W0.heap.size + 2)) (N := (kidsv l k).length) (R := wholeOr (kidsv l k)) (fun _ => rfl)
        (fun W' hb' hs' => by
          have hkW : KeptBut (fun j => j = w1.heap.size) W0.heap.size W0 W' := keptBut_below hb'
          have := kids_iter l (.slice p l.length cap) hl (fun j => j = w1.heap.size) k (w1.heap.size + 1) (w1.heap.size + 1 + 1) W' hE (fun j hj => by omega) (by omega) (by omega)
            (hkW.cell (p := ⟨w1.heap.size + 1, 0, none⟩) (by show ¬ (_ = _); simp) bL.cell) (hkW.cell (p := ⟨w1.heap.size + 1 + 1, 0, none⟩) (by show ¬ (w1.heap.size + 1 + 1 = w1.heap.size); omega) bA.cell)
            ((hv.kept (kept_below (hB1.trans (hb'.mono hB1.size)))).mono (fun j hj => ⟨by omega, by have := hB1.size; omega⟩))
          rwa [hs'] at this)
        (fun h h' => h.trans h') (fun U q o o' h1 h2 h3 h4 _ => keptBut_putObj U q o o' h2 h3 h4)
        (fun pre U => Boxed U w1.heap.size 3 (.int .i64 (depTo f l pre)) ∧ Boxed U w.heap.size 23 (.slice p l.length cap) ∧ Below w.heap.size w U)
        (fun _ _ _ => False)
        (OwnFrom.and (Own.from (boxed_own _ _ _) _) (OwnFrom.and (Own.from (boxed_own _ _ _) _) (ownFrom_below (Nat.le_refl _) (by omega))))
        (fun _ _ _ _ _ hs _ _ => hs) (fun _ _ _ _ _ hs _ _ => hs)
        ⟨bN, bX, hB1⟩
        (fun x => { tmps := #[.slice p l.length cap, .int .i64 k, .pointer (some ⟨w.heap.size, 0, none⟩), undef, .int .i64 0, .pointer (some ⟨w1.heap.size, 0, none⟩), .int .i64 x, .slice p l.length cap, .int .i64 k, .int .i64 (endv l k), .bool (decide (endv l k < 0)), .slice p l.length cap, .int .i64 k, .func (.func 73) #[] #[.pointer (some ⟨w1.heap.size + 1 + 1, 0, none⟩), .pointer (some ⟨w1.heap.size + 1, 0, none⟩)], .int .i64 x, undef, undef, undef, undef, undef, undef, undef], defers := [] }) ?assign ?body ?done ?stop
      case assign =>
        intro lp x U K hK
        gi_wp2
        exact hK
      case body =>
        rintro lp pre x U ⟨e1, e2, hBU⟩ hgx hlen
        have hkm := kidsv_mem l k x hgx
        have hxf : (l.length : Int) ≤ x + f := by have := HI.out; omega
        have hvU : NodesAt U.drew (.slice p l.length cap) l := (hv.below hBU).below ((Below.refl _ _).drew)
        have g1 := e1.cell
        have g2 := e2.cell
        have f1 := e1.frozen
        have hmx : Try.prog.follows .mixedOrders = true := by kernel_rfl
        clear hkm
        gi_wp2
        gi_region_with_o (gi_at_call 31; refine (CallsIn.inRound lp (callsIn_wide.2 (ih x _ _ (by omega) (.inl hxf) hvU))).mono ?_; rintro e w3 ⟨rfl, hb3⟩; have d0 := Boxed.cell ((hb3.block _ e1.lt).trans e1); have d1 := Boxed.frozen ((hb3.block _ e1.lt).trans e1))
        all_goals gi_wp2
        all_goals exact depth_round (by omega) e1 e2 hBU hb3 (by first | (rw [depTo_snoc]; omega) | rw [depTo_snoc])
      case done =>
        rintro D ys U hD hR ⟨e1, e2, hBU⟩ hK
        have g1 := e1.cell
        have hR' : ys = kidsv l k := hR
        subst hR'
        have hbd := depTo_bound f l (kidsv l k)
        gi_wp2
        refine ⟨by simp, .inl ⟨_, _, rfl, run_takeDeferred hK, ?_⟩⟩
        exact ⟨_, results_tmp rfl _ _ _, by rw [HY.out]; rfl, hBU.trans (belowK_b (w := w) (Nat.le_refl _) U D _ _ (by omega) hK rfl rfl)⟩
      case stop =>
        rintro D c pre U _ _ h _
        exact h.elim
end Go.Proofs.Ytbnmkdlmalobaaa
end

section
namespace Go.Proofs.Ytbnmkdlmalobaaa
set_option maxRecDepth 100000
open Go.RowKit
set_option maxHeartbeats 4000000 in
theorem refArity_any (x : Nd) (w : World) :
    Calls Try.prog 70 #[.agg #[.int .i64 x.1, .int .i64 x.2]] w fun e w' => e = .returned (.int .i64 (ar x)) ∧ Below w.heap.size w w' := by
  obtain ⟨t, n⟩ := x
  have ht : t = 1 ∨ t = 2 ∨ t = 3 ∨ t = 4 ∨ t = 5 ∨ t = 6 ∨ t = 7 ∨ t = 8 ∨ t = 9 ∨ t = 10 ∨ t = 11 ∨ t = 12 ∨ t = 13 ∨ t = 14 ∨ t = 15 ∨ t = 16 ∨ t = 17 ∨ t = 18 ∨ t = 19 ∨ t = 20 ∨ t = 21 ∨ t = 22 ∨ t = 23 ∨ t = 24 ∨ t = 25 ∨ t = 26 ∨ (t < 1 ∨ 26 < t) := by omega
  rcases ht with rfl | rfl | rfl | rfl | rfl | rfl | rfl | rfl | rfl | rfl | rfl | rfl | rfl | rfl | rfl | rfl | rfl | rfl | rfl | rfl | rfl | rfl | rfl | rfl | rfl | rfl | ht
  · go_enter Try.func70, Try.ntmps70
    go_wp2
    all_goals
      go_ret
      refine ⟨ret_int ?_, below_alloc1 _ _⟩
      first | rfl | (simp only [ar, lim]; simp; done) | (simp only [ar, lim]; simp; omega) | (simp only [ar, lim]; simp; split <;> omega)
  · go_enter Try.func70, Try.ntmps70
    go_wp2
    all_goals
      go_ret
      refine ⟨ret_int ?_, below_alloc1 _ _⟩
      first | rfl | (simp only [ar, lim]; simp; done) | (simp only [ar, lim]; simp; omega) | (simp only [ar, lim]; simp; split <;> omega)
  · go_enter Try.func70, Try.ntmps70
    go_wp2
    all_goals
      go_ret
      refine ⟨ret_int ?_, below_alloc1 _ _⟩
      first | rfl | (simp only [ar, lim]; simp; done) | (simp only [ar, lim]; simp; omega) | (simp only [ar, lim]; simp; split <;> omega)
  · go_enter Try.func70, Try.ntmps70
    go_wp2
    all_goals
      go_ret
      refine ⟨ret_int ?_, below_alloc1 _ _⟩
      first | rfl | (simp only [ar, lim]; simp; done) | (simp only [ar, lim]; simp; omega) | (simp only [ar, lim]; simp; split <;> omega)
  · go_enter Try.func70, Try.ntmps70
    go_wp2
    all_goals
      go_ret
      refine ⟨ret_int ?_, below_alloc1 _ _⟩
      first | rfl | (simp only [ar, lim]; simp; done) | (simp only [ar, lim]; simp; omega) | (simp only [ar, lim]; simp; split <;> omega)
  · go_enter Try.func70, Try.ntmps70
    go_wp2
    all_goals
      go_ret
      refine ⟨ret_int ?_, below_alloc1 _ _⟩
      first | rfl | (simp only [ar, lim]; simp; done) | (simp only [ar, lim]; simp; omega) | (simp only [ar, lim]; simp; split <;> omega)
  · go_enter Try.func70, Try.ntmps70
    go_wp2
    all_goals
      go_ret
      refine ⟨ret_int ?_, below_alloc1 _ _⟩
      first | rfl | (simp only [ar, lim]; simp; done) | (simp only [ar, lim]; simp; omega) | (simp only [ar, lim]; simp; split <;> omega)
  · go_enter Try.func70, Try.ntmps70
    go_wp2
    all_goals
      go_ret
      refine ⟨ret_int ?_, below_alloc1 _ _⟩
      first | rfl | (simp only [ar, lim]; simp; done) | (simp only [ar, lim]; simp; omega) | (simp only [ar, lim]; simp; split <;> omega)
  · go_enter Try.func70, Try.ntmps70
    go_wp2
    all_goals
      go_ret
      refine ⟨ret_int ?_, below_alloc1 _ _⟩
      first | rfl | (simp only [ar, lim]; simp; done) | (simp only [ar, lim]; simp; omega) | (simp only [ar, lim]; simp; split <;> omega)
  · go_enter Try.func70, Try.ntmps70
    go_wp2
    all_goals
      go_ret
      refine ⟨ret_int ?_, below_alloc1 _ _⟩
      first | rfl | (simp only [ar, lim]; simp; done) | (simp only [ar, lim]; simp; omega) | (simp only [ar, lim]; simp; split <;> omega)
  · go_enter Try.func70, Try.ntmps70
    go_wp2
    all_goals
      go_ret
      refine ⟨ret_int ?_, below_alloc1 _ _⟩
      first | rfl | (simp only [ar, lim]; simp; done) | (simp only [ar, lim]; simp; omega) | (simp only [ar, lim]; simp; split <;> omega)
  · go_enter Try.func70, Try.ntmps70
    go_wp2
    all_goals
      go_ret
      refine ⟨ret_int ?_, below_alloc1 _ _⟩
      first | rfl | (simp only [ar, lim]; simp; done) | (simp only [ar, lim]; simp; omega) | (simp only [ar, lim]; simp; split <;> omega)
  · go_enter Try.func70, Try.ntmps70
    go_wp2
    all_goals
      go_ret
      refine ⟨ret_int ?_, below_alloc1 _ _⟩
      first | rfl | (simp only [ar, lim]; simp; done) | (simp only [ar, lim]; simp; omega) | (simp only [ar, lim]; simp; split <;> omega)
  · go_enter Try.func70, Try.ntmps70
    go_wp2
    all_goals
      go_ret
      refine ⟨ret_int ?_, below_alloc1 _ _⟩
      first | rfl | (simp only [ar, lim]; simp; done) | (simp only [ar, lim]; simp; omega) | (simp only [ar, lim]; simp; split <;> omega)
  · go_enter Try.func70, Try.ntmps70
    go_wp2
    all_goals
      go_ret
      refine ⟨ret_int ?_, below_alloc1 _ _⟩
      first | rfl | (simp only [ar, lim]; simp; done) | (simp only [ar, lim]; simp; omega) | (simp only [ar, lim]; simp; split <;> omega)
  · go_enter Try.func70, Try.ntmps70
    go_wp2
    all_goals
      go_ret
      refine ⟨ret_int ?_, below_alloc1 _ _⟩
      first | rfl | (simp only [ar, lim]; simp; done) | (simp only [ar, lim]; simp; omega) | (simp only [ar, lim]; simp; split <;> omega)
  · go_enter Try.func70, Try.ntmps70
    go_wp2
    all_goals
      go_ret
      refine ⟨ret_int ?_, below_alloc1 _ _⟩
      first | rfl | (simp only [ar, lim]; simp; done) | (simp only [ar, lim]; simp; omega) | (simp only [ar, lim]; simp; split <;> omega)
  · go_enter Try.func70, Try.ntmps70
    go_wp2
    all_goals
      go_ret
      refine ⟨ret_int ?_, below_alloc1 _ _⟩
      first | rfl | (simp only [ar, lim]; simp; done) | (simp only [ar, lim]; simp; omega) | (simp only [ar, lim]; simp; split <;> omega)
  · go_enter Try.func70, Try.ntmps70
    go_wp2
    all_goals
      go_ret
      refine ⟨ret_int ?_, below_alloc1 _ _⟩
      first | rfl | (simp only [ar, lim]; simp; done) | (simp only [ar, lim]; simp; omega) | (simp only [ar, lim]; simp; split <;> omega)
  · go_enter Try.func70, Try.ntmps70
    go_wp2
    all_goals
      go_ret
      refine ⟨ret_int ?_, below_alloc1 _ _⟩
      first | rfl | (simp only [ar, lim]; simp; done) | (simp only [ar, lim]; simp; omega) | (simp only [ar, lim]; simp; split <;> omega)
  · go_enter Try.func70, Try.ntmps70
    go_wp2
    all_goals
      go_ret
      refine ⟨ret_int ?_, below_alloc1 _ _⟩
      first | rfl | (simp only [ar, lim]; simp; done) | (simp only [ar, lim]; simp; omega) | (simp only [ar, lim]; simp; split <;> omega)
  · go_enter Try.func70, Try.ntmps70
    go_wp2
    all_goals
      go_ret
      refine ⟨ret_int ?_, below_alloc1 _ _⟩
      first | rfl | (simp only [ar, lim]; simp; done) | (simp only [ar, lim]; simp; omega) | (simp only [ar, lim]; simp; split <;> omega)
  · go_enter Try.func70, Try.ntmps70
    go_wp2
    all_goals
      go_ret
      refine ⟨ret_int ?_, below_alloc1 _ _⟩
      first | rfl | (simp only [ar, lim]; simp; done) | (simp only [ar, lim]; simp; omega) | (simp only [ar, lim]; simp; split <;> omega)
  · go_enter Try.func70, Try.ntmps70
    go_wp2
    all_goals
      go_ret
      refine ⟨ret_int ?_, below_alloc1 _ _⟩
      first | rfl | (simp only [ar, lim]; simp; done) | (simp only [ar, lim]; simp; omega) | (simp only [ar, lim]; simp; split <;> omega)
  · go_enter Try.func70, Try.ntmps70
    go_wp2
    all_goals
      go_ret
      refine ⟨ret_int ?_, below_alloc1 _ _⟩
      first | rfl | (simp only [ar, lim]; simp; done) | (simp only [ar, lim]; simp; omega) | (simp only [ar, lim]; simp; split <;> omega)
  · go_enter Try.func70, Try.ntmps70
    go_wp2
    all_goals
      go_ret
      refine ⟨ret_int ?_, below_alloc1 _ _⟩
      first | rfl | (simp only [ar, lim]; simp; done) | (simp only [ar, lim]; simp; omega) | (simp only [ar, lim]; simp; split <;> omega)
  have hl : lim t n = (-1, -1) := by
    unfold lim
    repeat rw [if_neg (by omega)]
  have har : ar (t, n) = -1 := by
    simp only [ar, hl]
    rw [if_neg (by omega)]
    split <;> rfl
  have HA := Lib.hid har
  clear har hl
  have e1 : (t == 1) = false := beq_eq_false_iff_ne.2 (by omega)
  have e2 : (t == 2) = false := beq_eq_false_iff_ne.2 (by omega)
  have e3 : (t == 3) = false := beq_eq_false_iff_ne.2 (by omega)
  have e4 : (t == 4) = false := beq_eq_false_iff_ne.2 (by omega)
  have e5 : (t == 5) = false := beq_eq_false_iff_ne.2 (by omega)
  have e6 : (t == 6) = false := beq_eq_false_iff_ne.2 (by omega)
  have e7 : (t == 7) = false := beq_eq_false_iff_ne.2 (by omega)
  have e8 : (t == 8) = false := beq_eq_false_iff_ne.2 (by omega)
  have e9 : (t == 9) = false := beq_eq_false_iff_ne.2 (by omega)
  have e10 : (t == 10) = false := beq_eq_false_iff_ne.2 (by omega)
  have e11 : (t == 11) = false := beq_eq_false_iff_ne.2 (by omega)
  have e12 : (t == 12) = false := beq_eq_false_iff_ne.2 (by omega)
  have e13 : (t == 13) = false := beq_eq_false_iff_ne.2 (by omega)
  have e14 : (t == 14) = false := beq_eq_false_iff_ne.2 (by omega)
  have e15 : (t == 15) = false := beq_eq_false_iff_ne.2 (by omega)
  have e16 : (t == 16) = false := beq_eq_false_iff_ne.2 (by omega)
  have e17 : (t == 17) = false := beq_eq_false_iff_ne.2 (by omega)
  have e18 : (t == 18) = false := beq_eq_false_iff_ne.2 (by omega)
  have e19 : (t == 19) = false := beq_eq_false_iff_ne.2 (by omega)
  have e20 : (t == 20) = false := beq_eq_false_iff_ne.2 (by omega)
  have e21 : (t == 21) = false := beq_eq_false_iff_ne.2 (by omega)
  have e22 : (t == 22) = false := beq_eq_false_iff_ne.2 (by omega)
  have e23 : (t == 23) = false := beq_eq_false_iff_ne.2 (by omega)
  have e24 : (t == 24) = false := beq_eq_false_iff_ne.2 (by omega)
  have e25 : (t == 25) = false := beq_eq_false_iff_ne.2 (by omega)
  have e26 : (t == 26) = false := beq_eq_false_iff_ne.2 (by omega)
  clear ht
  go_enter Try.func70, Try.ntmps70
  go_wp2
  all_goals
    go_ret
    refine ⟨ret_int ?_, below_alloc1 _ _⟩
    rw [HA.out]

end Go.Proofs.Ytbnmkdlmalobaaa
end

section
namespace Go.Proofs.Ytbnmkdlmalobaaa
open Go.RowKit
set_option maxHeartbeats 1000000 in
theorem refEnd_any (l : List Nd) (i : Int) (v : Value) (w : World) (hv : NodesAt w v l) (hl : l.length ≤ 4000000) :
    Calls Try.prog 45 #[v, .int .i64 i] w fun e w' => e = .returned (.int .i64 (endv l i)) ∧ Below w.heap.size w w' := by
  by_cases h0 : i < 0
  · go_enter Try.func45, Try.ntmps45
    go_wp2
    go_ret
    exact ⟨ret_int (endv_neg l i h0).symm, Below.refl _ _⟩
  · obtain ⟨k0, rfl⟩ := Int.eq_ofNat_of_zero_le (Int.not_lt.1 h0)
    have he0 := Lib.hid (endv_nat l k0)
    obtain ⟨p, cap, rfl⟩ := hv.slice
    go_enter Try.func45, Try.ntmps45
    go_wp2
    go_loopw [5, 6] (fun t i wr => ∃ (k : Nat) (z : Int), i = .int .i64 k ∧ t = .int .i64 z ∧ 1 ≤ z ∧ z ≤ 1 + 200 * (k - k0) ∧ k0 ≤ k ∧ (k ≤ l.length ∨ k = k0) ∧ Hid (endv l k0 = fin k (scan z.toNat (l.drop k))) ∧ Below w.heap.size w wr)
      (fun _ i _ => l.length - (intOf i).toNat)
    case atStart => exact ⟨k0, 1, rfl, rfl, by omega, by omega, by omega, .inr rfl, he0, Below.refl _ _⟩
    case round =>
      obtain ⟨k, z, rfl, rfl, hz1, hz2, hk0, hkl, he, hB⟩ := hrel
      by_cases hk : k < l.length
      · rcases hv.open with ⟨rfl, _⟩ | ⟨b, o, cap', hsl, hpos, hcap, hbs, hcell⟩
        · simp at hk
        · obtain ⟨rfl, rfl⟩ : p = some ⟨b, o, none⟩ ∧ cap = cap' := by simpa using hsl
          obtain ⟨hc0, hc1⟩ := hcell k hk
          have hc0 : wr.cell? ⟨b, o + k * 2, none⟩ = some (.int .i64 l[k].1) := (hB.cell (p := ⟨b, o + k * 2, none⟩) hbs).trans hc0
          have hc1 : wr.cell? ⟨b, o + k * 2 + 1, none⟩ = some (.int .i64 l[k].2) := (hB.cell (p := ⟨b, o + k * 2 + 1, none⟩) hbs).trans hc1
          clear hcell hsl
          have hab := ar_bound l[k]
          go_wp2_with (go_at_call 70; refine (refArity_any l[k] _).mono ?_; rintro e w1 ⟨rfl, hb⟩)
          · go_ret
            exact ⟨ret_int (by rw [he.out, fin_bad l k z hz1 hk (by assumption)]), hB.trans (hb.mono hB.size)⟩
          · have hz0 : z - 1 + ar l[k] = 0 := by first | assumption | exact beq_iff_eq.1 (by assumption)
            go_ret
            exact ⟨ret_int (by rw [he.out, fin_stop l k z hz1 hk (by omega) (by omega)]), hB.trans (hb.mono hB.size)⟩
          · have hz0 : z - 1 + ar l[k] ≠ 0 := by first | assumption | exact beq_eq_false_iff_ne.1 (by assumption)
            go_round
            case rel => exact ⟨k + 1, z + (ar l[k] - 1), by go_num, by rw [show z - 1 + ar l[k] = z + (ar l[k] - 1) from by omega], by omega, by omega, by omega, .inl (by omega), Lib.hid (by rw [he.out, fin_go l k z hz1 hk (by omega)]), hB.trans (hb.mono hB.size)⟩
            case measure => simp [intOf]; omega
      · go_wp2
        go_ret
        exact ⟨ret_int (by rw [he.out, fin_end l k z hz1 (by omega)]), hB⟩
end Go.Proofs.Ytbnmkdlmalobaaa
end

section
namespace Go.Proofs.Ytbnmkdlmalobaaa
set_option maxRecDepth 100000
open Go.RowKit
set_option maxHeartbeats 1000000 in
theorem refKids_any (l : List Nd) (i : Int) (v : Value) (w : World) (hv : NodesAt w v l) (hl : l.length ≤ 4000000) :
    Calls Try.prog 46 #[v, .int .i64 i] w fun e W' => ∃ u, e = .returned u ∧ IntsIn (fun k => w.heap.size ≤ k ∧ k < W'.heap.size) W' u (kidsv l i) ∧ Below w.heap.size w W' := by
  obtain ⟨i0, hi, hz0, hz1, hz2⟩ := info_parts infoInt
  rcases endv_bound l i with hE | hE
  · have hlt : endv l i < 0 := by omega
    have HK := Lib.hid (kidsv_no l i hlt)
    clear hE
    go_enter Try.func46, Try.ntmps46
    go_wp2_with (go_at_call 45; refine (refEnd_any l _ _ _ hv hl).mono ?_; rintro e w1 ⟨rfl, hb⟩)
    go_ret
    exact ⟨_, rfl, by rw [HK.out]; exact .inl ⟨none, 0, rfl, rfl, rfl, fun _ => rfl⟩, hb⟩
  · obtain ⟨hi0, hil⟩ := endv_in l i hE
    obtain ⟨k, rfl⟩ := Int.eq_ofNat_of_zero_le hi0
    have hnlt : ¬ endv l k < 0 := by omega
    have hkl : k < l.length := by simpa using hil
    have har := endv_ar l k hE
    have HK := Lib.hid (kidsv_eq l k hE)
    rcases hv.open with ⟨rfl, _⟩ | ⟨b, o, cap, rfl, hpos, hcap, hbs, hcell⟩
    · simp at hkl
    have HA := Lib.hid (arAt_in l k hkl)
    have hab := ar_bound l[k]
    rw [HA.out] at har
    obtain ⟨hc0, hc1⟩ := hcell k hkl
    go_enter Try.func46, Try.ntmps46
    go_wp2_with (go_at_call 45; refine (refEnd_any l _ _ _ hv hl).mono ?_; rintro e w1 ⟨rfl, hb⟩)
    go_loopw [5, 6, 7] (fun u kk c wr => ∃ m : Nat, (m : Int) ≤ ar l[k] ∧ c = .int .i64 m ∧ kk = .int .i64 (kth l (k + 1) m) ∧ wr.ownsRow w.heap.size 3 1 u (upto (kth l (k + 1)) m).length ((upto (kth l (k + 1)) m).map (Value.int .i64)) ∧ Below w.heap.size w wr)
      (fun _ _ c _ => (ar l[k] - intOf c).toNat)
    case atStart => exact ⟨0, har, rfl, rfl, World.ownsRow_nil _ _ _ _, hb⟩
    case round =>
      obtain ⟨m, hm, rfl, rfl, hrow, hB⟩ := hrel
      have hc0 : wr.cell? ⟨b, o + k * 2, none⟩ = some (.int .i64 l[k].1) := (hB.cell (p := ⟨b, o + k * 2, none⟩) hbs).trans hc0
      have hc1 : wr.cell? ⟨b, o + k * 2 + 1, none⟩ = some (.int .i64 l[k].2) := (hB.cell (p := ⟨b, o + k * 2 + 1, none⟩) hbs).trans hc1
      have hsz := hB.size
      have hul := Lib.hid (upto_length (kth l (k + 1)) m)
      by_cases hlt : (m : Int) < ar l[k]
      · go_wp2_with (first
          | (go_at_call 70; refine (refArity_any l[k] _).mono ?_; rintro e w2 ⟨rfl, hb2⟩; have hrow2 := ownsRow_below hrow hb2; have hsz2 := hb2.size)
          | (at_builtin; refine wpList_append_own _ rfl _ _ 22 rfl w.heap.size 3 i0 (.int .i64 0) 1 8 Try.underlying22 hi hz0 hz1 hz2 rfl (by decide) _ _ _ rfl (hrow2.alloc _) ⟨w2.heap.size, 0, none⟩ 1 1 [.int .i64 (kth l (k + 1) m)] rfl rfl (cell_one_new _ _ _) (by simp [Value.oneCell']) (by rw [hul.out]; unfold maxLen; omega) (by rw [hul.out]; omega) (by simp; omega) ?_; intro v' w3 hown' hgrow _; have hB3 : Below w.heap.size w w3 := ((hB.trans (hb2.mono hsz)).alloc (by omega) _).grown hgrow (by simp; omega) (fun j hj => (hrow2.lt j hj).1); have hv3 := hv.below hB3; have hsz3 := hB3.size)
          | (go_at_call 45; refine (refEnd_any l _ _ _ hv3 hl).mono ?_; rintro e w4 ⟨rfl, hb4⟩))
        go_round
        case rel => exact ⟨m + 1, by omega, by go_num, rfl, by rw [upto_succ]; simpa using ownsRow_below hown' hb4, hB3.trans (hb4.mono hsz3)⟩
        case measure => simp [intOf]; omega
      · go_wp2_with (go_at_call 70; refine (refArity_any l[k] _).mono ?_; rintro e w2 ⟨rfl, hb2⟩; have hrow2 := ownsRow_below hrow hb2)
        go_ret
        refine ⟨_, rfl, ?_, hB.trans (hb2.mono hsz)⟩
        rw [HK.out, HA.out, show (ar l[k]).toNat = m from by omega]
        exact ownsRow_ints hrow2
end Go.Proofs.Ytbnmkdlmalobaaa
end

section
namespace Go.Proofs.Ytbnmkdlmalobaaa
set_option maxRecDepth 100000
open Go.RowKit Go.Shelf
set_option linter.unusedVariables false
attribute [local go_sem] Oper.semAt_some

theorem depTo_take (f : Nat) (l : List Nd) (ks : List Int) (m : Nat) (h : m < ks.length) : depTo f l (ks.take (m + 1)) = max (depTo f l (ks.take m)) (depV f l ks[m]) := by
  rw [List.take_succ_eq_append_getElem h, depTo_snoc]

set_option maxRecDepth 100000 in
set_option maxHeartbeats 4000000 in
theorem refDepth_any (l : List Nd) (hl : l.length ≤ 4000000) (v : Value) : ∀ (f : Nat) (i : Int) (w : World), f ≤ 4000001 → ((l.length : Int) ≤ i + f ∨ i < 0) → NodesAt w v l →
    Calls Try.prog 71 #[v, .int .i64 i] w fun e w' => e = .returned (.int .i64 (depV f l i)) ∧ Below w.heap.size w w' := by
  intro f
  induction f with
  | zero =>
    intro i w hf hi hv
    have hlt : endv l i < 0 := by
      rcases endv_bound l i with hE | hE
      · omega
      · obtain ⟨h1, h2⟩ := endv_in l i hE; omega
    go_enter Try.func71, Try.ntmps71
    go_wp2_with (go_at_call 45; refine (refEnd_any l _ _ _ hv hl).mono ?_; rintro e w1 ⟨rfl, hb⟩)
    go_ret
    exact ⟨rfl, hb⟩
  | succ f ih =>
    intro i w hf hi hv
    refine callsIn_wide.1 (?_ : CallsIn Fence.wide 1 _ _ _ _ _)
    refine callsIn_of_wp Try.func71 rfl trivial ?_ rfl
    simp only [Try.ntmps71, List.size_toArray, List.length_cons, List.length_nil, Nat.reduceAdd, Nat.reduceSub, Array.replicate_succ, Array.replicate_zero, List.push_toArray, List.append_toArray, List.nil_append, List.cons_append]
    rcases endv_bound l i with hE | hE
    · have hlt : endv l i < 0 := by omega
      have HK := Lib.hid (depV_no (f + 1) l i hlt)
      clear hE hi
      gi_wp2_with (gi_at_call 45; refine (callsIn_wide.2 (refEnd_any l _ _ _ hv hl)).mono ?_; rintro e w1 ⟨rfl, hb⟩)
      go_ret
      exact ⟨by rw [HK.out]; rfl, hb⟩
    · obtain ⟨hi0, hil⟩ := endv_in l i hE
      have HI : Hid ((l.length : Int) ≤ i + (f + 1 : Nat)) := Lib.hid (by omega)
      have HY := Lib.hid (depV_yes f l i hE)
      have hnlt : ¬ endv l i < 0 := by omega
      have hmx : Try.prog.follows .mixedOrders = true := by kernel_rfl
      have hkl := kidsv_len l i
      clear hi
      gi_wp2_with (first | (gi_at_call 45; refine (callsIn_wide.2 (refEnd_any l _ _ _ hv hl)).mono ?_; rintro e w1 ⟨rfl, hb⟩; have hv1 := hv.below hb) | (gi_at_call 46; refine (callsIn_wide.2 (refKids_any l _ _ _ hv1 hl)).mono ?_; rintro e w2 ⟨u, rfl, hu, hb2⟩; obtain ⟨pu, cu, hsl⟩ := hu.slice; subst hsl))
      have hB2 : Below w.heap.size w w2 := hb.trans (hb2.mono hb.size)
      gi_loopw [5, 7] (fun n j wr => ∃ m : Nat, m ≤ (kidsv l i).length ∧ j = .int .i64 m ∧ Hid (n = .int .i64 (depTo f l ((kidsv l i).take m))) ∧ Below w2.heap.size w2 wr) (fun _ j _ => (kidsv l i).length - (intOf j).toNat)
      case atStart => exact ⟨0, Nat.zero_le _, rfl, Lib.hid rfl, Below.refl _ _⟩
      case round =>
        obtain ⟨m, hm, rfl, hn, hB⟩ := hrel
        obtain rfl := hn.out
        by_cases hlt : m < (kidsv l i).length
        · rcases hu.open with ⟨h0, _⟩ | ⟨b1, o1, c1, hs1, hp1, hc1, hb1, hx1⟩
          · rw [h0] at hlt; simp at hlt
          obtain ⟨rfl, rfl⟩ : pu = some ⟨b1, o1, none⟩ ∧ cu = c1 := by simpa using hs1
          have g1 := (hB.cell (p := ⟨b1, o1 + m, none⟩) hb1.2).trans (hx1 m hlt)
          clear hx1 hs1
          have n1 : (m : Int) < ((kidsv l i).length : Int) := by omega
          have hkm := kidsv_fact l i m hlt
          have hxf : (l.length : Int) ≤ (kidsv l i)[m] + f := by have := HI.out; omega
          have hvW : NodesAt wr v l := hv.below (hB2.trans (hB.mono hB2.size))
          have HT := Lib.hid (depTo_take f l (kidsv l i) m hlt)
          clear hkm
          gi_wp2_with (gi_at_call 71; refine (callsIn_wide.2 (ih (kidsv l i)[m] _ (by omega) (.inl hxf) hvW)).mono ?_; rintro e w3 ⟨rfl, hb3⟩)
          · go_roundw
            case rel => exact ⟨m + 1, by omega, by go_num, Lib.hid (congrArg (Value.int .i64) (by rw [HT.out]; omega)), hB.trans (hb3.mono hB.size)⟩
            case measure => simp [intOf]; omega
        · have hbd := depTo_bound f l (kidsv l i)
          obtain rfl : m = (kidsv l i).length := by omega
          rw [List.take_length]
          gi_wp2
          go_ret
          exact ⟨by rw [HY.out]; rfl, hB2.trans (hB.mono hB2.size)⟩
end Go.Proofs.Ytbnmkdlmalobaaa
end
