/-
  A language of values: some without addresses, some that name objects of the call's own. What a value of the program's reads as, and that it goes on reading so. Nothing here names the program.
-/
import Derived.WalkKit
import Derived.Lib.Hide
import Derived.Test.YtnmgfobpcengkaaBase
namespace Go.Proofs.Ytnmgfobpcengkaa
open Go.RowKit
set_option linter.unusedVariables false

/-- How code is left. -/
inductive Lv where
  | normal
  | exit (id : Nat)
  | ret
  deriving DecidableEq
def Lv.toExit : Lv → Exit
  | .normal => .normal
  | .exit id => .exit id
  | .ret => .ret
/-- What a value reads as: itself; a slice's elements, each so many cells; what a pointer leads to; a struct's cells; several results; a place in an object of the call's own; the first elements of a row of the call's own; an interface value; a function value; a map of the call's own; a map, by value. -/
inductive D where
  | undef
  | v (x : Value)
  | sl (sz : Nat) (els : List (List D))
  | ptr (cs : List D)
  | agg (cs : List D)
  | tup (ds : List D)
  | hp (id off : Nat)
  | hs (id n : Nat)
  | ifc (t : TypeId) (d : D)
  | clo (f : Fn) (first caps : List D)
  | mp (id : Nat)
  | mv (ks : List Int) (vs : List D)
  | yld (id : Nat)
  | ht (id off n : Nat)
  deriving Inhabited

section
variable (S : Nat → Prop)
mutual
def Rep (L : List (Nat × Nat)) (w : World) (x : Value) : D → Prop
  | .undef => True
  | .v y => x = y
  | .sl sz els => (els = [] ∧ ∃ (p : Option Addr) (cap : Nat), x = .slice p 0 cap ∧ (p = none → cap = 0)) ∨
      ∃ (b o cap : Nat), x = .slice (some ⟨b, o, none⟩) els.length cap ∧ 0 < els.length ∧ els.length ≤ cap ∧ S b ∧ RepR [] w b o sz els
  | .ptr cs => ∃ (b o : Nat), x = .pointer (some ⟨b, o, none⟩) ∧ S b ∧ RepC [] w b o cs
  | .agg cs => ∃ xs : List Value, x = .agg xs.toArray ∧ RepA L w xs cs
  | .tup ds => ∃ xs : List Value, x = .tuple xs.toArray ∧ RepA L w xs ds
  | .hp id off => ∃ b c, L[id]? = some (b, c) ∧ x = .pointer (some ⟨b, off, none⟩)
  | .hs id n => ∃ b c, L[id]? = some (b, c) ∧ n ≤ c ∧ x = .slice (some ⟨b, 0, none⟩) n c
  | .ifc t d => ∃ y, x = .iface t y ∧ Rep L w y d
  | .clo f fs cs => ∃ ys zs : List Value, x = .func f ys.toArray zs.toArray ∧ RepA L w ys fs ∧ RepA L w zs cs
  | .mp id => ∃ b c, L[id]? = some (b, c) ∧ x = .map (some b)
  | .yld id => ∃ b c, L[id]? = some (b, c) ∧ x = .func (.yield b) #[] #[]
  | .ht id off n => ∃ b c o cap, L[id]? = some (b, c) ∧ x = .slice (some ⟨b, o, none⟩) n cap ∧ n ≤ cap ∧ (0 < n → o = off)
  | .mv ks vs => ∃ (b : Nat) (arr : Array MapEntry) (clk : Nat), x = .map (some b) ∧ S b ∧ w.heap[b]? = some (.map arr clk) ∧ arr.toList.map (·.key) = ks.map (Value.int .i64) ∧ RepA [] w (arr.toList.map (·.val)) vs
def RepA (L : List (Nat × Nat)) (w : World) (xs : List Value) : List D → Prop
  | [] => xs = []
  | d :: r => ∃ x ys, xs = x :: ys ∧ Rep L w x d ∧ RepA L w ys r
def RepC (L : List (Nat × Nat)) (w : World) (b o : Nat) : List D → Prop
  | [] => True
  | d :: r => (∃ x, w.cell? ⟨b, o, none⟩ = some x ∧ Rep L w x d) ∧ RepC L w b (o + 1) r
def RepR (L : List (Nat × Nat)) (w : World) (b o sz : Nat) : List (List D) → Prop
  | [] => True
  | e :: r => e.length = sz ∧ RepC L w b o e ∧ RepR L w b (o + sz) sz r
end
end

section
variable {S S' : Nat → Prop} {w w' : World}
mutual
theorem Rep.kept (hk : Kept S w w') (hs : ∀ k, S k → S' k) {L L' : List (Nat × Nat)} (hL : ∀ (i : Nat) (p : Nat × Nat), L[i]? = some p → L'[i]? = some p) : ∀ (d : D) (x : Value), Rep S L w x d → Rep S' L' w' x d
  | .undef, x, h => by simp only [Rep]
  | .v y, x, h => by simpa only [Rep] using h
  | .sl sz els, x, h => by
    simp only [Rep] at h ⊢
    rcases h with h | ⟨b, o, cap, h1, h2, h3, h4, h5⟩
    · exact .inl h
    · exact .inr ⟨b, o, cap, h1, h2, h3, hs _ h4, RepR.kept hk hs (fun i p hi => by simp at hi) els b o sz h4 h5⟩
  | .ptr cs, x, h => by
    simp only [Rep] at h ⊢
    obtain ⟨b, o, h1, h2, h3⟩ := h
    exact ⟨b, o, h1, hs _ h2, RepC.kept hk hs (fun i p hi => by simp at hi) cs b o h2 h3⟩
  | .agg cs, x, h => by
    simp only [Rep] at h ⊢
    obtain ⟨xs, h1, h2⟩ := h
    exact ⟨xs, h1, RepA.kept hk hs hL cs xs h2⟩
  | .tup ds, x, h => by
    simp only [Rep] at h ⊢
    obtain ⟨xs, h1, h2⟩ := h
    exact ⟨xs, h1, RepA.kept hk hs hL ds xs h2⟩
  | .hp id off, x, h => by
    simp only [Rep] at h ⊢
    obtain ⟨b, c, h1, h2⟩ := h
    exact ⟨b, c, hL _ _ h1, h2⟩
  | .hs id n, x, h => by
    simp only [Rep] at h ⊢
    obtain ⟨b, c, h1, h2⟩ := h
    exact ⟨b, c, hL _ _ h1, h2⟩
  | .ifc t d, x, h => by
    simp only [Rep] at h ⊢
    obtain ⟨y, h1, h2⟩ := h
    exact ⟨y, h1, Rep.kept hk hs hL d y h2⟩
  | .clo f fs cs, x, h => by
    simp only [Rep] at h ⊢
    obtain ⟨ys, zs, h1, h2, h3⟩ := h
    exact ⟨ys, zs, h1, RepA.kept hk hs hL fs ys h2, RepA.kept hk hs hL cs zs h3⟩
  | .mp id, x, h => by
    simp only [Rep] at h ⊢
    obtain ⟨b, c, h1, h2⟩ := h
    exact ⟨b, c, hL _ _ h1, h2⟩
  | .ht id off n, x, h => by
    simp only [Rep] at h ⊢
    obtain ⟨b, c, o, cap, h1, h2⟩ := h
    exact ⟨b, c, o, cap, hL _ _ h1, h2⟩
  | .yld id, x, h => by
    simp only [Rep] at h ⊢
    obtain ⟨b, c, h1, h2⟩ := h
    exact ⟨b, c, hL _ _ h1, h2⟩
  | .mv ks vs, x, h => by
    simp only [Rep] at h ⊢
    obtain ⟨b, arr, clk, h1, h2, h3, h4, h5⟩ := h
    exact ⟨b, arr, clk, h1, hs _ h2, (hk.block b h2).trans h3, h4, RepA.kept hk hs (fun i p hi => by simp at hi) vs _ h5⟩
theorem RepA.kept (hk : Kept S w w') (hs : ∀ k, S k → S' k) {L L' : List (Nat × Nat)} (hL : ∀ (i : Nat) (p : Nat × Nat), L[i]? = some p → L'[i]? = some p) : ∀ (ds : List D) (xs : List Value), RepA S L w xs ds → RepA S' L' w' xs ds
  | [], xs, h => by simpa only [RepA] using h
  | d :: r, xs, h => by
    simp only [RepA] at h ⊢
    obtain ⟨x, ys, h1, h2, h3⟩ := h
    exact ⟨x, ys, h1, Rep.kept hk hs hL d x h2, RepA.kept hk hs hL r ys h3⟩
theorem RepC.kept (hk : Kept S w w') (hs : ∀ k, S k → S' k) {L L' : List (Nat × Nat)} (hL : ∀ (i : Nat) (p : Nat × Nat), L[i]? = some p → L'[i]? = some p) : ∀ (cs : List D) (b o : Nat), S b → RepC S L w b o cs → RepC S' L' w' b o cs
  | [], b, o, hb, h => by simp only [RepC]
  | d :: r, b, o, hb, h => by
    simp only [RepC] at h ⊢
    obtain ⟨⟨x, h1, h2⟩, h3⟩ := h
    exact ⟨⟨x, (hk.cell (p := ⟨b, o, none⟩) hb).trans h1, Rep.kept hk hs hL d x h2⟩, RepC.kept hk hs hL r b (o + 1) hb h3⟩
theorem RepR.kept (hk : Kept S w w') (hs : ∀ k, S k → S' k) {L L' : List (Nat × Nat)} (hL : ∀ (i : Nat) (p : Nat × Nat), L[i]? = some p → L'[i]? = some p) : ∀ (els : List (List D)) (b o sz : Nat), S b → RepR S L w b o sz els → RepR S' L' w' b o sz els
  | [], b, o, sz, hb, h => by simp only [RepR]
  | e :: r, b, o, sz, hb, h => by
    simp only [RepR] at h ⊢
    exact ⟨h.1, RepC.kept hk hs hL e b o hb h.2.1, RepR.kept hk hs hL r b (o + sz) sz hb h.2.2⟩
end
end

section
variable {S : Nat → Prop} {L : List (Nat × Nat)} {w : World}
theorem RepA.length {xs : List Value} {ds : List D} (h : RepA S L w xs ds) : xs.length = ds.length := by
  induction ds generalizing xs with
  | nil => simp only [RepA] at h; subst h; rfl
  | cons d r ih => simp only [RepA] at h; obtain ⟨x, ys, rfl, _, h⟩ := h; simp [ih h]
theorem RepA.get {xs : List Value} {ds : List D} (h : RepA S L w xs ds) (i : Nat) (d : D) (hd : ds[i]? = some d) : ∃ x, xs[i]? = some x ∧ Rep S L w x d := by
  induction ds generalizing xs i with
  | nil => simp at hd
  | cons e r ih =>
    simp only [RepA] at h
    obtain ⟨x, ys, rfl, h1, h2⟩ := h
    cases i with
    | zero => obtain rfl : e = d := by simpa using hd
              exact ⟨x, rfl, h1⟩
    | succ i => exact ih h2 i (by simpa using hd)
theorem RepA.take {xs : List Value} {ds : List D} (h : RepA S L w xs ds) (n : Nat) : RepA S L w (xs.take n) (ds.take n) := by
  induction ds generalizing xs n with
  | nil => simp only [RepA] at h; subst h; simp [RepA]
  | cons d r ih =>
    cases n with
    | zero => simp [RepA]
    | succ n =>
      simp only [RepA] at h
      obtain ⟨x, ys, rfl, h1, h2⟩ := h
      simp only [List.take_succ_cons, RepA]
      exact ⟨x, _, rfl, h1, ih h2 n⟩
theorem RepA.drop {xs : List Value} {ds : List D} (h : RepA S L w xs ds) (n : Nat) : RepA S L w (xs.drop n) (ds.drop n) := by
  induction ds generalizing xs n with
  | nil => simp only [RepA] at h; subst h; simp [RepA]
  | cons d r ih =>
    cases n with
    | zero => simpa using h
    | succ n =>
      simp only [RepA] at h
      obtain ⟨x, ys, rfl, h1, h2⟩ := h
      simpa using ih h2 n
theorem RepA.append {xs ys : List Value} {ds es : List D} (h : RepA S L w xs ds) (k : RepA S L w ys es) : RepA S L w (xs ++ ys) (ds ++ es) := by
  induction ds generalizing xs with
  | nil => simp only [RepA] at h; subst h; simpa using k
  | cons d r ih =>
    simp only [RepA] at h
    obtain ⟨x, zs, rfl, h1, h2⟩ := h
    simp only [List.cons_append, RepA]
    exact ⟨x, _, rfl, h1, ih h2⟩
theorem RepA.cons {x : Value} {xs : List Value} {d : D} {ds : List D} (h : Rep S L w x d) (k : RepA S L w xs ds) : RepA S L w (x :: xs) (d :: ds) := by
  simp only [RepA]; exact ⟨x, xs, rfl, h, k⟩
theorem RepA.nil : RepA S L w [] [] := by simp only [RepA]
theorem RepA.set {xs : List Value} {ds : List D} (h : RepA S L w xs ds) (i : Nat) {x : Value} {d : D} (hx : Rep S L w x d) : RepA S L w (xs.set i x) (ds.set i d) := by
  induction ds generalizing xs i with
  | nil => simp only [RepA] at h; subst h; simp [RepA]
  | cons e r ih =>
    simp only [RepA] at h
    obtain ⟨y, ys, rfl, h1, h2⟩ := h
    cases i with
    | zero => exact RepA.cons hx h2
    | succ i => exact RepA.cons h1 (ih h2 i)
theorem RepC.get {b o : Nat} {cs : List D} (h : RepC S L w b o cs) (i : Nat) (d : D) (hd : cs[i]? = some d) : ∃ x, w.cell? ⟨b, o + i, none⟩ = some x ∧ Rep S L w x d := by
  induction cs generalizing o i with
  | nil => simp at hd
  | cons e r ih =>
    simp only [RepC] at h
    cases i with
    | zero => obtain rfl : e = d := by simpa using hd
              exact h.1
    | succ i =>
      have := ih h.2 i (by simpa using hd)
      rwa [show o + (i + 1) = o + 1 + i from by omega]
theorem RepC.drop {b o : Nat} {cs : List D} (h : RepC S L w b o cs) (n : Nat) : RepC S L w b (o + n) (cs.drop n) := by
  induction cs generalizing o n with
  | nil => simp [RepC]
  | cons e r ih =>
    cases n with
    | zero => simpa using h
    | succ n =>
      simp only [RepC] at h
      have := ih h.2 n
      rwa [show o + (n + 1) = o + 1 + n from by omega, List.drop_succ_cons]
theorem RepC.take {b o : Nat} {cs : List D} (h : RepC S L w b o cs) (n : Nat) : RepC S L w b o (cs.take n) := by
  induction cs generalizing o n with
  | nil => simp [RepC]
  | cons e r ih =>
    cases n with
    | zero => simp [RepC]
    | succ n =>
      simp only [RepC] at h
      simp only [List.take_succ_cons, RepC]
      exact ⟨h.1, ih h.2 n⟩
/-- Cells, read one by one, are a struct's. -/
theorem RepC.values {b o : Nat} {cs : List D} (h : RepC S L w b o cs) : ∃ xs : List Value, RepA S L w xs cs ∧ ∀ j x, xs[j]? = some x → w.cell? ⟨b, o + j, none⟩ = some x := by
  induction cs generalizing o with
  | nil => exact ⟨[], RepA.nil, by simp⟩
  | cons e r ih =>
    simp only [RepC] at h
    obtain ⟨⟨x, h1, h2⟩, h3⟩ := h
    obtain ⟨xs, h4, h5⟩ := ih h3
    refine ⟨x :: xs, RepA.cons h2 h4, fun j y hj => ?_⟩
    cases j with
    | zero => obtain rfl : x = y := by simpa using hj
              exact h1
    | succ j =>
      have := h5 j y (by simpa using hj)
      rwa [show o + (j + 1) = o + 1 + j from by omega]
theorem RepC.of {b o : Nat} {xs : List Value} {cs : List D} (h : RepA S L w xs cs) (hc : ∀ j x, xs[j]? = some x → w.cell? ⟨b, o + j, none⟩ = some x) : RepC S L w b o cs := by
  induction cs generalizing o xs with
  | nil => simp [RepC]
  | cons e r ih =>
    simp only [RepA] at h
    obtain ⟨x, ys, rfl, h1, h2⟩ := h
    simp only [RepC]
    refine ⟨⟨x, by simpa using hc 0 x rfl, h1⟩, ih h2 fun j y hj => ?_⟩
    have := hc (j + 1) y (by simpa using hj)
    rwa [show o + 1 + j = o + (j + 1) from by omega]
theorem RepR.get {b o sz : Nat} {els : List (List D)} (h : RepR S L w b o sz els) (i : Nat) (e : List D) (he : els[i]? = some e) : e.length = sz ∧ RepC S L w b (o + i * sz) e := by
  induction els generalizing o i with
  | nil => simp at he
  | cons x r ih =>
    simp only [RepR] at h
    cases i with
    | zero => obtain rfl : x = e := by simpa using he
              simpa using ⟨h.1, h.2.1⟩
    | succ i =>
      have := ih h.2.2 i (by simpa using he)
      rwa [show o + (i + 1) * sz = o + sz + i * sz from by rw [Nat.succ_mul]; omega]
theorem RepR.drop {b o sz : Nat} {els : List (List D)} (h : RepR S L w b o sz els) (n : Nat) : RepR S L w b (o + n * sz) sz (els.drop n) := by
  induction els generalizing o n with
  | nil => simp [RepR]
  | cons x r ih =>
    cases n with
    | zero => simpa using h
    | succ n =>
      simp only [RepR] at h
      have := ih h.2.2 n
      rwa [show o + (n + 1) * sz = o + sz + n * sz from by rw [Nat.succ_mul]; omega, List.drop_succ_cons]
theorem RepR.take {b o sz : Nat} {els : List (List D)} (h : RepR S L w b o sz els) (n : Nat) : RepR S L w b o sz (els.take n) := by
  induction els generalizing o n with
  | nil => simp [RepR]
  | cons x r ih =>
    cases n with
    | zero => simp [RepR]
    | succ n =>
      simp only [RepR] at h
      simp only [List.take_succ_cons, RepR]
      exact ⟨h.1, h.2.1, ih h.2.2 n⟩
/-- A row of cells, cut into elements. -/
theorem RepR.of {b o sz : Nat} {els : List (List D)} (hl : ∀ e ∈ els, e.length = sz) (h : RepC S L w b o els.flatten) : RepR S L w b o sz els := by
  induction els generalizing o with
  | nil => simp [RepR]
  | cons x r ih =>
    simp only [RepR]
    have hx := hl x (by simp)
    refine ⟨hx, ?_, ih (fun e he => hl e (by simp [he])) ?_⟩
    · have := h.take x.length
      rwa [List.flatten_cons, List.take_left'  rfl] at this
    · have := h.drop x.length
      rwa [List.flatten_cons, List.drop_left' rfl, hx] at this
end

/-- What names no object of the call's own reads so beside any. -/
theorem Rep.lift {S : Nat → Prop} {L : List (Nat × Nat)} {w : World} {x : Value} {d : D} (h : Rep S [] w x d) : Rep S L w x d := Rep.kept (Kept.refl S w) (fun _ h => h) (fun i p hi => by simp at hi) d x h
theorem RepA.lift {S : Nat → Prop} {L : List (Nat × Nat)} {w : World} {xs : List Value} {ds : List D} (h : RepA S [] w xs ds) : RepA S L w xs ds := RepA.kept (Kept.refl S w) (fun _ h => h) (fun i p hi => by simp at hi) ds xs h

/-- A loop over a function: its body may be gone through; is being gone through; was left by a jump. -/
inductive LS where
  | ready
  | busy
  | done (lv : Lv)
def Lv.code : Lv → Code
  | .normal => .skip
  | .exit id => .exit id
  | .ret => .ret
def LS.state : LS → LoopState
  | .ready => .ready
  | .busy => .busy
  | .done _ => .done
def LS.pend : LS → Option Code
  | .done lv => some lv.code
  | _ => none
/-- Slots, of which some are known. -/
def getU : List Nat → List D → Nat → D
  | k :: kp, d :: s, t => if k = t then d else getU kp s t
  | _, _, _ => .undef
def frU (sz : Nat) (kp : List Nat) (s : List D) : List D := (List.range sz).map (getU kp s)
/-- An object of the call's own: a row, or a variable, of elements of type t, each sz cells; a map by ints; or one that is no more. -/
inductive HO where
  | cells (t : TypeId) (sz : Nat) (cs : List D)
  | map (ks : List Int) (vs : List D)
  | loop (st : LS) (ps : List Nat) (assign body : Code) (sz : Nat) (kp : List Nat) (s : List D)
  | dead
  deriving Inhabited
abbrev Heap := List HO

/-- Block b, of capacity c, is such an object. -/
def ObjOk (S : Nat → Prop) (L : List (Nat × Nat)) (w : World) (b c : Nat) : HO → Prop
  | .cells t sz cs => ∃ arr : Array Value, w.heap[b]? = some (.cells arr t (0, 0)) ∧ arr.size = c * sz ∧ c ≤ maxLen ∧ cs.length ≤ arr.size ∧
    ∀ (j : Nat) (d : D), cs[j]? = some d → ∃ x, arr[j]? = some x ∧ x.oneCell' = true ∧ Rep S L w x d
  | .map ks vs => ∃ (arr : Array MapEntry) (clk : Nat), w.heap[b]? = some (.map arr clk) ∧ arr.toList.map (·.key) = ks.map (Value.int .i64) ∧ RepA S L w (arr.toList.map (·.val)) vs
  | .loop st ps assign body sz kp s => ∃ r : Loop, w.heap[b]? = some (.loop r) ∧ r.state = st.state ∧ r.pending = st.pend ∧ r.params.toList = ps ∧ r.assign = assign ∧ r.body = body ∧ RepA S L w r.tmps.toList (frU sz kp s)
  | .dead => True
theorem ObjOk.mark {S : Nat → Prop} {L : List (Nat × Nat)} {w : World} {b c : Nat} {o : HO} (h : ObjOk S L w b c o) (ho : o ≠ .dead) (x : Option (List Deferred)) : w.heap[b]? ≠ some (.deferred x) := by
  cases o with
  | cells t sz cs => obtain ⟨arr, h1, _⟩ := h; rw [h1]; intro e; cases e
  | map ks vs => obtain ⟨arr, clk, h1, _⟩ := h; rw [h1]; intro e; cases e
  | loop st ps as bd sz kp s => obtain ⟨r, h1, _⟩ := h; rw [h1]; intro e; cases e
  | dead => exact absurd rfl ho
theorem ObjOk.lt {S : Nat → Prop} {L : List (Nat × Nat)} {w : World} {b c : Nat} {o : HO} (h : ObjOk S L w b c o) (ho : o ≠ .dead) : b < w.heap.size := by
  cases o with
  | cells t sz cs => obtain ⟨arr, h1, _⟩ := h; exact (Array.getElem?_eq_some_iff.1 h1).1
  | map ks vs => obtain ⟨arr, clk, h1, _⟩ := h; exact (Array.getElem?_eq_some_iff.1 h1).1
  | loop st ps as bd sz kp s => obtain ⟨r, h1, _⟩ := h; exact (Array.getElem?_eq_some_iff.1 h1).1
  | dead => exact absurd rfl ho
theorem ObjOk.kept {S S' : Nat → Prop} {L L' : List (Nat × Nat)} {w w' : World} {b c : Nat} {o : HO} (h : ObjOk S L w b c o) (hb : w'.heap[b]? = w.heap[b]?) (hr : ∀ x d, Rep S L w x d → Rep S' L' w' x d) (hra : ∀ xs ds, RepA S L w xs ds → RepA S' L' w' xs ds) : ObjOk S' L' w' b c o := by
  cases o with
  | cells t sz cs =>
    obtain ⟨arr, h1, h2, h3, h4, h5⟩ := h
    refine ⟨arr, hb.trans h1, h2, h3, h4, fun j d hd => ?_⟩
    obtain ⟨x, q1, q2, q3⟩ := h5 j d hd
    exact ⟨x, q1, q2, hr _ _ q3⟩
  | map ks vs =>
    obtain ⟨arr, clk, h1, h2, h3⟩ := h
    exact ⟨arr, clk, hb.trans h1, h2, hra _ _ h3⟩
  | loop st ps as bd sz kp s =>
    obtain ⟨r, h1, h2, h3, h4, h5, h6, h7⟩ := h
    exact ⟨r, hb.trans h1, h2, h3, h4, h5, h6, hra _ _ h7⟩
  | dead => trivial

/-- The objects of the call's own lie in blocks from B on, each in its own, apart from the blocks of S; L tells the block and the capacity of each. -/
structure HRel (B : Nat) (S : Nat → Prop) (L : List (Nat × Nat)) (w : World) (H : Heap) : Prop where
  len : L.length = H.length
  small : ∀ k, S k → k < w.heap.size
  base : B ≤ w.heap.size
  obj : ∀ (id : Nat) (o : HO), H[id]? = some o → o ≠ .dead → ∃ (b c : Nat), L[id]? = some (b, c) ∧ B ≤ b ∧ ¬ S b ∧ ObjOk S L w b c o
  inj : ∀ (id id' : Nat) (o o' : HO) (p p' : Nat × Nat), H[id]? = some o → o ≠ .dead → H[id']? = some o' → o' ≠ .dead → L[id]? = some p → L[id']? = some p' → p.1 = p'.1 → id = id'
theorem HRel.live {B : Nat} {S : Nat → Prop} {L : List (Nat × Nat)} {w : World} {H : Heap} (h : HRel B S L w H) (id : Nat) (t : TypeId) (sz : Nat) (cs : List D) (hid : H[id]? = some (HO.cells t sz cs)) :
    ∃ (b c : Nat) (arr : Array Value), L[id]? = some (b, c) ∧ B ≤ b ∧ ¬ S b ∧ w.heap[b]? = some (.cells arr t (0, 0)) ∧ arr.size = c * sz ∧ c ≤ maxLen ∧ cs.length ≤ arr.size ∧
      ∀ (j : Nat) (d : D), cs[j]? = some d → ∃ x, arr[j]? = some x ∧ x.oneCell' = true ∧ Rep S L w x d := by
  obtain ⟨b, c, h1, h2, h3, arr, h4⟩ := h.obj id _ hid (by intro e; cases e)
  exact ⟨b, c, arr, h1, h2, h3, h4⟩

theorem prefix_get {L L' : List (Nat × Nat)} (h : L <+: L') : ∀ (i : Nat) (p : Nat × Nat), L[i]? = some p → L'[i]? = some p := by
  obtain ⟨t, rfl⟩ := h
  intro i p hi
  have hlt := (List.getElem?_eq_some_iff.1 hi).1
  rw [List.getElem?_append_left hlt]; exact hi

/-- From one state to a later one: what is read by value stays; objects get new ones beside them; blocks for deferred calls stay open. -/
structure Later (B : Nat) (S S' : Nat → Prop) (L L' : List (Nat × Nat)) (w w' : World) : Prop where
  below : Below B w w'
  kept : Kept S w w'
  more : ∀ k, S k → S' k
  pre : L <+: L'
  only : ∀ k, S' k → S k ∨ w.heap.size ≤ k
  marks : ∀ k : Nat, w.heap[k]? = some (Obj.deferred (some [])) → w'.heap[k]? = some (Obj.deferred (some []))
theorem Later.refl {B : Nat} {S : Nat → Prop} {L : List (Nat × Nat)} {w : World} : Later B S S L L w w := ⟨Below.refl _ _, Kept.refl _ _, fun _ h => h, List.prefix_refl _, fun _ h => .inl h, fun _ h => h⟩
theorem Later.trans {B : Nat} {S S' S'' : Nat → Prop} {L L' L'' : List (Nat × Nat)} {w w' w'' : World} (h : Later B S S' L L' w w') (k : Later B S' S'' L' L'' w' w'') : Later B S S'' L L'' w w'' :=
  ⟨h.below.trans k.below, h.kept.trans (k.kept.mono h.more), fun i hi => k.more i (h.more i hi), h.pre.trans k.pre, fun i hi => (k.only i hi).elim (h.only i) fun hk => .inr (Nat.le_trans h.kept.size hk), fun i hi => k.marks i (h.marks i hi)⟩
theorem Later.rep {B : Nat} {S S' : Nat → Prop} {L L' : List (Nat × Nat)} {w w' : World} (h : Later B S S' L L' w w') {x : Value} {d : D} (hr : Rep S L w x d) : Rep S' L' w' x d := Rep.kept h.kept h.more (prefix_get h.pre) d x hr
theorem Later.repA {B : Nat} {S S' : Nat → Prop} {L L' : List (Nat × Nat)} {w w' : World} (h : Later B S S' L L' w w') {xs : List Value} {ds : List D} (hr : RepA S L w xs ds) : RepA S' L' w' xs ds := RepA.kept h.kept h.more (prefix_get h.pre) ds xs hr
end Go.Proofs.Ytnmgfobpcengkaa
