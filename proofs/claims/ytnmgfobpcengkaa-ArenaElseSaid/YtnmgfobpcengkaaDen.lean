/-
  A language of values without addresses: what a value of the program's reads as, and that it goes on reading so. Nothing here names the program.
-/
import Derived.WalkKit
import Derived.Lib.Hide
import Derived.Test.YtnmgfobpcengkaaBase
namespace Go.Proofs.Ytnmgfobpcengkaa
open Go.RowKit
set_option linter.unusedVariables false

/-- What a value reads as: itself; a slice's elements, each so many cells; what a pointer leads to; a struct's cells; several results. -/
inductive D where
  | undef
  | v (x : Value)
  | sl (sz : Nat) (els : List (List D))
  | ptr (cs : List D)
  | agg (cs : List D)
  | tup (ds : List D)
  deriving Inhabited

section
variable (S : Nat → Prop) (w : World)
mutual
def Rep (x : Value) : D → Prop
  | .undef => True
  | .v y => x = y
  | .sl sz els => (els = [] ∧ ∃ (p : Option Addr) (cap : Nat), x = .slice p 0 cap ∧ (p = none → cap = 0)) ∨
      ∃ (b o cap : Nat), x = .slice (some ⟨b, o, none⟩) els.length cap ∧ 0 < els.length ∧ els.length ≤ cap ∧ S b ∧ RepR b o sz els
  | .ptr cs => ∃ (b o : Nat), x = .pointer (some ⟨b, o, none⟩) ∧ S b ∧ RepC b o cs
  | .agg cs => ∃ xs : List Value, x = .agg xs.toArray ∧ RepA xs cs
  | .tup ds => ∃ xs : List Value, x = .tuple xs.toArray ∧ RepA xs ds
def RepA (xs : List Value) : List D → Prop
  | [] => xs = []
  | d :: r => ∃ x ys, xs = x :: ys ∧ Rep x d ∧ RepA ys r
def RepC (b o : Nat) : List D → Prop
  | [] => True
  | d :: r => (∃ x, w.cell? ⟨b, o, none⟩ = some x ∧ Rep x d) ∧ RepC b (o + 1) r
def RepR (b o sz : Nat) : List (List D) → Prop
  | [] => True
  | e :: r => e.length = sz ∧ RepC b o e ∧ RepR b (o + sz) sz r
end
end

section
variable {S S' : Nat → Prop} {w w' : World}
mutual
theorem Rep.kept (hk : Kept S w w') (hs : ∀ k, S k → S' k) : ∀ (d : D) (x : Value), Rep S w x d → Rep S' w' x d
  | .undef, x, h => by simp only [Rep]
  | .v y, x, h => by simpa only [Rep] using h
  | .sl sz els, x, h => by
    simp only [Rep] at h ⊢
    rcases h with h | ⟨b, o, cap, h1, h2, h3, h4, h5⟩
    · exact .inl h
    · exact .inr ⟨b, o, cap, h1, h2, h3, hs _ h4, RepR.kept hk hs els b o sz h4 h5⟩
  | .ptr cs, x, h => by
    simp only [Rep] at h ⊢
    obtain ⟨b, o, h1, h2, h3⟩ := h
    exact ⟨b, o, h1, hs _ h2, RepC.kept hk hs cs b o h2 h3⟩
  | .agg cs, x, h => by
    simp only [Rep] at h ⊢
    obtain ⟨xs, h1, h2⟩ := h
    exact ⟨xs, h1, RepA.kept hk hs cs xs h2⟩
  | .tup ds, x, h => by
    simp only [Rep] at h ⊢
    obtain ⟨xs, h1, h2⟩ := h
    exact ⟨xs, h1, RepA.kept hk hs ds xs h2⟩
theorem RepA.kept (hk : Kept S w w') (hs : ∀ k, S k → S' k) : ∀ (ds : List D) (xs : List Value), RepA S w xs ds → RepA S' w' xs ds
  | [], xs, h => by simpa only [RepA] using h
  | d :: r, xs, h => by
    simp only [RepA] at h ⊢
    obtain ⟨x, ys, h1, h2, h3⟩ := h
    exact ⟨x, ys, h1, Rep.kept hk hs d x h2, RepA.kept hk hs r ys h3⟩
theorem RepC.kept (hk : Kept S w w') (hs : ∀ k, S k → S' k) : ∀ (cs : List D) (b o : Nat), S b → RepC S w b o cs → RepC S' w' b o cs
  | [], b, o, hb, h => by simp only [RepC]
  | d :: r, b, o, hb, h => by
    simp only [RepC] at h ⊢
    obtain ⟨⟨x, h1, h2⟩, h3⟩ := h
    exact ⟨⟨x, (hk.cell (p := ⟨b, o, none⟩) hb).trans h1, Rep.kept hk hs d x h2⟩, RepC.kept hk hs r b (o + 1) hb h3⟩
theorem RepR.kept (hk : Kept S w w') (hs : ∀ k, S k → S' k) : ∀ (els : List (List D)) (b o sz : Nat), S b → RepR S w b o sz els → RepR S' w' b o sz els
  | [], b, o, sz, hb, h => by simp only [RepR]
  | e :: r, b, o, sz, hb, h => by
    simp only [RepR] at h ⊢
    exact ⟨h.1, RepC.kept hk hs e b o hb h.2.1, RepR.kept hk hs r b (o + sz) sz hb h.2.2⟩
end
end

section
variable {S : Nat → Prop} {w : World}
theorem RepA.length {xs : List Value} {ds : List D} (h : RepA S w xs ds) : xs.length = ds.length := by
  induction ds generalizing xs with
  | nil => simp only [RepA] at h; subst h; rfl
  | cons d r ih => simp only [RepA] at h; obtain ⟨x, ys, rfl, _, h⟩ := h; simp [ih h]
theorem RepA.get {xs : List Value} {ds : List D} (h : RepA S w xs ds) (i : Nat) (d : D) (hd : ds[i]? = some d) : ∃ x, xs[i]? = some x ∧ Rep S w x d := by
  induction ds generalizing xs i with
  | nil => simp at hd
  | cons e r ih =>
    simp only [RepA] at h
    obtain ⟨x, ys, rfl, h1, h2⟩ := h
    cases i with
    | zero => obtain rfl : e = d := by simpa using hd
              exact ⟨x, rfl, h1⟩
    | succ i => exact ih h2 i (by simpa using hd)
theorem RepA.take {xs : List Value} {ds : List D} (h : RepA S w xs ds) (n : Nat) : RepA S w (xs.take n) (ds.take n) := by
  induction ds generalizing xs n with
  | nil => simp only [RepA] at h; subst h; simp [RepA]
  | cons d r ih =>
    cases n with
    | zero => simp [RepA]
    | succ n =>
      simp only [RepA] at h
      obtain ⟨x, ys, rfl, h1, h2⟩ := h
      simp only [List.take_succ_cons, RepA]
      exact ⟨x, _, rfl, h1, ih h2 n⟩
theorem RepA.drop {xs : List Value} {ds : List D} (h : RepA S w xs ds) (n : Nat) : RepA S w (xs.drop n) (ds.drop n) := by
  induction ds generalizing xs n with
  | nil => simp only [RepA] at h; subst h; simp [RepA]
  | cons d r ih =>
    cases n with
    | zero => simpa using h
    | succ n =>
      simp only [RepA] at h
      obtain ⟨x, ys, rfl, h1, h2⟩ := h
      simpa using ih h2 n
theorem RepA.append {xs ys : List Value} {ds es : List D} (h : RepA S w xs ds) (k : RepA S w ys es) : RepA S w (xs ++ ys) (ds ++ es) := by
  induction ds generalizing xs with
  | nil => simp only [RepA] at h; subst h; simpa using k
  | cons d r ih =>
    simp only [RepA] at h
    obtain ⟨x, zs, rfl, h1, h2⟩ := h
    simp only [List.cons_append, RepA]
    exact ⟨x, _, rfl, h1, ih h2⟩
theorem RepA.cons {x : Value} {xs : List Value} {d : D} {ds : List D} (h : Rep S w x d) (k : RepA S w xs ds) : RepA S w (x :: xs) (d :: ds) := by
  simp only [RepA]; exact ⟨x, xs, rfl, h, k⟩
theorem RepA.nil : RepA S w [] [] := by simp only [RepA]
theorem RepA.set {xs : List Value} {ds : List D} (h : RepA S w xs ds) (i : Nat) {x : Value} {d : D} (hx : Rep S w x d) : RepA S w (xs.set i x) (ds.set i d) := by
  induction ds generalizing xs i with
  | nil => simp only [RepA] at h; subst h; simp [RepA]
  | cons e r ih =>
    simp only [RepA] at h
    obtain ⟨y, ys, rfl, h1, h2⟩ := h
    cases i with
    | zero => exact RepA.cons hx h2
    | succ i => exact RepA.cons h1 (ih h2 i)
theorem RepC.get {b o : Nat} {cs : List D} (h : RepC S w b o cs) (i : Nat) (d : D) (hd : cs[i]? = some d) : ∃ x, w.cell? ⟨b, o + i, none⟩ = some x ∧ Rep S w x d := by
  induction cs generalizing o i with
  | nil => simp at hd
  | cons e r ih =>
    simp only [RepC] at h
    cases i with
    | zero => obtain rfl : e = d := by simpa using hd
              exact h.1
    | succ i =>
      have := ih h.2 i (by simpa using hd)
      rwa [show o + (i + 1) = o + 1 + i from by omega]
theorem RepC.drop {b o : Nat} {cs : List D} (h : RepC S w b o cs) (n : Nat) : RepC S w b (o + n) (cs.drop n) := by
  induction cs generalizing o n with
  | nil => simp [RepC]
  | cons e r ih =>
    cases n with
    | zero => simpa using h
    | succ n =>
      simp only [RepC] at h
      have := ih h.2 n
      rwa [show o + (n + 1) = o + 1 + n from by omega, List.drop_succ_cons]
theorem RepC.take {b o : Nat} {cs : List D} (h : RepC S w b o cs) (n : Nat) : RepC S w b o (cs.take n) := by
  induction cs generalizing o n with
  | nil => simp [RepC]
  | cons e r ih =>
    cases n with
    | zero => simp [RepC]
    | succ n =>
      simp only [RepC] at h
      simp only [List.take_succ_cons, RepC]
      exact ⟨h.1, ih h.2 n⟩
/-- Cells, read one by one, are a struct's. -/
theorem RepC.values {b o : Nat} {cs : List D} (h : RepC S w b o cs) : ∃ xs : List Value, RepA S w xs cs ∧ ∀ j x, xs[j]? = some x → w.cell? ⟨b, o + j, none⟩ = some x := by
  induction cs generalizing o with
  | nil => exact ⟨[], RepA.nil, by simp⟩
  | cons e r ih =>
    simp only [RepC] at h
    obtain ⟨⟨x, h1, h2⟩, h3⟩ := h
    obtain ⟨xs, h4, h5⟩ := ih h3
    refine ⟨x :: xs, RepA.cons h2 h4, fun j y hj => ?_⟩
    cases j with
    | zero => obtain rfl : x = y := by simpa using hj
              exact h1
    | succ j =>
      have := h5 j y (by simpa using hj)
      rwa [show o + (j + 1) = o + 1 + j from by omega]
theorem RepC.of {b o : Nat} {xs : List Value} {cs : List D} (h : RepA S w xs cs) (hc : ∀ j x, xs[j]? = some x → w.cell? ⟨b, o + j, none⟩ = some x) : RepC S w b o cs := by
  induction cs generalizing o xs with
  | nil => simp [RepC]
  | cons e r ih =>
    simp only [RepA] at h
    obtain ⟨x, ys, rfl, h1, h2⟩ := h
    simp only [RepC]
    refine ⟨⟨x, by simpa using hc 0 x rfl, h1⟩, ih h2 fun j y hj => ?_⟩
    have := hc (j + 1) y (by simpa using hj)
    rwa [show o + 1 + j = o + (j + 1) from by omega]
theorem RepR.get {b o sz : Nat} {els : List (List D)} (h : RepR S w b o sz els) (i : Nat) (e : List D) (he : els[i]? = some e) : e.length = sz ∧ RepC S w b (o + i * sz) e := by
  induction els generalizing o i with
  | nil => simp at he
  | cons x r ih =>
    simp only [RepR] at h
    cases i with
    | zero => obtain rfl : x = e := by simpa using he
              simpa using ⟨h.1, h.2.1⟩
    | succ i =>
      have := ih h.2.2 i (by simpa using he)
      rwa [show o + (i + 1) * sz = o + sz + i * sz from by rw [Nat.succ_mul]; omega]
theorem RepR.drop {b o sz : Nat} {els : List (List D)} (h : RepR S w b o sz els) (n : Nat) : RepR S w b (o + n * sz) sz (els.drop n) := by
  induction els generalizing o n with
  | nil => simp [RepR]
  | cons x r ih =>
    cases n with
    | zero => simpa using h
    | succ n =>
      simp only [RepR] at h
      have := ih h.2.2 n
      rwa [show o + (n + 1) * sz = o + sz + n * sz from by rw [Nat.succ_mul]; omega, List.drop_succ_cons]
theorem RepR.take {b o sz : Nat} {els : List (List D)} (h : RepR S w b o sz els) (n : Nat) : RepR S w b o sz (els.take n) := by
  induction els generalizing o n with
  | nil => simp [RepR]
  | cons x r ih =>
    cases n with
    | zero => simp [RepR]
    | succ n =>
      simp only [RepR] at h
      simp only [List.take_succ_cons, RepR]
      exact ⟨h.1, h.2.1, ih h.2.2 n⟩
/-- A row of cells, cut into elements. -/
theorem RepR.of {b o sz : Nat} {els : List (List D)} (hl : ∀ e ∈ els, e.length = sz) (h : RepC S w b o els.flatten) : RepR S w b o sz els := by
  induction els generalizing o with
  | nil => simp [RepR]
  | cons x r ih =>
    simp only [RepR]
    have hx := hl x (by simp)
    refine ⟨hx, ?_, ih (fun e he => hl e (by simp [he])) ?_⟩
    · have := h.take x.length
      rwa [List.flatten_cons, List.take_left'  rfl] at this
    · have := h.drop x.length
      rwa [List.flatten_cons, List.drop_left' rfl, hx] at this
end

/-- As things stand in w. -/
abbrev RepAt (w : World) (x : Value) (d : D) : Prop := Rep (· < w.heap.size) w x d
theorem RepAt.below {w w' : World} {x : Value} {d : D} (h : RepAt w x d) (hb : Below w.heap.size w w') : RepAt w' x d :=
  Rep.kept (kept_below hb) (fun _ hk => Nat.lt_of_lt_of_le hk hb.size) d x h
theorem RepA.below {w w' : World} {xs : List Value} {ds : List D} (h : RepA (· < w.heap.size) w xs ds) (hb : Below w.heap.size w w') : RepA (· < w'.heap.size) w' xs ds :=
  RepA.kept (kept_below hb) (fun _ hk => Nat.lt_of_lt_of_le hk hb.size) ds xs h
end Go.Proofs.Ytnmgfobpcengkaa
