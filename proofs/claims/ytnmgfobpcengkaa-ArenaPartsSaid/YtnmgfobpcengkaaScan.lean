/-
  Plain laws on how nodes are read: what is wanted adds up; a node's kids stand one behind the other.
-/
import Derived.Test.YtnmgfobpcengkaaBase
namespace Go.Proofs.Ytnmgfobpcengkaa

theorem scan_add (a b : Nat) (l : List Nd) : scan (a + b) l = (scan a l).bind fun m => (scan b (l.drop m)).map (m + ·) := by
  induction l generalizing a with
  | nil =>
    cases a with
    | zero => simp [scan_zero]
    | succ a =>
      rw [scan_nil _ (by omega), scan_nil _ (by omega)]
      rfl
  | cons x r ih =>
    cases a with
    | zero => simp [scan_zero]
    | succ a =>
      rw [show a + 1 + b = (a + b) + 1 from by omega, scan_cons, scan_cons]
      by_cases hx : ar x < 0
      · rw [if_pos hx, if_pos hx]; rfl
      · rw [if_neg hx, if_neg hx, show a + b + (ar x).toNat = (a + (ar x).toNat) + b from by omega, ih]
        cases scan (a + (ar x).toNat) r with
        | none => rfl
        | some m =>
          simp only [Option.bind_some, Option.map_some, List.drop_succ_cons]
          cases scan b (r.drop m) with
          | none => rfl
          | some c => simp only [Option.map_some, Option.some.injEq]; omega

theorem scan_le (k : Nat) (l : List Nd) (m : Nat) (h : scan k l = some m) : m ≤ l.length := by
  induction l generalizing k m with
  | nil =>
    cases k with
    | zero => rw [scan_zero] at h; cases h; simp
    | succ k => rw [scan_nil _ (by omega)] at h; cases h
  | cons x r ih =>
    cases k with
    | zero => rw [scan_zero] at h; cases h; simp
    | succ k =>
      rw [scan_cons] at h
      by_cases hx : ar x < 0
      · rw [if_pos hx] at h; cases h
      · rw [if_neg hx] at h
        cases hs : scan (k + (ar x).toNat) r with
        | none => rw [hs] at h; cases h
        | some c =>
          rw [hs] at h
          have := ih _ _ hs
          simp only [Option.map_some, Option.some.injEq] at h
          simp only [List.length_cons]
          omega
/-- At least as many nodes are read as are wanted. -/
theorem scan_ge (k : Nat) (l : List Nd) (m : Nat) (h : scan k l = some m) : k ≤ m := by
  induction l generalizing k m with
  | nil =>
    cases k with
    | zero => omega
    | succ k => rw [scan_nil _ (by omega)] at h; cases h
  | cons x r ih =>
    cases k with
    | zero => omega
    | succ k =>
      rw [scan_cons] at h
      by_cases hx : ar x < 0
      · rw [if_pos hx] at h; cases h
      · rw [if_neg hx] at h
        cases hs : scan (k + (ar x).toNat) r with
        | none => rw [hs] at h; cases h
        | some c =>
          rw [hs] at h
          have := ih _ _ hs
          simp only [Option.map_some, Option.some.injEq] at h
          omega
/-- What is read hangs on what is read alone. -/
theorem scan_take (k : Nat) (l : List Nd) (m : Nat) (h : scan k l = some m) (r' : List Nd) : scan k (l.take m ++ r') = some m := by
  induction l generalizing k m with
  | nil =>
    cases k with
    | zero => rw [scan_zero] at h ⊢; exact h
    | succ k => rw [scan_nil _ (by omega)] at h; cases h
  | cons x r ih =>
    cases k with
    | zero => rw [scan_zero] at h ⊢; exact h
    | succ k =>
      rw [scan_cons] at h
      by_cases hx : ar x < 0
      · rw [if_pos hx] at h; cases h
      · rw [if_neg hx] at h
        cases hs : scan (k + (ar x).toNat) r with
        | none => rw [hs] at h; cases h
        | some c =>
          rw [hs] at h
          simp only [Option.map_some, Option.some.injEq] at h
          subst h
          rw [List.take_succ_cons, List.cons_append, scan_cons, if_neg hx, ih _ _ hs]
          rfl

theorem endv_some (l : List Nd) (k m : Nat) (h : scan 1 (l.drop k) = some m) : endv l k = ((k + m : Nat) : Int) := by
  rw [endv_nat]; show fin k (scan 1 (l.drop k)) = _; rw [h]; simp [fin]
theorem endv_get (l : List Nd) (k : Nat) (h : 0 ≤ endv l k) : ∃ m, scan 1 (l.drop k) = some m ∧ endv l k = ((k + m : Nat) : Int) := by
  cases hs : scan 1 (l.drop k) with
  | none => rw [endv_nat] at h; change 0 ≤ fin k (scan 1 (l.drop k)) at h; rw [hs] at h; simp [fin] at h
  | some m => exact ⟨m, rfl, endv_some l k m hs⟩
theorem endv_le (l : List Nd) (i : Int) : endv l i ≤ l.length := by
  rcases endv_bound l i with h | h
  · omega
  · obtain ⟨h0, hl⟩ := endv_in l i h
    obtain ⟨k, rfl⟩ := Int.eq_ofNat_of_zero_le h0
    obtain ⟨m, hs, he⟩ := endv_get l k h
    have := scan_le _ _ _ hs
    simp only [List.length_drop] at this
    have hk : k < l.length := by simpa using hl
    omega
theorem endv_gt (l : List Nd) (i : Int) (h : 0 ≤ endv l i) : i < endv l i := by
  obtain ⟨h0, hl⟩ := endv_in l i h
  obtain ⟨k, rfl⟩ := Int.eq_ofNat_of_zero_le h0
  obtain ⟨m, hs, he⟩ := endv_get l k h
  have := scan_ge _ _ _ hs
  omega

/-- A node that may be: what stands behind it is read as many times as it has kids. -/
theorem scan_node (l : List Nd) (k : Nat) (h : 0 ≤ endv l k) : ∃ c, scan (arAt l k).toNat (l.drop (k + 1)) = some c ∧ endv l k = ((k + 1 + c : Nat) : Int) := by
  obtain ⟨m, hs, he⟩ := endv_get l k h
  have hk : k < l.length := by have := (endv_in l k h).2; simpa using this
  have har := endv_ar l k h
  rw [arAt_in l k hk] at har ⊢
  rw [List.drop_eq_getElem_cons hk, show (1 : Nat) = 0 + 1 from rfl, scan_cons, if_neg (by omega), Nat.zero_add] at hs
  cases hc : scan (ar l[k]).toNat (l.drop (k + 1)) with
  | none => rw [hc] at hs; cases hs
  | some c =>
    rw [hc] at hs
    simp only [Option.map_some, Option.some.injEq] at hs
    exact ⟨c, rfl, by rw [he]; omega⟩

/-- The j-th kid stands behind what is read for j nodes. -/
theorem kth_at (l : List Nd) (k : Nat) (h : 0 ≤ endv l k) (j : Nat) (hj : j ≤ (arAt l k).toNat) : ∃ m, scan j (l.drop (k + 1)) = some m ∧ kth l (k + 1) j = ((k + 1 + m : Nat) : Int) := by
  obtain ⟨c, hc, _⟩ := scan_node l k h
  induction j with
  | zero => exact ⟨0, scan_zero _, rfl⟩
  | succ j ih =>
    obtain ⟨m, hm, hkm⟩ := ih (by omega)
    have hle := scan_add (j + 1) ((arAt l k).toNat - (j + 1)) (l.drop (k + 1))
    rw [show j + 1 + ((arAt l k).toNat - (j + 1)) = (arAt l k).toNat from by omega, hc] at hle
    cases hs : scan (j + 1) (l.drop (k + 1)) with
    | none => rw [hs] at hle; cases hle
    | some m' =>
      refine ⟨m', rfl, ?_⟩
      rw [scan_add, hm] at hs
      simp only [Option.bind_some, List.drop_drop] at hs
      cases h1 : scan 1 (l.drop (k + 1 + m)) with
      | none => rw [h1] at hs; cases hs
      | some d =>
        rw [h1] at hs
        simp only [Option.map_some, Option.some.injEq] at hs
        show endv l (kth l (k + 1) j) = _
        rw [hkm, endv_some l _ d h1]
        omega
/-- The last kid's end is the node's. -/
theorem kth_last (l : List Nd) (k : Nat) (h : 0 ≤ endv l k) : kth l (k + 1) (arAt l k).toNat = endv l k := by
  obtain ⟨c, hc, he⟩ := scan_node l k h
  obtain ⟨m, hm, hk⟩ := kth_at l k h _ (Nat.le_refl _)
  rw [hc] at hm
  cases hm
  rw [hk, he]
/-- A kid that is one has an end. -/
theorem kth_end (l : List Nd) (k : Nat) (h : 0 ≤ endv l k) (j : Nat) (hj : j < (arAt l k).toNat) : kth l (k + 1) j < kth l (k + 1) (j + 1) ∧ endv l (kth l (k + 1) j) = kth l (k + 1) (j + 1) := by
  refine ⟨?_, rfl⟩
  obtain ⟨m, _, hk⟩ := kth_at l k h (j + 1) hj
  exact endv_gt l _ (show 0 ≤ endv l (kth l (k + 1) j) by have : kth l (k + 1) (j + 1) = endv l (kth l (k + 1) j) := rfl; omega)
theorem kth_mono (l : List Nd) (k : Nat) (h : 0 ≤ endv l k) (j d : Nat) (hj : j + d ≤ (arAt l k).toNat) : kth l (k + 1) j + d ≤ kth l (k + 1) (j + d) := by
  induction d with
  | zero => simp
  | succ d ih =>
    have h1 := ih (by omega)
    have h2 := (kth_end l k h (j + d) (by omega)).1
    rw [show j + (d + 1) = j + d + 1 from by omega]
    omega
theorem kth_range (l : List Nd) (k : Nat) (h : 0 ≤ endv l k) (j : Nat) (hj : j < (arAt l k).toNat) : (k : Int) < kth l (k + 1) j ∧ kth l (k + 1) j < endv l k ∧ 0 ≤ endv l (kth l (k + 1) j) ∧ endv l (kth l (k + 1) j) ≤ endv l k := by
  have h0 := kth_mono l k h 0 j (by omega)
  have h1 := kth_end l k h j hj
  have h2 := kth_mono l k h (j + 1) ((arAt l k).toNat - (j + 1)) (by omega)
  rw [show j + 1 + ((arAt l k).toNat - (j + 1)) = (arAt l k).toNat from by omega, kth_last l k h] at h2
  have h3 : kth l (k + 1) 0 = k + 1 := rfl
  rw [Nat.zero_add] at h0
  omega
theorem mem_kidsv (l : List Nd) (k : Nat) (x : Int) (hx : x ∈ kidsv l k) : 0 ≤ endv l k ∧ ∃ j, j < (arAt l k).toNat ∧ x = kth l (k + 1) j := by
  by_cases h : endv l k < 0
  · rw [kidsv_no l k h] at hx; cases hx
  · have h' : 0 ≤ endv l k := by omega
    rw [kidsv_eq l k h'] at hx
    simp only [upto, List.mem_map, List.mem_range] at hx
    obtain ⟨j, hj, rfl⟩ := hx
    exact ⟨h', j, hj, rfl⟩
theorem kidsv_fact (l : List Nd) (i : Int) (c : Nat) (h : c < (kidsv l i).length) : i < (kidsv l i)[c] ∧ 0 ≤ i ∧ (kidsv l i)[c] ≤ l.length := by
  have hm := List.getElem_mem h
  have hp : 0 ≤ endv l i := by
    rcases endv_bound l i with h1 | h1
    · rw [kidsv_no l i (by omega)] at h; simp at h
    · exact h1
  obtain ⟨h0, _⟩ := endv_in l i hp
  obtain ⟨k, rfl⟩ := Int.eq_ofNat_of_zero_le h0
  obtain ⟨_, j, hj, hx⟩ := mem_kidsv l k _ hm
  have := kth_range l k hp j hj
  have := endv_le l k
  omega

theorem kidsv_len (l : List Nd) (i : Int) : (kidsv l i).length ≤ 200 := by
  unfold kidsv
  split
  · simp
  · have := arAt_bound l i
    rw [List.length_map, List.length_range]
    omega
end Go.Proofs.Ytnmgfobpcengkaa
