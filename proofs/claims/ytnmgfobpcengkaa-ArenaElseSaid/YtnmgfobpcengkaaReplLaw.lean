/-
  Plain laws on parts that are replaced.
-/
import Derived.Test.YtnmgfobpcengkaaPart
namespace Go.Proofs.Ytnmgfobpcengkaa

/-- Whatever stands behind the first k nodes, as many are wanted of it. -/
theorem scan_prefix (k : Nat) : ∀ (a : Nat) (l : List Nd) (t : Nat), scan a l = some t → k < t → ∃ w, 1 ≤ w ∧ ∀ s, scan a (l.take k ++ s) = (scan w s).map (k + ·) := by
  induction k with
  | zero =>
    intro a l t h hk
    refine ⟨a, ?_, fun s => ?_⟩
    · cases a with
      | zero => rw [scan_zero] at h; cases h; omega
      | succ a => omega
    · simp only [List.take_zero, List.nil_append, Nat.zero_add]
      cases scan a s <;> rfl
  | succ k ih =>
    intro a l t h hk
    cases a with
    | zero => rw [scan_zero] at h; cases h; omega
    | succ a =>
      cases l with
      | nil => rw [scan_nil _ (by omega)] at h; cases h
      | cons x r =>
        rw [scan_cons] at h
        by_cases hx : ar x < 0
        · rw [if_pos hx] at h; cases h
        · rw [if_neg hx] at h
          cases hs : scan (a + (ar x).toNat) r with
          | none => rw [hs] at h; cases h
          | some t' =>
            rw [hs] at h
            simp only [Option.map_some, Option.some.injEq] at h
            obtain ⟨w, hw, hall⟩ := ih _ _ _ hs (by omega)
            refine ⟨w, hw, fun s => ?_⟩
            rw [List.take_succ_cons, List.cons_append, scan_cons, if_neg hx, hall]
            cases scan w s with
            | none => rfl
            | some c => simp only [Option.map_some, Option.some.injEq]; omega

section
variable {l r : List Nd} {k : Nat}
theorem whole_scan (h : endv r 0 = r.length) : scan 1 r = some r.length := by
  obtain ⟨m, hs, he⟩ := endv_get r 0 (by show 0 ≤ endv r 0; rw [h]; omega)
  rw [List.drop_zero] at hs
  have : endv r 0 = ((0 + m : Nat) : Int) := he
  rw [hs]
  congr 1
  omega
theorem whole_pos (h : endv r 0 = r.length) : 0 < r.length := by
  have := whole_scan h
  have := scan_ge _ _ _ this
  omega
theorem whole_of (h : scan 1 r = some r.length) : endv r 0 = r.length := by
  have := endv_some r 0 r.length (by rw [List.drop_zero]; exact h)
  have e : endv r 0 = ((0 + r.length : Nat) : Int) := this
  rw [e, Nat.zero_add]
theorem repl_end (hE : 0 ≤ endv l k) (hr : endv r 0 = r.length) : endv (replV l k r) k = ((k + r.length : Nat) : Int) := by
  have hkl : k < l.length := by have := (endv_in l k hE).2; simpa using this
  obtain ⟨m, hs, he⟩ := endv_get l k hE
  have hnlt : ¬ endv l k < 0 := by omega
  refine endv_some _ k r.length ?_
  rw [replV, if_neg hnlt, he, List.append_assoc]
  rw [show ((k : Int)).toNat = k from rfl, List.drop_append_of_le_length (by simp; omega), List.drop_eq_nil_of_le (by simp; omega), List.nil_append]
  have := scan_take 1 r r.length (whole_scan hr) (l.drop (((k + m : Nat) : Int)).toNat)
  rwa [List.take_length] at this
theorem repl_len (hE : 0 ≤ endv l k) : (replV l k r).length + (partV l k).length = l.length + r.length := by
  have hkl : k < l.length := by have := (endv_in l k hE).2; simpa using this
  have hnlt : ¬ endv l k < 0 := by omega
  have hle := endv_le l k
  have hgt := endv_gt l k hE
  rw [replV, if_neg hnlt, partV, if_neg hnlt]
  simp
  omega
theorem repl_part (hE : 0 ≤ endv l k) (hr : endv r 0 = r.length) : partV (replV l k r) k = r := by
  have hkl : k < l.length := by have := (endv_in l k hE).2; simpa using this
  have hnlt : ¬ endv l k < 0 := by omega
  have h1 := repl_end hE hr
  rw [partV, if_neg (by omega), h1, replV, if_neg hnlt]
  rw [show ((k : Int)).toNat = k from rfl, show (((k + r.length : Nat) : Int)).toNat = k + r.length from rfl, List.append_assoc]
  rw [List.take_append, List.drop_append]
  have h2 : (l.take k).length = k := by simp; omega
  simp [h2]
theorem repl_back (hE : 0 ≤ endv l k) (hr : endv r 0 = r.length) : replV (replV l k r) k (partV l k) = l := by
  have hkl : k < l.length := by have := (endv_in l k hE).2; simpa using this
  have hnlt : ¬ endv l k < 0 := by omega
  have h1 := repl_end hE hr
  have hle := endv_le l k
  have hgt := endv_gt l k hE
  obtain ⟨m, hm⟩ := Int.eq_ofNat_of_zero_le hE
  rw [hm] at hle hgt
  rw [replV, if_neg (by omega), h1]
  have e1 : replV l k r = l.take k ++ r ++ l.drop m := by rw [replV, if_neg hnlt, hm]; rfl
  have e2 : partV l k = (l.take m).drop k := by rw [partV, if_neg hnlt, hm]; rfl
  rw [e1, e2, show ((k : Int)).toNat = k from rfl, show (((k + r.length : Nat) : Int)).toNat = k + r.length from rfl]
  have h2 : (l.take k).length = k := by simp; omega
  have e3 : (l.take k ++ r ++ l.drop m).take k = l.take k := by rw [List.append_assoc, List.take_append_of_le_length (by omega), List.take_of_length_le (by omega)]
  have e4 : (l.take k ++ r ++ l.drop m).drop (k + r.length) = l.drop m := by
    rw [List.drop_append, List.drop_eq_nil_of_le (by simp; omega)]
    simp; omega
  have e5 : l.take k ++ (l.take m).drop k = l.take m := by
    rw [show l.take k = (l.take m).take k from by rw [List.take_take]; congr 1; omega]
    exact List.take_append_drop _ _
  rw [e3, e4, e5, List.take_append_drop]
/-- What is replaced by a whole in a whole, is a whole. -/
theorem repl_whole (hl : endv l 0 = l.length) (hE : 0 ≤ endv l k) (hr : endv r 0 = r.length) : endv (replV l k r) 0 = (replV l k r).length := by
  have hkl : k < l.length := by have := (endv_in l k hE).2; simpa using this
  have hnlt : ¬ endv l k < 0 := by omega
  obtain ⟨m, hs, he⟩ := endv_get l k hE
  have hle := endv_le l k
  obtain ⟨w, hw, hall⟩ := scan_prefix k 1 l l.length (whole_scan hl) hkl
  have h0 := hall (l.drop k)
  rw [List.take_append_drop, whole_scan hl] at h0
  obtain ⟨v, rfl⟩ : ∃ v, w = 1 + v := ⟨w - 1, by omega⟩
  rw [scan_add, hs] at h0
  simp only [Option.bind_some, List.drop_drop] at h0
  have e1 : replV l k r = l.take k ++ (r ++ l.drop (k + m)) := by rw [replV, if_neg hnlt, he, List.append_assoc]; rfl
  have h1 := hall (r ++ l.drop (k + m))
  have h2 : scan 1 (r ++ l.drop (k + m)) = some r.length := by
    have := scan_take 1 r r.length (whole_scan hr) (l.drop (k + m))
    rwa [List.take_length] at this
  rw [scan_add, h2] at h1
  simp only [Option.bind_some] at h1
  rw [List.drop_left' rfl] at h1
  refine whole_of ?_
  rw [e1, h1]
  cases hv : scan v (l.drop (k + m)) with
  | none => rw [hv] at h0; cases h0
  | some c =>
    rw [hv] at h0
    simp only [Option.map_some, Option.some.injEq] at h0 ⊢
    simp
    omega
theorem repl_before (hE : 0 ≤ endv l k) (j : Nat) (hj : j < k) : (replV l k r)[j]? = l[j]? := by
  have hkl : k < l.length := by have := (endv_in l k hE).2; simpa using this
  rw [replV, if_neg (by omega), List.append_assoc, List.getElem?_append_left (by simp; omega)]
  simp [hj]
theorem repl_behind (hE : 0 ≤ endv l k) (j : Nat) (hj : endv l k ≤ j) : (replV l k r)[j - (endv l k).toNat + k + r.length]? = l[j]? := by
  have hkl : k < l.length := by have := (endv_in l k hE).2; simpa using this
  obtain ⟨m, hm⟩ := Int.eq_ofNat_of_zero_le hE
  rw [hm] at hj ⊢
  have hj' : m ≤ j := by omega
  rw [replV, if_neg (by omega), hm, show ((m : Int)).toNat = m from rfl, show ((k : Int)).toNat = k from rfl, List.getElem?_append_right (by simp; omega)]
  simp only [List.length_append, List.length_take, List.getElem?_drop]
  congr 1
  omega
end
end Go.Proofs.Ytnmgfobpcengkaa
