/-
  Parts of a list of nodes, one behind the other; how deep kids are. By definition.
-/
import Derived.Test.YtnmgfobpcengkaaPart
import Derived.Test.YtnmgfobpcengkaaDepthV
namespace Go.Proofs.Ytnmgfobpcengkaa
open Go.RowKit
set_option linter.unusedVariables false
set_option linter.unusedSimpArgs false

theorem depTo_ge (f : Nat) (l : List Nd) (ks : List Int) (x : Int) (h : x ∈ ks) : depV f l x ≤ depTo f l ks := by
  have key : ∀ (ks : List Int) (m : Int), m ≤ ks.foldl (fun m k => max m (depV f l k)) m ∧ ∀ x ∈ ks, depV f l x ≤ ks.foldl (fun m k => max m (depV f l k)) m := by
    intro ks
    induction ks with
    | nil => intro m; exact ⟨Int.le_refl _, by simp⟩
    | cons k ks ih =>
      intro m
      have h1 := ih (max m (depV f l k))
      simp only [List.foldl_cons]
      refine ⟨by omega, fun x hx => ?_⟩
      rcases List.mem_cons.1 hx with rfl | hx
      · omega
      · exact h1.2 x hx
  exact (key ks 0).2 x h
theorem foldl_depV (a b : Nat) (l : List Nd) (ks : List Int) (h : ∀ k ∈ ks, depV a l k = depV b l k) : depTo a l ks = depTo b l ks := by
  have key : ∀ (ks : List Int) (m : Int), (∀ k ∈ ks, depV a l k = depV b l k) → ks.foldl (fun m k => max m (depV a l k)) m = ks.foldl (fun m k => max m (depV b l k)) m := by
    intro ks
    induction ks with
    | nil => intro m _; rfl
    | cons k ks ih =>
      intro m h
      simp only [List.foldl_cons]
      rw [h k (List.mem_cons_self ..)]
      exact ih _ fun x hx => h x (List.mem_cons_of_mem _ hx)
  exact key ks 0 h
theorem depV_deep : ∀ (a b : Nat) (l : List Nd) (i : Int), l.length ≤ i.toNat + a → l.length ≤ i.toNat + b → depV a l i = depV b l i
  | 0, 0, l, i, ha, hb => rfl
  | 0, b + 1, l, i, ha, hb => by
    rw [depV_no (b + 1) l i]
    · rfl
    · rcases endv_bound l i with e | e
      · omega
      · have := (endv_in l i e).2; omega
  | a + 1, 0, l, i, ha, hb => by
    rw [depV_no (a + 1) l i]
    · rfl
    · rcases endv_bound l i with e | e
      · omega
      · have := (endv_in l i e).2; omega
  | a + 1, b + 1, l, i, ha, hb => by
    rcases endv_bound l i with e | e
    · rw [depV_no _ _ _ (by omega), depV_no _ _ _ (by omega)]
    · rw [depV_yes _ _ _ e, depV_yes _ _ _ e]
      rw [foldl_depV a b l _ fun k hk => ?_]
      have := kidsv_mem l i k hk
      exact depV_deep a b l k (by omega) (by omega)
/-- A kid is less deep than its node. -/
theorem kid_depth (l : List Nd) (i : Int) (x : Int) (h : x ∈ kidsv l i) (he : 0 ≤ endv l i) : depV l.length l x < depV l.length l i := by
  have hl := (endv_in l i he).2
  have hm := kidsv_mem l i x h
  obtain ⟨n, hn⟩ : ∃ n, l.length = n + 1 := ⟨l.length - 1, by omega⟩
  rw [hn, depV_yes _ _ _ he, ← depV_deep n (n + 1) l x (by omega) (by omega)]
  have := depTo_ge n l _ x h
  omega

/-- The nodes from k to the j-th kid. -/
def accV (l : List Nd) (k j : Nat) : List Nd := (l.take (kth l (k + 1) j).toNat).drop k
theorem acc_zero (l : List Nd) (k : Nat) (h : k < l.length) : accV l k 0 = [l[k]] := by
  simp only [accV, kth]
  rw [show ((k : Int) + 1).toNat = k + 1 from by omega, List.take_succ_eq_append_getElem h, List.drop_left' (by simp; omega)]
theorem acc_last (l : List Nd) (k : Nat) (h : 0 ≤ endv l k) : accV l k (arAt l k).toNat = partV l k := by
  rw [accV, kth_last l k h, partV, if_neg (by omega)]; simp
theorem acc_succ (l : List Nd) (k : Nat) (h : 0 ≤ endv l k) (j : Nat) (hj : j < (arAt l k).toNat) : accV l k (j + 1) = accV l k j ++ partV l (kth l (k + 1) j) := by
  obtain ⟨g1, g2, g3, g4⟩ := kth_range l k h j hj
  have hle := endv_le l (kth l (k + 1) j)
  have hgt := endv_gt l _ g3
  have e : kth l (k + 1) (j + 1) = endv l (kth l (k + 1) j) := rfl
  rw [accV, accV, partV, if_neg (by omega), e]
  generalize hs : kth l (k + 1) j = s at *
  generalize ht : endv l s = t at *
  obtain ⟨a, rfl⟩ := Int.eq_ofNat_of_zero_le (show 0 ≤ s by omega)
  obtain ⟨b, rfl⟩ := Int.eq_ofNat_of_zero_le (show 0 ≤ t by omega)
  simp only [Int.toNat_natCast]
  apply List.ext_getElem?
  intro x
  rw [List.getElem?_append]
  simp only [List.getElem?_drop, List.getElem?_take, List.length_drop, List.length_take]
  have hm : min a l.length = a := by omega
  rw [hm]
  by_cases hx : x < a - k
  · rw [if_pos hx, if_pos (by omega), if_pos (by omega)]
  · rw [if_neg hx]
    rw [show a + (x - (a - k)) = k + x from by omega]
theorem acc_le (l : List Nd) (k j : Nat) : (accV l k j).length ≤ l.length := by
  simp only [accV, List.length_drop, List.length_take]; omega
end Go.Proofs.Ytnmgfobpcengkaa
