/-
  The reference's Replace.
-/
import Derived.Test.YtnmgfobpcengkaaPart
namespace Go.Proofs.Ytnmgfobpcengkaa
open Go.RowKit
set_option linter.unusedVariables false

theorem ownsRow_slice {w : World} {base : Nat} {e : TypeId} {size : Nat} {v : Value} {n : Nat} {xs : List Value} (h : w.ownsRow base e size v n xs) : ∃ (p : Option Addr) (c : Nat), v = .slice p n c := by
  rcases h.2 with ⟨rfl, rfl⟩ | ⟨g, cap, cur, rfl, _⟩ <;> exact ⟨_, _, rfl⟩

set_option maxHeartbeats 4000000 in
theorem refReplace_any (l r : List Nd) (i : Int) (v u : Value) (w : World) (hv : NodesAt w v l) (hu : NodesAt w u r) (hl : l.length ≤ 4000000) (hr : r.length ≤ 4000000) :
    Calls Try.prog 34 #[v, .int .i64 i, u] w fun e w' => ∃ x, e = .returned x ∧ NodesAt w' x (replV l i r) ∧ Below w.heap.size w w' := by
  obtain ⟨pu, cu, hsu⟩ := hu.slice
  subst hsu
  obtain ⟨i0, hi, hz0, hz1, hz2⟩ := info_parts infoNode
  rcases endv_bound l i with hE | hE
  · have hlt : endv l i < 0 := by omega
    have HK : Hid (replV l i r = l) := Lib.hid (by rw [replV, if_pos hlt])
    clear hE
    obtain ⟨p, cap, hsl⟩ := hv.slice
    subst hsl
    go_enter Try.func34, Try.ntmps34
    go_wp2_with (go_at_call 35; refine (refEnd_any l _ _ _ hv hl).mono ?_; rintro e w1 ⟨rfl, hb⟩)
    have hv1 := hv.below hb
    go_ret
    exact ⟨_, rfl, by rw [HK.out]; exact hv1, hb⟩
  · obtain ⟨hi0, hil⟩ := endv_in l i hE
    obtain ⟨k, rfl⟩ := Int.eq_ofNat_of_zero_le hi0
    have hnlt : ¬ endv l k < 0 := by omega
    have hle := endv_le l k
    have hgt := endv_gt l k hE
    obtain ⟨m, hm⟩ := Int.eq_ofNat_of_zero_le hE
    have HK : Hid (replV l k r = l.take k ++ r ++ l.drop m) := Lib.hid (by rw [replV, if_neg hnlt, hm]; rfl)
    rw [hm] at hle hgt
    have hkl : k < l.length := by simpa using hil
    rcases hv.open with ⟨rfl, _⟩ | ⟨b, o, cap, rfl, hpos, hcap, hbs, hcell⟩
    · simp at hkl
    have b1 : (k : Int) ≤ (cap : Int) := by omega
    have b2 : (m : Int) ≤ (l.length : Int) := by omega
    have b7 : k ≤ cap := by omega
    have b8 : m ≤ l.length := by omega
    have s1 : NodesAt w (.slice (some ⟨b, o, none⟩) k cap) (l.take k) := by simpa using NodesIn.sub hcap (S := (· < w.heap.size)) hbs hcell 0 k (by omega) (by omega)
    have s3 : NodesAt w (.slice (if cap = m then some ⟨b, o, none⟩ else some ⟨b, o + m * 2, none⟩) (l.length - m) (cap - m)) (l.drop m) := by
      by_cases hcm : cap = m
      · rw [if_pos hcm, List.drop_eq_nil_of_le (by omega), show l.length - m = 0 from by omega]
        exact .inl ⟨_, _, rfl, rfl, rfl, fun h => by cases h⟩
      · rw [if_neg hcm]
        simpa using NodesIn.sub hcap (S := (· < w.heap.size)) hbs hcell m l.length (by omega) (by omega)
    obtain ⟨q3, hq3⟩ : ∃ q : Option Addr, (if cap = m then some ⟨b, o, none⟩ else some ⟨b, o + m * 2, none⟩) = q := ⟨_, rfl⟩
    rw [hq3] at s3
    have L1 : (l.take k).length = k := by simp; omega
    have L3 : (l.drop m).length = l.length - m := by simp
    go_enter Try.func34, Try.ntmps34
    go_wp2_with (first
      | (go_at_call 35; refine (refEnd_any l _ _ _ hv hl).mono ?_; rintro e w1 ⟨rfl, hb⟩; rw [hm]; have hz := hb.size; have hA1 : Below w.heap.size w (w1.alloc (.cells #[] 36)) := hb.trans (((Below.refl _ w1).alloc (Nat.le_refl _) _).mono hb.size))
      | (at_builtin; refine wpList_append_in rfl _ _ 22 rfl w.heap.size 36 i0 (.agg #[.int .i64 0, .int .i64 0]) 2 16 Try.underlying22 hi hz0 hz1 hz2 rfl (by decide) _ _ _ rfl hr2 _ (l.drop m).length _ rfl (s3.below hB4) (by rw [nodeCells_length]; omega) (nodes_one _) (by unfold maxLen; omega) (by omega) hB4.size ?_; intro v5 w5 hr3 hg3; have hB5 : Below w.heap.size w w5 := hB4.grown hg3 hB4.size (fun j hj => (hr2.lt j hj).1))
      | (at_builtin; refine wpList_append_in rfl _ _ 22 rfl w.heap.size 36 i0 (.agg #[.int .i64 0, .int .i64 0]) 2 16 Try.underlying22 hi hz0 hz1 hz2 rfl (by decide) _ _ _ rfl hr1 _ r.length _ rfl (hu.below hB3) (by rw [nodeCells_length]; omega) (nodes_one _) (by unfold maxLen; omega) (by omega) hB3.size ?_; intro v4 w4 hr2 hg2; have hB4 : Below w.heap.size w w4 := hB3.grown hg2 hB3.size (fun j hj => (hr1.lt j hj).1); obtain ⟨p4, c4, hv4⟩ := ownsRow_slice hr2; subst hv4)
      | (at_builtin; (refine wpList_append_in rfl _ _ 22 rfl w.heap.size 36 i0 (.agg #[.int .i64 0, .int .i64 0]) 2 16 Try.underlying22 hi hz0 hz1 hz2 rfl (by decide) _ _ _ rfl (ownsRow_empty w1 w.heap.size 36 2 hz) _ (l.take k).length _ rfl (s1.below hA1) (by rw [nodeCells_length]; omega) (nodes_one _) (by unfold maxLen; omega) (by omega) hA1.size ?_; intro v3 w3 hr1 hg1; rw [Nat.zero_add, L1, List.nil_append] at hr1; have hB3 : Below w.heap.size w w3 := hA1.grown hg1 hA1.size (fun j hj => ((ownsRow_empty w1 w.heap.size 36 2 hz).lt j hj).1); obtain ⟨p3, c3, hv3⟩ := ownsRow_slice hr1; subst hv3)))
    go_ret
    refine ⟨v5, rfl, ?_, hB5⟩
    rw [HK.out]
    exact (ownsRow_nodes (base := w.heap.size) (v := v5) (by rw [L3] at hr3; simpa [nodeCells_append, L1, List.append_assoc, Nat.add_assoc, Nat.min_eq_left (Nat.le_of_lt hkl)] using hr3)).mono (fun j hj => hj.2)
end Go.Proofs.Ytnmgfobpcengkaa
