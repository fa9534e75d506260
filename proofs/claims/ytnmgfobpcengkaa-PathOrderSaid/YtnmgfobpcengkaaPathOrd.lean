/-
  Plain: nodes stand in the order of their paths; below a node are those whose paths begin with its own.
-/
import Derived.Test.YtnmgfobpcengkaaPathLaw
namespace Go.Proofs.Ytnmgfobpcengkaa

theorem down_order (l : List Nd) : ∀ (a b : List Int) (r : Int), 0 ≤ endv l r → 0 ≤ downV l r a → 0 ≤ downV l r b → downV l r a < downV l r b → cmpL a b < 0
  | [], [], r, _, _, _, h => by omega
  | [], _ :: _, r, _, _, _, _ => by simp [cmpL]
  | m :: a, [], r, hr, h1, _, h => by
    have := downV_range l (m :: a) r hr h1
    have h2 : downV l r [] = r := rfl
    omega
  | m :: a, n :: b, r, hr, h1, h2, h => by
    by_cases hm : 0 ≤ m ∧ m.toNat < (kidsv l r).length
    · by_cases hn : 0 ≤ n ∧ n.toNat < (kidsv l r).length
      · obtain ⟨j, rfl⟩ := Int.eq_ofNat_of_zero_le hm.1
        obtain ⟨k, rfl⟩ := Int.eq_ofNat_of_zero_le hn.1
        have hj : j < (kidsv l r).length := by simpa using hm.2
        have hk : k < (kidsv l r).length := by simpa using hn.2
        obtain ⟨h0, _⟩ := endv_in l r hr
        obtain ⟨t, rfl⟩ := Int.eq_ofNat_of_zero_le h0
        obtain ⟨ej, hja⟩ := kidsv_get l t hr j hj
        obtain ⟨ek, hka⟩ := kidsv_get l t hr k hk
        have rj := kth_range l t hr j hja
        have rk := kth_range l t hr k hka
        rw [downV_in l t j a j rfl hj, ej] at h1 h
        rw [downV_in l t k b k rfl hk, ek] at h2 h
        rcases Nat.lt_trichotomy j k with hjk | rfl | hjk
        · rw [cmpL, if_pos (by omega)]; omega
        · rw [cmpL, if_neg (by omega), if_neg (by omega)]
          exact down_order l a b _ rj.2.2.1 h1 h2 h
        · have g1 := downV_range l a _ rj.2.2.1 h1
          have g2 := downV_range l b _ rk.2.2.1 h2
          have g3 := kth_mono l t hr (k + 1) (j - (k + 1)) (by omega)
          rw [show k + 1 + (j - (k + 1)) = j from by omega] at g3
          have g4 : endv l (kth l (t + 1) k) = kth l (t + 1) (k + 1) := rfl
          omega
      · rw [downV_out l r n b hn] at h2; omega
    · rw [downV_out l r m a hm] at h1; omega

section whole
variable {l : List Nd} (hw : endv l 0 = l.length)
include hw
theorem ofv_order {i k : Int} {a b : List Int} (ha : ofv l i = some a) (hb : ofv l k = some b) (h : i < k) : cmpL a b < 0 := by
  have h1 := ofv_down hw ha
  have h2 := ofv_down hw hb
  have i1 := (ofv_some_iff hw i).1 (by rw [ha]; rfl)
  have k1 := (ofv_some_iff hw k).1 (by rw [hb]; rfl)
  exact down_order l a b 0 (by omega) (by omega) (by omega) (by omega)
theorem ofv_prefix {i k : Int} {a b : List Int} (ha : ofv l i = some a) (hb : ofv l k = some b) : a <+: b ↔ i ≤ k ∧ k < endv l i := by
  have h1 := ofv_down hw ha
  have h2 := ofv_down hw hb
  have i1 := (ofv_some_iff hw i).1 (by rw [ha]; rfl)
  have k1 := (ofv_some_iff hw k).1 (by rw [hb]; rfl)
  have hv := ofv_valid hw ha
  constructor
  · rintro ⟨q, rfl⟩
    rw [downV_append l a q 0 (by omega) (by omega), h1] at h2
    have := downV_range l q i hv (by omega)
    omega
  · rintro ⟨g1, g2⟩
    have hp := pathsV_places l (l.length + 1) i [] hv (by omega)
    have hm : k ∈ seg i (endv l i) := by rw [mem_seg]; exact ⟨g1, g2⟩
    rw [← hp] at hm
    obtain ⟨x, hx, rfl⟩ := List.mem_map.1 hm
    obtain ⟨q, hq, hd⟩ := pathsV_down l _ _ _ _ hx
    have h3 : downV l 0 (a ++ q) = x.1 := by rw [downV_append l a q 0 (by omega) (by omega), h1]; exact hd
    have h4 := down_ofv hw (i := x.1) (by omega) h3
    rw [hb] at h4
    cases h4
    exact ⟨q, rfl⟩
end whole

theorem prefix_take (a b : List Int) : (a.length ≤ b.length ∧ a.take a.length = b.take a.length) ↔ a <+: b := by
  rw [List.take_length]
  constructor
  · rintro ⟨_, h2⟩; rw [h2]; exact List.take_prefix _ _
  · intro h; exact ⟨h.length_le, List.prefix_iff_eq_take.1 h⟩
theorem prefix_take_le (a b : List Int) (k : Nat) (h : a <+: b) (hk : k ≤ a.length) : a.length ≤ b.length ∧ a.take k = b.take k := by
  refine ⟨h.length_le, ?_⟩
  obtain ⟨q, rfl⟩ := h
  rw [List.take_append_of_le_length hk]
end Go.Proofs.Ytnmgfobpcengkaa
