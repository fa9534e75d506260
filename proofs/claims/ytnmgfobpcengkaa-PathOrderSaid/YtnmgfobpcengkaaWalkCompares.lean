/-
  PathCompares: the law's walk.
-/
import Derived.Test.YtnmgfobpcengkaaWorks11
import Derived.Test.YtnmgfobpcengkaaRefCompare
namespace Go.Proofs.Ytnmgfobpcengkaa
open Go.RowKit

theorem cmpL_swap : ∀ a b : List Int, cmpL b a = - cmpL a b
  | [], [] => rfl
  | [], _ :: _ => rfl
  | _ :: _, [] => rfl
  | x :: a, y :: b => by
    have := cmpL_swap a b
    simp only [cmpL]
    rcases Int.lt_trichotomy x y with h | h | h
    · rw [if_pos h, if_neg (by omega), if_pos h]; rfl
    · rw [if_neg (by omega), if_neg (by omega), if_neg (by omega), if_neg (by omega)]; exact this
    · rw [if_pos h, if_neg (by omega), if_pos h]
theorem cmpL_zero : ∀ a b : List Int, cmpL a b = 0 ↔ a = b
  | [], [] => by simp [cmpL]
  | [], _ :: _ => by simp [cmpL]
  | _ :: _, [] => by simp [cmpL]
  | x :: a, y :: b => by
    have := cmpL_zero a b
    simp only [cmpL, List.cons.injEq]
    rcases Int.lt_trichotomy x y with h | h | h
    · rw [if_pos h]; exact ⟨fun h' => by omega, fun h' => by omega⟩
    · rw [if_neg (by omega), if_neg (by omega), this]; exact ⟨fun h' => ⟨h, h'⟩, fun h' => h'.2⟩
    · rw [if_neg (by omega), if_pos h]; exact ⟨fun h' => by omega, fun h' => by omega⟩
theorem cmpL_trans : ∀ a b c : List Int, cmpL a b ≤ 0 → cmpL b c ≤ 0 → cmpL a c ≤ 0
  | [], _, [], _, _ => by simp [cmpL]
  | [], _, _ :: _, _, _ => by simp [cmpL]
  | _ :: _, [], _, h, _ => by simp [cmpL] at h
  | _ :: _, _ :: _, [], _, h => by simp [cmpL] at h
  | x :: a, y :: b, z :: c, h1, h2 => by
    have ih := cmpL_trans a b c
    simp only [cmpL] at h1 h2 ⊢
    repeat' split at h1
    all_goals repeat' split at h2
    all_goals repeat' split
    all_goals first | omega | exact ih h1 h2

theorem cmpL_bd : ∀ a b : List Int, -1 ≤ cmpL a b ∧ cmpL a b ≤ 1
  | [], [] => by simp [cmpL]
  | [], _ :: _ => by simp [cmpL]
  | _ :: _, [] => by simp [cmpL]
  | x :: a, y :: b => by
    have := cmpL_bd a b
    simp only [cmpL]
    repeat' split
    all_goals omega

set_option maxRecDepth 100000 in
set_option maxHeartbeats 4000000 in
theorem pathCompares_walk (a : List Int) (u : Value) (b : List Int) (v : Value) (c : List Int) (t : Value) (w : World) (hu : IntsAt w u a) (hv : IntsAt w v b) (ht : IntsAt w t c) :
    Calls Try.prog 6 #[u, v, t] w fun e w' => e = .returned (.bool true) ∧ Below w.heap.size w w' := by
  obtain ⟨pu, cu, hus⟩ := hu.slice
  obtain ⟨pv, cv, hvs⟩ := hv.slice
  obtain ⟨pt, ct, hts⟩ := ht.slice
  subst hus
  subst hvs
  subst hts
  by_cases hlen : a.length ≤ 60 ∧ b.length ≤ 60 ∧ c.length ≤ 60
  · obtain ⟨l1, l2, l3⟩ := hlen
    have d1 : ¬ (60 : Int) < a.length := by omega
    have d2 : ¬ (60 : Int) < b.length := by omega
    have d3 : ¬ (60 : Int) < c.length := by omega
    have cXY := fun W h1 h2 => Compare_any a b (.slice pu a.length cu) (.slice pv b.length cv) W h1 h2 (by omega) (by omega)
    have cRX := fun W h1 h2 => refCompare_any a b (.slice pu a.length cu) (.slice pv b.length cv) W h1 h2 (by omega) (by omega)
    have cYX := fun W h1 h2 => Compare_any b a (.slice pv b.length cv) (.slice pu a.length cu) W h1 h2 (by omega) (by omega)
    have cYZ := fun W h1 h2 => Compare_any b c (.slice pv b.length cv) (.slice pt c.length ct) W h1 h2 (by omega) (by omega)
    have cXZ := fun W h1 h2 => Compare_any a c (.slice pu a.length cu) (.slice pt c.length ct) W h1 h2 (by omega) (by omega)
    have cI := fun W h1 h2 => Ints_any a b (.slice pu a.length cu) (.slice pv b.length cv) W h1 h2 (by omega) (by omega)
    have bx := cmpL_bd a b
    have hzero : ((cmpL a b == 0) == decide (a = b)) = true := by
      rw [beq_iff_eq, Bool.eq_iff_iff, beq_iff_eq, decide_eq_true_eq]
      exact cmpL_zero a b
    have htr := cmpL_trans a b c
    rw [cmpL_swap a b] at cYX
    generalize cmpL a b = x at *
    generalize cmpL b c = y at *
    generalize cmpL a c = z at *
    generalize decide (a = b) = s at *
    have HXY := Lib.hid cXY
    have HRX := Lib.hid cRX
    have HYX := Lib.hid cYX
    have HYZ := Lib.hid cYZ
    have HXZ := Lib.hid cXZ
    have HI := Lib.hid cI
    have HT := Lib.hid htr
    clear cXY cRX cYX cYZ cXZ cI htr
    have hxx : (x == x) = true := by simp
    have hnn : (-x == -x) = true := by simp
    go_enter Try.func6, Try.ntmps6
    go_wp2_with (fail)
    refine (works11_any _).mono ?_
    rintro e w1 ⟨rfl, hb1⟩
    have hu1 := IntsIn.below hu hb1
    have hv1 := IntsIn.below hv hb1
    have ht1 := IntsIn.below ht hb1
    go_wp2_with (fail)
    refine (HXY.out _ hu1 hv1).mono ?_
    rintro e w2 ⟨rfl, hb2⟩
    have hu2 := IntsIn.below hu1 hb2
    have hv2 := IntsIn.below hv1 hb2
    have ht2 := IntsIn.below ht1 hb2
    have hB2 := hb1.trans (hb2.mono hb1.size)
    go_wp2_with (fail)
    refine (HYZ.out _ hv2 ht2).mono ?_
    rintro e w3 ⟨rfl, hb3⟩
    have hu3 := IntsIn.below hu2 hb3
    have hv3 := IntsIn.below hv2 hb3
    have ht3 := IntsIn.below ht2 hb3
    have hB3 := hB2.trans (hb3.mono hB2.size)
    go_wp2_with (fail)
    refine (HXZ.out _ hu3 ht3).mono ?_
    rintro e w4 ⟨rfl, hb4⟩
    have hu4 := IntsIn.below hu3 hb4
    have hv4 := IntsIn.below hv3 hb4
    have hB4 := hB3.trans (hb4.mono hB3.size)
    go_wp2_with (fail)
    refine (HI.out _ hu4 hv4).mono ?_
    rintro e w5 ⟨rfl, hb5⟩
    have hu5 := IntsIn.below hu4 hb5
    have hv5 := IntsIn.below hv4 hb5
    have hB5 := hB4.trans (hb5.mono hB4.size)
    go_wp2_with (fail)
    refine (HRX.out _ hu5 hv5).mono ?_
    rintro e w6 ⟨rfl, hb6⟩
    have hu6 := IntsIn.below hu5 hb6
    have hv6 := IntsIn.below hv5 hb6
    have hB6 := hB5.trans (hb6.mono hB5.size)
    go_wp2_with (fail)
    refine (HYX.out _ hv6 hu6).mono ?_
    rintro e w7 ⟨rfl, hb7⟩
    have hB7 := hB6.trans (hb7.mono hB6.size)
    by_cases hx : 0 < x
    · go_wp2_with (fail)
      go_ret
      exact ⟨rfl, hB7⟩
    · by_cases hy : 0 < y
      · go_wp2_with (fail)
        go_ret
        exact ⟨rfl, hB7⟩
      · have hz : z ≤ 0 := HT.out (by omega) (by omega)
        go_wp2_with (fail)
        go_ret
        exact ⟨rfl, hB7⟩
  · by_cases d1 : (60 : Int) < a.length
    · go_enter Try.func6, Try.ntmps6
      go_wp2_with (fail)
      refine (works11_any _).mono ?_
      rintro e w1 ⟨rfl, hb1⟩
      go_wp2_with (fail)
      go_ret
      exact ⟨rfl, hb1⟩
    · by_cases d2 : (60 : Int) < b.length
      · go_enter Try.func6, Try.ntmps6
        go_wp2_with (fail)
        refine (works11_any _).mono ?_
        rintro e w1 ⟨rfl, hb1⟩
        go_wp2_with (fail)
        go_ret
        exact ⟨rfl, hb1⟩
      · have d3 : (60 : Int) < c.length := by omega
        go_enter Try.func6, Try.ntmps6
        go_wp2_with (fail)
        refine (works11_any _).mono ?_
        rintro e w1 ⟨rfl, hb1⟩
        go_wp2_with (fail)
        go_ret
        exact ⟨rfl, hb1⟩
end Go.Proofs.Ytnmgfobpcengkaa
