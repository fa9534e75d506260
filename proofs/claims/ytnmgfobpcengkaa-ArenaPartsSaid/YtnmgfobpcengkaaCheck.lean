/-
  arena.Check and the reference's Check: what they compute.
-/
import Derived.Test.YtnmgfobpcengkaaDepth
import Derived.Test.YtnmgfobpcengkaaRefDepth
import Derived.Test.YtnmgfobpcengkaaAnyBad
namespace Go.Proofs.Ytnmgfobpcengkaa
set_option maxRecDepth 100000
open Go.RowKit
set_option linter.unusedVariables false

/-- What is wrong with a list of nodes. -/
def checkV (l : List Nd) : Int :=
  if l.length = 0 then 10 else if 200 < l.length then 4 else if hasBad l = true then 11 else if endv l 0 ≠ l.length then 12 else if 30 < depV l.length l 0 then 13 else 0

set_option maxHeartbeats 2000000 in
theorem Check_any (l : List Nd) (v : Value) (w : World) (hv : NodesAt w v l) (hl : l.length ≤ 4000000) :
    Calls Try.prog 27 #[v] w fun e w' => e = .returned (.int .i64 (checkV l)) ∧ Below w.heap.size w w' := by
  obtain ⟨p, cap, hsl⟩ := hv.slice
  subst hsl
  by_cases h1 : l.length = 0
  · have t1 : ((l.length : Int) == 0) = true := by simp [h1]
    have HV : Hid (checkV l = 10) := Lib.hid (by rw [checkV, if_pos h1])
    clear h1
    go_enter Try.func27, Try.ntmps27
    go_wp2_with (fail)
    go_ret
    exact ⟨by rw [HV.out]; rfl, Below.refl _ _⟩
  have t1 : ((l.length : Int) == 0) = false := by simp [h1]
  by_cases h2 : 200 < l.length
  · have HV : Hid (checkV l = 4) := Lib.hid (by rw [checkV, if_neg h1, if_pos h2])
    clear h1
    have t2 : (200 : Int) < (l.length : Int) := by omega
    clear h2
    go_enter Try.func27, Try.ntmps27
    go_wp2_with (fail)
    go_ret
    exact ⟨by rw [HV.out]; rfl, Below.refl _ _⟩
  have t2 : ¬ (200 : Int) < (l.length : Int) := by omega
  rcases h3 : hasBad l with _ | _
  case true =>
    have HV : Hid (checkV l = 11) := Lib.hid (by rw [checkV, if_neg h1, if_neg h2, if_pos h3])
    clear h1 h2
    go_enter Try.func27, Try.ntmps27
    go_wp2_with (fail)
    refine (contains_any l _ w hv hl).mono ?_
    rintro e w1 ⟨rfl, hb⟩
    go_wp2_with (fail)
    go_ret
    exact ⟨by rw [HV.out]; rfl, hb⟩
  have h3' : ¬ hasBad l = true := by rw [h3]; simp
  have hE := endv_le l 0
  by_cases h4 : endv l 0 = l.length
  · have t4 : (endv l 0 != (l.length : Int)) = false := by simp [h4]
    have hD := depV_bound l.length l 0
    by_cases h5 : 30 < depV l.length l 0
    · have HV : Hid (checkV l = 13) := Lib.hid (by rw [checkV, if_neg h1, if_neg h2, if_neg h3', if_neg (by simpa using h4), if_pos h5])
      have H4 := Lib.hid h4
      clear h1 h2 h4 h3'
      go_enter Try.func27, Try.ntmps27
      go_wp2_with (fail)
      refine (contains_any l _ w hv hl).mono ?_
      rintro e w1 ⟨rfl, hb⟩
      have hv1 := hv.below hb
      go_wp2_with (fail)
      refine (End_any l _ _ w1 hv1 hl).mono ?_
      rintro e w2 ⟨rfl, hb2⟩
      have hv2 := hv1.below hb2
      have hB2 := hb.trans (hb2.mono hb.size)
      go_wp2_with (fail)
      refine (Depth_any l hl l.length 0 _ w2 (by omega) (.inl (by omega)) hv2).mono ?_
      rintro e w3 ⟨rfl, hb3⟩
      go_wp2_with (fail)
      go_ret
      exact ⟨by rw [HV.out]; rfl, hB2.trans (hb3.mono hB2.size)⟩
    · have HV : Hid (checkV l = 0) := Lib.hid (by rw [checkV, if_neg h1, if_neg h2, if_neg h3', if_neg (by simpa using h4), if_neg h5])
      have H4 := Lib.hid h4
      clear h1 h2 h4 h3'
      go_enter Try.func27, Try.ntmps27
      go_wp2_with (fail)
      refine (contains_any l _ w hv hl).mono ?_
      rintro e w1 ⟨rfl, hb⟩
      have hv1 := hv.below hb
      go_wp2_with (fail)
      refine (End_any l _ _ w1 hv1 hl).mono ?_
      rintro e w2 ⟨rfl, hb2⟩
      have hv2 := hv1.below hb2
      have hB2 := hb.trans (hb2.mono hb.size)
      go_wp2_with (fail)
      refine (Depth_any l hl l.length 0 _ w2 (by omega) (.inl (by omega)) hv2).mono ?_
      rintro e w3 ⟨rfl, hb3⟩
      go_wp2_with (fail)
      go_ret
      exact ⟨by rw [HV.out]; rfl, hB2.trans (hb3.mono hB2.size)⟩
  · have t4 : (endv l 0 != (l.length : Int)) = true := by simp [h4]
    have HV : Hid (checkV l = 12) := Lib.hid (by rw [checkV, if_neg h1, if_neg h2, if_neg h3', if_pos h4])
    clear h1 h2 h4 h3'
    go_enter Try.func27, Try.ntmps27
    go_wp2_with (fail)
    refine (contains_any l _ w hv hl).mono ?_
    rintro e w1 ⟨rfl, hb⟩
    have hv1 := hv.below hb
    go_wp2_with (fail)
    refine (End_any l _ _ w1 hv1 hl).mono ?_
    rintro e w2 ⟨rfl, hb2⟩
    have hv2 := hv1.below hb2
    have hB2 := hb.trans (hb2.mono hb.size)
    go_wp2_with (fail)
    go_ret
    exact ⟨by rw [HV.out]; rfl, hB2⟩

set_option maxHeartbeats 2000000 in
theorem refCheck_any (l : List Nd) (v : Value) (w : World) (hv : NodesAt w v l) (hl : l.length ≤ 4000000) :
    Calls Try.prog 28 #[v] w fun e w' => e = .returned (.int .i64 (checkV l)) ∧ Below w.heap.size w w' := by
  obtain ⟨p, cap, hsl⟩ := hv.slice
  subst hsl
  by_cases h1 : l.length = 0
  · have t1 : ((l.length : Int) == 0) = true := by simp [h1]
    have HV : Hid (checkV l = 10) := Lib.hid (by rw [checkV, if_pos h1])
    clear h1
    go_enter Try.func28, Try.ntmps28
    go_wp2_with (fail)
    go_ret
    exact ⟨by rw [HV.out]; rfl, Below.refl _ _⟩
  have t1 : ((l.length : Int) == 0) = false := by simp [h1]
  by_cases h2 : 200 < l.length
  · have HV : Hid (checkV l = 4) := Lib.hid (by rw [checkV, if_neg h1, if_pos h2])
    clear h1
    have t2 : (200 : Int) < (l.length : Int) := by omega
    clear h2
    go_enter Try.func28, Try.ntmps28
    go_wp2_with (fail)
    go_ret
    exact ⟨by rw [HV.out]; rfl, Below.refl _ _⟩
  have t2 : ¬ (200 : Int) < (l.length : Int) := by omega
  rcases h3 : hasBad l with _ | _
  case true =>
    have HV : Hid (checkV l = 11) := Lib.hid (by rw [checkV, if_neg h1, if_neg h2, if_pos h3])
    have H3 := Lib.hid h3
    clear h1 h2 h3
    go_enter Try.func28, Try.ntmps28
    go_wp2_with (fail)
    go_loopw [3] (fun i wr => ∃ k : Nat, i = .int .i64 k ∧ k ≤ l.length ∧ Hid (hasBad (l.take k) = false) ∧ Below w.heap.size w wr) (fun i _ => l.length - (intOf i).toNat)
    case atStart => exact ⟨0, rfl, Nat.zero_le _, Lib.hid rfl, Below.refl _ _⟩
    case round =>
      obtain ⟨k, rfl, hk, ht, hB⟩ := hrel
      by_cases hlt : k < l.length
      · rcases hv.open with ⟨rfl, _⟩ | ⟨b1, o1, c1, hs1, hp1, hc1, hb1, hx1⟩
        · simp at hlt
        obtain ⟨rfl, rfl⟩ : p = some ⟨b1, o1, none⟩ ∧ cap = c1 := by simpa using hs1
        have g1 := (hB.cell (p := ⟨b1, o1 + k * 2, none⟩) hb1).trans (hx1 k hlt).1
        have g2 := (hB.cell (p := ⟨b1, o1 + k * 2 + 1, none⟩) hb1).trans (hx1 k hlt).2
        clear hx1 hs1
        have n1 : (k : Int) < (l.length : Int) := by omega
        by_cases he : ar l[k] < 0
        · have HX := Lib.hid (hasBad_at hlt he)
          go_wp2_with (go_at_call 26; refine (refArity_any l[k] _).mono ?_; rintro e w1 ⟨rfl, hb⟩)
          go_ret
          exact ⟨by rw [HV.out]; rfl, hB.trans (hb.mono hB.size)⟩
        · have HE := Lib.hid he
          have HD : ¬ ar l[k] < 0 := he
          clear he
          go_wp2_with (go_at_call 26; refine (refArity_any l[k] _).mono ?_; rintro e w1 ⟨rfl, hb⟩)
          go_roundw
          case rel => exact ⟨k + 1, by go_num, by omega, Lib.hid (hasBad_take ht.out hlt (Int.not_lt.2 HE.out)), hB.trans (hb.mono hB.size)⟩
          case measure => simp [intOf]; omega
      · exact absurd ((show hasBad (l.take k) = true from by rw [List.take_of_length_le (by omega)]; exact H3.out).symm.trans ht.out) (by decide)
  have h3' : ¬ hasBad l = true := by rw [h3]; simp
  have H3 := Lib.hid h3
  clear h3
  have hE := endv_le l 0
  by_cases h4 : endv l 0 = l.length
  · have t4 : (endv l 0 != (l.length : Int)) = false := by simp [h4]
    have hD := depV_bound l.length l 0
    by_cases h5 : 30 < depV l.length l 0
    · have HV : Hid (checkV l = 13) := Lib.hid (by rw [checkV, if_neg h1, if_neg h2, if_neg h3', if_neg (by simpa using h4), if_pos h5])
      clear h1 h2 h4 h3'
      go_enter Try.func28, Try.ntmps28
      go_wp2_with (fail)
      go_loopw [3] (fun i wr => ∃ k : Nat, i = .int .i64 k ∧ k ≤ l.length ∧ Hid (hasBad (l.take k) = false) ∧ Below w.heap.size w wr) (fun i _ => l.length - (intOf i).toNat)
      case atStart => exact ⟨0, rfl, Nat.zero_le _, Lib.hid rfl, Below.refl _ _⟩
      case round =>
        obtain ⟨k, rfl, hk, ht, hB⟩ := hrel
        by_cases hlt : k < l.length
        · rcases hv.open with ⟨rfl, _⟩ | ⟨b1, o1, c1, hs1, hp1, hc1, hb1, hx1⟩
          · simp at hlt
          obtain ⟨rfl, rfl⟩ : p = some ⟨b1, o1, none⟩ ∧ cap = c1 := by simpa using hs1
          have g1 := (hB.cell (p := ⟨b1, o1 + k * 2, none⟩) hb1).trans (hx1 k hlt).1
          have g2 := (hB.cell (p := ⟨b1, o1 + k * 2 + 1, none⟩) hb1).trans (hx1 k hlt).2
          clear hx1 hs1
          have n1 : (k : Int) < (l.length : Int) := by omega
          by_cases he : ar l[k] < 0
          · exact absurd ((hasBad_at hlt he).symm.trans H3.out) (by decide)
          · have HE := Lib.hid he
            have HD : ¬ ar l[k] < 0 := he
            clear he
            go_wp2_with (go_at_call 26; refine (refArity_any l[k] _).mono ?_; rintro e w1 ⟨rfl, hb⟩)
            go_roundw
            case rel => exact ⟨k + 1, by go_num, by omega, Lib.hid (hasBad_take ht.out hlt (Int.not_lt.2 HE.out)), hB.trans (hb.mono hB.size)⟩
            case measure => simp [intOf]; omega
        · have hv1 := hv.below hB
          go_wp2_with (fail)
          refine (refEnd_any l _ _ wr hv1 hl).mono ?_
          rintro e w2 ⟨rfl, hb2⟩
          have hv2 := hv1.below hb2
          have hB2 := hB.trans (hb2.mono hB.size)
          go_wp2_with (fail)
          refine (refDepth_any l hl _ l.length 0 w2 (by omega) (.inl (by omega)) hv2).mono ?_
          rintro e w3 ⟨rfl, hb3⟩
          go_wp2_with (fail)
          go_ret
          exact ⟨by rw [HV.out]; rfl, hB2.trans (hb3.mono hB2.size)⟩
    · have HV : Hid (checkV l = 0) := Lib.hid (by rw [checkV, if_neg h1, if_neg h2, if_neg h3', if_neg (by simpa using h4), if_neg h5])
      clear h1 h2 h4 h3'
      go_enter Try.func28, Try.ntmps28
      go_wp2_with (fail)
      go_loopw [3] (fun i wr => ∃ k : Nat, i = .int .i64 k ∧ k ≤ l.length ∧ Hid (hasBad (l.take k) = false) ∧ Below w.heap.size w wr) (fun i _ => l.length - (intOf i).toNat)
      case atStart => exact ⟨0, rfl, Nat.zero_le _, Lib.hid rfl, Below.refl _ _⟩
      case round =>
        obtain ⟨k, rfl, hk, ht, hB⟩ := hrel
        by_cases hlt : k < l.length
        · rcases hv.open with ⟨rfl, _⟩ | ⟨b1, o1, c1, hs1, hp1, hc1, hb1, hx1⟩
          · simp at hlt
          obtain ⟨rfl, rfl⟩ : p = some ⟨b1, o1, none⟩ ∧ cap = c1 := by simpa using hs1
          have g1 := (hB.cell (p := ⟨b1, o1 + k * 2, none⟩) hb1).trans (hx1 k hlt).1
          have g2 := (hB.cell (p := ⟨b1, o1 + k * 2 + 1, none⟩) hb1).trans (hx1 k hlt).2
          clear hx1 hs1
          have n1 : (k : Int) < (l.length : Int) := by omega
          by_cases he : ar l[k] < 0
          · exact absurd ((hasBad_at hlt he).symm.trans H3.out) (by decide)
          · have HE := Lib.hid he
            have HD : ¬ ar l[k] < 0 := he
            clear he
            go_wp2_with (go_at_call 26; refine (refArity_any l[k] _).mono ?_; rintro e w1 ⟨rfl, hb⟩)
            go_roundw
            case rel => exact ⟨k + 1, by go_num, by omega, Lib.hid (hasBad_take ht.out hlt (Int.not_lt.2 HE.out)), hB.trans (hb.mono hB.size)⟩
            case measure => simp [intOf]; omega
        · have hv1 := hv.below hB
          go_wp2_with (fail)
          refine (refEnd_any l _ _ wr hv1 hl).mono ?_
          rintro e w2 ⟨rfl, hb2⟩
          have hv2 := hv1.below hb2
          have hB2 := hB.trans (hb2.mono hB.size)
          go_wp2_with (fail)
          refine (refDepth_any l hl _ l.length 0 w2 (by omega) (.inl (by omega)) hv2).mono ?_
          rintro e w3 ⟨rfl, hb3⟩
          go_wp2_with (fail)
          go_ret
          exact ⟨by rw [HV.out]; rfl, hB2.trans (hb3.mono hB2.size)⟩
  · have t4 : (endv l 0 != (l.length : Int)) = true := by simp [h4]
    have HV : Hid (checkV l = 12) := Lib.hid (by rw [checkV, if_neg h1, if_neg h2, if_neg h3', if_pos h4])
    clear h1 h2 h4 h3'
    go_enter Try.func28, Try.ntmps28
    go_wp2_with (fail)
    go_loopw [3] (fun i wr => ∃ k : Nat, i = .int .i64 k ∧ k ≤ l.length ∧ Hid (hasBad (l.take k) = false) ∧ Below w.heap.size w wr) (fun i _ => l.length - (intOf i).toNat)
    case atStart => exact ⟨0, rfl, Nat.zero_le _, Lib.hid rfl, Below.refl _ _⟩
    case round =>
      obtain ⟨k, rfl, hk, ht, hB⟩ := hrel
      by_cases hlt : k < l.length
      · rcases hv.open with ⟨rfl, _⟩ | ⟨b1, o1, c1, hs1, hp1, hc1, hb1, hx1⟩
        · simp at hlt
        obtain ⟨rfl, rfl⟩ : p = some ⟨b1, o1, none⟩ ∧ cap = c1 := by simpa using hs1
        have g1 := (hB.cell (p := ⟨b1, o1 + k * 2, none⟩) hb1).trans (hx1 k hlt).1
        have g2 := (hB.cell (p := ⟨b1, o1 + k * 2 + 1, none⟩) hb1).trans (hx1 k hlt).2
        clear hx1 hs1
        have n1 : (k : Int) < (l.length : Int) := by omega
        by_cases he : ar l[k] < 0
        · exact absurd ((hasBad_at hlt he).symm.trans H3.out) (by decide)
        · have HE := Lib.hid he
          have HD : ¬ ar l[k] < 0 := he
          clear he
          go_wp2_with (go_at_call 26; refine (refArity_any l[k] _).mono ?_; rintro e w1 ⟨rfl, hb⟩)
          go_roundw
          case rel => exact ⟨k + 1, by go_num, by omega, Lib.hid (hasBad_take ht.out hlt (Int.not_lt.2 HE.out)), hB.trans (hb.mono hB.size)⟩
          case measure => simp [intOf]; omega
      · have hv1 := hv.below hB
        go_wp2_with (fail)
        refine (refEnd_any l _ _ wr hv1 hl).mono ?_
        rintro e w2 ⟨rfl, hb2⟩
        have hv2 := hv1.below hb2
        have hB2 := hB.trans (hb2.mono hB.size)
        go_wp2_with (fail)
        go_ret
        exact ⟨by rw [HV.out]; rfl, hB2⟩
end Go.Proofs.Ytnmgfobpcengkaa
