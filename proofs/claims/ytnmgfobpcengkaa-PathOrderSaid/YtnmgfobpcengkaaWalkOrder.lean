/-
  PathOrder: the law's walk.
-/
import Derived.Test.YtnmgfobpcengkaaPathAll
import Derived.Test.YtnmgfobpcengkaaPathOrd
import Derived.Test.YtnmgfobpcengkaaWalkCompares
import Derived.BigQuiet
import Derived.Deep.QuietTactic
namespace Go.Proofs.Ytnmgfobpcengkaa
open Go.RowKit
set_option linter.unusedVariables false

set_option maxRecDepth 100000 in
set_option maxHeartbeats 8000000 in
theorem pathOrder_walk (l : List Nd) (v : Value) (i k : Int) (w : World) (hv : NodesAt w v l) :
    Calls Try.prog 5 #[v, .int .i64 i, .int .i64 k] w fun e w' => e = .returned (.bool true) ∧ Below w.heap.size w w' := by
  obtain ⟨pv, cv, hvs⟩ := hv.slice
  subst hvs
  by_cases d1 : (60 : Int) < l.length
  · go_enter Try.func5, Try.ntmps5
    go_wp2_with (fail)
    refine (works11_any _).mono ?_
    rintro e w1 ⟨rfl, hb1⟩
    have hB1 := hb1
    go_wp2_with (fail)
    go_ret
    exact ⟨rfl, hB1⟩
  have hl : l.length ≤ 60 := by omega
  have cO := fun W h => Of_any l i (.slice pv l.length cv) W h (by omega)
  have cP := fun W h => Of_any l k (.slice pv l.length cv) W h (by omega)
  have cE := fun W h => End_any l i (.slice pv l.length cv) W h (by omega)
  cases ho : ofv l i with
  | none =>
    rw [ho] at cO
    have HO := Lib.hid cO
    have HP := Lib.hid cP
    clear cO cP ho
    dsimp only [Option.isSome_none, Option.getD_none] at HO
    go_enter Try.func5, Try.ntmps5
    go_wp2_with (fail)
    refine (works11_any _).mono ?_
    rintro e w1 ⟨rfl, hb1⟩
    have hB1 := hb1
    have hv_1 := NodesIn.below hv hb1
    go_wp2_with (fail)
    refine (HO.out _ hv_1).mono ?_
    rintro e w2 ⟨a1, rfl, ha, hb2⟩
    have hB2 := hB1.trans (hb2.mono hB1.size)
    have hv_2 := NodesIn.below hv_1 hb2
    go_wp2_with (fail)
    refine (HP.out _ hv_2).mono ?_
    rintro e w3 ⟨b1, rfl, hb, hb3⟩
    have hB3 := hB2.trans (hb3.mono hB2.size)
    have hv_3 := NodesIn.below hv_2 hb3
    have ha_3 := IntsIn.below ha hb3
    go_wp2_with (fail)
    go_ret
    exact ⟨rfl, hB3⟩
  | some a =>
    cases hp : ofv l k with
    | none =>
      rw [ho] at cO
      rw [hp] at cP
      have HO := Lib.hid cO
      have HP := Lib.hid cP
      clear cO cP ho hp
      dsimp only [Option.isSome_none, Option.getD_none, Option.isSome_some, Option.getD_some] at HO HP
      go_enter Try.func5, Try.ntmps5
      go_wp2_with (fail)
      refine (works11_any _).mono ?_
      rintro e w1 ⟨rfl, hb1⟩
      have hB1 := hb1
      have hv_1 := NodesIn.below hv hb1
      go_wp2_with (fail)
      refine (HO.out _ hv_1).mono ?_
      rintro e w2 ⟨a1, rfl, ha, hb2⟩
      have hB2 := hB1.trans (hb2.mono hB1.size)
      have hv_2 := NodesIn.below hv_1 hb2
      go_wp2_with (fail)
      refine (HP.out _ hv_2).mono ?_
      rintro e w3 ⟨b1, rfl, hb, hb3⟩
      have hB3 := hB2.trans (hb3.mono hB2.size)
      have hv_3 := NodesIn.below hv_2 hb3
      have ha_3 := IntsIn.below ha hb3
      go_wp2_with (fail)
      go_ret
      exact ⟨rfl, hB3⟩
    | some b =>
      have hw : endv l 0 = l.length := by
        by_cases hw : endv l 0 = l.length
        · exact hw
        · rw [ofv_no l i hw] at ho; cases ho
      have hal := ofv_len l i a ho
      have hbl := ofv_len l k b hp
      have HPR := Lib.hid (ofv_prefix hw ho hp)
      have HLT : Hid (i < k → cmpL a b < 0) := Lib.hid (fun h => ofv_order hw ho hp h)
      have HGT : Hid (k < i → 0 < cmpL a b) := Lib.hid (fun h => by have h1 := ofv_order hw hp ho h; have h2 := cmpL_swap a b; omega)
      have HEQ : Hid (i = k → cmpL a b = 0) := Lib.hid (fun h => by subst h; rw [ho] at hp; cases hp; exact (cmpL_zero a a).2 rfl)
      have HV : Hid (i < endv l i) := Lib.hid (endv_gt l i (ofv_valid hw ho))
      have cC := fun (u1 u2 : Value) W h1 h2 => Compare_any a b u1 u2 W h1 h2 (by omega) (by omega)
      rw [ho] at cO
      rw [hp] at cP
      have HO := Lib.hid cO
      have HP := Lib.hid cP
      have HC := Lib.hid cC
      have HE := Lib.hid cE
      clear cO cP cC cE ho hp hw
      dsimp only [Option.isSome_some, Option.getD_some] at HO HP
      go_enter Try.func5, Try.ntmps5
      go_wp2_with (fail)
      refine (works11_any _).mono ?_
      rintro e w1 ⟨rfl, hb1⟩
      have hB1 := hb1
      have hv_1 := NodesIn.below hv hb1
      go_wp2_with (fail)
      refine (HO.out _ hv_1).mono ?_
      rintro e w2 ⟨a1, rfl, ha, hb2⟩
      have hB2 := hB1.trans (hb2.mono hB1.size)
      have hv_2 := NodesIn.below hv_1 hb2
      go_wp2_with (fail)
      refine (HP.out _ hv_2).mono ?_
      rintro e w3 ⟨b1, rfl, hb, hb3⟩
      have hB3 := hB2.trans (hb3.mono hB2.size)
      have hv_3 := NodesIn.below hv_2 hb3
      have ha_3 := IntsIn.below ha hb3
      obtain ⟨pa, ca, has⟩ := ha_3.slice
      obtain ⟨pb, cb, hbs⟩ := hb.slice
      subst has
      subst hbs
      go_wp2_with (fail)
      refine (HC.out _ _ _ ha_3 hb).mono ?_
      rintro e w4 ⟨rfl, hb4⟩
      have hB4 := hB3.trans (hb4.mono hB3.size)
      have hv_4 := NodesIn.below hv_3 hb4
      have ha_4 := IntsIn.below ha_3 hb4
      have hb_4 := IntsIn.below hb hb4
      go_wp2_with (fail)
      go_loopw [13, 14] (fun y x wr => ∃ (j : Nat) (bl : Bool), y = .bool bl ∧ x = .int .i64 j ∧ j ≤ a.length ∧ Hid (bl = true ↔ (a.length ≤ b.length ∧ a.take j = b.take j)) ∧ Below w4.heap.size w4 wr) (fun _ x _ => a.length - (intOf x).toNat)
      case atStart => exact ⟨0, decide (a.length ≤ b.length), by first | rfl | simp, rfl, Nat.zero_le _, Lib.hid (by simp), Below.refl _ _⟩
      case round =>
        obtain ⟨j, bl, rfl, rfl, hj, hbl2, hBr⟩ := hrel
        by_cases hgo : j < a.length ∧ bl = true
        · obtain ⟨hja, rfl⟩ := hgo
          obtain ⟨hle, htk⟩ := hbl2.out.1 rfl
          have hjb : j < b.length := by omega
          rcases ha_4.open with ⟨h0, _⟩ | ⟨b1, o1, c1, hs1, hp1, hc1, hb1, hx1⟩
          · exfalso; rw [h0] at hja; simp at hja
          rcases hb_4.open with ⟨h0, _⟩ | ⟨b2, o2, c2, hs2, hp2, hc2, hb2, hx2⟩
          · exfalso; rw [h0] at hjb; simp at hjb
          obtain ⟨rfl, rfl⟩ : pa = some ⟨b1, o1, none⟩ ∧ ca = c1 := by simpa using hs1
          obtain ⟨rfl, rfl⟩ : pb = some ⟨b2, o2, none⟩ ∧ cb = c2 := by simpa using hs2
          have g1 := (hBr.cell (p := ⟨b1, o1 + j, none⟩) hb1).trans (hx1 j hja)
          have g2 := (hBr.cell (p := ⟨b2, o2 + j, none⟩) hb2).trans (hx2 j hjb)
          have n1 : (j : Int) < (a.length : Int) := by omega
          have n2 : (j : Int) < (b.length : Int) := by omega
          have HT := Lib.hid htk
          have HLE := Lib.hid hle
          clear hx1 hx2 hs1 hs2 htk hle
          go_wp2_with (fail)
          go_quiet (fail)
          go_wp2_with (fail)
          go_roundw
          case rel =>
            refine ⟨j + 1, _, rfl, by go_num, by omega, Lib.hid ?_, below_drewN hBr _⟩
            constructor
            · intro h
              exact ⟨HLE.out, take_same HT.out hja hjb (by simpa using h)⟩
            · rintro ⟨_, h⟩
              have := congrArg (fun l => l[j]?) h
              simp only [List.getElem?_take_of_lt (Nat.lt_succ_self j), List.getElem?_eq_getElem hja, List.getElem?_eq_getElem hjb] at this
              simpa using this
          case measure => simp [intOf]; omega
        · have hpf : bl = true ↔ a <+: b := by
            by_cases hja : j < a.length
            · have hbf : bl = false := by cases bl with | false => rfl | true => exact absurd ⟨hja, rfl⟩ hgo
              constructor
              · intro h; rw [hbf] at h; cases h
              · intro h; exact hbl2.out.2 (prefix_take_le a b j h hj)
            · obtain rfl : j = a.length := by omega
              rw [hbl2.out, prefix_take]
          have hpr := HPR.out
          have hgo2 : ¬ (j : Int) < a.length ∨ bl = false := by
            by_cases hja : j < a.length
            · right; cases bl with | false => rfl | true => exact absurd ⟨hja, rfl⟩ hgo
            · left; omega
          have hBw := hB4.trans (hBr.mono hB4.size)
          have hvr := NodesIn.below hv_4 hBr
          rw [hpr] at hpf
          clear hbl2 hgo hpr
          rcases Int.lt_trichotomy i k with hik | hik | hik
          · have hc := HLT.out hik
            have e1 : (cmpL a b == 0) = false := by simp; omega
            have e2 : (i == k) = false := by simp; omega
            by_cases hke : k < endv l i
            · obtain rfl : bl = true := hpf.2 ⟨by omega, hke⟩
              have hg : ¬ (j : Int) < a.length := hgo2.resolve_right (by decide)
              clear hpf hgo2
              go_wp2_with (fail)
              refine (HE.out _ hvr).mono ?_
              rintro e w9 ⟨rfl, hb9⟩
              go_wp2_with (fail)
              go_ret
              exact ⟨by first | rfl | exact ret_bool (by rw [decide_eq_false (by omega)]; rfl), hBw.trans (hb9.mono hBw.size)⟩
            · obtain rfl : bl = false := by cases bl with | false => rfl | true => exact absurd (hpf.1 rfl).2 hke
              clear hpf hgo2
              by_cases hg : (j : Int) < a.length
              · skip
                go_wp2_with (fail)
                refine (HE.out _ hvr).mono ?_
                rintro e w9 ⟨rfl, hb9⟩
                go_wp2_with (fail)
                go_ret
                exact ⟨by first | rfl | exact ret_bool (by rw [decide_eq_false (by omega)]; rfl), hBw.trans (hb9.mono hBw.size)⟩
              · skip
                go_wp2_with (fail)
                refine (HE.out _ hvr).mono ?_
                rintro e w9 ⟨rfl, hb9⟩
                go_wp2_with (fail)
                go_ret
                exact ⟨by first | rfl | exact ret_bool (by rw [decide_eq_false (by omega)]; rfl), hBw.trans (hb9.mono hBw.size)⟩
          · subst hik
            have hc := HEQ.out rfl
            have e1 : (cmpL a b == 0) = true := by simp [hc]
            have e2 : (i == i) = true := by simp
            have hke : i < endv l i := HV.out
            have hc1 : ¬ cmpL a b < 0 := by omega
            obtain rfl : bl = true := hpf.2 ⟨by omega, hke⟩
            have hg : ¬ (j : Int) < a.length := hgo2.resolve_right (by decide)
            clear hpf hgo2 hc
            go_wp2_with (fail)
            refine (HE.out _ hvr).mono ?_
            rintro e w9 ⟨rfl, hb9⟩
            go_wp2_with (fail)
            go_ret
            exact ⟨by first | rfl | exact ret_bool (by rw [decide_eq_false (by omega)]; rfl), hBw.trans (hb9.mono hBw.size)⟩
          · have hc := HGT.out hik
            have e1 : (cmpL a b == 0) = false := by simp; omega
            have e2 : (i == k) = false := by simp; omega
            obtain rfl : bl = false := by cases bl with | false => rfl | true => exact absurd (hpf.1 rfl).1 (by omega)
            clear hpf hgo2
            by_cases hg : (j : Int) < a.length
            · skip
              go_wp2_with (fail)
              go_ret
              exact ⟨rfl, hBw⟩
            · skip
              go_wp2_with (fail)
              go_ret
              exact ⟨rfl, hBw⟩
end Go.Proofs.Ytnmgfobpcengkaa
