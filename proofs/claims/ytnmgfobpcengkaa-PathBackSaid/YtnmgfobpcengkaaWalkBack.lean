/-
  PathBack: the law's walk.
-/
import Derived.Test.YtnmgfobpcengkaaPathAll
namespace Go.Proofs.Ytnmgfobpcengkaa
open Go.RowKit
set_option linter.unusedVariables false

theorem downV_neg (l : List Nd) : ∀ (q : List Int) (i : Int), 0 ≤ i → 0 ≤ downV l i q ∨ downV l i q = -1
  | [], i, h => .inl h
  | n :: r, i, h => by
    by_cases hn : 0 ≤ n ∧ n.toNat < (kidsv l i).length
    · obtain ⟨j, rfl⟩ := Int.eq_ofNat_of_zero_le hn.1
      have hj : j < (kidsv l i).length := by simpa using hn.2
      have hk := kidsv_fact l i j hj
      rw [downV_in l i j r j rfl hj]
      exact downV_neg l r _ (by omega)
    · exact .inr (downV_out l i n r hn)

set_option maxRecDepth 100000 in
set_option maxHeartbeats 8000000 in
theorem pathBack_walk (l : List Nd) (v : Value) (i : Int) (p : List Int) (u : Value) (w : World) (hv : NodesAt w v l) (hu : IntsAt w u p) :
    Calls Try.prog 4 #[v, .int .i64 i, u] w fun e w' => e = .returned (.bool true) ∧ Below w.heap.size w w' := by
  obtain ⟨pv, cv, hvs⟩ := hv.slice
  obtain ⟨pu, cu, hus⟩ := hu.slice
  subst hvs
  subst hus
  by_cases d1 : (60 : Int) < l.length
  · go_enter Try.func4, Try.ntmps4
    go_wp2_with (fail)
    refine (works11_any _).mono ?_
    rintro e w1 ⟨rfl, hb1⟩
    have hB1 := hb1
    go_wp2_with (fail)
    go_ret
    exact ⟨rfl, hB1⟩
  by_cases d2 : (60 : Int) < p.length
  · go_enter Try.func4, Try.ntmps4
    go_wp2_with (fail)
    refine (works11_any _).mono ?_
    rintro e w1 ⟨rfl, hb1⟩
    have hB1 := hb1
    go_wp2_with (fail)
    go_ret
    exact ⟨rfl, hB1⟩
  have hl : l.length ≤ 60 := by omega
  have hp : p.length ≤ 60 := by omega
  have cE := fun W h => End_any l 0 (.slice pv l.length cv) W h (by omega)
  have cO := fun W h => Of_any l i (.slice pv l.length cv) W h (by omega)
  have cF := fun W h1 h2 => Find_any l p (.slice pv l.length cv) (.slice pu p.length cu) W h1 h2 (by omega) (by omega)
  have hol := ofv_len l i
  by_cases hw : endv l 0 = l.length
  · have hE1 : (endv l 0 != (l.length : Int)) = false := by simp [hw]
    have hoi := ofv_some_iff hw i
    have hfp : findv l p = downV l 0 p := by rw [findv, if_pos hw]
    have hneg := downV_neg l p 0 (by omega)
    have hback := fun (h : 0 ≤ downV l 0 p) => down_ofv hw h rfl
    have cO2 := fun W h => Of_any l (downV l 0 p) (.slice pv l.length cv) W h (by omega)
    rw [hfp] at cF
    have cI := fun (u1 u2 : Value) (W : World) h1 h2 => Ints_any p p u1 u2 W h1 h2 (by omega) (by omega)
    rw [decide_eq_true rfl] at cI
    have HI := Lib.hid cI
    have hfa : ∀ q, ofv l i = some q → findv l q = i := fun q hq => by rw [findv, if_pos hw]; exact ofv_down hw hq
    generalize downV l 0 p = z at *
    have HE := Lib.hid cE
    have HF := Lib.hid cF
    clear cE cF cI hfp hw
    by_cases hr : 0 ≤ i ∧ i < l.length
    · obtain ⟨hr1, hr2⟩ := hr
      obtain ⟨q, hq⟩ := Option.isSome_iff_exists.1 (hoi.2 ⟨hr1, hr2⟩)
      have hql := hol q hq
      have cFa := fun (u1 : Value) W h1 h2 => Find_any l q (.slice pv l.length cv) u1 W h1 h2 (by omega) (by omega)
      rw [hfa q hq] at cFa
      have hii : (i != i) = false := by simp
      rw [hq] at cO
      have HO := Lib.hid cO
      have HFa := Lib.hid cFa
      clear cO cFa hq hoi hfa hol
      dsimp only [Option.isSome_some, Option.getD_some] at HO
      rcases hneg with hz | hz
      · rw [hback hz] at cO2
        have HO2 := Lib.hid cO2
        clear cO2 hback
        dsimp only [Option.isSome_some, Option.getD_some] at HO2
        have hz2 : ¬ z < 0 := by omega
        go_enter Try.func4, Try.ntmps4
        go_wp2_with (fail)
        refine (works11_any _).mono ?_
        rintro e w1 ⟨rfl, hb1⟩
        have hB1 := hb1
        have hv_1 := NodesIn.below hv hb1
        have hu_1 := IntsIn.below hu hb1
        go_wp2_with (fail)
        refine (HE.out _ hv_1).mono ?_
        rintro e w2 ⟨rfl, hb2⟩
        have hB2 := hB1.trans (hb2.mono hB1.size)
        have hv_2 := NodesIn.below hv_1 hb2
        have hu_2 := IntsIn.below hu_1 hb2
        go_wp2_with (fail)
        refine (HO.out _ hv_2).mono ?_
        rintro e w3 ⟨a1, rfl, ha, hb3⟩
        have hB3 := hB2.trans (hb3.mono hB2.size)
        have hv_3 := NodesIn.below hv_2 hb3
        have hu_3 := IntsIn.below hu_2 hb3
        go_wp2_with (fail)
        refine (HFa.out _ _ hv_3 ha).mono ?_
        rintro e w4 ⟨rfl, hb4⟩
        have hB4 := hB3.trans (hb4.mono hB3.size)
        have hv_4 := NodesIn.below hv_3 hb4
        have hu_4 := IntsIn.below hu_3 hb4
        have ha_4 := IntsIn.below ha hb4
        go_wp2_with (fail)
        refine (HF.out _ hv_4 hu_4).mono ?_
        rintro e w5 ⟨rfl, hb5⟩
        have hB5 := hB4.trans (hb5.mono hB4.size)
        have hv_5 := NodesIn.below hv_4 hb5
        have hu_5 := IntsIn.below hu_4 hb5
        have ha_5 := IntsIn.below ha_4 hb5
        go_wp2_with (fail)
        refine (HO2.out _ hv_5).mono ?_
        rintro e w6 ⟨b1, rfl, hbb, hb6⟩
        have hB6 := hB5.trans (hb6.mono hB5.size)
        have hv_6 := NodesIn.below hv_5 hb6
        have hu_6 := IntsIn.below hu_5 hb6
        have ha_6 := IntsIn.below ha_5 hb6
        go_wp2_with (fail)
        refine (HI.out _ _ _ hbb hu_6).mono ?_
        rintro e w7 ⟨rfl, hb7⟩
        have hB7 := hB6.trans (hb7.mono hB6.size)
        have hv_7 := NodesIn.below hv_6 hb7
        have hu_7 := IntsIn.below hu_6 hb7
        have ha_7 := IntsIn.below ha_6 hb7
        have hbb_7 := IntsIn.below hbb hb7
        go_wp2_with (fail)
        go_ret
        exact ⟨rfl, hB7⟩
      · subst hz
        clear cO2 hback
        go_enter Try.func4, Try.ntmps4
        go_wp2_with (fail)
        refine (works11_any _).mono ?_
        rintro e w1 ⟨rfl, hb1⟩
        have hB1 := hb1
        have hv_1 := NodesIn.below hv hb1
        have hu_1 := IntsIn.below hu hb1
        go_wp2_with (fail)
        refine (HE.out _ hv_1).mono ?_
        rintro e w2 ⟨rfl, hb2⟩
        have hB2 := hB1.trans (hb2.mono hB1.size)
        have hv_2 := NodesIn.below hv_1 hb2
        have hu_2 := IntsIn.below hu_1 hb2
        go_wp2_with (fail)
        refine (HO.out _ hv_2).mono ?_
        rintro e w3 ⟨a1, rfl, ha, hb3⟩
        have hB3 := hB2.trans (hb3.mono hB2.size)
        have hv_3 := NodesIn.below hv_2 hb3
        have hu_3 := IntsIn.below hu_2 hb3
        go_wp2_with (fail)
        refine (HFa.out _ _ hv_3 ha).mono ?_
        rintro e w4 ⟨rfl, hb4⟩
        have hB4 := hB3.trans (hb4.mono hB3.size)
        have hv_4 := NodesIn.below hv_3 hb4
        have hu_4 := IntsIn.below hu_3 hb4
        have ha_4 := IntsIn.below ha hb4
        go_wp2_with (fail)
        refine (HF.out _ hv_4 hu_4).mono ?_
        rintro e w5 ⟨rfl, hb5⟩
        have hB5 := hB4.trans (hb5.mono hB4.size)
        have hv_5 := NodesIn.below hv_4 hb5
        have hu_5 := IntsIn.below hu_4 hb5
        have ha_5 := IntsIn.below ha_4 hb5
        go_wp2_with (fail)
        go_ret
        exact ⟨rfl, hB5⟩
    · have hq : ofv l i = none := by
        cases hc : ofv l i with
        | none => rfl
        | some q => exact absurd (hoi.1 (by rw [hc]; rfl)) hr
      rw [hq] at cO
      have HO := Lib.hid cO
      clear cO hq hoi hfa hol
      dsimp only [Option.isSome_none, Option.getD_none] at HO
      by_cases hr1 : i < 0
      · clear hr
        rcases hneg with hz | hz
        · rw [hback hz] at cO2
          have HO2 := Lib.hid cO2
          clear cO2 hback
          dsimp only [Option.isSome_some, Option.getD_some] at HO2
          have hz2 : ¬ z < 0 := by omega
          go_enter Try.func4, Try.ntmps4
          go_wp2_with (fail)
          refine (works11_any _).mono ?_
          rintro e w1 ⟨rfl, hb1⟩
          have hB1 := hb1
          have hv_1 := NodesIn.below hv hb1
          have hu_1 := IntsIn.below hu hb1
          go_wp2_with (fail)
          refine (HE.out _ hv_1).mono ?_
          rintro e w2 ⟨rfl, hb2⟩
          have hB2 := hB1.trans (hb2.mono hB1.size)
          have hv_2 := NodesIn.below hv_1 hb2
          have hu_2 := IntsIn.below hu_1 hb2
          go_wp2_with (fail)
          refine (HO.out _ hv_2).mono ?_
          rintro e w3 ⟨a1, rfl, ha, hb3⟩
          have hB3 := hB2.trans (hb3.mono hB2.size)
          have hv_3 := NodesIn.below hv_2 hb3
          have hu_3 := IntsIn.below hu_2 hb3
          go_wp2_with (fail)
          refine (HF.out _ hv_3 hu_3).mono ?_
          rintro e w4 ⟨rfl, hb4⟩
          have hB4 := hB3.trans (hb4.mono hB3.size)
          have hv_4 := NodesIn.below hv_3 hb4
          have hu_4 := IntsIn.below hu_3 hb4
          have ha_4 := IntsIn.below ha hb4
          go_wp2_with (fail)
          refine (HO2.out _ hv_4).mono ?_
          rintro e w5 ⟨b1, rfl, hbb, hb5⟩
          have hB5 := hB4.trans (hb5.mono hB4.size)
          have hv_5 := NodesIn.below hv_4 hb5
          have hu_5 := IntsIn.below hu_4 hb5
          have ha_5 := IntsIn.below ha_4 hb5
          go_wp2_with (fail)
          refine (HI.out _ _ _ hbb hu_5).mono ?_
          rintro e w6 ⟨rfl, hb6⟩
          have hB6 := hB5.trans (hb6.mono hB5.size)
          have hv_6 := NodesIn.below hv_5 hb6
          have hu_6 := IntsIn.below hu_5 hb6
          have ha_6 := IntsIn.below ha_5 hb6
          have hbb_6 := IntsIn.below hbb hb6
          go_wp2_with (fail)
          go_ret
          exact ⟨rfl, hB6⟩
        · subst hz
          clear cO2 hback
          go_enter Try.func4, Try.ntmps4
          go_wp2_with (fail)
          refine (works11_any _).mono ?_
          rintro e w1 ⟨rfl, hb1⟩
          have hB1 := hb1
          have hv_1 := NodesIn.below hv hb1
          have hu_1 := IntsIn.below hu hb1
          go_wp2_with (fail)
          refine (HE.out _ hv_1).mono ?_
          rintro e w2 ⟨rfl, hb2⟩
          have hB2 := hB1.trans (hb2.mono hB1.size)
          have hv_2 := NodesIn.below hv_1 hb2
          have hu_2 := IntsIn.below hu_1 hb2
          go_wp2_with (fail)
          refine (HO.out _ hv_2).mono ?_
          rintro e w3 ⟨a1, rfl, ha, hb3⟩
          have hB3 := hB2.trans (hb3.mono hB2.size)
          have hv_3 := NodesIn.below hv_2 hb3
          have hu_3 := IntsIn.below hu_2 hb3
          go_wp2_with (fail)
          refine (HF.out _ hv_3 hu_3).mono ?_
          rintro e w4 ⟨rfl, hb4⟩
          have hB4 := hB3.trans (hb4.mono hB3.size)
          have hv_4 := NodesIn.below hv_3 hb4
          have hu_4 := IntsIn.below hu_3 hb4
          have ha_4 := IntsIn.below ha hb4
          go_wp2_with (fail)
          go_ret
          exact ⟨rfl, hB4⟩
      · have hr2 : ¬ i < l.length := by omega
        clear hr
        rcases hneg with hz | hz
        · rw [hback hz] at cO2
          have HO2 := Lib.hid cO2
          clear cO2 hback
          dsimp only [Option.isSome_some, Option.getD_some] at HO2
          have hz2 : ¬ z < 0 := by omega
          go_enter Try.func4, Try.ntmps4
          go_wp2_with (fail)
          refine (works11_any _).mono ?_
          rintro e w1 ⟨rfl, hb1⟩
          have hB1 := hb1
          have hv_1 := NodesIn.below hv hb1
          have hu_1 := IntsIn.below hu hb1
          go_wp2_with (fail)
          refine (HE.out _ hv_1).mono ?_
          rintro e w2 ⟨rfl, hb2⟩
          have hB2 := hB1.trans (hb2.mono hB1.size)
          have hv_2 := NodesIn.below hv_1 hb2
          have hu_2 := IntsIn.below hu_1 hb2
          go_wp2_with (fail)
          refine (HO.out _ hv_2).mono ?_
          rintro e w3 ⟨a1, rfl, ha, hb3⟩
          have hB3 := hB2.trans (hb3.mono hB2.size)
          have hv_3 := NodesIn.below hv_2 hb3
          have hu_3 := IntsIn.below hu_2 hb3
          go_wp2_with (fail)
          refine (HF.out _ hv_3 hu_3).mono ?_
          rintro e w4 ⟨rfl, hb4⟩
          have hB4 := hB3.trans (hb4.mono hB3.size)
          have hv_4 := NodesIn.below hv_3 hb4
          have hu_4 := IntsIn.below hu_3 hb4
          have ha_4 := IntsIn.below ha hb4
          go_wp2_with (fail)
          refine (HO2.out _ hv_4).mono ?_
          rintro e w5 ⟨b1, rfl, hbb, hb5⟩
          have hB5 := hB4.trans (hb5.mono hB4.size)
          have hv_5 := NodesIn.below hv_4 hb5
          have hu_5 := IntsIn.below hu_4 hb5
          have ha_5 := IntsIn.below ha_4 hb5
          go_wp2_with (fail)
          refine (HI.out _ _ _ hbb hu_5).mono ?_
          rintro e w6 ⟨rfl, hb6⟩
          have hB6 := hB5.trans (hb6.mono hB5.size)
          have hv_6 := NodesIn.below hv_5 hb6
          have hu_6 := IntsIn.below hu_5 hb6
          have ha_6 := IntsIn.below ha_5 hb6
          have hbb_6 := IntsIn.below hbb hb6
          go_wp2_with (fail)
          go_ret
          exact ⟨rfl, hB6⟩
        · subst hz
          clear cO2 hback
          go_enter Try.func4, Try.ntmps4
          go_wp2_with (fail)
          refine (works11_any _).mono ?_
          rintro e w1 ⟨rfl, hb1⟩
          have hB1 := hb1
          have hv_1 := NodesIn.below hv hb1
          have hu_1 := IntsIn.below hu hb1
          go_wp2_with (fail)
          refine (HE.out _ hv_1).mono ?_
          rintro e w2 ⟨rfl, hb2⟩
          have hB2 := hB1.trans (hb2.mono hB1.size)
          have hv_2 := NodesIn.below hv_1 hb2
          have hu_2 := IntsIn.below hu_1 hb2
          go_wp2_with (fail)
          refine (HO.out _ hv_2).mono ?_
          rintro e w3 ⟨a1, rfl, ha, hb3⟩
          have hB3 := hB2.trans (hb3.mono hB2.size)
          have hv_3 := NodesIn.below hv_2 hb3
          have hu_3 := IntsIn.below hu_2 hb3
          go_wp2_with (fail)
          refine (HF.out _ hv_3 hu_3).mono ?_
          rintro e w4 ⟨rfl, hb4⟩
          have hB4 := hB3.trans (hb4.mono hB3.size)
          have hv_4 := NodesIn.below hv_3 hb4
          have hu_4 := IntsIn.below hu_3 hb4
          have ha_4 := IntsIn.below ha hb4
          go_wp2_with (fail)
          go_ret
          exact ⟨rfl, hB4⟩
  · have hE1 : (endv l 0 != (l.length : Int)) = true := by simp [hw]
    have hfp : findv l p = -1 := by rw [findv, if_neg hw]
    rw [hfp] at cF
    rw [ofv_no l i hw] at cO
    have HE := Lib.hid cE
    have HO := Lib.hid cO
    have HF := Lib.hid cF
    clear cE cO cF hfp hw hol
    dsimp only [Option.isSome_none, Option.getD_none] at HO
    go_enter Try.func4, Try.ntmps4
    go_wp2_with (fail)
    refine (works11_any _).mono ?_
    rintro e w1 ⟨rfl, hb1⟩
    have hB1 := hb1
    have hv_1 := NodesIn.below hv hb1
    have hu_1 := IntsIn.below hu hb1
    go_wp2_with (fail)
    refine (HE.out _ hv_1).mono ?_
    rintro e w2 ⟨rfl, hb2⟩
    have hB2 := hB1.trans (hb2.mono hB1.size)
    have hv_2 := NodesIn.below hv_1 hb2
    have hu_2 := IntsIn.below hu_1 hb2
    go_wp2_with (fail)
    refine (HO.out _ hv_2).mono ?_
    rintro e w3 ⟨a1, rfl, ha, hb3⟩
    have hB3 := hB2.trans (hb3.mono hB2.size)
    have hv_3 := NodesIn.below hv_2 hb3
    have hu_3 := IntsIn.below hu_2 hb3
    go_wp2_with (fail)
    refine (HF.out _ hv_3 hu_3).mono ?_
    rintro e w4 ⟨rfl, hb4⟩
    have hB4 := hB3.trans (hb4.mono hB3.size)
    have hv_4 := NodesIn.below hv_3 hb4
    have hu_4 := IntsIn.below hu_3 hb4
    have ha_4 := IntsIn.below ha hb4
    go_wp2_with (fail)
    go_ret
    exact ⟨rfl, hB4⟩
end Go.Proofs.Ytnmgfobpcengkaa
