/-
  PathTells: the law's walk.
-/
import Derived.Test.YtnmgfobpcengkaaPathAll
namespace Go.Proofs.Ytnmgfobpcengkaa
open Go.RowKit
set_option linter.unusedVariables false

set_option maxRecDepth 100000 in
set_option maxHeartbeats 4000000 in
theorem pathTells_walk (l : List Nd) (v : Value) (i : Int) (p : List Int) (u : Value) (w : World) (hv : NodesAt w v l) (hu : IntsAt w u p) :
    Calls Try.prog 3 #[v, .int .i64 i, u] w fun e w' => e = .returned (.bool true) ∧ Below w.heap.size w w' := by
  obtain ⟨pv, cv, hvs⟩ := hv.slice
  obtain ⟨pu, cu, hus⟩ := hu.slice
  subst hvs
  subst hus
  by_cases d1 : (60 : Int) < l.length
  · go_enter Try.func3, Try.ntmps3
    go_wp2_with (fail)
    refine (works11_any _).mono ?_
    rintro e w1 ⟨rfl, hb1⟩
    have hB1 := hb1
    go_wp2_with (fail)
    go_ret
    exact ⟨rfl, hB1⟩
  · by_cases d2 : (60 : Int) < p.length
    · go_enter Try.func3, Try.ntmps3
      go_wp2_with (fail)
      refine (works11_any _).mono ?_
      rintro e w1 ⟨rfl, hb1⟩
      have hB1 := hb1
      go_wp2_with (fail)
      go_ret
      exact ⟨rfl, hB1⟩
    · have hl : l.length ≤ 60 := by omega
      have hp : p.length ≤ 60 := by omega
      have cO := fun W h => Of_any l i (.slice pv l.length cv) W h (by omega)
      have cR := fun W h => refOf_all l (.slice pv l.length cv) (by omega) i W h
      have hol := ofv_len l i
      generalize ofv l i = q at *
      have hql : (q.getD []).length ≤ 60 := by
        cases q with
        | none => simp
        | some q => have := hol q rfl; simp; omega
      have hqq : (q.isSome == q.isSome) = true := by simp
      generalize q.getD [] = qs at *
      generalize q.isSome = qb at *
      have HO := Lib.hid cO
      have HR := Lib.hid cR
      clear cO cR hol
      have cI := fun (u1 u2 : Value) (W : World) h1 h2 => Ints_any qs qs u1 u2 W h1 h2 (by omega) (by omega)
      rw [decide_eq_true rfl] at cI
      have HI := Lib.hid cI
      have cF := fun W h1 h2 => Find_any l p (.slice pv l.length cv) (.slice pu p.length cu) W h1 h2 (by omega) (by omega)
      have cG := fun W h1 h2 => refFind_any l p (.slice pv l.length cv) (.slice pu p.length cu) W h1 h2 (by omega) (by omega)
      generalize findv l p = z at *
      have hzz : (z == z) = true := by simp
      have HF := Lib.hid cF
      have HG := Lib.hid cG
      clear cI cF cG
      go_enter Try.func3, Try.ntmps3
      go_wp2_with (fail)
      refine (works11_any _).mono ?_
      rintro e w1 ⟨rfl, hb1⟩
      have hB1 := hb1
      have hv_1 := NodesIn.below hv hb1
      have hu_1 := IntsIn.below hu hb1
      go_wp2_with (fail)
      refine (HO.out _ hv_1).mono ?_
      rintro e w2 ⟨a1, rfl, ha, hb2⟩
      have hB2 := hB1.trans (hb2.mono hB1.size)
      have hv_2 := NodesIn.below hv_1 hb2
      have hu_2 := IntsIn.below hu_1 hb2
      go_wp2_with (fail)
      refine (HR.out _ hv_2).mono ?_
      rintro e w3 ⟨a2, rfl, hc, hb3⟩
      have hB3 := hB2.trans (hb3.mono hB2.size)
      have hv_3 := NodesIn.below hv_2 hb3
      have hu_3 := IntsIn.below hu_2 hb3
      have ha_3 := IntsIn.below ha hb3
      go_wp2_with (fail)
      refine (HI.out _ _ _ ha_3 hc).mono ?_
      rintro e w4 ⟨rfl, hb4⟩
      have hB4 := hB3.trans (hb4.mono hB3.size)
      have hv_4 := NodesIn.below hv_3 hb4
      have hu_4 := IntsIn.below hu_3 hb4
      have ha_4 := IntsIn.below ha_3 hb4
      have hc_4 := IntsIn.below hc hb4
      go_wp2_with (fail)
      refine (HF.out _ hv_4 hu_4).mono ?_
      rintro e w5 ⟨rfl, hb5⟩
      have hB5 := hB4.trans (hb5.mono hB4.size)
      have hv_5 := NodesIn.below hv_4 hb5
      have hu_5 := IntsIn.below hu_4 hb5
      have ha_5 := IntsIn.below ha_4 hb5
      have hc_5 := IntsIn.below hc_4 hb5
      go_wp2_with (fail)
      refine (HG.out _ hv_5 hu_5).mono ?_
      rintro e w6 ⟨rfl, hb6⟩
      have hB6 := hB5.trans (hb6.mono hB5.size)
      have hv_6 := NodesIn.below hv_5 hb6
      have hu_6 := IntsIn.below hu_5 hb6
      have ha_6 := IntsIn.below ha_5 hb6
      have hc_6 := IntsIn.below hc_5 hb6
      go_wp2_with (fail)
      go_ret
      exact ⟨rfl, hB6⟩
end Go.Proofs.Ytnmgfobpcengkaa
