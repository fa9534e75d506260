/-
  PathKids: the law's walk.
-/
import Derived.Test.YtnmgfobpcengkaaPathAll
namespace Go.Proofs.Ytnmgfobpcengkaa
open Go.RowKit
set_option linter.unusedVariables false

set_option maxRecDepth 100000 in
set_option maxHeartbeats 4000000 in
theorem pathKids_walk (l : List Nd) (v : Value) (i : Int) (n : Int) (w : World) (hv : NodesAt w v l) :
    Calls Try.prog 7 #[v, .int .i64 i, .int .i64 n] w fun e w' => e = .returned (.bool true) ∧ Below w.heap.size w w' := by
  obtain ⟨i0, hi0, hz0, hz1, hz2⟩ := info_parts infoInt
  obtain ⟨pv, cv, hvs⟩ := hv.slice
  subst hvs
  by_cases d1 : (60 : Int) < l.length
  · go_enter Try.func7, Try.ntmps7
    go_wp2_with (fail)
    refine (works11_any _).mono ?_
    rintro e w1 ⟨rfl, hb1⟩
    have hB1 := hb1
    go_wp2_with (fail)
    go_ret
    exact ⟨rfl, hB1⟩
  · have hl : l.length ≤ 60 := by omega
    have cO := fun W h => Of_any l i (.slice pv l.length cv) W h (by omega)
    have cK := fun W h => Kids_any l i (.slice pv l.length cv) W h (by omega)
    have hkl := kidsv_len l i
    cases ho : ofv l i with
    | none =>
      rw [ho] at cO
      have HO := Lib.hid cO
      have HK := Lib.hid cK
      clear cO cK ho
      go_enter Try.func7, Try.ntmps7
      go_wp2_with (fail)
      refine (works11_any _).mono ?_
      rintro e w1 ⟨rfl, hb1⟩
      have hB1 := hb1
      have hv_1 := NodesIn.below hv hb1
      go_wp2_with (fail)
      refine (HO.out _ hv_1).mono ?_
      rintro e w2 ⟨a1, rfl, ha, hb2⟩
      have hB2 := hB1.trans (hb2.mono hB1.size)
      have hv_2 := NodesIn.below hv_1 hb2
      dsimp only [Option.isSome_some, Option.isSome_none, Option.getD_some, Option.getD_none] at *
      go_wp2_with (fail)
      refine (HK.out _ hv_2).mono ?_
      rintro e w3 ⟨kv, rfl, hq, hb3⟩
      have hB3 := hB2.trans (hb3.mono hB2.size)
      have hv_3 := NodesIn.below hv_2 hb3
      have ha_3 := IntsIn.below ha hb3
      obtain ⟨pq, cq, hqs⟩ := hq.slice
      subst hqs
      go_wp2_with (fail)
      go_ret
      exact ⟨rfl, hB3⟩
    | some q =>
      by_cases hn : 0 ≤ n ∧ n < (kidsv l i).length
      · obtain ⟨m, rfl⟩ := Int.eq_ofNat_of_zero_le hn.1
        have hm : m < (kidsv l i).length := by omega
        have hw : endv l 0 = l.length := by
          by_cases hw : endv l 0 = l.length
          · exact hw
          · rw [ofv_no l i hw] at ho; cases ho
        have hk := ofv_kid hw ho m hm
        have hql := ofv_len l i q ho
        have hn1 : ¬ (m : Int) < 0 := by omega
        have hn2 : ¬ ((kidsv l i).length : Int) ≤ (m : Int) := by omega
        have hn3 : (m : Int) < ((kidsv l i).length : Int) := by omega
        have cO2 := fun W h => Of_any l (kidsv l i)[m] (.slice pv l.length cv) W h (by omega)
        rw [hk] at cO2
        rw [ho] at cO
        have HO := Lib.hid cO
        have HK := Lib.hid cK
        have HO2 := Lib.hid cO2
        have cI := fun (u1 u2 : Value) (W : World) h1 h2 => Ints_any (q ++ [(m : Int)]) (q ++ [(m : Int)]) u1 u2 W h1 h2 (by simp; omega) (by simp; omega)
        rw [decide_eq_true rfl] at cI
        have HI := Lib.hid cI
        clear cO cK ho cO2 hk hw cI hn
        go_enter Try.func7, Try.ntmps7
        go_wp2_with (fail)
        refine (works11_any _).mono ?_
        rintro e w1 ⟨rfl, hb1⟩
        have hB1 := hb1
        have hv_1 := NodesIn.below hv hb1
        go_wp2_with (fail)
        refine (HO.out _ hv_1).mono ?_
        rintro e w2 ⟨a1, rfl, ha, hb2⟩
        have hB2 := hB1.trans (hb2.mono hB1.size)
        have hv_2 := NodesIn.below hv_1 hb2
        dsimp only [Option.isSome_some, Option.isSome_none, Option.getD_some, Option.getD_none] at *
        go_wp2_with (fail)
        refine (HK.out _ hv_2).mono ?_
        rintro e w3 ⟨kv, rfl, hq, hb3⟩
        have hB3 := hB2.trans (hb3.mono hB2.size)
        have hv_3 := NodesIn.below hv_2 hb3
        have ha_3 := IntsIn.below ha hb3
        rcases hq.open with ⟨h0, _⟩ | ⟨bq, oq, cq, hqs, hqp, hqc, hqb, hqx⟩
        · exfalso; rw [h0] at hm; simp at hm
        have gq := hqx m hm
        clear hqx
        subst hqs
        go_wp2_with (fail)
        refine (HO2.out _ hv_3).mono ?_
        rintro e w4 ⟨a2, rfl, hc, hb4⟩
        have hB4 := hB3.trans (hb4.mono hB3.size)
        have hv_4 := NodesIn.below hv_3 hb4
        have ha_4 := IntsIn.below ha_3 hb4
        dsimp only [Option.isSome_some, Option.getD_some] at hc ⊢
        have hz := hB4.size
        have ha' := IntsIn.kept ha_4 (kept_below (below_alloc1 w4 (.cells #[] 3)))
        go_wp2_with (first | (at_builtin; refine wpList_append_in rfl (.tmp 53) (.tmp 54) 23 rfl w4.heap.size 3 i0 (.int .i64 0) 1 8 Try.underlying23 hi0 hz0 hz1 hz2 rfl (by decide) _ _ _ rfl (ownsRow_empty w4 w4.heap.size 3 1 (Nat.le_refl _)) _ q.length _ rfl ha' (by simp) (ints_one q) (by unfold maxLen; omega) (by omega) (by simp) ?_; intro v4 x4 hown4 hgrow4; have hs4 := hgrow4.size; rw [World.size_alloc] at hs4) | (at_builtin; refine wpList_append_in rfl (.tmp 55) (.tmp 57) 23 rfl w4.heap.size 3 i0 (.int .i64 0) 1 8 Try.underlying23 hi0 hz0 hz1 hz2 rfl (by decide) _ _ _ rfl (hown4.alloc _) _ 1 [.int .i64 m] rfl (sliceIn_one x4 (.int .i64 m) 3) (by simp) (by simp [Value.oneCell']) (by unfold maxLen; omega) (by omega) (by simp; omega) ?_; intro v5 x5 hown5 hgrow5))
        have hown5' : x5.ownsRow w4.heap.size 3 1 v5 (q ++ [(m : Int)]).length ((q ++ [(m : Int)]).map (Value.int .i64)) := by simpa using hown5
        have hb4 : Below w4.heap.size w4 x4 := (below_alloc1 w4 _).grown hgrow4 (by simp) (fun j hj => ((ownsRow_empty w4 w4.heap.size 3 1 (Nat.le_refl _)).lt j hj).1)
        have hb5 : Below w4.heap.size w4 x5 := (hb4.alloc (by omega) _).grown hgrow5 (by simp; omega) (fun j hj => (hown4.lt j hj).1)
        have hc5 := IntsIn.below hc hb5
        have hr5 : IntsAt x5 v5 (q ++ [(m : Int)]) := (ownsRow_ints hown5').mono (fun k hk => hk.2)
        refine (HI.out _ _ _ hc5 hr5).mono ?_
        rintro e x6 ⟨rfl, hb6⟩
        go_wp2_with (fail)
        go_ret
        exact ⟨rfl, hB4.trans ((hb5.mono hB4.size).trans (hb6.mono (Nat.le_trans hB4.size hb5.size)))⟩
      · have HO : Hid (∀ W, NodesAt W (.slice pv l.length cv) l → Calls Try.prog 14 #[.slice pv l.length cv, .int .i64 i] W fun e w' => ∃ u, e = .returned (.tuple #[u, .bool true]) ∧ IntsAt w' u q ∧ Below W.heap.size W w') := by
          rw [ho] at cO
          exact Lib.hid cO
        have HK := Lib.hid cK
        clear cO cK ho
        by_cases hn1 : n < 0
        · clear hn
          go_enter Try.func7, Try.ntmps7
          go_wp2_with (fail)
          refine (works11_any _).mono ?_
          rintro e w1 ⟨rfl, hb1⟩
          have hB1 := hb1
          have hv_1 := NodesIn.below hv hb1
          go_wp2_with (fail)
          refine (HO.out _ hv_1).mono ?_
          rintro e w2 ⟨a1, rfl, ha, hb2⟩
          have hB2 := hB1.trans (hb2.mono hB1.size)
          have hv_2 := NodesIn.below hv_1 hb2
          dsimp only [Option.isSome_some, Option.isSome_none, Option.getD_some, Option.getD_none] at *
          go_wp2_with (fail)
          refine (HK.out _ hv_2).mono ?_
          rintro e w3 ⟨kv, rfl, hq, hb3⟩
          have hB3 := hB2.trans (hb3.mono hB2.size)
          have hv_3 := NodesIn.below hv_2 hb3
          have ha_3 := IntsIn.below ha hb3
          obtain ⟨pq, cq, hqs⟩ := hq.slice
          subst hqs
          go_wp2_with (fail)
          go_ret
          exact ⟨rfl, hB3⟩
        · have hn2 : ((kidsv l i).length : Int) ≤ n := by omega
          clear hn
          go_enter Try.func7, Try.ntmps7
          go_wp2_with (fail)
          refine (works11_any _).mono ?_
          rintro e w1 ⟨rfl, hb1⟩
          have hB1 := hb1
          have hv_1 := NodesIn.below hv hb1
          go_wp2_with (fail)
          refine (HO.out _ hv_1).mono ?_
          rintro e w2 ⟨a1, rfl, ha, hb2⟩
          have hB2 := hB1.trans (hb2.mono hB1.size)
          have hv_2 := NodesIn.below hv_1 hb2
          dsimp only [Option.isSome_some, Option.isSome_none, Option.getD_some, Option.getD_none] at *
          go_wp2_with (fail)
          refine (HK.out _ hv_2).mono ?_
          rintro e w3 ⟨kv, rfl, hq, hb3⟩
          have hB3 := hB2.trans (hb3.mono hB2.size)
          have hv_3 := NodesIn.below hv_2 hb3
          have ha_3 := IntsIn.below ha hb3
          obtain ⟨pq, cq, hqs⟩ := hq.slice
          subst hqs
          go_wp2_with (fail)
          go_ret
          exact ⟨rfl, hB3⟩
end Go.Proofs.Ytnmgfobpcengkaa
