/-
  The reference's Kids, Ints.
-/
import Derived.Test.YtnmgfobpcengkaaKids
import Derived.Test.YtnmgfobpcengkaaRefB
namespace Go.Proofs.Ytnmgfobpcengkaa
set_option maxRecDepth 100000
open Go.RowKit
set_option maxHeartbeats 1000000 in
theorem refKids_any (l : List Nd) (i : Int) (v : Value) (w : World) (hv : NodesAt w v l) (hl : l.length ≤ 4000000) :
    Calls Try.prog 30 #[v, .int .i64 i] w fun e W' => ∃ u, e = .returned u ∧ IntsIn (fun k => w.heap.size ≤ k ∧ k < W'.heap.size) W' u (kidsv l i) ∧ Below w.heap.size w W' := by
  obtain ⟨i0, hi, hz0, hz1, hz2⟩ := info_parts infoInt
  rcases endv_bound l i with hE | hE
  · have hlt : endv l i < 0 := by omega
    have HK := Lib.hid (kidsv_no l i hlt)
    clear hE
    go_enter Try.func30, Try.ntmps30
    go_wp2_with (go_at_call 35; refine (refEnd_any l _ _ _ hv hl).mono ?_; rintro e w1 ⟨rfl, hb⟩)
    go_ret
    exact ⟨_, rfl, by rw [HK.out]; exact .inl ⟨none, 0, rfl, rfl, rfl, fun _ => rfl⟩, hb⟩
  · obtain ⟨hi0, hil⟩ := endv_in l i hE
    obtain ⟨k, rfl⟩ := Int.eq_ofNat_of_zero_le hi0
    have hnlt : ¬ endv l k < 0 := by omega
    have hkl : k < l.length := by simpa using hil
    have har := endv_ar l k hE
    have HK := Lib.hid (kidsv_eq l k hE)
    rcases hv.open with ⟨rfl, _⟩ | ⟨b, o, cap, rfl, hpos, hcap, hbs, hcell⟩
    · simp at hkl
    have HA := Lib.hid (arAt_in l k hkl)
    have hab := ar_bound l[k]
    rw [HA.out] at har
    obtain ⟨hc0, hc1⟩ := hcell k hkl
    go_enter Try.func30, Try.ntmps30
    go_wp2_with (go_at_call 35; refine (refEnd_any l _ _ _ hv hl).mono ?_; rintro e w1 ⟨rfl, hb⟩)
    go_loopw [5, 6, 7] (fun u kk c wr => ∃ m : Nat, (m : Int) ≤ ar l[k] ∧ c = .int .i64 m ∧ kk = .int .i64 (kth l (k + 1) m) ∧ wr.ownsRow w.heap.size 3 1 u (upto (kth l (k + 1)) m).length ((upto (kth l (k + 1)) m).map (Value.int .i64)) ∧ Below w.heap.size w wr)
      (fun _ _ c _ => (ar l[k] - intOf c).toNat)
    case atStart => exact ⟨0, har, rfl, rfl, World.ownsRow_nil _ _ _ _, hb⟩
    case round =>
      obtain ⟨m, hm, rfl, rfl, hrow, hB⟩ := hrel
      have hc0 : wr.cell? ⟨b, o + k * 2, none⟩ = some (.int .i64 l[k].1) := (hB.cell (p := ⟨b, o + k * 2, none⟩) hbs).trans hc0
      have hc1 : wr.cell? ⟨b, o + k * 2 + 1, none⟩ = some (.int .i64 l[k].2) := (hB.cell (p := ⟨b, o + k * 2 + 1, none⟩) hbs).trans hc1
      have hsz := hB.size
      have hul := Lib.hid (upto_length (kth l (k + 1)) m)
      by_cases hlt : (m : Int) < ar l[k]
      · go_wp2_with (first
          | (go_at_call 26; refine (refArity_any l[k] _).mono ?_; rintro e w2 ⟨rfl, hb2⟩; have hrow2 := ownsRow_below hrow hb2; have hsz2 := hb2.size)
          | (at_builtin; refine wpList_append_own _ rfl _ _ 23 rfl w.heap.size 3 i0 (.int .i64 0) 1 8 Try.underlying23 hi hz0 hz1 hz2 rfl (by decide) _ _ _ rfl (hrow2.alloc _) ⟨w2.heap.size, 0, none⟩ 1 1 [.int .i64 (kth l (k + 1) m)] rfl rfl (cell_one_new _ _ _) (by simp [Value.oneCell']) (by rw [hul.out]; unfold maxLen; omega) (by rw [hul.out]; omega) (by simp; omega) ?_; intro v' w3 hown' hgrow _; have hB3 : Below w.heap.size w w3 := ((hB.trans (hb2.mono hsz)).alloc (by omega) _).grown hgrow (by simp; omega) (fun j hj => (hrow2.lt j hj).1); have hv3 := hv.below hB3; have hsz3 := hB3.size)
          | (go_at_call 35; refine (refEnd_any l _ _ _ hv3 hl).mono ?_; rintro e w4 ⟨rfl, hb4⟩))
        go_round
        case rel => exact ⟨m + 1, by omega, by go_num, rfl, by rw [upto_succ]; simpa using ownsRow_below hown' hb4, hB3.trans (hb4.mono hsz3)⟩
        case measure => simp [intOf]; omega
      · go_wp2_with (go_at_call 26; refine (refArity_any l[k] _).mono ?_; rintro e w2 ⟨rfl, hb2⟩; have hrow2 := ownsRow_below hrow hb2)
        go_ret
        refine ⟨_, rfl, ?_, hB.trans (hb2.mono hsz)⟩
        rw [HK.out, HA.out, show (ar l[k]).toNat = m from by omega]
        exact ownsRow_ints hrow2
end Go.Proofs.Ytnmgfobpcengkaa
