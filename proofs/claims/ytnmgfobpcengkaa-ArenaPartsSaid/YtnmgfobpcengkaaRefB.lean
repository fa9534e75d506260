import Derived.Test.YtnmgfobpcengkaaRefA
import Derived.Test.YtnmgfobpcengkaaBase
namespace Go.Proofs.Ytnmgfobpcengkaa
open Go.RowKit
set_option maxHeartbeats 1000000 in
theorem refEnd_any (l : List Nd) (i : Int) (v : Value) (w : World) (hv : NodesAt w v l) (hl : l.length ≤ 4000000) :
    Calls Try.prog 35 #[v, .int .i64 i] w fun e w' => e = .returned (.int .i64 (endv l i)) ∧ Below w.heap.size w w' := by
  by_cases h0 : i < 0
  · go_enter Try.func35, Try.ntmps35
    go_wp2
    go_ret
    exact ⟨ret_int (endv_neg l i h0).symm, Below.refl _ _⟩
  · obtain ⟨k0, rfl⟩ := Int.eq_ofNat_of_zero_le (Int.not_lt.1 h0)
    have he0 := Lib.hid (endv_nat l k0)
    obtain ⟨p, cap, rfl⟩ := hv.slice
    go_enter Try.func35, Try.ntmps35
    go_wp2
    go_loopw [5, 6] (fun t i wr => ∃ (k : Nat) (z : Int), i = .int .i64 k ∧ t = .int .i64 z ∧ 1 ≤ z ∧ z ≤ 1 + 200 * (k - k0) ∧ k0 ≤ k ∧ (k ≤ l.length ∨ k = k0) ∧ Hid (endv l k0 = fin k (scan z.toNat (l.drop k))) ∧ Below w.heap.size w wr)
      (fun _ i _ => l.length - (intOf i).toNat)
    case atStart => exact ⟨k0, 1, rfl, rfl, by omega, by omega, by omega, .inr rfl, he0, Below.refl _ _⟩
    case round =>
      obtain ⟨k, z, rfl, rfl, hz1, hz2, hk0, hkl, he, hB⟩ := hrel
      by_cases hk : k < l.length
      · rcases hv.open with ⟨rfl, _⟩ | ⟨b, o, cap', hsl, hpos, hcap, hbs, hcell⟩
        · simp at hk
        · obtain ⟨rfl, rfl⟩ : p = some ⟨b, o, none⟩ ∧ cap = cap' := by simpa using hsl
          obtain ⟨hc0, hc1⟩ := hcell k hk
          have hc0 : wr.cell? ⟨b, o + k * 2, none⟩ = some (.int .i64 l[k].1) := (hB.cell (p := ⟨b, o + k * 2, none⟩) hbs).trans hc0
          have hc1 : wr.cell? ⟨b, o + k * 2 + 1, none⟩ = some (.int .i64 l[k].2) := (hB.cell (p := ⟨b, o + k * 2 + 1, none⟩) hbs).trans hc1
          clear hcell hsl
          have hab := ar_bound l[k]
          go_wp2_with (go_at_call 26; refine (refArity_any l[k] _).mono ?_; rintro e w1 ⟨rfl, hb⟩)
          · go_ret
            exact ⟨ret_int (by rw [he.out, fin_bad l k z hz1 hk (by assumption)]), hB.trans (hb.mono hB.size)⟩
          · have hz0 : z - 1 + ar l[k] = 0 := by first | assumption | exact beq_iff_eq.1 (by assumption)
            go_ret
            exact ⟨ret_int (by rw [he.out, fin_stop l k z hz1 hk (by omega) (by omega)]), hB.trans (hb.mono hB.size)⟩
          · have hz0 : z - 1 + ar l[k] ≠ 0 := by first | assumption | exact beq_eq_false_iff_ne.1 (by assumption)
            go_round
            case rel => exact ⟨k + 1, z + (ar l[k] - 1), by go_num, by rw [show z - 1 + ar l[k] = z + (ar l[k] - 1) from by omega], by omega, by omega, by omega, .inl (by omega), Lib.hid (by rw [he.out, fin_go l k z hz1 hk (by omega)]), hB.trans (hb.mono hB.size)⟩
            case measure => simp [intOf]; omega
      · go_wp2
        go_ret
        exact ⟨ret_int (by rw [he.out, fin_end l k z hz1 (by omega)]), hB⟩
end Go.Proofs.Ytnmgfobpcengkaa
