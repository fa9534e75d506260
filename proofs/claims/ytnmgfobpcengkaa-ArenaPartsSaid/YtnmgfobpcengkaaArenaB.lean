/-
  arena.End: what it computes.
-/
import Derived.Test.YtnmgfobpcengkaaArenaA
namespace Go.Proofs.Ytnmgfobpcengkaa
open Go.RowKit
set_option maxHeartbeats 1000000 in
theorem End_any (l : List Nd) (i : Int) (v : Value) (w : World) (hv : NodesAt w v l) (hl : l.length ≤ 4000000) :
    Calls Try.prog 19 #[v, .int .i64 i] w fun e w' => e = .returned (.int .i64 (endv l i)) ∧ Below w.heap.size w w' := by
  by_cases h0 : i < 0
  · go_enter Try.func19, Try.ntmps19
    go_wp2
    go_step3
    go_wp2
    rw [Exit.noGoto_ret]
    go_ret
    exact ⟨ret_int (endv_neg l i h0).symm, Below.refl _ _⟩
  · obtain ⟨k0, rfl⟩ := Int.eq_ofNat_of_zero_le (Int.not_lt.1 h0)
    rcases hv.open with ⟨rfl, p, cap, rfl⟩ | ⟨b, o, cap, rfl, hpos, hcap, hbs, hcell⟩
    · go_enter Try.func19, Try.ntmps19
      go_wp2
      go_step3
      go_wp2
      go_step3
      go_wp2
      rw [Exit.noGoto_ret]
      go_ret
      exact ⟨ret_int (by rw [endv_nat, fin_end _ _ _ (by omega) (by simp)]), Below.refl _ _⟩
    · clear hv
      go_enter Try.func19, Try.ntmps19
      go_wp2
      refine wp_scope_jumps 0 (fun a' w' => Below w.heap.size w w' ∧ ∃ (k : Nat) (t : Int) (u7 u8 u9 u10 u11 u12 u13 u14 u15 u16 u17 u18 u19 u20 u21 u22 u23 u24 u25 u26 u27 u28 u29 u30 : Value),
        a' = { tmps := #[.slice (some ⟨b, o, none⟩) l.length cap, .int .i64 k0, undef, undef, .int .i64 0, .int .i64 k, .int .i64 t, u7, u8, u9, u10, u11, u12, u13, u14, u15, u16, u17, u18, u19, u20, u21, u22, u23, u24, u25, u26, u27, u28, u29, u30], defers := [] } ∧
        1 ≤ t ∧ t ≤ 1 + 200 * (k - k0) ∧ k0 ≤ k ∧ (k ≤ l.length ∨ k = k0) ∧ endv l k0 = fin k (scan t.toNat (l.drop k))) (fun a' _ => l.length - (intOf (a'.tmps.getD 5 undef)).toNat) rfl ?_ ?_
      · have he := Lib.hid (endv_nat l k0)
        by_cases hk : k0 < l.length
        · obtain ⟨hc0, hc1⟩ := hcell k0 hk
          clear hcell
          go_wp2
          go_step3
          have hab := ar_bound l[k0]
          go_wp2_with (go_at_call 25; refine (Arity_any l[k0] _).mono ?_; rintro e w1 ⟨rfl, hb⟩)
          · simp only [Exit.jump]
            go_ret
            exact ⟨ret_int (by rw [he.out, fin_bad l k0 1 (by omega) hk (by assumption)]), hb⟩
          · go_step3
            exact ⟨rfl, hb, k0 + 1, _, _, _, _, _, _, _, _, _, _, _, _, _, _, _, _, _, _, _, _, _, _, _, _, _, rfl, by omega, by omega, by omega, .inl (by omega), by rw [he.out, fin_go l k0 1 (by omega) hk (by assumption)]⟩
          · simp only [Exit.jump]
            go_ret
            exact ⟨ret_int (by rw [he.out, fin_stop l k0 1 (by omega) hk (by assumption) (by assumption)]), hb⟩
        · clear hcell
          go_wp2
          go_step3
          go_wp2
          simp only [Exit.jump]
          go_ret
          exact ⟨ret_int (by rw [he.out, fin_end l k0 1 (by omega) (by omega)]), Below.refl _ _⟩
      · rintro a' w' ⟨hB, k, t, u7, u8, u9, u10, u11, u12, u13, u14, u15, u16, u17, u18, u19, u20, u21, u22, u23, u24, u25, u26, u27, u28, u29, u30, rfl, ht1, ht2, hk0, hkl, he⟩
        have he := Lib.hid he
        by_cases hk : k < l.length
        · obtain ⟨hc0, hc1⟩ := hcell k hk
          have hc0 : w'.cell? ⟨b, o + k * 2, none⟩ = some (.int .i64 l[k].1) := (hB.cell (p := ⟨b, o + k * 2, none⟩) hbs).trans hc0
          have hc1 : w'.cell? ⟨b, o + k * 2 + 1, none⟩ = some (.int .i64 l[k].2) := (hB.cell (p := ⟨b, o + k * 2 + 1, none⟩) hbs).trans hc1
          clear hcell
          have hab := ar_bound l[k]
          go_wp2_with (go_at_call 25; refine (Arity_any l[k] _).mono ?_; rintro e w1 ⟨rfl, hb⟩)
          · simp only [Exit.jump]
            go_ret
            exact ⟨ret_int (by rw [he.out, fin_bad l k t ht1 hk (by assumption)]), hB.trans (hb.mono hB.size)⟩
          · go_step3
            refine ⟨rfl, ⟨hB.trans (hb.mono hB.size), k + 1, _, _, _, _, _, _, _, _, _, _, _, _, _, _, _, _, _, _, _, _, _, _, _, _, _, rfl, by omega, by omega, by omega, .inl (by omega), by rw [he.out, fin_go l k t ht1 hk (by assumption)]⟩, ?_⟩
            simp [intOf]
            omega
          · simp only [Exit.jump]
            go_ret
            exact ⟨ret_int (by rw [he.out, fin_stop l k t ht1 hk (by assumption) (by assumption)]), hB.trans (hb.mono hB.size)⟩
        · clear hcell
          go_wp2
          simp only [Exit.jump]
          go_ret
          exact ⟨ret_int (by rw [he.out, fin_end l k t ht1 (by omega)]), hB⟩
end Go.Proofs.Ytnmgfobpcengkaa
