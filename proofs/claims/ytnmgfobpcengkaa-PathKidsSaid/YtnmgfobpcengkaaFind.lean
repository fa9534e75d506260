/-
  path.Find.
-/
import Derived.Test.YtnmgfobpcengkaaPaths
namespace Go.Proofs.Ytnmgfobpcengkaa
open Go.RowKit

/-- Down from the node at i. -/
def downV (l : List Nd) : Int → List Int → Int
  | i, [] => i
  | i, n :: r => if 0 ≤ n ∧ n.toNat < (kidsv l i).length then downV l ((kidsv l i).getD n.toNat 0) r else -1
/-- The node of a path; -1: none. -/
def findv (l : List Nd) (p : List Int) : Int := if endv l 0 = l.length then downV l 0 p else -1

theorem downV_in (l : List Nd) (i : Int) (n : Int) (r : List Int) (j : Nat) (hn : n = j) (hj : j < (kidsv l i).length) : downV l i (n :: r) = downV l (kidsv l i)[j] r := by
  subst hn
  rw [downV, if_pos ⟨by omega, by simpa using hj⟩]
  simp [hj]
theorem downV_out (l : List Nd) (i : Int) (n : Int) (r : List Int) (h : ¬ (0 ≤ n ∧ n.toNat < (kidsv l i).length)) : downV l i (n :: r) = -1 := by rw [downV, if_neg h]

set_option maxHeartbeats 2000000 in
theorem Find_any (l : List Nd) (p : List Int) (v u : Value) (w : World) (hv : NodesAt w v l) (hu : IntsAt w u p) (hl : l.length ≤ 4000000) (hp : p.length ≤ 4000000) :
    Calls Try.prog 17 #[v, u] w fun e w' => e = .returned (.int .i64 (findv l p)) ∧ Below w.heap.size w w' := by
  obtain ⟨pu, cu, hus⟩ := hu.slice
  subst hus
  obtain ⟨pv, cv, hvs⟩ := hv.slice
  subst hvs
  by_cases hE : endv l 0 = l.length
  · have hE' : (endv l 0 != (l.length : Int)) = false := by simp [hE]
    have HF : Hid (findv l p = downV l 0 p) := Lib.hid (by rw [findv, if_pos hE])
    clear hE
    go_enter Try.func17, Try.ntmps17
    go_wp2
    go_step3
    go_wp2_with (go_at_call 19; refine (End_any l _ _ _ hv hl).mono ?_; rintro e w1 ⟨rfl, hb1⟩)
    go_step3
    go_wp2
    go_loopw [5, 16] (fun x i wr => ∃ (k : Nat) (z : Int), i = .int .i64 k ∧ x = .int .i64 z ∧ k ≤ p.length ∧ Hid (downV l 0 p = downV l z (p.drop k)) ∧ Below w.heap.size w wr) (fun _ i _ => p.length - (intOf i).toNat)
    case atStart => exact ⟨0, 0, rfl, rfl, Nat.zero_le _, Lib.hid rfl, hb1⟩
    case round =>
      obtain ⟨k, z, rfl, rfl, hk, ht, hB⟩ := hrel
      by_cases hlt : k < p.length
      · rcases hu.open with ⟨rfl, _⟩ | ⟨b1, o1, c1, hs1, hp1, hc1, hbb1, hx1⟩
        · simp at hlt
        obtain ⟨rfl, rfl⟩ : pu = some ⟨b1, o1, none⟩ ∧ cu = c1 := by simpa using hs1
        have g1 := (hB.cell (p := ⟨b1, o1 + k, none⟩) hbb1).trans (hx1 k hlt)
        clear hx1 hs1
        have hsz := hB.size
        have hvr := NodesIn.below hv hB
        have hpk := Lib.hid (List.drop_eq_getElem_cons hlt)
        have hkl := kidsv_len l z
        by_cases hn : 0 ≤ p[k] ∧ p[k].toNat < (kidsv l z).length
        · obtain ⟨j, hj⟩ := Int.eq_ofNat_of_zero_le hn.1
          have hjl : j < (kidsv l z).length := by omega
          have HJ := Lib.hid hj
          have hn1 : ¬ p[k] < 0 := by omega
          have hn2 : ¬ ((kidsv l z).length : Int) ≤ p[k] := by omega
          have hdn := Lib.hid (downV_in l z p[k] (p.drop (k + 1)) j hj hjl)
          clear hn
          rw [hj] at g1 hn1 hn2
          clear hj
          go_wp2_with (go_at_call 22; refine (Kids_any l _ _ _ hvr hl).mono ?_; rintro e w2 ⟨q, rfl, hq, hb2⟩; (rcases hq.open with ⟨h0, _⟩ | ⟨bq, oq, cq, hqs, hqp, hqc, hqb, hqx⟩; (exfalso; rw [h0] at hjl; simp at hjl)); have gq := hqx j hjl; clear hqx; subst hqs)
          go_roundw
          case rel => exact ⟨k + 1, (kidsv l z)[j], by go_num, rfl, by omega, Lib.hid (by rw [ht.out, hpk.out, hdn.out]), hB.trans (hb2.mono hsz)⟩
          case measure => simp [intOf]; omega
        · have hdn := Lib.hid (downV_out l z p[k] (p.drop (k + 1)) hn)
          by_cases hn1 : p[k] < 0
          · clear hn
            go_wp2_with (go_at_call 22; refine (Kids_any l _ _ _ hvr hl).mono ?_; rintro e w2 ⟨q, rfl, hq, hb2⟩; obtain ⟨pq, cq, hqs⟩ := hq.slice; subst hqs)
            rw [Exit.noGoto_ret]
            go_ret
            exact ⟨ret_int (by rw [HF.out, ht.out, hpk.out, hdn.out]), hB.trans (hb2.mono hsz)⟩
          · have hn2 : ((kidsv l z).length : Int) ≤ p[k] := by omega
            clear hn
            go_wp2_with (go_at_call 22; refine (Kids_any l _ _ _ hvr hl).mono ?_; rintro e w2 ⟨q, rfl, hq, hb2⟩; obtain ⟨pq, cq, hqs⟩ := hq.slice; subst hqs)
            rw [Exit.noGoto_ret]
            go_ret
            exact ⟨ret_int (by rw [HF.out, ht.out, hpk.out, hdn.out]), hB.trans (hb2.mono hsz)⟩
      · go_wp2
        rw [Exit.noGoto_ret]
        go_ret
        exact ⟨ret_int (by rw [HF.out, ht.out, List.drop_of_length_le (by omega)]; rfl), hB⟩
  · have hE' : (endv l 0 != (l.length : Int)) = true := by simp [hE]
    have HF : Hid (findv l p = -1) := Lib.hid (by rw [findv, if_neg hE])
    clear hE
    go_enter Try.func17, Try.ntmps17
    go_wp2
    go_step3
    go_wp2_with (go_at_call 19; refine (End_any l _ _ _ hv hl).mono ?_; rintro e w1 ⟨rfl, hb1⟩)
    rw [Exit.noGoto_ret]
    go_ret
    exact ⟨ret_int HF.out.symm, hb1⟩
end Go.Proofs.Ytnmgfobpcengkaa
