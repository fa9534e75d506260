/-
  cmp.Compare of ints; path.Compare and the reference's Compare.
-/
import Derived.Test.YtnmgfobpcengkaaIntsP
namespace Go.Proofs.Ytnmgfobpcengkaa
open Go.RowKit

/-- How two numbers stand. -/
def cmpI (x y : Int) : Int := if x < y then -1 else if y < x then 1 else 0
/-- How two paths stand. -/
def cmpL : List Int → List Int → Int
  | [], [] => 0
  | [], _ :: _ => -1
  | _ :: _, [] => 1
  | x :: a, y :: b => if x < y then -1 else if y < x then 1 else cmpL a b

theorem isNaN_any (x : Int) (w : World) : Calls Try.prog 49 #[.int .i64 x] w fun e w' => e = .returned (.bool false) ∧ w = w' := by
  go_enter Try.func49, Try.ntmps49
  have h : (x != x) = false := by simp
  go_wp2
  go_ret
  exact ⟨rfl, rfl⟩
theorem cmpI_any (x y : Int) (w : World) : Calls Try.prog 40 #[.int .i64 x, .int .i64 y] w fun e w' => e = .returned (.int .i64 (cmpI x y)) ∧ w' = w := by
  go_enter Try.func40, Try.ntmps40
  go_wp2_with (fail)
  refine (isNaN_any x _).mono ?_
  rintro e w' ⟨rfl, rfl⟩
  go_wp2_with (fail)
  refine (isNaN_any y _).mono ?_
  rintro e w' ⟨rfl, rfl⟩
  go_wp2_with (fail)
  all_goals go_ret
  · exact ⟨ret_int (by rw [cmpI, if_pos (by assumption)]), rfl⟩
  · exact ⟨ret_int (by rw [cmpI, if_neg (by omega), if_pos (by assumption)]), rfl⟩
  · exact ⟨ret_int (by rw [cmpI, if_neg (by omega), if_neg (by omega)]), rfl⟩

theorem cmpL_drop (a b : List Int) (k : Nat) (h1 : k < a.length) (h2 : k < b.length) (h : a[k] = b[k]) : cmpL (a.drop k) (b.drop k) = cmpL (a.drop (k + 1)) (b.drop (k + 1)) := by
  rw [List.drop_eq_getElem_cons h1, List.drop_eq_getElem_cons h2, cmpL, h, if_neg (by omega), if_neg (by omega)]
theorem cmpL_apart (a b : List Int) (k : Nat) (h1 : k < a.length) (h2 : k < b.length) (h : a[k] ≠ b[k]) : cmpL (a.drop k) (b.drop k) = cmpI a[k] b[k] := by
  rw [List.drop_eq_getElem_cons h1, List.drop_eq_getElem_cons h2, cmpL, cmpI]
  split
  · rfl
  · rw [if_pos (by omega), if_pos (by omega)]
theorem cmpL_end (a b : List Int) (k : Nat) (h1 : k ≤ a.length) (h2 : k ≤ b.length) (h : k = a.length ∨ k = b.length) : cmpL (a.drop k) (b.drop k) = cmpI a.length b.length := by
  rcases h with rfl | rfl
  · rw [List.drop_length]
    by_cases h3 : b.length = a.length
    · rw [← h3, List.drop_length]; simp [cmpL, cmpI]
    · rw [List.drop_eq_getElem_cons (by omega), cmpL, cmpI, if_pos (by omega)]
  · rw [List.drop_length]
    by_cases h3 : b.length = a.length
    · rw [h3, List.drop_length]; simp [cmpL, cmpI]
    · rw [List.drop_eq_getElem_cons (by omega), cmpL, cmpI, if_neg (by omega), if_pos (by omega)]

set_option maxHeartbeats 1000000 in
theorem Compare_any (a b : List Int) (u v : Value) (w : World) (hu : IntsAt w u a) (hv : IntsAt w v b) (ha : a.length ≤ 4000000) (hb : b.length ≤ 4000000) :
    Calls Try.prog 20 #[u, v] w fun e w' => e = .returned (.int .i64 (cmpL a b)) ∧ Below w.heap.size w w' := by
  obtain ⟨pu, cu, hus⟩ := hu.slice
  obtain ⟨pv, cv, hvs⟩ := hv.slice
  subst hus
  subst hvs
  obtain ⟨m, hm⟩ : ∃ m, m = min a.length b.length := ⟨_, rfl⟩
  have hm1 : m ≤ a.length := by omega
  have hm2 : m ≤ b.length := by omega
  have hm3 : m = a.length ∨ m = b.length := by omega
  have Hm := Lib.hid hm
  clear hm
  go_enter Try.func20, Try.ntmps20
  go_wp2
  all_goals
    go_loopw [12] (fun i wr => ∃ k : Nat, i = .int .i64 k ∧ k ≤ m ∧ Hid (cmpL a b = cmpL (a.drop k) (b.drop k)) ∧ Below w.heap.size w wr) (fun i _ => m - (intOf i).toNat)
    case atStart => exact ⟨0, rfl, Nat.zero_le _, Lib.hid rfl, Below.refl _ _⟩
    case round =>
      obtain ⟨k, rfl, hk, ht, hB⟩ := hrel
      by_cases hkm : k < m
      · have hlt : k < a.length := by omega
        have hltb : k < b.length := by omega
        rcases hu.open with ⟨rfl, _⟩ | ⟨b1, o1, c1, hs1, hp1, hc1, hb1, hx1⟩
        · simp at hlt
        rcases hv.open with ⟨rfl, _⟩ | ⟨b2, o2, c2, hs2, hp2, hc2, hb2, hx2⟩
        · simp at hltb
        obtain ⟨rfl, rfl⟩ : pu = some ⟨b1, o1, none⟩ ∧ cu = c1 := by simpa using hs1
        obtain ⟨rfl, rfl⟩ : pv = some ⟨b2, o2, none⟩ ∧ cv = c2 := by simpa using hs2
        have g1 := (hB.cell (p := ⟨b1, o1 + k, none⟩) hb1).trans (hx1 k hlt)
        have g2 := (hB.cell (p := ⟨b2, o2 + k, none⟩) hb2).trans (hx2 k hltb)
        clear hx1 hx2 hs1 hs2
        have n1 : (k : Int) < (a.length : Int) := by omega
        have n2 : (k : Int) < (b.length : Int) := by omega
        by_cases he : a[k] = b[k]
        · have heb : (cmpI a[k] b[k] != 0) = false := by simp [cmpI, he]
          have HE := Lib.hid he
          clear he
          go_wp2
          go_quiet ((go_at_call 40; exact Calls.quiet_of_same (cmpI_any _ _ _)))
          go_wp2
          go_roundw
          case rel => exact ⟨k + 1, by go_num, by omega, Lib.hid (by rw [ht.out, cmpL_drop a b k hlt hltb HE.out]), below_drewN hB _⟩
          case measure => simp [intOf]; omega
        · have heb : (cmpI a[k] b[k] != 0) = true := by rw [bne_iff_ne]; unfold cmpI; split; omega; split <;> omega
          have HE := Lib.hid he
          clear he
          go_wp2
          go_quiet ((go_at_call 40; exact Calls.quiet_of_same (cmpI_any _ _ _)))
          go_wp2
          go_ret
          exact ⟨ret_int (by rw [ht.out, cmpL_apart a b k hlt hltb HE.out]), below_drewN hB _⟩
      · go_wp2_with (go_at_call 40; refine (cmpI_any _ _ _).mono ?_; rintro e w' ⟨rfl, rfl⟩)
        go_ret
        exact ⟨ret_int (by rw [ht.out, cmpL_end a b k (by omega) (by omega) (by omega)]), hB⟩
end Go.Proofs.Ytnmgfobpcengkaa
