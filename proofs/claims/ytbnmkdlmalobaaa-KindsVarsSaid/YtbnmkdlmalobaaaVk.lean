/-
  Parts joined into one text: SameP, AnyBad, Check, Join, Part, IntsP, HTab08. No condition.
-/
import Derived.Test.YtbnmkdlmalobaaaProg
import Derived.BigQuiet
import Derived.Deep.QuietTactic
import Derived.Lib.AppendZeros
import Derived.WalkSpells
import Derived.Lib.SliceRun
import Derived.Test.YtbnmkdlmalobaaaVa
import Derived.Test.YtbnmkdlmalobaaaVb
import Derived.Test.YtbnmkdlmalobaaaVi
import Derived.Test.YtbnmkdlmalobaaaVj

section
namespace Go.Proofs.Ytbnmkdlmalobaaa
open Go.RowKit
set_option linter.unusedVariables false

theorem take_sameN {a b : List Nd} {k : Nat} (h : a.take k = b.take k) (hk : k < a.length) (hb : k < b.length) (he : a[k] = b[k]) : a.take (k + 1) = b.take (k + 1) := by
  rw [List.take_succ_eq_append_getElem hk, List.take_succ_eq_append_getElem hb, h, he]
theorem take_allN {a b : List Nd} (h : a.take a.length = b.take a.length) (hl : a.length = b.length) : a = b := by
  rwa [List.take_length, hl, List.take_length] at h
theorem ret_boolN {a b : Bool} (h : a = b) : Ending.returned (.bool a) = .returned (.bool b) := by rw [h]

/-- Two nodes held against each other. -/
theorem node_neq (w : World) (a b c d : Int) (v : Bool) (h : v = !(a == c && b == d)) :
    (binOp .neq 39 (.agg #[.int .i64 a, .int .i64 b]) (.agg #[.int .i64 c, .int .i64 d])).run Try.prog w = .ok (.bool v) w := by
  subst h
  by_cases h1 : a = c
  · subst h1
    by_cases h2 : b = d
    · subst h2
      simp [go_sem]
    · simp [go_sem, h2]
  · simp [go_sem, h1]

set_option maxHeartbeats 2000000 in
theorem refSame_any (a b : List Nd) (u v : Value) (w : World) (hu : NodesAt w u a) (hv : NodesAt w v b) (ha : a.length ≤ 4000000) (hb : b.length ≤ 4000000) :
    Calls Try.prog 38 #[u, v] w fun e w' => e = .returned (.bool (decide (a = b))) ∧ Below w.heap.size w w' := by
  obtain ⟨pu, cu, hus⟩ := hu.slice
  obtain ⟨pv, cv, hvs⟩ := hv.slice
  subst hus
  subst hvs
  by_cases hl : a.length = b.length
  · have hlt : ((a.length : Int) != (b.length : Int)) = false := by simp [hl]
    have HL := Lib.hid hl
    clear hl
    go_enter Try.func38, Try.ntmps38
    go_wp2
    go_loopw [5] (fun i wr => ∃ k : Nat, i = .int .i64 k ∧ k ≤ a.length ∧ Hid (a.take k = b.take k) ∧ Below w.heap.size w wr) (fun i _ => a.length - (intOf i).toNat)
    case atStart => exact ⟨0, rfl, Nat.zero_le _, Lib.hid rfl, Below.refl _ _⟩
    case round =>
      obtain ⟨k, rfl, hk, ht, hB⟩ := hrel
      by_cases hlt : k < a.length
      · have hltb : k < b.length := by have := HL.out; omega
        rcases hu.open with ⟨rfl, _⟩ | ⟨b1, o1, c1, hs1, hp1, hc1, hb1, hx1⟩
        · simp at hlt
        rcases hv.open with ⟨rfl, _⟩ | ⟨b2, o2, c2, hs2, hp2, hc2, hb2, hx2⟩
        · simp at hltb
        obtain ⟨rfl, rfl⟩ : pu = some ⟨b1, o1, none⟩ ∧ cu = c1 := by simpa using hs1
        obtain ⟨rfl, rfl⟩ : pv = some ⟨b2, o2, none⟩ ∧ cv = c2 := by simpa using hs2
        have g1 := (hB.cell (p := ⟨b1, o1 + k * 2, none⟩) hb1).trans (hx1 k hlt).1
        have g2 := (hB.cell (p := ⟨b1, o1 + k * 2 + 1, none⟩) hb1).trans (hx1 k hlt).2
        have g3 := (hB.cell (p := ⟨b2, o2 + k * 2, none⟩) hb2).trans (hx2 k hltb).1
        have g4 := (hB.cell (p := ⟨b2, o2 + k * 2 + 1, none⟩) hb2).trans (hx2 k hltb).2
        clear hx1 hx2 hs1 hs2
        have n1 : (k : Int) < (a.length : Int) := by omega
        have n2 : (k : Int) < (b.length : Int) := by omega
        by_cases he : a[k] = b[k]
        · have e1 : (a[k].1 == b[k].1) = true := by simp [he]
          have e2 : (a[k].2 == b[k].2) = true := by simp [he]
          have HE := Lib.hid he
          clear he
          go_wp2
          go_quiet (fail)
          go_wp2
          go_roundw
          case rel => exact ⟨k + 1, by go_num, by omega, Lib.hid (take_sameN ht.out hlt hltb HE.out), below_drewN hB _⟩
          case measure => simp [intOf]; omega
        · have HN := Lib.hid he
          rcases e1 : (a[k].1 == b[k].1) with _ | _
          · have e1x := e1
            clear he
            go_wp2
            go_quiet (fail)
            go_wp2
            go_ret
            exact ⟨ret_boolN (by rw [decide_eq_false]; intro h; subst h; exact HN.out rfl), below_drewN hB _⟩
          · rcases e2 : (a[k].2 == b[k].2) with _ | _
            · clear he
              go_wp2
              go_quiet (fail)
              go_wp2
              go_ret
              exact ⟨ret_boolN (by rw [decide_eq_false]; intro h; subst h; exact HN.out rfl), below_drewN hB _⟩
            · exact absurd (Prod.ext (by simpa using e1) (by simpa using e2)) HN.out
      · go_wp2
        go_ret
        exact ⟨ret_boolN (by rw [decide_eq_true]; exact (take_allN (by have := ht.out; rwa [show k = a.length from by omega] at this) HL.out)), hB⟩
  · have hlt : ((a.length : Int) != (b.length : Int)) = true := by rw [bne_iff_ne]; omega
    have HL := Lib.hid hl
    clear hl
    go_enter Try.func38, Try.ntmps38
    go_wp2
    go_ret
    exact ⟨ret_boolN (by rw [decide_eq_false]; intro h; exact HL.out (by rw [h])), Below.refl _ _⟩
set_option maxHeartbeats 2000000 in
theorem equal_any (a b : List Nd) (u v : Value) (w : World) (hu : NodesAt w u a) (hv : NodesAt w v b) (ha : a.length ≤ 4000000) (hb : b.length ≤ 4000000) :
    Calls Try.prog 42 #[u, v] w fun e w' => e = .returned (.bool (decide (a = b))) ∧ Below w.heap.size w w' := by
  obtain ⟨pu, cu, hus⟩ := hu.slice
  obtain ⟨pv, cv, hvs⟩ := hv.slice
  subst hus
  subst hvs
  by_cases hl : a.length = b.length
  · have hlt : ((a.length : Int) != (b.length : Int)) = false := by simp [hl]
    have HL := Lib.hid hl
    clear hl
    go_enter Try.func42, Try.ntmps42
    go_wp2
    go_loopw [13] (fun i wr => ∃ k : Nat, i = .int .i64 k ∧ k ≤ a.length ∧ Hid (a.take k = b.take k) ∧ Below w.heap.size w wr) (fun i _ => a.length - (intOf i).toNat)
    case atStart => exact ⟨0, rfl, Nat.zero_le _, Lib.hid rfl, Below.refl _ _⟩
    case round =>
      obtain ⟨k, rfl, hk, ht, hB⟩ := hrel
      by_cases hlt : k < a.length
      · have hltb : k < b.length := by have := HL.out; omega
        rcases hu.open with ⟨rfl, _⟩ | ⟨b1, o1, c1, hs1, hp1, hc1, hb1, hx1⟩
        · simp at hlt
        rcases hv.open with ⟨rfl, _⟩ | ⟨b2, o2, c2, hs2, hp2, hc2, hb2, hx2⟩
        · simp at hltb
        obtain ⟨rfl, rfl⟩ : pu = some ⟨b1, o1, none⟩ ∧ cu = c1 := by simpa using hs1
        obtain ⟨rfl, rfl⟩ : pv = some ⟨b2, o2, none⟩ ∧ cv = c2 := by simpa using hs2
        have g1 := (hB.cell (p := ⟨b1, o1 + k * 2, none⟩) hb1).trans (hx1 k hlt).1
        have g2 := (hB.cell (p := ⟨b1, o1 + k * 2 + 1, none⟩) hb1).trans (hx1 k hlt).2
        have g3 := (hB.cell (p := ⟨b2, o2 + k * 2, none⟩) hb2).trans (hx2 k hltb).1
        have g4 := (hB.cell (p := ⟨b2, o2 + k * 2 + 1, none⟩) hb2).trans (hx2 k hltb).2
        clear hx1 hx2 hs1 hs2
        have n1 : (k : Int) < (a.length : Int) := by omega
        have n2 : (k : Int) < (b.length : Int) := by omega
        by_cases he : a[k] = b[k]
        · have e1 : (a[k].1 == b[k].1) = true := by simp [he]
          have e2 : (a[k].2 == b[k].2) = true := by simp [he]
          have HE := Lib.hid he
          clear he
          go_wp2
          go_quiet (fail)
          go_wp2
          go_roundw
          case rel => exact ⟨k + 1, by go_num, by omega, Lib.hid (take_sameN ht.out hlt hltb HE.out), below_drewN hB _⟩
          case measure => simp [intOf]; omega
        · have HN := Lib.hid he
          rcases e1 : (a[k].1 == b[k].1) with _ | _
          · have e1x := e1
            clear he
            go_wp2
            go_quiet (fail)
            go_wp2
            go_ret
            exact ⟨ret_boolN (by rw [decide_eq_false]; intro h; subst h; exact HN.out rfl), below_drewN hB _⟩
          · rcases e2 : (a[k].2 == b[k].2) with _ | _
            · clear he
              go_wp2
              go_quiet (fail)
              go_wp2
              go_ret
              exact ⟨ret_boolN (by rw [decide_eq_false]; intro h; subst h; exact HN.out rfl), below_drewN hB _⟩
            · exact absurd (Prod.ext (by simpa using e1) (by simpa using e2)) HN.out
      · go_wp2
        go_ret
        exact ⟨ret_boolN (by rw [decide_eq_true]; exact (take_allN (by have := ht.out; rwa [show k = a.length from by omega] at this) HL.out)), hB⟩
  · have hlt : ((a.length : Int) != (b.length : Int)) = true := by rw [bne_iff_ne]; omega
    have HL := Lib.hid hl
    clear hl
    go_enter Try.func42, Try.ntmps42
    go_wp2
    go_ret
    exact ⟨ret_boolN (by rw [decide_eq_false]; intro h; exact HL.out (by rw [h])), Below.refl _ _⟩
end Go.Proofs.Ytbnmkdlmalobaaa
end

section
namespace Go.Proofs.Ytbnmkdlmalobaaa
set_option maxRecDepth 100000
open Go.RowKit
set_option linter.unusedVariables false

/-- Has a node too great a number, or no tag? -/
def hasBad (l : List Nd) : Bool := l.any fun x => decide (ar x < 0)
theorem hasBad_take {l : List Nd} {k : Nat} (h : hasBad (l.take k) = false) (hk : k < l.length) (ha : ¬ ar l[k] < 0) : hasBad (l.take (k + 1)) = false := by
  simp only [hasBad] at h ⊢
  rw [List.take_succ_eq_append_getElem hk, List.any_append, h]
  simpa using ha
theorem hasBad_at {l : List Nd} {k : Nat} (hk : k < l.length) (ha : ar l[k] < 0) : hasBad l = true := by
  simp only [hasBad, List.any_eq_true]
  exact ⟨l[k], List.getElem_mem hk, by simpa using ha⟩

theorem lit_any (x : Nd) (w : World) :
    Calls Try.prog 69 #[.agg #[.int .i64 x.1, .int .i64 x.2]] w fun e w' => e = .returned (.bool (decide (ar x < 0))) ∧ Below w.heap.size w w' := by
  have hb0 := ar_bound x
  go_enter Try.func69, Try.ntmps69
  go_wp2_with (go_at_call 53; refine (Arity_any x _).mono ?_; rintro e w1 ⟨rfl, hb⟩)
  go_ret
  exact ⟨rfl, ((Below.refl _ _).alloc (Nat.le_refl _) _).trans (hb.mono (by simp))⟩

set_option maxHeartbeats 2000000 in
theorem index_any (l : List Nd) (v : Value) (w : World) (hv : NodesAt w v l) (hl : l.length ≤ 4000000) :
    Calls Try.prog 86 #[v, .func (.func 69) #[] #[]] w fun e w' => (∃ r : Int, e = .returned (.int .i64 r) ∧ (0 ≤ r ↔ hasBad l = true)) ∧ Below w.heap.size w w' := by
  obtain ⟨pv, cv, hvs⟩ := hv.slice
  subst hvs
  go_enter Try.func86, Try.ntmps86
  go_wp2
  go_loopw [8] (fun i wr => ∃ k : Nat, i = .int .i64 k ∧ k ≤ l.length ∧ Hid (hasBad (l.take k) = false) ∧ Below w.heap.size w wr) (fun i _ => l.length - (intOf i).toNat)
  case atStart => exact ⟨0, rfl, Nat.zero_le _, Lib.hid rfl, Below.refl _ _⟩
  case round =>
    obtain ⟨k, rfl, hk, ht, hB⟩ := hrel
    by_cases hlt : k < l.length
    · rcases hv.open with ⟨rfl, _⟩ | ⟨b1, o1, c1, hs1, hp1, hc1, hb1, hx1⟩
      · simp at hlt
      obtain ⟨rfl, rfl⟩ : pv = some ⟨b1, o1, none⟩ ∧ cv = c1 := by simpa using hs1
      have g1 := (hB.cell (p := ⟨b1, o1 + k * 2, none⟩) hb1).trans (hx1 k hlt).1
      have g2 := (hB.cell (p := ⟨b1, o1 + k * 2 + 1, none⟩) hb1).trans (hx1 k hlt).2
      clear hx1 hs1
      have n1 : (k : Int) < (l.length : Int) := by omega
      by_cases he : ar l[k] < 0
      · have HE := Lib.hid he
        have HD : decide (ar l[k] < 0) = true := by simp [he]
        clear he
        go_wp2_with (go_at_call 69; refine (lit_any l[k] _).mono ?_; rintro e w1 ⟨rfl, hb⟩)
        go_ret
        exact ⟨⟨k, rfl, ⟨fun _ => hasBad_at hlt HE.out, fun _ => by omega⟩⟩, hB.trans (hb.mono hB.size)⟩
      · have HE := Lib.hid he
        have HD : decide (ar l[k] < 0) = false := by simp [he]
        clear he
        go_wp2_with (go_at_call 69; refine (lit_any l[k] _).mono ?_; rintro e w1 ⟨rfl, hb⟩)
        go_roundw
        case rel => exact ⟨k + 1, by go_num, by omega, Lib.hid (hasBad_take ht.out hlt (Int.not_lt.2 HE.out)), hB.trans (hb.mono hB.size)⟩
        case measure => simp [intOf]; omega
    · go_wp2
      go_ret
      exact ⟨⟨-1, rfl, by constructor; (intro h; omega); (intro h; have := ht.out; rw [List.take_of_length_le (by omega), h] at this; cases this)⟩, hB⟩

theorem contains_any (l : List Nd) (v : Value) (w : World) (hv : NodesAt w v l) (hl : l.length ≤ 4000000) :
    Calls Try.prog 68 #[v, .func (.func 69) #[] #[]] w fun e w' => e = .returned (.bool (hasBad l)) ∧ Below w.heap.size w w' := by
  go_enter Try.func68, Try.ntmps68
  go_wp2_with (fail)
  refine (index_any l v w hv hl).mono ?_
  rintro e w1 ⟨⟨r, rfl, hr⟩, hB⟩
  have HR := Lib.hid hr
  clear hr
  go_wp2_with (fail)
  go_ret
  exact ⟨ret_boolN (by have := HR.out; rw [Bool.eq_iff_iff, decide_eq_true_iff]; exact this), hB⟩
end Go.Proofs.Ytbnmkdlmalobaaa
end

section
namespace Go.Proofs.Ytbnmkdlmalobaaa
set_option maxRecDepth 100000
open Go.RowKit
set_option linter.unusedVariables false

/-- What is wrong with a list of nodes. -/
def checkV (l : List Nd) : Int :=
  if l.length = 0 then 10 else if 200 < l.length then 4 else if hasBad l = true then 11 else if endv l 0 ≠ l.length then 12 else if 30 < depV l.length l 0 then 13 else 0

set_option maxHeartbeats 2000000 in
theorem Check_any (l : List Nd) (v : Value) (w : World) (hv : NodesAt w v l) (hl : l.length ≤ 4000000) :
    Calls Try.prog 39 #[v] w fun e w' => e = .returned (.int .i64 (checkV l)) ∧ Below w.heap.size w w' := by
  obtain ⟨p, cap, hsl⟩ := hv.slice
  subst hsl
  by_cases h1 : l.length = 0
  · have t1 : ((l.length : Int) == 0) = true := by simp [h1]
    have HV : Hid (checkV l = 10) := Lib.hid (by rw [checkV, if_pos h1])
    clear h1
    go_enter Try.func39, Try.ntmps39
    go_wp2_with (fail)
    go_ret
    exact ⟨by rw [HV.out]; rfl, Below.refl _ _⟩
  have t1 : ((l.length : Int) == 0) = false := by simp [h1]
  by_cases h2 : 200 < l.length
  · have HV : Hid (checkV l = 4) := Lib.hid (by rw [checkV, if_neg h1, if_pos h2])
    clear h1
    have t2 : (200 : Int) < (l.length : Int) := by omega
    clear h2
    go_enter Try.func39, Try.ntmps39
    go_wp2_with (fail)
    go_ret
    exact ⟨by rw [HV.out]; rfl, Below.refl _ _⟩
  have t2 : ¬ (200 : Int) < (l.length : Int) := by omega
  rcases h3 : hasBad l with _ | _
  case true =>
    have HV : Hid (checkV l = 11) := Lib.hid (by rw [checkV, if_neg h1, if_neg h2, if_pos h3])
    clear h1 h2
    go_enter Try.func39, Try.ntmps39
    go_wp2_with (fail)
    refine (contains_any l _ w hv hl).mono ?_
    rintro e w1 ⟨rfl, hb⟩
    go_wp2_with (fail)
    go_ret
    exact ⟨by rw [HV.out]; rfl, hb⟩
  have h3' : ¬ hasBad l = true := by rw [h3]; simp
  have hE := endv_le l 0
  by_cases h4 : endv l 0 = l.length
  · have t4 : (endv l 0 != (l.length : Int)) = false := by simp [h4]
    have hD := depV_bound l.length l 0
    by_cases h5 : 30 < depV l.length l 0
    · have HV : Hid (checkV l = 13) := Lib.hid (by rw [checkV, if_neg h1, if_neg h2, if_neg h3', if_neg (by simpa using h4), if_pos h5])
      have H4 := Lib.hid h4
      clear h1 h2 h4 h3'
      go_enter Try.func39, Try.ntmps39
      go_wp2_with (fail)
      refine (contains_any l _ w hv hl).mono ?_
      rintro e w1 ⟨rfl, hb⟩
      have hv1 := hv.below hb
      go_wp2_with (fail)
      refine (End_any l _ _ w1 hv1 hl).mono ?_
      rintro e w2 ⟨rfl, hb2⟩
      have hv2 := hv1.below hb2
      have hB2 := hb.trans (hb2.mono hb.size)
      go_wp2_with (fail)
      refine (Depth_any l hl l.length 0 _ w2 (by omega) (.inl (by omega)) hv2).mono ?_
      rintro e w3 ⟨rfl, hb3⟩
      go_wp2_with (fail)
      go_ret
      exact ⟨by rw [HV.out]; rfl, hB2.trans (hb3.mono hB2.size)⟩
    · have HV : Hid (checkV l = 0) := Lib.hid (by rw [checkV, if_neg h1, if_neg h2, if_neg h3', if_neg (by simpa using h4), if_neg h5])
      have H4 := Lib.hid h4
      clear h1 h2 h4 h3'
      go_enter Try.func39, Try.ntmps39
      go_wp2_with (fail)
      refine (contains_any l _ w hv hl).mono ?_
      rintro e w1 ⟨rfl, hb⟩
      have hv1 := hv.below hb
      go_wp2_with (fail)
      refine (End_any l _ _ w1 hv1 hl).mono ?_
      rintro e w2 ⟨rfl, hb2⟩
      have hv2 := hv1.below hb2
      have hB2 := hb.trans (hb2.mono hb.size)
      go_wp2_with (fail)
      refine (Depth_any l hl l.length 0 _ w2 (by omega) (.inl (by omega)) hv2).mono ?_
      rintro e w3 ⟨rfl, hb3⟩
      go_wp2_with (fail)
      go_ret
      exact ⟨by rw [HV.out]; rfl, hB2.trans (hb3.mono hB2.size)⟩
  · have t4 : (endv l 0 != (l.length : Int)) = true := by simp [h4]
    have HV : Hid (checkV l = 12) := Lib.hid (by rw [checkV, if_neg h1, if_neg h2, if_neg h3', if_pos h4])
    clear h1 h2 h4 h3'
    go_enter Try.func39, Try.ntmps39
    go_wp2_with (fail)
    refine (contains_any l _ w hv hl).mono ?_
    rintro e w1 ⟨rfl, hb⟩
    have hv1 := hv.below hb
    go_wp2_with (fail)
    refine (End_any l _ _ w1 hv1 hl).mono ?_
    rintro e w2 ⟨rfl, hb2⟩
    have hv2 := hv1.below hb2
    have hB2 := hb.trans (hb2.mono hb.size)
    go_wp2_with (fail)
    go_ret
    exact ⟨by rw [HV.out]; rfl, hB2⟩

set_option maxHeartbeats 2000000 in
theorem refCheck_any (l : List Nd) (v : Value) (w : World) (hv : NodesAt w v l) (hl : l.length ≤ 4000000) :
    Calls Try.prog 40 #[v] w fun e w' => e = .returned (.int .i64 (checkV l)) ∧ Below w.heap.size w w' := by
  obtain ⟨p, cap, hsl⟩ := hv.slice
  subst hsl
  by_cases h1 : l.length = 0
  · have t1 : ((l.length : Int) == 0) = true := by simp [h1]
    have HV : Hid (checkV l = 10) := Lib.hid (by rw [checkV, if_pos h1])
    clear h1
    go_enter Try.func40, Try.ntmps40
    go_wp2_with (fail)
    go_ret
    exact ⟨by rw [HV.out]; rfl, Below.refl _ _⟩
  have t1 : ((l.length : Int) == 0) = false := by simp [h1]
  by_cases h2 : 200 < l.length
  · have HV : Hid (checkV l = 4) := Lib.hid (by rw [checkV, if_neg h1, if_pos h2])
    clear h1
    have t2 : (200 : Int) < (l.length : Int) := by omega
    clear h2
    go_enter Try.func40, Try.ntmps40
    go_wp2_with (fail)
    go_ret
    exact ⟨by rw [HV.out]; rfl, Below.refl _ _⟩
  have t2 : ¬ (200 : Int) < (l.length : Int) := by omega
  rcases h3 : hasBad l with _ | _
  case true =>
    have HV : Hid (checkV l = 11) := Lib.hid (by rw [checkV, if_neg h1, if_neg h2, if_pos h3])
    have H3 := Lib.hid h3
    clear h1 h2 h3
    go_enter Try.func40, Try.ntmps40
    go_wp2_with (fail)
    go_loopw [3] (fun i wr => ∃ k : Nat, i = .int .i64 k ∧ k ≤ l.length ∧ Hid (hasBad (l.take k) = false) ∧ Below w.heap.size w wr) (fun i _ => l.length - (intOf i).toNat)
    case atStart => exact ⟨0, rfl, Nat.zero_le _, Lib.hid rfl, Below.refl _ _⟩
    case round =>
      obtain ⟨k, rfl, hk, ht, hB⟩ := hrel
      by_cases hlt : k < l.length
      · rcases hv.open with ⟨rfl, _⟩ | ⟨b1, o1, c1, hs1, hp1, hc1, hb1, hx1⟩
        · simp at hlt
        obtain ⟨rfl, rfl⟩ : p = some ⟨b1, o1, none⟩ ∧ cap = c1 := by simpa using hs1
        have g1 := (hB.cell (p := ⟨b1, o1 + k * 2, none⟩) hb1).trans (hx1 k hlt).1
        have g2 := (hB.cell (p := ⟨b1, o1 + k * 2 + 1, none⟩) hb1).trans (hx1 k hlt).2
        clear hx1 hs1
        have n1 : (k : Int) < (l.length : Int) := by omega
        by_cases he : ar l[k] < 0
        · have HX := Lib.hid (hasBad_at hlt he)
          go_wp2_with (go_at_call 70; refine (refArity_any l[k] _).mono ?_; rintro e w1 ⟨rfl, hb⟩)
          go_ret
          exact ⟨by rw [HV.out]; rfl, hB.trans (hb.mono hB.size)⟩
        · have HE := Lib.hid he
          have HD : ¬ ar l[k] < 0 := he
          clear he
          go_wp2_with (go_at_call 70; refine (refArity_any l[k] _).mono ?_; rintro e w1 ⟨rfl, hb⟩)
          go_roundw
          case rel => exact ⟨k + 1, by go_num, by omega, Lib.hid (hasBad_take ht.out hlt (Int.not_lt.2 HE.out)), hB.trans (hb.mono hB.size)⟩
          case measure => simp [intOf]; omega
      · exact absurd ((show hasBad (l.take k) = true from by rw [List.take_of_length_le (by omega)]; exact H3.out).symm.trans ht.out) (by decide)
  have h3' : ¬ hasBad l = true := by rw [h3]; simp
  have H3 := Lib.hid h3
  clear h3
  have hE := endv_le l 0
  by_cases h4 : endv l 0 = l.length
  · have t4 : (endv l 0 != (l.length : Int)) = false := by simp [h4]
    have hD := depV_bound l.length l 0
    by_cases h5 : 30 < depV l.length l 0
    · have HV : Hid (checkV l = 13) := Lib.hid (by rw [checkV, if_neg h1, if_neg h2, if_neg h3', if_neg (by simpa using h4), if_pos h5])
      clear h1 h2 h4 h3'
      go_enter Try.func40, Try.ntmps40
      go_wp2_with (fail)
      go_loopw [3] (fun i wr => ∃ k : Nat, i = .int .i64 k ∧ k ≤ l.length ∧ Hid (hasBad (l.take k) = false) ∧ Below w.heap.size w wr) (fun i _ => l.length - (intOf i).toNat)
      case atStart => exact ⟨0, rfl, Nat.zero_le _, Lib.hid rfl, Below.refl _ _⟩
      case round =>
        obtain ⟨k, rfl, hk, ht, hB⟩ := hrel
        by_cases hlt : k < l.length
        · rcases hv.open with ⟨rfl, _⟩ | ⟨b1, o1, c1, hs1, hp1, hc1, hb1, hx1⟩
          · simp at hlt
          obtain ⟨rfl, rfl⟩ : p = some ⟨b1, o1, none⟩ ∧ cap = c1 := by simpa using hs1
          have g1 := (hB.cell (p := ⟨b1, o1 + k * 2, none⟩) hb1).trans (hx1 k hlt).1
          have g2 := (hB.cell (p := ⟨b1, o1 + k * 2 + 1, none⟩) hb1).trans (hx1 k hlt).2
          clear hx1 hs1
          have n1 : (k : Int) < (l.length : Int) := by omega
          by_cases he : ar l[k] < 0
          · exact absurd ((hasBad_at hlt he).symm.trans H3.out) (by decide)
          · have HE := Lib.hid he
            have HD : ¬ ar l[k] < 0 := he
            clear he
            go_wp2_with (go_at_call 70; refine (refArity_any l[k] _).mono ?_; rintro e w1 ⟨rfl, hb⟩)
            go_roundw
            case rel => exact ⟨k + 1, by go_num, by omega, Lib.hid (hasBad_take ht.out hlt (Int.not_lt.2 HE.out)), hB.trans (hb.mono hB.size)⟩
            case measure => simp [intOf]; omega
        · have hv1 := hv.below hB
          go_wp2_with (fail)
          refine (refEnd_any l _ _ wr hv1 hl).mono ?_
          rintro e w2 ⟨rfl, hb2⟩
          have hv2 := hv1.below hb2
          have hB2 := hB.trans (hb2.mono hB.size)
          go_wp2_with (fail)
          refine (refDepth_any l hl _ l.length 0 w2 (by omega) (.inl (by omega)) hv2).mono ?_
          rintro e w3 ⟨rfl, hb3⟩
          go_wp2_with (fail)
          go_ret
          exact ⟨by rw [HV.out]; rfl, hB2.trans (hb3.mono hB2.size)⟩
    · have HV : Hid (checkV l = 0) := Lib.hid (by rw [checkV, if_neg h1, if_neg h2, if_neg h3', if_neg (by simpa using h4), if_neg h5])
      clear h1 h2 h4 h3'
      go_enter Try.func40, Try.ntmps40
      go_wp2_with (fail)
      go_loopw [3] (fun i wr => ∃ k : Nat, i = .int .i64 k ∧ k ≤ l.length ∧ Hid (hasBad (l.take k) = false) ∧ Below w.heap.size w wr) (fun i _ => l.length - (intOf i).toNat)
      case atStart => exact ⟨0, rfl, Nat.zero_le _, Lib.hid rfl, Below.refl _ _⟩
      case round =>
        obtain ⟨k, rfl, hk, ht, hB⟩ := hrel
        by_cases hlt : k < l.length
        · rcases hv.open with ⟨rfl, _⟩ | ⟨b1, o1, c1, hs1, hp1, hc1, hb1, hx1⟩
          · simp at hlt
          obtain ⟨rfl, rfl⟩ : p = some ⟨b1, o1, none⟩ ∧ cap = c1 := by simpa using hs1
          have g1 := (hB.cell (p := ⟨b1, o1 + k * 2, none⟩) hb1).trans (hx1 k hlt).1
          have g2 := (hB.cell (p := ⟨b1, o1 + k * 2 + 1, none⟩) hb1).trans (hx1 k hlt).2
          clear hx1 hs1
          have n1 : (k : Int) < (l.length : Int) := by omega
          by_cases he : ar l[k] < 0
          · exact absurd ((hasBad_at hlt he).symm.trans H3.out) (by decide)
          · have HE := Lib.hid he
            have HD : ¬ ar l[k] < 0 := he
            clear he
            go_wp2_with (go_at_call 70; refine (refArity_any l[k] _).mono ?_; rintro e w1 ⟨rfl, hb⟩)
            go_roundw
            case rel => exact ⟨k + 1, by go_num, by omega, Lib.hid (hasBad_take ht.out hlt (Int.not_lt.2 HE.out)), hB.trans (hb.mono hB.size)⟩
            case measure => simp [intOf]; omega
        · have hv1 := hv.below hB
          go_wp2_with (fail)
          refine (refEnd_any l _ _ wr hv1 hl).mono ?_
          rintro e w2 ⟨rfl, hb2⟩
          have hv2 := hv1.below hb2
          have hB2 := hB.trans (hb2.mono hB.size)
          go_wp2_with (fail)
          refine (refDepth_any l hl _ l.length 0 w2 (by omega) (.inl (by omega)) hv2).mono ?_
          rintro e w3 ⟨rfl, hb3⟩
          go_wp2_with (fail)
          go_ret
          exact ⟨by rw [HV.out]; rfl, hB2.trans (hb3.mono hB2.size)⟩
  · have t4 : (endv l 0 != (l.length : Int)) = true := by simp [h4]
    have HV : Hid (checkV l = 12) := Lib.hid (by rw [checkV, if_neg h1, if_neg h2, if_neg h3', if_pos h4])
    clear h1 h2 h4 h3'
    go_enter Try.func40, Try.ntmps40
    go_wp2_with (fail)
    go_loopw [3] (fun i wr => ∃ k : Nat, i = .int .i64 k ∧ k ≤ l.length ∧ Hid (hasBad (l.take k) = false) ∧ Below w.heap.size w wr) (fun i _ => l.length - (intOf i).toNat)
    case atStart => exact ⟨0, rfl, Nat.zero_le _, Lib.hid rfl, Below.refl _ _⟩
    case round =>
      obtain ⟨k, rfl, hk, ht, hB⟩ := hrel
      by_cases hlt : k < l.length
      · rcases hv.open with ⟨rfl, _⟩ | ⟨b1, o1, c1, hs1, hp1, hc1, hb1, hx1⟩
        · simp at hlt
        obtain ⟨rfl, rfl⟩ : p = some ⟨b1, o1, none⟩ ∧ cap = c1 := by simpa using hs1
        have g1 := (hB.cell (p := ⟨b1, o1 + k * 2, none⟩) hb1).trans (hx1 k hlt).1
        have g2 := (hB.cell (p := ⟨b1, o1 + k * 2 + 1, none⟩) hb1).trans (hx1 k hlt).2
        clear hx1 hs1
        have n1 : (k : Int) < (l.length : Int) := by omega
        by_cases he : ar l[k] < 0
        · exact absurd ((hasBad_at hlt he).symm.trans H3.out) (by decide)
        · have HE := Lib.hid he
          have HD : ¬ ar l[k] < 0 := he
          clear he
          go_wp2_with (go_at_call 70; refine (refArity_any l[k] _).mono ?_; rintro e w1 ⟨rfl, hb⟩)
          go_roundw
          case rel => exact ⟨k + 1, by go_num, by omega, Lib.hid (hasBad_take ht.out hlt (Int.not_lt.2 HE.out)), hB.trans (hb.mono hB.size)⟩
          case measure => simp [intOf]; omega
      · have hv1 := hv.below hB
        go_wp2_with (fail)
        refine (refEnd_any l _ _ wr hv1 hl).mono ?_
        rintro e w2 ⟨rfl, hb2⟩
        have hv2 := hv1.below hb2
        have hB2 := hB.trans (hb2.mono hB.size)
        go_wp2_with (fail)
        go_ret
        exact ⟨by rw [HV.out]; rfl, hB2⟩
end Go.Proofs.Ytbnmkdlmalobaaa
end

section
namespace Go.Proofs.Ytbnmkdlmalobaaa
set_option maxRecDepth 100000
open Go.RowKit
set_option linter.unusedVariables false

theorem infoNode : (Try.prog.info? 39).map (fun i => (i.zero, i.size, i.bytes)) = some (some (.agg #[.int .i64 0, .int .i64 0]), 2, 16) := by kernel_rfl

theorem Grow_nil (n : Nat) (hn : n ≤ 20000000) (w : World) :
    Calls Try.prog 88 #[.slice none 0 0, .int .i64 n] w fun e w' => ∃ u, e = .returned u ∧ w'.ownsRow w.heap.size 39 2 u 0 [] ∧ Below w.heap.size w w' := by
  obtain ⟨i0, hi, hz0, hz1, hz2⟩ := info_parts infoNode
  by_cases h0 : n = 0
  · subst h0
    go_enter Try.func88, Try.ntmps88
    go_wp2
    go_ret
    exact ⟨_, rfl, World.ownsRow_nil _ _ _ _, Below.refl _ _⟩
  · have hrz : ∀ ty, (Builtin.append_ #[23, 3] ty #[.slice none 0 0, .int .i64 (n : Int)]).run Try.prog w =
        .ok (.slice (some ⟨w.heap.size, 0, none⟩) n (grownCap w n 0 39)) (w.drew.alloc (.cells (Builtin.zeroCells (Value.agg #[.int .i64 0, .int .i64 0]).cells n ++ Builtin.zeroCells (Value.agg #[.int .i64 0, .int .i64 0]).cells (grownCap w n 0 39 - n)) 39)) := fun ty =>
      Lib.run_append_nil_zeros w 23 3 ty 39 i0 _ .i64 .i64 rfl rfl hi hz0 n (by omega) (by rw [hz1]; decide) (by omega) (by rw [hz2]; omega)
    have hG := grownCap_ge w n 0 39
    have hG2 := grownCap_le_maxLen w n 0 39 (by unfold maxLen; omega)
    obtain ⟨G, hGe⟩ : ∃ G, G = grownCap w n 0 39 := ⟨_, rfl⟩
    rw [← hGe] at hrz hG hG2
    have hs : (Builtin.zeroCells (Value.agg #[.int .i64 0, .int .i64 0]).cells n ++ Builtin.zeroCells (Value.agg #[.int .i64 0, .int .i64 0]).cells (G - n)).size = G * 2 := by
      simp [Builtin.zeroCells, Value.cells]; omega
    obtain ⟨cs, hcs⟩ : ∃ cs, cs = Builtin.zeroCells (Value.agg #[.int .i64 0, .int .i64 0]).cells n ++ Builtin.zeroCells (Value.agg #[.int .i64 0, .int .i64 0]).cells (G - n) := ⟨_, rfl⟩
    rw [← hcs] at hrz hs
    have hG3 : G ≤ 9223372036854775807 := by unfold maxLen at hG2; omega
    have hpos : (0 : Int) < (n : Int) := by omega
    clear hcs hGe
    go_enter Try.func88, Try.ntmps88
    go_wp2_with (at_builtin; refine Lib.wpList_append_run _ rfl _ _ _ _ rfl _ _ rfl rfl _ _ (hrz _) ?_)
    go_ret
    exact ⟨_, rfl, World.ownsRow_made (w := w.drew) cs G (Nat.le_refl _) hG2 hs, ((Below.refl _ w).drew).alloc (Nat.le_refl _) _⟩

/-- Lists of nodes, with the values that read as them: all of them, one behind the other. -/
def catV (ps : List (Value × List Nd)) : List Nd := ps.flatMap Prod.snd
theorem catV_take (ps : List (Value × List Nd)) (k : Nat) (h : k < ps.length) : catV (ps.take (k + 1)) = catV (ps.take k) ++ ps[k].2 := by
  rw [catV, List.take_succ_eq_append_getElem h, List.flatMap_append]; simp [catV]
theorem catV_le (ps : List (Value × List Nd)) (k : Nat) : (catV (ps.take k)).length ≤ (catV ps).length := by
  conv => rhs; rw [← List.take_append_drop k ps, catV, List.flatMap_append, List.length_append]
  exact Nat.le_add_right _ _
theorem nodeCells_append (a b : List Nd) : nodeCells (a ++ b) = nodeCells a ++ nodeCells b := by simp [nodeCells]

set_option maxHeartbeats 4000000 in
theorem Concat_any (ps : List (Value × List Nd)) (v : Value) (w : World) (hv : SliceIn (fun k => k < w.heap.size) w v ps.length (ps.map Prod.fst)) (hp : ∀ x ∈ ps, NodesAt w x.1 x.2) (hl : (catV ps).length ≤ 12000000) (hn : ps.length ≤ 1000) :
    Calls Try.prog 74 #[v] w fun e w' => ∃ u, e = .returned u ∧ w'.ownsRow w.heap.size 39 2 u (catV ps).length (nodeCells (catV ps)) ∧ Below w.heap.size w w' := by
  obtain ⟨i0, hi, hz0, hz1, hz2⟩ := info_parts infoNode
  obtain ⟨pv, cv, hsl⟩ : ∃ (p : Option Addr) (c : Nat), v = .slice p ps.length c := by
    rcases hv with ⟨p, c, h, h0, _⟩ | ⟨b, o, c, h, _⟩
    · exact ⟨p, c, by rw [h, h0]⟩
    · exact ⟨_, _, h⟩
  subst hsl
  have hcell : ∀ k (hk : k < ps.length), ∃ (b o p' : Nat), pv = some ⟨b, o, none⟩ ∧ b < w.heap.size ∧ w.cell? ⟨b, o + k, none⟩ = some ps[k].1 := by
    intro k hk
    rcases hv with ⟨p, c, h, h0, _⟩ | ⟨b, o, c, h, h1, h2, h3, h4⟩
    · omega
    · refine ⟨b, o, 0, by simp at h; exact h.1, h3, ?_⟩
      simpa [hk] using h4 k (by simpa using hk)
  go_enter Try.func74, Try.ntmps74
  go_wp2
  go_loopw [3, 11] (fun t i wr => ∃ k : Nat, i = .int .i64 k ∧ k ≤ ps.length ∧ Hid (t = .int .i64 (catV (ps.take k)).length) ∧ wr = w) (fun _ i _ => ps.length - (intOf i).toNat)
  case atStart => exact ⟨0, rfl, Nat.zero_le _, Lib.hid rfl, rfl⟩
  case round =>
    obtain ⟨k, rfl, hk, ht, hwe⟩ := hrel
    obtain rfl := ht.out
    replace hwe := hwe.symm
    subst hwe
    by_cases hlt : k < ps.length
    · obtain ⟨b, o, _, rfl, hb, hc⟩ := hcell k hlt
      obtain ⟨pk, ck, hks⟩ := (hp ps[k] (List.getElem_mem hlt)).slice
      rw [hks] at hc
      have hT := catV_take ps k hlt
      have hL1 := catV_le ps (k + 1)
      have hT2 : (catV (ps.take (k + 1))).length = (catV (ps.take k)).length + ps[k].2.length := by rw [hT, List.length_append]
      have HT := Lib.hid hT2
      rw [hT2] at hL1
      have n1 : (k : Int) < (ps.length : Int) := by omega
      clear hT hT2 hcell
      go_wp2
      go_roundw
      case rel => exact ⟨k + 1, by go_num, by omega, Lib.hid (congrArg (Value.int .i64) (by rw [HT.out]; omega)), trivial⟩
      case measure => simp [intOf]; omega
    · obtain rfl : k = ps.length := by omega
      rw [List.take_length]
      go_wp2_with (fail)
      refine (Grow_nil (catV ps).length (by omega) _).mono ?_
      rintro e w1 ⟨u, rfl, hr, hb⟩
      go_wp2_with (fail)
      go_loopw [6, 27] (fun u i wr => ∃ k : Nat, i = .int .i64 k ∧ k ≤ ps.length ∧ wr.ownsRow w.heap.size 39 2 u (catV (ps.take k)).length (nodeCells (catV (ps.take k))) ∧ Below w.heap.size w wr) (fun _ i _ => ps.length - (intOf i).toNat)
      case atStart => exact ⟨0, rfl, Nat.zero_le _, hr, hb⟩
      case round =>
        obtain ⟨k, rfl, hk, hrow, hB⟩ := hrel
        by_cases hlt : k < ps.length
        · obtain ⟨b, o, _, rfl, hbl, hc⟩ := hcell k hlt
          have hpk := (hp ps[k] (List.getElem_mem hlt)).below hB
          obtain ⟨pk, ck, hks⟩ := hpk.slice
          have hc := (hB.cell (p := ⟨b, o + k, none⟩) hbl).trans hc
          rw [hks] at hc hpk
          have hT := Lib.hid (catV_take ps k hlt)
          have hL1 := catV_le ps (k + 1)
          have hT2 : (catV (ps.take (k + 1))).length = (catV (ps.take k)).length + ps[k].2.length := by rw [hT.out, List.length_append]
          have HT := Lib.hid hT2
          rw [hT2] at hL1
          have n1 : (k : Int) < (ps.length : Int) := by omega
          clear hT2 hcell
          go_wp2_with (at_builtin; refine wpList_append_in rfl _ _ 23 rfl w.heap.size 39 i0 (.agg #[.int .i64 0, .int .i64 0]) 2 16 Try.underlying23 hi hz0 hz1 hz2 rfl (by decide) _ _ _ rfl hrow _ ps[k].2.length _ rfl hpk (by rw [nodeCells_length]; omega) (nodes_one _) (by unfold maxLen; omega) (by omega) hB.size ?_; intro v' w3 hown' hgrow)
          go_roundw
          case rel => exact ⟨k + 1, by go_num, by omega, by rw [HT.out, hT.out, nodeCells_append]; exact hown', hB.grown hgrow hB.size (fun j hj => (hrow.lt j hj).1)⟩
          case measure => simp [intOf]; omega
        · obtain rfl : k = ps.length := by omega
          rw [List.take_length] at hrow
          go_wp2_with (fail)
          go_ret
          exact ⟨_, rfl, hrow, hB⟩
end Go.Proofs.Ytbnmkdlmalobaaa
end

section
namespace Go.Proofs.Ytbnmkdlmalobaaa
set_option maxRecDepth 100000
open Go.RowKit
set_option linter.unusedVariables false

/-- A node, and all below it. -/
def partV (l : List Nd) (i : Int) : List Nd := if endv l i < 0 then [] else (l.take (endv l i).toNat).drop i.toNat
/-- Other nodes instead of a part. -/
def replV (l : List Nd) (i : Int) (r : List Nd) : List Nd := if endv l i < 0 then l else l.take i.toNat ++ r ++ l.drop (endv l i).toNat

theorem joined_any (ps : List (Value × List Nd)) (v : Value) (w : World) (hv : SliceIn (fun k => k < w.heap.size) w v ps.length (ps.map Prod.fst)) (hp : ∀ x ∈ ps, NodesAt w x.1 x.2) (hl : (catV ps).length ≤ 12000000) (hn : ps.length ≤ 1000) :
    Calls Try.prog 52 #[v] w fun e w' => ∃ u, e = .returned u ∧ w'.ownsRow w.heap.size 39 2 u (catV ps).length (nodeCells (catV ps)) ∧ Below w.heap.size w w' := by
  go_enter Try.func52, Try.ntmps52
  go_wp2_with (fail)
  refine (Concat_any ps v w hv hp hl hn).mono ?_
  rintro e w1 ⟨u, rfl, hr, hb⟩
  go_wp2_with (fail)
  go_ret
  exact ⟨_, rfl, hr, hb⟩

/-- A row of nodes that the call owns reads as the nodes. -/
theorem ownsRow_nodes {w : World} {base : Nat} {e : TypeId} {v : Value} {l : List Nd} (h : w.ownsRow base e 2 v l.length (nodeCells l)) : NodesIn (fun k => base ≤ k ∧ k < w.heap.size) w v l := by
  have hlc := nodeCells_length l
  by_cases hl : l.length = 0
  · refine .inl ?_
    rcases h.2 with ⟨rfl, _⟩ | ⟨g, cap, cur, rfl, _⟩
    · exact ⟨none, 0, rfl, hl, List.length_eq_zero_iff.1 (by omega), fun _ => rfl⟩
    · exact ⟨some ⟨g, 0, none⟩, cap, by rw [hl], hl, List.length_eq_zero_iff.1 (by omega), fun h => by cases h⟩
  · have hlt := h.lt
    rcases h.2 with ⟨_, h0⟩ | ⟨g, cap, cur, rfl, hb, hg, hc, _⟩
    · exact absurd h0 hl
    · refine .inr ⟨g, 0, cap, rfl, by omega, hc, ⟨hb, (hlt g rfl).2⟩, fun j hj => ?_⟩
      have := h.cellAt j (by omega)
      simpa using this

theorem nodesIn_of {S : Nat → Prop} {w : World} {b o cap : Nat} {l : List Nd} (hpos : 0 < l.length) (hcap : l.length ≤ cap) (hS : S b) (h : ∀ k (hk : k < l.length), w.cell? ⟨b, o + k * 2, none⟩ = some (.int .i64 l[k].1) ∧ w.cell? ⟨b, o + k * 2 + 1, none⟩ = some (.int .i64 l[k].2)) :
    NodesIn S w (.slice (some ⟨b, o, none⟩) l.length cap) l := .inr ⟨b, o, cap, rfl, hpos, hcap, hS, fun j hj => by
  rw [nodeCells_length] at hj
  obtain ⟨q, hq⟩ : ∃ q, j = 2 * q ∨ j = 2 * q + 1 := ⟨j / 2, by omega⟩
  rcases hq with rfl | rfl
  · rw [nodeCells_get0 l q (by omega), Nat.mul_comm]; exact (h q (by omega)).1
  · rw [nodeCells_get1 l q (by omega), Nat.mul_comm, ← Nat.add_assoc]; exact (h q (by omega)).2⟩
/-- A part of a list reads as a part of the nodes. -/
theorem NodesIn.sub {S : Nat → Prop} {w : World} {b o cap : Nat} {l : List Nd} (hcap : l.length ≤ cap) (hS : S b) (h : ∀ k (hk : k < l.length), w.cell? ⟨b, o + k * 2, none⟩ = some (.int .i64 l[k].1) ∧ w.cell? ⟨b, o + k * 2 + 1, none⟩ = some (.int .i64 l[k].2))
    (i j : Nat) (hij : i ≤ j) (hj : j ≤ l.length) : NodesIn S w (.slice (some ⟨b, o + i * 2, none⟩) (j - i) (cap - i)) ((l.take j).drop i) := by
  have hlen : ((l.take j).drop i).length = j - i := by simp; omega
  by_cases h0 : j = i
  · subst h0
    rw [Nat.sub_self, List.drop_eq_nil_of_le (by simp; omega)]
    exact .inl ⟨_, _, rfl, rfl, rfl, fun h => by cases h⟩
  · rw [← hlen]
    refine nodesIn_of (by omega) (by omega) hS fun k hk => ?_
    have := h (i + k) (by omega)
    rw [show o + i * 2 + k * 2 = o + (i + k) * 2 from by omega]
    simpa [List.getElem_drop, List.getElem_take] using this

set_option maxHeartbeats 2000000 in
theorem Part_any (l : List Nd) (i : Int) (v : Value) (w : World) (hv : NodesAt w v l) (hl : l.length ≤ 4000000) :
    Calls Try.prog 28 #[v, .int .i64 i] w fun e w' => ∃ u, e = .returned u ∧ NodesIn (fun k => w.heap.size ≤ k ∧ k < w'.heap.size) w' u (partV l i) ∧ Below w.heap.size w w' := by
  rcases endv_bound l i with hE | hE
  · have hlt : endv l i < 0 := by omega
    have HK : Hid (partV l i = []) := Lib.hid (by rw [partV, if_pos hlt])
    clear hE
    go_enter Try.func28, Try.ntmps28
    go_wp2_with (go_at_call 29; refine (End_any l _ _ _ hv hl).mono ?_; rintro e w1 ⟨rfl, hb⟩)
    go_ret
    exact ⟨_, rfl, by rw [HK.out]; exact .inl ⟨none, 0, rfl, rfl, rfl, fun _ => rfl⟩, hb⟩
  · obtain ⟨hi0, hil⟩ := endv_in l i hE
    obtain ⟨k, rfl⟩ := Int.eq_ofNat_of_zero_le hi0
    have hnlt : ¬ endv l k < 0 := by omega
    have hle := endv_le l k
    have hgt := endv_gt l k hE
    obtain ⟨m, hm⟩ := Int.eq_ofNat_of_zero_le hE
    have HK : Hid (partV l k = (l.take m).drop k) := Lib.hid (by rw [partV, if_neg hnlt, hm]; rfl)
    rw [hm] at hle hgt
    have hkl : k < l.length := by simpa using hil
    rcases hv.open with ⟨rfl, _⟩ | ⟨b, o, cap, rfl, hpos, hcap, hbs, hcell⟩
    · simp at hkl
    go_enter Try.func28, Try.ntmps28
    go_wp2_with (go_at_call 29; refine (End_any l _ _ _ hv hl).mono ?_; rintro e w1 ⟨rfl, hb⟩; rw [hm])
    have hv1 : NodesAt (w1.alloc (.cells #[.slice (some ⟨b, o + k * 2, none⟩) (m - k) (cap - k)] 23)) (.slice (some ⟨b, o + k * 2, none⟩) (m - k) (cap - k)) ((l.take m).drop k) :=
      ((NodesIn.sub hcap (S := (· < w.heap.size)) hbs hcell k m (by omega) (by omega)).below hb).below (below_alloc1 w1 _)
    have hcl := NodesIn.sub hcap (S := (· < w.heap.size)) hbs hcell k m (by omega) (by omega)
    refine (joined_any [(.slice (some ⟨b, o + k * 2, none⟩) (m - k) (cap - k), (l.take m).drop k)] _ _ (sliceIn_one w1 _ 23) (fun x hx => by obtain rfl := List.mem_singleton.1 hx; exact hv1) (by simp [catV]; omega) (by simp)).mono ?_
    rintro e w2 ⟨u, rfl, hr, hb2⟩
    have hB2 : Below w.heap.size w w2 := (hb.trans ((below_alloc1 w1 _).mono hb.size)).trans (hb2.mono (by simp; have := hb.size; omega))
    have hz := hb.size
    go_wp2_with (fail)
    go_ret
    refine ⟨_, rfl, ?_, hB2⟩
    rw [HK.out]
    exact (ownsRow_nodes (by simpa [catV] using hr)).mono (fun j hj => ⟨by omega, hj.2⟩)

/-- A literal slice of three elements. -/
theorem sliceIn_three (w : World) (a b c : Value) (t : TypeId) : SliceIn (fun k => k < (w.alloc (.cells #[a, b, c] t)).heap.size) (w.alloc (.cells #[a, b, c] t)) (.slice (some ⟨w.heap.size, 0, none⟩) 3 3) 3 [a, b, c] := by
  refine .inr ⟨w.heap.size, 0, 3, rfl, by omega, by omega, by simp, fun j hj => ?_⟩
  simp at hj
  have h := World.alloc_heap_new w (.cells #[a, b, c] t)
  rcases (by omega : j = 0 ∨ j = 1 ∨ j = 2) with rfl | rfl | rfl <;> (unfold World.cell?; simp only [h]; rfl)

theorem sliceIn_three_drew (w : World) (a b c : Value) (t : TypeId) : SliceIn (fun k => k < (w.alloc (.cells #[a, b, c] t)).drew.heap.size) (w.alloc (.cells #[a, b, c] t)).drew (.slice (some ⟨w.heap.size, 0, none⟩) 3 3) 3 [a, b, c] :=
  (sliceIn_three w a b c t).kept (kept_drew (Kept.refl _ _))

set_option maxHeartbeats 4000000 in
theorem Replace_any (l r : List Nd) (i : Int) (v u : Value) (w : World) (hv : NodesAt w v l) (hu : NodesAt w u r) (hl : l.length ≤ 4000000) (hr : r.length ≤ 4000000) :
    Calls Try.prog 30 #[v, .int .i64 i, u] w fun e w' => ∃ x, e = .returned x ∧ NodesIn (fun k => w.heap.size ≤ k ∧ k < w'.heap.size) w' x (replV l i r) ∧ Below w.heap.size w w' := by
  obtain ⟨pu, cu, hsu⟩ := hu.slice
  subst hsu
  refine callsIn_wide.1 (?_ : CallsIn Fence.wide 1 _ _ _ _ _)
  refine callsIn_of_wp Try.func30 rfl trivial ?_ rfl
  simp only [Try.ntmps30, List.size_toArray, List.length_cons, List.length_nil, Nat.reduceAdd, Nat.reduceSub, Array.replicate_succ, Array.replicate_zero, List.push_toArray, List.append_toArray, List.nil_append, List.cons_append]
  rcases endv_bound l i with hE | hE
  · have hlt : endv l i < 0 := by omega
    have HK : Hid (replV l i r = l) := Lib.hid (by rw [replV, if_pos hlt])
    clear hE
    obtain ⟨p, cap, hsl⟩ := hv.slice
    subst hsl
    gi_wp2_with (gi_at_call 29; refine (callsIn_wide.2 (End_any l _ _ _ hv hl)).mono ?_; rintro e w1 ⟨rfl, hb⟩)
    have hv1 := (hv.below hb).below (below_alloc1 w1 (.cells #[.slice p l.length cap] 23))
    refine (callsIn_wide.2 (joined_any [(.slice p l.length cap, l)] _ _ (sliceIn_one w1 _ 23) (fun x hx => by obtain rfl := List.mem_singleton.1 hx; exact hv1) (by simp [catV]; omega) (by simp))).mono ?_
    rintro e w2 ⟨x, rfl, hrow, hb2⟩
    have hB2 : Below w.heap.size w w2 := (hb.trans ((below_alloc1 w1 _).mono hb.size)).trans (hb2.mono (by simp; have := hb.size; omega))
    have hz := hb.size
    gi_wp2_with (fail)
    go_ret
    refine ⟨_, rfl, ?_, hB2⟩
    rw [HK.out]
    exact (ownsRow_nodes (by simpa [catV] using hrow)).mono (fun j hj => ⟨by omega, hj.2⟩)
  · obtain ⟨hi0, hil⟩ := endv_in l i hE
    obtain ⟨k, rfl⟩ := Int.eq_ofNat_of_zero_le hi0
    have hnlt : ¬ endv l k < 0 := by omega
    have hle := endv_le l k
    have hgt := endv_gt l k hE
    obtain ⟨m, hm⟩ := Int.eq_ofNat_of_zero_le hE
    have HK : Hid (replV l k r = l.take k ++ r ++ l.drop m) := Lib.hid (by rw [replV, if_neg hnlt, hm]; rfl)
    rw [hm] at hle hgt
    have hkl : k < l.length := by simpa using hil
    rcases hv.open with ⟨rfl, _⟩ | ⟨b, o, cap, rfl, hpos, hcap, hbs, hcell⟩
    · simp at hkl
    have hmx : Try.prog.follows .mixedOrders = true := by kernel_rfl
    gi_wp2_with (gi_at_call 29; refine (callsIn_wide.2 (End_any l _ _ _ hv hl)).mono ?_; rintro e w1 ⟨rfl, hb⟩; rw [hm])
    have b1 : (k : Int) ≤ (cap : Int) := by omega
    have b2 : (m : Int) ≤ (l.length : Int) := by omega
    have b3 : ¬ (cap : Int) < (k : Int) := by omega
    have b4 : ¬ (l.length : Int) < (m : Int) := by omega
    have b5 : ¬ (k : Int) < 0 := by omega
    have b6 : (k : Int) ≤ (l.length : Int) := by omega
    have b7 : k ≤ cap := by omega
    have b8 : m ≤ l.length := by omega
    have s1 : NodesAt w (.slice (some ⟨b, o, none⟩) k cap) (l.take k) := by simpa using NodesIn.sub hcap (S := (· < w.heap.size)) hbs hcell 0 k (by omega) (by omega)
    have s3 : NodesAt w (.slice (if cap = m then some ⟨b, o, none⟩ else some ⟨b, o + m * 2, none⟩) (l.length - m) (cap - m)) (l.drop m) := by
      by_cases hcm : cap = m
      · rw [if_pos hcm, List.drop_eq_nil_of_le (by omega), show l.length - m = 0 from by omega]
        exact .inl ⟨_, _, rfl, rfl, rfl, fun h => by cases h⟩
      · rw [if_neg hcm]
        simpa using NodesIn.sub hcap (S := (· < w.heap.size)) hbs hcell m l.length (by omega) (by omega)
    obtain ⟨q3, hq3⟩ : ∃ q : Option Addr, (if cap = m then some ⟨b, o, none⟩ else some ⟨b, o + m * 2, none⟩) = q := ⟨_, rfl⟩
    rw [hq3] at s3
    have hbd : Below w.heap.size w ((w1.alloc (.cells #[.slice (some ⟨b, o, none⟩) k cap, .slice pu r.length cu, .slice q3 (l.length - m) (cap - m)] 23)).drew) := hb.trans ((((Below.refl _ w1).alloc (Nat.le_refl _) _).drew).mono hb.size)
    have hps : ∀ x ∈ [(Value.slice (some ⟨b, o, none⟩) k cap, l.take k), (.slice pu r.length cu, r), (.slice q3 (l.length - m) (cap - m), l.drop m)], NodesAt ((w1.alloc (.cells #[.slice (some ⟨b, o, none⟩) k cap, .slice pu r.length cu, .slice q3 (l.length - m) (cap - m)] 23)).drew) x.1 x.2 := by
      intro x hx
      simp only [List.mem_cons, List.not_mem_nil, or_false] at hx
      rcases hx with rfl | rfl | rfl
      · exact s1.below hbd
      · exact hu.below hbd
      · exact s3.below hbd
    have hcl : (catV [(Value.slice (some ⟨b, o, none⟩) k cap, l.take k), (.slice pu r.length cu, r), (.slice q3 (l.length - m) (cap - m), l.drop m)]).length ≤ 12000000 := by simp [catV]; omega
    have h3 : SliceIn (fun jj => jj < ((w1.alloc (.cells #[.slice (some ⟨b, o, none⟩) k cap, .slice pu r.length cu, .slice q3 (l.length - m) (cap - m)] 23)).drew).heap.size) ((w1.alloc (.cells #[.slice (some ⟨b, o, none⟩) k cap, .slice pu r.length cu, .slice q3 (l.length - m) (cap - m)] 23)).drew) (.slice (some ⟨w1.heap.size, 0, none⟩) 3 3) 3 [.slice (some ⟨b, o, none⟩) k cap, .slice pu r.length cu, .slice q3 (l.length - m) (cap - m)] := sliceIn_three_drew w1 _ _ _ 23
    have hz := hbd.size
    gi_region_with_o (gi_at_call 52; go_loud (refine (callsIn_wide.2 (joined_any [(Value.slice (some ⟨b, o, none⟩) k cap, l.take k), (.slice pu r.length cu, r), (.slice q3 (l.length - m) (cap - m), l.drop m)] _ _ h3 hps hcl (by simp))).mono ?_; rintro e w2 ⟨x, rfl, hrow, hb2⟩))
    all_goals gi_wp2
    all_goals go_ret
    all_goals refine ⟨x, rfl, ?_, hbd.trans (hb2.mono hz)⟩
    all_goals rw [HK.out]
    all_goals exact (ownsRow_nodes (base := w1.heap.size + 1) (v := x) (by simpa [catV] using hrow)).mono (fun j hj => ⟨by have := hb.size; omega, hj.2⟩)
end Go.Proofs.Ytbnmkdlmalobaaa
end

section
namespace Go.Proofs.Ytbnmkdlmalobaaa
open Go.RowKit

theorem take_same {a b : List Int} {k : Nat} (h : a.take k = b.take k) (hk : k < a.length) (hb : k < b.length) (he : a[k] = b[k]) : a.take (k + 1) = b.take (k + 1) := by
  rw [List.take_succ_eq_append_getElem hk, List.take_succ_eq_append_getElem hb, h, he]
theorem take_all {a b : List Int} (h : a.take a.length = b.take a.length) (hl : a.length = b.length) : a = b := by
  rwa [List.take_length, hl, List.take_length] at h
theorem ret_bool {a b : Bool} (h : a = b) : Ending.returned (.bool a) = .returned (.bool b) := by rw [h]

set_option maxHeartbeats 1000000 in
theorem Ints_any (a b : List Int) (u v : Value) (w : World) (hu : IntsAt w u a) (hv : IntsAt w v b) (ha : a.length ≤ 4000000) (hb : b.length ≤ 4000000) :
    Calls Try.prog 37 #[u, v] w fun e w' => e = .returned (.bool (decide (a = b))) ∧ Below w.heap.size w w' := by
  obtain ⟨pu, cu, hus⟩ := hu.slice
  obtain ⟨pv, cv, hvs⟩ := hv.slice
  subst hus
  subst hvs
  by_cases hl : a.length = b.length
  · have hlt : ((a.length : Int) != (b.length : Int)) = false := by simp [hl]
    have HL := Lib.hid hl
    clear hl
    go_enter Try.func37, Try.ntmps37
    go_wp2
    go_loopw [5] (fun i wr => ∃ k : Nat, i = .int .i64 k ∧ k ≤ a.length ∧ Hid (a.take k = b.take k) ∧ Below w.heap.size w wr) (fun i _ => a.length - (intOf i).toNat)
    case atStart => exact ⟨0, rfl, Nat.zero_le _, Lib.hid rfl, Below.refl _ _⟩
    case round =>
      obtain ⟨k, rfl, hk, ht, hB⟩ := hrel
      by_cases hlt : k < a.length
      · have hltb : k < b.length := by have := HL.out; omega
        rcases hu.open with ⟨rfl, _⟩ | ⟨b1, o1, c1, hs1, hp1, hc1, hb1, hx1⟩
        · simp at hlt
        rcases hv.open with ⟨rfl, _⟩ | ⟨b2, o2, c2, hs2, hp2, hc2, hb2, hx2⟩
        · simp at hltb
        obtain ⟨rfl, rfl⟩ : pu = some ⟨b1, o1, none⟩ ∧ cu = c1 := by simpa using hs1
        obtain ⟨rfl, rfl⟩ : pv = some ⟨b2, o2, none⟩ ∧ cv = c2 := by simpa using hs2
        have g1 := (hB.cell (p := ⟨b1, o1 + k, none⟩) hb1).trans (hx1 k hlt)
        have g2 := (hB.cell (p := ⟨b2, o2 + k, none⟩) hb2).trans (hx2 k hltb)
        clear hx1 hx2 hs1 hs2
        by_cases he : a[k] = b[k]
        · have heb : (a[k] != b[k]) = false := by simp [he]
          have HE := Lib.hid he
          clear he
          have n1 : (k : Int) < (a.length : Int) := by omega
          have n2 : (k : Int) < (b.length : Int) := by omega
          go_wp2
          go_quiet (fail)
          go_wp2
          go_roundw
          case rel => exact ⟨k + 1, by go_num, by omega, Lib.hid (take_same ht.out hlt hltb HE.out), below_drewN hB _⟩
          case measure => simp [intOf]; omega
        · have heb : (a[k] != b[k]) = true := by simp [he]
          have HE := Lib.hid he
          clear he
          have n1 : (k : Int) < (a.length : Int) := by omega
          have n2 : (k : Int) < (b.length : Int) := by omega
          go_wp2
          go_quiet (fail)
          go_wp2
          go_ret
          exact ⟨ret_bool (by rw [decide_eq_false]; rintro rfl; exact HE.out rfl), below_drewN hB _⟩
      · go_wp2
        go_ret
        exact ⟨ret_bool (by rw [decide_eq_true]; exact (take_all (by have := ht.out; rwa [show k = a.length from by omega] at this) HL.out)), hB⟩
  · have hlt : ((a.length : Int) != (b.length : Int)) = true := by rw [bne_iff_ne]; omega
    have HL := Lib.hid hl
    clear hl
    go_enter Try.func37, Try.ntmps37
    go_wp2
    go_ret
    exact ⟨ret_bool (by rw [decide_eq_false]; intro h; exact HL.out (by rw [h])), Below.refl _ _⟩
end Go.Proofs.Ytbnmkdlmalobaaa
end

section
namespace Go.Proofs.Ytbnmkdlmalobaaa
open Go.RowKit
set_option linter.unusedVariables false

def F_Arity : List D → Option D
  | [x0] => (asNd x0).bind fun x => some (iD (ar x))
  | _ => none

theorem C_Arity : CallOk Try.prog 53 F_Arity := by
  refine ⟨⟨_, Try.func53, by decide, rfl⟩, fun ds d hF S vs W hS hv => ?_⟩
  unfold F_Arity at hF
  split at hF
  · rename_i x0
    rcases hd0 : asNd x0 with _ | x
    · rw [hd0] at hF; cases hF
    rw [hd0, Option.bind_some] at hF
    cases hF
    simp only [RepA] at hv
    obtain ⟨v_x, t0, rfl, r0, rfl⟩ := hv
    obtain rfl := asNd_ok hd0 r0
    refine (Arity_any x W).mono ?_
    rintro e w1 ⟨rfl, hb⟩
    exact ⟨_, rfl, by simp only [Rep], hb⟩
  · cases hF

def F_RefArity : List D → Option D
  | [x0] => (asNd x0).bind fun x => some (iD (ar x))
  | _ => none

theorem C_RefArity : CallOk Try.prog 70 F_RefArity := by
  refine ⟨⟨_, Try.func70, by decide, rfl⟩, fun ds d hF S vs W hS hv => ?_⟩
  unfold F_RefArity at hF
  split at hF
  · rename_i x0
    rcases hd0 : asNd x0 with _ | x
    · rw [hd0] at hF; cases hF
    rw [hd0, Option.bind_some] at hF
    cases hF
    simp only [RepA] at hv
    obtain ⟨v_x, t0, rfl, r0, rfl⟩ := hv
    obtain rfl := asNd_ok hd0 r0
    refine (refArity_any x W).mono ?_
    rintro e w1 ⟨rfl, hb⟩
    exact ⟨_, rfl, by simp only [Rep], hb⟩
  · cases hF

def F_End : List D → Option D
  | [x0, x1] => (asNodes x0).bind fun l => (asInt x1).bind fun i => if l.length ≤ 3000000 then some (iD (endv l i)) else none
  | _ => none

theorem C_End : CallOk Try.prog 29 F_End := by
  refine ⟨⟨_, Try.func29, by decide, rfl⟩, fun ds d hF S vs W hS hv => ?_⟩
  unfold F_End at hF
  split at hF
  · rename_i x0 x1
    rcases hd0 : asNodes x0 with _ | l
    · rw [hd0] at hF; cases hF
    rw [hd0, Option.bind_some] at hF
    rcases hd1 : asInt x1 with _ | i
    · rw [hd1] at hF; cases hF
    rw [hd1, Option.bind_some] at hF
    split at hF
    rotate_left
    · cases hF
    rename_i G
    cases hF
    simp only [RepA] at hv
    obtain ⟨v_l, t0, rfl, r0, ⟨v_i, t1, rfl, r1, rfl⟩⟩ := hv
    have h_l := (asNodes_ok hd0 r0).mono hS
    obtain rfl := asInt_ok hd1 r1
    refine (End_any l i v_l W h_l (by omega)).mono ?_
    rintro e w1 ⟨rfl, hb⟩
    exact ⟨_, rfl, by simp only [Rep], hb⟩
  · cases hF

def F_RefEnd : List D → Option D
  | [x0, x1] => (asNodes x0).bind fun l => (asInt x1).bind fun i => if l.length ≤ 3000000 then some (iD (endv l i)) else none
  | _ => none

theorem C_RefEnd : CallOk Try.prog 45 F_RefEnd := by
  refine ⟨⟨_, Try.func45, by decide, rfl⟩, fun ds d hF S vs W hS hv => ?_⟩
  unfold F_RefEnd at hF
  split at hF
  · rename_i x0 x1
    rcases hd0 : asNodes x0 with _ | l
    · rw [hd0] at hF; cases hF
    rw [hd0, Option.bind_some] at hF
    rcases hd1 : asInt x1 with _ | i
    · rw [hd1] at hF; cases hF
    rw [hd1, Option.bind_some] at hF
    split at hF
    rotate_left
    · cases hF
    rename_i G
    cases hF
    simp only [RepA] at hv
    obtain ⟨v_l, t0, rfl, r0, ⟨v_i, t1, rfl, r1, rfl⟩⟩ := hv
    have h_l := (asNodes_ok hd0 r0).mono hS
    obtain rfl := asInt_ok hd1 r1
    refine (refEnd_any l i v_l W h_l (by omega)).mono ?_
    rintro e w1 ⟨rfl, hb⟩
    exact ⟨_, rfl, by simp only [Rep], hb⟩
  · cases hF

def F_Kids : List D → Option D
  | [x0, x1] => (asNodes x0).bind fun l => (asInt x1).bind fun i => if l.length ≤ 3000000 then some (intsD (kidsv l i)) else none
  | _ => none

theorem C_Kids : CallOk Try.prog 27 F_Kids := by
  refine ⟨⟨_, Try.func27, by decide, rfl⟩, fun ds d hF S vs W hS hv => ?_⟩
  unfold F_Kids at hF
  split at hF
  · rename_i x0 x1
    rcases hd0 : asNodes x0 with _ | l
    · rw [hd0] at hF; cases hF
    rw [hd0, Option.bind_some] at hF
    rcases hd1 : asInt x1 with _ | i
    · rw [hd1] at hF; cases hF
    rw [hd1, Option.bind_some] at hF
    split at hF
    rotate_left
    · cases hF
    rename_i G
    cases hF
    simp only [RepA] at hv
    obtain ⟨v_l, t0, rfl, r0, ⟨v_i, t1, rfl, r1, rfl⟩⟩ := hv
    have h_l := (asNodes_ok hd0 r0).mono hS
    obtain rfl := asInt_ok hd1 r1
    refine (Kids_any l i v_l W h_l (by omega)).mono ?_
    rintro e w1 ⟨u, rfl, hu, hb⟩
    exact ⟨u, rfl, intsD_rep (IntsIn.mono hu (fun k hk => .inr hk)), hb⟩
  · cases hF

def F_RefKids : List D → Option D
  | [x0, x1] => (asNodes x0).bind fun l => (asInt x1).bind fun i => if l.length ≤ 3000000 then some (intsD (kidsv l i)) else none
  | _ => none

theorem C_RefKids : CallOk Try.prog 46 F_RefKids := by
  refine ⟨⟨_, Try.func46, by decide, rfl⟩, fun ds d hF S vs W hS hv => ?_⟩
  unfold F_RefKids at hF
  split at hF
  · rename_i x0 x1
    rcases hd0 : asNodes x0 with _ | l
    · rw [hd0] at hF; cases hF
    rw [hd0, Option.bind_some] at hF
    rcases hd1 : asInt x1 with _ | i
    · rw [hd1] at hF; cases hF
    rw [hd1, Option.bind_some] at hF
    split at hF
    rotate_left
    · cases hF
    rename_i G
    cases hF
    simp only [RepA] at hv
    obtain ⟨v_l, t0, rfl, r0, ⟨v_i, t1, rfl, r1, rfl⟩⟩ := hv
    have h_l := (asNodes_ok hd0 r0).mono hS
    obtain rfl := asInt_ok hd1 r1
    refine (refKids_any l i v_l W h_l (by omega)).mono ?_
    rintro e w1 ⟨u, rfl, hu, hb⟩
    exact ⟨u, rfl, intsD_rep (IntsIn.mono hu (fun k hk => .inr hk)), hb⟩
  · cases hF

def F_Depth : List D → Option D
  | [x0, x1] => (asNodes x0).bind fun l => (asInt x1).bind fun i => if l.length ≤ 3000000 then some (iD (depV l.length l i)) else none
  | _ => none

theorem C_Depth : CallOk Try.prog 31 F_Depth := by
  refine ⟨⟨_, Try.func31, by decide, rfl⟩, fun ds d hF S vs W hS hv => ?_⟩
  unfold F_Depth at hF
  split at hF
  · rename_i x0 x1
    rcases hd0 : asNodes x0 with _ | l
    · rw [hd0] at hF; cases hF
    rw [hd0, Option.bind_some] at hF
    rcases hd1 : asInt x1 with _ | i
    · rw [hd1] at hF; cases hF
    rw [hd1, Option.bind_some] at hF
    split at hF
    rotate_left
    · cases hF
    rename_i G
    cases hF
    simp only [RepA] at hv
    obtain ⟨v_l, t0, rfl, r0, ⟨v_i, t1, rfl, r1, rfl⟩⟩ := hv
    have h_l := (asNodes_ok hd0 r0).mono hS
    obtain rfl := asInt_ok hd1 r1
    refine (Depth_any l (by omega) l.length i v_l W (by omega) (by omega) h_l).mono ?_
    rintro e w1 ⟨rfl, hb⟩
    exact ⟨_, rfl, by simp only [Rep], hb⟩
  · cases hF

def F_Part : List D → Option D
  | [x0, x1] => (asNodes x0).bind fun l => (asInt x1).bind fun i => if l.length ≤ 3000000 then some (nodesD (partV l i)) else none
  | _ => none

theorem C_Part : CallOk Try.prog 28 F_Part := by
  refine ⟨⟨_, Try.func28, by decide, rfl⟩, fun ds d hF S vs W hS hv => ?_⟩
  unfold F_Part at hF
  split at hF
  · rename_i x0 x1
    rcases hd0 : asNodes x0 with _ | l
    · rw [hd0] at hF; cases hF
    rw [hd0, Option.bind_some] at hF
    rcases hd1 : asInt x1 with _ | i
    · rw [hd1] at hF; cases hF
    rw [hd1, Option.bind_some] at hF
    split at hF
    rotate_left
    · cases hF
    rename_i G
    cases hF
    simp only [RepA] at hv
    obtain ⟨v_l, t0, rfl, r0, ⟨v_i, t1, rfl, r1, rfl⟩⟩ := hv
    have h_l := (asNodes_ok hd0 r0).mono hS
    obtain rfl := asInt_ok hd1 r1
    refine (Part_any l i v_l W h_l (by omega)).mono ?_
    rintro e w1 ⟨u, rfl, hu, hb⟩
    exact ⟨u, rfl, nodesD_rep (NodesIn.mono hu (fun k hk => .inr hk)), hb⟩
  · cases hF

def F_Replace : List D → Option D
  | [x0, x1, x2] => (asNodes x0).bind fun l => (asInt x1).bind fun i => (asNodes x2).bind fun r => if l.length ≤ 3000000 ∧ r.length ≤ 3000000 then some (nodesD (replV l i r)) else none
  | _ => none

theorem C_Replace : CallOk Try.prog 30 F_Replace := by
  refine ⟨⟨_, Try.func30, by decide, rfl⟩, fun ds d hF S vs W hS hv => ?_⟩
  unfold F_Replace at hF
  split at hF
  · rename_i x0 x1 x2
    rcases hd0 : asNodes x0 with _ | l
    · rw [hd0] at hF; cases hF
    rw [hd0, Option.bind_some] at hF
    rcases hd1 : asInt x1 with _ | i
    · rw [hd1] at hF; cases hF
    rw [hd1, Option.bind_some] at hF
    rcases hd2 : asNodes x2 with _ | r
    · rw [hd2] at hF; cases hF
    rw [hd2, Option.bind_some] at hF
    split at hF
    rotate_left
    · cases hF
    rename_i G
    cases hF
    simp only [RepA] at hv
    obtain ⟨v_l, t0, rfl, r0, ⟨v_i, t1, rfl, r1, ⟨v_r, t2, rfl, r2, rfl⟩⟩⟩ := hv
    have h_l := (asNodes_ok hd0 r0).mono hS
    obtain rfl := asInt_ok hd1 r1
    have h_r := (asNodes_ok hd2 r2).mono hS
    refine (Replace_any l r i v_l v_r W h_l h_r (by omega) (by omega)).mono ?_
    rintro e w1 ⟨u, rfl, hu, hb⟩
    exact ⟨u, rfl, nodesD_rep (NodesIn.mono hu (fun k hk => .inr hk)), hb⟩
  · cases hF

def F_Check : List D → Option D
  | [x0] => (asNodes x0).bind fun l => if l.length ≤ 3000000 then some (iD (checkV l)) else none
  | _ => none

theorem C_Check : CallOk Try.prog 39 F_Check := by
  refine ⟨⟨_, Try.func39, by decide, rfl⟩, fun ds d hF S vs W hS hv => ?_⟩
  unfold F_Check at hF
  split at hF
  · rename_i x0
    rcases hd0 : asNodes x0 with _ | l
    · rw [hd0] at hF; cases hF
    rw [hd0, Option.bind_some] at hF
    split at hF
    rotate_left
    · cases hF
    rename_i G
    cases hF
    simp only [RepA] at hv
    obtain ⟨v_l, t0, rfl, r0, rfl⟩ := hv
    have h_l := (asNodes_ok hd0 r0).mono hS
    refine (Check_any l v_l W h_l (by omega)).mono ?_
    rintro e w1 ⟨rfl, hb⟩
    exact ⟨_, rfl, by simp only [Rep], hb⟩
  · cases hF

def F_RefCheck : List D → Option D
  | [x0] => (asNodes x0).bind fun l => if l.length ≤ 3000000 then some (iD (checkV l)) else none
  | _ => none

theorem C_RefCheck : CallOk Try.prog 40 F_RefCheck := by
  refine ⟨⟨_, Try.func40, by decide, rfl⟩, fun ds d hF S vs W hS hv => ?_⟩
  unfold F_RefCheck at hF
  split at hF
  · rename_i x0
    rcases hd0 : asNodes x0 with _ | l
    · rw [hd0] at hF; cases hF
    rw [hd0, Option.bind_some] at hF
    split at hF
    rotate_left
    · cases hF
    rename_i G
    cases hF
    simp only [RepA] at hv
    obtain ⟨v_l, t0, rfl, r0, rfl⟩ := hv
    have h_l := (asNodes_ok hd0 r0).mono hS
    refine (refCheck_any l v_l W h_l (by omega)).mono ?_
    rintro e w1 ⟨rfl, hb⟩
    exact ⟨_, rfl, by simp only [Rep], hb⟩
  · cases hF

def F_RefSame : List D → Option D
  | [x0, x1] => (asNodes x0).bind fun a => (asNodes x1).bind fun b => if a.length ≤ 3000000 ∧ b.length ≤ 3000000 then some (bD (decide (a = b))) else none
  | _ => none

theorem C_RefSame : CallOk Try.prog 38 F_RefSame := by
  refine ⟨⟨_, Try.func38, by decide, rfl⟩, fun ds d hF S vs W hS hv => ?_⟩
  unfold F_RefSame at hF
  split at hF
  · rename_i x0 x1
    rcases hd0 : asNodes x0 with _ | a
    · rw [hd0] at hF; cases hF
    rw [hd0, Option.bind_some] at hF
    rcases hd1 : asNodes x1 with _ | b
    · rw [hd1] at hF; cases hF
    rw [hd1, Option.bind_some] at hF
    split at hF
    rotate_left
    · cases hF
    rename_i G
    cases hF
    simp only [RepA] at hv
    obtain ⟨v_a, t0, rfl, r0, ⟨v_b, t1, rfl, r1, rfl⟩⟩ := hv
    have h_a := (asNodes_ok hd0 r0).mono hS
    have h_b := (asNodes_ok hd1 r1).mono hS
    refine (refSame_any a b v_a v_b W h_a h_b (by omega) (by omega)).mono ?_
    rintro e w1 ⟨rfl, hb⟩
    exact ⟨_, rfl, by simp only [Rep], hb⟩
  · cases hF

def F_RefInts : List D → Option D
  | [x0, x1] => (asInts x0).bind fun a => (asInts x1).bind fun b => if a.length ≤ 3000000 ∧ b.length ≤ 3000000 then some (bD (decide (a = b))) else none
  | _ => none

theorem C_RefInts : CallOk Try.prog 37 F_RefInts := by
  refine ⟨⟨_, Try.func37, by decide, rfl⟩, fun ds d hF S vs W hS hv => ?_⟩
  unfold F_RefInts at hF
  split at hF
  · rename_i x0 x1
    rcases hd0 : asInts x0 with _ | a
    · rw [hd0] at hF; cases hF
    rw [hd0, Option.bind_some] at hF
    rcases hd1 : asInts x1 with _ | b
    · rw [hd1] at hF; cases hF
    rw [hd1, Option.bind_some] at hF
    split at hF
    rotate_left
    · cases hF
    rename_i G
    cases hF
    simp only [RepA] at hv
    obtain ⟨v_a, t0, rfl, r0, ⟨v_b, t1, rfl, r1, rfl⟩⟩ := hv
    have h_a := (asInts_ok hd0 r0).mono hS
    have h_b := (asInts_ok hd1 r1).mono hS
    refine (Ints_any a b v_a v_b W h_a h_b (by omega) (by omega)).mono ?_
    rintro e w1 ⟨rfl, hb⟩
    exact ⟨_, rfl, by simp only [Rep], hb⟩
  · cases hF

def F_EqualNodes : List D → Option D
  | [x0, x1] => (asNodes x0).bind fun a => (asNodes x1).bind fun b => if a.length ≤ 3000000 ∧ b.length ≤ 3000000 then some (bD (decide (a = b))) else none
  | _ => none

theorem C_EqualNodes : CallOk Try.prog 42 F_EqualNodes := by
  refine ⟨⟨_, Try.func42, by decide, rfl⟩, fun ds d hF S vs W hS hv => ?_⟩
  unfold F_EqualNodes at hF
  split at hF
  · rename_i x0 x1
    rcases hd0 : asNodes x0 with _ | a
    · rw [hd0] at hF; cases hF
    rw [hd0, Option.bind_some] at hF
    rcases hd1 : asNodes x1 with _ | b
    · rw [hd1] at hF; cases hF
    rw [hd1, Option.bind_some] at hF
    split at hF
    rotate_left
    · cases hF
    rename_i G
    cases hF
    simp only [RepA] at hv
    obtain ⟨v_a, t0, rfl, r0, ⟨v_b, t1, rfl, r1, rfl⟩⟩ := hv
    have h_a := (asNodes_ok hd0 r0).mono hS
    have h_b := (asNodes_ok hd1 r1).mono hS
    refine (equal_any a b v_a v_b W h_a h_b (by omega) (by omega)).mono ?_
    rintro e w1 ⟨rfl, hb⟩
    exact ⟨_, rfl, by simp only [Rep], hb⟩
  · cases hF

def fs08 : List Entry := (53, true, liftF F_Arity) :: (70, true, liftF F_RefArity) :: (29, true, liftF F_End) :: (45, true, liftF F_RefEnd) :: (27, true, liftF F_Kids) :: (46, true, liftF F_RefKids) :: (31, true, liftF F_Depth) :: (28, true, liftF F_Part) :: (30, true, liftF F_Replace) :: (39, true, liftF F_Check) :: (40, true, liftF F_RefCheck) :: (38, true, liftF F_RefSame) :: (37, true, liftF F_RefInts) :: (42, true, liftF F_EqualNodes) :: []
theorem fs08_ok : ∀ p ∈ fs08, EntryOk Try.prog p := entries_cons (entry_lift C_Arity) <| entries_cons (entry_lift C_RefArity) <| entries_cons (entry_lift C_End) <| entries_cons (entry_lift C_RefEnd) <| entries_cons (entry_lift C_Kids) <| entries_cons (entry_lift C_RefKids) <| entries_cons (entry_lift C_Depth) <| entries_cons (entry_lift C_Part) <| entries_cons (entry_lift C_Replace) <| entries_cons (entry_lift C_Check) <| entries_cons (entry_lift C_RefCheck) <| entries_cons (entry_lift C_RefSame) <| entries_cons (entry_lift C_RefInts) <| entries_cons (entry_lift C_EqualNodes) <| entries_nil
def T08 : Tab := ⟨fs08, noYl⟩
theorem T08_ok : TabOk Try.prog T08 := tabOk_of fs08_ok
end Go.Proofs.Ytbnmkdlmalobaaa
end
