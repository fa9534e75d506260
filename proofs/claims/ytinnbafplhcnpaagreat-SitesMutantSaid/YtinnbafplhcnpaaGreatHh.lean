import Derived.Test.YtinnbafplhcnpaaGreatProg
import Derived.BigQuiet
import Derived.Deep.QuietTactic
import Derived.Lib.AppendZeros
import Derived.WalkSpells
import Derived.Lib.SliceRun
import Derived.ProofKit
import Derived.OpenShut
import Derived.ShutString
import Derived.ChangeOld
import Derived.Deep.SlicePairs
import Derived.Lib.SmallJoins
import Derived.Test.YtinnbafplhcnpaaGreatHa
import Derived.Test.YtinnbafplhcnpaaGreatHb
import Derived.Test.YtinnbafplhcnpaaGreatHf
import Derived.Test.YtinnbafplhcnpaaGreatHg
section
namespace Go.Proofs.YtinnbafplhcnpaaGreat
set_option maxRecDepth 100000
open Go.RowKit Go.Shelf
set_option linter.unusedVariables false
attribute [local go_sem] Oper.semAt_some
theorem Qhr (f : Nat) (l : List Nd) (ks : List Int) (m : Nat) (h : m < ks.length) : Jrv f l (ks.take (m + 1)) = max (Jrv f l (ks.take m)) (depV f l ks[m]) := by
  rw [List.take_succ_eq_append_getElem h, Jqs]
set_option maxRecDepth 100000 in
set_option maxHeartbeats 4000000 in
theorem Jra          (l : List Nd) (hl : l.length ≤ 4000000) (v : Value) : ∀ (f : Nat) (i : Int) (w : World), f ≤ 4000001 → ((l.length : Int) ≤ i + f ∨ i < 0) → Jbz     w v l →
    Calls Tryz.prog 98 #[v, .int .i64 i] w fun e w' => e = .returned (.int .i64 (depV f l i)) /\ Below w.heap.size w w' := by
  intro f
  induction f with
  | zero =>
    intro i w hf hi hv
    have hlt : endv l i < 0 := by
      rcases Jdo l i with hE | hE
      · omega
      · obtain ⟨h1, h2⟩ := Ja2 l i hE; omega
    go_enter Tryz.func98, Tryz.ntmps98
    go_wp2_with (go_at_call 60; refine (Jcn l _ _ _ hv hl).mono ?_; rintro e w1 ⟨rfl, hb⟩)
    go_ret
    exact ⟨rfl, hb⟩
  | succ f ih =>
    intro i w hf hi hv
    refine callsIn_wide.1 (?_ : CallsIn Fence.wide 1 _ _ _ _ _)
    refine callsIn_of_wp Tryz.func98 rfl trivial ?_ rfl
    simp only [Tryz.ntmps98, List.size_toArray, List.length_cons, List.length_nil, Nat.reduceAdd, Nat.reduceSub, Array.replicate_succ, Array.replicate_zero, List.push_toArray, List.append_toArray, List.nil_append, List.cons_append]
    rcases Jdo l i with hE | hE
    · have hlt : endv l i < 0 := by omega
      have HK := Lib.hid (Qc8 (f + 1) l i hlt)
      clear hE hi
      gi_wp2_with (gi_at_call 60; refine (callsIn_wide.2 (Jcn l _ _ _ hv hl)).mono ?_; rintro e w1 ⟨rfl, hb⟩)
      go_ret
      exact ⟨by rw [HK.out]; rfl, hb⟩
    · obtain ⟨hi0, hil⟩ := Ja2 l i hE
      have HI : Hid ((l.length : Int) <= i + (f + 1 : Nat)) := Lib.hid (by omega)
      have HY := Lib.hid (Jxy f l i hE)
      have hnlt : ¬ endv l i < 0 := by omega
      have hmx : Tryz.prog.follows .mixedOrders = true := by kernel_rfl
      have hkl := Jbn l i
      clear hi
      gi_wp2_with (first | (gi_at_call 60; refine (callsIn_wide.2 (Jcn l _ _ _ hv hl)).mono ?_; rintro e w1 ⟨rfl, hb⟩; have hv1 := hv.below hb) | (gi_at_call 99; refine (callsIn_wide.2 (Jg1 l _ _ _ hv1 hl)).mono ?_; rintro e w2 ⟨u, rfl, hu, hb2⟩; obtain ⟨pu, cu, hsl⟩ := hu.slice; subst hsl))
      have hB2 : Below w.heap.size w w2 := hb.trans (hb2.mono hb.size)
      gi_loopw [5, 7] (fun n j wr => ∃ m : Nat, m <= (Jab l i).length /\ j = .int .i64 m /\ Hid (n = .int .i64 (Jrv f l ((Jab l i).take m))) /\ Below w2.heap.size w2 wr) (fun _ j _ => (Jab l i).length - (intOf j).toNat)
      case atStart => exact ⟨0, Nat.zero_le _, rfl, Lib.hid rfl, Below.refl _ _⟩
      case round =>
        obtain ⟨m, hm, rfl, hn, hB⟩ := hrel
        obtain rfl := hn.out
        by_cases hlt : m < (Jab l i).length
        · rcases hu.open with ⟨h0, _⟩ | ⟨b1, o1, c1, hs1, hp1, hc1, hb1, hx1⟩
          · rw [h0] at hlt; simp at hlt
          obtain ⟨rfl, rfl⟩ : pu = some ⟨b1, o1, none⟩ /\ cu = c1 := by simpa using hs1
          have g1 := (hB.cell (p := ⟨b1, o1 + m, none⟩) hb1.2).trans (hx1 m hlt)
          clear hx1 hs1
          have n1 : (m : Int) < ((Jab l i).length : Int) := by omega
          have hkm := Jfz l i m hlt
          have hxf : (l.length : Int) <= (Jab l i)[m] + f := by have := HI.out; omega
          have hvW : Jbz wr v l := hv.below (hB2.trans (hB.mono hB2.size))
          have HT := Lib.hid (Qhr f l (Jab l i) m hlt)
          clear hkm
          gi_wp2_with (gi_at_call 98; refine (callsIn_wide.2 (ih (Jab l i)[m] _ (by omega) (.inl hxf) hvW)).mono ?_; rintro e w3 ⟨rfl, hb3⟩)
          · go_roundw
            case rel => exact ⟨m + 1, by omega, by go_num, Lib.hid (congrArg (Value.int .i64) (by rw [HT.out]; omega)), hB.trans (hb3.mono hB.size)⟩
            case measure => simp [intOf]; omega
        · have hbd := Jon f l (Jab l i)
          obtain rfl : m = (Jab l i).length := by omega
          rw [List.take_length]
          gi_wp2
          go_ret
          exact ⟨by rw [HY.out]; rfl, hB2.trans (hB.mono hB2.size)⟩
end Go.Proofs.YtinnbafplhcnpaaGreat
end
section
namespace Go.Proofs.YtinnbafplhcnpaaGreat
open Go.RowKit
set_option linter.unusedVariables false
theorem Ju4 {a b : List Nd} {k : Nat} (h : a.take k = b.take k) (hk : k < a.length) (hb : k < b.length) (he : a[k] = b[k]) : a.take (k + 1) = b.take (k + 1) := by
  rw [List.take_succ_eq_append_getElem hk, List.take_succ_eq_append_getElem hb, h, he]
theorem Jyp {a b : List Nd} (h : a.take a.length = b.take a.length) (hl : a.length = b.length) : a = b := by
  rwa [List.take_length, hl, List.take_length] at h
theorem Jga {a b : Bool} (h : a = b) : Ending.returned (.bool a) = .returned (.bool b) := by rw [h]
set_option maxHeartbeats 2000000 in
theorem Qb6         (a b : List Nd) (u v : Value) (w : World) (hu : Jbz     w u a) (hv : Jbz     w v b) (ha : a.length ≤ 4000000) (hb : b.length ≤ 4000000) :
    Calls Tryz.prog 39 #[u, v] w fun e w' => e = .returned (.bool (decide (a = b))) /\ Below w.heap.size w w' := by
  obtain ⟨pu, cu, hus⟩ := hu.slice
  obtain ⟨pv, cv, hvs⟩ := hv.slice
  subst hus
  subst hvs
  by_cases hl : a.length = b.length
  · have hlt : ((a.length : Int) != (b.length : Int)) = false := by simp [hl]
    have HL := Lib.hid hl
    clear hl
    go_enter Tryz.func39, Tryz.ntmps39
    go_wp2
    go_loopw [5] (fun i wr => ∃ k : Nat, i = .int .i64 k /\ k <= a.length /\ Hid (a.take k = b.take k) /\ Below w.heap.size w wr) (fun i _ => a.length - (intOf i).toNat)
    case atStart => exact ⟨0, rfl, Nat.zero_le _, Lib.hid rfl, Below.refl _ _⟩
    case round =>
      obtain ⟨k, rfl, hk, ht, hB⟩ := hrel
      by_cases hlt : k < a.length
      · have hltb : k < b.length := by have := HL.out; omega
        rcases hu.open with ⟨rfl, _⟩ | ⟨b1, o1, c1, hs1, hp1, hc1, hb1, hx1⟩
        · simp at hlt
        rcases hv.open with ⟨rfl, _⟩ | ⟨b2, o2, c2, hs2, hp2, hc2, hb2, hx2⟩
        · simp at hltb
        obtain ⟨rfl, rfl⟩ : pu = some ⟨b1, o1, none⟩ /\ cu = c1 := by simpa using hs1
        obtain ⟨rfl, rfl⟩ : pv = some ⟨b2, o2, none⟩ /\ cv = c2 := by simpa using hs2
        have g1 := (hB.cell (p := ⟨b1, o1 + k * 2, none⟩) hb1).trans (hx1 k hlt).1
        have g2 := (hB.cell (p := ⟨b1, o1 + k * 2 + 1, none⟩) hb1).trans (hx1 k hlt).2
        have g3 := (hB.cell (p := ⟨b2, o2 + k * 2, none⟩) hb2).trans (hx2 k hltb).1
        have g4 := (hB.cell (p := ⟨b2, o2 + k * 2 + 1, none⟩) hb2).trans (hx2 k hltb).2
        clear hx1 hx2 hs1 hs2
        have n1 : (k : Int) < (a.length : Int) := by omega
        have n2 : (k : Int) < (b.length : Int) := by omega
        by_cases he : a[k] = b[k]
        · have e1 : (a[k].1 == b[k].1) = true := by simp [he]
          have e2 : (a[k].2 == b[k].2) = true := by simp [he]
          have HE := Lib.hid he
          clear he
          go_wp2
          go_quiet (fail)
          go_wp2
          go_roundw
          case rel => exact ⟨k + 1, by go_num, by omega, Lib.hid (Ju4 ht.out hlt hltb HE.out), below_drewN hB _⟩
          case measure => simp [intOf]; omega
        · have HN := Lib.hid he
          rcases e1 : (a[k].1 == b[k].1) with _ | _
          · have e1x := e1
            clear he
            go_wp2
            go_quiet (fail)
            go_wp2
            go_ret
            exact ⟨Jga (by rw [decide_eq_false]; intro h; subst h; exact HN.out rfl), below_drewN hB _⟩
          · rcases e2 : (a[k].2 == b[k].2) with _ | _
            · clear he
              go_wp2
              go_quiet (fail)
              go_wp2
              go_ret
              exact ⟨Jga (by rw [decide_eq_false]; intro h; subst h; exact HN.out rfl), below_drewN hB _⟩
            · exact absurd (Prod.ext (by simpa using e1) (by simpa using e2)) HN.out
      · go_wp2
        go_ret
        exact ⟨Jga (by rw [decide_eq_true]; exact (Jyp (by have := ht.out; rwa [show k = a.length from by omega] at this) HL.out)), hB⟩
  · have hlt : ((a.length : Int) != (b.length : Int)) = true := by rw [bne_iff_ne]; omega
    have HL := Lib.hid hl
    clear hl
    go_enter Tryz.func39, Tryz.ntmps39
    go_wp2
    go_ret
    exact ⟨Jga (by rw [decide_eq_false]; intro h; exact HL.out (by rw [h])), Below.refl _ _⟩
set_option maxHeartbeats 2000000 in
theorem Qky       (a b : List Nd) (u v : Value) (w : World) (hu : Jbz     w u a) (hv : Jbz     w v b) (ha : a.length ≤ 4000000) (hb : b.length ≤ 4000000) :
    Calls Tryz.prog 52 #[u, v] w fun e w' => e = .returned (.bool (decide (a = b))) /\ Below w.heap.size w w' := by
  obtain ⟨pu, cu, hus⟩ := hu.slice
  obtain ⟨pv, cv, hvs⟩ := hv.slice
  subst hus
  subst hvs
  by_cases hl : a.length = b.length
  · have hlt : ((a.length : Int) != (b.length : Int)) = false := by simp [hl]
    have HL := Lib.hid hl
    clear hl
    go_enter Tryz.func52, Tryz.ntmps52
    go_wp2
    go_loopw [13] (fun i wr => ∃ k : Nat, i = .int .i64 k /\ k <= a.length /\ Hid (a.take k = b.take k) /\ Below w.heap.size w wr) (fun i _ => a.length - (intOf i).toNat)
    case atStart => exact ⟨0, rfl, Nat.zero_le _, Lib.hid rfl, Below.refl _ _⟩
    case round =>
      obtain ⟨k, rfl, hk, ht, hB⟩ := hrel
      by_cases hlt : k < a.length
      · have hltb : k < b.length := by have := HL.out; omega
        rcases hu.open with ⟨rfl, _⟩ | ⟨b1, o1, c1, hs1, hp1, hc1, hb1, hx1⟩
        · simp at hlt
        rcases hv.open with ⟨rfl, _⟩ | ⟨b2, o2, c2, hs2, hp2, hc2, hb2, hx2⟩
        · simp at hltb
        obtain ⟨rfl, rfl⟩ : pu = some ⟨b1, o1, none⟩ /\ cu = c1 := by simpa using hs1
        obtain ⟨rfl, rfl⟩ : pv = some ⟨b2, o2, none⟩ /\ cv = c2 := by simpa using hs2
        have g1 := (hB.cell (p := ⟨b1, o1 + k * 2, none⟩) hb1).trans (hx1 k hlt).1
        have g2 := (hB.cell (p := ⟨b1, o1 + k * 2 + 1, none⟩) hb1).trans (hx1 k hlt).2
        have g3 := (hB.cell (p := ⟨b2, o2 + k * 2, none⟩) hb2).trans (hx2 k hltb).1
        have g4 := (hB.cell (p := ⟨b2, o2 + k * 2 + 1, none⟩) hb2).trans (hx2 k hltb).2
        clear hx1 hx2 hs1 hs2
        have n1 : (k : Int) < (a.length : Int) := by omega
        have n2 : (k : Int) < (b.length : Int) := by omega
        by_cases he : a[k] = b[k]
        · have e1 : (a[k].1 == b[k].1) = true := by simp [he]
          have e2 : (a[k].2 == b[k].2) = true := by simp [he]
          have HE := Lib.hid he
          clear he
          go_wp2
          go_quiet (fail)
          go_wp2
          go_roundw
          case rel => exact ⟨k + 1, by go_num, by omega, Lib.hid (Ju4 ht.out hlt hltb HE.out), below_drewN hB _⟩
          case measure => simp [intOf]; omega
        · have HN := Lib.hid he
          rcases e1 : (a[k].1 == b[k].1) with _ | _
          · have e1x := e1
            clear he
            go_wp2
            go_quiet (fail)
            go_wp2
            go_ret
            exact ⟨Jga (by rw [decide_eq_false]; intro h; subst h; exact HN.out rfl), below_drewN hB _⟩
          · rcases e2 : (a[k].2 == b[k].2) with _ | _
            · clear he
              go_wp2
              go_quiet (fail)
              go_wp2
              go_ret
              exact ⟨Jga (by rw [decide_eq_false]; intro h; subst h; exact HN.out rfl), below_drewN hB _⟩
            · exact absurd (Prod.ext (by simpa using e1) (by simpa using e2)) HN.out
      · go_wp2
        go_ret
        exact ⟨Jga (by rw [decide_eq_true]; exact (Jyp (by have := ht.out; rwa [show k = a.length from by omega] at this) HL.out)), hB⟩
  · have hlt : ((a.length : Int) != (b.length : Int)) = true := by rw [bne_iff_ne]; omega
    have HL := Lib.hid hl
    clear hl
    go_enter Tryz.func52, Tryz.ntmps52
    go_wp2
    go_ret
    exact ⟨Jga (by rw [decide_eq_false]; intro h; exact HL.out (by rw [h])), Below.refl _ _⟩
end Go.Proofs.YtinnbafplhcnpaaGreat
end
section
namespace Go.Proofs.YtinnbafplhcnpaaGreat
set_option maxRecDepth 100000
open Go.RowKit
set_option linter.unusedVariables false
def Jf0 (l : List Nd) : Bool := l.any fun x => decide (ar x < 0)
theorem Ji2 {l : List Nd} {k : Nat} (h : Jf0 (l.take k) = false) (hk : k < l.length) (ha : ¬ ar l[k] < 0) : Jf0 (l.take (k + 1)) = false := by
  simp only [Jf0] at h ⊢
  rw [List.take_succ_eq_append_getElem hk, List.any_append, h]
  simpa using ha
theorem Jml {l : List Nd} {k : Nat} (hk : k < l.length) (ha : ar l[k] < 0) : Jf0 l = true := by
  simp only [Jf0, List.any_eq_true]
  exact ⟨l[k], List.getElem_mem hk, by simpa using ha⟩
theorem Qjy     (x : Nd) (w : World) :
    Calls Tryz.prog 78 #[.agg #[.int .i64 x.1, .int .i64 x.2]] w fun e w' => e = .returned (.bool (decide (ar x < 0))) /\ Below w.heap.size w w' := by
  have hb0 := Jjl x
  go_enter Tryz.func78, Tryz.ntmps78
  go_wp2_with (go_at_call 79; refine (Jm1 x _).mono ?_; rintro e w1 ⟨rfl, hb⟩)
  go_ret
  exact ⟨rfl, ((Below.refl _ _).alloc (Nat.le_refl _) _).trans (hb.mono (by simp))⟩
set_option maxHeartbeats 2000000 in
theorem Qkf       (l : List Nd) (v : Value) (w : World) (hv : Jbz     w v l) (hl : l.length ≤ 4000000) :
    Calls Tryz.prog 113 #[v, .func (.func 78) #[] #[]] w fun e w' => (∃ r : Int, e = .returned (.int .i64 r) /\ (0 <= r ↔ Jf0 l = true)) /\ Below w.heap.size w w' := by
  obtain ⟨pv, cv, hvs⟩ := hv.slice
  subst hvs
  go_enter Tryz.func113, Tryz.ntmps113
  go_wp2
  go_loopw [8] (fun i wr => ∃ k : Nat, i = .int .i64 k /\ k <= l.length /\ Hid (Jf0 (l.take k) = false) /\ Below w.heap.size w wr) (fun i _ => l.length - (intOf i).toNat)
  case atStart => exact ⟨0, rfl, Nat.zero_le _, Lib.hid rfl, Below.refl _ _⟩
  case round =>
    obtain ⟨k, rfl, hk, ht, hB⟩ := hrel
    by_cases hlt : k < l.length
    · rcases hv.open with ⟨rfl, _⟩ | ⟨b1, o1, c1, hs1, hp1, hc1, hb1, hx1⟩
      · simp at hlt
      obtain ⟨rfl, rfl⟩ : pv = some ⟨b1, o1, none⟩ /\ cv = c1 := by simpa using hs1
      have g1 := (hB.cell (p := ⟨b1, o1 + k * 2, none⟩) hb1).trans (hx1 k hlt).1
      have g2 := (hB.cell (p := ⟨b1, o1 + k * 2 + 1, none⟩) hb1).trans (hx1 k hlt).2
      clear hx1 hs1
      have n1 : (k : Int) < (l.length : Int) := by omega
      by_cases he : ar l[k] < 0
      · have HE := Lib.hid he
        have HD : decide (ar l[k] < 0) = true := by simp [he]
        clear he
        go_wp2_with (go_at_call 78; refine (Qjy l[k] _).mono ?_; rintro e w1 ⟨rfl, hb⟩)
        go_ret
        exact ⟨⟨k, rfl, ⟨fun _ => Jml hlt HE.out, fun _ => by omega⟩⟩, hB.trans (hb.mono hB.size)⟩
      · have HE := Lib.hid he
        have HD : decide (ar l[k] < 0) = false := by simp [he]
        clear he
        go_wp2_with (go_at_call 78; refine (Qjy l[k] _).mono ?_; rintro e w1 ⟨rfl, hb⟩)
        go_roundw
        case rel => exact ⟨k + 1, by go_num, by omega, Lib.hid (Ji2 ht.out hlt (Int.not_lt.2 HE.out)), hB.trans (hb.mono hB.size)⟩
        case measure => simp [intOf]; omega
    · go_wp2
      go_ret
      exact ⟨⟨-1, rfl, by constructor; (intro h; omega); (intro h; have := ht.out; rw [List.take_of_length_le (by omega), h] at this; cases this)⟩, hB⟩
theorem Jji          (l : List Nd) (v : Value) (w : World) (hv : Jbz     w v l) (hl : l.length ≤ 4000000) :
    Calls Tryz.prog 77 #[v, .func (.func 78) #[] #[]] w fun e w' => e = .returned (.bool (Jf0 l)) /\ Below w.heap.size w w' := by
  go_enter Tryz.func77, Tryz.ntmps77
  go_wp2_with (fail)
  refine (Qkf l v w hv hl).mono ?_
  rintro e w1 ⟨⟨r, rfl, hr⟩, hB⟩
  have HR := Lib.hid hr
  clear hr
  go_wp2_with (fail)
  go_ret
  exact ⟨Jga (by have := HR.out; rw [Bool.eq_iff_iff, decide_eq_true_iff]; exact this), hB⟩
end Go.Proofs.YtinnbafplhcnpaaGreat
end
section
namespace Go.Proofs.YtinnbafplhcnpaaGreat
set_option maxRecDepth 100000
open Go.RowKit
set_option linter.unusedVariables false
def Jch (l : List Nd) : Int :=
  if l.length = 0 then 10 else if 200 < l.length then 4 else if Jf0 l = true then 11 else if endv l 0 ≠ l.length then 12 else if 30 < depV l.length l 0 then 13 else 0
set_option maxHeartbeats 2000000 in
theorem Qmc       (l : List Nd) (v : Value) (w : World) (hv : Jbz     w v l) (hl : l.length ≤ 4000000) :
    Calls Tryz.prog 40 #[v] w fun e w' => e = .returned (.int .i64 (Jch l)) /\ Below w.heap.size w w' := by
  obtain ⟨p, cap, hsl⟩ := hv.slice
  subst hsl
  by_cases h1 : l.length = 0
  · have t1 : ((l.length : Int) == 0) = true := by simp [h1]
    have HV : Hid (Jch l = 10) := Lib.hid (by rw [Jch, if_pos h1])
    clear h1
    go_enter Tryz.func40, Tryz.ntmps40
    go_wp2_with (fail)
    go_ret
    exact ⟨by rw [HV.out]; rfl, Below.refl _ _⟩
  have t1 : ((l.length : Int) == 0) = false := by simp [h1]
  by_cases h2 : 200 < l.length
  · have HV : Hid (Jch l = 4) := Lib.hid (by rw [Jch, if_neg h1, if_pos h2])
    clear h1
    have t2 : (200 : Int) < (l.length : Int) := by omega
    clear h2
    go_enter Tryz.func40, Tryz.ntmps40
    go_wp2_with (fail)
    go_ret
    exact ⟨by rw [HV.out]; rfl, Below.refl _ _⟩
  have t2 : ¬ (200 : Int) < (l.length : Int) := by omega
  rcases h3 : Jf0 l with _ | _
  case true =>
    have HV : Hid (Jch l = 11) := Lib.hid (by rw [Jch, if_neg h1, if_neg h2, if_pos h3])
    clear h1 h2
    go_enter Tryz.func40, Tryz.ntmps40
    go_wp2_with (fail)
    refine (Jji l _ w hv hl).mono ?_
    rintro e w1 ⟨rfl, hb⟩
    go_wp2_with (fail)
    go_ret
    exact ⟨by rw [HV.out]; rfl, hb⟩
  have h3' : ¬ Jf0 l = true := by rw [h3]; simp
  have hE := Jgl l 0
  by_cases h4 : endv l 0 = l.length
  · have t4 : (endv l 0 != (l.length : Int)) = false := by simp [h4]
    have hD := Jnc l.length l 0
    by_cases h5 : 30 < depV l.length l 0
    · have HV : Hid (Jch l = 13) := Lib.hid (by rw [Jch, if_neg h1, if_neg h2, if_neg h3', if_neg (by simpa using h4), if_pos h5])
      have H4 := Lib.hid h4
      clear h1 h2 h4 h3'
      go_enter Tryz.func40, Tryz.ntmps40
      go_wp2_with (fail)
      refine (Jji l _ w hv hl).mono ?_
      rintro e w1 ⟨rfl, hb⟩
      have hv1 := hv.below hb
      go_wp2_with (fail)
      refine (Jej l _ _ w1 hv1 hl).mono ?_
      rintro e w2 ⟨rfl, hb2⟩
      have hv2 := hv1.below hb2
      have hB2 := hb.trans (hb2.mono hb.size)
      go_wp2_with (fail)
      refine (Qbi l hl l.length 0 _ w2 (by omega) (.inl (by omega)) hv2).mono ?_
      rintro e w3 ⟨rfl, hb3⟩
      go_wp2_with (fail)
      go_ret
      exact ⟨by rw [HV.out]; rfl, hB2.trans (hb3.mono hB2.size)⟩
    · have HV : Hid (Jch l = 0) := Lib.hid (by rw [Jch, if_neg h1, if_neg h2, if_neg h3', if_neg (by simpa using h4), if_neg h5])
      have H4 := Lib.hid h4
      clear h1 h2 h4 h3'
      go_enter Tryz.func40, Tryz.ntmps40
      go_wp2_with (fail)
      refine (Jji l _ w hv hl).mono ?_
      rintro e w1 ⟨rfl, hb⟩
      have hv1 := hv.below hb
      go_wp2_with (fail)
      refine (Jej l _ _ w1 hv1 hl).mono ?_
      rintro e w2 ⟨rfl, hb2⟩
      have hv2 := hv1.below hb2
      have hB2 := hb.trans (hb2.mono hb.size)
      go_wp2_with (fail)
      refine (Qbi l hl l.length 0 _ w2 (by omega) (.inl (by omega)) hv2).mono ?_
      rintro e w3 ⟨rfl, hb3⟩
      go_wp2_with (fail)
      go_ret
      exact ⟨by rw [HV.out]; rfl, hB2.trans (hb3.mono hB2.size)⟩
  · have t4 : (endv l 0 != (l.length : Int)) = true := by simp [h4]
    have HV : Hid (Jch l = 12) := Lib.hid (by rw [Jch, if_neg h1, if_neg h2, if_neg h3', if_pos h4])
    clear h1 h2 h4 h3'
    go_enter Tryz.func40, Tryz.ntmps40
    go_wp2_with (fail)
    refine (Jji l _ w hv hl).mono ?_
    rintro e w1 ⟨rfl, hb⟩
    have hv1 := hv.below hb
    go_wp2_with (fail)
    refine (Jej l _ _ w1 hv1 hl).mono ?_
    rintro e w2 ⟨rfl, hb2⟩
    have hv2 := hv1.below hb2
    have hB2 := hb.trans (hb2.mono hb.size)
    go_wp2_with (fail)
    go_ret
    exact ⟨by rw [HV.out]; rfl, hB2⟩
set_option maxHeartbeats 2000000 in
theorem Jy8          (l : List Nd) (v : Value) (w : World) (hv : Jbz     w v l) (hl : l.length ≤ 4000000) :
    Calls Tryz.prog 57 #[v] w fun e w' => e = .returned (.int .i64 (Jch l)) /\ Below w.heap.size w w' := by
  obtain ⟨p, cap, hsl⟩ := hv.slice
  subst hsl
  by_cases h1 : l.length = 0
  · have t1 : ((l.length : Int) == 0) = true := by simp [h1]
    have HV : Hid (Jch l = 10) := Lib.hid (by rw [Jch, if_pos h1])
    clear h1
    go_enter Tryz.func57, Tryz.ntmps57
    go_wp2_with (fail)
    go_ret
    exact ⟨by rw [HV.out]; rfl, Below.refl _ _⟩
  have t1 : ((l.length : Int) == 0) = false := by simp [h1]
  by_cases h2 : 200 < l.length
  · have HV : Hid (Jch l = 4) := Lib.hid (by rw [Jch, if_neg h1, if_pos h2])
    clear h1
    have t2 : (200 : Int) < (l.length : Int) := by omega
    clear h2
    go_enter Tryz.func57, Tryz.ntmps57
    go_wp2_with (fail)
    go_ret
    exact ⟨by rw [HV.out]; rfl, Below.refl _ _⟩
  have t2 : ¬ (200 : Int) < (l.length : Int) := by omega
  rcases h3 : Jf0 l with _ | _
  case true =>
    have HV : Hid (Jch l = 11) := Lib.hid (by rw [Jch, if_neg h1, if_neg h2, if_pos h3])
    have H3 := Lib.hid h3
    clear h1 h2 h3
    go_enter Tryz.func57, Tryz.ntmps57
    go_wp2_with (fail)
    go_loopw [3] (fun i wr => ∃ k : Nat, i = .int .i64 k /\ k <= l.length /\ Hid (Jf0 (l.take k) = false) /\ Below w.heap.size w wr) (fun i _ => l.length - (intOf i).toNat)
    case atStart => exact ⟨0, rfl, Nat.zero_le _, Lib.hid rfl, Below.refl _ _⟩
    case round =>
      obtain ⟨k, rfl, hk, ht, hB⟩ := hrel
      by_cases hlt : k < l.length
      · rcases hv.open with ⟨rfl, _⟩ | ⟨b1, o1, c1, hs1, hp1, hc1, hb1, hx1⟩
        · simp at hlt
        obtain ⟨rfl, rfl⟩ : p = some ⟨b1, o1, none⟩ /\ cap = c1 := by simpa using hs1
        have g1 := (hB.cell (p := ⟨b1, o1 + k * 2, none⟩) hb1).trans (hx1 k hlt).1
        have g2 := (hB.cell (p := ⟨b1, o1 + k * 2 + 1, none⟩) hb1).trans (hx1 k hlt).2
        clear hx1 hs1
        have n1 : (k : Int) < (l.length : Int) := by omega
        by_cases he : ar l[k] < 0
        · have HX := Lib.hid (Jml hlt he)
          go_wp2_with (go_at_call 97; refine (Jeb l[k] _).mono ?_; rintro e w1 ⟨rfl, hb⟩)
          go_ret
          exact ⟨by rw [HV.out]; rfl, hB.trans (hb.mono hB.size)⟩
        · have HE := Lib.hid he
          have HD : ¬ ar l[k] < 0 := he
          clear he
          go_wp2_with (go_at_call 97; refine (Jeb l[k] _).mono ?_; rintro e w1 ⟨rfl, hb⟩)
          go_roundw
          case rel => exact ⟨k + 1, by go_num, by omega, Lib.hid (Ji2 ht.out hlt (Int.not_lt.2 HE.out)), hB.trans (hb.mono hB.size)⟩
          case measure => simp [intOf]; omega
      · exact absurd ((show Jf0 (l.take k) = true from by rw [List.take_of_length_le (by omega)]; exact H3.out).symm.trans ht.out) (by decide)
  have h3' : ¬ Jf0 l = true := by rw [h3]; simp
  have H3 := Lib.hid h3
  clear h3
  have hE := Jgl l 0
  by_cases h4 : endv l 0 = l.length
  · have t4 : (endv l 0 != (l.length : Int)) = false := by simp [h4]
    have hD := Jnc l.length l 0
    by_cases h5 : 30 < depV l.length l 0
    · have HV : Hid (Jch l = 13) := Lib.hid (by rw [Jch, if_neg h1, if_neg h2, if_neg h3', if_neg (by simpa using h4), if_pos h5])
      clear h1 h2 h4 h3'
      go_enter Tryz.func57, Tryz.ntmps57
      go_wp2_with (fail)
      go_loopw [3] (fun i wr => ∃ k : Nat, i = .int .i64 k /\ k <= l.length /\ Hid (Jf0 (l.take k) = false) /\ Below w.heap.size w wr) (fun i _ => l.length - (intOf i).toNat)
      case atStart => exact ⟨0, rfl, Nat.zero_le _, Lib.hid rfl, Below.refl _ _⟩
      case round =>
        obtain ⟨k, rfl, hk, ht, hB⟩ := hrel
        by_cases hlt : k < l.length
        · rcases hv.open with ⟨rfl, _⟩ | ⟨b1, o1, c1, hs1, hp1, hc1, hb1, hx1⟩
          · simp at hlt
          obtain ⟨rfl, rfl⟩ : p = some ⟨b1, o1, none⟩ /\ cap = c1 := by simpa using hs1
          have g1 := (hB.cell (p := ⟨b1, o1 + k * 2, none⟩) hb1).trans (hx1 k hlt).1
          have g2 := (hB.cell (p := ⟨b1, o1 + k * 2 + 1, none⟩) hb1).trans (hx1 k hlt).2
          clear hx1 hs1
          have n1 : (k : Int) < (l.length : Int) := by omega
          by_cases he : ar l[k] < 0
          · exact absurd ((Jml hlt he).symm.trans H3.out) (by decide)
          · have HE := Lib.hid he
            have HD : ¬ ar l[k] < 0 := he
            clear he
            go_wp2_with (go_at_call 97; refine (Jeb l[k] _).mono ?_; rintro e w1 ⟨rfl, hb⟩)
            go_roundw
            case rel => exact ⟨k + 1, by go_num, by omega, Lib.hid (Ji2 ht.out hlt (Int.not_lt.2 HE.out)), hB.trans (hb.mono hB.size)⟩
            case measure => simp [intOf]; omega
        · have hv1 := hv.below hB
          go_wp2_with (fail)
          refine (Jcn l _ _ wr hv1 hl).mono ?_
          rintro e w2 ⟨rfl, hb2⟩
          have hv2 := hv1.below hb2
          have hB2 := hB.trans (hb2.mono hB.size)
          go_wp2_with (fail)
          refine (Jra l hl _ l.length 0 w2 (by omega) (.inl (by omega)) hv2).mono ?_
          rintro e w3 ⟨rfl, hb3⟩
          go_wp2_with (fail)
          go_ret
          exact ⟨by rw [HV.out]; rfl, hB2.trans (hb3.mono hB2.size)⟩
    · have HV : Hid (Jch l = 0) := Lib.hid (by rw [Jch, if_neg h1, if_neg h2, if_neg h3', if_neg (by simpa using h4), if_neg h5])
      clear h1 h2 h4 h3'
      go_enter Tryz.func57, Tryz.ntmps57
      go_wp2_with (fail)
      go_loopw [3] (fun i wr => ∃ k : Nat, i = .int .i64 k /\ k <= l.length /\ Hid (Jf0 (l.take k) = false) /\ Below w.heap.size w wr) (fun i _ => l.length - (intOf i).toNat)
      case atStart => exact ⟨0, rfl, Nat.zero_le _, Lib.hid rfl, Below.refl _ _⟩
      case round =>
        obtain ⟨k, rfl, hk, ht, hB⟩ := hrel
        by_cases hlt : k < l.length
        · rcases hv.open with ⟨rfl, _⟩ | ⟨b1, o1, c1, hs1, hp1, hc1, hb1, hx1⟩
          · simp at hlt
          obtain ⟨rfl, rfl⟩ : p = some ⟨b1, o1, none⟩ /\ cap = c1 := by simpa using hs1
          have g1 := (hB.cell (p := ⟨b1, o1 + k * 2, none⟩) hb1).trans (hx1 k hlt).1
          have g2 := (hB.cell (p := ⟨b1, o1 + k * 2 + 1, none⟩) hb1).trans (hx1 k hlt).2
          clear hx1 hs1
          have n1 : (k : Int) < (l.length : Int) := by omega
          by_cases he : ar l[k] < 0
          · exact absurd ((Jml hlt he).symm.trans H3.out) (by decide)
          · have HE := Lib.hid he
            have HD : ¬ ar l[k] < 0 := he
            clear he
            go_wp2_with (go_at_call 97; refine (Jeb l[k] _).mono ?_; rintro e w1 ⟨rfl, hb⟩)
            go_roundw
            case rel => exact ⟨k + 1, by go_num, by omega, Lib.hid (Ji2 ht.out hlt (Int.not_lt.2 HE.out)), hB.trans (hb.mono hB.size)⟩
            case measure => simp [intOf]; omega
        · have hv1 := hv.below hB
          go_wp2_with (fail)
          refine (Jcn l _ _ wr hv1 hl).mono ?_
          rintro e w2 ⟨rfl, hb2⟩
          have hv2 := hv1.below hb2
          have hB2 := hB.trans (hb2.mono hB.size)
          go_wp2_with (fail)
          refine (Jra l hl _ l.length 0 w2 (by omega) (.inl (by omega)) hv2).mono ?_
          rintro e w3 ⟨rfl, hb3⟩
          go_wp2_with (fail)
          go_ret
          exact ⟨by rw [HV.out]; rfl, hB2.trans (hb3.mono hB2.size)⟩
  · have t4 : (endv l 0 != (l.length : Int)) = true := by simp [h4]
    have HV : Hid (Jch l = 12) := Lib.hid (by rw [Jch, if_neg h1, if_neg h2, if_neg h3', if_pos h4])
    clear h1 h2 h4 h3'
    go_enter Tryz.func57, Tryz.ntmps57
    go_wp2_with (fail)
    go_loopw [3] (fun i wr => ∃ k : Nat, i = .int .i64 k /\ k <= l.length /\ Hid (Jf0 (l.take k) = false) /\ Below w.heap.size w wr) (fun i _ => l.length - (intOf i).toNat)
    case atStart => exact ⟨0, rfl, Nat.zero_le _, Lib.hid rfl, Below.refl _ _⟩
    case round =>
      obtain ⟨k, rfl, hk, ht, hB⟩ := hrel
      by_cases hlt : k < l.length
      · rcases hv.open with ⟨rfl, _⟩ | ⟨b1, o1, c1, hs1, hp1, hc1, hb1, hx1⟩
        · simp at hlt
        obtain ⟨rfl, rfl⟩ : p = some ⟨b1, o1, none⟩ /\ cap = c1 := by simpa using hs1
        have g1 := (hB.cell (p := ⟨b1, o1 + k * 2, none⟩) hb1).trans (hx1 k hlt).1
        have g2 := (hB.cell (p := ⟨b1, o1 + k * 2 + 1, none⟩) hb1).trans (hx1 k hlt).2
        clear hx1 hs1
        have n1 : (k : Int) < (l.length : Int) := by omega
        by_cases he : ar l[k] < 0
        · exact absurd ((Jml hlt he).symm.trans H3.out) (by decide)
        · have HE := Lib.hid he
          have HD : ¬ ar l[k] < 0 := he
          clear he
          go_wp2_with (go_at_call 97; refine (Jeb l[k] _).mono ?_; rintro e w1 ⟨rfl, hb⟩)
          go_roundw
          case rel => exact ⟨k + 1, by go_num, by omega, Lib.hid (Ji2 ht.out hlt (Int.not_lt.2 HE.out)), hB.trans (hb.mono hB.size)⟩
          case measure => simp [intOf]; omega
      · have hv1 := hv.below hB
        go_wp2_with (fail)
        refine (Jcn l _ _ wr hv1 hl).mono ?_
        rintro e w2 ⟨rfl, hb2⟩
        have hv2 := hv1.below hb2
        have hB2 := hB.trans (hb2.mono hB.size)
        go_wp2_with (fail)
        go_ret
        exact ⟨by rw [HV.out]; rfl, hB2⟩
end Go.Proofs.YtinnbafplhcnpaaGreat
end
section
namespace Go.Proofs.YtinnbafplhcnpaaGreat
set_option maxRecDepth 100000
open Go.RowKit
set_option linter.unusedVariables false
theorem Jpg : (Tryz.prog.info? 54).map (fun i => (i.zero, i.size, i.bytes)) = some (some (.agg #[.int .i64 0, .int .i64 0]), 2, 16) := by kernel_rfl
theorem Qpo      (n : Nat) (hn : n ≤ 20000000) (w : World) :
    Calls Tryz.prog 130 #[.slice none 0 0, .int .i64 n] w fun e w' => ∃ u, e = .returned u /\ w'.ownsRow w.heap.size 54 2 u 0 [] /\ Below w.heap.size w w' := by
  obtain ⟨i0, hi, hz0, hz1, hz2⟩ := info_parts Jpg
  by_cases h0 : n = 0
  · subst h0
    go_enter Tryz.func130, Tryz.ntmps130
    go_wp2
    go_ret
    exact ⟨_, rfl, World.ownsRow_nil _ _ _ _, Below.refl _ _⟩
  · have hrz : ∀ ty, (Builtin.append_ #[23, 3] ty #[.slice none 0 0, .int .i64 (n : Int)]).run Tryz.prog w =
        .ok (.slice (some ⟨w.heap.size, 0, none⟩) n (grownCap w n 0 54)) (w.drew.alloc (.cells (Builtin.zeroCells (Value.agg #[.int .i64 0, .int .i64 0]).cells n ++ Builtin.zeroCells (Value.agg #[.int .i64 0, .int .i64 0]).cells (grownCap w n 0 54 - n)) 54)) := fun ty =>
      Lib.run_append_nil_zeros w 23 3 ty 54 i0 _ .i64 .i64 rfl rfl hi hz0 n (by omega) (by rw [hz1]; decide) (by omega) (by rw [hz2]; omega)
    have hG := grownCap_ge w n 0 54
    have hG2 := grownCap_le_maxLen w n 0 54 (by unfold maxLen; omega)
    obtain ⟨G, hGe⟩ : ∃ G, G = grownCap w n 0 54 := ⟨_, rfl⟩
    rw [<- hGe] at hrz hG hG2
    have hs : (Builtin.zeroCells (Value.agg #[.int .i64 0, .int .i64 0]).cells n ++ Builtin.zeroCells (Value.agg #[.int .i64 0, .int .i64 0]).cells (G - n)).size = G * 2 := by
      simp [Builtin.zeroCells, Value.cells]; omega
    obtain ⟨cs, hcs⟩ : ∃ cs, cs = Builtin.zeroCells (Value.agg #[.int .i64 0, .int .i64 0]).cells n ++ Builtin.zeroCells (Value.agg #[.int .i64 0, .int .i64 0]).cells (G - n) := ⟨_, rfl⟩
    rw [<- hcs] at hrz hs
    have hG3 : G <= 9223372036854775807 := by unfold maxLen at hG2; omega
    have hpos : (0 : Int) < (n : Int) := by omega
    clear hcs hGe
    go_enter Tryz.func130, Tryz.ntmps130
    go_wp2_with (at_builtin; refine Lib.wpList_append_run _ rfl _ _ _ _ rfl _ _ rfl rfl _ _ (hrz _) ?_)
    go_ret
    exact ⟨_, rfl, World.ownsRow_made (w := w.drew) cs G (Nat.le_refl _) hG2 hs, ((Below.refl _ w).drew).alloc (Nat.le_refl _) _⟩
def catV (ps : List (Value × List Nd)) : List Nd := ps.flatMap Prod.snd
theorem Qaw (ps : List (Value × List Nd)) (k : Nat) (h : k < ps.length) : catV (ps.take (k + 1)) = catV (ps.take k) ++ ps[k].2 := by
  rw [catV, List.take_succ_eq_append_getElem h, List.flatMap_append]; simp [catV]
theorem Qlb (ps : List (Value × List Nd)) (k : Nat) : (catV (ps.take k)).length <= (catV ps).length := by
  conv => rhs; rw [<- List.take_append_drop k ps, catV, List.flatMap_append, List.length_append]
  exact Nat.le_add_right _ _
theorem Jfp (a b : List Nd) : Jbb (a ++ b) = Jbb a ++ Jbb b := by simp [Jbb]
set_option maxHeartbeats 4000000 in
theorem Qid        (ps : List (Value × List Nd)) (v : Value) (w : World) (hv : SliceIn (fun k => k < w.heap.size) w v ps.length (ps.map Prod.fst)) (hp : ∀ x ∈ ps, Jbz     w x.1 x.2) (hl : (catV ps).length ≤ 12000000) (hn : ps.length ≤ 1000) :
    Calls Tryz.prog 115 #[v] w fun e w' => ∃ u, e = .returned u /\ w'.ownsRow w.heap.size 54 2 u (catV ps).length (Jbb (catV ps)) /\ Below w.heap.size w w' := by
  obtain ⟨i0, hi, hz0, hz1, hz2⟩ := info_parts Jpg
  obtain ⟨pv, cv, hsl⟩ : ∃ (p : Option Addr) (c : Nat), v = .slice p ps.length c := by
    rcases hv with ⟨p, c, h, h0, _⟩ | ⟨b, o, c, h, _⟩
    · exact ⟨p, c, by rw [h, h0]⟩
    · exact ⟨_, _, h⟩
  subst hsl
  have hcell : ∀ k (hk : k < ps.length), ∃ (b o p' : Nat), pv = some ⟨b, o, none⟩ /\ b < w.heap.size /\ w.cell? ⟨b, o + k, none⟩ = some ps[k].1 := by
    intro k hk
    rcases hv with ⟨p, c, h, h0, _⟩ | ⟨b, o, c, h, h1, h2, h3, h4⟩
    · omega
    · refine ⟨b, o, 0, by simp at h; exact h.1, h3, ?_⟩
      simpa [hk] using h4 k (by simpa using hk)
  go_enter Tryz.func115, Tryz.ntmps115
  go_wp2
  go_loopw [3, 11] (fun t i wr => ∃ k : Nat, i = .int .i64 k /\ k <= ps.length /\ Hid (t = .int .i64 (catV (ps.take k)).length) /\ wr = w) (fun _ i _ => ps.length - (intOf i).toNat)
  case atStart => exact ⟨0, rfl, Nat.zero_le _, Lib.hid rfl, rfl⟩
  case round =>
    obtain ⟨k, rfl, hk, ht, hwe⟩ := hrel
    obtain rfl := ht.out
    replace hwe := hwe.symm
    subst hwe
    by_cases hlt : k < ps.length
    · obtain ⟨b, o, _, rfl, hb, hc⟩ := hcell k hlt
      obtain ⟨pk, ck, hks⟩ := (hp ps[k] (List.getElem_mem hlt)).slice
      rw [hks] at hc
      have hT := Qaw ps k hlt
      have hL1 := Qlb ps (k + 1)
      have hT2 : (catV (ps.take (k + 1))).length = (catV (ps.take k)).length + ps[k].2.length := by rw [hT, List.length_append]
      have HT := Lib.hid hT2
      rw [hT2] at hL1
      have n1 : (k : Int) < (ps.length : Int) := by omega
      clear hT hT2 hcell
      go_wp2
      go_roundw
      case rel => exact ⟨k + 1, by go_num, by omega, Lib.hid (congrArg (Value.int .i64) (by rw [HT.out]; omega)), trivial⟩
      case measure => simp [intOf]; omega
    · obtain rfl : k = ps.length := by omega
      rw [List.take_length]
      go_wp2_with (fail)
      refine (Qpo (catV ps).length (by omega) _).mono ?_
      rintro e w1 ⟨u, rfl, hr, hb⟩
      go_wp2_with (fail)
      go_loopw [6, 27] (fun u i wr => ∃ k : Nat, i = .int .i64 k /\ k <= ps.length /\ wr.ownsRow w.heap.size 54 2 u (catV (ps.take k)).length (Jbb (catV (ps.take k))) /\ Below w.heap.size w wr) (fun _ i _ => ps.length - (intOf i).toNat)
      case atStart => exact ⟨0, rfl, Nat.zero_le _, hr, hb⟩
      case round =>
        obtain ⟨k, rfl, hk, hrow, hB⟩ := hrel
        by_cases hlt : k < ps.length
        · obtain ⟨b, o, _, rfl, hbl, hc⟩ := hcell k hlt
          have hpk := (hp ps[k] (List.getElem_mem hlt)).below hB
          obtain ⟨pk, ck, hks⟩ := hpk.slice
          have hc := (hB.cell (p := ⟨b, o + k, none⟩) hbl).trans hc
          rw [hks] at hc hpk
          have hT := Lib.hid (Qaw ps k hlt)
          have hL1 := Qlb ps (k + 1)
          have hT2 : (catV (ps.take (k + 1))).length = (catV (ps.take k)).length + ps[k].2.length := by rw [hT.out, List.length_append]
          have HT := Lib.hid hT2
          rw [hT2] at hL1
          have n1 : (k : Int) < (ps.length : Int) := by omega
          clear hT2 hcell
          go_wp2_with (at_builtin; refine Jek rfl _ _ 23 rfl w.heap.size 54 i0 (.agg #[.int .i64 0, .int .i64 0]) 2 16 Tryz.underlying23 hi hz0 hz1 hz2 rfl (by decide) _ _ _ rfl hrow _ ps[k].2.length _ rfl hpk (by rw [Jce]; omega) (Js5 _) (by unfold maxLen; omega) (by omega) hB.size ?_; intro v' w3 hown' hgrow)
          go_roundw
          case rel => exact ⟨k + 1, by go_num, by omega, by rw [HT.out, hT.out, Jfp]; exact hown', hB.grown hgrow hB.size (fun j hj => (hrow.lt j hj).1)⟩
          case measure => simp [intOf]; omega
        · obtain rfl : k = ps.length := by omega
          rw [List.take_length] at hrow
          go_wp2_with (fail)
          go_ret
          exact ⟨_, rfl, hrow, hB⟩
end Go.Proofs.YtinnbafplhcnpaaGreat
end
section
namespace Go.Proofs.YtinnbafplhcnpaaGreat
set_option maxRecDepth 100000
open Go.RowKit
set_option linter.unusedVariables false
def Jcq (l : List Nd) (i : Int) : List Nd := if endv l i < 0 then [] else (l.take (endv l i).toNat).drop i.toNat
def Jbx (l : List Nd) (i : Int) (r : List Nd) : List Nd := if endv l i < 0 then l else l.take i.toNat ++ r ++ l.drop (endv l i).toNat
theorem Jql        (ps : List (Value × List Nd)) (v : Value) (w : World) (hv : SliceIn (fun k => k < w.heap.size) w v ps.length (ps.map Prod.fst)) (hp : ∀ x ∈ ps, Jbz     w x.1 x.2) (hl : (catV ps).length ≤ 12000000) (hn : ps.length ≤ 1000) :
    Calls Tryz.prog 82 #[v] w fun e w' => ∃ u, e = .returned u /\ w'.ownsRow w.heap.size 54 2 u (catV ps).length (Jbb (catV ps)) /\ Below w.heap.size w w' := by
  go_enter Tryz.func82, Tryz.ntmps82
  go_wp2_with (fail)
  refine (Qid ps v w hv hp hl hn).mono ?_
  rintro e w1 ⟨u, rfl, hr, hb⟩
  go_wp2_with (fail)
  go_ret
  exact ⟨_, rfl, hr, hb⟩
theorem Jk4 {w : World} {base : Nat} {e : TypeId} {v : Value} {l : List Nd} (h : w.ownsRow base e 2 v l.length (Jbb l)) : NodesIn (fun k => base <= k /\ k < w.heap.size) w v l := by
  have hlc := Jce l
  by_cases hl : l.length = 0
  · refine .inl ?_
    rcases h.2 with ⟨rfl, _⟩ | ⟨g, cap, cur, rfl, _⟩
    · exact ⟨none, 0, rfl, hl, List.length_eq_zero_iff.1 (by omega), fun _ => rfl⟩
    · exact ⟨some ⟨g, 0, none⟩, cap, by rw [hl], hl, List.length_eq_zero_iff.1 (by omega), fun h => by cases h⟩
  · have hlt := h.lt
    rcases h.2 with ⟨_, h0⟩ | ⟨g, cap, cur, rfl, hb, hg, hc, _⟩
    · exact absurd h0 hl
    · refine .inr ⟨g, 0, cap, rfl, by omega, hc, ⟨hb, (hlt g rfl).2⟩, fun j hj => ?_⟩
      have := h.cellAt j (by omega)
      simpa using this
theorem Qg6        {S : Nat → Prop} {w : World} {b o cap : Nat} {l : List Nd} (hpos : 0 < l.length) (hcap : l.length ≤ cap) (hS : S b) (h : ∀ k (hk : k < l.length), w.cell? ⟨b, o + k * 2, none⟩ = some (.int .i64 l[k].1) ∧ w.cell? ⟨b, o + k * 2 + 1, none⟩ = some (.int .i64 l[k].2)) :
    NodesIn S w (.slice (some ⟨b, o, none⟩) l.length cap) l := .inr ⟨b, o, cap, rfl, hpos, hcap, hS, fun j hj => by
  rw [Jce] at hj
  obtain ⟨q, hq⟩ : ∃ q, j = 2 * q \/ j = 2 * q + 1 := ⟨j / 2, by omega⟩
  rcases hq with rfl | rfl
  · rw [Jjt l q (by omega), Nat.mul_comm]; exact (h q (by omega)).1
  · rw [Jjs            l q (by omega), Nat.mul_comm, ← Nat.add_assoc]; exact (h q (by omega)).2⟩
theorem NodesIn.sub {S : Nat → Prop} {w : World} {b o cap : Nat} {l : List Nd} (hcap : l.length ≤ cap) (hS : S b) (h : ∀ k (hk : k < l.length), w.cell? ⟨b, o + k * 2, none⟩ = some (.int .i64 l[k].1) ∧ w.cell? ⟨b, o + k * 2 + 1, none⟩ = some (.int .i64 l[k].2))
    (i j : Nat) (hij : i <= j) (hj : j <= l.length) : NodesIn S w (.slice (some ⟨b, o + i * 2, none⟩) (j - i) (cap - i)) ((l.take j).drop i) := by
  have hlen : ((l.take j).drop i).length = j - i := by simp; omega
  by_cases h0 : j = i
  · subst h0
    rw [Nat.sub_self, List.drop_eq_nil_of_le (by simp; omega)]
    exact .inl ⟨_, _, rfl, rfl, rfl, fun h => by cases h⟩
  · rw [<- hlen]
    refine Qg6 (by omega) (by omega) hS fun k hk => ?_
    have := h (i + k) (by omega)
    rw [show o + i * 2 + k * 2 = o + (i + k) * 2 from by omega]
    simpa [List.getElem_drop, List.getElem_take] using this
set_option maxHeartbeats 2000000 in
theorem Qf1      (l : List Nd) (i : Int) (v : Value) (w : World) (hv : Jbz     w v l) (hl : l.length ≤ 4000000) :
    Calls Tryz.prog 42 #[v, .int .i64 i] w fun e w' => ∃ u, e = .returned u /\ NodesIn (fun k => w.heap.size <= k /\ k < w'.heap.size) w' u (Jcq l i) /\ Below w.heap.size w w' := by
  rcases Jdo l i with hE | hE
  · have hlt : endv l i < 0 := by omega
    have HK : Hid (Jcq l i = []) := Lib.hid (by rw [Jcq, if_pos hlt])
    clear hE
    go_enter Tryz.func42, Tryz.ntmps42
    go_wp2_with (go_at_call 44; refine (Jej l _ _ _ hv hl).mono ?_; rintro e w1 ⟨rfl, hb⟩)
    go_ret
    exact ⟨_, rfl, by rw [HK.out]; exact .inl ⟨none, 0, rfl, rfl, rfl, fun _ => rfl⟩, hb⟩
  · obtain ⟨hi0, hil⟩ := Ja2 l i hE
    obtain ⟨k, rfl⟩ := Int.eq_ofNat_of_zero_le hi0
    have hnlt : ¬ endv l k < 0 := by omega
    have hle := Jgl l k
    have hgt := Jd2 l k hE
    obtain ⟨m, hm⟩ := Int.eq_ofNat_of_zero_le hE
    have HK : Hid (Jcq l k = (l.take m).drop k) := Lib.hid (by rw [Jcq, if_neg hnlt, hm]; rfl)
    rw [hm] at hle hgt
    have hkl : k < l.length := by simpa using hil
    rcases hv.open with ⟨rfl, _⟩ | ⟨b, o, cap, rfl, hpos, hcap, hbs, hcell⟩
    · simp at hkl
    go_enter Tryz.func42, Tryz.ntmps42
    go_wp2_with (go_at_call 44; refine (Jej l _ _ _ hv hl).mono ?_; rintro e w1 ⟨rfl, hb⟩; rw [hm])
    have hv1 : Jbz (w1.alloc (.cells #[.slice (some ⟨b, o + k * 2, none⟩) (m - k) (cap - k)] 23)) (.slice (some ⟨b, o + k * 2, none⟩) (m - k) (cap - k)) ((l.take m).drop k) :=
      ((NodesIn.sub hcap (S := (· < w.heap.size)) hbs hcell k m (by omega) (by omega)).below hb).below (below_alloc1 w1 _)
    have hcl := NodesIn.sub hcap (S := (· < w.heap.size)) hbs hcell k m (by omega) (by omega)
    refine (Jql [(.slice (some ⟨b, o + k * 2, none⟩) (m - k) (cap - k), (l.take m).drop k)] _ _ (Joe w1 _ 23) (fun x hx => by obtain rfl := List.mem_singleton.1 hx; exact hv1) (by simp [catV]; omega) (by simp)).mono ?_
    rintro e w2 ⟨u, rfl, hr, hb2⟩
    have hB2 : Below w.heap.size w w2 := (hb.trans ((below_alloc1 w1 _).mono hb.size)).trans (hb2.mono (by simp; have := hb.size; omega))
    have hz := hb.size
    go_wp2_with (fail)
    go_ret
    refine ⟨_, rfl, ?_, hB2⟩
    rw [HK.out]
    exact (Jk4 (by simpa [catV] using hr)).mono (fun j hj => ⟨by omega, hj.2⟩)
theorem Jwm (w : World) (a b c : Value) (t : TypeId) : SliceIn (fun k => k < (w.alloc (.cells #[a, b, c] t)).heap.size) (w.alloc (.cells #[a, b, c] t)) (.slice (some ⟨w.heap.size, 0, none⟩) 3 3) 3 [a, b, c] := by
  refine .inr ⟨w.heap.size, 0, 3, rfl, by omega, by omega, by simp, fun j hj => ?_⟩
  simp at hj
  have h := World.alloc_heap_new w (.cells #[a, b, c] t)
  rcases (by omega : j = 0 \/ j = 1 \/ j = 2) with rfl | rfl | rfl <;> (unfold World.cell?; simp only [h]; rfl)
theorem Jou (w : World) (a b c : Value) (t : TypeId) : SliceIn (fun k => k < (w.alloc (.cells #[a, b, c] t)).drew.heap.size) (w.alloc (.cells #[a, b, c] t)).drew (.slice (some ⟨w.heap.size, 0, none⟩) 3 3) 3 [a, b, c] :=
  (Jwm w a b c t).kept (Jzu (Kept.refl _ _))
set_option maxHeartbeats 4000000 in
theorem Juc         (l r : List Nd) (i : Int) (v u : Value) (w : World) (hv : Jbz     w v l) (hu : Jbz     w u r) (hl : l.length ≤ 4000000) (hr : r.length ≤ 4000000) :
    Calls Tryz.prog 108 #[v, .int .i64 i, u] w fun e w' => ∃ x, e = .returned x /\ NodesIn (fun k => w.heap.size <= k /\ k < w'.heap.size) w' x (Jbx l i r) /\ Below w.heap.size w w' := by
  obtain ⟨pu, cu, hsu⟩ := hu.slice
  subst hsu
  refine callsIn_wide.1 (?_ : CallsIn Fence.wide 1 _ _ _ _ _)
  refine callsIn_of_wp Tryz.func108 rfl trivial ?_ rfl
  simp only [Tryz.ntmps108, List.size_toArray, List.length_cons, List.length_nil, Nat.reduceAdd, Nat.reduceSub, Array.replicate_succ, Array.replicate_zero, List.push_toArray, List.append_toArray, List.nil_append, List.cons_append]
  rcases Jdo l i with hE | hE
  · have hlt : endv l i < 0 := by omega
    have HK : Hid (Jbx l i r = l) := Lib.hid (by rw [Jbx, if_pos hlt])
    clear hE
    obtain ⟨p, cap, hsl⟩ := hv.slice
    subst hsl
    gi_wp2_with (gi_at_call 44; refine (callsIn_wide.2 (Jej l _ _ _ hv hl)).mono ?_; rintro e w1 ⟨rfl, hb⟩)
    have hv1 := (hv.below hb).below (below_alloc1 w1 (.cells #[.slice p l.length cap] 23))
    refine (callsIn_wide.2 (Jql [(.slice p l.length cap, l)] _ _ (Joe w1 _ 23) (fun x hx => by obtain rfl := List.mem_singleton.1 hx; exact hv1) (by simp [catV]; omega) (by simp))).mono ?_
    rintro e w2 ⟨x, rfl, hrow, hb2⟩
    have hB2 : Below w.heap.size w w2 := (hb.trans ((below_alloc1 w1 _).mono hb.size)).trans (hb2.mono (by simp; have := hb.size; omega))
    have hz := hb.size
    gi_wp2_with (fail)
    go_ret
    refine ⟨_, rfl, ?_, hB2⟩
    rw [HK.out]
    exact (Jk4 (by simpa [catV] using hrow)).mono (fun j hj => ⟨by omega, hj.2⟩)
  · obtain ⟨hi0, hil⟩ := Ja2 l i hE
    obtain ⟨k, rfl⟩ := Int.eq_ofNat_of_zero_le hi0
    have hnlt : ¬ endv l k < 0 := by omega
    have hle := Jgl l k
    have hgt := Jd2 l k hE
    obtain ⟨m, hm⟩ := Int.eq_ofNat_of_zero_le hE
    have HK : Hid (Jbx l k r = l.take k ++ r ++ l.drop m) := Lib.hid (by rw [Jbx, if_neg hnlt, hm]; rfl)
    rw [hm] at hle hgt
    have hkl : k < l.length := by simpa using hil
    rcases hv.open with ⟨rfl, _⟩ | ⟨b, o, cap, rfl, hpos, hcap, hbs, hcell⟩
    · simp at hkl
    have hmx : Tryz.prog.follows .mixedOrders = true := by kernel_rfl
    gi_wp2_with (gi_at_call 44; refine (callsIn_wide.2 (Jej l _ _ _ hv hl)).mono ?_; rintro e w1 ⟨rfl, hb⟩; rw [hm])
    have b1 : (k : Int) <= (cap : Int) := by omega
    have b2 : (m : Int) <= (l.length : Int) := by omega
    have b3 : ¬ (cap : Int) < (k : Int) := by omega
    have b4 : ¬ (l.length : Int) < (m : Int) := by omega
    have b5 : ¬ (k : Int) < 0 := by omega
    have b6 : (k : Int) <= (l.length : Int) := by omega
    have b7 : k <= cap := by omega
    have b8 : m <= l.length := by omega
    have s1 : Jbz w (.slice (some ⟨b, o, none⟩) k cap) (l.take k) := by simpa using NodesIn.sub hcap (S := (· < w.heap.size)) hbs hcell 0 k (by omega) (by omega)
    have s3 : Jbz w (.slice (if cap = m then some ⟨b, o, none⟩ else some ⟨b, o + m * 2, none⟩) (l.length - m) (cap - m)) (l.drop m) := by
      by_cases hcm : cap = m
      · rw [if_pos hcm, List.drop_eq_nil_of_le (by omega), show l.length - m = 0 from by omega]
        exact .inl ⟨_, _, rfl, rfl, rfl, fun h => by cases h⟩
      · rw [if_neg hcm]
        simpa using NodesIn.sub hcap (S := (· < w.heap.size)) hbs hcell m l.length (by omega) (by omega)
    obtain ⟨q3, hq3⟩ : ∃ q : Option Addr, (if cap = m then some ⟨b, o, none⟩ else some ⟨b, o + m * 2, none⟩) = q := ⟨_, rfl⟩
    rw [hq3] at s3
    have hbd : Below w.heap.size w ((w1.alloc (.cells #[.slice (some ⟨b, o, none⟩) k cap, .slice pu r.length cu, .slice q3 (l.length - m) (cap - m)] 23)).drew) := hb.trans ((((Below.refl _ w1).alloc (Nat.le_refl _) _).drew).mono hb.size)
    have hps : ∀ x ∈ [(Value.slice (some ⟨b, o, none⟩) k cap, l.take k), (.slice pu r.length cu, r), (.slice q3 (l.length - m) (cap - m), l.drop m)], Jbz ((w1.alloc (.cells #[.slice (some ⟨b, o, none⟩) k cap, .slice pu r.length cu, .slice q3 (l.length - m) (cap - m)] 23)).drew) x.1 x.2 := by
      intro x hx
      simp only [List.mem_cons, List.not_mem_nil, or_false] at hx
      rcases hx with rfl | rfl | rfl
      · exact s1.below hbd
      · exact hu.below hbd
      · exact s3.below hbd
    have hcl : (catV [(Value.slice (some ⟨b, o, none⟩) k cap, l.take k), (.slice pu r.length cu, r), (.slice q3 (l.length - m) (cap - m), l.drop m)]).length <= 12000000 := by simp [catV]; omega
    have h3 : SliceIn (fun jj => jj < ((w1.alloc (.cells #[.slice (some ⟨b, o, none⟩) k cap, .slice pu r.length cu, .slice q3 (l.length - m) (cap - m)] 23)).drew).heap.size) ((w1.alloc (.cells #[.slice (some ⟨b, o, none⟩) k cap, .slice pu r.length cu, .slice q3 (l.length - m) (cap - m)] 23)).drew) (.slice (some ⟨w1.heap.size, 0, none⟩) 3 3) 3 [.slice (some ⟨b, o, none⟩) k cap, .slice pu r.length cu, .slice q3 (l.length - m) (cap - m)] := Jou w1 _ _ _ 23
    have hz := hbd.size
    gi_region_with_o (gi_at_call 82; go_loud (refine (callsIn_wide.2 (Jql [(Value.slice (some ⟨b, o, none⟩) k cap, l.take k), (.slice pu r.length cu, r), (.slice q3 (l.length - m) (cap - m), l.drop m)] _ _ h3 hps hcl (by simp))).mono ?_; rintro e w2 ⟨x, rfl, hrow, hb2⟩))
    all_goals gi_wp2
    all_goals go_ret
    all_goals refine ⟨x, rfl, ?_, hbd.trans (hb2.mono hz)⟩
    all_goals rw [HK.out]
    all_goals exact (Jk4 (base := w1.heap.size + 1) (v := x) (by simpa [catV] using hrow)).mono (fun j hj => ⟨by have := hb.size; omega, hj.2⟩)
end Go.Proofs.YtinnbafplhcnpaaGreat
end
section
namespace Go.Proofs.YtinnbafplhcnpaaGreat
open Go.RowKit
theorem take_same {a b : List Int} {k : Nat} (h : a.take k = b.take k) (hk : k < a.length) (hb : k < b.length) (he : a[k] = b[k]) : a.take (k + 1) = b.take (k + 1) := by
  rw [List.take_succ_eq_append_getElem hk, List.take_succ_eq_append_getElem hb, h, he]
theorem Qm1 {a b : List Int} (h : a.take a.length = b.take a.length) (hl : a.length = b.length) : a = b := by
  rwa [List.take_length, hl, List.take_length] at h
theorem Jwv {a b : Bool} (h : a = b) : Ending.returned (.bool a) = .returned (.bool b) := by rw [h]
set_option maxHeartbeats 1000000 in
theorem Qpn      (a b : List Int) (u v : Value) (w : World) (hu : Jmu    w u a) (hv : Jmu    w v b) (ha : a.length ≤ 4000000) (hb : b.length ≤ 4000000) :
    Calls Tryz.prog 38 #[u, v] w fun e w' => e = .returned (.bool (decide (a = b))) /\ Below w.heap.size w w' := by
  obtain ⟨pu, cu, hus⟩ := hu.slice
  obtain ⟨pv, cv, hvs⟩ := hv.slice
  subst hus
  subst hvs
  by_cases hl : a.length = b.length
  · have hlt : ((a.length : Int) != (b.length : Int)) = false := by simp [hl]
    have HL := Lib.hid hl
    clear hl
    go_enter Tryz.func38, Tryz.ntmps38
    go_wp2
    go_loopw [5] (fun i wr => ∃ k : Nat, i = .int .i64 k /\ k <= a.length /\ Hid (a.take k = b.take k) /\ Below w.heap.size w wr) (fun i _ => a.length - (intOf i).toNat)
    case atStart => exact ⟨0, rfl, Nat.zero_le _, Lib.hid rfl, Below.refl _ _⟩
    case round =>
      obtain ⟨k, rfl, hk, ht, hB⟩ := hrel
      by_cases hlt : k < a.length
      · have hltb : k < b.length := by have := HL.out; omega
        rcases hu.open with ⟨rfl, _⟩ | ⟨b1, o1, c1, hs1, hp1, hc1, hb1, hx1⟩
        · simp at hlt
        rcases hv.open with ⟨rfl, _⟩ | ⟨b2, o2, c2, hs2, hp2, hc2, hb2, hx2⟩
        · simp at hltb
        obtain ⟨rfl, rfl⟩ : pu = some ⟨b1, o1, none⟩ /\ cu = c1 := by simpa using hs1
        obtain ⟨rfl, rfl⟩ : pv = some ⟨b2, o2, none⟩ /\ cv = c2 := by simpa using hs2
        have g1 := (hB.cell (p := ⟨b1, o1 + k, none⟩) hb1).trans (hx1 k hlt)
        have g2 := (hB.cell (p := ⟨b2, o2 + k, none⟩) hb2).trans (hx2 k hltb)
        clear hx1 hx2 hs1 hs2
        by_cases he : a[k] = b[k]
        · have heb : (a[k] != b[k]) = false := by simp [he]
          have HE := Lib.hid he
          clear he
          have n1 : (k : Int) < (a.length : Int) := by omega
          have n2 : (k : Int) < (b.length : Int) := by omega
          go_wp2
          go_quiet (fail)
          go_wp2
          go_roundw
          case rel => exact ⟨k + 1, by go_num, by omega, Lib.hid (take_same ht.out hlt hltb HE.out), below_drewN hB _⟩
          case measure => simp [intOf]; omega
        · have heb : (a[k] != b[k]) = true := by simp [he]
          have HE := Lib.hid he
          clear he
          have n1 : (k : Int) < (a.length : Int) := by omega
          have n2 : (k : Int) < (b.length : Int) := by omega
          go_wp2
          go_quiet (fail)
          go_wp2
          go_ret
          exact ⟨Jwv (by rw [decide_eq_false]; rintro rfl; exact HE.out rfl), below_drewN hB _⟩
      · go_wp2
        go_ret
        exact ⟨Jwv (by rw [decide_eq_true]; exact (Qm1 (by have := ht.out; rwa [show k = a.length from by omega] at this) HL.out)), hB⟩
  · have hlt : ((a.length : Int) != (b.length : Int)) = true := by rw [bne_iff_ne]; omega
    have HL := Lib.hid hl
    clear hl
    go_enter Tryz.func38, Tryz.ntmps38
    go_wp2
    go_ret
    exact ⟨Jwv (by rw [decide_eq_false]; intro h; exact HL.out (by rw [h])), Below.refl _ _⟩
end Go.Proofs.YtinnbafplhcnpaaGreat
end
section
namespace Go.Proofs.YtinnbafplhcnpaaGreat
open Go.RowKit
set_option linter.unusedVariables false
def Qic : List D -> Option D
  | [x0, x1] => (Jbw x0).bind fun l => (asInt x1).bind fun i => if l.length <= 3000000 then some (iD (endv l i)) else none
  | _ => none
theorem C_End : CallOk Tryz.prog 44 Qic := by
  refine ⟨⟨_, Tryz.func44, by decide, rfl⟩, fun ds d hF S vs W hS hv => ?_⟩
  unfold Qic at hF
  split at hF
  · rename_i x0 x1
    rcases hd0 : Jbw x0 with _ | l
    · rw [hd0] at hF; cases hF
    rw [hd0, Option.bind_some] at hF
    rcases hd1 : asInt x1 with _ | i
    · rw [hd1] at hF; cases hF
    rw [hd1, Option.bind_some] at hF
    split at hF
    rotate_left
    · cases hF
    rename_i G
    cases hF
    simp only [RepA] at hv
    obtain ⟨v_l, t0, rfl, r0, ⟨v_i, t1, rfl, r1, rfl⟩⟩ := hv
    have h_l := (Jb9 hd0 r0).mono hS
    obtain rfl := Jfs hd1 r1
    refine (Jej l i v_l W h_l (by omega)).mono ?_
    rintro e w1 ⟨rfl, hb⟩
    exact ⟨_, rfl, by simp only [Rep], hb⟩
  · cases hF
def Jgq : List D -> Option D
  | [x0, x1] => (Jbw x0).bind fun l => (asInt x1).bind fun i => if l.length <= 3000000 then some (iD (endv l i)) else none
  | _ => none
theorem Qp1 : CallOk Tryz.prog 60 Jgq := by
  refine ⟨⟨_, Tryz.func60, by decide, rfl⟩, fun ds d hF S vs W hS hv => ?_⟩
  unfold Jgq at hF
  split at hF
  · rename_i x0 x1
    rcases hd0 : Jbw x0 with _ | l
    · rw [hd0] at hF; cases hF
    rw [hd0, Option.bind_some] at hF
    rcases hd1 : asInt x1 with _ | i
    · rw [hd1] at hF; cases hF
    rw [hd1, Option.bind_some] at hF
    split at hF
    rotate_left
    · cases hF
    rename_i G
    cases hF
    simp only [RepA] at hv
    obtain ⟨v_l, t0, rfl, r0, ⟨v_i, t1, rfl, r1, rfl⟩⟩ := hv
    have h_l := (Jb9 hd0 r0).mono hS
    obtain rfl := Jfs hd1 r1
    refine (Jcn l i v_l W h_l (by omega)).mono ?_
    rintro e w1 ⟨rfl, hb⟩
    exact ⟨_, rfl, by simp only [Rep], hb⟩
  · cases hF
def Jwb : List D -> Option D
  | [x0, x1] => (Jbw x0).bind fun l => (asInt x1).bind fun i => if l.length <= 3000000 then some (Jag (Jab l i)) else none
  | _ => none
theorem C_Kids : CallOk Tryz.prog 48 Jwb := by
  refine ⟨⟨_, Tryz.func48, by decide, rfl⟩, fun ds d hF S vs W hS hv => ?_⟩
  unfold Jwb at hF
  split at hF
  · rename_i x0 x1
    rcases hd0 : Jbw x0 with _ | l
    · rw [hd0] at hF; cases hF
    rw [hd0, Option.bind_some] at hF
    rcases hd1 : asInt x1 with _ | i
    · rw [hd1] at hF; cases hF
    rw [hd1, Option.bind_some] at hF
    split at hF
    rotate_left
    · cases hF
    rename_i G
    cases hF
    simp only [RepA] at hv
    obtain ⟨v_l, t0, rfl, r0, ⟨v_i, t1, rfl, r1, rfl⟩⟩ := hv
    have h_l := (Jb9 hd0 r0).mono hS
    obtain rfl := Jfs hd1 r1
    refine (Jpt l i v_l W h_l (by omega)).mono ?_
    rintro e w1 ⟨u, rfl, hu, hb⟩
    exact ⟨u, rfl, Jkf (IntsIn.mono hu (fun k hk => .inr hk)), hb⟩
  · cases hF
def Jkp : List D -> Option D
  | [x0, x1] => (Jbw x0).bind fun l => (asInt x1).bind fun i => if l.length <= 3000000 then some (Jag (Jab l i)) else none
  | _ => none
theorem Qmq : CallOk Tryz.prog 99 Jkp := by
  refine ⟨⟨_, Tryz.func99, by decide, rfl⟩, fun ds d hF S vs W hS hv => ?_⟩
  unfold Jkp at hF
  split at hF
  · rename_i x0 x1
    rcases hd0 : Jbw x0 with _ | l
    · rw [hd0] at hF; cases hF
    rw [hd0, Option.bind_some] at hF
    rcases hd1 : asInt x1 with _ | i
    · rw [hd1] at hF; cases hF
    rw [hd1, Option.bind_some] at hF
    split at hF
    rotate_left
    · cases hF
    rename_i G
    cases hF
    simp only [RepA] at hv
    obtain ⟨v_l, t0, rfl, r0, ⟨v_i, t1, rfl, r1, rfl⟩⟩ := hv
    have h_l := (Jb9 hd0 r0).mono hS
    obtain rfl := Jfs hd1 r1
    refine (Jg1 l i v_l W h_l (by omega)).mono ?_
    rintro e w1 ⟨u, rfl, hu, hb⟩
    exact ⟨u, rfl, Jkf (IntsIn.mono hu (fun k hk => .inr hk)), hb⟩
  · cases hF
def Jn9 : List D -> Option D
  | [x0, x1] => (Jbw x0).bind fun l => (asInt x1).bind fun i => if l.length <= 3000000 then some (Jaf (Jcq l i)) else none
  | _ => none
theorem C_Part : CallOk Tryz.prog 42 Jn9 := by
  refine ⟨⟨_, Tryz.func42, by decide, rfl⟩, fun ds d hF S vs W hS hv => ?_⟩
  unfold Jn9 at hF
  split at hF
  · rename_i x0 x1
    rcases hd0 : Jbw x0 with _ | l
    · rw [hd0] at hF; cases hF
    rw [hd0, Option.bind_some] at hF
    rcases hd1 : asInt x1 with _ | i
    · rw [hd1] at hF; cases hF
    rw [hd1, Option.bind_some] at hF
    split at hF
    rotate_left
    · cases hF
    rename_i G
    cases hF
    simp only [RepA] at hv
    obtain ⟨v_l, t0, rfl, r0, ⟨v_i, t1, rfl, r1, rfl⟩⟩ := hv
    have h_l := (Jb9 hd0 r0).mono hS
    obtain rfl := Jfs hd1 r1
    refine (Qf1 l i v_l W h_l (by omega)).mono ?_
    rintro e w1 ⟨u, rfl, hu, hb⟩
    exact ⟨u, rfl, Jie (NodesIn.mono hu (fun k hk => .inr hk)), hb⟩
  · cases hF
def Jdb : List D -> Option D
  | [x0, x1, x2] => (Jbw x0).bind fun l => (asInt x1).bind fun i => (Jbw x2).bind fun r => if l.length <= 3000000 /\ r.length <= 3000000 then some (Jaf (Jbx l i r)) else none
  | _ => none
theorem Qml : CallOk Tryz.prog 108 Jdb := by
  refine ⟨⟨_, Tryz.func108, by decide, rfl⟩, fun ds d hF S vs W hS hv => ?_⟩
  unfold Jdb at hF
  split at hF
  · rename_i x0 x1 x2
    rcases hd0 : Jbw x0 with _ | l
    · rw [hd0] at hF; cases hF
    rw [hd0, Option.bind_some] at hF
    rcases hd1 : asInt x1 with _ | i
    · rw [hd1] at hF; cases hF
    rw [hd1, Option.bind_some] at hF
    rcases hd2 : Jbw x2 with _ | r
    · rw [hd2] at hF; cases hF
    rw [hd2, Option.bind_some] at hF
    split at hF
    rotate_left
    · cases hF
    rename_i G
    cases hF
    simp only [RepA] at hv
    obtain ⟨v_l, t0, rfl, r0, ⟨v_i, t1, rfl, r1, ⟨v_r, t2, rfl, r2, rfl⟩⟩⟩ := hv
    have h_l := (Jb9 hd0 r0).mono hS
    obtain rfl := Jfs hd1 r1
    have h_r := (Jb9 hd2 r2).mono hS
    refine (Juc l r i v_l v_r W h_l h_r (by omega) (by omega)).mono ?_
    rintro e w1 ⟨u, rfl, hu, hb⟩
    exact ⟨u, rfl, Jie (NodesIn.mono hu (fun k hk => .inr hk)), hb⟩
  · cases hF
def Jq6 : List D -> Option D
  | [x0] => (Jbw x0).bind fun l => if l.length <= 3000000 then some (iD (Jch l)) else none
  | _ => none
theorem Qt8 : CallOk Tryz.prog 40 Jq6 := by
  refine ⟨⟨_, Tryz.func40, by decide, rfl⟩, fun ds d hF S vs W hS hv => ?_⟩
  unfold Jq6 at hF
  split at hF
  · rename_i x0
    rcases hd0 : Jbw x0 with _ | l
    · rw [hd0] at hF; cases hF
    rw [hd0, Option.bind_some] at hF
    split at hF
    rotate_left
    · cases hF
    rename_i G
    cases hF
    simp only [RepA] at hv
    obtain ⟨v_l, t0, rfl, r0, rfl⟩ := hv
    have h_l := (Jb9 hd0 r0).mono hS
    refine (Qmc l v_l W h_l (by omega)).mono ?_
    rintro e w1 ⟨rfl, hb⟩
    exact ⟨_, rfl, by simp only [Rep], hb⟩
  · cases hF
def Jik : List D -> Option D
  | [x0] => (Jbw x0).bind fun l => if l.length <= 3000000 then some (iD (Jch l)) else none
  | _ => none
theorem Qif : CallOk Tryz.prog 57 Jik := by
  refine ⟨⟨_, Tryz.func57, by decide, rfl⟩, fun ds d hF S vs W hS hv => ?_⟩
  unfold Jik at hF
  split at hF
  · rename_i x0
    rcases hd0 : Jbw x0 with _ | l
    · rw [hd0] at hF; cases hF
    rw [hd0, Option.bind_some] at hF
    split at hF
    rotate_left
    · cases hF
    rename_i G
    cases hF
    simp only [RepA] at hv
    obtain ⟨v_l, t0, rfl, r0, rfl⟩ := hv
    have h_l := (Jb9 hd0 r0).mono hS
    refine (Jy8 l v_l W h_l (by omega)).mono ?_
    rintro e w1 ⟨rfl, hb⟩
    exact ⟨_, rfl, by simp only [Rep], hb⟩
  · cases hF
def Jko : List D -> Option D
  | [x0, x1] => (Jbw x0).bind fun a => (Jbw x1).bind fun b => if a.length <= 3000000 /\ b.length <= 3000000 then some (bD (decide (a = b))) else none
  | _ => none
theorem Qmo : CallOk Tryz.prog 39 Jko := by
  refine ⟨⟨_, Tryz.func39, by decide, rfl⟩, fun ds d hF S vs W hS hv => ?_⟩
  unfold Jko at hF
  split at hF
  · rename_i x0 x1
    rcases hd0 : Jbw x0 with _ | a
    · rw [hd0] at hF; cases hF
    rw [hd0, Option.bind_some] at hF
    rcases hd1 : Jbw x1 with _ | b
    · rw [hd1] at hF; cases hF
    rw [hd1, Option.bind_some] at hF
    split at hF
    rotate_left
    · cases hF
    rename_i G
    cases hF
    simp only [RepA] at hv
    obtain ⟨v_a, t0, rfl, r0, ⟨v_b, t1, rfl, r1, rfl⟩⟩ := hv
    have h_a := (Jb9 hd0 r0).mono hS
    have h_b := (Jb9 hd1 r1).mono hS
    refine (Qb6 a b v_a v_b W h_a h_b (by omega) (by omega)).mono ?_
    rintro e w1 ⟨rfl, hb⟩
    exact ⟨_, rfl, by simp only [Rep], hb⟩
  · cases hF
def Jkq : List D -> Option D
  | [x0, x1] => (Jdr x0).bind fun a => (Jdr x1).bind fun b => if a.length <= 3000000 /\ b.length <= 3000000 then some (bD (decide (a = b))) else none
  | _ => none
theorem Qmr : CallOk Tryz.prog 38 Jkq := by
  refine ⟨⟨_, Tryz.func38, by decide, rfl⟩, fun ds d hF S vs W hS hv => ?_⟩
  unfold Jkq at hF
  split at hF
  · rename_i x0 x1
    rcases hd0 : Jdr x0 with _ | a
    · rw [hd0] at hF; cases hF
    rw [hd0, Option.bind_some] at hF
    rcases hd1 : Jdr x1 with _ | b
    · rw [hd1] at hF; cases hF
    rw [hd1, Option.bind_some] at hF
    split at hF
    rotate_left
    · cases hF
    rename_i G
    cases hF
    simp only [RepA] at hv
    obtain ⟨v_a, t0, rfl, r0, ⟨v_b, t1, rfl, r1, rfl⟩⟩ := hv
    have h_a := (Jgp hd0 r0).mono hS
    have h_b := (Jgp hd1 r1).mono hS
    refine (Qpn a b v_a v_b W h_a h_b (by omega) (by omega)).mono ?_
    rintro e w1 ⟨rfl, hb⟩
    exact ⟨_, rfl, by simp only [Rep], hb⟩
  · cases hF
def Jf3 : List D -> Option D
  | [x0, x1] => (Jbw x0).bind fun a => (Jbw x1).bind fun b => if a.length <= 3000000 /\ b.length <= 3000000 then some (bD (decide (a = b))) else none
  | _ => none
theorem Qbm : CallOk Tryz.prog 52 Jf3 := by
  refine ⟨⟨_, Tryz.func52, by decide, rfl⟩, fun ds d hF S vs W hS hv => ?_⟩
  unfold Jf3 at hF
  split at hF
  · rename_i x0 x1
    rcases hd0 : Jbw x0 with _ | a
    · rw [hd0] at hF; cases hF
    rw [hd0, Option.bind_some] at hF
    rcases hd1 : Jbw x1 with _ | b
    · rw [hd1] at hF; cases hF
    rw [hd1, Option.bind_some] at hF
    split at hF
    rotate_left
    · cases hF
    rename_i G
    cases hF
    simp only [RepA] at hv
    obtain ⟨v_a, t0, rfl, r0, ⟨v_b, t1, rfl, r1, rfl⟩⟩ := hv
    have h_a := (Jb9 hd0 r0).mono hS
    have h_b := (Jb9 hd1 r1).mono hS
    refine (Qky a b v_a v_b W h_a h_b (by omega) (by omega)).mono ?_
    rintro e w1 ⟨rfl, hb⟩
    exact ⟨_, rfl, by simp only [Rep], hb⟩
  · cases hF
def fs08 : List Entry := (44, true, Jae Qic) :: (60, true, Jae Jgq) :: (48, true, Jae Jwb) :: (99, true, Jae Jkp) :: (42, true, Jae Jn9) :: (108, true, Jae Jdb) :: (40, true, Jae Jq6) :: (57, true, Jae Jik) :: (39, true, Jae Jko) :: (38, true, Jae Jkq) :: (52, true, Jae Jf3) :: []
theorem Qc0 : ∀ p ∈ fs08, Jbu Tryz.prog p := Jac (Jal C_End) <| Jac (Jal Qp1) <| Jac (Jal C_Kids) <| Jac (Jal Qmq) <| Jac (Jal C_Part) <| Jac (Jal Qml) <| Jac (Jal Qt8) <| Jac (Jal Qif) <| Jac (Jal Qmo) <| Jac (Jal Qmr) <| Jac (Jal Qbm) <| Qc5
def T08 : Tab := ⟨fs08, noYl⟩
theorem Jn8 : TabOk Tryz.prog T08 := Jb4 Qc0
end Go.Proofs.YtinnbafplhcnpaaGreat
end
section
namespace Go.Proofs.YtinnbafplhcnpaaGreat
open Go.ChangeShapes Go.WideShapes Go.ChangeAt Go.RowKit Go.Deep Go.Joins
set_option linter.unusedVariables false
set_option maxRecDepth 100000
theorem block_lt {W : World} {p : Addr} {v : Value} (h : W.cell? p = some v) : p.block < W.heap.size := by
  unfold World.cell? at h
  split at h
  · rename_i c t s he; exact (Array.getElem?_eq_some_iff.1 he).1
  · cases h
theorem Qit {W : World} {p : Addr} {v : Value} (h : W.cell? p = some v) : p.spot = none := World.cell?_spot h
theorem Qa8 (b o j : Nat) : (⟨b, o, none⟩ : Addr).add j = ⟨b, o + j, none⟩ := Go.WideShapes.add_plain ..
section
variable {H : Type} {enc : TypeId × Value -> H} {W : World} {d : DataW H} {p : List MemPlace}
theorem Qdj {base : Nat} {v : Value} (hv : Value.okWide Tryz.prog W .any base 3 v) (h : DataW.Trod enc Tryz.prog W 0 (fun _ => true) true 3 v d p) : ∃ x : Int, v = .int .i64 x := by
  obtain ⟨x, rfl, _, _, _⟩ := open_int Tryz.underlying3 hv h
  exact ⟨x, rfl⟩
end
end Go.Proofs.YtinnbafplhcnpaaGreat
end
section
namespace Go.Proofs.YtinnbafplhcnpaaGreat
open Go.RowKit
set_option linter.unusedVariables false
set_option linter.unusedSimpArgs false
structure CallNew (P : Program) (f : FuncId) (F : List D -> Option D) : Prop where
  body : ∃ fn, P.funcs[f]? = some fn /\ fn.name ≠ "runtime.NumGoroutine" /\ fn.body.isSome = true
  calls : ∀ ds d, F ds = some d -> ∀ (S : Nat -> Prop) (vs : List Value) (w : World), (∀ k, S k -> k < w.heap.size) -> RepA S [] w vs ds ->
    Calls P f vs.toArray w fun e w' => ∃ v, e = .returned v /\ Rep (fun k => w.heap.size <= k /\ k < w'.heap.size) [] w' v d /\ Below w.heap.size w w'
def Jc8 (F : List D -> Option D) (ds : List D) (H : Heap) : Option (D × Heap) :=
  match Jfi ds with
  | true => (F ds).map fun d => (d, H)
  | false => (ds.mapM (Jbs H 9)).bind fun ds' => (F ds').map fun d => (d, H)
theorem new_ok {P : Program} {f : FuncId} {F : List D -> Option D} (h : CallNew P f F) : HCallOk P f (Jc8 F) := by
  refine ⟨h.body, fun ds H d H' hG B S L vs w hr hv => ?_⟩
  have fin : ∀ (S0 : Nat -> Prop) (ds' : List D), (∀ k, S0 k -> k < w.heap.size) -> RepA S0 [] w vs ds' -> (F ds').map (fun d => (d, H)) = some (d, H') -> Calls P f vs.toArray w fun e w' => ∃ v S' L', e = .returned v /\ Rep S' L' w' v d /\ HRel B S' L' w' H' /\ Later B S S' L L' w w' := by
    intro S0 ds' h0 hv' hF
    obtain ⟨d', hF', e⟩ := Option.map_eq_some_iff.1 hF
    cases e
    refine (h.calls ds' _ hF' S0 vs w h0 hv').mono ?_
    rintro e w' ⟨v, rfl, h1, h2⟩
    obtain ⟨h3, h4⟩ := hr.call h2
    exact ⟨v, _, L, rfl, Rep.kept (Kept.refl _ w') (fun k hk => .inr hk) (fun i p hi => by simp at hi) _ _ h1, h3, h4⟩
  unfold Jc8 at hG
  split at hG
  · rename_i hp
    exact fin S ds hr.small (Jiw ds vs hp hv) hG
  · obtain ⟨ds', hds, hG⟩ := Option.bind_eq_some_iff.1 hG
    exact fin _ ds' (fun k hk => hk) (Jgb (fun d d' x h1 h2 => Qfo hr 9 d d' x h1 h2) ds ds' vs hds hv) hG
theorem Qnz (F : List D -> Option D) : Juo (Jc8 F) := by
  intro ds H d H' h
  cases hp : Jfi ds with
  | true =>
    unfold Jc8 at h ⊢
    rw [hp] at h ⊢
    simp only at h ⊢
    obtain ⟨d', hF, e⟩ := Option.map_eq_some_iff.1 h
    cases e
    exact ⟨rfl, fun t => by rw [hF]; rfl, fun _ H2 => by rw [hF]; rfl⟩
  | false =>
    unfold Jc8 at h ⊢
    rw [hp] at h ⊢
    simp only at h ⊢
    obtain ⟨ds', hds, h⟩ := Option.bind_eq_some_iff.1 h
    obtain ⟨d', hF, e⟩ := Option.map_eq_some_iff.1 h
    cases e
    exact ⟨rfl, fun t => by rw [mapM_mono (Jqr H t 9) ds ds' hds, Option.bind_some, hF]; rfl, fun h => by cases h⟩
theorem Jgk {P : Program} {f : FuncId} {F : List D -> Option D} (h : CallNew P f F) : Jbu P (f, true, Jc8 F) := ⟨new_ok h, fun _ => Qnz F⟩
theorem Jkb (F : List D -> Option D) (ds : List D) (H : Heap) (h : Jfi ds = true) : Jc8 F ds H = (F ds).map fun d => (d, H) := by unfold Jc8; rw [h]
theorem Jme (F : List D -> Option D) (ds ds' : List D) (H : Heap) (h : Jfi ds = false) (hd : ds.mapM (Jbs H 9) = some ds') : Jc8 F ds H = (F ds').map fun d => (d, H) := by unfold Jc8; rw [h]; simp only [hd]; rfl
end Go.Proofs.YtinnbafplhcnpaaGreat
end
section
namespace Go.Proofs.YtinnbafplhcnpaaGreat
open Go.RowKit
set_option linter.unusedVariables false
set_option linter.unusedSimpArgs false
theorem Qqp : CallNew Tryz.prog 42 Jn9 := by
  refine ⟨⟨_, Tryz.func42, by decide, rfl⟩, fun ds d hF S vs W hS hv => ?_⟩
  unfold Jn9 at hF
  split at hF
  · rename_i x0 x1
    rcases hd0 : Jbw x0 with _ | l
    · rw [hd0] at hF; cases hF
    rw [hd0, Option.bind_some] at hF
    rcases hd1 : asInt x1 with _ | i
    · rw [hd1] at hF; cases hF
    rw [hd1, Option.bind_some] at hF
    split at hF
    rotate_left
    · cases hF
    rename_i G
    cases hF
    simp only [RepA] at hv
    obtain ⟨v_l, t0, rfl, r0, ⟨v_i, t1, rfl, r1, rfl⟩⟩ := hv
    have h_l := (Jb9 hd0 r0).mono hS
    obtain rfl := Jfs hd1 r1
    refine (Qf1 l i v_l W h_l (by omega)).mono ?_
    rintro e w1 ⟨u, rfl, hu, hb⟩
    exact ⟨u, rfl, Jie hu, hb⟩
  · cases hF
theorem Qlw : CallNew Tryz.prog 108 Jdb := by
  refine ⟨⟨_, Tryz.func108, by decide, rfl⟩, fun ds d hF S vs W hS hv => ?_⟩
  unfold Jdb at hF
  split at hF
  · rename_i x0 x1 x2
    rcases hd0 : Jbw x0 with _ | l
    · rw [hd0] at hF; cases hF
    rw [hd0, Option.bind_some] at hF
    rcases hd1 : asInt x1 with _ | i
    · rw [hd1] at hF; cases hF
    rw [hd1, Option.bind_some] at hF
    rcases hd2 : Jbw x2 with _ | r
    · rw [hd2] at hF; cases hF
    rw [hd2, Option.bind_some] at hF
    split at hF
    rotate_left
    · cases hF
    rename_i G
    cases hF
    simp only [RepA] at hv
    obtain ⟨v_l, t0, rfl, r0, ⟨v_i, t1, rfl, r1, ⟨v_r, t2, rfl, r2, rfl⟩⟩⟩ := hv
    have h_l := (Jb9 hd0 r0).mono hS
    obtain rfl := Jfs hd1 r1
    have h_r := (Jb9 hd2 r2).mono hS
    refine (Juc l r i v_l v_r W h_l h_r (by omega) (by omega)).mono ?_
    rintro e w1 ⟨u, rfl, hu, hb⟩
    exact ⟨u, rfl, Jie hu, hb⟩
  · cases hF
end Go.Proofs.YtinnbafplhcnpaaGreat
end
section
namespace Go.Proofs.YtinnbafplhcnpaaGreat
def Jdc : Nat -> List Nd -> Int -> List Int -> List (Int × List Int)
  | 0, _, i, own => [(i, own)]
  | f + 1, l, i, own => (i, own) :: (Jab l i).zipIdx.flatMap fun x => Jdc f l x.1 (own ++ [(x.2 : Int)])
def Jix (f : Nat) (l : List Nd) (i : Int) (own : List Int) (c : Nat) : List (Int × List Int) := ((Jab l i).zipIdx.take c).flatMap fun x => Jdc f l x.1 (own ++ [(x.2 : Int)])
theorem Jzc (f : Nat) (l : List Nd) (i : Int) (own : List Int) : Jix f l i own 0 = [] := rfl
theorem Jjf          (f : Nat) (l : List Nd) (i : Int) (own : List Int) (c : Nat) (h : c < (Jab   l i).length) :
    Jix f l i own (c + 1) = Jix f l i own c ++ Jdc f l (Jab l i)[c] (own ++ [(c : Int)]) := by
  unfold Jix
  rw [List.take_succ_eq_append_getElem (by simpa using h), List.flatMap_append]
  simp
theorem Js1 (f : Nat) (l : List Nd) (i : Int) (own : List Int) : (i, own) :: Jix f l i own (Jab l i).length = Jdc (f + 1) l i own := by
  rw [Jdc, Jix, List.take_of_length_le (by simp)]
theorem Jnz (f : Nat) (l : List Nd) (i : Int) (own : List Int) (c : Nat) : (i, own) :: Jix f l i own c <+: Jdc (f + 1) l i own := by
  rw [Jdc]
  refine List.cons_prefix_cons.2 ⟨rfl, ?_⟩
  unfold Jix
  have h := List.take_append_drop c (Jab l i).zipIdx
  conv => rhs; rw [<- h, List.flatMap_append]
  exact List.prefix_append _ _
theorem Js0             (f : Nat) (l : List Nd) (i : Int) (own : List Int) (c : Nat) (h : c < (Jab   l i).length) (q : List (Int × List Int)) (hq : q <+: Jdc    f l (Jab   l i)[c] (own ++ [(c : Int)])) :
    (i, own) :: Jix f l i own c ++ q <+: Jdc (f + 1) l i own := by
  refine List.IsPrefix.trans ?_ (Jnz f l i own (c + 1))
  rw [Jjf f l i own c h]
  obtain ⟨r, hr⟩ := hq
  exact ⟨r, by rw [<- hr]; simp⟩
theorem Qg0 (f : Nat) (l : List Nd) (i : Int) (own : List Int) : 0 < (Jdc f l i own).length := by cases f <;> simp [Jdc]
end Go.Proofs.YtinnbafplhcnpaaGreat
end
