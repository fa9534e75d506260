/-
  The reference's Depth: what it computes.
-/
import Derived.Test.YtnmgfobpcengkaaDepthV
import Derived.Test.YtnmgfobpcengkaaRefKids
namespace Go.Proofs.Ytnmgfobpcengkaa
set_option maxRecDepth 100000
open Go.RowKit Go.Shelf
set_option linter.unusedVariables false
attribute [local go_sem] Oper.semAt_some

theorem depTo_take (f : Nat) (l : List Nd) (ks : List Int) (m : Nat) (h : m < ks.length) : depTo f l (ks.take (m + 1)) = max (depTo f l (ks.take m)) (depV f l ks[m]) := by
  rw [List.take_succ_eq_append_getElem h, depTo_snoc]

set_option maxRecDepth 100000 in
set_option maxHeartbeats 4000000 in
theorem refDepth_any (l : List Nd) (hl : l.length ≤ 4000000) (v : Value) : ∀ (f : Nat) (i : Int) (w : World), f ≤ 4000001 → ((l.length : Int) ≤ i + f ∨ i < 0) → NodesAt w v l →
    Calls Try.prog 37 #[v, .int .i64 i] w fun e w' => e = .returned (.int .i64 (depV f l i)) ∧ Below w.heap.size w w' := by
  intro f
  induction f with
  | zero =>
    intro i w hf hi hv
    have hlt : endv l i < 0 := by
      rcases endv_bound l i with hE | hE
      · omega
      · obtain ⟨h1, h2⟩ := endv_in l i hE; omega
    go_enter Try.func37, Try.ntmps37
    go_wp2_with (go_at_call 35; refine (refEnd_any l _ _ _ hv hl).mono ?_; rintro e w1 ⟨rfl, hb⟩)
    go_ret
    exact ⟨rfl, hb⟩
  | succ f ih =>
    intro i w hf hi hv
    refine callsIn_wide.1 (?_ : CallsIn Fence.wide 1 _ _ _ _ _)
    refine callsIn_of_wp Try.func37 rfl trivial ?_ rfl
    simp only [Try.ntmps37, List.size_toArray, List.length_cons, List.length_nil, Nat.reduceAdd, Nat.reduceSub, Array.replicate_succ, Array.replicate_zero, List.push_toArray, List.append_toArray, List.nil_append, List.cons_append]
    rcases endv_bound l i with hE | hE
    · have hlt : endv l i < 0 := by omega
      have HK := Lib.hid (depV_no (f + 1) l i hlt)
      clear hE hi
      gi_wp2_with (gi_at_call 35; refine (callsIn_wide.2 (refEnd_any l _ _ _ hv hl)).mono ?_; rintro e w1 ⟨rfl, hb⟩)
      go_ret
      exact ⟨by rw [HK.out]; rfl, hb⟩
    · obtain ⟨hi0, hil⟩ := endv_in l i hE
      have HI : Hid ((l.length : Int) ≤ i + (f + 1 : Nat)) := Lib.hid (by omega)
      have HY := Lib.hid (depV_yes f l i hE)
      have hnlt : ¬ endv l i < 0 := by omega
      have hmx : Try.prog.follows .mixedOrders = true := by kernel_rfl
      have hkl := kidsv_len l i
      clear hi
      gi_wp2_with (first | (gi_at_call 35; refine (callsIn_wide.2 (refEnd_any l _ _ _ hv hl)).mono ?_; rintro e w1 ⟨rfl, hb⟩; have hv1 := hv.below hb) | (gi_at_call 30; refine (callsIn_wide.2 (refKids_any l _ _ _ hv1 hl)).mono ?_; rintro e w2 ⟨u, rfl, hu, hb2⟩; obtain ⟨pu, cu, hsl⟩ := hu.slice; subst hsl))
      have hB2 : Below w.heap.size w w2 := hb.trans (hb2.mono hb.size)
      gi_loopw [5, 7] (fun n j wr => ∃ m : Nat, m ≤ (kidsv l i).length ∧ j = .int .i64 m ∧ Hid (n = .int .i64 (depTo f l ((kidsv l i).take m))) ∧ Below w2.heap.size w2 wr) (fun _ j _ => (kidsv l i).length - (intOf j).toNat)
      case atStart => exact ⟨0, Nat.zero_le _, rfl, Lib.hid rfl, Below.refl _ _⟩
      case round =>
        obtain ⟨m, hm, rfl, hn, hB⟩ := hrel
        obtain rfl := hn.out
        by_cases hlt : m < (kidsv l i).length
        · rcases hu.open with ⟨h0, _⟩ | ⟨b1, o1, c1, hs1, hp1, hc1, hb1, hx1⟩
          · rw [h0] at hlt; simp at hlt
          obtain ⟨rfl, rfl⟩ : pu = some ⟨b1, o1, none⟩ ∧ cu = c1 := by simpa using hs1
          have g1 := (hB.cell (p := ⟨b1, o1 + m, none⟩) hb1.2).trans (hx1 m hlt)
          clear hx1 hs1
          have n1 : (m : Int) < ((kidsv l i).length : Int) := by omega
          have hkm := kidsv_fact l i m hlt
          have hxf : (l.length : Int) ≤ (kidsv l i)[m] + f := by have := HI.out; omega
          have hvW : NodesAt wr v l := hv.below (hB2.trans (hB.mono hB2.size))
          have HT := Lib.hid (depTo_take f l (kidsv l i) m hlt)
          clear hkm
          gi_wp2_with (gi_at_call 37; refine (callsIn_wide.2 (ih (kidsv l i)[m] _ (by omega) (.inl hxf) hvW)).mono ?_; rintro e w3 ⟨rfl, hb3⟩)
          · go_roundw
            case rel => exact ⟨m + 1, by omega, by go_num, Lib.hid (congrArg (Value.int .i64) (by rw [HT.out]; omega)), hB.trans (hb3.mono hB.size)⟩
            case measure => simp [intOf]; omega
        · have hbd := depTo_bound f l (kidsv l i)
          obtain rfl : m = (kidsv l i).length := by omega
          rw [List.take_length]
          gi_wp2
          go_ret
          exact ⟨by rw [HY.out]; rfl, hB2.trans (hB.mono hB2.size)⟩
end Go.Proofs.Ytnmgfobpcengkaa
