/-
  arena.kids' closure as an iterator whose elements are known to the round.
-/
import Derived.Test.YtnmgfobpcengkaaIter
import Derived.Test.YtnmgfobpcengkaaScan
namespace Go.Proofs.Ytnmgfobpcengkaa
set_option maxRecDepth 100000
open Go.RowKit Go.Shelf
set_option linter.unusedVariables false
attribute [local go_sem] Oper.semAt_some

def wholeOr (ys xs : List Int) (b : Bool) : Prop := if b = true then xs = ys else xs <+: ys

theorem upto_prefix {α : Type} (f : Nat → α) (m d : Nat) : upto f m <+: upto f (m + d) := by
  rw [upto, upto, List.range_add, List.map_append]
  exact List.prefix_append _ _

set_option maxRecDepth 100000 in
set_option maxHeartbeats 4000000 in
theorem kids_iter (l : List Nd) (v : Value) (hl : l.length ≤ 4000000) (X : Nat → Prop) (i Bl Ba : Nat) (W : World) (hE : 0 ≤ endv l i) (hX : ∀ k, X k → k < W.heap.size) (hxl : ¬ X Bl) (hxa : ¬ X Ba)
    (hbl : W.cell? ⟨Bl, 0, none⟩ = some v) (hba : W.cell? ⟨Ba, 0, none⟩ = some (.int .i64 i)) (hv : NodesIn (fun k => ¬ X k ∧ k < W.heap.size) W v l) :
    Iter Try.prog 50 #[.pointer (some ⟨Ba, 0, none⟩), .pointer (some ⟨Bl, 0, none⟩)] (fun x : Int => #[Value.int .i64 x]) (fun x _ => x ∈ kidsv l i) (KeptBut X W.heap.size) (kidsv l i).length (wholeOr (kidsv l i)) W := by
  intro lp J hJ hY h0
  refine callsIn_of_wp Try.func50 rfl trivial ?_ rfl
  simp only [Try.ntmps50, List.size_toArray, List.length_cons, List.length_nil, Nat.reduceAdd, Nat.reduceSub, Array.replicate_succ, Array.replicate_zero, List.push_toArray, List.append_toArray, List.nil_append, List.cons_append]
  have hi : i < l.length := by simpa using (endv_in l i hE).2
  have har := endv_ar l i hE
  have HK := Lib.hid (kidsv_eq l i hE)
  rcases hv.open with ⟨rfl, _⟩ | ⟨b, o, cap, rfl, hpos, hcap, hbs, hcell⟩
  · simp at hi
  · obtain ⟨hc0, hc1⟩ := hcell i hi
    have hab := ar_bound l[i]
    have HA := Lib.hid (arAt_in l i hi)
    rw [HA.out] at har
    gi_wp2_with (gi_at_call 25; refine (callsIn_wide.2 (Arity_any l[i] _)).mono ?_; rintro e w1 ⟨rfl, hb⟩)
    gi_loopw [4, 12] (fun k c wr => ∃ m : Nat, (m : Int) ≤ ar l[i] ∧ c = .int .i64 m ∧ k = .int .i64 (kth l (i + 1) m) ∧ J (upto (kth l (i + 1)) m) true wr ∧ KeptBut X W.heap.size W wr) (fun _ c _ => (ar l[i] - intOf c).toNat)
    case atStart =>
      exact ⟨0, har, rfl, rfl, ownFrom_belows (hJ true) h0 hb, keptBut_below hb⟩
    case round =>
      obtain ⟨m, hm, rfl, rfl, hJs, hkw⟩ := hrel
      by_cases hlt : (m : Int) < ar l[i]
      · obtain ⟨fn, tmps, assign, body, hy, hR⟩ := hY _ (kth l (i + 1) m) wr hJs (by rw [HK.out]; exact List.mem_map.2 ⟨m, List.mem_range.2 (by rw [HA.out]; omega), rfl⟩) (by rw [upto_length, HK.out, upto_length, HA.out]; omega)
        gi_wp2
        refine hR.mono ?_
        rintro e W3 ⟨bb, rfl, hJ3, hk3⟩
        cases bb with
        | true =>
          have hk3' := hkw.trans hk3
          have hbl3 : W3.cell? ⟨Bl, 0, none⟩ = some (.slice (some ⟨b, o, none⟩) l.length cap) := hk3'.cell (p := ⟨Bl, 0, none⟩) hxl hbl
          have hv3 : NodesAt W3 (.slice (some ⟨b, o, none⟩) l.length cap) l := NodesIn.mono (SliceIn.keptBut hv hk3') (fun _ h => h.2)
          gi_wp2_with (gi_at_call 19; refine (callsIn_wide.2 (End_any l _ _ _ hv3 hl)).mono ?_; rintro e w4 ⟨rfl, hb4⟩)
          go_roundw
          case rel => exact ⟨m + 1, by omega, by go_num, rfl, by rw [upto_succ]; exact ownFrom_belows (hJ true) hJ3 hb4, hk3'.trans (keptBut_below hb4)⟩
          case measure => simp [intOf]; omega
        | false =>
          gi_wp2
          refine bodyPost_ret (results_none rfl _ _ _) rfl ?_
          refine ⟨⟨_, rfl⟩, _, false, ?_, hJ3⟩
          rw [wholeOr, if_neg (by decide), HK.out, HA.out, ← upto_succ]
          obtain ⟨d, hd⟩ : ∃ d, (ar l[i]).toNat = (m + 1) + d := ⟨(ar l[i]).toNat - (m + 1), by omega⟩
          rw [hd]
          exact upto_prefix _ _ _
      · gi_wp2
        go_end0
        refine ⟨⟨_, rfl⟩, _, .inr ⟨?_, hJs⟩⟩
        rw [wholeOr, if_pos rfl, HK.out, HA.out, show (ar l[i]).toNat = m from by omega]
end Go.Proofs.Ytnmgfobpcengkaa
