/-
  slices.Grow, slices.Concat, arena.joined: lists of nodes, one behind the other.
-/
import Derived.Test.YtnmgfobpcengkaaAppend
import Derived.Test.YtnmgfobpcengkaaKids
import Derived.Lib.AppendZeros
import Derived.WalkSpells
import Derived.Lib.SliceRun
namespace Go.Proofs.Ytnmgfobpcengkaa
set_option maxRecDepth 100000
open Go.RowKit
set_option linter.unusedVariables false

theorem infoNode : (Try.prog.info? 36).map (fun i => (i.zero, i.size, i.bytes)) = some (some (.agg #[.int .i64 0, .int .i64 0]), 2, 16) := by kernel_rfl

theorem Grow_nil (n : Nat) (hn : n ≤ 20000000) (w : World) :
    Calls Try.prog 53 #[.slice none 0 0, .int .i64 n] w fun e w' => ∃ u, e = .returned u ∧ w'.ownsRow w.heap.size 36 2 u 0 [] ∧ Below w.heap.size w w' := by
  obtain ⟨i0, hi, hz0, hz1, hz2⟩ := info_parts infoNode
  by_cases h0 : n = 0
  · subst h0
    go_enter Try.func53, Try.ntmps53
    go_wp2
    go_ret
    exact ⟨_, rfl, World.ownsRow_nil _ _ _ _, Below.refl _ _⟩
  · have hrz : ∀ ty, (Builtin.append_ #[22, 3] ty #[.slice none 0 0, .int .i64 (n : Int)]).run Try.prog w =
        .ok (.slice (some ⟨w.heap.size, 0, none⟩) n (grownCap w n 0 36)) (w.drew.alloc (.cells (Builtin.zeroCells (Value.agg #[.int .i64 0, .int .i64 0]).cells n ++ Builtin.zeroCells (Value.agg #[.int .i64 0, .int .i64 0]).cells (grownCap w n 0 36 - n)) 36)) := fun ty =>
      Lib.run_append_nil_zeros w 22 3 ty 36 i0 _ .i64 .i64 rfl rfl hi hz0 n (by omega) (by rw [hz1]; decide) (by omega) (by rw [hz2]; omega)
    have hG := grownCap_ge w n 0 36
    have hG2 := grownCap_le_maxLen w n 0 36 (by unfold maxLen; omega)
    obtain ⟨G, hGe⟩ : ∃ G, G = grownCap w n 0 36 := ⟨_, rfl⟩
    rw [← hGe] at hrz hG hG2
    have hs : (Builtin.zeroCells (Value.agg #[.int .i64 0, .int .i64 0]).cells n ++ Builtin.zeroCells (Value.agg #[.int .i64 0, .int .i64 0]).cells (G - n)).size = G * 2 := by
      simp [Builtin.zeroCells, Value.cells]; omega
    obtain ⟨cs, hcs⟩ : ∃ cs, cs = Builtin.zeroCells (Value.agg #[.int .i64 0, .int .i64 0]).cells n ++ Builtin.zeroCells (Value.agg #[.int .i64 0, .int .i64 0]).cells (G - n) := ⟨_, rfl⟩
    rw [← hcs] at hrz hs
    have hG3 : G ≤ 9223372036854775807 := by unfold maxLen at hG2; omega
    have hpos : (0 : Int) < (n : Int) := by omega
    clear hcs hGe
    go_enter Try.func53, Try.ntmps53
    go_wp2_with (at_builtin; refine Lib.wpList_append_run _ rfl _ _ _ _ rfl _ _ rfl rfl _ _ (hrz _) ?_)
    go_ret
    exact ⟨_, rfl, World.ownsRow_made (w := w.drew) cs G (Nat.le_refl _) hG2 hs, ((Below.refl _ w).drew).alloc (Nat.le_refl _) _⟩

/-- Lists of nodes, with the values that read as them: all of them, one behind the other. -/
def catV (ps : List (Value × List Nd)) : List Nd := ps.flatMap Prod.snd
theorem catV_take (ps : List (Value × List Nd)) (k : Nat) (h : k < ps.length) : catV (ps.take (k + 1)) = catV (ps.take k) ++ ps[k].2 := by
  rw [catV, List.take_succ_eq_append_getElem h, List.flatMap_append]; simp [catV]
theorem catV_le (ps : List (Value × List Nd)) (k : Nat) : (catV (ps.take k)).length ≤ (catV ps).length := by
  conv => rhs; rw [← List.take_append_drop k ps, catV, List.flatMap_append, List.length_append]
  exact Nat.le_add_right _ _
theorem nodeCells_append (a b : List Nd) : nodeCells (a ++ b) = nodeCells a ++ nodeCells b := by simp [nodeCells]

set_option maxHeartbeats 4000000 in
theorem Concat_any (ps : List (Value × List Nd)) (v : Value) (w : World) (hv : SliceIn (fun k => k < w.heap.size) w v ps.length (ps.map Prod.fst)) (hp : ∀ x ∈ ps, NodesAt w x.1 x.2) (hl : (catV ps).length ≤ 12000000) (hn : ps.length ≤ 1000) :
    Calls Try.prog 52 #[v] w fun e w' => ∃ u, e = .returned u ∧ w'.ownsRow w.heap.size 36 2 u (catV ps).length (nodeCells (catV ps)) ∧ Below w.heap.size w w' := by
  obtain ⟨i0, hi, hz0, hz1, hz2⟩ := info_parts infoNode
  obtain ⟨pv, cv, hsl⟩ : ∃ (p : Option Addr) (c : Nat), v = .slice p ps.length c := by
    rcases hv with ⟨p, c, h, h0, _⟩ | ⟨b, o, c, h, _⟩
    · exact ⟨p, c, by rw [h, h0]⟩
    · exact ⟨_, _, h⟩
  subst hsl
  have hcell : ∀ k (hk : k < ps.length), ∃ (b o p' : Nat), pv = some ⟨b, o, none⟩ ∧ b < w.heap.size ∧ w.cell? ⟨b, o + k, none⟩ = some ps[k].1 := by
    intro k hk
    rcases hv with ⟨p, c, h, h0, _⟩ | ⟨b, o, c, h, h1, h2, h3, h4⟩
    · omega
    · refine ⟨b, o, 0, by simp at h; exact h.1, h3, ?_⟩
      simpa [hk] using h4 k (by simpa using hk)
  go_enter Try.func52, Try.ntmps52
  go_wp2
  go_loopw [3, 11] (fun t i wr => ∃ k : Nat, i = .int .i64 k ∧ k ≤ ps.length ∧ Hid (t = .int .i64 (catV (ps.take k)).length) ∧ wr = w) (fun _ i _ => ps.length - (intOf i).toNat)
  case atStart => exact ⟨0, rfl, Nat.zero_le _, Lib.hid rfl, rfl⟩
  case round =>
    obtain ⟨k, rfl, hk, ht, hwe⟩ := hrel
    obtain rfl := ht.out
    replace hwe := hwe.symm
    subst hwe
    by_cases hlt : k < ps.length
    · obtain ⟨b, o, _, rfl, hb, hc⟩ := hcell k hlt
      obtain ⟨pk, ck, hks⟩ := (hp ps[k] (List.getElem_mem hlt)).slice
      rw [hks] at hc
      have hT := catV_take ps k hlt
      have hL1 := catV_le ps (k + 1)
      have hT2 : (catV (ps.take (k + 1))).length = (catV (ps.take k)).length + ps[k].2.length := by rw [hT, List.length_append]
      have HT := Lib.hid hT2
      rw [hT2] at hL1
      have n1 : (k : Int) < (ps.length : Int) := by omega
      clear hT hT2 hcell
      go_wp2
      go_roundw
      case rel => exact ⟨k + 1, by go_num, by omega, Lib.hid (congrArg (Value.int .i64) (by rw [HT.out]; omega)), trivial⟩
      case measure => simp [intOf]; omega
    · obtain rfl : k = ps.length := by omega
      rw [List.take_length]
      go_wp2_with (fail)
      refine (Grow_nil (catV ps).length (by omega) _).mono ?_
      rintro e w1 ⟨u, rfl, hr, hb⟩
      go_wp2_with (fail)
      go_loopw [6, 27] (fun u i wr => ∃ k : Nat, i = .int .i64 k ∧ k ≤ ps.length ∧ wr.ownsRow w.heap.size 36 2 u (catV (ps.take k)).length (nodeCells (catV (ps.take k))) ∧ Below w.heap.size w wr) (fun _ i _ => ps.length - (intOf i).toNat)
      case atStart => exact ⟨0, rfl, Nat.zero_le _, hr, hb⟩
      case round =>
        obtain ⟨k, rfl, hk, hrow, hB⟩ := hrel
        by_cases hlt : k < ps.length
        · obtain ⟨b, o, _, rfl, hbl, hc⟩ := hcell k hlt
          have hpk := (hp ps[k] (List.getElem_mem hlt)).below hB
          obtain ⟨pk, ck, hks⟩ := hpk.slice
          have hc := (hB.cell (p := ⟨b, o + k, none⟩) hbl).trans hc
          rw [hks] at hc hpk
          have hT := Lib.hid (catV_take ps k hlt)
          have hL1 := catV_le ps (k + 1)
          have hT2 : (catV (ps.take (k + 1))).length = (catV (ps.take k)).length + ps[k].2.length := by rw [hT.out, List.length_append]
          have HT := Lib.hid hT2
          rw [hT2] at hL1
          have n1 : (k : Int) < (ps.length : Int) := by omega
          clear hT2 hcell
          go_wp2_with (at_builtin; refine wpList_append_in rfl _ _ 22 rfl w.heap.size 36 i0 (.agg #[.int .i64 0, .int .i64 0]) 2 16 Try.underlying22 hi hz0 hz1 hz2 rfl (by decide) _ _ _ rfl hrow _ ps[k].2.length _ rfl hpk (by rw [nodeCells_length]; omega) (nodes_one _) (by unfold maxLen; omega) (by omega) hB.size ?_; intro v' w3 hown' hgrow)
          go_roundw
          case rel => exact ⟨k + 1, by go_num, by omega, by rw [HT.out, hT.out, nodeCells_append]; exact hown', hB.grown hgrow hB.size (fun j hj => (hrow.lt j hj).1)⟩
          case measure => simp [intOf]; omega
        · obtain rfl : k = ps.length := by omega
          rw [List.take_length] at hrow
          go_wp2_with (fail)
          go_ret
          exact ⟨_, rfl, hrow, hB⟩
end Go.Proofs.Ytnmgfobpcengkaa
