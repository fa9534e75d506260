/-
  The path laws' fixed facts.
-/
import Derived.Test.YtnmgfobpcengkaaOf
import Derived.Test.YtnmgfobpcengkaaFind
import Derived.Test.YtnmgfobpcengkaaCompare
namespace Go.Proofs.Ytnmgfobpcengkaa
open Go.RowKit

/-- A literal slice of nodes, of ints. -/
theorem nodesAt_lit (w : World) (l : List Nd) (cs : Array Value) (t : TypeId) (h0 : 0 < l.length) (h : cs.toList = nodeCells l) : NodesAt (w.alloc (.cells cs t)) (.slice (some ⟨w.heap.size, 0, none⟩) l.length l.length) l := by
  refine .inr ⟨w.heap.size, 0, l.length, rfl, h0, Nat.le_refl _, by simp, fun j hj => ?_⟩
  have hb := World.alloc_heap_new w (.cells cs t)
  simp only [World.cell?, hb]
  rw [← h]; simp
theorem intsAt_lit (w : World) (l : List Int) (cs : Array Value) (t : TypeId) (h0 : 0 < l.length) (h : cs.toList = l.map (Value.int .i64)) : IntsAt (w.alloc (.cells cs t)) (.slice (some ⟨w.heap.size, 0, none⟩) l.length l.length) l := by
  refine .inr ⟨w.heap.size, 0, l.length, rfl, h0, Nat.le_refl _, by simp, fun j hj => ?_⟩
  have hb := World.alloc_heap_new w (.cells cs t)
  simp only [World.cell?, hb]
  rw [← h]; simp

/-- The document's example. -/
def exl : List Nd := [(7, 0), (1, 1), (5, 0), (1, 2)]
theorem exl_of3 : ofv exl 3 = some [1, 0] := by decide +kernel
theorem exl_of4 : ofv exl 4 = none := by decide +kernel
theorem exl_find : findv exl [1, 0] = 3 ∧ findv exl [] = 0 ∧ findv exl [2] = -1 := by decide +kernel
theorem exl_cmp : cmpL [] [1, 0] = -1 ∧ cmpL [1, 0] [1, 0] = 0 ∧ cmpL [1, 0] [0] = 1 := by decide +kernel

set_option maxRecDepth 100000 in
set_option maxHeartbeats 4000000 in
theorem works11_any (w : World) : Calls Try.prog 13 #[] w fun e w' => e = .returned (.bool true) ∧ Below w.heap.size w w' := by
  have e3 := exl_of3
  obtain ⟨f1, f2, f3⟩ := exl_find
  obtain ⟨g1, g2, g3⟩ := exl_cmp
  have hnil : ∀ W : World, IntsAt W (.slice none 0 0) [] := fun W => .inl ⟨none, 0, rfl, rfl, rfl, fun _ => rfl⟩
  have cOf3 := fun v W h => Of_any exl 3 v W h (by decide)
  have cOf4 := fun v W h => Of_any exl 4 v W h (by decide)
  rw [exl_of3] at cOf3
  rw [exl_of4] at cOf4
  have cI := fun u v W h1 h2 => Ints_any [1, 0] [1, 0] u v W h1 h2 (by decide) (by decide)
  rw [decide_eq_true rfl] at cI
  have cF1 := fun v u W h1 h2 => Find_any exl [1, 0] v u W h1 h2 (by decide) (by decide)
  have cF2 := fun v u W h1 h2 => Find_any exl [] v u W h1 h2 (by decide) (by decide)
  have cF3 := fun v u W h1 h2 => Find_any exl [2] v u W h1 h2 (by decide) (by decide)
  rw [f1] at cF1
  rw [f2] at cF2
  rw [f3] at cF3
  have cC1 := fun u v W h1 h2 => Compare_any [] [1, 0] u v W h1 h2 (by decide) (by decide)
  have cC2 := fun u v W h1 h2 => Compare_any [1, 0] [1, 0] u v W h1 h2 (by decide) (by decide)
  have cC3 := fun u v W h1 h2 => Compare_any [1, 0] [0] u v W h1 h2 (by decide) (by decide)
  rw [g1] at cC1
  rw [g2] at cC2
  rw [g3] at cC3
  clear e3 f1 f2 f3 g1 g2 g3
  have HOf3 := Lib.hid cOf3
  have HOf4 := Lib.hid cOf4
  have HI := Lib.hid cI
  have HF1 := Lib.hid cF1
  have HF2 := Lib.hid cF2
  have HF3 := Lib.hid cF3
  have HC1 := Lib.hid cC1
  have HC2 := Lib.hid cC2
  have HC3 := Lib.hid cC3
  have Hnil := Lib.hid hnil
  clear cOf3 cOf4 cI cF1 cF2 cF3 cC1 cC2 cC3 hnil
  have hB0 := below_alloc1 w (.cells #[.int .i64 7, .int .i64 0, .int .i64 1, .int .i64 1, .int .i64 5, .int .i64 0, .int .i64 1, .int .i64 2] 36)
  have hv0 := nodesAt_lit w exl #[.int .i64 7, .int .i64 0, .int .i64 1, .int .i64 1, .int .i64 5, .int .i64 0, .int .i64 1, .int .i64 2] 36 (by decide) rfl
  go_enter Try.func13, Try.ntmps13
  go_wp2_with (fail)
  refine (HOf3.out _ _ hv0).mono ?_
  rintro e w1 ⟨u, rfl, hu1, hb1⟩
  have hv1 := NodesIn.below hv0 hb1
  have hB1 := hB0.trans (hb1.mono hB0.size)
  clear hv0 hb1 hB0
  dsimp only [Option.isSome_some, Option.getD_some] at hu1 ⊢
  go_wp2_with (fail)
  refine (HOf4.out _ _ hv1).mono ?_
  rintro e w2 ⟨u', rfl, _, hb2⟩
  have hv2 := NodesIn.below hv1 hb2
  have hu2 := IntsIn.below hu1 hb2
  have hB2 := hB1.trans (hb2.mono hB1.size)
  clear hv1 hu1 hb2 hB1
  dsimp only [Option.isSome_none, Option.getD_none]
  go_wp2_with (fail)
  have ha3 := below_alloc1 w2 (.cells #[.int .i64 1, .int .i64 0] 3)
  refine (HI.out _ _ _ (IntsIn.below hu2 ha3) (intsAt_lit w2 [1, 0] #[.int .i64 1, .int .i64 0] 3 (by decide) rfl)).mono ?_
  rintro e w3 ⟨rfl, hb3⟩
  replace hb3 := ha3.trans (hb3.mono ha3.size)
  have hv3 := NodesIn.below hv2 hb3
  have hu3 := IntsIn.below hu2 hb3
  have hB3 := hB2.trans (hb3.mono hB2.size)
  clear hv2 hu2 hb3 hB2 ha3
  go_wp2_with (fail)
  refine (HF1.out _ _ _ hv3 hu3).mono ?_
  rintro e w4 ⟨rfl, hb4⟩
  have hv4 := NodesIn.below hv3 hb4
  have hu4 := IntsIn.below hu3 hb4
  have hB4 := hB3.trans (hb4.mono hB3.size)
  clear hv3 hu3 hb4 hB3
  go_wp2_with (fail)
  refine (HF2.out _ _ _ hv4 (Hnil.out _)).mono ?_
  rintro e w5 ⟨rfl, hb5⟩
  have hv5 := NodesIn.below hv4 hb5
  have hu5 := IntsIn.below hu4 hb5
  have hB5 := hB4.trans (hb5.mono hB4.size)
  clear hv4 hu4 hb5 hB4
  go_wp2_with (fail)
  have ha6 := below_alloc1 w5 (.cells #[.int .i64 2] 3)
  refine (HF3.out _ _ _ (NodesIn.below hv5 ha6) (intsAt_lit w5 [2] #[.int .i64 2] 3 (by decide) rfl)).mono ?_
  rintro e w6 ⟨rfl, hb6⟩
  replace hb6 := ha6.trans (hb6.mono ha6.size)
  have hu6 := IntsIn.below hu5 hb6
  have hB6 := hB5.trans (hb6.mono hB5.size)
  clear hv5 hu5 hb6 hB5 ha6
  go_wp2_with (fail)
  refine (HC1.out _ _ _ (Hnil.out _) hu6).mono ?_
  rintro e w7 ⟨rfl, hb7⟩
  have hu7 := IntsIn.below hu6 hb7
  have hB7 := hB6.trans (hb7.mono hB6.size)
  clear hu6 hb7 hB6
  go_wp2_with (fail)
  refine (HC2.out _ _ _ hu7 hu7).mono ?_
  rintro e w8 ⟨rfl, hb8⟩
  have hu8 := IntsIn.below hu7 hb8
  have hB8 := hB7.trans (hb8.mono hB7.size)
  clear hu7 hb8 hB7
  go_wp2_with (fail)
  have ha9 := below_alloc1 w8 (.cells #[.int .i64 0] 3)
  refine (HC3.out _ _ _ (IntsIn.below hu8 ha9) (intsAt_lit w8 [0] #[.int .i64 0] 3 (by decide) rfl)).mono ?_
  rintro e w9 ⟨rfl, hb9⟩
  replace hb9 := ha9.trans (hb9.mono ha9.size)
  have hB9 := hB8.trans (hb9.mono hB8.size)
  go_wp2_with (fail)
  go_ret
  exact ⟨rfl, hB9⟩
end Go.Proofs.Ytnmgfobpcengkaa
