/-
  Parts joined into one text: Ins, T12a, Buf, BufV, Shape, ReplLaw, Delt, DlD. No condition.
-/
import Derived.Shelf.Spec.SlicesInsert
import Derived.Lib.AppendZerosOnto
import Derived.Laws.NewBlocks
import Derived.Test.YtalehbmgbjiigaaEd
import Derived.Test.YtalehbmgbjiigaaEj
import Derived.Test.YtalehbmgbjiigaaEk
import Derived.Test.YtalehbmgbjiigaaEl

section
namespace Go.Proofs.Ytalehbmgbjiigaa
open Go.RowKit Go.Lib Go.Shelf
set_option linter.unusedVariables false
set_option linter.unusedSimpArgs false

set_option maxHeartbeats 4000000 in
set_option maxRecDepth 100000 in
theorem insert_room (b n c i vb vc : Nat) (arr arrv : Array Value) (tv : TypeId) (v0 v1 : Value) (w : World) (hi : i < n) (hroom : n + 1 ≤ c) (hcm : c ≤ maxLen) (hb : w.heap[b]? = some (.cells arr 46 (0, 0))) (hsz : arr.size = c * 2)
    (hvb : w.heap[vb]? = some (.cells arrv tv (0, 0))) (h0 : arrv[0]? = some v0) (h1 : arrv[1]? = some v1) (o0 : v0.oneCell' = true) (o1 : v1.oneCell' = true) (hne : vb ≠ b) (hone : ∀ x ∈ arr.toList.take (2 * n), x.oneCell' = true) :
    Calls Try.prog 89 #[.slice (some ⟨b, 0, none⟩) n c, .int .i64 i, .slice (some ⟨vb, 0, none⟩) 1 vc] w fun e w' => ∃ A : Array Value, e = .returned (.slice (some ⟨b, 0, none⟩) (n + 1) c) ∧ w' = w.drew.setRow b A ∧ A.size = c * 2 ∧
      A.toList.take (2 * (n + 1)) = arr.toList.take (2 * i) ++ [v0, v1] ++ (arr.toList.take (2 * n)).drop (2 * i) := by
  obtain ⟨i0, hi0, hz0, hz1, hz2⟩ := info_parts infoNode
  have hzz : ∀ w, (Go.sizeOf 46).run Try.prog w = .ok 2 w := fun w => by simp [sizeOf, typeInfo, hi0, hz1]
  have hc63 : c ≤ 9223372036854775807 := by unfold maxLen at hcm; omega
  have hy2 : ¬ ((i : Int) = (n : Int)) := by omega
  have hov : ∀ lb cb, (callFunc 122 #[.slice (some ⟨vb, 0, none⟩) 1 vc, .slice (some ⟨b, (i + 1) * 2, none⟩) lb cb]).run Try.prog w = .ok (.value (.bool false)) w := fun lb cb => by
    rw [run_callFunc_extern Try.func122 (by kernel_rfl) (by kernel_rfl) (by kernel_rfl) (e := Extern.SlicesOverlaps.overlaps #[23, 23] #[4]) (by kernel_rfl),
      Lib.run_overlaps_apart w 23 4 46 Try.underlying23 2 hzz ⟨vb, 0, none⟩ ⟨b, (i + 1) * 2, none⟩ 1 vc lb cb hne tv 46 arrv.size arr.size (by simp [World.shape?, hvb]) (by simp [World.shape?, hb]) (by omega) (by simp [World.frozen?, hvb]) (by simp [World.frozen?, hvb])]
    rfl
  have hsl : arr.toList.length = c * 2 := by simp [hsz]
  have hw1 : IntKind.i64.wrap ((i : Int) + 1) = (i : Int) + 1 := by rw [IntKind.wrap_i64]; omega
  have hw2 : IntKind.i64.wrap ((n : Int) + 1) = (n : Int) + 1 := by rw [IntKind.wrap_i64]; omega
  have hb1 : (0 : Int) ≤ (i : Int) + 1 := by omega
  have hin : i ≤ n := by omega
  have htn : ((i : Int) + 1).toNat = i + 1 := by omega
  have hb2 : ¬ (c = i + 1) := by omega
  have hb3 : (i : Int) ≤ (n : Int) + 1 := by omega
  have hb4 : ¬ (c = i) := by omega
  obtain ⟨R1, hR1⟩ : ∃ R1 : List Value, R1 = arr.toList.take (2 * (i + 1)) ++ (arr.toList.drop (2 * i)).take (2 * (n - i)) ++ arr.toList.drop (2 * (i + 1) + 2 * (n - i)) := ⟨_, rfl⟩
  have hR1l : R1.length = c * 2 := by rw [hR1]; simp; omega
  have hml : ((arr.toList.drop (2 * i)).take (2 * (n - i))).length = 2 * (n - i) := by simp; omega
  have hcp1 : ∀ ty dc sc, (Builtin.copy_ #[23, 23] ty #[.slice (some ⟨b, (i + 1) * 2, none⟩) (n - i) dc, .slice (some ⟨b, i * 2, none⟩) (n + 1 - i) sc]).run Try.prog w.drew = .ok (.int .i64 ((n - i : Nat) : Int)) (w.drew.setRow b R1.toArray) := fun ty dc sc => by
    have hmin : Nat.min (n + 1 - i) (n - i) = n - i := by simp only [Nat.min_def]; split <;> omega
    have h := run_copy_rows (P := Try.prog) w.drew 23 ty 46 i0 Try.underlying23 hi0 b ((i + 1) * 2) (n - i) dc arr 46 hb ⟨b, i * 2, none⟩ (n + 1 - i) sc ((arr.toList.drop (2 * i)).take (2 * (n - i))) (by rw [hmin, hz1, hml]; omega) (fun j v hj => by
      rw [Addr.add_lit]
      have hlt := (List.getElem?_eq_some_iff.1 hj).1
      rw [List.getElem?_take_of_lt (by rw [hml] at hlt; exact hlt), List.getElem?_drop] at hj
      rw [show w.drew.cell? ⟨b, i * 2 + j, none⟩ = w.cell? ⟨b, i * 2 + j, none⟩ from rfl, cell_of_heap hb, Nat.mul_comm i 2]
      simpa using hj) (fun v hv => by
      have e : (arr.toList.drop (2 * i)).take (2 * (n - i)) = (arr.toList.take (2 * n)).drop (2 * i) := by rw [List.drop_take]; congr 1; omega
      rw [e] at hv
      exact hone v (List.mem_of_mem_drop hv)) (by rw [hml]; omega)
    rw [hmin, hml, Nat.mul_comm (i + 1) 2] at h
    rw [hR1]
    rw [Nat.mul_comm (i + 1) 2]
    exact h
  have hcp2 : ∀ (W : World), W.heap = (w.drew.setRow b R1.toArray).heap → ∀ ty dc, (Builtin.copy_ #[23, 23] ty #[.slice (some ⟨b, i * 2, none⟩) (n + 1 - i) dc, .slice (some ⟨vb, 0, none⟩) 1 vc]).run Try.prog W = .ok (.int .i64 1) (W.setRow b (R1.take (2 * i) ++ [v0, v1] ++ R1.drop (2 * i + 2)).toArray) := fun W hW ty dc => by
    have hmin : Nat.min 1 (n + 1 - i) = 1 := by simp only [Nat.min_def]; split <;> omega
    have hWb : W.heap[b]? = some (.cells R1.toArray 46 (0, 0)) := by rw [hW]; exact setRow_heap w.drew b arr _ _ _ hb
    have hWv : W.heap[vb]? = some (.cells arrv tv (0, 0)) := by rw [hW, setRow_other w.drew b vb _ hne]; exact hvb
    have h := run_copy_rows (P := Try.prog) W 23 ty 46 i0 Try.underlying23 hi0 b (i * 2) (n + 1 - i) dc R1.toArray 46 hWb ⟨vb, 0, none⟩ 1 vc [v0, v1] (by rw [hmin, hz1]; rfl) (fun j v hj => by
      rw [Addr.add_lit, cell_of_heap hWv]
      match j, hj with
      | 0, hj => rw [← hj]; exact h0
      | 1, hj => rw [← hj]; exact h1
      | j + 2, hj => simp at hj) (fun v hv => by
      simp only [List.mem_cons, List.not_mem_nil, or_false] at hv
      rcases hv with rfl | rfl
      · exact o0
      · exact o1) (by simp; omega)
    rw [hmin] at h
    rw [Nat.mul_comm 2 i]
    exact h
  have hfin : (R1.take (2 * i) ++ [v0, v1] ++ R1.drop (2 * i + 2)).toArray.size = c * 2 := by simp; omega
  have hend : (R1.take (2 * i) ++ [v0, v1] ++ R1.drop (2 * i + 2)).take (2 * (n + 1)) = arr.toList.take (2 * i) ++ [v0, v1] ++ (arr.toList.take (2 * n)).drop (2 * i) := by
    rw [hR1]
    exact ins_cells arr.toList n i [v0, v1] rfl hi (by omega)
  have hmix : Try.prog.follows .mixedOrders = true := by kernel_rfl
  go_enter Try.func89, Try.ntmps89
  go_wp2_with (simp only [hov])
  go_region_law_o (refine step_copy_runI rfl _ _ 23 23 rfl _ _ (by simp [Act.eval, Act.put]) (by simp [Act.eval, Act.put]) (hcp1 _ _ _) ?_)
  go_wp2_with (at_builtin; refine wpList_copy_runI _ rfl _ _ 23 23 rfl _ _ rfl rfl (hcp2 _ rfl _ _) ?_)
  go_ret
  refine ⟨_, rfl, ?_, hfin, hend⟩
  rw [setRow_setRow, hR1]
  simp only [List.append_assoc, List.cons_append, List.nil_append]


theorem grow_cells (arr z : List Value) (n i : Nat) (v : List Value) (hv : v.length = 2) (hi : i < n) (hn : 2 * n ≤ arr.length) (hz : 2 * (n + 1) ≤ 2 * i + z.length) :
    let r0 := arr.take (2 * i) ++ z
    let r1 := r0.take (2 * i) ++ v ++ r0.drop (2 * i + 2)
    (r1.take (2 * (i + 1)) ++ (arr.take (2 * n)).drop (2 * i) ++ r1.drop (2 * (i + 1) + 2 * (n - i))).take (2 * (n + 1)) = arr.take (2 * i) ++ v ++ (arr.take (2 * n)).drop (2 * i) ∧
    r1.length = r0.length ∧ (r1.take (2 * (i + 1)) ++ (arr.take (2 * n)).drop (2 * i) ++ r1.drop (2 * (i + 1) + 2 * (n - i))).length = r0.length := by
  intro r0 r1
  have hl0 : r0.length = 2 * i + z.length := by
    show (arr.take (2 * i) ++ z).length = _
    simp; omega
  have e0 : r0.take (2 * i) = arr.take (2 * i) := List.take_left' (by simp; omega)
  have hl1 : r1.length = r0.length := by
    show (r0.take (2 * i) ++ v ++ r0.drop (2 * i + 2)).length = _
    simp; omega
  have e1 : r1.take (2 * (i + 1)) = arr.take (2 * i) ++ v := by
    show (r0.take (2 * i) ++ v ++ _).take _ = _
    rw [e0]
    exact List.take_left' (by simp; omega)
  refine ⟨?_, hl1, by simp; omega⟩
  rw [e1]
  exact List.take_left' (by simp; omega)

set_option maxHeartbeats 4000000 in
set_option maxRecDepth 100000 in
theorem insert_grow (b n c i vb vc : Nat) (arr arrv : Array Value) (tv : TypeId) (v0 v1 : Value) (w : World) (hi : i < n) (hnc : n ≤ c) (hroom : c < n + 1) (hn : n ≤ 1000000) (hb : w.heap[b]? = some (.cells arr 46 (0, 0))) (hsz : arr.size = c * 2)
    (hvb : w.heap[vb]? = some (.cells arrv tv (0, 0))) (h0 : arrv[0]? = some v0) (h1 : arrv[1]? = some v1) (o0 : v0.oneCell' = true) (o1 : v1.oneCell' = true) (hne : vb ≠ b) (hone : ∀ x ∈ arr.toList.take (2 * n), x.oneCell' = true) :
    Calls Try.prog 89 #[.slice (some ⟨b, 0, none⟩) n c, .int .i64 i, .slice (some ⟨vb, 0, none⟩) 1 vc] w fun e w' => ∃ (A : Array Value) (c' : Nat), e = .returned (.slice (some ⟨w.heap.size, 0, none⟩) (n + 1) c') ∧ w' = w.drew.drew.alloc (.cells A 46) ∧ n + 1 ≤ c' ∧ c' ≤ maxLen ∧ A.size = c' * 2 ∧
      A.toList.take (2 * (n + 1)) = arr.toList.take (2 * i) ++ [v0, v1] ++ (arr.toList.take (2 * n)).drop (2 * i) := by
  obtain ⟨i0, hi0, hz0, hz1, hz2⟩ := info_parts infoNode
  have hy2 : ¬ ((i : Int) = (n : Int)) := by omega
  have hy3 : (c : Int) < (n : Int) + 1 := by omega
  have hsl : arr.toList.length = c * 2 := by simp [hsz]
  have hw1 : IntKind.i64.wrap ((i : Int) + 1) = (i : Int) + 1 := by rw [IntKind.wrap_i64]; omega
  have hw2 : IntKind.i64.wrap ((n : Int) + 1) = (n : Int) + 1 := by rw [IntKind.wrap_i64]; omega
  have hkk : (n : Int) + 1 - (i : Int) = ((n + 1 - i : Nat) : Int) := by omega
  have hik : i + (n + 1 - i) = n + 1 := by omega
  have hbw : b < w.heap.size := (Array.getElem?_eq_some_iff.1 hb).1
  have hvw : vb < w.heap.size := (Array.getElem?_eq_some_iff.1 hvb).1
  have hold : (Builtin.firstCells i0.size i (.slice (some ⟨b, 0, none⟩) i c)).run Try.prog w.drew = .ok (arr.toList.take (2 * i)).toArray w.drew :=
    run_firstCells_some w.drew i0.size i ⟨b, 0, none⟩ i c (arr.toList.take (2 * i)) (by rw [hz1]; simp; omega) (fun j v hj => by
      rw [Addr.add_lit, Nat.zero_add]
      have hlt := (List.getElem?_eq_some_iff.1 hj).1
      rw [List.getElem?_take_of_lt (by simp at hlt; omega)] at hj
      rw [show w.drew.cell? ⟨b, j, none⟩ = w.cell? ⟨b, j, none⟩ from rfl, cell_of_heap hb]
      simpa using hj)
  obtain ⟨G, hG⟩ : ∃ G, G = grownCap w (n + 1) c 46 := ⟨_, rfl⟩
  have hGn : n + 1 ≤ G := by rw [hG]; exact grownCap_ge w _ _ _
  have hGm : G ≤ maxLen := by rw [hG]; exact grownCap_le_maxLen w (n + 1) c 46 (by unfold maxLen; omega)
  have hG63 : G ≤ 9223372036854775807 := by unfold maxLen at hGm; omega
  obtain ⟨Z, hZ⟩ : ∃ Z : Array Value, Z = Builtin.zeroCells (Value.agg #[.int .i64 0, .int .i64 0]).cells (n + 1 - i) ++ Builtin.zeroCells (Value.agg #[.int .i64 0, .int .i64 0]).cells (G - (n + 1)) := ⟨_, rfl⟩
  have hZl : Z.size = 2 * (G - i) := by
    rw [hZ]
    simp only [Array.size_append, size_zeroCells, Value.cells]
    simp; omega
  have hrz : ∀ ty, (Builtin.append_ #[23, 3] ty #[.slice (some ⟨b, 0, none⟩) i c, .int .i64 ((n : Int) + 1 - (i : Int))]).run Try.prog w =
      .ok (.slice (some ⟨w.heap.size, 0, none⟩) (n + 1) G) (w.drew.alloc (.cells (arr.toList.take (2 * i) ++ Z.toList).toArray 46)) := fun ty => by
    have h := Lib.run_append_grow_zeros w 23 3 ty 46 i0 _ .i64 .i64 Try.underlying23 Try.underlying3 hi0 hz0 (some ⟨b, 0, none⟩) i c (arr.toList.take (2 * i)) hold (n + 1 - i) (by omega) (by omega) (by omega) (by omega) (by rw [hz2]; omega) (by rw [hz2, hik]; exact growslice_fits hroom (by omega))
    rw [hik, ← hG] at h
    rw [hkk, h, hZ]
    congr 3
    simp
  obtain ⟨R0, hR0⟩ : ∃ R0 : List Value, R0 = arr.toList.take (2 * i) ++ Z.toList := ⟨_, rfl⟩
  rw [← hR0] at hrz
  obtain ⟨R1, hR1⟩ : ∃ R1 : List Value, R1 = R0.take (2 * i) ++ [v0, v1] ++ R0.drop (2 * i + 2) := ⟨_, rfl⟩
  obtain ⟨R2, hR2⟩ : ∃ R2 : List Value, R2 = R1.take (2 * (i + 1)) ++ (arr.toList.take (2 * n)).drop (2 * i) ++ R1.drop (2 * (i + 1) + 2 * (n - i)) := ⟨_, rfl⟩
  have hall := grow_cells arr.toList Z.toList n i [v0, v1] rfl hi (by omega) (by simp [hZl]; omega)
  simp only at hall
  rw [← hR0, ← hR1, ← hR2] at hall
  obtain ⟨hend, hl1, hl2⟩ := hall
  have hl0 : R0.length = G * 2 := by rw [hR0]; simp [hZl]; omega
  have hcp1 : ∀ (W : World), W.heap = (w.drew.alloc (.cells R0.toArray 46)).heap → ∀ ty dc, (Builtin.copy_ #[23, 23] ty #[.slice (some ⟨w.heap.size, i * 2, none⟩) (n + 1 - i) dc, .slice (some ⟨vb, 0, none⟩) 1 vc]).run Try.prog W = .ok (.int .i64 1) (W.setRow w.heap.size R1.toArray) := fun W hW ty dc => by
    have hmin : Nat.min 1 (n + 1 - i) = 1 := by simp only [Nat.min_def]; split <;> omega
    have hWb : W.heap[w.heap.size]? = some (.cells R0.toArray 46 (0, 0)) := by rw [hW]; exact heap_alloc_new w.drew _
    have hWv : W.heap[vb]? = some (.cells arrv tv (0, 0)) := by rw [hW, heapAllocOld w.drew _ hvw]; exact hvb
    have h := run_copy_rows (P := Try.prog) W 23 ty 46 i0 Try.underlying23 hi0 w.heap.size (i * 2) (n + 1 - i) dc R0.toArray 46 hWb ⟨vb, 0, none⟩ 1 vc [v0, v1] (by rw [hmin, hz1]; rfl) (fun j v hj => by
      rw [Addr.add_lit, cell_of_heap hWv]
      match j, hj with
      | 0, hj => rw [← hj]; exact h0
      | 1, hj => rw [← hj]; exact h1
      | j + 2, hj => simp at hj) (fun v hv => by
      simp only [List.mem_cons, List.not_mem_nil, or_false] at hv
      rcases hv with rfl | rfl
      · exact o0
      · exact o1) (by simp; omega)
    rw [hmin] at h
    rw [hR1, Nat.mul_comm 2 i]
    exact h
  have hml : ((arr.toList.take (2 * n)).drop (2 * i)).length = 2 * (n - i) := by simp; omega
  have hcp2 : ∀ (W : World), W.heap = ((w.drew.alloc (.cells R0.toArray 46)).setRow w.heap.size R1.toArray).heap → ∀ ty dc sc, (Builtin.copy_ #[23, 23] ty #[.slice (some ⟨w.heap.size, (i + 1) * 2, none⟩) (n - i) dc, .slice (some ⟨b, i * 2, none⟩) (n - i) sc]).run Try.prog W = .ok (.int .i64 ((n - i : Nat) : Int)) (W.setRow w.heap.size R2.toArray) := fun W hW ty dc sc => by
    have hmin : Nat.min (n - i) (n - i) = n - i := Nat.min_self _
    have hWb : W.heap[w.heap.size]? = some (.cells R1.toArray 46 (0, 0)) := by rw [hW]; exact setRow_heap _ _ R0.toArray _ _ _ (heap_alloc_new w.drew _)
    have hWo : W.heap[b]? = some (.cells arr 46 (0, 0)) := by rw [hW, setRow_other _ _ b _ (by omega), heapAllocOld w.drew _ hbw]; exact hb
    have h := run_copy_rows (P := Try.prog) W 23 ty 46 i0 Try.underlying23 hi0 w.heap.size ((i + 1) * 2) (n - i) dc R1.toArray 46 hWb ⟨b, i * 2, none⟩ (n - i) sc ((arr.toList.take (2 * n)).drop (2 * i)) (by rw [hmin, hz1, hml]; omega) (fun j v hj => by
      rw [Addr.add_lit, cell_of_heap hWo, Nat.mul_comm i 2]
      have hlt := (List.getElem?_eq_some_iff.1 hj).1
      rw [List.getElem?_drop, List.getElem?_take_of_lt (by rw [hml] at hlt; omega)] at hj
      simpa using hj) (fun v hv => hone v (List.mem_of_mem_drop hv)) (by rw [hml]; simp; omega)
    rw [hmin, hml, Nat.mul_comm (i + 1) 2] at h
    rw [hR2]
    rw [Nat.mul_comm (i + 1) 2]
    exact h
  have hb1 : (0 : Int) ≤ (i : Int) + 1 := by omega
  have hin : i ≤ n := by omega
  have htn : ((i : Int) + 1).toNat = i + 1 := by omega
  have hGi : ¬ (G = i) := by omega
  have hGim : ¬ (G = i + 1) := by omega
  have hci : ¬ (c = i) := by omega
  have hb3 : (i : Int) ≤ (n : Int) := by omega
  have hfin : R2.toArray.size = G * 2 := by simp; omega
  have hmix : Try.prog.follows .mixedOrders = true := by kernel_rfl
  have hlast : ∀ X : World, X = ((w.drew.drew.alloc (.cells R0.toArray 46)).setRow w.heap.size R1.toArray).setRow w.heap.size R2.toArray → X = w.drew.drew.alloc (.cells R2.toArray 46) := fun X hX => by
    rw [hX, setRow_setRow]
    exact alloc_setRow w.drew.drew R0.toArray R2.toArray _
  have hA := hcp1 ((w.alloc (.cells R0.toArray 46)).drew) rfl
  have hB := hcp2 (((w.alloc (.cells R0.toArray 46)).drew.setRow w.heap.size R1.toArray).drew) rfl
  clear hkk hik hold hG hZ hZl hR0 hR1 hR2 hl0 hl1 hl2 hml
  go_enter Try.func89, Try.ntmps89
  go_wp2_with (first
    | (at_builtin; refine Lib.wpList_append_run _ rfl _ _ _ _ rfl _ _ rfl rfl _ _ (hrz _) ?_)
    | simp only [hA])
  go_region_law_o (refine step_copy_runI rfl _ _ 23 23 rfl (.slice (some ⟨w.heap.size, (i + 1) * 2, none⟩) (n - i) (G - (i + 1))) (.slice (some ⟨b, i * 2, none⟩) (n - i) (c - i)) (by simp [Act.eval, Act.put]) (by simp [Act.eval, Act.put]) (hB _ _ _) ?_)
  go_wp2
  go_ret
  exact ⟨_, _, rfl, hlast _ rfl, hGn, hGm, hfin, hend⟩
theorem insCalls : InsCalls Try.prog 89 46 := ⟨⟨_, Try.func89, by decide, rfl⟩, insert_room, insert_grow⟩
theorem C_Insert : HCallOk Try.prog 89 (insertH 46) := ins_hcall insCalls
end Go.Proofs.Ytalehbmgbjiigaa
end

section
namespace Go.Proofs.Ytalehbmgbjiigaa
open Go.RowKit
set_option linter.unusedVariables false
set_option linter.unusedSimpArgs false

def F_Find : List D → Option D
  | [x0, x1] => (asNodes x0).bind fun l => (asInts x1).bind fun p => if l.length ≤ 3000000 ∧ p.length ≤ 3000000 then some (iD (findv l p)) else none
  | _ => none

theorem C_Find : CallOk Try.prog 27 F_Find := by
  refine ⟨⟨_, Try.func27, by decide, rfl⟩, fun ds d hF S vs W hS hv => ?_⟩
  unfold F_Find at hF
  split at hF
  · rename_i x0 x1
    rcases hd0 : asNodes x0 with _ | l
    · rw [hd0] at hF; cases hF
    rw [hd0, Option.bind_some] at hF
    rcases hd1 : asInts x1 with _ | p
    · rw [hd1] at hF; cases hF
    rw [hd1, Option.bind_some] at hF
    split at hF
    rotate_left
    · cases hF
    rename_i G
    cases hF
    simp only [RepA] at hv
    obtain ⟨v_l, t0, rfl, r0, ⟨v_p, t1, rfl, r1, rfl⟩⟩ := hv
    have h_l := (asNodes_ok hd0 r0).mono hS
    have h_p := (asInts_ok hd1 r1).mono hS
    refine (Find_any l p v_l v_p W h_l h_p (by omega) (by omega)).mono ?_
    rintro e w1 ⟨rfl, hb⟩
    exact ⟨_, rfl, by simp only [Rep], hb⟩
  · cases hF

def F_RefFind : List D → Option D
  | [x0, x1] => (asNodes x0).bind fun l => (asInts x1).bind fun p => if l.length ≤ 3000000 ∧ p.length ≤ 3000000 then some (iD (findv l p)) else none
  | _ => none

theorem C_RefFind : CallOk Try.prog 49 F_RefFind := by
  refine ⟨⟨_, Try.func49, by decide, rfl⟩, fun ds d hF S vs W hS hv => ?_⟩
  unfold F_RefFind at hF
  split at hF
  · rename_i x0 x1
    rcases hd0 : asNodes x0 with _ | l
    · rw [hd0] at hF; cases hF
    rw [hd0, Option.bind_some] at hF
    rcases hd1 : asInts x1 with _ | p
    · rw [hd1] at hF; cases hF
    rw [hd1, Option.bind_some] at hF
    split at hF
    rotate_left
    · cases hF
    rename_i G
    cases hF
    simp only [RepA] at hv
    obtain ⟨v_l, t0, rfl, r0, ⟨v_p, t1, rfl, r1, rfl⟩⟩ := hv
    have h_l := (asNodes_ok hd0 r0).mono hS
    have h_p := (asInts_ok hd1 r1).mono hS
    refine (refFind_any l p v_l v_p W h_l h_p (by omega) (by omega)).mono ?_
    rintro e w1 ⟨rfl, hb⟩
    exact ⟨_, rfl, by simp only [Rep], hb⟩
  · cases hF

def F_Compare : List D → Option D
  | [x0, x1] => (asInts x0).bind fun a => (asInts x1).bind fun b => if a.length ≤ 3000000 ∧ b.length ≤ 3000000 then some (iD (cmpL a b)) else none
  | _ => none

theorem C_Compare : CallOk Try.prog 72 F_Compare := by
  refine ⟨⟨_, Try.func72, by decide, rfl⟩, fun ds d hF S vs W hS hv => ?_⟩
  unfold F_Compare at hF
  split at hF
  · rename_i x0 x1
    rcases hd0 : asInts x0 with _ | a
    · rw [hd0] at hF; cases hF
    rw [hd0, Option.bind_some] at hF
    rcases hd1 : asInts x1 with _ | b
    · rw [hd1] at hF; cases hF
    rw [hd1, Option.bind_some] at hF
    split at hF
    rotate_left
    · cases hF
    rename_i G
    cases hF
    simp only [RepA] at hv
    obtain ⟨v_a, t0, rfl, r0, ⟨v_b, t1, rfl, r1, rfl⟩⟩ := hv
    have h_a := (asInts_ok hd0 r0).mono hS
    have h_b := (asInts_ok hd1 r1).mono hS
    refine (Compare_any a b v_a v_b W h_a h_b (by omega) (by omega)).mono ?_
    rintro e w1 ⟨rfl, hb⟩
    exact ⟨_, rfl, by simp only [Rep], hb⟩
  · cases hF

def F_RefCompare : List D → Option D
  | [x0, x1] => (asInts x0).bind fun a => (asInts x1).bind fun b => if a.length ≤ 3000000 ∧ b.length ≤ 3000000 then some (iD (cmpL a b)) else none
  | _ => none

theorem C_RefCompare : CallOk Try.prog 67 F_RefCompare := by
  refine ⟨⟨_, Try.func67, by decide, rfl⟩, fun ds d hF S vs W hS hv => ?_⟩
  unfold F_RefCompare at hF
  split at hF
  · rename_i x0 x1
    rcases hd0 : asInts x0 with _ | a
    · rw [hd0] at hF; cases hF
    rw [hd0, Option.bind_some] at hF
    rcases hd1 : asInts x1 with _ | b
    · rw [hd1] at hF; cases hF
    rw [hd1, Option.bind_some] at hF
    split at hF
    rotate_left
    · cases hF
    rename_i G
    cases hF
    simp only [RepA] at hv
    obtain ⟨v_a, t0, rfl, r0, ⟨v_b, t1, rfl, r1, rfl⟩⟩ := hv
    have h_a := (asInts_ok hd0 r0).mono hS
    have h_b := (asInts_ok hd1 r1).mono hS
    refine (refCompare_any a b v_a v_b W h_a h_b (by omega) (by omega)).mono ?_
    rintro e w1 ⟨rfl, hb⟩
    exact ⟨_, rfl, by simp only [Rep], hb⟩
  · cases hF

def F_cmpI : List D → Option D
  | [x0, x1] => (asInt x0).bind fun x => (asInt x1).bind fun y => some (iD (cmpI x y))
  | _ => none

theorem C_cmpI : CallOk Try.prog 73 F_cmpI := by
  refine ⟨⟨_, Try.func73, by decide, rfl⟩, fun ds d hF S vs W hS hv => ?_⟩
  unfold F_cmpI at hF
  split at hF
  · rename_i x0 x1
    rcases hd0 : asInt x0 with _ | x
    · rw [hd0] at hF; cases hF
    rw [hd0, Option.bind_some] at hF
    rcases hd1 : asInt x1 with _ | y
    · rw [hd1] at hF; cases hF
    rw [hd1, Option.bind_some] at hF
    cases hF
    simp only [RepA] at hv
    obtain ⟨v_x, t0, rfl, r0, ⟨v_y, t1, rfl, r1, rfl⟩⟩ := hv
    obtain rfl := asInt_ok hd0 r0
    obtain rfl := asInt_ok hd1 r1
    refine ((cmpI_any x y W).mono (R' := fun e w' => e = .returned (.int .i64 (cmpI x y)) ∧ Below W.heap.size W w') (by rintro e w' ⟨rfl, rfl⟩; exact ⟨rfl, Below.refl _ _⟩)).mono ?_
    rintro e w1 ⟨rfl, hb⟩
    exact ⟨_, rfl, by simp only [Rep], hb⟩
  · cases hF

def F_CloneI : List D → Option D
  | [x0] => (asInts x0).bind fun l => if l.length ≤ 3000000 then some (intsD l) else none
  | _ => none
theorem N_CloneI : CallNew Try.prog 48 F_CloneI := by
  refine ⟨⟨_, Try.func48, by decide, rfl⟩, fun ds d hF S vs W hS hv => ?_⟩
  unfold F_CloneI at hF
  split at hF
  · rename_i x0
    rcases hd0 : asInts x0 with _ | l
    · rw [hd0] at hF; cases hF
    rw [hd0, Option.bind_some] at hF
    split at hF
    rotate_left
    · cases hF
    rename_i G
    cases hF
    simp only [RepA] at hv
    obtain ⟨v_l, t0, rfl, r0, rfl⟩ := hv
    have h_l := asInts_ok hd0 r0
    refine (Clone_any l v_l W S hS h_l (by omega)).mono ?_
    rintro e w1 ⟨u, rfl, hu, hb⟩
    exact ⟨u, rfl, intsD_rep (ownsRow_ints hu), hb⟩
  · cases hF
def fs12a : List Entry := (27, true, liftF F_Find) :: (49, true, liftF F_RefFind) :: (72, true, liftF F_Compare) :: (67, true, liftF F_RefCompare) :: (73, true, liftF F_cmpI) :: (48, true, liftN F_CloneI) :: (89, false, insertH 46) :: (88, true, liftN F_Replace) :: fs08
theorem fs12a_ok : ∀ p ∈ fs12a, EntryOk Try.prog p := entries_cons (entry_lift C_Find) <| entries_cons (entry_lift C_RefFind) <| entries_cons (entry_lift C_Compare) <| entries_cons (entry_lift C_RefCompare) <| entries_cons (entry_lift C_cmpI) <| entries_cons (entry_new N_CloneI) <| entries_cons (entry_obj C_Insert) <| entries_cons (entry_new N_Replace) <| fs08_ok
def T12a : Tab := ⟨fs12a, noYl⟩
theorem T12a_ok : TabOk Try.prog T12a := tabOk_of fs12a_ok
end Go.Proofs.Ytalehbmgbjiigaa
end

section
namespace Go.Proofs.Ytalehbmgbjiigaa
open Go.RowKit
set_option linter.unusedVariables false
set_option linter.unusedSimpArgs false

/-- A slice d of n elements of the call's own, or nil: its cells are cs; its row lies at B or behind. -/
def Buf (e : TypeId) (sz : Nat) (H : Heap) (B : Nat) (d : D) (n : Nat) (cs : List D) : Prop :=
  (d = .v (.slice none 0 0) ∧ n = 0 ∧ cs = []) ∨ ∃ r, B ≤ r ∧ d = .hs r n ∧ H[r]? = some (.cells e sz cs) ∧ cs.length = n * sz
/-- What is ahead of B stays as it was. -/
def Kp (B : Nat) (H H' : Heap) : Prop := H.length ≤ H'.length ∧ ∀ k, k < B → H'[k]? = H[k]?
theorem Kp.refl (B : Nat) (H : Heap) : Kp B H H := ⟨Nat.le_refl _, fun _ _ => rfl⟩
theorem Kp.trans {B : Nat} {H H' H'' : Heap} (h : Kp B H H') (k : Kp B H' H'') : Kp B H H'' := ⟨Nat.le_trans h.1 k.1, fun i hi => (k.2 i hi).trans (h.2 i hi)⟩
theorem Kp.mono {B C : Nat} {H H' : Heap} (h : Kp B H H') (hc : C ≤ B) : Kp C H H' := ⟨h.1, fun i hi => h.2 i (by omega)⟩
theorem Kp.app (B : Nat) (H t : Heap) (h : B ≤ H.length) : Kp B H (H ++ t) := ⟨by simp, fun k hk => List.getElem?_append_left (by omega)⟩
theorem Kp.set {B : Nat} (H : Heap) (i : Nat) (o : HO) (h : B ≤ i) : Kp B H (H.set i o) := ⟨by simp, fun k hk => by rw [List.getElem?_set_ne (by omega)]⟩
theorem Buf.nil (e : TypeId) (sz : Nat) (H : Heap) (B : Nat) : Buf e sz H B (.v (.slice none 0 0)) 0 [] := .inl ⟨rfl, rfl, rfl⟩
theorem Buf.len {e : TypeId} {sz : Nat} {H : Heap} {B : Nat} {d : D} {n : Nat} {cs : List D} (h : Buf e sz H B d n cs) : cs.length = n * sz := by
  rcases h with ⟨_, rfl, rfl⟩ | ⟨_, _, _, _, h⟩
  · simp
  · exact h
theorem Buf.ok {e : TypeId} {sz : Nat} {H : Heap} {B : Nat} {d : D} {n : Nat} {cs : List D} (h : Buf e sz H B d n cs) : cellOk d = true := by
  rcases h with ⟨rfl, _, _⟩ | ⟨_, _, rfl, _, _⟩ <;> rfl
theorem Buf.lenH {e : TypeId} {sz : Nat} {H : Heap} {B : Nat} {d : D} {n : Nat} {cs : List D} (h : Buf e sz H B d n cs) : lenH .sl d = some (iD n) := by
  rcases h with ⟨rfl, rfl, _⟩ | ⟨_, _, rfl, _, _⟩ <;> rfl
/-- The row stays where its object does. -/
theorem Buf.keep {e : TypeId} {sz : Nat} {H H' : Heap} {B : Nat} {d : D} {n : Nat} {cs : List D} (h : Buf e sz H B d n cs) (k : ∀ r m, d = .hs r m → H'[r]? = H[r]?) : Buf e sz H' B d n cs := by
  rcases h with h | ⟨r, h1, h2, h3, h4⟩
  · exact .inl h
  · exact .inr ⟨r, h1, h2, (k r n h2).trans h3, h4⟩
theorem Buf.app {e : TypeId} {sz : Nat} {H : Heap} {B : Nat} {d : D} {n : Nat} {cs : List D} (h : Buf e sz H B d n cs) (t : Heap) : Buf e sz (H ++ t) B d n cs := by
  rcases h with h | ⟨r, h1, h2, h3, h4⟩
  · exact .inl h
  · exact .inr ⟨r, h1, h2, by rw [List.getElem?_append_left (List.getElem?_eq_some_iff.1 h3).1]; exact h3, h4⟩
theorem Buf.set {e : TypeId} {sz : Nat} {H : Heap} {B : Nat} {d : D} {n : Nat} {cs : List D} (h : Buf e sz H B d n cs) (i : Nat) (o : HO) (hi : i < B) : Buf e sz (H.set i o) B d n cs := by
  rcases h with h | ⟨r, h1, h2, h3, h4⟩
  · exact .inl h
  · exact .inr ⟨r, h1, h2, by rw [List.getElem?_set_ne (by omega)]; exact h3, h4⟩
theorem Buf.lt {e : TypeId} {sz : Nat} {H : Heap} {B : Nat} {n r m : Nat} {cs : List D} (h : Buf e sz H B (.hs r m) n cs) : B ≤ r ∧ r < H.length := by
  rcases h with ⟨h, _⟩ | ⟨r', h1, h2, h3, h4⟩
  · cases h
  · cases h2; exact ⟨h1, (List.getElem?_eq_some_iff.1 h3).1⟩
/-- An append: what is held then; what stays. -/
theorem app_buf {e : TypeId} {sz : Nat} {H : Heap} {B : Nat} {d : D} {n m : Nat} {cs new : List D} (h : Buf e sz H B d n cs) (hsz : 0 < sz) (hn : new.length = m * sz) (hok : new.all cellOk = true) (hb : cs.length + new.length ≤ 4000000) (hB : B ≤ H.length) :
    ∃ d' H', appH e sz d new H = some (d', H') ∧ Buf e sz H' B d' (n + m) (cs ++ new) ∧ Kp B H H' ∧ (∀ k, k < H.length → (∀ q, d ≠ .hs k q) → H'[k]? = H[k]?) ∧ (d' = d ∨ ∃ q, d' = .hs H.length q) := by
  have hdiv : new.length / sz = m := by rw [hn]; exact Nat.mul_div_cancel _ hsz
  have hc : ¬ (sz = 0 ∨ (!new.all cellOk) = true) := by rw [hok]; simp; omega
  rcases h with ⟨rfl, rfl, rfl⟩ | ⟨r, h1, rfl, h3, h4⟩
  · simp only [List.length_nil, Nat.zero_add] at hb
    by_cases h0 : new.length = 0
    · obtain rfl : new = [] := List.length_eq_zero_iff.1 h0
      have hm : m = 0 := by
        have : m * sz = 0 := by simpa using hn.symm
        rcases Nat.mul_eq_zero.1 this with h | h
        · exact h
        · omega
      subst hm
      exact ⟨_, H, by unfold appH; rw [if_neg hc]; simp, .inl ⟨rfl, rfl, rfl⟩, Kp.refl _ _, fun _ _ _ => rfl, .inl rfl⟩
    · refine ⟨.hs H.length m, H ++ [.cells e sz new], by unfold appH; rw [if_neg hc]; simp only; rw [if_neg h0, if_pos hb, hdiv], .inr ⟨H.length, hB, by simp, by simp, by simpa using hn⟩, Kp.app _ _ _ hB, fun k hk _ => List.getElem?_append_left hk, .inr ⟨_, rfl⟩⟩
  · refine ⟨.hs H.length (n + m), (H.set r .dead) ++ [.cells e sz (cs ++ new)], ?_, .inr ⟨H.length, hB, rfl, ?_, ?_⟩, ?_, ?_, .inr ⟨_, rfl⟩⟩
    · unfold appH
      rw [if_neg hc]
      simp only [h3]
      rw [if_pos ⟨trivial, trivial, h4, hb⟩, hdiv]
    · have : H.length = (H.set r .dead).length := by simp
      rw [this, List.getElem?_append_right (Nat.le_refl _)]; simp
    · rw [List.length_append, h4, hn, Nat.add_mul]
    · refine ⟨by simp, fun k hk => ?_⟩
      have hr := (List.getElem?_eq_some_iff.1 h3).1
      rw [List.getElem?_append_left (by simp; omega), List.getElem?_set_ne (by omega)]
    · intro k hk hq
      rw [List.getElem?_append_left (by simpa using hk), List.getElem?_set_ne (fun e => hq n (by rw [e]))]
/-- The text of what is held. -/
theorem Buf.text {e : TypeId} {H : Heap} {B : Nat} {d : D} {n : Nat} {l : By} (h : Buf e 1 H B d n (bytesC l)) : bytesS H d = some (sD l) := by
  have hl := h.len
  rw [bytesC_len, Nat.mul_one] at hl
  rcases h with ⟨rfl, rfl, h⟩ | ⟨r, h1, rfl, h3, h4⟩
  · have : l = [] := List.length_eq_zero_iff.1 (by simpa using hl)
    subst this; rfl
  · exact bytesS_row H r n e l h3 hl.symm
theorem Buf.src {e : TypeId} {sz : Nat} {H : Heap} {B : Nat} {d : D} {n : Nat} {cs : List D} (h : Buf e sz H B d n cs) : srcH sz H d = some cs := by
  rcases h with ⟨rfl, rfl, rfl⟩ | ⟨r, h1, rfl, h3, h4⟩
  · rfl
  · simp only [srcH, h3]
    rw [if_pos ⟨trivial, by omega⟩, List.take_of_length_le (by omega)]
theorem bytesC_app (a b : By) : bytesC (a ++ b) = bytesC a ++ bytesC b := by simp [bytesC]
theorem appendS_eq (e : TypeId) (d : D) (l : By) (H : Heap) : appendS e 1 d (sD l) H = appH e 1 d (bytesC l) H := by
  show (if 1 = 1 then appH e 1 d (bytesD (baOf l)) H else none) = _
  rw [if_pos rfl, bytesD_of]
/-- Bytes are appended. -/
theorem app_bytes {e : TypeId} {H : Heap} {B : Nat} {d : D} {l : By} (h : Buf e 1 H B d l.length (bytesC l)) (m : By) (hb : l.length + m.length ≤ 4000000) (hB : B ≤ H.length) :
    ∃ d' H', appH e 1 d (bytesC m) H = some (d', H') ∧ Buf e 1 H' B d' (l ++ m).length (bytesC (l ++ m)) ∧ Kp B H H' ∧ (∀ k, k < H.length → (∀ q, d ≠ .hs k q) → H'[k]? = H[k]?) ∧ (d' = d ∨ ∃ q, d' = .hs H.length q) := by
  obtain ⟨d', H', h1, h2, h3, h4, h5⟩ := app_buf (m := m.length) h (by omega) (by rw [bytesC_len]; omega) (bytesC_ok m) (by rw [bytesC_len, bytesC_len]; exact hb) hB
  exact ⟨d', H', h1, by rw [List.length_append, bytesC_app]; exact h2, h3, h4, h5⟩
/-- The cell of an object. -/
theorem load_cell0 (H : Heap) (w : Nat) (t : TypeId) (sz : Nat) (d : D) (r : List D) (h : H[w]? = some (.cells t sz (d :: r))) : loadH none H (.hp w 0) = some d := by simp [h]
theorem load_cellN (H : Heap) (w i : Nat) (t : TypeId) (sz : Nat) (cs : List D) (d : D) (h : H[w]? = some (.cells t sz cs)) (hd : cs[i]? = some d) : loadH none H (.hp w i) = some d := by
  simp [h, List.getElem?_drop, hd]
theorem set_cellN (H : Heap) (w i : Nat) (t : TypeId) (sz : Nat) (cs : List D) (d : D) (h : H[w]? = some (.cells t sz cs)) (hi : i < cs.length) (hc : cellsD d = some [d]) (hd : cellOk d = true) : setH 1 (.hp w i) d H = some (.v undef, H.set w (.cells t sz (cs.set i d))) := by
  have e : cs.take i ++ [d] ++ cs.drop (i + 1) = cs.set i d := by rw [List.set_eq_take_append_cons_drop, if_pos hi]; simp
  simp only [setH, storeH, hc, h, List.length_singleton]
  rw [if_pos ⟨trivial, by omega, by simp [hd]⟩, e]
  rfl
theorem cellsD_one {d : D} (h : cellOk d = true) (h' : ∀ cs, d ≠ .agg cs) : cellsD d = some [d] := by
  cases d with
  | v x => cases x <;> first | rfl | (simp [cellOk] at h)
  | agg cs => exact absurd rfl (h' cs)
  | undef => simp [cellOk] at h
  | tup ds => simp [cellOk] at h
  | _ => rfl
theorem Buf.cells {e : TypeId} {sz : Nat} {H : Heap} {B : Nat} {d : D} {n : Nat} {cs : List D} (h : Buf e sz H B d n cs) : cellsD d = some [d] := by
  rcases h with ⟨rfl, _, _⟩ | ⟨_, _, rfl, _, _⟩ <;> rfl
end Go.Proofs.Ytalehbmgbjiigaa
end

section
namespace Go.Proofs.Ytalehbmgbjiigaa
open Go.RowKit
set_option linter.unusedVariables false
set_option linter.unusedSimpArgs false

def intsC (l : List Int) : List D := l.map fun n => iD n
def nodesC (l : List Nd) : List D := (l.map nodeD).flatten
theorem intsC_len (l : List Int) : (intsC l).length = l.length := by simp [intsC]
theorem nodesC_len (l : List Nd) : (nodesC l).length = l.length * 2 := by
  induction l with
  | nil => rfl
  | cons x r ih => simp only [nodesC, List.map_cons, List.flatten_cons, List.length_append, List.length_cons, nodeD] at ih ⊢; simp at ih ⊢; omega
theorem intsC_app (a b : List Int) : intsC (a ++ b) = intsC a ++ intsC b := by simp [intsC]
theorem nodesC_app (a b : List Nd) : nodesC (a ++ b) = nodesC a ++ nodesC b := by simp [nodesC]
theorem intsC_ok (l : List Int) : (intsC l).all cellOk = true := by
  induction l with
  | nil => rfl
  | cons x r ih => simp only [intsC, List.map_cons, List.all_cons] at ih ⊢; rw [ih]; rfl
theorem nodesC_ok (l : List Nd) : (nodesC l).all cellOk = true := by
  induction l with
  | nil => rfl
  | cons x r ih => simp only [nodesC, List.map_cons, List.flatten_cons, List.all_append] at ih ⊢; rw [ih]; rfl
theorem mapM_intsC (H : Heap) (n : Nat) (l : List Int) : (intsC l).mapM (derefN H n) = some (intsC l) := by
  induction l with
  | nil => rfl
  | cons x r ih =>
    have e : intsC (x :: r) = iD x :: intsC r := rfl
    rw [e, List.mapM_cons, derefN_pure H n _ rfl, ih]; rfl
theorem mapM_nodesC (H : Heap) (n : Nat) (l : List Nd) : (nodesC l).mapM (derefN H n) = some (nodesC l) := by
  induction l with
  | nil => rfl
  | cons x r ih =>
    have e : nodesC (x :: r) = iD x.1 :: iD x.2 :: nodesC r := rfl
    rw [e, List.mapM_cons, List.mapM_cons, derefN_pure H n _ rfl, derefN_pure H n _ rfl, ih]; rfl
theorem chunks_intsC (l : List Int) : chunks 1 l.length (intsC l) = l.map oneI := by
  induction l with
  | nil => rfl
  | cons x r ih =>
    have e : intsC (x :: r) = iD x :: intsC r := rfl
    rw [e, List.length_cons, chunks, List.map_cons]
    simp only [List.take_succ_cons, List.take_zero, List.drop_succ_cons, List.drop_zero, ih, oneI]
theorem chunks_nodesC (l : List Nd) : chunks 2 l.length (nodesC l) = l.map nodeD := by
  induction l with
  | nil => rfl
  | cons x r ih =>
    have e : nodesC (x :: r) = iD x.1 :: iD x.2 :: nodesC r := rfl
    rw [e, List.length_cons, chunks, List.map_cons]
    simp only [List.take_succ_cons, List.take_zero, List.drop_succ_cons, List.drop_zero, ih, nodeD]
theorem Buf.ints {e : TypeId} {H : Heap} {B : Nat} {d : D} {l : List Int} (h : Buf e 1 H B d l.length (intsC l)) (n : Nat) : ∃ d', derefN H (n + 1) d = some d' ∧ asInts d' = some l := by
  rcases h with ⟨rfl, h1, _⟩ | ⟨r, h1, rfl, h3, h4⟩
  · have : l = [] := List.length_eq_zero_iff.1 h1
    subst this
    exact ⟨_, derefN_pure H (n + 1) _ rfl, rfl⟩
  · refine ⟨intsD l, ?_, asInts_intsD l⟩
    simp only [derefN, h3]
    rw [if_pos (by rw [intsC_len]; omega), List.take_of_length_le (by rw [intsC_len]; omega), mapM_intsC, Option.map_some, chunks_intsC]; rfl
theorem Buf.nodes {e : TypeId} {H : Heap} {B : Nat} {d : D} {l : List Nd} (h : Buf e 2 H B d l.length (nodesC l)) (n : Nat) : ∃ d', derefN H (n + 1) d = some d' ∧ asNodes d' = some l := by
  rcases h with ⟨rfl, h1, _⟩ | ⟨r, h1, rfl, h3, h4⟩
  · have : l = [] := List.length_eq_zero_iff.1 h1
    subst this
    exact ⟨_, derefN_pure H (n + 1) _ rfl, rfl⟩
  · refine ⟨nodesD l, ?_, asNodes_nodesD l⟩
    simp only [derefN, h3]
    rw [if_pos (by rw [nodesC_len]; omega), List.take_of_length_le (by rw [nodesC_len]; omega), mapM_nodesC, Option.map_some, chunks_nodesC]; rfl
theorem Buf.eqB {e : TypeId} {sz : Nat} {H : Heap} {B : Nat} {d : D} {n : Nat} {cs : List D} (h : Buf e sz H B d n cs) : Go.Proofs.Ytalehbmgbjiigaa.eqB d d = true := by
  rcases h with ⟨rfl, _, _⟩ | ⟨_, _, rfl, _, _⟩ <;> simp
/-- A program whose lists lie in rows, by value. -/
theorem deref_prog {e1 e2 : TypeId} {H : Heap} {B1 B2 : Nat} {d1 d2 : D} {a : Int} {vs : List Int} {b : List Nd} (h1 : Buf e1 1 H B1 d1 vs.length (intsC vs)) (h2 : Buf e2 2 H B2 d2 b.length (nodesC b)) (n : Nat) :
    ∃ d', derefN H (n + 2) (.agg [iD a, d1, d2]) = some d' ∧ asProg d' = some ⟨a, vs, b⟩ := by
  obtain ⟨d1', q1, q2⟩ := h1.ints n
  obtain ⟨d2', q3, q4⟩ := h2.nodes n
  refine ⟨.agg [iD a, d1', d2'], ?_, ?_⟩
  · show (List.mapM (derefN H (n + 1)) [iD a, d1, d2]).map D.agg = _
    simp only [List.mapM_cons, List.mapM_nil, derefN_pure H (n + 1) (iD a) rfl, q1, q3]
    rfl
  · simp [asProg, asProgC, asInt, q2, q4]
/-- A function of a program, over rows. -/
theorem lift_prog {e1 e2 : TypeId} {H : Heap} {B1 B2 : Nat} {d1 d2 : D} {a : Int} {vs : List Int} {b : List Nd} (h1 : Buf e1 1 H B1 d1 vs.length (intsC vs)) (h2 : Buf e2 2 H B2 d2 b.length (nodesC b)) (g : Pg → Option D) {r : D} (hg : g ⟨a, vs, b⟩ = some r) (hf : flatD r = true) :
    liftF (F1 progT g) [.agg [iD a, d1, d2]] H = some (r, H) := by
  obtain ⟨d', q1, q2⟩ := deref_prog (a := a) h1 h2 7
  have hd : asProg d' = some ⟨a, vs, b⟩ → F1 progT g [d'] = some r := fun h => by
    show (asProg d').bind g = _
    rw [h, Option.bind_some, hg]
  cases hp : pureL [.agg [iD a, d1, d2]] with
  | true =>
    rw [liftF_pure _ _ _ hp]
    have hp' : pureD (.agg [iD a, d1, d2]) = true := by simpa [pureL] using hp
    rw [derefN_pure H 9 _ hp'] at q1
    cases q1
    rw [hd q2]; rfl
  | false =>
    have hm : [D.agg [iD a, d1, d2]].mapM (derefN H 9) = some [d'] := by
      simp only [List.mapM_cons, List.mapM_nil, q1]; rfl
    rw [liftF_obj _ _ _ _ hp hm, hd q2]
    simp [hf]
/-- A program and what is wrong, given back. -/
theorem out_prog {e1 e2 : TypeId} {H : Heap} {B1 B2 : Nat} {d1 d2 : D} {a : Int} {vs : List Int} {b : List Nd} (h1 : Buf e1 1 H B1 d1 vs.length (intsC vs)) (h2 : Buf e2 2 H B2 d2 b.length (nodesC b)) (e : Int) :
    ∃ d', outD (some (.tup [.agg [iD a, d1, d2], iD e], H)) = some d' ∧ Imp d' (.tup [progD ⟨a, vs, b⟩, iD e]) := by
  obtain ⟨d', q1, q2⟩ := deref_prog (a := a) h1 h2 6
  refine ⟨.tup [d', iD e], ?_, Imp.tup (.cons (progT.ok _ _ q2) (.cons (Imp.refl _) .nil))⟩
  have q1' : derefN H 8 (.agg [iD a, d1, d2]) = some d' := q1
  show (List.mapM (derefN H 8) [.agg [iD a, d1, d2], iD e]).map D.tup = _
  simp only [List.mapM_cons, List.mapM_nil, q1', derefN_pure H 8 (iD e) rfl]
  rfl
end Go.Proofs.Ytalehbmgbjiigaa
end

section
namespace Go.Proofs.Ytalehbmgbjiigaa
open Go.RowKit
set_option linter.unusedVariables false
set_option linter.unusedSimpArgs false

/-- As many kids at each place. -/
def Alike (l l' : List Nd) : Prop := l.map ar = l'.map ar
theorem Alike.len {l l' : List Nd} (h : Alike l l') : l.length = l'.length := by
  have := congrArg List.length h
  simpa using this
theorem Alike.drop {l l' : List Nd} (h : Alike l l') (k : Nat) : Alike (l.drop k) (l'.drop k) := by
  unfold Alike at h ⊢
  rw [List.map_drop, List.map_drop, h]
theorem scan_alike : ∀ (l l' : List Nd) (a : Nat), Alike l l' → scan a l = scan a l'
  | [], [], a, h => rfl
  | [], y :: s, a, h => by cases h
  | x :: r, [], a, h => by cases h
  | x :: r, y :: s, 0, h => by rw [scan_zero, scan_zero]
  | x :: r, y :: s, a + 1, h => by
    unfold Alike at h
    simp only [List.map_cons, List.cons.injEq] at h
    rw [scan_cons, scan_cons, h.1, scan_alike r s _ h.2]
theorem endv_alike {l l' : List Nd} (h : Alike l l') (i : Int) : endv l i = endv l' i := by
  unfold endv
  rw [scan_alike _ _ _ (h.drop i.toNat)]
theorem arAt_alike {l l' : List Nd} (h : Alike l l') (i : Int) : arAt l i = arAt l' i := by
  have := congrArg (·[i.toNat]?) h
  simp only [List.getElem?_map] at this
  unfold arAt
  cases h1 : l[i.toNat]? with
  | none =>
    rw [h1] at this
    cases h2 : l'[i.toNat]? with
    | none => rfl
    | some y => rw [h2] at this; cases this
  | some x =>
    rw [h1] at this
    cases h2 : l'[i.toNat]? with
    | none => rw [h2] at this; cases this
    | some y => rw [h2] at this; simpa using this
theorem kth_alike {l l' : List Nd} (h : Alike l l') (k : Int) : ∀ j, kth l k j = kth l' k j
  | 0 => rfl
  | j + 1 => by simp only [kth]; rw [kth_alike h k j, endv_alike h]
theorem kidsv_alike {l l' : List Nd} (h : Alike l l') (i : Int) : kidsv l i = kidsv l' i := by
  unfold kidsv
  rw [endv_alike h, arAt_alike h]
  split
  · rfl
  · exact List.map_congr_left fun j _ => kth_alike h _ j
theorem depV_alike {l l' : List Nd} (h : Alike l l') : ∀ (f : Nat) (i : Int), depV f l i = depV f l' i
  | 0, i => rfl
  | f + 1, i => by
    simp only [depV]
    rw [endv_alike h, kidsv_alike h]
    have : depV f l = depV f l' := by funext j; exact depV_alike h f j
    rw [this]
/-- A node with as many kids instead. -/
theorem alike_set (l : List Nd) (k : Nat) (y : Nd) (hk : k < l.length) (h : ar y = ar l[k]) : Alike l (l.set k y) := by
  unfold Alike
  rw [List.map_set, h]
  apply List.ext_getElem?
  intro j
  by_cases e : k = j
  · subst e
    rw [List.getElem?_set_self (by simpa using hk)]
    simp [hk]
  · rw [List.getElem?_set_ne e]
end Go.Proofs.Ytalehbmgbjiigaa
end

section
namespace Go.Proofs.Ytalehbmgbjiigaa

/-- Whatever stands behind the first k nodes, as many are wanted of it. -/
theorem scan_prefix (k : Nat) : ∀ (a : Nat) (l : List Nd) (t : Nat), scan a l = some t → k < t → ∃ w, 1 ≤ w ∧ ∀ s, scan a (l.take k ++ s) = (scan w s).map (k + ·) := by
  induction k with
  | zero =>
    intro a l t h hk
    refine ⟨a, ?_, fun s => ?_⟩
    · cases a with
      | zero => rw [scan_zero] at h; cases h; omega
      | succ a => omega
    · simp only [List.take_zero, List.nil_append, Nat.zero_add]
      cases scan a s <;> rfl
  | succ k ih =>
    intro a l t h hk
    cases a with
    | zero => rw [scan_zero] at h; cases h; omega
    | succ a =>
      cases l with
      | nil => rw [scan_nil _ (by omega)] at h; cases h
      | cons x r =>
        rw [scan_cons] at h
        by_cases hx : ar x < 0
        · rw [if_pos hx] at h; cases h
        · rw [if_neg hx] at h
          cases hs : scan (a + (ar x).toNat) r with
          | none => rw [hs] at h; cases h
          | some t' =>
            rw [hs] at h
            simp only [Option.map_some, Option.some.injEq] at h
            obtain ⟨w, hw, hall⟩ := ih _ _ _ hs (by omega)
            refine ⟨w, hw, fun s => ?_⟩
            rw [List.take_succ_cons, List.cons_append, scan_cons, if_neg hx, hall]
            cases scan w s with
            | none => rfl
            | some c => simp only [Option.map_some, Option.some.injEq]; omega

section
variable {l r : List Nd} {k : Nat}
theorem whole_scan (h : endv r 0 = r.length) : scan 1 r = some r.length := by
  obtain ⟨m, hs, he⟩ := endv_get r 0 (by show 0 ≤ endv r 0; rw [h]; omega)
  rw [List.drop_zero] at hs
  have : endv r 0 = ((0 + m : Nat) : Int) := he
  rw [hs]
  congr 1
  omega
theorem whole_pos (h : endv r 0 = r.length) : 0 < r.length := by
  have := whole_scan h
  have := scan_ge _ _ _ this
  omega
theorem whole_of (h : scan 1 r = some r.length) : endv r 0 = r.length := by
  have := endv_some r 0 r.length (by rw [List.drop_zero]; exact h)
  have e : endv r 0 = ((0 + r.length : Nat) : Int) := this
  rw [e, Nat.zero_add]
theorem repl_end (hE : 0 ≤ endv l k) (hr : endv r 0 = r.length) : endv (replV l k r) k = ((k + r.length : Nat) : Int) := by
  have hkl : k < l.length := by have := (endv_in l k hE).2; simpa using this
  obtain ⟨m, hs, he⟩ := endv_get l k hE
  have hnlt : ¬ endv l k < 0 := by omega
  refine endv_some _ k r.length ?_
  rw [replV, if_neg hnlt, he, List.append_assoc]
  rw [show ((k : Int)).toNat = k from rfl, List.drop_append_of_le_length (by simp; omega), List.drop_eq_nil_of_le (by simp; omega), List.nil_append]
  have := scan_take 1 r r.length (whole_scan hr) (l.drop (((k + m : Nat) : Int)).toNat)
  rwa [List.take_length] at this
theorem repl_len (hE : 0 ≤ endv l k) : (replV l k r).length + (partV l k).length = l.length + r.length := by
  have hkl : k < l.length := by have := (endv_in l k hE).2; simpa using this
  have hnlt : ¬ endv l k < 0 := by omega
  have hle := endv_le l k
  have hgt := endv_gt l k hE
  rw [replV, if_neg hnlt, partV, if_neg hnlt]
  simp
  omega
theorem repl_part (hE : 0 ≤ endv l k) (hr : endv r 0 = r.length) : partV (replV l k r) k = r := by
  have hkl : k < l.length := by have := (endv_in l k hE).2; simpa using this
  have hnlt : ¬ endv l k < 0 := by omega
  have h1 := repl_end hE hr
  rw [partV, if_neg (by omega), h1, replV, if_neg hnlt]
  rw [show ((k : Int)).toNat = k from rfl, show (((k + r.length : Nat) : Int)).toNat = k + r.length from rfl, List.append_assoc]
  rw [List.take_append, List.drop_append]
  have h2 : (l.take k).length = k := by simp; omega
  simp [h2]
theorem repl_back (hE : 0 ≤ endv l k) (hr : endv r 0 = r.length) : replV (replV l k r) k (partV l k) = l := by
  have hkl : k < l.length := by have := (endv_in l k hE).2; simpa using this
  have hnlt : ¬ endv l k < 0 := by omega
  have h1 := repl_end hE hr
  have hle := endv_le l k
  have hgt := endv_gt l k hE
  obtain ⟨m, hm⟩ := Int.eq_ofNat_of_zero_le hE
  rw [hm] at hle hgt
  rw [replV, if_neg (by omega), h1]
  have e1 : replV l k r = l.take k ++ r ++ l.drop m := by rw [replV, if_neg hnlt, hm]; rfl
  have e2 : partV l k = (l.take m).drop k := by rw [partV, if_neg hnlt, hm]; rfl
  rw [e1, e2, show ((k : Int)).toNat = k from rfl, show (((k + r.length : Nat) : Int)).toNat = k + r.length from rfl]
  have h2 : (l.take k).length = k := by simp; omega
  have e3 : (l.take k ++ r ++ l.drop m).take k = l.take k := by rw [List.append_assoc, List.take_append_of_le_length (by omega), List.take_of_length_le (by omega)]
  have e4 : (l.take k ++ r ++ l.drop m).drop (k + r.length) = l.drop m := by
    rw [List.drop_append, List.drop_eq_nil_of_le (by simp; omega)]
    simp; omega
  have e5 : l.take k ++ (l.take m).drop k = l.take m := by
    rw [show l.take k = (l.take m).take k from by rw [List.take_take]; congr 1; omega]
    exact List.take_append_drop _ _
  rw [e3, e4, e5, List.take_append_drop]
/-- What is replaced by a whole in a whole, is a whole. -/
theorem repl_whole (hl : endv l 0 = l.length) (hE : 0 ≤ endv l k) (hr : endv r 0 = r.length) : endv (replV l k r) 0 = (replV l k r).length := by
  have hkl : k < l.length := by have := (endv_in l k hE).2; simpa using this
  have hnlt : ¬ endv l k < 0 := by omega
  obtain ⟨m, hs, he⟩ := endv_get l k hE
  have hle := endv_le l k
  obtain ⟨w, hw, hall⟩ := scan_prefix k 1 l l.length (whole_scan hl) hkl
  have h0 := hall (l.drop k)
  rw [List.take_append_drop, whole_scan hl] at h0
  obtain ⟨v, rfl⟩ : ∃ v, w = 1 + v := ⟨w - 1, by omega⟩
  rw [scan_add, hs] at h0
  simp only [Option.bind_some, List.drop_drop] at h0
  have e1 : replV l k r = l.take k ++ (r ++ l.drop (k + m)) := by rw [replV, if_neg hnlt, he, List.append_assoc]; rfl
  have h1 := hall (r ++ l.drop (k + m))
  have h2 : scan 1 (r ++ l.drop (k + m)) = some r.length := by
    have := scan_take 1 r r.length (whole_scan hr) (l.drop (k + m))
    rwa [List.take_length] at this
  rw [scan_add, h2] at h1
  simp only [Option.bind_some] at h1
  rw [List.drop_left' rfl] at h1
  refine whole_of ?_
  rw [e1, h1]
  cases hv : scan v (l.drop (k + m)) with
  | none => rw [hv] at h0; cases h0
  | some c =>
    rw [hv] at h0
    simp only [Option.map_some, Option.some.injEq] at h0 ⊢
    simp
    omega
theorem repl_before (hE : 0 ≤ endv l k) (j : Nat) (hj : j < k) : (replV l k r)[j]? = l[j]? := by
  have hkl : k < l.length := by have := (endv_in l k hE).2; simpa using this
  rw [replV, if_neg (by omega), List.append_assoc, List.getElem?_append_left (by simp; omega)]
  simp [hj]
theorem repl_behind (hE : 0 ≤ endv l k) (j : Nat) (hj : endv l k ≤ j) : (replV l k r)[j - (endv l k).toNat + k + r.length]? = l[j]? := by
  have hkl : k < l.length := by have := (endv_in l k hE).2; simpa using this
  obtain ⟨m, hm⟩ := Int.eq_ofNat_of_zero_le hE
  rw [hm] at hj ⊢
  have hj' : m ≤ j := by omega
  rw [replV, if_neg (by omega), hm, show ((m : Int)).toNat = m from rfl, show ((k : Int)).toNat = k from rfl, List.getElem?_append_right (by simp; omega)]
  simp only [List.length_append, List.length_take, List.getElem?_drop]
  congr 1
  omega
end
end Go.Proofs.Ytalehbmgbjiigaa
end

section
namespace Go.Proofs.Ytalehbmgbjiigaa
open Go.RowKit
set_option linter.unusedVariables false
set_option linter.unusedSimpArgs false

/-- A delta: where, by which operator, to what. -/
structure Dl where
  path : List Int
  op : Int
  n : Int
  deriving DecidableEq, Inhabited
/-- Is the node, and the number, as an operator asks? -/
def mayV (x : Nd) (op n : Int) : Prop :=
  (op = 1 ∧ 7 ≤ x.1 ∧ x.1 ≤ 11 ∧ 7 ≤ n ∧ n ≤ 11) ∨ (op = 2 ∧ 12 ≤ x.1 ∧ x.1 ≤ 17 ∧ 12 ≤ n ∧ n ≤ 17) ∨ (op = 3 ∧ 18 ≤ x.1 ∧ x.1 ≤ 19 ∧ 18 ≤ n ∧ n ≤ 19) ∨
  (op = 4 ∧ (x.1 = 1 ∨ (x.1 = 2 ∧ 0 ≤ n ∧ n ≤ 1))) ∨ (op = 5 ∧ (x.1 = 21 ∨ x.1 = 22 ∨ x.1 = 23 ∨ x.1 = 24 ∨ x.1 = 25) ∧ n = 0) ∨
  (op = 6 ∧ (x.1 = 23 ∨ x.1 = 24) ∧ n = 0) ∨ (op = 7 ∧ x.1 = 25)
instance (x : Nd) (op n : Int) : Decidable (mayV x op n) := by unfold mayV; infer_instance
/-- The list, with the node x at k changed. -/
def changedV (l : List Nd) (k : Nat) (x : Nd) (op n : Int) : List Nd :=
  if op = 1 ∨ op = 2 ∨ op = 3 then l.set k (n, x.2) else if op = 4 then l.set k (x.1, n) else
  if op = 5 then replV l k [(26, 0)] else if op = 6 then l.take (k + 1) ++ (6, 0) :: l.drop (k + 1) else replV l ((k + 1 : Nat) : Int) [(1, n)]

/-- Nodes with others instead of those between two places. -/
def swapV (l : List Nd) (k to : Nat) (r : List Nd) : List Nd := l.take k ++ r ++ l.drop to

/- How many kids nodes have. -/
theorem ar_row {t m : Int} (h1 : 7 ≤ t) (h2 : t ≤ 19) : (ar (t, m) = 2 ∧ m = 0) ∨ ar (t, m) = -1 := by
  have hl : lim t m = (0, 2) := by
    unfold lim
    rw [if_neg (by omega), if_neg (by omega), if_neg (by omega), if_neg (by omega), if_neg (by omega), if_neg (by omega), if_neg (by omega), if_neg (by omega), if_neg (by omega), if_pos ⟨h1, h2⟩]
  unfold ar
  simp only [hl]
  rw [if_neg (by omega)]
  split
  · exact .inr rfl
  · exact .inl ⟨rfl, by omega⟩
theorem ar_int (n : Int) : ar (1, n) = 0 := rfl
theorem ar_bool {n : Int} (h0 : 0 ≤ n) (h1 : n ≤ 1) : ar (2, n) = 0 := by
  unfold ar
  rw [if_neg (show ¬ ((2 : Int) = 1) from by decide)]
  have : lim 2 n = (1, 0) := rfl
  simp only [this]
  rw [if_neg (by omega)]
theorem ar_lim {t n : Int} {a b : Int} (hl : lim t n = (a, b)) (ht : t ≠ 1) (h : 0 ≤ ar (t, n)) : ar (t, n) = b := by
  unfold ar at h ⊢
  rw [if_neg ht] at h ⊢
  simp only [hl] at h ⊢
  split at h
  · omega
  · rename_i hh; rw [if_neg hh]
theorem ar_skip : ar (26, 0) = 0 := by decide
theorem ar_not : ar (6, 0) = 1 := by decide
theorem ar_ret {n : Int} (h : 0 ≤ ar (25, n)) : ar (25, n) = 1 := ar_lim (a := 0) (b := 1) rfl (by decide) h
theorem ar_if {n : Int} (h : 0 ≤ ar (23, n)) : ar (23, n) = 3 := ar_lim (a := 0) (b := 3) rfl (by decide) h
theorem ar_while {n : Int} (h : 0 ≤ ar (24, n)) : ar (24, n) = 2 := ar_lim (a := 0) (b := 2) rfl (by decide) h
/-- One node without kids is whole. -/
theorem whole_one {y : Nd} (hy : ar y = 0) : endv [y] 0 = ([y] : List Nd).length := by
  refine whole_of ?_
  rw [show (1 : Nat) = 0 + 1 from rfl, scan_cons, if_neg (by omega), hy]
  rfl

section
variable {l : List Nd} {k : Nat} {op n : Int}
theorem at_ar (hE : 0 ≤ endv l k) : ∃ hk : k < l.length, 0 ≤ ar l[k] ∧ arAt l k = ar l[k] := by
  have hk : k < l.length := by have := (endv_in l k hE).2; simpa using this
  have := endv_ar l k hE
  rw [arAt_in _ _ hk] at this
  exact ⟨hk, this, arAt_in _ _ hk⟩
/-- The first kid. -/
theorem first_kid (hE : 0 ≤ endv l k) (h : 0 < arAt l k) : 0 ≤ endv l ((k + 1 : Nat) : Int) ∧ endv l ((k + 1 : Nat) : Int) ≤ endv l k ∧ k + 1 < l.length := by
  have := kth_range l k hE 0 (by omega)
  have h3 : kth l (k + 1) 0 = ((k + 1 : Nat) : Int) := by simp [kth]
  rw [h3] at this
  obtain ⟨_, _, a, b⟩ := this
  have := (endv_in l _ a).2
  exact ⟨a, b, by simpa using this⟩
theorem kid_one (hE : 0 ≤ endv l k) (h : arAt l k = 1) : endv l ((k + 1 : Nat) : Int) = endv l k := by
  have h1 := kth_last l k hE
  rw [h, show (1 : Int).toNat = 0 + 1 from rfl] at h1
  have h2 : endv l (kth l (k + 1) 0) = endv l k := h1
  have h3 : kth l (k + 1) 0 = ((k + 1 : Nat) : Int) := by simp [kth]
  rw [← h3]; exact h2
/-- What is put ahead of a part. -/
theorem ins_repl (hE : 0 ≤ endv l ((k + 1 : Nat) : Int)) : l.take (k + 1) ++ (6, 0) :: l.drop (k + 1) = replV l ((k + 1 : Nat) : Int) ((6, 0) :: partV l ((k + 1 : Nat) : Int)) := by
  have hgt := endv_gt l _ hE
  have hle := endv_le l ((k + 1 : Nat) : Int)
  obtain ⟨m, hm⟩ := Int.eq_ofNat_of_zero_le hE
  rw [hm] at hgt hle
  rw [replV, if_neg (by omega), partV, if_neg (by omega), hm]
  simp only [Int.toNat_natCast, List.append_assoc, List.cons_append]
  congr 2
  have e : l.drop (k + 1) = ((l.take m).drop (k + 1)) ++ l.drop m := by
    conv => lhs; rw [← List.take_append_drop m l]
    rw [List.drop_append_of_le_length (by simp; omega)]
  exact e
theorem part_whole {q : Nat} (h : 0 ≤ endv l q) : endv (partV l q) 0 = (partV l q).length := by
  obtain ⟨m, hs, he⟩ := endv_get l q h
  have hle := scan_le _ _ _ hs
  have e : partV l q = (l.drop q).take m := by
    rw [partV, if_neg (by omega), he]
    simp only [Int.toNat_natCast]
    rw [List.drop_take]
    congr 1
    omega
  have := scan_take 1 _ m hs []
  rw [List.append_nil] at this
  refine whole_of ?_
  rw [e, this, List.length_take, Nat.min_eq_left hle]
theorem ins_whole (hE : 0 ≤ endv l ((k + 1 : Nat) : Int)) : endv ((6, 0) :: partV l ((k + 1 : Nat) : Int)) 0 = ((6, 0) :: partV l ((k + 1 : Nat) : Int)).length := by
  have hp : endv (partV l ((k + 1 : Nat) : Int)) 0 = (partV l ((k + 1 : Nat) : Int)).length := part_whole hE
  refine whole_of ?_
  rw [show (1 : Nat) = 0 + 1 from rfl, scan_cons, if_neg (by rw [ar_not]; omega), ar_not]
  have := whole_scan hp
  show (scan 1 _).map _ = _
  rw [this]
  simp
theorem may_tag {x : Nd} (h : mayV x op n) (h4 : op ≤ 4) : (op = 1 ∨ op = 2 ∨ op = 3) ∧ 7 ≤ x.1 ∧ x.1 ≤ 19 ∧ 7 ≤ n ∧ n ≤ 19 ∨ op = 4 ∧ (x.1 = 1 ∨ (x.1 = 2 ∧ 0 ≤ n ∧ n ≤ 1)) := by
  rcases h with h | h | h | h | h | h | h
  · exact .inl ⟨.inl h.1, by omega, by omega, by omega, by omega⟩
  · exact .inl ⟨.inr (.inl h.1), by omega, by omega, by omega, by omega⟩
  · exact .inl ⟨.inr (.inr h.1), by omega, by omega, by omega, by omega⟩
  · exact .inr h
  · omega
  · omega
  · omega
/-- The changed node alone is another one; it has as many kids. -/
theorem changed_set (hE : 0 ≤ endv l k) (x : Nd) (hx : l[k]? = some x) (h : mayV x op n) (h4 : op ≤ 4) : ∃ y, changedV l k x op n = l.set k y ∧ ar y = ar x ∧ ((op ≤ 3 ∧ y = (n, x.2)) ∨ (op = 4 ∧ y = (x.1, n))) := by
  obtain ⟨hk, h0, _⟩ := at_ar hE
  have hxe : l[k] = x := (List.getElem?_eq_some_iff.1 hx).2
  rw [hxe] at h0
  rcases may_tag h h4 with ⟨ho, a, b, c, d⟩ | ⟨ho, h⟩
  · refine ⟨(n, x.2), by unfold changedV; rw [if_pos ho], ?_, .inl ⟨by omega, rfl⟩⟩
    obtain ⟨t, m⟩ := x
    simp only at a b h0
    rcases ar_row (m := m) a b with ⟨e, rfl⟩ | e
    · rcases ar_row (m := 0) c d with ⟨e', _⟩ | e'
      · simp only; rw [e, e']
      · exfalso
        have : ar (n, 0) ≠ -1 := by
          have hl : lim n 0 = (0, 2) := by
            unfold lim
            rw [if_neg (by omega), if_neg (by omega), if_neg (by omega), if_neg (by omega), if_neg (by omega), if_neg (by omega), if_neg (by omega), if_neg (by omega), if_neg (by omega), if_pos ⟨c, d⟩]
          unfold ar
          simp only [hl]
          rw [if_neg (by omega), if_neg (by omega)]
          omega
        exact this e'
    · omega
  · refine ⟨(x.1, n), by unfold changedV; rw [if_neg (by omega), if_pos ho], ?_, .inr ⟨ho, rfl⟩⟩
    obtain ⟨t, m⟩ := x
    simp only at h h0
    rcases h with rfl | ⟨rfl, h1, h2⟩
    · rw [ar_int, ar_int]
    · rw [ar_bool h1 h2]
      exact (ar_lim (a := 1) (b := 0) rfl (by decide) h0).symm
theorem changed_alike (hE : 0 ≤ endv l k) (x : Nd) (hx : l[k]? = some x) (h : mayV x op n) (h4 : op ≤ 4) : Alike l (changedV l k x op n) := by
  obtain ⟨y, h1, h2, _⟩ := changed_set hE x hx h h4
  obtain ⟨hk, hxe⟩ := List.getElem?_eq_some_iff.1 hx
  rw [h1]
  exact alike_set l k y hk (by rw [h2, hxe])
/-- What was done by an operator that changes a node alone is undone. -/
theorem changed_back (hE : 0 ≤ endv l k) (x : Nd) (hx : l[k]? = some x) (h : mayV x op n) (h4 : op ≤ 4) : ∃ y, (changedV l k x op n)[k]? = some y ∧ mayV y op (if op = 4 then x.2 else x.1) ∧ changedV (changedV l k x op n) k y op (if op = 4 then x.2 else x.1) = l := by
  obtain ⟨y, h1, h2, h3⟩ := changed_set hE x hx h h4
  obtain ⟨hk, hxe⟩ := List.getElem?_eq_some_iff.1 hx
  have hback : (l.set k y).set k x = l := by
    rw [List.set_set]
    apply List.ext_getElem?
    intro j
    by_cases e : k = j
    · subst e; rw [List.getElem?_set_self hk, hx]
    · rw [List.getElem?_set_ne e]
  refine ⟨y, by rw [h1, List.getElem?_set_self hk], ?_, ?_⟩
  · obtain ⟨hk', h0, _⟩ := at_ar hE
    rw [hxe] at h0
    rcases h3 with ⟨ho, rfl⟩ | ⟨ho, rfl⟩
    · rw [if_neg (by omega)]
      rcases h with h | h | h | h | h | h | h
      · exact .inl ⟨h.1, h.2.2.2.1, h.2.2.2.2, h.2.1, h.2.2.1⟩
      · exact .inr (.inl ⟨h.1, h.2.2.2.1, h.2.2.2.2, h.2.1, h.2.2.1⟩)
      · exact .inr (.inr (.inl ⟨h.1, h.2.2.2.1, h.2.2.2.2, h.2.1, h.2.2.1⟩))
      · omega
      · omega
      · omega
      · omega
    · rw [if_pos ho]
      have hb : x.1 = 2 → 0 ≤ x.2 ∧ x.2 ≤ 1 := fun e => by
        obtain ⟨t, m⟩ := x
        simp only at e h0 ⊢
        subst e
        unfold ar at h0
        rw [if_neg (show ¬ ((2 : Int) = 1) from by decide)] at h0
        have : lim 2 m = (1, 0) := rfl
        simp only [this] at h0
        split at h0 <;> omega
      refine .inr (.inr (.inr (.inl ⟨ho, ?_⟩)))
      rcases h with h | h | h | h | h | h | h
      · omega
      · omega
      · omega
      · rcases h.2 with e | e
        · exact .inl e
        · exact .inr ⟨e.1, hb e.1⟩
      · omega
      · omega
      · omega
  · rw [h1]
    rcases h3 with ⟨ho, rfl⟩ | ⟨ho, rfl⟩
    · rw [if_neg (by omega)]
      have ho' : op = 1 ∨ op = 2 ∨ op = 3 := by
        rcases may_tag h (by omega) with e | e
        · exact e.1
        · omega
      unfold changedV
      rw [if_pos ho']
      exact hback
    · rw [if_pos ho]
      unfold changedV
      rw [if_neg (by omega), if_pos ho]
      exact hback
/-- The changed list is whole; how long it is; what stays. -/
theorem changed_else (hl : endv l 0 = l.length) (hE : 0 ≤ endv l k) (x : Nd) (hx : l[k]? = some x) (h : mayV x op n) : endv (changedV l k x op n) 0 = (changedV l k x op n).length ∧ (changedV l k x op n).length ≤ l.length + 1 ∧
    (∀ j, j < k → (changedV l k x op n)[j]? = l[j]?) ∧ ∀ j : Nat, endv l k ≤ j → j < l.length → l.length ≤ (changedV l k x op n).length + j ∧ (changedV l k x op n)[(changedV l k x op n).length + j - l.length]? = l[j]? := by
  obtain ⟨hk, h0, har⟩ := at_ar hE
  have hxe : l[k] = x := (List.getElem?_eq_some_iff.1 hx).2
  rw [hxe] at h0 har
  have hgt := endv_gt l k hE
  by_cases h4 : op ≤ 4
  · obtain ⟨y, h1, h2, h3⟩ := changed_set hE x hx h h4
    have ha := changed_alike hE x hx h h4
    refine ⟨by rw [← endv_alike ha, hl, ha.len], by rw [h1, List.length_set]; omega, fun j hj => by rw [h1, List.getElem?_set_ne (by omega)], fun j hj hj2 => ⟨by rw [h1, List.length_set]; omega, ?_⟩⟩
    rw [h1, List.length_set, Nat.add_sub_cancel_left, List.getElem?_set_ne (by omega)]
  · have repl : ∀ (q : Nat) (r : List Nd), 0 ≤ endv l q → endv l q ≤ endv l k → k ≤ q → endv r 0 = r.length → r.length ≤ (partV l q).length + 1 → changedV l k x op n = replV l q r → endv (changedV l k x op n) 0 = (changedV l k x op n).length ∧ (changedV l k x op n).length ≤ l.length + 1 ∧
        (∀ j, j < k → (changedV l k x op n)[j]? = l[j]?) ∧ ∀ j : Nat, endv l k ≤ j → j < l.length → l.length ≤ (changedV l k x op n).length + j ∧ (changedV l k x op n)[(changedV l k x op n).length + j - l.length]? = l[j]? := by
      intro q r hq hqk hkq hr hrl e
      have hlen := repl_len (r := r) hq
      have hpl : (partV l q).length = (endv l q).toNat - q := by
        have h1 := endv_le l q
        have h2 := endv_gt l q hq
        rw [partV, if_neg (by omega)]
        simp
        omega
      have h2 := endv_gt l q hq
      rw [e]
      refine ⟨repl_whole hl hq hr, by omega, fun j hj => repl_before hq j (by omega), fun j hj hj2 => ⟨by omega, ?_⟩⟩
      have := repl_behind (r := r) hq j (by omega)
      rw [← this]
      congr 1
      omega
    have hpos : ∀ q : Nat, 0 ≤ endv l q → 1 ≤ (partV l q).length := fun q hq => by
      have h1 := endv_le l q
      have h2 := endv_gt l q hq
      rw [partV, if_neg (by omega)]
      simp
      omega
    have ho : (op = 5 ∨ (op = 6 ∧ (x.1 = 23 ∨ x.1 = 24)) ∨ (op = 7 ∧ x.1 = 25)) := by
      rcases h with h | h | h | h | h | h | h
      · omega
      · omega
      · omega
      · omega
      · exact .inl h.1
      · exact .inr (.inl ⟨h.1, h.2.1⟩)
      · exact .inr (.inr h)
    rcases ho with ho | ⟨ho, ht⟩ | ⟨ho, ht⟩
    · refine repl k [(26, 0)] hE (Int.le_refl _) (Nat.le_refl _) (whole_one ar_skip) (by have := hpos k hE; simp) ?_
      unfold changedV
      rw [if_neg (by omega), if_neg (by omega), if_pos ho]
    · have ha : 0 < arAt l k := by
        rw [har]
        obtain ⟨t, m⟩ := x
        simp only at ht h0
        rcases ht with rfl | rfl
        · rw [ar_if h0]; omega
        · rw [ar_while h0]; omega
      obtain ⟨f1, f2, f3⟩ := first_kid hE ha
      refine repl (k + 1) _ f1 f2 (by omega) (ins_whole f1) (by simp) ?_
      unfold changedV
      rw [if_neg (by omega), if_neg (by omega), if_neg (by omega), if_pos ho]
      exact ins_repl f1
    · have ha : arAt l k = 1 := by
        rw [har]
        obtain ⟨t, m⟩ := x
        simp only at ht h0
        subst ht
        exact ar_ret h0
      obtain ⟨f1, f2, f3⟩ := first_kid hE (by omega)
      refine repl (k + 1) [(1, n)] f1 f2 (by omega) (whole_one (ar_int n)) (by have := hpos _ f1; simp) ?_
      unfold changedV
      rw [if_neg (by omega), if_neg (by omega), if_neg (by omega), if_neg (by omega)]
end
end Go.Proofs.Ytalehbmgbjiigaa
end

section
namespace Go.Proofs.Ytalehbmgbjiigaa
open Go.RowKit
set_option linter.unusedVariables false
set_option linter.unusedSimpArgs false

def dlC (d : Dl) : List D := [intsD d.path, iD d.op, iD d.n]
def dlD (d : Dl) : D := .agg (dlC d)
def asDlC : List D → Option Dl
  | [a, b, c] => (asInts a).bind fun p => (asInt b).bind fun o => (asInt c).map fun n => ⟨p, o, n⟩
  | _ => none
def asDl : D → Option Dl
  | .agg cs => asDlC cs
  | _ => none
@[simp] theorem asDl_dlD (d : Dl) : asDl (dlD d) = some d := by simp [asDl, dlD, dlC, asDlC]
theorem imp_dlC {cs : List D} {d : Dl} (h : asDlC cs = some d) : ImpL cs (dlC d) := by
  unfold asDlC at h
  split at h
  · rename_i a b c
    obtain ⟨p, h1, h⟩ := Option.bind_eq_some_iff.1 h
    obtain ⟨o, h2, h⟩ := Option.bind_eq_some_iff.1 h
    obtain ⟨n, h3, h⟩ := Option.map_eq_some_iff.1 h
    subst h
    exact .cons (imp_ints h1) (.cons (intT.ok _ _ h2) (.cons (intT.ok _ _ h3) .nil))
  · cases h
def dlT : Dec Dl := ⟨dlD, asDl, asDl_dlD, fun d a h => by
  unfold asDl at h
  split at h
  · exact Imp.agg (imp_dlC h)
  · cases h⟩
@[simp] theorem pure_dl (d : Dl) : pureD (dlD d) = true := rfl
@[simp] theorem pureL_dlC (d : Dl) : pureL (dlC d) = true := rfl
@[simp] theorem box_dl (t : TypeId) (d : Dl) (H : Heap) : boxH t (dlD d) H = some (.hp H.length 0, H ++ [.cells t 3 [intsD d.path, iD d.op, iD d.n]]) := rfl
theorem dl_agg (d : Dl) : D.agg [intsD d.path, iD d.op, iD d.n] = dlD d := rfl
theorem prog_agg (p : Pg) : D.agg [iD p.params, intsD p.vars, nodesD p.body] = progD p := rfl
/-- A program, at a node, to a number. -/
structure Chg where
  p : Pg
  k : Int
  n : Int
  deriving DecidableEq, Inhabited
def chC (c : Chg) : List D := [iD c.p.params, intsD c.p.vars, nodesD c.p.body, iD c.k, iD c.n]
def chD (c : Chg) : D := .agg (chC c)
def asChC : List D → Option Chg
  | [a, b, c, d, e] => (asInt a).bind fun m => (asInts b).bind fun vs => (asNodes c).bind fun l => (asInt d).bind fun k => (asInt e).map fun n => ⟨⟨m, vs, l⟩, k, n⟩
  | _ => none
def asCh : D → Option Chg
  | .agg cs => asChC cs
  | _ => none
@[simp] theorem asCh_chD (c : Chg) : asCh (chD c) = some c := by simp [asCh, chD, chC, asChC]
theorem imp_chC {cs : List D} {c : Chg} (h : asChC cs = some c) : ImpL cs (chC c) := by
  unfold asChC at h
  split at h
  · rename_i a b x d e
    obtain ⟨m, h1, h⟩ := Option.bind_eq_some_iff.1 h
    obtain ⟨vs, h2, h⟩ := Option.bind_eq_some_iff.1 h
    obtain ⟨l, h3, h⟩ := Option.bind_eq_some_iff.1 h
    obtain ⟨k, h4, h⟩ := Option.bind_eq_some_iff.1 h
    obtain ⟨n, h5, h⟩ := Option.map_eq_some_iff.1 h
    subst h
    exact .cons (intT.ok _ _ h1) (.cons (imp_ints h2) (.cons (imp_nodes h3) (.cons (intT.ok _ _ h4) (.cons (intT.ok _ _ h5) .nil))))
  · cases h
def chT : Dec Chg := ⟨chD, asCh, asCh_chD, fun d a h => by
  unfold asCh at h
  split at h
  · exact Imp.agg (imp_chC h)
  · cases h⟩
@[simp] theorem pure_ch (c : Chg) : pureD (chD c) = true := rfl
@[simp] theorem pureL_chC (c : Chg) : pureL (chC c) = true := rfl
@[simp] theorem box_ch (t : TypeId) (c : Chg) (H : Heap) : boxH t (chD c) H = some (.hp H.length 0, H ++ [.cells t 5 [iD c.p.params, intsD c.p.vars, nodesD c.p.body, iD c.k, iD c.n]]) := rfl
theorem ch_agg (c : Chg) : D.agg [iD c.p.params, intsD c.p.vars, nodesD c.p.body, iD c.k, iD c.n] = chD c := rfl
theorem nodesC_set (l : List Nd) (k : Nat) (x : Nd) (hk : k < l.length) : nodesC (l.set k x) = (nodesC l).take (2 * k) ++ nodeD x ++ (nodesC l).drop (2 * k + 2) := by
  have h0 : nodesC l = nodesC (l.take k) ++ (nodeD l[k] ++ nodesC (l.drop (k + 1))) := by
    have e : l = l.take k ++ (l[k] :: l.drop (k + 1)) := by rw [← List.drop_eq_getElem_cons hk, List.take_append_drop]
    have e2 : nodesC (l[k] :: l.drop (k + 1)) = nodeD l[k] ++ nodesC (l.drop (k + 1)) := rfl
    conv => lhs; rw [e]
    rw [nodesC_app, e2]
  have hl : (nodesC (l.take k)).length = 2 * k := by rw [nodesC_len, List.length_take]; omega
  have h1 : (nodesC l).take (2 * k) = nodesC (l.take k) := by rw [h0]; exact List.take_left' hl
  have h2 : (nodesC l).drop (2 * k + 2) = nodesC (l.drop (k + 1)) := by
    rw [h0, ← List.append_assoc]
    exact List.drop_left' (by simp [hl, nodeD])
  rw [h1, h2, List.set_eq_take_append_cons_drop, if_pos hk, nodesC_app]
  have e2 : nodesC (x :: l.drop (k + 1)) = nodeD x ++ nodesC (l.drop (k + 1)) := rfl
  rw [e2, List.append_assoc]
theorem nodesC_ins (l : List Nd) (k : Nat) (x : Nd) (hk : k ≤ l.length) : nodesC (l.take k ++ x :: l.drop k) = (nodesC l).take (2 * k) ++ nodeD x ++ (nodesC l).drop (2 * k) := by
  have h0 : nodesC l = nodesC (l.take k) ++ nodesC (l.drop k) := by rw [← nodesC_app, List.take_append_drop]
  have hl : (nodesC (l.take k)).length = 2 * k := by rw [nodesC_len, List.length_take]; omega
  have h1 : (nodesC l).take (2 * k) = nodesC (l.take k) := by rw [h0]; exact List.take_left' hl
  have h2 : (nodesC l).drop (2 * k) = nodesC (l.drop k) := by rw [h0]; exact List.drop_left' hl
  have e2 : nodesC (x :: l.drop k) = nodeD x ++ nodesC (l.drop k) := rfl
  rw [h1, h2, nodesC_app, e2, List.append_assoc]
/-- A row of nodes of the call's own, by value. -/
theorem deref_row (H : Heap) (n : Nat) (t : TypeId) (id : Nat) (l : List Nd) (h : H[id]? = some (.cells t 2 (nodesC l))) : derefN H (n + 1) (.hs id l.length) = some (nodesD l) := by
  simp only [derefN, h]
  rw [if_pos (by rw [nodesC_len]; omega), List.take_of_length_le (by rw [nodesC_len]; omega), mapM_nodesC, Option.map_some, chunks_nodesC]; rfl
theorem outD_nrow (H : Heap) (t : TypeId) (id : Nat) (l : List Nd) (h : H[id]? = some (.cells t 2 (nodesC l))) : outD (some (.hs id l.length, H)) = some (nodesD l) := deref_row H 8 t id l h
theorem src_nodes (H : Heap) (l : List Nd) : srcH 2 H (nodesD l) = some (nodesC l) := by
  show (elsD 2 (.sl 2 (l.map nodeD))).map List.flatten = _
  cases l <;> rfl
end Go.Proofs.Ytalehbmgbjiigaa
end
