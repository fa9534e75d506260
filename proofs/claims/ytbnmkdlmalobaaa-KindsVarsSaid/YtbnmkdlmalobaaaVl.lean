/-
  Parts joined into one text: Args, ArgsP, Sh09a, Mixed, C09a, T09a, Sh09b, T09b, Sh09c. No condition.
-/
import Derived.Test.YtbnmkdlmalobaaaProg
import Derived.ProofKit
import Derived.OpenShut
import Derived.ShutString
import Derived.ChangeOld
import Derived.Deep.SlicePairs
import Derived.Lib.SmallJoins
import Derived.WalkKit
import Derived.Test.YtbnmkdlmalobaaaVa
import Derived.Test.YtbnmkdlmalobaaaVi
import Derived.Test.YtbnmkdlmalobaaaVk

section
namespace Go.Proofs.Ytbnmkdlmalobaaa
open Go.ChangeShapes Go.WideShapes Go.ChangeAt Go.RowKit Go.Deep Go.Joins
set_option linter.unusedVariables false
set_option maxRecDepth 100000

theorem block_lt {W : World} {p : Addr} {v : Value} (h : W.cell? p = some v) : p.block < W.heap.size := by
  unfold World.cell? at h
  split at h
  · rename_i c t s he; exact (Array.getElem?_eq_some_iff.1 he).1
  · cases h
theorem spot_none {W : World} {p : Addr} {v : Value} (h : W.cell? p = some v) : p.spot = none := World.cell?_spot h
theorem addr_addA (b o j : Nat) : (⟨b, o, none⟩ : Addr).add j = ⟨b, o + j, none⟩ := Go.WideShapes.add_plain ..

section
variable {H : Type} {enc : TypeId × Value → H} {W : World} {d : DataW H} {p : List MemPlace}

theorem arg_ints {base : Nat} {v : Value} (hv : Value.okWide Try.prog W .any base 22 v) (h : DataW.Trod enc Try.prog W 0 (fun _ => true) true 22 v d p) : ∃ l, IntsAt W v l := by
  obtain ⟨a, len, cap, rfl⟩ := okWide_slice Try.underlying22 hv
  obtain ⟨fuel, hf⟩ := h
  rcases open_ints Try.underlying22 Try.underlying3 (by kernel_rfl) hf with ⟨hcs, _⟩ | ⟨x, l, c, zs, hcs, _, hl, hm, hz, _, hcell, hwz⟩
  · simp [Value.cells] at hcs
    obtain ⟨rfl, rfl, rfl⟩ := hcs
    exact ⟨[], .inl ⟨none, 0, rfl, rfl, rfl, fun _ => rfl⟩⟩
  · simp [Value.cells] at hcs
    obtain ⟨rfl, rfl, rfl⟩ := hcs
    have hz' : zs.length = cap := by simpa using hz
    refine ⟨zs.take len, ?_⟩
    have hlen : (zs.take len).length = len := by rw [List.length_take]; omega
    by_cases h0 : len = 0
    · subst h0; exact .inl ⟨_, cap, rfl, hlen, by simp, fun h => by cases h⟩
    · obtain ⟨b, off, rfl, hc⟩ := ints_at hcell (by omega)
      refine .inr ⟨b, off, cap, by rw [hlen], by omega, by omega, ?_, fun j hj => ?_⟩
      · exact block_lt (hc 0 (by omega))
      · have hj' : j < len := by rw [List.length_map, hlen] at hj; exact hj
        have hjz : j < zs.length := by omega
        rw [hc j hjz, List.getElem?_map, List.getElem?_take_of_lt hj', List.getElem?_eq_getElem hjz]
        simp [hjz]

theorem arg_nodes {base : Nat} {v : Value} (hv : Value.okWide Try.prog W .any base 23 v) (h : DataW.Trod enc Try.prog W 0 (fun _ => true) true 23 v d p) : ∃ l, NodesAt W v l := by
  obtain ⟨a, len, cap, rfl⟩ := okWide_slice Try.underlying23 hv
  obtain ⟨fuel, hf⟩ := h
  rcases open_slice_pairs Try.underlying23 Try.underlying39 (by kernel_rfl) rfl rfl (by kernel_rfl) (by kernel_rfl) hf with ⟨hcs, _⟩ | ⟨x, l, c, m, n, V0, V1, D0, D1, P0, P1, hcs, _, hl, hm, hmm, _, hx⟩
  · simp [Value.cells] at hcs
    obtain ⟨rfl, rfl, rfl⟩ := hcs
    exact ⟨[], .inl ⟨none, 0, rfl, rfl, rfl, fun _ => rfl⟩⟩
  · simp [Value.cells] at hcs
    obtain ⟨rfl, rfl, rfl⟩ := hcs
    have hm' : m = cap := by simpa using hmm
    subst hm'
    have hnum : ∀ i, i < m → ∃ t z : Int, V0 i = .int .i64 t ∧ V1 i = .int .i64 z := fun i hi => by
      obtain ⟨_, _, h0, h1⟩ := hx i hi
      obtain ⟨t, e0, _⟩ := DataW.trod_int Try.underlying3 h0
      obtain ⟨z, e1, _⟩ := DataW.trod_int Try.underlying3 h1
      exact ⟨t, z, by simpa using e0, by simpa using e1⟩
    let f : Nat → Nd := fun i => (match V0 i with | .int _ t => t | _ => 0, match V1 i with | .int _ z => z | _ => 0)
    have hf0 : ∀ i, i < m → V0 i = .int .i64 (f i).1 ∧ V1 i = .int .i64 (f i).2 := fun i hi => by
      obtain ⟨t, z, e0, e1⟩ := hnum i hi
      simp only [f, e0, e1]; exact ⟨trivial, trivial⟩
    refine ⟨(List.range len).map f, ?_⟩
    have hlen : ((List.range len).map f).length = len := by simp
    by_cases h0 : len = 0
    · subst h0; exact .inl ⟨_, m, rfl, by simp, by simp [nodeCells], fun h => by cases h⟩
    · have hc0 := (hx 0 (by omega)).1
      have hsp := spot_none hc0
      obtain ⟨b, off, sp⟩ := x
      have hsp' : sp = none := by simpa [Addr.add] using hsp
      subst hsp'
      have hblt : b < W.heap.size := by have := block_lt hc0; rwa [addr_addA] at this
      refine .inr ⟨b, off, m, by rw [hlen], by omega, by omega, hblt, fun j hj => ?_⟩
      rw [nodeCells_length, hlen] at hj
      obtain ⟨q, hq⟩ : ∃ q, j = 2 * q ∨ j = 2 * q + 1 := ⟨j / 2, by omega⟩
      have hqm : q < m := by omega
      have hql : q < ((List.range len).map f).length := by rw [hlen]; omega
      obtain ⟨g1, g2, _⟩ := hx q hqm
      obtain ⟨e0, e1⟩ := hf0 q hqm
      rw [addr_addA] at g1 g2
      rcases hq with rfl | rfl
      · rw [nodeCells_get0 _ q hql, show off + 2 * q = off + q * 2 from by omega, g1, e0]; simp
      · rw [nodeCells_get1 _ q hql, show off + (2 * q + 1) = off + (q * 2 + 1) from by omega, g2, e1]; simp

theorem arg_int {base : Nat} {v : Value} (hv : Value.okWide Try.prog W .any base 3 v) (h : DataW.Trod enc Try.prog W 0 (fun _ => true) true 3 v d p) : ∃ x : Int, v = .int .i64 x := by
  obtain ⟨x, rfl, _, _, _⟩ := open_int Try.underlying3 hv h
  exact ⟨x, rfl⟩

theorem arg_node {base : Nat} {v : Value} (hv : Value.okWide Try.prog W .any base 39 v) (h : DataW.Trod enc Try.prog W 0 (fun _ => true) true 39 v d p) : ∃ x : Nd, v = .agg #[.int .i64 x.1, .int .i64 x.2] := by
  obtain ⟨v0, v1, y0, y1, n, rfl, _, _, h0, h1⟩ := open_agg2 Try.underlying39 (by kernel_rfl) (by kernel_rfl) hv h
  obtain ⟨t, e0, _⟩ := DataW.trod_int Try.underlying3 h0
  obtain ⟨z, e1, _⟩ := DataW.trod_int Try.underlying3 h1
  simp at e0 e1
  exact ⟨(t, z), by rw [e0, e1]⟩
end
end Go.Proofs.Ytbnmkdlmalobaaa
end

section
namespace Go.Proofs.Ytbnmkdlmalobaaa
open Go.ChangeShapes Go.WideShapes Go.ChangeAt Go.RowKit Go.Deep Go.Joins
set_option linter.unusedVariables false
set_option maxRecDepth 100000

section
variable {H : Type} {enc : TypeId × Value → H} {W : World} {d : DataW H} {p : List MemPlace}
theorem ints_of {v : Value} {n0 : Nat} {y : DataW H × List MemPlace} (hf : DataW.trod enc Try.prog W 0 (fun _ => true) true n0 22 [v] = some y) : ∃ l, IntsAt W v l := by
  rcases open_ints Try.underlying22 Try.underlying3 (by kernel_rfl) hf with ⟨hcs, _⟩ | ⟨x, len, cap, zs, hcs, _, hl, hm, hz, _, hcell, hwz⟩
  · simp only [List.cons.injEq, and_true] at hcs
    subst hcs
    exact ⟨[], .inl ⟨none, 0, rfl, rfl, rfl, fun _ => rfl⟩⟩
  · simp only [List.cons.injEq, and_true] at hcs
    subst hcs
    have hz' : zs.length = cap := by simpa using hz
    refine ⟨zs.take len, ?_⟩
    have hlen : (zs.take len).length = len := by rw [List.length_take]; omega
    by_cases h0 : len = 0
    · subst h0; exact .inl ⟨_, cap, rfl, hlen, by simp, fun h => by cases h⟩
    · obtain ⟨b, off, rfl, hc⟩ := ints_at hcell (by omega)
      refine .inr ⟨b, off, cap, by rw [hlen], by omega, by omega, ?_, fun j hj => ?_⟩
      · exact block_lt (hc 0 (by omega))
      · have hj' : j < len := by rw [List.length_map, hlen] at hj; exact hj
        have hjz : j < zs.length := by omega
        rw [hc j hjz, List.getElem?_map, List.getElem?_take_of_lt hj', List.getElem?_eq_getElem hjz]
        simp [hjz]

theorem nodes_of {v : Value} {n0 : Nat} {y : DataW H × List MemPlace} (hf : DataW.trod enc Try.prog W 0 (fun _ => true) true n0 23 [v] = some y) : ∃ l, NodesAt W v l := by
  rcases open_slice_pairs Try.underlying23 Try.underlying39 (by kernel_rfl) rfl rfl (by kernel_rfl) (by kernel_rfl) hf with ⟨hcs, _⟩ | ⟨x, len, cap, m, n, V0, V1, D0, D1, P0, P1, hcs, _, hl, hm, hmm, _, hx⟩
  · simp only [List.cons.injEq, and_true] at hcs
    subst hcs
    exact ⟨[], .inl ⟨none, 0, rfl, rfl, rfl, fun _ => rfl⟩⟩
  · simp only [List.cons.injEq, and_true] at hcs
    subst hcs
    have hm' : m = cap := by simpa using hmm
    subst hm'
    have hnum : ∀ i, i < m → ∃ t z : Int, V0 i = .int .i64 t ∧ V1 i = .int .i64 z := fun i hi => by
      obtain ⟨_, _, h0, h1⟩ := hx i hi
      obtain ⟨t, e0, _⟩ := DataW.trod_int Try.underlying3 h0
      obtain ⟨z, e1, _⟩ := DataW.trod_int Try.underlying3 h1
      exact ⟨t, z, by simpa using e0, by simpa using e1⟩
    let f : Nat → Nd := fun i => (match V0 i with | .int _ t => t | _ => 0, match V1 i with | .int _ z => z | _ => 0)
    have hf0 : ∀ i, i < m → V0 i = .int .i64 (f i).1 ∧ V1 i = .int .i64 (f i).2 := fun i hi => by
      obtain ⟨t, z, e0, e1⟩ := hnum i hi
      simp only [f, e0, e1]; exact ⟨trivial, trivial⟩
    refine ⟨(List.range len).map f, ?_⟩
    have hlen : ((List.range len).map f).length = len := by simp
    by_cases h0 : len = 0
    · subst h0; exact .inl ⟨_, m, rfl, by simp, by simp [nodeCells], fun h => by cases h⟩
    · have hc0 := (hx 0 (by omega)).1
      have hsp := spot_none hc0
      obtain ⟨b, off, sp⟩ := x
      have hsp' : sp = none := by simpa [Addr.add] using hsp
      subst hsp'
      have hblt : b < W.heap.size := by have := block_lt hc0; rwa [addr_add] at this
      refine .inr ⟨b, off, m, by rw [hlen], by omega, by omega, hblt, fun j hj => ?_⟩
      rw [nodeCells_length, hlen] at hj
      obtain ⟨q, hq⟩ : ∃ q, j = 2 * q ∨ j = 2 * q + 1 := ⟨j / 2, by omega⟩
      have hqm : q < m := by omega
      have hql : q < ((List.range len).map f).length := by rw [hlen]; omega
      obtain ⟨g1, g2, _⟩ := hx q hqm
      obtain ⟨e0, e1⟩ := hf0 q hqm
      rw [addr_add] at g1 g2
      rcases hq with rfl | rfl
      · rw [nodeCells_get0 _ q hql, show off + 2 * q = off + q * 2 from by omega, g1, e0]; simp
      · rw [nodeCells_get1 _ q hql, show off + (2 * q + 1) = off + (q * 2 + 1) from by omega, g2, e1]; simp

theorem arg_prog {base : Nat} {v : Value} (hv : Value.okWide Try.prog W .any base 25 v) (h : DataW.Trod enc Try.prog W 0 (fun _ => true) true 25 v d p) : ∃ x : Pg, Rep (· < W.heap.size) [] W v (progD x) := by
  obtain ⟨v0, v1, v2, y0, y1, y2, n, rfl, _, _, h0, h1, h2⟩ := open_agg3 Try.underlying25 (by kernel_rfl) (by kernel_rfl) hv h
  obtain ⟨t, e0, _⟩ := DataW.trod_int Try.underlying3 h0
  obtain ⟨l1, w1⟩ := ints_of h1
  obtain ⟨l2, w2⟩ := nodes_of h2
  simp at e0
  refine ⟨⟨t, l1, l2⟩, ?_⟩
  simp only [progD, progC, Rep]
  exact ⟨[v0, v1, v2], rfl, RepA.cons (by rw [e0]; exact rep_int t) (RepA.cons (intsD_rep w1) (RepA.cons (nodesD_rep w2) RepA.nil))⟩
end
end Go.Proofs.Ytbnmkdlmalobaaa
end

section
namespace Go.Proofs.Ytbnmkdlmalobaaa
open Go.RowKit
set_option linter.unusedVariables false
set_option maxRecDepth 100000

def kp_kinds_Size : List Nat := []
theorem sh_kinds_Size (n : Nat) (x0 : D) (h : Heap) : textK Try.prog T08 kp_kinds_Size n Try.f22 [x0] h =
(thn (binK .int .geq x0 (iD 2)) fun y0 =>
condK y0
(thn (binK .int .leq x0 (iD 9)) fun y1 =>
condK y1
(thn (binK .int .sub x0 (iD 1)) fun y2 =>
some (y2, h))
(some ((iD 0), h)))
(some ((iD 0), h))) := by kernel_rfl

def kp_offshootref09_Size : List Nat := []
theorem sh_offshootref09_Size (n : Nat) (x0 : D) (h : Heap) : textK Try.prog T08 kp_offshootref09_Size n Try.f23 [x0] h =
(thn (binK .int .lss x0 (iD 2)) fun y0 =>
condK y0
(some ((iD 0), h))
(thn (binK .int .gtr x0 (iD 9)) fun y1 =>
condK y1
(some ((iD 0), h))
(thn (binK .int .sub x0 (iD 1)) fun y2 =>
some (y2, h)))) := by kernel_rfl

def kp_offshootref09_typed : List Nat := []
theorem sh_offshootref09_typed (n : Nat) (x0 x1 : D) (h : Heap) : textK Try.prog T08 kp_offshootref09_typed n Try.f47 [x0, x1] h =
(thnH (boxH 25 x0 h) fun y0 h1 =>
thn (binK .int .lss x1 (iD 0)) fun y2 =>
condK y2
(some ((iD (-1)), h1))
(thn (fieldAtH 1 y0) fun y3 =>
thn (loadH none h1 y3) fun y4 =>
thn (lenH .sl y4) fun y5 =>
thn (binK .int .geq x1 y5) fun y6 =>
condK y6
(some ((iD (-1)), h1))
(thn (fieldAtH 1 y0) fun y7 =>
thn (loadH none h1 y7) fun y8 =>
thn (idxH 1 y8 x1) fun y9 =>
thn (loadH none h1 y9) fun y10 =>
some (y10, h1)))) := by kernel_rfl

def kp_offshootref09_kind : List Nat := []
theorem sh_offshootref09_kind (n : Nat) (x0 x1 : D) (h : Heap) : textK Try.prog T08 kp_offshootref09_kind n Try.f48 [x0, x1] h =
(condK x0
(some (x1, h))
(some ((iD (-1)), h))) := by kernel_rfl

def kp_offshootref09_Same : List Nat := []
theorem sh_offshootref09_Same (n : Nat) (x0 x1 : D) (h : Heap) : textK Try.prog T08 kp_offshootref09_Same n Try.f17 [x0, x1] h =
(thnH (boxH 25 x0 h) fun y0 h1 =>
thnH (boxH 25 x1 h1) fun y2 h3 =>
thn (fieldAtH 1 y0) fun y4 =>
thn (loadH none h3 y4) fun y5 =>
thn (fieldAtH 1 y2) fun y6 =>
thn (loadH none h3 y6) fun y7 =>
thnH (liftF F_RefInts [y5, y7] h3) fun y8 h9 =>
thn (fieldAtH 2 y0) fun y10 =>
thn (loadH none h9 y10) fun y11 =>
thn (fieldAtH 2 y2) fun y12 =>
thn (loadH none h9 y12) fun y13 =>
thnH (liftF F_RefSame [y11, y13] h9) fun y14 h15 =>
condK y8
(condK y14
(thn (fieldAtH 0 y0) fun y16 =>
thn (loadH none h15 y16) fun y17 =>
thn (fieldAtH 0 y2) fun y18 =>
thn (loadH none h15 y18) fun y19 =>
thn (binK .int .eql y17 y19) fun y20 =>
some (y20, h15))
(some ((bD false), h15)))
(some ((bD false), h15))) := by kernel_rfl

def kp_offshootref09_Few : List Nat := []
theorem sh_offshootref09_Few (n : Nat) (x0 : D) (h : Heap) : textK Try.prog T08 kp_offshootref09_Few n Try.f16 [x0] h =
(thnH (boxH 25 x0 h) fun y0 h1 =>
thn (fieldAtH 2 y0) fun y2 =>
thn (loadH none h1 y2) fun y3 =>
thn (lenH .sl y3) fun y4 =>
thn (binK .int .leq y4 (iD 60)) fun y5 =>
condK y5
(thn (fieldAtH 1 y0) fun y6 =>
thn (loadH none h1 y6) fun y7 =>
thn (lenH .sl y7) fun y8 =>
thn (binK .int .leq y8 (iD 20)) fun y9 =>
some (y9, h1))
(some ((bD false), h1))) := by kernel_rfl

def kp_slices_Equal___int_int_ : List Nat := [0, 1, 4, 5, 12, 13]
theorem sh_slices_Equal___int_int_ (n : Nat) (x0 x1 : D) (h : Heap) : textK Try.prog T08 kp_slices_Equal___int_int_ n Try.f41 [x0, x1] h =
(thn (lenH .sl x0) fun y0 =>
thn (lenH .sl x1) fun y1 =>
thn (binK .int .neq y0 y1) fun y2 =>
condK y2
(some ((bD false), h))
(thn (lenH .sl x0) fun y3 =>
leaveK (loopF Try.prog T08 kp_slices_Equal___int_int_ n Try.f41 0 [x0, x1, (bD false), .undef, y3, (iD 0)] h) (fun j4 s5 h6 =>
condN j4 0
(some ((bD true), h6))
(none)) (fun s5 h6 =>
some ((s5.getD 2 .undef), h6)))) := by kernel_rfl

theorem st_slices_Equal___int_int__0 (n : Nat) (s0 s1 s2 s3 s4 s5 : D) (h : Heap) : stepF Try.prog T08 kp_slices_Equal___int_int_ n Try.f41 0 [s0, s1, s2, s3, s4, s5] h =
(thn (binK .int .lss s5 s4) fun y0 =>
condK y0
(thn (idxH 1 s0 s5) fun y1 =>
thn (loadH none h y1) fun y2 =>
thn (idxH 1 s1 s5) fun y3 =>
thn (loadH none h y3) fun y4 =>
thn (binK .int .neq y2 y4) fun y5 =>
condK y5
(some (.ret, [s0, s1, (bD false), s5, s4, s5], h))
(thn (binK .int .add s5 (iD 1)) fun y6 =>
some (.normal, [s0, s1, s2, s5, s4, y6], h)))
(some ((.exit 0), [s0, s1, s2, s3, s4, s5], h))) := by kernel_rfl

def kp_bits_Mul64 : List Nat := []
theorem sh_bits_Mul64 (n : Nat) (x0 x1 : D) (h : Heap) : textK Try.prog T08 kp_bits_Mul64 n Try.f107 [x0, x1] h =
(thn (binK .int .and x0 (.v (.int .u64 4294967295))) fun y0 =>
thn (binK .int .shr x0 (.v (.int .u64 32))) fun y1 =>
thn (binK .int .and x1 (.v (.int .u64 4294967295))) fun y2 =>
thn (binK .int .shr x1 (.v (.int .u64 32))) fun y3 =>
thn (binK .int .mul y0 y2) fun y4 =>
thn (binK .int .mul y1 y2) fun y5 =>
thn (binK .int .shr y4 (.v (.int .u64 32))) fun y6 =>
thn (binK .int .add y5 y6) fun y7 =>
thn (binK .int .and y7 (.v (.int .u64 4294967295))) fun y8 =>
thn (binK .int .shr y7 (.v (.int .u64 32))) fun y9 =>
thn (binK .int .mul y0 y3) fun y10 =>
thn (binK .int .add y8 y10) fun y11 =>
thn (binK .int .mul y1 y3) fun y12 =>
thn (binK .int .add y12 y9) fun y13 =>
thn (binK .int .shr y11 (.v (.int .u64 32))) fun y14 =>
thn (binK .int .add y13 y14) fun y15 =>
thn (binK .int .mul x0 x1) fun y16 =>
some (.tup [y15, y16], h)) := by kernel_rfl

def kp_offshootref09_blocks : List Nat := [0, 1, 2, 3, 6, 7]
theorem sh_offshootref09_blocks (n : Nat) (x0 x1 x2 : D) (h : Heap) : textK Try.prog T08 kp_offshootref09_blocks n Try.f50 [x0, x1, x2] h =
(thnH (boxH 25 x0 h) fun y0 h1 =>
leaveK (loopF Try.prog T08 kp_offshootref09_blocks n Try.f50 0 [x0, x1, x2, y0, (bD false), x2] h1) (fun j2 s3 h4 =>
condN j2 0
(some ((bD true), h4))
(none)) (fun s3 h4 =>
some ((s3.getD 4 .undef), h4))) := by kernel_rfl

theorem st_offshootref09_blocks_0 (n : Nat) (s0 s1 s2 s3 s4 s5 : D) (h : Heap) : stepF Try.prog T08 kp_offshootref09_blocks n Try.f50 0 [s0, s1, s2, s3, s4, s5] h =
(thn (lenH .sl s1) fun y0 =>
thn (binK .int .lss s5 y0) fun y1 =>
condK y1
(thn (fieldAtH 2 s3) fun y2 =>
thn (loadH none h y2) fun y3 =>
thn (idxH 1 s1 s5) fun y4 =>
thn (loadH none h y4) fun y5 =>
thn (idxH 2 y3 y5) fun y6 =>
thn (fieldAtH 0 y6) fun y7 =>
thn (loadH none h y7) fun y8 =>
thn (binK .int .neq y8 (iD 20)) fun y9 =>
condK y9
(some (.ret, [s0, s1, s2, s3, (bD false), s5], h))
(thn (binK .int .add s5 (iD 1)) fun y10 =>
some (.normal, [s0, s1, s2, s3, s4, y10], h)))
(some ((.exit 0), [s0, s1, s2, s3, s4, s5], h))) := by kernel_rfl

end Go.Proofs.Ytbnmkdlmalobaaa
end

section
namespace Go.Proofs.Ytbnmkdlmalobaaa
open Go.RowKit
theorem mixed : Try.prog.follows .mixedOrders = true := by kernel_rfl
end Go.Proofs.Ytbnmkdlmalobaaa
end

section
namespace Go.Proofs.Ytbnmkdlmalobaaa
open Go.RowKit
set_option linter.unusedVariables false
set_option linter.unusedSimpArgs false


/-- How many numbers an array has. -/
def sizeV (t : Int) : Int := if 2 ≤ t ∧ t ≤ 9 then t - 1 else 0
def F_Size : List D → Option D := F1 intT fun t => some (iD (sizeV t))
theorem C_Size : CallOk Try.prog 22 F_Size := call1 (kp := kp_kinds_Size) T08_ok mixed Try.func22 (by kernel_rfl) (by decide) fun t d h => by
  cases h
  refine ⟨0, _, ?_, Imp.refl _⟩
  show outD (textK _ _ _ _ _ [iD t] []) = _
  rw [sh_kinds_Size]
  unfold sizeV
  by_cases h1 : 2 ≤ t <;> by_cases h2 : t ≤ 9 <;> simp (disch := omega) [h1, h2, intD_sub]
theorem C_RefSize : CallOk Try.prog 23 F_Size := call1 (kp := kp_offshootref09_Size) T08_ok mixed Try.func23 (by kernel_rfl) (by decide) fun t d h => by
  cases h
  refine ⟨0, _, ?_, Imp.refl _⟩
  show outD (textK _ _ _ _ _ [iD t] []) = _
  rw [sh_offshootref09_Size]
  unfold sizeV
  by_cases h1 : t < 2
  · simp [h1, Int.not_le.2 h1]
  · by_cases h2 : 9 < t
    · simp [h1, h2, Int.not_le.2 h2]
    · simp (disch := omega) [h1, h2, intD_sub, Int.not_lt.1 h1, Int.not_lt.1 h2]

/-- A variable's type; -1: there is none. -/
def typedV (vs : List Int) (v : Int) : Int := if v < 0 then -1 else vs.getD v.toNat (-1)
def F_typed : List D → Option D := F2 progT intT fun p v => some (iD (typedV p.vars v))
theorem C_typed : CallOk Try.prog 47 F_typed := call2 (kp := kp_offshootref09_typed) T08_ok mixed Try.func47 (by kernel_rfl) (by decide) fun p v d h => by
  cases h
  refine ⟨0, _, ?_, Imp.refl _⟩
  show outD (textK _ _ _ _ _ [progD p, iD v] []) = _
  rw [sh_offshootref09_typed]
  unfold typedV
  by_cases h1 : v < 0
  · simp [h1]
  · by_cases h2 : (p.vars.length : Int) ≤ v
    · have : p.vars[v.toNat]? = none := List.getElem?_eq_none (by omega)
      simp [h1, h2, this]
    · have h3 : v.toNat < p.vars.length := by omega
      simp [h1, h2, idx_ints _ _ (Int.not_lt.1 h1) h3, h3]

def F_kind : List D → Option D := F2 boolT intT fun b k => some (iD (if b then k else -1))
theorem C_kind : CallOk Try.prog 48 F_kind := call2 (kp := kp_offshootref09_kind) T08_ok mixed Try.func48 (by kernel_rfl) (by decide) fun b k d h => by
  cases h
  refine ⟨0, _, ?_, Imp.refl _⟩
  show outD (textK _ _ _ _ _ [bD b, iD k] []) = _
  rw [sh_offshootref09_kind]
  cases b <;> simp

theorem refInts_pure (a b : List Int) (H : Heap) (ha : a.length ≤ 3000000) (hb : b.length ≤ 3000000) : liftF F_RefInts [intsD a, intsD b] H = some (bD (decide (a = b)), H) := by
  rw [liftF_pure _ _ _ rfl]; simp [F_RefInts, ha, hb]
theorem refSame_pure (a b : List Nd) (H : Heap) (ha : a.length ≤ 3000000) (hb : b.length ≤ 3000000) : liftF F_RefSame [nodesD a, nodesD b] H = some (bD (decide (a = b)), H) := by
  rw [liftF_pure _ _ _ rfl]; simp [F_RefSame, ha, hb]
theorem equalNodes_pure (a b : List Nd) (H : Heap) (ha : a.length ≤ 3000000) (hb : b.length ≤ 3000000) : liftF F_EqualNodes [nodesD a, nodesD b] H = some (bD (decide (a = b)), H) := by
  rw [liftF_pure _ _ _ rfl]; simp [F_EqualNodes, ha, hb]

/-- A program's lists are no longer than any bound that matters. -/
abbrev Pg.fits (p : Pg) : Prop := p.vars.length ≤ 3000000 ∧ p.body.length ≤ 3000000
theorem pg_eq (p q : Pg) : p = q ↔ p.params = q.params ∧ p.vars = q.vars ∧ p.body = q.body := by
  obtain ⟨a, b, c⟩ := p
  obtain ⟨d, e, f⟩ := q
  simp
def F_Same9 : List D → Option D := F2 progT progT fun p q => if p.fits ∧ q.fits then some (bD (decide (p = q))) else none
theorem C_RefSame9 : CallOk Try.prog 17 F_Same9 := call2 (kp := kp_offshootref09_Same) T08_ok mixed Try.func17 (by kernel_rfl) (by decide) fun p q d h => by
  split at h
  case isFalse => cases h
  rename_i hf
  cases h
  refine ⟨0, _, ?_, Imp.refl _⟩
  show outD (textK _ _ _ _ _ [progD p, progD q] []) = _
  rw [sh_offshootref09_Same]
  simp only [pg_eq p q]
  by_cases h1 : p.vars = q.vars <;> by_cases h2 : p.body = q.body <;> by_cases h3 : p.params = q.params <;> simp [refInts_pure, refSame_pure, hf.1.1, hf.1.2, hf.2.1, hf.2.2, h1, h2, h3]

def fewV (p : Pg) : Bool := decide (p.body.length ≤ 60) && decide (p.vars.length ≤ 20)
def F_Few : List D → Option D := F1 progT fun p => some (bD (fewV p))
theorem C_Few : CallOk Try.prog 16 F_Few := call1 (kp := kp_offshootref09_Few) T08_ok mixed Try.func16 (by kernel_rfl) (by decide) fun p d h => by
  cases h
  refine ⟨0, _, ?_, Imp.refl _⟩
  show outD (textK _ _ _ _ _ [progD p] []) = _
  rw [sh_offshootref09_Few]
  unfold fewV
  by_cases h1 : (p.body.length : Int) ≤ 60
  · have h1' : p.body.length ≤ 60 := by omega
    by_cases h2 : (p.vars.length : Int) ≤ 20
    · have h2' : p.vars.length ≤ 20 := by omega
      simp [h1, h2, h1', h2']
    · have h2' : ¬ p.vars.length ≤ 20 := by omega
      simp [h1, h2, h1', h2']
  · have h1' : ¬ p.body.length ≤ 60 := by omega
    simp [h1, h1']

/-- Two lists of ints, held against each other. -/
def F_EqualInts : List D → Option D := F2 intsT intsT fun a b => if a.length ≤ 3000000 ∧ b.length ≤ 3000000 then some (bD (decide (a = b))) else none
theorem C_EqualInts : CallOk Try.prog 41 F_EqualInts := call2 (kp := kp_slices_Equal___int_int_) T08_ok mixed Try.func41 (by kernel_rfl) (by decide) fun a b d h => by
  split at h
  case isFalse => cases h
  rename_i hf
  cases h
  refine ⟨a.length + 1, _, ?_, Imp.refl _⟩
  show outD (textK _ _ _ _ _ [intsD a, intsD b] []) = _
  rw [sh_slices_Equal___int_int_]
  by_cases hl : a.length = b.length
  case neg =>
    have h1 : ¬ ((a.length : Int) = b.length) := by omega
    have h2 : a ≠ b := fun e => hl (by rw [e])
    simp [h1, h2]
  -- the first place where they part
  have key : ∀ (m i : Nat) (s3 : D), i + m = a.length → a.take i = b.take i → ∀ n, m < n → ∃ s lv, (lv = .exit 0 ∧ a = b ∨ lv = .ret ∧ a ≠ b ∧ s.getD 2 .undef = bD false) ∧
      iterS (stepF Try.prog T08 kp_slices_Equal___int_int_ (a.length + 1) Try.f41 0) n [intsD a, intsD b, bD false, s3, iD a.length, iD i] [] = some (lv, s, []) := by
    intro m
    induction m with
    | zero =>
      intro i s3 hi ht n hn
      obtain ⟨n, rfl⟩ : ∃ m, n = m + 1 := ⟨n - 1, by omega⟩
      have hia : i = a.length := by omega
      refine ⟨_, .exit 0, .inl ⟨rfl, ?_⟩, iterS_exit (s' := [intsD a, intsD b, bD false, s3, iD a.length, iD i]) ?_⟩
      · rw [hia, List.take_length, hl, List.take_length] at ht; exact ht
      · rw [st_slices_Equal___int_int__0]
        simp [hia]
    | succ m ih =>
      intro i s3 hi ht n hn
      obtain ⟨n, rfl⟩ : ∃ m, n = m + 1 := ⟨n - 1, by omega⟩
      have hia : i < a.length := by omega
      have hib : i < b.length := by omega
      have h1 : (i : Int) < a.length := by omega
      by_cases he : a[i] = b[i]
      · rw [iterS_go (s' := [intsD a, intsD b, bD false, iD i, iD a.length, iD ((i + 1 : Nat) : Int)]) (H' := [])]
        · exact ih (i + 1) _ (by omega) (take_same ht hia hib he) n (by omega)
        · rw [st_slices_Equal___int_int__0]
          simp (disch := omega) [h1, idx_intsN _ _ hia, idx_intsN _ _ hib, he, intD_add]
      · refine ⟨[intsD a, intsD b, bD false, iD i, iD a.length, iD i], .ret, .inr ⟨rfl, fun e => he (by simp [e]), rfl⟩, iterS_ret ?_⟩
        rw [st_slices_Equal___int_int__0]
        simp (disch := omega) [h1, idx_intsN _ _ hia, idx_intsN _ _ hib, he]
  obtain ⟨s, lv, hs, hk⟩ := key a.length 0 .undef (by omega) rfl (a.length + 1) (by omega)
  have hk' : loopF Try.prog T08 kp_slices_Equal___int_int_ (a.length + 1) Try.f41 0 [intsD a, intsD b, bD false, .undef, iD a.length, iD 0] [] = some (lv, s, []) := hk
  have h1 : ((a.length : Int) = b.length) := by omega
  rcases hs with ⟨rfl, he⟩ | ⟨rfl, he, hg⟩
  · simp only [lenH_ints, thn_some, hk', leaveK_exit]
    simp [h1, he]
  · simp only [lenH_ints, thn_some, hk', leaveK_ret, hg]
    simp [h1, he]
end Go.Proofs.Ytbnmkdlmalobaaa
end

section
namespace Go.Proofs.Ytbnmkdlmalobaaa
open Go.RowKit
set_option linter.unusedVariables false
set_option linter.unusedSimpArgs false

/-- The product of one and a number. -/
def F_Mul : List D → Option D
  | [.v (.int .u64 1), .v (.int .u64 k)] => if 0 ≤ k ∧ k < 4294967296 then some (.tup [.v (.int .u64 0), .v (.int .u64 k)]) else none
  | _ => none
theorem u64_wrap (k : Int) (h0 : 0 ≤ k) (h : k < 18446744073709551616) : IntKind.u64.wrap k = k := by
  unfold IntKind.wrap
  simp [IntKind.signed, IntKind.bits]
  omega
theorem and_low (k : Int) (h0 : 0 ≤ k) (h : k < 4294967296) : intD .and .u64 k 4294967295 = some (.v (.int .u64 k)) := by
  obtain ⟨m, rfl⟩ := Int.eq_ofNat_of_zero_le h0
  have hm : m < 4294967296 := by omega
  have : (BitVec.ofInt IntKind.u64.bits (m : Int) &&& BitVec.ofInt IntKind.u64.bits 4294967295).toNat = m := by
    rw [BitVec.toNat_and]
    have h1 : (BitVec.ofInt IntKind.u64.bits (m : Int)).toNat = m := by
      simp [IntKind.bits]; omega
    have h2 : (BitVec.ofInt IntKind.u64.bits 4294967295).toNat = 2 ^ 32 - 1 := by rfl
    rw [h1, h2, Nat.and_two_pow_sub_one_eq_mod]
    omega
  simp only [intD, this]
  rw [u64_wrap _ (by omega) (by omega)]
theorem shr_low (k : Int) (h0 : 0 ≤ k) (h : k < 4294967296) : binK .int .shr (.v (.int .u64 k)) (.v (.int .u64 32)) = some (.v (.int .u64 0)) := by
  have : k.fdiv 4294967296 = 0 := by
    rw [Int.fdiv_eq_ediv_of_nonneg _ (by omega)]
    exact Int.ediv_eq_zero_of_lt h0 h
  simp [binK, shiftD, IntKind.bits, this]
theorem C_Mul64 : CallOk Try.prog 107 F_Mul := by
  refine call_text (kp := kp_bits_Mul64) T08_ok mixed Try.func107 (by kernel_rfl) (by decide) fun ds d h => ⟨0, ?_⟩
  unfold F_Mul at h
  split at h
  case h_2 => cases h
  rename_i k
  split at h
  case isFalse => cases h
  rename_i hk
  cases h
  rw [sh_bits_Mul64]
  have e1 := and_low 1 (by omega) (by omega)
  have e2 := shr_low 1 (by omega) (by omega)
  have e3 := and_low k hk.1 hk.2
  have e4 := shr_low k hk.1 hk.2
  have e5 := and_low 0 (by omega) (by omega)
  have e6 := shr_low 0 (by omega) (by omega)
  have e7 : intD .mul .u64 1 k = some (.v (.int .u64 k)) := by simp only [intD, Int.one_mul]; rw [u64_wrap _ hk.1 (by omega)]
  have e8 : intD .mul .u64 0 k = some (.v (.int .u64 0)) := by simp only [intD, Int.zero_mul]; rfl
  have e9 : intD .add .u64 0 0 = some (.v (.int .u64 0)) := rfl
  have e10 : intD .mul .u64 1 0 = some (.v (.int .u64 0)) := rfl
  have e11 : intD .mul .u64 0 0 = some (.v (.int .u64 0)) := rfl
  simp [e1, e2, e3, e4, e5, e6, e7, e8, e9, e10, e11]

def blkV (l : List Nd) (ks : List Int) (from_ : Nat) : Bool := (ks.drop from_).all fun k => decide ((l.getD k.toNat (0, 0)).1 = 20)
/-- Are kids blocks, from one on? -/
def F_blocks : List D → Option D := F3 progT intsT intT fun p ks i => if 0 ≤ i ∧ ks.length ≤ 3000000 ∧ (∀ k ∈ ks, 0 ≤ k ∧ k.toNat < p.body.length) then some (bD (blkV p.body ks i.toNat)) else none
theorem C_blocks : CallOk Try.prog 50 F_blocks := call3 (kp := kp_offshootref09_blocks) T08_ok mixed Try.func50 (by kernel_rfl) (by decide) fun p ks i d h => by
  split at h
  case isFalse => cases h
  rename_i hf
  obtain ⟨h0, hl, hk⟩ := hf
  cases h
  obtain ⟨i, rfl⟩ := Int.eq_ofNat_of_zero_le h0
  refine ⟨ks.length + 1, _, ?_, Imp.refl _⟩
  show outD (textK _ _ _ _ _ [progD p, intsD ks, iD i] []) = _
  rw [sh_offshootref09_blocks]
  have key : ∀ (m j : Nat), j + m = max ks.length j → ∀ n, m < n → ∃ s lv, (lv = .exit 0 ∧ blkV p.body ks j = true ∨ lv = .ret ∧ blkV p.body ks j = false ∧ s.getD 4 .undef = bD false) ∧
      iterS (stepF Try.prog T08 kp_offshootref09_blocks (ks.length + 1) Try.f50 0) n [progD p, intsD ks, iD i, .hp 0 0, bD false, iD j] (pgH 25 p) = some (lv, s, pgH 25 p) := by
    intro m
    induction m with
    | zero =>
      intro j hj n hn
      obtain ⟨n, rfl⟩ : ∃ m, n = m + 1 := ⟨n - 1, by omega⟩
      have hjl : ks.length ≤ j := by omega
      refine ⟨_, .exit 0, .inl ⟨rfl, ?_⟩, iterS_exit (s' := [progD p, intsD ks, iD i, .hp 0 0, bD false, iD j]) ?_⟩
      · simp [blkV, List.drop_of_length_le hjl]
      · rw [st_offshootref09_blocks_0]
        have : ¬ (j : Int) < ks.length := by omega
        simp [this]
    | succ m ih =>
      intro j hj n hn
      obtain ⟨n, rfl⟩ : ∃ m, n = m + 1 := ⟨n - 1, by omega⟩
      have hjl : j < ks.length := by omega
      have h1 : (j : Int) < ks.length := by omega
      have e1 := intD_add (j : Int) 1 (by omega) (by omega)
      obtain ⟨k0, k1⟩ := hk ks[j] (List.getElem_mem hjl)
      have hblk : blkV p.body ks j = (decide ((p.body[ks[j].toNat]).1 = 20) && blkV p.body ks (j + 1)) := by
        simp only [blkV]
        rw [List.drop_eq_getElem_cons hjl, List.all_cons]
        congr 1
        simp [k1]
      by_cases he : (p.body[ks[j].toNat]).1 = 20
      · rw [iterS_go (s' := [progD p, intsD ks, iD i, .hp 0 0, bD false, iD ((j + 1 : Nat) : Int)]) (H' := pgH 25 p)]
        · obtain ⟨s, lv, q1, q2⟩ := ih (j + 1) (by omega) n (by omega)
          exact ⟨s, lv, by simpa [hblk, he] using q1, q2⟩
        · rw [st_offshootref09_blocks_0]
          simp [pgH, h1, idx_intsN _ _ hjl, idx_nodes _ _ k0 k1, he, e1]
      · refine ⟨_, .ret, .inr ⟨rfl, by simp [hblk, he], rfl⟩, iterS_ret (s' := [progD p, intsD ks, iD i, .hp 0 0, bD false, iD j]) ?_⟩
        rw [st_offshootref09_blocks_0]
        simp [pgH, h1, idx_intsN _ _ hjl, idx_nodes _ _ k0 k1, he]
  obtain ⟨s, lv, hs, hkk⟩ := key (max ks.length i - i) i (by omega) (ks.length + 1) (by omega)
  have hk' : loopF Try.prog T08 kp_offshootref09_blocks (ks.length + 1) Try.f50 0 [progD p, intsD ks, iD i, .hp 0 0, bD false, iD i] (pgH 25 p) = some (lv, s, pgH 25 p) := hkk
  simp only [box_prog, List.length_nil, List.nil_append, thnH_some]
  unfold pgH at hk'
  rw [hk']
  rcases hs with ⟨rfl, he⟩ | ⟨rfl, he, hg⟩
  · simp [he]
  · simp only [leaveK_ret, hg]
    simp [he]

/-- A rule: kids of kinds, and the own one; one that asks a variable that is no array; one that asks an array; none. -/
inductive RuleT where
  | plain (ks : List Int) (is : Int)
  | array (ks : List Int) (is : Int)
  | scalar (set : Bool)
  | none
  deriving DecidableEq, Inhabited
def RuleT.enc : RuleT → D
  | .plain ks is => .ifc 91 (.agg [intsD ks, iD is])
  | .array ks is => .ifc 95 (.agg [intsD ks, iD is])
  | .scalar b => .ifc 93 (.agg [bD b])
  | .none => .v .nilIface
def RuleT.dec : D → Option RuleT
  | .ifc t (.agg [ks, .v (.int .i64 is)]) => if t = 91 then (asInts ks).map (RuleT.plain · is) else if t = 95 then (asInts ks).map (RuleT.array · is) else Option.none
  | .ifc t (.agg [.v (.bool b)]) => if t = 93 then some (.scalar b) else Option.none
  | .v .nilIface => some .none
  | _ => Option.none
def ruleT : Dec RuleT := ⟨RuleT.enc, RuleT.dec, fun r => by cases r <;> simp [RuleT.enc, RuleT.dec], fun d r h => by
  unfold RuleT.dec at h
  split at h
  · split at h
    · rename_i he
      obtain ⟨ks, hk, rfl⟩ := Option.map_eq_some_iff.1 h
      subst he
      exact Imp.ifc (Imp.agg (.cons (imp_ints hk) (ImpL.refl _)))
    · split at h
      · rename_i he
        obtain ⟨ks, hk, rfl⟩ := Option.map_eq_some_iff.1 h
        subst he
        exact Imp.ifc (Imp.agg (.cons (imp_ints hk) (ImpL.refl _)))
      · cases h
  · split at h
    · rename_i he
      cases h
      subst he
      exact Imp.refl _
    · cases h
  · cases h; exact Imp.refl _
  · cases h⟩
def ruleKs : List Int := [1, 2, 3, 21, 4, 22, 5, 6, 18, 19, 23, 24, 25, 26, 7, 8, 9, 10, 11, 12, 13, 14, 15, 16, 17]
def ruleRs : List RuleT := [.plain [] 0, .plain [] 1, .scalar false, .scalar true, .array [0] 0, .array [0, 0] 2, .plain [0] 0, .plain [1] 1, .plain [1, 1] 1, .plain [1, 1] 1, .plain [1, 2, 2] 2, .plain [1, 2] 2, .plain [0] 2, .plain [] 2,
  .plain [0, 0] 0, .plain [0, 0] 0, .plain [0, 0] 0, .plain [0, 0] 0, .plain [0, 0] 0, .plain [0, 0] 1, .plain [0, 0] 1, .plain [0, 0] 1, .plain [0, 0] 1, .plain [0, 0] 1, .plain [0, 0] 1]
/-- The rules of all tags, as a map. -/
def rulesD : D := .mv ruleKs (ruleRs.map RuleT.enc)
def isRules : D → Option Unit
  | .mv ks vs => if ks = ruleKs ∧ vs.mapM RuleT.dec = some ruleRs then some () else Option.none
  | _ => Option.none
theorem imp_rules {d : D} (h : isRules d = some ()) : Imp d rulesD := by
  unfold isRules at h
  split at h
  · split at h
    · rename_i hc
      obtain ⟨rfl, h2⟩ := hc
      exact Imp.mv (impL_mapM ruleT _ _ h2)
    · cases h
  · cases h
def F_rules : List D → Option D := F0 (some rulesD)
theorem rules_text : (outD (textK Try.prog T08 [0, 1, 2, 3] 20 Try.f43 [] [])).bind isRules = some () := by kernel_rfl
theorem C_rules : CallOk Try.prog 43 F_rules := call0 (kp := [0, 1, 2, 3]) T08_ok mixed Try.func43 (by kernel_rfl) (by decide) fun d h => by
  cases h
  obtain ⟨d', h1, h2⟩ := Option.bind_eq_some_iff.1 rules_text
  exact ⟨20, d', h1, imp_rules h2⟩

def fs09a : List Entry := (22, true, liftF F_Size) :: (23, true, liftF F_Size) :: (47, true, liftF F_typed) :: (48, true, liftF F_kind) :: (17, true, liftF F_Same9) :: (16, true, liftF F_Few) :: (41, true, liftF F_EqualInts) :: (107, true, liftF F_Mul) :: (50, true, liftF F_blocks) :: (43, true, liftF F_rules) :: fs08
theorem fs09a_ok : ∀ p ∈ fs09a, EntryOk Try.prog p := entries_cons (entry_lift C_Size) <| entries_cons (entry_lift C_RefSize) <| entries_cons (entry_lift C_typed) <| entries_cons (entry_lift C_kind) <| entries_cons (entry_lift C_RefSame9) <| entries_cons (entry_lift C_Few) <| entries_cons (entry_lift C_EqualInts) <| entries_cons (entry_lift C_Mul64) <| entries_cons (entry_lift C_blocks) <| entries_cons (entry_lift C_rules) <| fs08_ok
def T09a : Tab := ⟨fs09a, noYl⟩
theorem T09a_ok : TabOk Try.prog T09a := tabOk_of fs09a_ok
end Go.Proofs.Ytbnmkdlmalobaaa
end

section
namespace Go.Proofs.Ytbnmkdlmalobaaa
open Go.RowKit
set_option linter.unusedVariables false
set_option maxRecDepth 100000

def kp_kinds_Vars : List Nat := [1, 2, 23, 24, 25]
theorem sh_kinds_Vars (n : Nat) (x0 : D) (h : Heap) : textK Try.prog T09a kp_kinds_Vars n Try.f20 [x0] h =
(thnH (boxH 25 x0 h) fun y0 h1 =>
thn (fieldAtH 0 y0) fun y2 =>
thn (loadH none h1 y2) fun y3 =>
thn (binK .int .lss y3 (iD 0)) fun y4 =>
condK y4
(some ((iD 14), h1))
(thn (fieldAtH 0 y0) fun y5 =>
thn (loadH none h1 y5) fun y6 =>
thn (fieldAtH 1 y0) fun y7 =>
thn (loadH none h1 y7) fun y8 =>
thn (lenH .sl y8) fun y9 =>
thn (binK .int .gtr y6 y9) fun y10 =>
condK y10
(some ((iD 14), h1))
(thn (fieldAtH 1 y0) fun y11 =>
thn (loadH none h1 y11) fun y12 =>
thn (lenH .sl y12) fun y13 =>
thn (binK .int .gtr y13 (iD 12)) fun y14 =>
condK y14
(some ((iD 14), h1))
(thn (fieldAtH 1 y0) fun y15 =>
thn (loadH none h1 y15) fun y16 =>
thn (lenH .sl y16) fun y17 =>
leaveK (loopF Try.prog T09a kp_kinds_Vars n Try.f20 0 [y0, (iD 0), y16, y17, (iD 0)] h1) (fun j18 s19 h20 =>
condN j18 0
(some ((iD 0), h20))
(none)) (fun s19 h20 =>
some ((s19.getD 1 .undef), h20)))))) := by kernel_rfl

theorem st_kinds_Vars_0 (n : Nat) (s0 s1 s2 s3 s4 : D) (h : Heap) : stepF Try.prog T09a kp_kinds_Vars n Try.f20 0 [s0, s1, s2, s3, s4] h =
(thn (binK .int .lss s4 s3) fun y0 =>
condK y0
(thn (idxH 1 s2 s4) fun y1 =>
thn (loadH none h y1) fun y2 =>
thn (binK .int .neq y2 (iD 0)) fun y3 =>
condK y3
(thn (fieldAtH 0 s0) fun y4 =>
thn (loadH none h y4) fun y5 =>
thn (binK .int .lss s4 y5) fun y6 =>
condK y6
(some (.ret, [s0, (iD 14), s2, s3, s4], h))
(thn (binK .int .neq y2 (iD 1)) fun y7 =>
condK y7
(thnH (liftF F_Size [y2] h) fun y8 h9 =>
thn (binK .int .eql y8 (iD 0)) fun y10 =>
condK y10
(some (.ret, [s0, (iD 14), s2, s3, s4], h9))
(thn (binK .int .add s4 (iD 1)) fun y11 =>
some (.normal, [s0, s1, s2, s3, y11], h9)))
(thn (binK .int .add s4 (iD 1)) fun y12 =>
some (.normal, [s0, s1, s2, s3, y12], h))))
(thn (binK .int .add s4 (iD 1)) fun y13 =>
some (.normal, [s0, s1, s2, s3, y13], h)))
(some ((.exit 0), [s0, s1, s2, s3, s4], h))) := by kernel_rfl

def kp_offshootref09_Vars : List Nat := [1, 2, 3]
theorem sh_offshootref09_Vars (n : Nat) (x0 : D) (h : Heap) : textK Try.prog T09a kp_offshootref09_Vars n Try.f21 [x0] h =
(thnH (boxH 25 x0 h) fun y0 h1 =>
thn (fieldAtH 0 y0) fun y2 =>
thn (loadH none h1 y2) fun y3 =>
thn (binK .int .lss y3 (iD 0)) fun y4 =>
condK y4
(some ((iD 14), h1))
(thn (fieldAtH 0 y0) fun y5 =>
thn (loadH none h1 y5) fun y6 =>
thn (fieldAtH 1 y0) fun y7 =>
thn (loadH none h1 y7) fun y8 =>
thn (lenH .sl y8) fun y9 =>
thn (binK .int .gtr y6 y9) fun y10 =>
condK y10
(some ((iD 14), h1))
(thn (fieldAtH 1 y0) fun y11 =>
thn (loadH none h1 y11) fun y12 =>
thn (lenH .sl y12) fun y13 =>
thn (binK .int .gtr y13 (iD 12)) fun y14 =>
condK y14
(some ((iD 14), h1))
(leaveK (loopF Try.prog T09a kp_offshootref09_Vars n Try.f21 0 [y0, (iD 0), (iD 0)] h1) (fun j15 s16 h17 =>
condN j15 0
(some ((iD 0), h17))
(none)) (fun s16 h17 =>
some ((s16.getD 1 .undef), h17)))))) := by kernel_rfl

theorem st_offshootref09_Vars_0 (n : Nat) (s0 s1 s2 : D) (h : Heap) : stepF Try.prog T09a kp_offshootref09_Vars n Try.f21 0 [s0, s1, s2] h =
(thn (fieldAtH 1 s0) fun y0 =>
thn (loadH none h y0) fun y1 =>
thn (lenH .sl y1) fun y2 =>
thn (binK .int .lss s2 y2) fun y3 =>
condK y3
(thn (fieldAtH 1 s0) fun y4 =>
thn (loadH none h y4) fun y5 =>
thn (idxH 1 y5 s2) fun y6 =>
thn (loadH none h y6) fun y7 =>
thn (binK .int .lss y7 (iD 0)) fun y8 =>
condK y8
(some (.ret, [s0, (iD 14), s2], h))
(thn (fieldAtH 1 s0) fun y9 =>
thn (loadH none h y9) fun y10 =>
thn (idxH 1 y10 s2) fun y11 =>
thn (loadH none h y11) fun y12 =>
thn (binK .int .gtr y12 (iD 9)) fun y13 =>
condK y13
(some (.ret, [s0, (iD 14), s2], h))
(thn (fieldAtH 0 s0) fun y14 =>
thn (loadH none h y14) fun y15 =>
thn (binK .int .lss s2 y15) fun y16 =>
condK y16
(thn (fieldAtH 1 s0) fun y17 =>
thn (loadH none h y17) fun y18 =>
thn (idxH 1 y18 s2) fun y19 =>
thn (loadH none h y19) fun y20 =>
thn (binK .int .neq y20 (iD 0)) fun y21 =>
condK y21
(some (.ret, [s0, (iD 14), s2], h))
(thn (binK .int .add s2 (iD 1)) fun y22 =>
some (.normal, [s0, s1, y22], h)))
(thn (binK .int .add s2 (iD 1)) fun y23 =>
some (.normal, [s0, s1, y23], h)))))
(some ((.exit 0), [s0, s1, s2], h))) := by kernel_rfl

def kp_kinds_Same : List Nat := []
theorem sh_kinds_Same (n : Nat) (x0 x1 : D) (h : Heap) : textK Try.prog T09a kp_kinds_Same n Try.f24 [x0, x1] h =
(thnH (boxH 25 x0 h) fun y0 h1 =>
thnH (boxH 25 x1 h1) fun y2 h3 =>
thn (fieldAtH 0 y0) fun y4 =>
thn (loadH none h3 y4) fun y5 =>
thn (fieldAtH 0 y2) fun y6 =>
thn (loadH none h3 y6) fun y7 =>
thn (binK .int .eql y5 y7) fun y8 =>
condK y8
(thn (fieldAtH 1 y0) fun y9 =>
thn (loadH none h3 y9) fun y10 =>
thn (fieldAtH 1 y2) fun y11 =>
thn (loadH none h3 y11) fun y12 =>
thnH (liftF F_EqualInts [y10, y12] h3) fun y13 h14 =>
condK y13
(thn (fieldAtH 2 y0) fun y15 =>
thn (loadH none h14 y15) fun y16 =>
thn (fieldAtH 2 y2) fun y17 =>
thn (loadH none h14 y17) fun y18 =>
thnH (liftF F_EqualNodes [y16, y18] h14) fun y19 h20 =>
some (y19, h20))
(some ((bD false), h14)))
(some ((bD false), h3))) := by kernel_rfl

def kp_bits_Mul : List Nat := []
theorem sh_bits_Mul (n : Nat) (x0 x1 : D) (h : Heap) : textK Try.prog T09a kp_bits_Mul n Try.f100 [x0, x1] h =
(thnH (liftF F_Mul [x0, x1] h) fun y0 h1 =>
thn (extractD y0 0) fun y2 =>
thn (extractD y0 1) fun y3 =>
some (.tup [y2, y3], h1)) := by kernel_rfl

def kp_kinds_plain__kind : List Nat := []
theorem sh_kinds_plain__kind (n : Nat) (x0 x1 x2 : D) (h : Heap) : textK Try.prog T09a kp_kinds_plain__kind n Try.f128 [x0, x1, x2] h =
(thnH (boxH 91 x0 h) fun y0 h1 =>
thnH (boxH 25 x1 h1) fun y2 h3 =>
thnH (boxH 39 x2 h3) fun y4 h5 =>
thn (fieldAtH 1 y0) fun y6 =>
thn (loadH none h5 y6) fun y7 =>
some (y7, h5)) := by kernel_rfl

def kp_kinds_scalar__kind : List Nat := []
theorem sh_kinds_scalar__kind (n : Nat) (x0 x1 x2 : D) (h : Heap) : textK Try.prog T09a kp_kinds_scalar__kind n Try.f129 [x0, x1, x2] h =
(thnH (boxH 93 x0 h) fun y0 h1 =>
thnH (boxH 25 x1 h1) fun y2 h3 =>
thnH (boxH 39 x2 h3) fun y4 h5 =>
thn (fieldAtH 1 y4) fun y6 =>
thn (loadH none h5 y6) fun y7 =>
thn (fieldAtH 1 y2) fun y8 =>
thn (loadH none h5 y8) fun y9 =>
thn (lenH .sl y9) fun y10 =>
thn (binK .int .geq y7 y10) fun y11 =>
condK y11
(some ((iD (-1)), h5))
(thn (fieldAtH 1 y2) fun y12 =>
thn (loadH none h5 y12) fun y13 =>
thn (fieldAtH 1 y4) fun y14 =>
thn (loadH none h5 y14) fun y15 =>
thn (idxH 1 y13 y15) fun y16 =>
thn (loadH none h5 y16) fun y17 =>
thn (binK .int .neq y17 (iD 0)) fun y18 =>
condK y18
(thn (fieldAtH 1 y2) fun y19 =>
thn (loadH none h5 y19) fun y20 =>
thn (fieldAtH 1 y4) fun y21 =>
thn (loadH none h5 y21) fun y22 =>
thn (idxH 1 y20 y22) fun y23 =>
thn (loadH none h5 y23) fun y24 =>
thn (binK .int .neq y24 (iD 1)) fun y25 =>
condK y25
(some ((iD (-1)), h5))
(thn (fieldAtH 0 y0) fun y26 =>
thn (loadH none h5 y26) fun y27 =>
condK y27
(some ((iD 2), h5))
(thn (fieldAtH 1 y2) fun y28 =>
thn (loadH none h5 y28) fun y29 =>
thn (fieldAtH 1 y4) fun y30 =>
thn (loadH none h5 y30) fun y31 =>
thn (idxH 1 y29 y31) fun y32 =>
thn (loadH none h5 y32) fun y33 =>
some (y33, h5))))
(thn (fieldAtH 0 y0) fun y34 =>
thn (loadH none h5 y34) fun y35 =>
condK y35
(some ((iD 2), h5))
(thn (fieldAtH 1 y2) fun y36 =>
thn (loadH none h5 y36) fun y37 =>
thn (fieldAtH 1 y4) fun y38 =>
thn (loadH none h5 y38) fun y39 =>
thn (idxH 1 y37 y39) fun y40 =>
thn (loadH none h5 y40) fun y41 =>
some (y41, h5))))) := by kernel_rfl

def kp_kinds_array__kind : List Nat := []
theorem sh_kinds_array__kind (n : Nat) (x0 x1 x2 : D) (h : Heap) : textK Try.prog T09a kp_kinds_array__kind n Try.f130 [x0, x1, x2] h =
(thnH (boxH 95 x0 h) fun y0 h1 =>
thnH (boxH 25 x1 h1) fun y2 h3 =>
thnH (boxH 39 x2 h3) fun y4 h5 =>
thn (fieldAtH 1 y4) fun y6 =>
thn (loadH none h5 y6) fun y7 =>
thn (fieldAtH 1 y2) fun y8 =>
thn (loadH none h5 y8) fun y9 =>
thn (lenH .sl y9) fun y10 =>
thn (binK .int .geq y7 y10) fun y11 =>
condK y11
(some ((iD (-1)), h5))
(thn (fieldAtH 1 y2) fun y12 =>
thn (loadH none h5 y12) fun y13 =>
thn (fieldAtH 1 y4) fun y14 =>
thn (loadH none h5 y14) fun y15 =>
thn (idxH 1 y13 y15) fun y16 =>
thn (loadH none h5 y16) fun y17 =>
thnH (liftF F_Size [y17] h5) fun y18 h19 =>
thn (binK .int .eql y18 (iD 0)) fun y20 =>
condK y20
(some ((iD (-1)), h19))
(thn (fieldAtH 0 y0) fun y21 =>
thn (fieldAtH 1 y21) fun y22 =>
thn (loadH none h19 y22) fun y23 =>
some (y23, h19)))) := by kernel_rfl

end Go.Proofs.Ytbnmkdlmalobaaa
end

section
namespace Go.Proofs.Ytbnmkdlmalobaaa
open Go.RowKit
set_option linter.unusedVariables false
set_option linter.unusedSimpArgs false

/-- May a variable be of a type? -/
def vGood (params : Int) (i : Nat) (t : Int) : Bool := decide (0 ≤ t ∧ t ≤ 9 ∧ ((i : Int) < params → t = 0))
def varsOk (p : Pg) : Bool := decide (0 ≤ p.params ∧ p.params ≤ p.vars.length ∧ p.vars.length ≤ 12) && (List.range p.vars.length).all fun i => vGood p.params i (p.vars.getD i 0)
def varsV (p : Pg) : Int := if varsOk p then 0 else 14
def F_Vars : List D → Option D := F1 progT fun p => some (iD (varsV p))
theorem size_pure (t : Int) (H : Heap) : liftF F_Size [iD t] H = some (iD (sizeV t), H) := by rw [liftF_pure _ _ _ rfl]; rfl
theorem varsV_no1 {p : Pg} (h : ¬ (0 ≤ p.params ∧ p.params ≤ p.vars.length ∧ p.vars.length ≤ 12)) : varsV p = 14 := by simp [varsV, varsOk, h]
theorem varsV_yes {p : Pg} (h : 0 ≤ p.params ∧ p.params ≤ p.vars.length ∧ p.vars.length ≤ 12) (h2 : ∀ i, 0 ≤ i → i < p.vars.length → vGood p.params i (p.vars.getD i 0) = true) : varsV p = 0 := by
  have : (List.range p.vars.length).all (fun i => vGood p.params i (p.vars.getD i 0)) = true := by
    rw [List.all_eq_true]; intro i hi; exact h2 i (Nat.zero_le _) (by simpa using hi)
  unfold varsV varsOk
  rw [this]; simp [h]
theorem varsV_no2 {p : Pg} {i : Nat} (hi : i < p.vars.length) (h2 : vGood p.params i (p.vars.getD i 0) = false) : varsV p = 14 := by
  have : (List.range p.vars.length).all (fun i => vGood p.params i (p.vars.getD i 0)) = false := by
    rw [Bool.eq_false_iff]; intro e; rw [List.all_eq_true] at e
    have := e i (by simpa using hi)
    rw [h2] at this; cases this
  unfold varsV varsOk
  rw [this]; simp

theorem C_Vars : CallOk Try.prog 20 F_Vars := call1 (kp := kp_kinds_Vars) T09a_ok mixed Try.func20 (by kernel_rfl) (by decide) fun p d h => by
  cases h
  refine ⟨p.vars.length + 1, _, ?_, Imp.refl _⟩
  show outD (textK _ _ _ _ _ [progD p] []) = _
  rw [sh_kinds_Vars]
  by_cases h1 : p.params < 0
  · rw [varsV_no1 (by omega)]; simp [h1]
  by_cases h2 : (p.vars.length : Int) < p.params
  · rw [varsV_no1 (by omega)]; simp [h1, h2]
  by_cases h3 : (12 : Int) < p.vars.length
  · rw [varsV_no1 (by omega)]; simp [h1, h2, h3]
  have hs := loopF_scan (P := Try.prog) (T := T09a) (kp := kp_kinds_Vars) (fn := Try.f20) (li := 0) (fun i => [.hp 0 0, iD 0, intsD p.vars, iD p.vars.length, iD i]) (pgH 25 p) p.vars.length (fun i => vGood p.params i (p.vars.getD i 0))
    (fun i => (.ret, [.hp 0 0, iD 14, intsD p.vars, iD p.vars.length, iD i], pgH 25 p)) (.exit 0, [.hp 0 0, iD 0, intsD p.vars, iD p.vars.length, iD p.vars.length], pgH 25 p)
    (fun i => by intro e; cases e) (by intro e; cases e) 0 (p.vars.length + 1) (Nat.zero_le _) (by omega)
    (fun i _ hi hp => by
      have e1 := intD_add (i : Int) 1 (by omega) (by omega)
      have h4 : (i : Int) < p.vars.length := by omega
      rw [st_kinds_Vars_0]
      simp only [vGood, decide_eq_true_eq, getD_in _ i 0 hi] at hp
      by_cases h5 : p.vars[i] = 0
      · simp [pgH, h4, idx_intsN _ _ hi, h5, e1]
      · have h6 : ¬ (i : Int) < p.params := fun h => h5 (hp.2.2 h)
        by_cases h7 : p.vars[i] = 1
        · simp [pgH, h4, idx_intsN _ _ hi, h5, h6, h7, e1]
        · have h8 : ¬ sizeV p.vars[i] = 0 := by unfold sizeV; rw [if_pos (by omega)]; omega
          simp [pgH, h4, idx_intsN _ _ hi, h5, h6, h7, h8, e1, size_pure])
    (fun i _ hi hp => by
      have h4 : (i : Int) < p.vars.length := by omega
      rw [st_kinds_Vars_0]
      simp only [vGood, decide_eq_false_iff_not, getD_in _ i 0 hi] at hp
      have h5 : ¬ p.vars[i] = 0 := fun h => hp (by omega)
      by_cases h6 : (i : Int) < p.params
      · simp [pgH, h4, idx_intsN _ _ hi, h5, h6]
      · have h7 : ¬ p.vars[i] = 1 := fun h => hp (by omega)
        have h8 : sizeV p.vars[i] = 0 := by unfold sizeV; rw [if_neg (by omega)]
        simp [pgH, h4, idx_intsN _ _ hi, h5, h6, h7, h8, size_pure])
    (by rw [st_kinds_Vars_0]; simp)
  rcases hs with ⟨q1, q2⟩ | ⟨i, q0, q1, q2, q3, q4⟩
  · rw [varsV_yes (by omega) q1]
    simp only [pgH, cast0] at q2
    simp [h1, h2, h3, q2]
  · rw [varsV_no2 q1 q2]
    simp only [pgH, cast0] at q4
    simp [h1, h2, h3, q4]
theorem C_RefVars : CallOk Try.prog 21 F_Vars := call1 (kp := kp_offshootref09_Vars) T09a_ok mixed Try.func21 (by kernel_rfl) (by decide) fun p d h => by
  cases h
  refine ⟨p.vars.length + 1, _, ?_, Imp.refl _⟩
  show outD (textK _ _ _ _ _ [progD p] []) = _
  rw [sh_offshootref09_Vars]
  by_cases h1 : p.params < 0
  · rw [varsV_no1 (by omega)]; simp [h1]
  by_cases h2 : (p.vars.length : Int) < p.params
  · rw [varsV_no1 (by omega)]; simp [h1, h2]
  by_cases h3 : (12 : Int) < p.vars.length
  · rw [varsV_no1 (by omega)]; simp [h1, h2, h3]
  have hs := loopF_scan (P := Try.prog) (T := T09a) (kp := kp_offshootref09_Vars) (fn := Try.f21) (li := 0) (fun i => [.hp 0 0, iD 0, iD i]) (pgH 25 p) p.vars.length (fun i => vGood p.params i (p.vars.getD i 0))
    (fun i => (.ret, [.hp 0 0, iD 14, iD i], pgH 25 p)) (.exit 0, [.hp 0 0, iD 0, iD p.vars.length], pgH 25 p)
    (fun i => by intro e; cases e) (by intro e; cases e) 0 (p.vars.length + 1) (Nat.zero_le _) (by omega)
    (fun i _ hi hp => by
      have e1 := intD_add (i : Int) 1 (by omega) (by omega)
      have h4 : (i : Int) < p.vars.length := by omega
      rw [st_offshootref09_Vars_0]
      simp only [vGood, decide_eq_true_eq, getD_in _ i 0 hi] at hp
      have h5 : ¬ p.vars[i] < 0 := by omega
      have h6 : ¬ 9 < p.vars[i] := by omega
      by_cases h7 : (i : Int) < p.params
      · simp [pgH, h4, idx_intsN _ _ hi, h5, h6, h7, hp.2.2 h7, e1]
      · simp [pgH, h4, idx_intsN _ _ hi, h5, h6, h7, e1])
    (fun i _ hi hp => by
      have h4 : (i : Int) < p.vars.length := by omega
      rw [st_offshootref09_Vars_0]
      simp only [vGood, decide_eq_false_iff_not, getD_in _ i 0 hi] at hp
      by_cases h5 : p.vars[i] < 0
      · simp [pgH, h4, idx_intsN _ _ hi, h5]
      · by_cases h6 : 9 < p.vars[i]
        · simp [pgH, h4, idx_intsN _ _ hi, h5, h6]
        · have h7 : (i : Int) < p.params := by
            by_cases h : (i : Int) < p.params
            · exact h
            · exact absurd ⟨by omega, by omega, fun e => absurd e h⟩ hp
          have h8 : ¬ p.vars[i] = 0 := fun h => hp ⟨by omega, by omega, fun _ => h⟩
          simp [pgH, h4, idx_intsN _ _ hi, h5, h6, h7, h8])
    (by rw [st_offshootref09_Vars_0]; simp [pgH])
  rcases hs with ⟨q1, q2⟩ | ⟨i, q0, q1, q2, q3, q4⟩
  · rw [varsV_yes (by omega) q1]
    simp only [pgH, cast0] at q2
    simp [h1, h2, h3, q2]
  · rw [varsV_no2 q1 q2]
    simp only [pgH, cast0] at q4
    simp [h1, h2, h3, q4]

theorem equalInts_pure (a b : List Int) (H : Heap) (ha : a.length ≤ 3000000) (hb : b.length ≤ 3000000) : liftF F_EqualInts [intsD a, intsD b] H = some (bD (decide (a = b)), H) := by
  rw [liftF_pure _ _ _ rfl]; unfold F_EqualInts; rw [show [intsD a, intsD b] = [intsT.enc a, intsT.enc b] from rfl, f2_enc, if_pos ⟨ha, hb⟩]; rfl
theorem C_Same9 : CallOk Try.prog 24 F_Same9 := call2 (kp := kp_kinds_Same) T09a_ok mixed Try.func24 (by kernel_rfl) (by decide) fun p q d h => by
  split at h
  case isFalse => cases h
  rename_i hf
  cases h
  refine ⟨0, _, ?_, Imp.refl _⟩
  show outD (textK _ _ _ _ _ [progD p, progD q] []) = _
  rw [sh_kinds_Same]
  simp only [pg_eq p q]
  by_cases h1 : p.vars = q.vars <;> by_cases h2 : p.body = q.body <;> by_cases h3 : p.params = q.params <;> simp [equalInts_pure, equalNodes_pure, hf.1.1, hf.1.2, hf.2.1, hf.2.2, h1, h2, h3]
theorem mul_pure (k : Int) (H : Heap) (h0 : 0 ≤ k) (h : k < 4294967296) : liftF F_Mul [.v (.int .u64 1), .v (.int .u64 k)] H = some (.tup [.v (.int .u64 0), .v (.int .u64 k)], H) := by
  rw [liftF_pure _ _ _ rfl]; simp [F_Mul, h0, h]
theorem C_Mul : CallOk Try.prog 100 F_Mul := by
  refine call_text (kp := kp_bits_Mul) T09a_ok mixed Try.func100 (by kernel_rfl) (by decide) fun ds d h => ⟨0, ?_⟩
  unfold F_Mul at h
  split at h
  case h_2 => cases h
  rename_i k
  split at h
  case isFalse => cases h
  rename_i hk
  cases h
  rw [sh_bits_Mul]
  simp [mul_pure k _ hk.1 hk.2, extractD, tupOf]

/-- Kinds by rules: of a rule that asks kids alone; of one that asks a variable. -/
def arrayKindV (vs : List Int) (n is : Int) : Int := if sizeV (typedV vs n) = 0 then -1 else is
def scalarKindV (vs : List Int) (n : Int) (set : Bool) : Int := if typedV vs n = 0 ∨ typedV vs n = 1 then (if set then 2 else typedV vs n) else -1
def ruleKind (vs : List Int) (n : Int) : RuleT → Int
  | .plain _ is => is
  | .array _ is => arrayKindV vs n is
  | .scalar b => scalarKindV vs n b
  | .none => 2
/-- Does a rule ask for a variable? -/
def needN : RuleT → Bool
  | .plain _ _ | .none => false
  | _ => true
abbrev numOk (r : RuleT) (x : Nd) : Prop := needN r = true → 0 ≤ x.2 ∧ x.2 ≤ 1000000
/-- The cells of a rule's own struct. -/
def ruleIn (t : TypeId) (d : D) : Option RuleT := RuleT.dec (.ifc t d)
def F_kindOf (t : TypeId) : List D → Option D
  | [r, p, x] => (ruleIn t r).bind fun r => (asProg p).bind fun p => (asNd x).bind fun x => if numOk r x then some (iD (ruleKind p.vars x.2 r)) else none
  | _ => none
theorem kind_spelt {T : Tab} {kp : List Nat} (hT : TabOk Try.prog T) {f : FuncId} {fn : Func} (hf : Try.prog.funcs[f]? = some fn) (hb : fn.body.isSome = true) (hname : fn.name ≠ "runtime.NumGoroutine") (t : TypeId)
    (h : ∀ d r p x, ruleIn t d = some r → numOk r x → ∃ d', Imp d d' ∧ ∃ n, outD (textK Try.prog T kp n fn [d', progD p, .agg (nodeD x)] []) = some (iD (ruleKind p.vars x.2 r))) : CallOk Try.prog f (F_kindOf t) :=
  call_spelt hT mixed hf hb hname fun ds d hF => by
    unfold F_kindOf at hF
    split at hF
    · obtain ⟨r, h1, hF⟩ := Option.bind_eq_some_iff.1 hF
      obtain ⟨p, h2, hF⟩ := Option.bind_eq_some_iff.1 hF
      obtain ⟨x, h3, hF⟩ := Option.bind_eq_some_iff.1 hF
      split at hF
      · rename_i h0
        cases hF
        obtain ⟨d', h4, n, h5⟩ := h _ r p x h1 h0
        exact ⟨_, _, n, .cons h4 (.cons (progT.ok _ _ h2) (.cons (ndT.ok _ _ h3) .nil)), h5, Imp.refl _⟩
      · cases hF
    · cases hF
theorem typed_out {vs : List Int} {n : Int} (h0 : 0 ≤ n) (h : (vs.length : Int) ≤ n) : typedV vs n = -1 := by
  unfold typedV
  have : vs[n.toNat]? = none := List.getElem?_eq_none (by omega)
  rw [if_neg (by omega), List.getD_eq_getElem?_getD, this]; rfl
theorem typed_in {vs : List Int} {n : Int} (h0 : 0 ≤ n) (h : n.toNat < vs.length) : typedV vs n = vs[n.toNat] := by
  unfold typedV
  rw [if_neg (by omega), getD_in _ _ _ h]
theorem C_plainKind : CallOk Try.prog 128 (F_kindOf 91) :=
  kind_spelt (kp := kp_kinds_plain__kind) T09a_ok Try.func128 (by kernel_rfl) (by decide) _ fun d r p x hr hn => by
    unfold ruleIn RuleT.dec at hr
    split at hr
    · rename_i t ks is he
      cases he
      simp only [if_true] at hr
      obtain ⟨l, hl, rfl⟩ := Option.map_eq_some_iff.1 hr
      refine ⟨.agg [intsD l, iD is], Imp.agg (.cons (imp_ints hl) (ImpL.refl _)), 0, ?_⟩
      rw [sh_kinds_plain__kind, box_agg _ _ _ rfl]
      simp [ruleKind]
    · rename_i he
      split at hr
      · rename_i h2; cases he; cases h2
      · cases hr
    · rename_i he; cases he
    · cases hr
theorem C_arrayKind : CallOk Try.prog 130 (F_kindOf 95) :=
  kind_spelt (kp := kp_kinds_array__kind) T09a_ok Try.func130 (by kernel_rfl) (by decide) _ fun d r p x hr hn => by
    unfold ruleIn RuleT.dec at hr
    split at hr
    · rename_i t ks is he
      cases he
      rw [if_neg (by decide)] at hr
      simp only [if_true] at hr
      obtain ⟨l, hl, rfl⟩ := Option.map_eq_some_iff.1 hr
      have h0 := (hn rfl).1
      refine ⟨.agg [intsD l, iD is], Imp.agg (.cons (imp_ints hl) (ImpL.refl _)), 0, ?_⟩
      rw [sh_kinds_array__kind, box_agg _ _ _ rfl]
      by_cases h1 : (p.vars.length : Int) ≤ x.2
      · have := typed_out h0 h1
        simp [ruleKind, arrayKindV, this, sizeV, h1]
      · have h2 : x.2.toNat < p.vars.length := by omega
        have := typed_in h0 h2
        by_cases h3 : sizeV p.vars[x.2.toNat] = 0
        · simp [ruleKind, arrayKindV, this, h1, idx_ints _ _ h0 h2, size_pure, h3]
        · simp [ruleKind, arrayKindV, this, h1, idx_ints _ _ h0 h2, size_pure, h3]
    · rename_i he
      split at hr
      · rename_i h2; cases he; cases h2
      · cases hr
    · rename_i he; cases he
    · cases hr
theorem C_scalarKind : CallOk Try.prog 129 (F_kindOf 93) :=
  kind_spelt (kp := kp_kinds_scalar__kind) T09a_ok Try.func129 (by kernel_rfl) (by decide) _ fun d r p x hr hn => by
    unfold ruleIn RuleT.dec at hr
    split at hr
    · rename_i t ks is he
      cases he
      rw [if_neg (by decide), if_neg (by decide)] at hr
      cases hr
    · rename_i b he
      cases he
      simp only [if_true] at hr
      cases hr
      have h0 := (hn rfl).1
      refine ⟨_, Imp.refl _, 0, ?_⟩
      rw [sh_kinds_scalar__kind, box_agg _ _ _ rfl]
      by_cases h1 : (p.vars.length : Int) ≤ x.2
      · have := typed_out h0 h1
        simp [ruleKind, scalarKindV, this, h1]
      · have h2 : x.2.toNat < p.vars.length := by omega
        have := typed_in h0 h2
        by_cases h3 : p.vars[x.2.toNat] = 0
        · cases b <;> simp [ruleKind, scalarKindV, this, h1, idx_ints _ _ h0 h2, h3]
        · by_cases h4 : p.vars[x.2.toNat] = 1
          · cases b <;> simp [ruleKind, scalarKindV, this, h1, idx_ints _ _ h0 h2, h3, h4]
          · cases b <;> simp [ruleKind, scalarKindV, this, h1, idx_ints _ _ h0 h2, h3, h4]
    · rename_i he; cases he
    · cases hr

def fs09b : List Entry := (20, true, liftF F_Vars) :: (21, true, liftF F_Vars) :: (24, true, liftF F_Same9) :: (100, true, liftF F_Mul) :: (128, true, liftF (F_kindOf 91)) :: (129, true, liftF (F_kindOf 93)) :: (130, true, liftF (F_kindOf 95)) :: fs09a
theorem fs09b_ok : ∀ p ∈ fs09b, EntryOk Try.prog p := entries_cons (entry_lift C_Vars) <| entries_cons (entry_lift C_RefVars) <| entries_cons (entry_lift C_Same9) <| entries_cons (entry_lift C_Mul) <| entries_cons (entry_lift C_plainKind) <| entries_cons (entry_lift C_scalarKind) <| entries_cons (entry_lift C_arrayKind) <| fs09a_ok
def T09b : Tab := ⟨fs09b, noYl⟩
theorem T09b_ok : TabOk Try.prog T09b := tabOk_of fs09b_ok
end Go.Proofs.Ytbnmkdlmalobaaa
end

section
namespace Go.Proofs.Ytbnmkdlmalobaaa
open Go.RowKit
set_option linter.unusedVariables false
set_option maxRecDepth 100000

def kp_slices_Repeat___int_int_ : List Nat := [7, 8]
theorem sh_slices_Repeat___int_int_ (n : Nat) (x0 x1 : D) (h : Heap) : textK Try.prog T09b kp_slices_Repeat___int_int_ n Try.f87 [x0, x1] h =
(thn (binK .int .lss x1 (iD 0)) fun y0 =>
condK y0
(none /- UNSUPPORTED panic -/)
(thn (lenH .sl x0) fun y1 =>
thn (intOf64 .u64 y1) fun y2 =>
thn (intOf64 .u64 x1) fun y3 =>
thnH (liftF F_Mul [y2, y3] h) fun y4 h5 =>
thn (extractD y4 0) fun y6 =>
thn (extractD y4 1) fun y7 =>
thn (binK .int .gtr y6 (.v (.int .u64 0))) fun y8 =>
condK y8
(none /- UNSUPPORTED panic -/)
(thn (binK .int .gtr y7 (.v (.int .u64 9223372036854775807))) fun y9 =>
condK y9
(none /- UNSUPPORTED panic -/)
(thn (intOf64 .i64 y7) fun y10 =>
thnH (makeH 3 1 [(iD 0)] y10 y10 h5) fun y11 h12 =>
thnH (copyH 1 y11 x0 h12) fun y13 h14 =>
leaveK (loopF Try.prog T09b kp_slices_Repeat___int_int_ n Try.f87 0 [y11, y13] h14) (fun j15 s16 h17 =>
condN j15 0
(some ((s16.getD 0 .undef), h17))
(none)) (fun s16 h17 =>
some (.undef, h17)))))) := by kernel_rfl

theorem st_slices_Repeat___int_int__0 (n : Nat) (s0 s1 : D) (h : Heap) : stepF Try.prog T09b kp_slices_Repeat___int_int_ n Try.f87 0 [s0, s1] h =
(thn (lenH .sl s0) fun y0 =>
thn (binK .int .lss s1 y0) fun y1 =>
condK y1
(thn (cutH 1 s0 (some s1) none) fun y2 =>
thn (cutH 1 s0 none (some s1)) fun y3 =>
thnH (copyH 1 y2 y3 h) fun y4 h5 =>
thn (binK .int .add s1 y4) fun y6 =>
some (.normal, [s0, y6], h5))
(some ((.exit 0), [s0, s1], h))) := by kernel_rfl

end Go.Proofs.Ytbnmkdlmalobaaa
end
