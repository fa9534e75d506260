/-
  What comes in, as lists: slices of ints, slices of nodes, nodes.
-/
import Derived.Test.YtnmgfobpcengkaaBase
import Derived.Test.YtnmgfobpcengkaaProg
import Derived.ProofKit
import Derived.OpenShut
import Derived.ShutString
import Derived.ChangeOld
import Derived.Deep.SlicePairs
import Derived.Lib.SmallJoins
namespace Go.Proofs.Ytnmgfobpcengkaa
open Go.ChangeShapes Go.WideShapes Go.ChangeAt Go.RowKit Go.Deep Go.Joins
set_option linter.unusedVariables false
set_option maxRecDepth 100000

theorem block_lt {W : World} {p : Addr} {v : Value} (h : W.cell? p = some v) : p.block < W.heap.size := by
  unfold World.cell? at h
  split at h
  · rename_i c t s he; exact (Array.getElem?_eq_some_iff.1 he).1
  · cases h
theorem spot_none {W : World} {p : Addr} {v : Value} (h : W.cell? p = some v) : p.spot = none := World.cell?_spot h
theorem addr_addA (b o j : Nat) : (⟨b, o, none⟩ : Addr).add j = ⟨b, o + j, none⟩ := Go.WideShapes.add_plain ..

section
variable {H : Type} {enc : TypeId × Value → H} {W : World} {d : DataW H} {p : List MemPlace}

theorem arg_ints {base : Nat} {v : Value} (hv : Value.okWide Try.prog W .any base 23 v) (h : DataW.Trod enc Try.prog W 0 (fun _ => true) true 23 v d p) : ∃ l, IntsAt W v l := by
  obtain ⟨a, len, cap, rfl⟩ := okWide_slice Try.underlying23 hv
  obtain ⟨fuel, hf⟩ := h
  rcases open_ints Try.underlying23 Try.underlying3 (by kernel_rfl) hf with ⟨hcs, _⟩ | ⟨x, l, c, zs, hcs, _, hl, hm, hz, _, hcell, hwz⟩
  · simp [Value.cells] at hcs
    obtain ⟨rfl, rfl, rfl⟩ := hcs
    exact ⟨[], .inl ⟨none, 0, rfl, rfl, rfl, fun _ => rfl⟩⟩
  · simp [Value.cells] at hcs
    obtain ⟨rfl, rfl, rfl⟩ := hcs
    have hz' : zs.length = cap := by simpa using hz
    refine ⟨zs.take len, ?_⟩
    have hlen : (zs.take len).length = len := by rw [List.length_take]; omega
    by_cases h0 : len = 0
    · subst h0; exact .inl ⟨_, cap, rfl, hlen, by simp, fun h => by cases h⟩
    · obtain ⟨b, off, rfl, hc⟩ := ints_at hcell (by omega)
      refine .inr ⟨b, off, cap, by rw [hlen], by omega, by omega, ?_, fun j hj => ?_⟩
      · exact block_lt (hc 0 (by omega))
      · have hj' : j < len := by rw [List.length_map, hlen] at hj; exact hj
        have hjz : j < zs.length := by omega
        rw [hc j hjz, List.getElem?_map, List.getElem?_take_of_lt hj', List.getElem?_eq_getElem hjz]
        simp [hjz]

theorem arg_nodes {base : Nat} {v : Value} (hv : Value.okWide Try.prog W .any base 22 v) (h : DataW.Trod enc Try.prog W 0 (fun _ => true) true 22 v d p) : ∃ l, NodesAt W v l := by
  obtain ⟨a, len, cap, rfl⟩ := okWide_slice Try.underlying22 hv
  obtain ⟨fuel, hf⟩ := h
  rcases open_slice_pairs Try.underlying22 Try.underlying36 (by kernel_rfl) rfl rfl (by kernel_rfl) (by kernel_rfl) hf with ⟨hcs, _⟩ | ⟨x, l, c, m, n, V0, V1, D0, D1, P0, P1, hcs, _, hl, hm, hmm, _, hx⟩
  · simp [Value.cells] at hcs
    obtain ⟨rfl, rfl, rfl⟩ := hcs
    exact ⟨[], .inl ⟨none, 0, rfl, rfl, rfl, fun _ => rfl⟩⟩
  · simp [Value.cells] at hcs
    obtain ⟨rfl, rfl, rfl⟩ := hcs
    have hm' : m = cap := by simpa using hmm
    subst hm'
    have hnum : ∀ i, i < m → ∃ t z : Int, V0 i = .int .i64 t ∧ V1 i = .int .i64 z := fun i hi => by
      obtain ⟨_, _, h0, h1⟩ := hx i hi
      obtain ⟨t, e0, _⟩ := DataW.trod_int Try.underlying3 h0
      obtain ⟨z, e1, _⟩ := DataW.trod_int Try.underlying3 h1
      exact ⟨t, z, by simpa using e0, by simpa using e1⟩
    let f : Nat → Nd := fun i => (match V0 i with | .int _ t => t | _ => 0, match V1 i with | .int _ z => z | _ => 0)
    have hf0 : ∀ i, i < m → V0 i = .int .i64 (f i).1 ∧ V1 i = .int .i64 (f i).2 := fun i hi => by
      obtain ⟨t, z, e0, e1⟩ := hnum i hi
      simp only [f, e0, e1]; exact ⟨trivial, trivial⟩
    refine ⟨(List.range len).map f, ?_⟩
    have hlen : ((List.range len).map f).length = len := by simp
    by_cases h0 : len = 0
    · subst h0; exact .inl ⟨_, m, rfl, by simp, by simp [nodeCells], fun h => by cases h⟩
    · have hc0 := (hx 0 (by omega)).1
      have hsp := spot_none hc0
      obtain ⟨b, off, sp⟩ := x
      have hsp' : sp = none := by simpa [Addr.add] using hsp
      subst hsp'
      have hblt : b < W.heap.size := by have := block_lt hc0; rwa [addr_addA] at this
      refine .inr ⟨b, off, m, by rw [hlen], by omega, by omega, hblt, fun j hj => ?_⟩
      rw [nodeCells_length, hlen] at hj
      obtain ⟨q, hq⟩ : ∃ q, j = 2 * q ∨ j = 2 * q + 1 := ⟨j / 2, by omega⟩
      have hqm : q < m := by omega
      have hql : q < ((List.range len).map f).length := by rw [hlen]; omega
      obtain ⟨g1, g2, _⟩ := hx q hqm
      obtain ⟨e0, e1⟩ := hf0 q hqm
      rw [addr_addA] at g1 g2
      rcases hq with rfl | rfl
      · rw [nodeCells_get0 _ q hql, show off + 2 * q = off + q * 2 from by omega, g1, e0]; simp
      · rw [nodeCells_get1 _ q hql, show off + (2 * q + 1) = off + (q * 2 + 1) from by omega, g2, e1]; simp

theorem arg_int {base : Nat} {v : Value} (hv : Value.okWide Try.prog W .any base 3 v) (h : DataW.Trod enc Try.prog W 0 (fun _ => true) true 3 v d p) : ∃ x : Int, v = .int .i64 x := by
  obtain ⟨x, rfl, _, _, _⟩ := open_int Try.underlying3 hv h
  exact ⟨x, rfl⟩

theorem arg_node {base : Nat} {v : Value} (hv : Value.okWide Try.prog W .any base 36 v) (h : DataW.Trod enc Try.prog W 0 (fun _ => true) true 36 v d p) : ∃ x : Nd, v = .agg #[.int .i64 x.1, .int .i64 x.2] := by
  obtain ⟨v0, v1, y0, y1, n, rfl, _, _, h0, h1⟩ := open_agg2 Try.underlying36 (by kernel_rfl) (by kernel_rfl) hv h
  obtain ⟨t, e0, _⟩ := DataW.trod_int Try.underlying3 h0
  obtain ⟨z, e1, _⟩ := DataW.trod_int Try.underlying3 h1
  simp at e0 e1
  exact ⟨(t, z), by rw [e0, e1]⟩
end
end Go.Proofs.Ytnmgfobpcengkaa
