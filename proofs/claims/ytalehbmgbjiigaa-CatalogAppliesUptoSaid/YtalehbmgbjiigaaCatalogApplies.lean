/-
  CatalogApplies: for every input of bulk at most 1048576 the law returns true, and each argument reads behind the call as it read before. The one condition is that bound.
-/
import Derived.Test.YtalehbmgbjiigaaRows
import Derived.Test.YtalehbmgbjiigaaFk
import Derived.Test.YtalehbmgbjiigaaFw
import Derived.Below
import Derived.JoinedCond
import Derived.Deep.SlicePairs
namespace Go.Proofs.Ytalehbmgbjiigaa.catalogApplies
open Go.ChangeShapes Go.WideShapes Go.ChangeAt Go.RowKit Go.Deep Go.Joins Go.Proofs.Ytalehbmgbjiigaa
set_option linter.unusedVariables false

theorem own : ownKnob Try.prog.godebug = none := by kernel_rfl
theorem laidOut : laidOutB Try.prog = true := by kernel_rfl


section
variable {H : Type} {enc : TypeId × Value → H} {W : World} {d : DataW H} {p : List MemPlace}
set_option maxRecDepth 100000 in
theorem arg_nodesL {base : Nat} {v : Value} (hv : Value.okWide Try.prog W .any base 23 v) (h : DataW.Trod enc Try.prog W 0 (fun _ => true) true 23 v d p) : ∃ l, NodesAt W v l ∧ (l = [] ∨ ∃ es sp, d = .slice es sp ∧ es.length = l.length) := by
  obtain ⟨a, len, cap, rfl⟩ := okWide_slice Try.underlying23 hv
  obtain ⟨fuel, hf⟩ := h
  rcases open_slice_pairs Try.underlying23 Try.underlying46 (by kernel_rfl) rfl rfl (by kernel_rfl) (by kernel_rfl) hf with ⟨hcs, hd⟩ | ⟨x, l, c, m, n, V0, V1, D0, D1, P0, P1, hcs, _, hl, hm, hmm, hd, hx⟩
  · simp [Value.cells] at hcs
    obtain ⟨rfl, rfl, rfl⟩ := hcs
    exact ⟨[], .inl ⟨none, 0, rfl, rfl, rfl, fun _ => rfl⟩, .inl rfl⟩
  · simp [Value.cells] at hcs
    obtain ⟨rfl, rfl, rfl⟩ := hcs
    have hm' : m = cap := by simpa using hmm
    subst hm'
    have hnum : ∀ i, i < m → ∃ t z : Int, V0 i = .int .i64 t ∧ V1 i = .int .i64 z := fun i hi => by
      obtain ⟨_, _, h0, h1⟩ := hx i hi
      obtain ⟨t, e0, _⟩ := DataW.trod_int Try.underlying3 h0
      obtain ⟨z, e1, _⟩ := DataW.trod_int Try.underlying3 h1
      exact ⟨t, z, by simpa using e0, by simpa using e1⟩
    let f : Nat → Nd := fun i => (match V0 i with | .int _ t => t | _ => 0, match V1 i with | .int _ z => z | _ => 0)
    have hf0 : ∀ i, i < m → V0 i = .int .i64 (f i).1 ∧ V1 i = .int .i64 (f i).2 := fun i hi => by
      obtain ⟨t, z, e0, e1⟩ := hnum i hi
      simp only [f, e0, e1]; exact ⟨trivial, trivial⟩
    refine ⟨(List.range len).map f, ?_, .inr ⟨_, _, (Prod.mk.inj hd).1, by simp⟩⟩
    have hlen : ((List.range len).map f).length = len := by simp
    by_cases h0 : len = 0
    · subst h0; exact .inl ⟨_, m, rfl, by simp, by simp [nodeCells], fun h => by cases h⟩
    · have hc0 := (hx 0 (by omega)).1
      have hsp := spot_none hc0
      obtain ⟨b, off, sp⟩ := x
      have hsp' : sp = none := by simpa [Addr.add] using hsp
      subst hsp'
      have hblt : b < W.heap.size := by have := block_lt hc0; rwa [addr_addA] at this
      refine .inr ⟨b, off, m, by rw [hlen], by omega, by omega, hblt, fun j hj => ?_⟩
      rw [nodeCells_length, hlen] at hj
      obtain ⟨q, hq⟩ : ∃ q, j = 2 * q ∨ j = 2 * q + 1 := ⟨j / 2, by omega⟩
      have hqm : q < m := by omega
      have hql : q < ((List.range len).map f).length := by rw [hlen]; omega
      obtain ⟨g1, g2, _⟩ := hx q hqm
      obtain ⟨e0, e1⟩ := hf0 q hqm
      rw [addr_addA] at g1 g2
      rcases hq with rfl | rfl
      · rw [nodeCells_get0 _ q hql, show off + 2 * q = off + q * 2 from by omega, g1, e0]; simp
      · rw [nodeCells_get1 _ q hql, show off + (2 * q + 1) = off + (q * 2 + 1) from by omega, g2, e1]; simp

end
/- What the bound gives. -/
theorem one_le {H : Type} (d : DataW H) : 1 ≤ Rows.uptoBulk d := by
  cases d with
  | lit l => cases l <;> simp [Rows.uptoBulk]
  | nil => simp [Rows.uptoBulk]
  | ptr d => simp [Rows.uptoBulk]
  | slice elems spare => simp [Rows.uptoBulk]
  | agg parts => simp [Rows.uptoBulk]
  | iface t d => simp [Rows.uptoBulk]
  | map entries => simp [Rows.uptoBulk]
  | held h => simp [Rows.uptoBulk]
theorem length_le {H : Type} (l : List (DataW H)) : l.length ≤ Rows.uptoBulkAll l := by
  induction l with
  | nil => simp [Rows.uptoBulkAll]
  | cons x r ih => have := one_le x; simp only [Rows.uptoBulkAll, List.length_cons]; omega

set_option maxRecDepth 100000 in
theorem lifted (os : Os) (started : os.Started) (H : Type) (enc : TypeId × Value → H) (F : Stop.Interp) :
    ReturnsInHanded {} Try.checked os 14 .any ((Rows.OpenSpec.upto Rows.catalogAppliesSpec).pre6 enc Try.prog Try.f14 Rows.catalogAppliesUptoRow.domain false) (((Rows.OpenSpec.upto Rows.catalogAppliesSpec).at F).post enc Try.prog Try.f14 false true false false) := by
  refine returnsInHanded_of_cond (C := Try.checked) (s := Rows.OpenSpec.upto Rows.catalogAppliesSpec) (k := Rows.uptoSmall) rfl own started (by kernel_rfl) Try.func14
    (OpenSpec.witness (enc := enc) (C := Try.checked) (s := Rows.OpenSpec.upto Rows.catalogAppliesSpec) (k := Rows.uptoSmall) rfl false ⟨#[], #[.slice none 0 0, .int .i64 0, .int .i64 0], []⟩ 8 (by kernel_rfl) (by kernel_rfl) (by kernel_rfl)
      (x := ([.nil, .lit (.int .i64 0), .lit (.int .i64 0)], [], [])) (by kernel_rfl) rfl (by kernel_rfl)) ?_
  intro W base args ds gs before hval0 hW _ hk _
  have hval : ∀ (j : Nat) t v, Try.f14.params[j]? = some t → args[j]? = some v → Value.okWide Try.prog W .any base t v := hval0
  have hW' := hW
  obtain ⟨p, q, hA0, hV, rfl, hfz, hnd⟩ := hW
  have hA : DataW.TrodAll enc Try.prog W 0 (fun _ => true) true Try.f14.params.toList args.toList ds p := hA0
  rw [Try.params14] at hA hval
  obtain ⟨v0, vs0, d0, ds0, p0, q0, hargs, rfl, rfl, h0, r0⟩ := trodAll_cons hA
  obtain ⟨v1, vs1, d1, ds1, p1, q1, rfl, rfl, rfl, h1, r1⟩ := trodAll_cons r0
  obtain ⟨v2, vs2, d2, ds2, p2, q2, rfl, rfl, rfl, h2, r2⟩ := trodAll_cons r1
  obtain ⟨rfl, rfl, rfl⟩ := trodAll_nil r2
  obtain rfl : args = #[v0, v1, v2] := by cases args; simp_all
  obtain ⟨rfl, rfl⟩ := trodVars_none hV
  have lt0 : ∀ x ∈ p0, x.block < W.heap.size := by obtain ⟨m, hm⟩ := h0; exact DataW.trod_lt m _ _ _ hm
  obtain ⟨l0, w0, b0⟩ := arg_nodesL (hval 0 23 v0 rfl rfl) h0
  have lt1 : ∀ x ∈ p1, x.block < W.heap.size := by obtain ⟨m, hm⟩ := h1; exact DataW.trod_lt m _ _ _ hm
  obtain ⟨x1, e1⟩ := arg_int (hval 1 3 v1 rfl rfl) h1
  subst e1
  have lt2 : ∀ x ∈ p2, x.block < W.heap.size := by obtain ⟨m, hm⟩ := h2; exact DataW.trod_lt m _ _ _ hm
  obtain ⟨x2, e2⟩ := arg_int (hval 2 3 v2 rfl rfl) h2
  subst e2
  have hb : l0.length ≤ 3000000 := by
    have hk2 := of_decide_eq_true hk
    simp only [List.cons_append, Rows.uptoBulkAll] at hk2
    rcases b0 with rfl | ⟨es, sp, rfl, e⟩
    · simp
    · have := length_le es
      simp only [Rows.uptoBulk] at hk2
      omega
  clear hA0 hval0
  refine (catalogApplies_walk l0 v0 x1 x2 W w0 hb).mono fun e W' ⟨he, bel⟩ => ?_
  subst he
  exact ⟨_, rfl, _, _, _, [], _, [], hW', trodAll_mk1 (shut_bool Try.underlying4 _), (trodAll_cons_mk (Below.trod laidOut (by kernel_rfl) (of_decide_eq_true (by kernel_rfl)) h0 bel lt0) (trodAll_cons_mk (Below.trod laidOut (by kernel_rfl) (of_decide_eq_true (by kernel_rfl)) h1 bel lt1) (trodAll_cons_mk (Below.trod laidOut (by kernel_rfl) (of_decide_eq_true (by kernel_rfl)) h2 bel lt2) trodAll_mk0))), rfl, bel.frame _, fun h => by cases h⟩

theorem over : Rows.catalogAppliesUptoRow.holds Try.pinned (Rows.OpenSpec.upto Rows.catalogAppliesSpec) :=
  OpenClaim.holds_of_cond 14 Try.f14 rfl rfl rfl rfl rfl rfl rfl ⟨rfl, rfl, rfl, rfl, rfl⟩ rfl rfl rfl rfl rfl (by kernel_rfl) Try.func14 (by kernel_rfl)
    (of_decide_eq_true (by kernel_rfl)) (by unfold Func.isWrapper; first | (rw [if_pos (by decide +kernel)]; kernel_rfl) | (rw [if_neg (by decide +kernel)]; exact ⟨rfl, rfl⟩))
    (fun os started H enc _ F => lifted os started H enc F)

theorem proved : Rows.CatalogAppliesUptoSaid := over
end Go.Proofs.Ytalehbmgbjiigaa.catalogApplies
