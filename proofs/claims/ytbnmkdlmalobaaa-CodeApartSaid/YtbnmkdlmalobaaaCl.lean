/-
  Parts joined into one text: Args, ArgsP, HDenFresh, Str, ArgsR, Sh09a, C09a, T09a, Sh09b. No condition.
-/
import Derived.Test.YtbnmkdlmalobaaaProg
import Derived.ProofKit
import Derived.OpenShut
import Derived.ShutString
import Derived.ChangeOld
import Derived.Deep.SlicePairs
import Derived.Lib.SmallJoins
import Derived.ChangeMaps5
import Derived.Test.YtbnmkdlmalobaaaCa
import Derived.Test.YtbnmkdlmalobaaaCi
import Derived.Test.YtbnmkdlmalobaaaCk

section
namespace Go.Proofs.Ytbnmkdlmalobaaa
open Go.ChangeShapes Go.WideShapes Go.ChangeAt Go.RowKit Go.Deep Go.Joins
set_option linter.unusedVariables false
set_option maxRecDepth 100000

theorem block_lt {W : World} {p : Addr} {v : Value} (h : W.cell? p = some v) : p.block < W.heap.size := by
  unfold World.cell? at h
  split at h
  · rename_i c t s he; exact (Array.getElem?_eq_some_iff.1 he).1
  · cases h
theorem spot_none {W : World} {p : Addr} {v : Value} (h : W.cell? p = some v) : p.spot = none := World.cell?_spot h
theorem addr_addA (b o j : Nat) : (⟨b, o, none⟩ : Addr).add j = ⟨b, o + j, none⟩ := Go.WideShapes.add_plain ..

section
variable {H : Type} {enc : TypeId × Value → H} {W : World} {d : DataW H} {p : List MemPlace}

theorem arg_ints {base : Nat} {v : Value} (hv : Value.okWide Try.prog W .any base 22 v) (h : DataW.Trod enc Try.prog W 0 (fun _ => true) true 22 v d p) : ∃ l, IntsAt W v l := by
  obtain ⟨a, len, cap, rfl⟩ := okWide_slice Try.underlying22 hv
  obtain ⟨fuel, hf⟩ := h
  rcases open_ints Try.underlying22 Try.underlying3 (by kernel_rfl) hf with ⟨hcs, _⟩ | ⟨x, l, c, zs, hcs, _, hl, hm, hz, _, hcell, hwz⟩
  · simp [Value.cells] at hcs
    obtain ⟨rfl, rfl, rfl⟩ := hcs
    exact ⟨[], .inl ⟨none, 0, rfl, rfl, rfl, fun _ => rfl⟩⟩
  · simp [Value.cells] at hcs
    obtain ⟨rfl, rfl, rfl⟩ := hcs
    have hz' : zs.length = cap := by simpa using hz
    refine ⟨zs.take len, ?_⟩
    have hlen : (zs.take len).length = len := by rw [List.length_take]; omega
    by_cases h0 : len = 0
    · subst h0; exact .inl ⟨_, cap, rfl, hlen, by simp, fun h => by cases h⟩
    · obtain ⟨b, off, rfl, hc⟩ := ints_at hcell (by omega)
      refine .inr ⟨b, off, cap, by rw [hlen], by omega, by omega, ?_, fun j hj => ?_⟩
      · exact block_lt (hc 0 (by omega))
      · have hj' : j < len := by rw [List.length_map, hlen] at hj; exact hj
        have hjz : j < zs.length := by omega
        rw [hc j hjz, List.getElem?_map, List.getElem?_take_of_lt hj', List.getElem?_eq_getElem hjz]
        simp [hjz]

theorem arg_nodes {base : Nat} {v : Value} (hv : Value.okWide Try.prog W .any base 23 v) (h : DataW.Trod enc Try.prog W 0 (fun _ => true) true 23 v d p) : ∃ l, NodesAt W v l := by
  obtain ⟨a, len, cap, rfl⟩ := okWide_slice Try.underlying23 hv
  obtain ⟨fuel, hf⟩ := h
  rcases open_slice_pairs Try.underlying23 Try.underlying39 (by kernel_rfl) rfl rfl (by kernel_rfl) (by kernel_rfl) hf with ⟨hcs, _⟩ | ⟨x, l, c, m, n, V0, V1, D0, D1, P0, P1, hcs, _, hl, hm, hmm, _, hx⟩
  · simp [Value.cells] at hcs
    obtain ⟨rfl, rfl, rfl⟩ := hcs
    exact ⟨[], .inl ⟨none, 0, rfl, rfl, rfl, fun _ => rfl⟩⟩
  · simp [Value.cells] at hcs
    obtain ⟨rfl, rfl, rfl⟩ := hcs
    have hm' : m = cap := by simpa using hmm
    subst hm'
    have hnum : ∀ i, i < m → ∃ t z : Int, V0 i = .int .i64 t ∧ V1 i = .int .i64 z := fun i hi => by
      obtain ⟨_, _, h0, h1⟩ := hx i hi
      obtain ⟨t, e0, _⟩ := DataW.trod_int Try.underlying3 h0
      obtain ⟨z, e1, _⟩ := DataW.trod_int Try.underlying3 h1
      exact ⟨t, z, by simpa using e0, by simpa using e1⟩
    let f : Nat → Nd := fun i => (match V0 i with | .int _ t => t | _ => 0, match V1 i with | .int _ z => z | _ => 0)
    have hf0 : ∀ i, i < m → V0 i = .int .i64 (f i).1 ∧ V1 i = .int .i64 (f i).2 := fun i hi => by
      obtain ⟨t, z, e0, e1⟩ := hnum i hi
      simp only [f, e0, e1]; exact ⟨trivial, trivial⟩
    refine ⟨(List.range len).map f, ?_⟩
    have hlen : ((List.range len).map f).length = len := by simp
    by_cases h0 : len = 0
    · subst h0; exact .inl ⟨_, m, rfl, by simp, by simp [nodeCells], fun h => by cases h⟩
    · have hc0 := (hx 0 (by omega)).1
      have hsp := spot_none hc0
      obtain ⟨b, off, sp⟩ := x
      have hsp' : sp = none := by simpa [Addr.add] using hsp
      subst hsp'
      have hblt : b < W.heap.size := by have := block_lt hc0; rwa [addr_addA] at this
      refine .inr ⟨b, off, m, by rw [hlen], by omega, by omega, hblt, fun j hj => ?_⟩
      rw [nodeCells_length, hlen] at hj
      obtain ⟨q, hq⟩ : ∃ q, j = 2 * q ∨ j = 2 * q + 1 := ⟨j / 2, by omega⟩
      have hqm : q < m := by omega
      have hql : q < ((List.range len).map f).length := by rw [hlen]; omega
      obtain ⟨g1, g2, _⟩ := hx q hqm
      obtain ⟨e0, e1⟩ := hf0 q hqm
      rw [addr_addA] at g1 g2
      rcases hq with rfl | rfl
      · rw [nodeCells_get0 _ q hql, show off + 2 * q = off + q * 2 from by omega, g1, e0]; simp
      · rw [nodeCells_get1 _ q hql, show off + (2 * q + 1) = off + (q * 2 + 1) from by omega, g2, e1]; simp

theorem arg_int {base : Nat} {v : Value} (hv : Value.okWide Try.prog W .any base 3 v) (h : DataW.Trod enc Try.prog W 0 (fun _ => true) true 3 v d p) : ∃ x : Int, v = .int .i64 x := by
  obtain ⟨x, rfl, _, _, _⟩ := open_int Try.underlying3 hv h
  exact ⟨x, rfl⟩

theorem arg_node {base : Nat} {v : Value} (hv : Value.okWide Try.prog W .any base 39 v) (h : DataW.Trod enc Try.prog W 0 (fun _ => true) true 39 v d p) : ∃ x : Nd, v = .agg #[.int .i64 x.1, .int .i64 x.2] := by
  obtain ⟨v0, v1, y0, y1, n, rfl, _, _, h0, h1⟩ := open_agg2 Try.underlying39 (by kernel_rfl) (by kernel_rfl) hv h
  obtain ⟨t, e0, _⟩ := DataW.trod_int Try.underlying3 h0
  obtain ⟨z, e1, _⟩ := DataW.trod_int Try.underlying3 h1
  simp at e0 e1
  exact ⟨(t, z), by rw [e0, e1]⟩
end
end Go.Proofs.Ytbnmkdlmalobaaa
end

section
namespace Go.Proofs.Ytbnmkdlmalobaaa
open Go.ChangeShapes Go.WideShapes Go.ChangeAt Go.RowKit Go.Deep Go.Joins
set_option linter.unusedVariables false
set_option maxRecDepth 100000

section
variable {H : Type} {enc : TypeId × Value → H} {W : World} {d : DataW H} {p : List MemPlace}
theorem ints_of {v : Value} {n0 : Nat} {y : DataW H × List MemPlace} (hf : DataW.trod enc Try.prog W 0 (fun _ => true) true n0 22 [v] = some y) : ∃ l, IntsAt W v l := by
  rcases open_ints Try.underlying22 Try.underlying3 (by kernel_rfl) hf with ⟨hcs, _⟩ | ⟨x, len, cap, zs, hcs, _, hl, hm, hz, _, hcell, hwz⟩
  · simp only [List.cons.injEq, and_true] at hcs
    subst hcs
    exact ⟨[], .inl ⟨none, 0, rfl, rfl, rfl, fun _ => rfl⟩⟩
  · simp only [List.cons.injEq, and_true] at hcs
    subst hcs
    have hz' : zs.length = cap := by simpa using hz
    refine ⟨zs.take len, ?_⟩
    have hlen : (zs.take len).length = len := by rw [List.length_take]; omega
    by_cases h0 : len = 0
    · subst h0; exact .inl ⟨_, cap, rfl, hlen, by simp, fun h => by cases h⟩
    · obtain ⟨b, off, rfl, hc⟩ := ints_at hcell (by omega)
      refine .inr ⟨b, off, cap, by rw [hlen], by omega, by omega, ?_, fun j hj => ?_⟩
      · exact block_lt (hc 0 (by omega))
      · have hj' : j < len := by rw [List.length_map, hlen] at hj; exact hj
        have hjz : j < zs.length := by omega
        rw [hc j hjz, List.getElem?_map, List.getElem?_take_of_lt hj', List.getElem?_eq_getElem hjz]
        simp [hjz]

theorem nodes_of {v : Value} {n0 : Nat} {y : DataW H × List MemPlace} (hf : DataW.trod enc Try.prog W 0 (fun _ => true) true n0 23 [v] = some y) : ∃ l, NodesAt W v l := by
  rcases open_slice_pairs Try.underlying23 Try.underlying39 (by kernel_rfl) rfl rfl (by kernel_rfl) (by kernel_rfl) hf with ⟨hcs, _⟩ | ⟨x, len, cap, m, n, V0, V1, D0, D1, P0, P1, hcs, _, hl, hm, hmm, _, hx⟩
  · simp only [List.cons.injEq, and_true] at hcs
    subst hcs
    exact ⟨[], .inl ⟨none, 0, rfl, rfl, rfl, fun _ => rfl⟩⟩
  · simp only [List.cons.injEq, and_true] at hcs
    subst hcs
    have hm' : m = cap := by simpa using hmm
    subst hm'
    have hnum : ∀ i, i < m → ∃ t z : Int, V0 i = .int .i64 t ∧ V1 i = .int .i64 z := fun i hi => by
      obtain ⟨_, _, h0, h1⟩ := hx i hi
      obtain ⟨t, e0, _⟩ := DataW.trod_int Try.underlying3 h0
      obtain ⟨z, e1, _⟩ := DataW.trod_int Try.underlying3 h1
      exact ⟨t, z, by simpa using e0, by simpa using e1⟩
    let f : Nat → Nd := fun i => (match V0 i with | .int _ t => t | _ => 0, match V1 i with | .int _ z => z | _ => 0)
    have hf0 : ∀ i, i < m → V0 i = .int .i64 (f i).1 ∧ V1 i = .int .i64 (f i).2 := fun i hi => by
      obtain ⟨t, z, e0, e1⟩ := hnum i hi
      simp only [f, e0, e1]; exact ⟨trivial, trivial⟩
    refine ⟨(List.range len).map f, ?_⟩
    have hlen : ((List.range len).map f).length = len := by simp
    by_cases h0 : len = 0
    · subst h0; exact .inl ⟨_, m, rfl, by simp, by simp [nodeCells], fun h => by cases h⟩
    · have hc0 := (hx 0 (by omega)).1
      have hsp := spot_none hc0
      obtain ⟨b, off, sp⟩ := x
      have hsp' : sp = none := by simpa [Addr.add] using hsp
      subst hsp'
      have hblt : b < W.heap.size := by have := block_lt hc0; rwa [addr_add] at this
      refine .inr ⟨b, off, m, by rw [hlen], by omega, by omega, hblt, fun j hj => ?_⟩
      rw [nodeCells_length, hlen] at hj
      obtain ⟨q, hq⟩ : ∃ q, j = 2 * q ∨ j = 2 * q + 1 := ⟨j / 2, by omega⟩
      have hqm : q < m := by omega
      have hql : q < ((List.range len).map f).length := by rw [hlen]; omega
      obtain ⟨g1, g2, _⟩ := hx q hqm
      obtain ⟨e0, e1⟩ := hf0 q hqm
      rw [addr_add] at g1 g2
      rcases hq with rfl | rfl
      · rw [nodeCells_get0 _ q hql, show off + 2 * q = off + q * 2 from by omega, g1, e0]; simp
      · rw [nodeCells_get1 _ q hql, show off + (2 * q + 1) = off + (q * 2 + 1) from by omega, g2, e1]; simp

theorem arg_prog {base : Nat} {v : Value} (hv : Value.okWide Try.prog W .any base 25 v) (h : DataW.Trod enc Try.prog W 0 (fun _ => true) true 25 v d p) : ∃ x : Pg, Rep (· < W.heap.size) [] W v (progD x) := by
  obtain ⟨v0, v1, v2, y0, y1, y2, n, rfl, _, _, h0, h1, h2⟩ := open_agg3 Try.underlying25 (by kernel_rfl) (by kernel_rfl) hv h
  obtain ⟨t, e0, _⟩ := DataW.trod_int Try.underlying3 h0
  obtain ⟨l1, w1⟩ := ints_of h1
  obtain ⟨l2, w2⟩ := nodes_of h2
  simp at e0
  refine ⟨⟨t, l1, l2⟩, ?_⟩
  simp only [progD, progC, Rep]
  exact ⟨[v0, v1, v2], rfl, RepA.cons (by rw [e0]; exact rep_int t) (RepA.cons (intsD_rep w1) (RepA.cons (nodesD_rep w2) RepA.nil))⟩
end
end Go.Proofs.Ytbnmkdlmalobaaa
end

section
namespace Go.Proofs.Ytbnmkdlmalobaaa
open Go.RowKit
set_option linter.unusedVariables false
set_option linter.unusedSimpArgs false

/-- A function gives what is said, by value, in memory that it has made. -/
structure CallNew (P : Program) (f : FuncId) (F : List D → Option D) : Prop where
  body : ∃ fn, P.funcs[f]? = some fn ∧ fn.name ≠ "runtime.NumGoroutine" ∧ fn.body.isSome = true
  calls : ∀ ds d, F ds = some d → ∀ (S : Nat → Prop) (vs : List Value) (w : World), (∀ k, S k → k < w.heap.size) → RepA S [] w vs ds →
    Calls P f vs.toArray w fun e w' => ∃ v, e = .returned v ∧ Rep (fun k => w.heap.size ≤ k ∧ k < w'.heap.size) [] w' v d ∧ Below w.heap.size w w'
def liftN (F : List D → Option D) (ds : List D) (H : Heap) : Option (D × Heap) :=
  match pureL ds with
  | true => (F ds).map fun d => (d, H)
  | false => (ds.mapM (derefN H 9)).bind fun ds' => (F ds').map fun d => (d, H)
theorem new_ok {P : Program} {f : FuncId} {F : List D → Option D} (h : CallNew P f F) : HCallOk P f (liftN F) := by
  refine ⟨h.body, fun ds H d H' hG B S L vs w hr hv => ?_⟩
  have fin : ∀ (S0 : Nat → Prop) (ds' : List D), (∀ k, S0 k → k < w.heap.size) → RepA S0 [] w vs ds' → (F ds').map (fun d => (d, H)) = some (d, H') → Calls P f vs.toArray w fun e w' => ∃ v S' L', e = .returned v ∧ Rep S' L' w' v d ∧ HRel B S' L' w' H' ∧ Later B S S' L L' w w' := by
    intro S0 ds' h0 hv' hF
    obtain ⟨d', hF', e⟩ := Option.map_eq_some_iff.1 hF
    cases e
    refine (h.calls ds' _ hF' S0 vs w h0 hv').mono ?_
    rintro e w' ⟨v, rfl, h1, h2⟩
    obtain ⟨h3, h4⟩ := hr.call h2
    exact ⟨v, _, L, rfl, Rep.kept (Kept.refl _ w') (fun k hk => .inr hk) (fun i p hi => by simp at hi) _ _ h1, h3, h4⟩
  unfold liftN at hG
  split at hG
  · rename_i hp
    exact fin S ds hr.small (pure_repL ds vs hp hv) hG
  · obtain ⟨ds', hds, hG⟩ := Option.bind_eq_some_iff.1 hG
    exact fin _ ds' (fun k hk => hk) (repA_mapM (fun d d' x h1 h2 => deref_ok hr 9 d d' x h1 h2) ds ds' vs hds hv) hG
theorem new_calm (F : List D → Option D) : CalmOk (liftN F) := by
  intro ds H d H' h
  cases hp : pureL ds with
  | true =>
    unfold liftN at h ⊢
    rw [hp] at h ⊢
    simp only at h ⊢
    obtain ⟨d', hF, e⟩ := Option.map_eq_some_iff.1 h
    cases e
    exact ⟨rfl, fun t => by rw [hF]; rfl, fun _ H2 => by rw [hF]; rfl⟩
  | false =>
    unfold liftN at h ⊢
    rw [hp] at h ⊢
    simp only at h ⊢
    obtain ⟨ds', hds, h⟩ := Option.bind_eq_some_iff.1 h
    obtain ⟨d', hF, e⟩ := Option.map_eq_some_iff.1 h
    cases e
    exact ⟨rfl, fun t => by rw [mapM_mono (deref_mono H t 9) ds ds' hds, Option.bind_some, hF]; rfl, fun h => by cases h⟩
theorem entry_new {P : Program} {f : FuncId} {F : List D → Option D} (h : CallNew P f F) : EntryOk P (f, true, liftN F) := ⟨new_ok h, fun _ => new_calm F⟩
theorem liftN_pure (F : List D → Option D) (ds : List D) (H : Heap) (h : pureL ds = true) : liftN F ds H = (F ds).map fun d => (d, H) := by unfold liftN; rw [h]
theorem liftN_obj (F : List D → Option D) (ds ds' : List D) (H : Heap) (h : pureL ds = false) (hd : ds.mapM (derefN H 9) = some ds') : liftN F ds H = (F ds').map fun d => (d, H) := by unfold liftN; rw [h]; simp only [hd]; rfl
end Go.Proofs.Ytbnmkdlmalobaaa
end

section
namespace Go.Proofs.Ytbnmkdlmalobaaa
open Go.RowKit
set_option linter.unusedVariables false
set_option linter.unusedSimpArgs false

abbrev By := List UInt8
def baOf (l : By) : ByteArray := ⟨l.toArray⟩
def sD (l : By) : D := .v (.string (baOf l))
def u64D (n : Int) : D := .v (.int .u64 n)
def u8D (b : UInt8) : D := .v (.int .u8 b.toNat)
theorem ba_size (l : By) : (baOf l).size = l.length := by simp [baOf, ByteArray.size]
theorem ba_app (a b : By) : baOf a ++ baOf b = baOf (a ++ b) := by
  apply ByteArray.ext; simp [baOf, ByteArray.data_append]
theorem ba_cut (l : By) (i j : Nat) : (baOf l).extract i j = baOf ((l.take j).drop i) := by
  apply ByteArray.ext; simp [baOf, ByteArray.data_extract, List.drop_take]
theorem ba_get (l : By) (i : Nat) : (baOf l)[i]? = l[i]? := by
  by_cases h : i < l.length
  · have h' : i < (baOf l).size := by rw [ba_size]; exact h
    rw [getElem?_pos _ i h', List.getElem?_eq_getElem h]
    rfl
  · have h' : ¬ i < (baOf l).size := by rw [ba_size]; exact h
    rw [getElem?_neg _ i h', List.getElem?_eq_none (by omega)]
theorem ba_loop (b : ByteArray) : ∀ (n i : Nat) (r : By), b.size = i + n → ByteArray.toList.loop b i r = r.reverse ++ b.data.toList.drop i
  | 0, i, r, h => by
    unfold ByteArray.toList.loop
    rw [if_neg (by omega), List.drop_of_length_le (by have : b.data.toList.length = b.size := rfl; omega), List.append_nil]
  | n + 1, i, r, h => by
    unfold ByteArray.toList.loop
    rw [if_pos (by omega), ba_loop b n (i + 1) _ (by omega)]
    have hl : i < b.data.toList.length := by have : b.data.toList.length = b.size := rfl; omega
    rw [List.drop_eq_getElem_cons hl]
    have : b.get! i = b.data.toList[i] := by
      show b.data[i]! = _
      rw [getElem!_pos b.data i (by simpa using hl)]; simp
    simp [this]
theorem ba_list (l : By) : (baOf l).toList = l := by
  unfold ByteArray.toList
  rw [ba_loop _ l.length 0 [] (by simp [baOf, ByteArray.size])]
  simp [baOf]
theorem ba_of (s : ByteArray) : baOf s.data.toList = s := by apply ByteArray.ext; simp [baOf]
theorem sD_inj {a b : By} (h : baOf a = baOf b) : a = b := by rw [← ba_list a, h, ba_list]

/- Operations. -/
@[simp] theorem str_len (l : By) : lenH .str (sD l) = some (iD l.length) := by
  show some (D.v (.int .i64 (baOf l).size)) = _
  rw [ba_size]
theorem str_add (a b : By) (h : a.length + b.length ≤ 1000000) : binK .str .add (sD a) (sD b) = some (sD (a ++ b)) := by
  show strD .add (baOf a) (baOf b) = _
  simp only [strD, ba_size]
  rw [if_pos (by omega), ba_app]; rfl
@[simp] theorem str_eq (a b : By) : binK .str .eql (sD a) (sD b) = some (bD (decide (a = b))) := by
  show strD .eql (baOf a) (baOf b) = _
  simp only [strD, ba_list]
  congr 2
  by_cases h : a = b <;> simp [h]
@[simp] theorem str_ne (a b : By) : binK .str .neq (sD a) (sD b) = some (bD (!decide (a = b))) := by
  show strD .neq (baOf a) (baOf b) = _
  simp only [strD, ba_list]
  congr 2
  by_cases h : a = b <;> simp [h]
theorem str_idx (l : By) (i : Nat) (h : i < l.length) : idxS (sD l) (iD i) = some (u8D l[i]) := by
  simp only [idxS, sD, strOf, Option.bind_some, natD_int]
  rw [if_pos (by omega), Option.bind_some, Int.toNat_natCast, ba_get, List.getElem?_eq_getElem h]; rfl
theorem str_cut (l : By) (a b : Nat) (h1 : a ≤ b) (h2 : b ≤ l.length) : cutS (sD l) (some (iD a)) (some (iD b)) = some (sD ((l.take b).drop a)) := by
  have e1 : lowD (some (iD a)) = some a := by simp [lowD]
  have e2 : highD (baOf l).size (some (iD b)) = some b := by simp [highD]
  simp only [cutS, sD, strOf, Option.bind_some]
  rw [e1, e2]
  simp only [ba_size]
  rw [if_pos ⟨h1, h2⟩, ba_cut]
/-- Bytes as cells. -/
def bytesC (l : By) : List D := l.map u8D
theorem bytesD_of (l : By) : bytesD (baOf l) = bytesC l := by simp [bytesD, bytesC, baOf, u8D]
theorem bytesC_len (l : By) : (bytesC l).length = l.length := by simp [bytesC]
theorem bytesC_ok (l : By) : (bytesC l).all cellOk = true := by
  induction l with
  | nil => rfl
  | cons x r ih => simp only [bytesC, List.map_cons, List.all_cons] at ih ⊢; rw [ih]; rfl
theorem bytes_back (l : By) : (bytesC l).mapM byteOfD = some l := by
  induction l with
  | nil => rfl
  | cons x r ih =>
    have e : bytesC (x :: r) = u8D x :: bytesC r := rfl
    have e1 : byteOfD (u8D x) = some x := by simp [byteOfD, u8D]
    rw [e, List.mapM_cons, e1, ih]; rfl
theorem bytesS_row (H : Heap) (id n : Nat) (t : TypeId) (l : By) (h : H[id]? = some (.cells t 1 (bytesC l))) (hn : n = l.length) : bytesS H (.hs id n) = some (sD l) := by
  subst hn
  have hs : srcH 1 H (.hs id l.length) = some (bytesC l) := by
    simp only [srcH, h]
    rw [if_pos ⟨trivial, by rw [bytesC_len]; omega⟩, List.take_of_length_le (by rw [bytesC_len]; omega)]
  unfold bytesS
  rw [hs, Option.bind_some, bytes_back]; rfl
theorem bytesS_nil (H : Heap) : bytesS H (.v (.slice none 0 0)) = some (sD []) := rfl

/- Numbers without a sign. -/
theorem u64_add (a b : Int) (h0 : 0 ≤ a + b) (h1 : a + b ≤ 18446744073709551615) : intD .add .u64 a b = some (u64D (a + b)) := by rw [intD, IntWalk.u64_in _ ⟨h0, h1⟩]; rfl
theorem u64_mul (a b : Int) (h0 : 0 ≤ a * b) (h1 : a * b ≤ 18446744073709551615) : intD .mul .u64 a b = some (u64D (a * b)) := by rw [intD, IntWalk.u64_in _ ⟨h0, h1⟩]; rfl
theorem u64_quo (a b : Int) (h0 : 0 ≤ a) (h1 : a ≤ 18446744073709551615) (hb : 1 ≤ b) : intD .quo .u64 a b = some (u64D (a / b)) := by
  rw [intD, if_neg (by omega), IntWalk.u64_quo _ _ ⟨h0, h1, hb⟩]; rfl
theorem u64_rem (a b : Int) (h0 : 0 ≤ a) (hb : 1 ≤ b) : intD .rem .u64 a b = some (u64D (a % b)) := by
  rw [intD, if_neg (by omega), Int.tmod_eq_emod_of_nonneg h0]; rfl
theorem u64_of (k : IntKind) (n : Int) (h0 : 0 ≤ n) (h1 : n ≤ 18446744073709551615) : intOf64 .u64 (.v (.int k n)) = some (u64D n) := by rw [intOf64, IntWalk.u64_in _ ⟨h0, h1⟩]; rfl
theorem i64_of (k : IntKind) (n : Int) (h0 : -9223372036854775808 ≤ n) (h1 : n ≤ 9223372036854775807) : intOf64 .i64 (.v (.int k n)) = some (iD n) := by rw [intOf64, wrap_in _ h0 h1]
/-- A number's lowest eight bits. -/
def b8 (n : Int) : UInt8 := UInt8.ofNat (n % 256).toNat
theorem u8_of (k : IntKind) (n : Int) : intOf64 .u8 (.v (.int k n)) = some (u8D (b8 n)) := by
  rw [intOf64, IntKind.wrap_u8]
  have h : ((b8 n).toNat : Int) = n % 256 := by
    have h1 : 0 ≤ n % 256 := Int.emod_nonneg _ (by omega)
    have h2 : n % 256 < 256 := Int.emod_lt_of_pos _ (by omega)
    simp only [b8, UInt8.toNat_ofNat']
    omega
  simp only [u8D, h]
theorem b8_toNat (n : Int) : ((b8 n).toNat : Int) = n % 256 := by
  have h1 : 0 ≤ n % 256 := Int.emod_nonneg _ (by omega)
  have h2 : n % 256 < 256 := Int.emod_lt_of_pos _ (by omega)
  simp only [b8, UInt8.toNat_ofNat']
  omega
theorem b8_back (b : UInt8) : b8 b.toNat = b := by
  apply UInt8.toNat_inj.1
  have := b8_toNat (b.toNat : Int)
  have hb := b.toNat_lt
  omega

/- How they are spelt. -/
def asStr : D → Option By
  | .v (.string s) => some s.data.toList
  | _ => none
def strT : Dec By := ⟨sD, asStr, fun l => by simp [asStr, sD, baOf], fun d a h => by
  unfold asStr at h
  split at h
  · cases h
    unfold sD
    rw [ba_of]
    exact Imp.refl _
  · cases h⟩
def asU64 : D → Option Int
  | .v (.int .u64 n) => some n
  | _ => none
def u64T : Dec Int := ⟨u64D, asU64, fun _ => rfl, fun d a h => by
  unfold asU64 at h
  split at h
  · cases h; exact Imp.refl _
  · cases h⟩
@[simp] theorem outD_str (l : By) (H : Heap) : outD (some (sD l, H)) = some (sD l) := outD_pure _ _ rfl
@[simp] theorem outD_u64 (n : Int) (H : Heap) : outD (some (u64D n, H)) = some (u64D n) := outD_pure _ _ rfl
@[simp] theorem wholeK_u64 {α : Type} (n : Int) (k : Option α) : wholeK (u64D n) k = k := wholeK_v _ k
@[simp] theorem wholeK_u8 {α : Type} (n : UInt8) (k : Option α) : wholeK (u8D n) k = k := wholeK_v _ k
@[simp] theorem cellOk_sD (l : By) : cellOk (sD l) = true := rfl
@[simp] theorem cellOk_u64D (n : Int) : cellOk (u64D n) = true := rfl
@[simp] theorem cellOk_u8D (n : UInt8) : cellOk (u8D n) = true := rfl
@[simp] theorem cells_agg (cs : List D) : cellsD (.agg cs) = some cs := rfl
@[simp] theorem cells_int (k : IntKind) (n : Int) : cellsD (.v (.int k n)) = some [.v (.int k n)] := rfl
@[simp] theorem cells_sD (l : By) : cellsD (sD l) = some [sD l] := rfl
@[simp] theorem cells_u64D (n : Int) : cellsD (u64D n) = some [u64D n] := rfl
@[simp] theorem cells_nodes (l : List Nd) : cellsD (nodesD l) = some [nodesD l] := rfl
@[simp] theorem cells_ints (l : List Int) : cellsD (intsD l) = some [intsD l] := rfl
@[simp] theorem cells_hs (i n : Nat) : cellsD (.hs i n) = some [.hs i n] := rfl
@[simp] theorem cells_hp (i n : Nat) : cellsD (.hp i n) = some [.hp i n] := rfl
@[simp] theorem cells_clo (f : Fn) (a b : List D) : cellsD (.clo f a b) = some [.clo f a b] := rfl
@[simp] theorem pure_sD (l : By) : pureD (sD l) = true := rfl
@[simp] theorem pure_u64D (n : Int) : pureD (u64D n) = true := rfl
@[simp] theorem pure_u8D (n : UInt8) : pureD (u8D n) = true := rfl
@[simp] theorem ext0 (a : D) (l : List D) : extractD (.tup (a :: l)) 0 = some a := rfl
@[simp] theorem ext1 (a b : D) (l : List D) : extractD (.tup (a :: b :: l)) 1 = some b := rfl
@[simp] theorem ext2 (a b c : D) (l : List D) : extractD (.tup (a :: b :: c :: l)) 2 = some c := rfl
@[simp] theorem nilD_hp (i o : Nat) : nilD (.hp i o) = some (.hp i o) := rfl
/- Objects that are surely the same. -/
theorem eqB_one (n : Int) : eqB (iD n) (iD n) = true := by simp [eqB, eqV]
theorem eqR_ints : ∀ l : List Int, eqR (l.map oneI) (l.map oneI) = true
  | [] => rfl
  | n :: r => by simp [eqR, eqR_ints r, oneI, eqL, eqB, eqV]
theorem eqR_nodes : ∀ l : List Nd, eqR (l.map nodeD) (l.map nodeD) = true
  | [] => rfl
  | n :: r => by simp [eqR, eqR_nodes r, nodeD, eqL, eqB, eqV]
@[simp] theorem eqB_int (k : IntKind) (n : Int) : eqB (.v (.int k n)) (.v (.int k n)) = true := by simp [eqB, eqV]
@[simp] theorem eqB_bool (b : Bool) : eqB (.v (.bool b)) (.v (.bool b)) = true := by simp [eqB, eqV]
@[simp] theorem eqB_sD (l : By) : eqB (sD l) (sD l) = true := by simp [sD, eqB, eqV]
@[simp] theorem eqB_ints (l : List Int) : eqB (intsD l) (intsD l) = true := by simp [intsD, eqB, eqR_ints]
@[simp] theorem eqB_nodes (l : List Nd) : eqB (nodesD l) (nodesD l) = true := by simp [nodesD, eqB, eqR_nodes]
@[simp] theorem eqB_hs (i n : Nat) : eqB (.hs i n) (.hs i n) = true := by simp [eqB]
@[simp] theorem eqB_hp (i n : Nat) : eqB (.hp i n) (.hp i n) = true := by simp [eqB]
@[simp] theorem eqB_nil : eqB (.v (.slice none 0 0)) (.v (.slice none 0 0)) = true := rfl
@[simp] theorem eqL_nil : eqL [] [] = true := rfl
@[simp] theorem eqL_cons (a b : D) (r s : List D) : eqL (a :: r) (b :: s) = (eqB a b && eqL r s) := by simp [eqL]
theorem sameO_hp {α : Type} (i o : Nat) (H H' : Heap) (t : TypeId) (sz : Nat) (cs : List D) (k : Option α) (h : H[i]? = some (.cells t sz cs)) (h' : H'[i]? = H[i]?) (hc : eqL cs cs = true) : sameO (.hp i o) (some H) (some H') k = k := by
  have : sameB i H H' = true := by unfold sameB; rw [h', h]; simp [hc]
  show sameK (.hp i o) H H' k = k
  show (match sameB i H H' with | true => k | false => none) = k
  rw [this]
/- Numbers without a sign, as they are spelt. -/
theorem fold_u64 (n : Int) : D.v (.int .u64 n) = u64D n := rfl
@[simp] theorem bin_u64_eql (k : Kd) (a b : Int) : binK k .eql (u64D a) (u64D b) = some (.v (.bool (a == b))) := binK_eql k .u64 a b
@[simp] theorem bin_u64_neq (k : Kd) (a b : Int) : binK k .neq (u64D a) (u64D b) = some (.v (.bool (a != b))) := binK_neq k .u64 a b
@[simp] theorem bin_u64_lss (k : Kd) (a b : Int) : binK k .lss (u64D a) (u64D b) = some (.v (.bool (decide (a < b)))) := binK_lss k .u64 a b
@[simp] theorem bin_u64_leq (k : Kd) (a b : Int) : binK k .leq (u64D a) (u64D b) = some (.v (.bool (decide (a ≤ b)))) := binK_leq k .u64 a b
@[simp] theorem bin_u64_gtr (k : Kd) (a b : Int) : binK k .gtr (u64D a) (u64D b) = some (.v (.bool (decide (b < a)))) := binK_gtr k .u64 a b
@[simp] theorem bin_u64_geq (k : Kd) (a b : Int) : binK k .geq (u64D a) (u64D b) = some (.v (.bool (decide (b ≤ a)))) := binK_geq k .u64 a b
@[simp] theorem bin_u64_add (k : Kd) (a b : Int) : binK k .add (u64D a) (u64D b) = intD .add .u64 a b := binK_int k .u64 a b
@[simp] theorem bin_u64_sub (k : Kd) (a b : Int) : binK k .sub (u64D a) (u64D b) = intD .sub .u64 a b := binK_sub k .u64 a b
@[simp] theorem bin_u64_mul (k : Kd) (a b : Int) : binK k .mul (u64D a) (u64D b) = intD .mul .u64 a b := binK_mul k .u64 a b
@[simp] theorem bin_u64_quo (k : Kd) (a b : Int) : binK k .quo (u64D a) (u64D b) = intD .quo .u64 a b := binK_quo k .u64 a b
@[simp] theorem bin_u64_rem (k : Kd) (a b : Int) : binK k .rem (u64D a) (u64D b) = intD .rem .u64 a b := binK_rem k .u64 a b
@[simp] theorem bin_u64_and (k : Kd) (a b : Int) : binK k .and (u64D a) (u64D b) = intD .and .u64 a b := binK_and k .u64 a b
@[simp] theorem bin_u64_or (k : Kd) (a b : Int) : binK k .or (u64D a) (u64D b) = intD .or .u64 a b := binK_or k .u64 a b
@[simp] theorem bin_u64_xor (k : Kd) (a b : Int) : binK k .xor (u64D a) (u64D b) = intD .xor .u64 a b := binK_xor k .u64 a b
@[simp] theorem cellOk_nilFunc : cellOk (D.v Value.nilFunc) = true := rfl
end Go.Proofs.Ytbnmkdlmalobaaa
end

section
namespace Go.Proofs.Ytbnmkdlmalobaaa
open Go.ChangeShapes Go.WideShapes Go.ChangeAt Go.RowKit Go.Deep Go.Joins Go.ChangeMaps
set_option linter.unusedVariables false
set_option maxRecDepth 100000

section
variable {H : Type} {enc : TypeId × Value → H} {W : World} {d : DataW H} {p : List MemPlace}
abbrev goInt (n : Int) : Prop := -9223372036854775808 ≤ n ∧ n ≤ 9223372036854775807
theorem wf_int {n : Int} (h : (Lit.int .i64 n).wf = true) : goInt n := by
  have e1 : IntKind.i64.min = -9223372036854775808 := by decide
  have e2 : IntKind.i64.max = 9223372036854775807 := by decide
  simp only [Lit.wf, Bool.and_eq_true, decide_eq_true_eq, e1, e2] at h
  exact h
theorem intsR_of {v : Value} {n0 : Nat} {y : DataW H × List MemPlace} (hf : DataW.trod enc Try.prog W 0 (fun _ => true) true n0 22 [v] = some y) : ∃ l, IntsAt W v l ∧ ∀ n ∈ l, goInt n := by
  rcases open_ints Try.underlying22 Try.underlying3 (by kernel_rfl) hf with ⟨hcs, _⟩ | ⟨x, len, cap, zs, hcs, _, hl, hm, hz, _, hcell, hwz⟩
  · simp only [List.cons.injEq, and_true] at hcs
    subst hcs
    exact ⟨[], .inl ⟨none, 0, rfl, rfl, rfl, fun _ => rfl⟩, by simp⟩
  · simp only [List.cons.injEq, and_true] at hcs
    subst hcs
    have hz' : zs.length = cap := by simpa using hz
    refine ⟨zs.take len, ?_, fun n hn => wf_int (hwz n (List.mem_of_mem_take hn))⟩
    have hlen : (zs.take len).length = len := by rw [List.length_take]; omega
    by_cases h0 : len = 0
    · subst h0; exact .inl ⟨_, cap, rfl, hlen, by simp, fun h => by cases h⟩
    · obtain ⟨b, off, rfl, hc⟩ := ints_at hcell (by omega)
      refine .inr ⟨b, off, cap, by rw [hlen], by omega, by omega, ?_, fun j hj => ?_⟩
      · exact block_lt (hc 0 (by omega))
      · have hj' : j < len := by rw [List.length_map, hlen] at hj; exact hj
        have hjz : j < zs.length := by omega
        rw [hc j hjz, List.getElem?_map, List.getElem?_take_of_lt hj', List.getElem?_eq_getElem hjz]
        simp [hjz]

theorem nodesR_of {v : Value} {n0 : Nat} {y : DataW H × List MemPlace} (hf : DataW.trod enc Try.prog W 0 (fun _ => true) true n0 23 [v] = some y) : ∃ l, NodesAt W v l ∧ ∀ n ∈ l, goInt n.1 ∧ goInt n.2 := by
  rcases open_slice_pairs Try.underlying23 Try.underlying39 (by kernel_rfl) rfl rfl (by kernel_rfl) (by kernel_rfl) hf with ⟨hcs, _⟩ | ⟨x, len, cap, m, n, V0, V1, D0, D1, P0, P1, hcs, _, hl, hm, hmm, _, hx⟩
  · simp only [List.cons.injEq, and_true] at hcs
    subst hcs
    exact ⟨[], .inl ⟨none, 0, rfl, rfl, rfl, fun _ => rfl⟩, by simp⟩
  · simp only [List.cons.injEq, and_true] at hcs
    subst hcs
    have hm' : m = cap := by simpa using hmm
    subst hm'
    have hnum : ∀ i, i < m → ∃ t z : Int, V0 i = .int .i64 t ∧ V1 i = .int .i64 z ∧ goInt t ∧ goInt z := fun i hi => by
      obtain ⟨_, _, h0, h1⟩ := hx i hi
      obtain ⟨t, e0, _, w0⟩ := DataW.trod_int Try.underlying3 h0
      obtain ⟨z, e1, _, w1⟩ := DataW.trod_int Try.underlying3 h1
      exact ⟨t, z, by simpa using e0, by simpa using e1, wf_int w0, wf_int w1⟩
    let f : Nat → Nd := fun i => (match V0 i with | .int _ t => t | _ => 0, match V1 i with | .int _ z => z | _ => 0)
    have hf0 : ∀ i, i < m → V0 i = .int .i64 (f i).1 ∧ V1 i = .int .i64 (f i).2 ∧ goInt (f i).1 ∧ goInt (f i).2 := fun i hi => by
      obtain ⟨t, z, e0, e1, w0, w1⟩ := hnum i hi
      simp only [f, e0, e1]; exact ⟨trivial, trivial, w0, w1⟩
    refine ⟨(List.range len).map f, ?_, fun n hn => by
      obtain ⟨i, hi, rfl⟩ := List.mem_map.1 hn
      exact (hf0 i (by have := List.mem_range.1 hi; omega)).2.2⟩
    have hlen : ((List.range len).map f).length = len := by simp
    by_cases h0 : len = 0
    · subst h0; exact .inl ⟨_, m, rfl, by simp, by simp [nodeCells], fun h => by cases h⟩
    · have hc0 := (hx 0 (by omega)).1
      have hsp := spot_none hc0
      obtain ⟨b, off, sp⟩ := x
      have hsp' : sp = none := by simpa [Addr.add] using hsp
      subst hsp'
      have hblt : b < W.heap.size := by have := block_lt hc0; rwa [addr_addA] at this
      refine .inr ⟨b, off, m, by rw [hlen], by omega, by omega, hblt, fun j hj => ?_⟩
      rw [nodeCells_length, hlen] at hj
      obtain ⟨q, hq⟩ : ∃ q, j = 2 * q ∨ j = 2 * q + 1 := ⟨j / 2, by omega⟩
      have hqm : q < m := by omega
      have hql : q < ((List.range len).map f).length := by rw [hlen]; omega
      obtain ⟨g1, g2, _⟩ := hx q hqm
      obtain ⟨e0, e1, _⟩ := hf0 q hqm
      rw [addr_addA] at g1 g2
      rcases hq with rfl | rfl
      · rw [nodeCells_get0 _ q hql, show off + 2 * q = off + q * 2 from by omega, g1, e0]; simp
      · rw [nodeCells_get1 _ q hql, show off + (2 * q + 1) = off + (q * 2 + 1) from by omega, g2, e1]; simp

/-- A program of Go's numbers. -/
def pgGo (x : Pg) : Prop := goInt x.params ∧ (∀ n ∈ x.vars, goInt n) ∧ ∀ n ∈ x.body, goInt n.1 ∧ goInt n.2
theorem arg_progR {base : Nat} {v : Value} (hv : Value.okWide Try.prog W .any base 25 v) (h : DataW.Trod enc Try.prog W 0 (fun _ => true) true 25 v d p) : ∃ x : Pg, Rep (· < W.heap.size) [] W v (progD x) ∧ pgGo x := by
  obtain ⟨v0, v1, v2, y0, y1, y2, n, rfl, _, _, h0, h1, h2⟩ := open_agg3 Try.underlying25 (by kernel_rfl) (by kernel_rfl) hv h
  obtain ⟨t, e0, _, i0⟩ := DataW.trod_int Try.underlying3 h0
  obtain ⟨l1, w1, i1⟩ := intsR_of h1
  obtain ⟨l2, w2, i2⟩ := nodesR_of h2
  simp at e0
  refine ⟨⟨t, l1, l2⟩, ?_, wf_int i0, i1, i2⟩
  simp only [progD, progC, Rep]
  exact ⟨[v0, v1, v2], rfl, RepA.cons (by rw [e0]; exact rep_int t) (RepA.cons (intsD_rep w1) (RepA.cons (nodesD_rep w2) RepA.nil))⟩
theorem arg_str {base : Nat} {v : Value} (hv : Value.okWide Try.prog W .any base 9 v) (h : DataW.Trod enc Try.prog W 0 (fun _ => true) true 9 v d p) : ∃ x : By, v = .string (baOf x) := by
  obtain ⟨s, rfl, _, _, _⟩ := open_string Try.underlying9 hv h
  exact ⟨s.data.toList, by rw [ba_of]⟩
end
end Go.Proofs.Ytbnmkdlmalobaaa
end

section
namespace Go.Proofs.Ytbnmkdlmalobaaa
open Go.RowKit
set_option linter.unusedVariables false
set_option maxRecDepth 100000

def kp_kinds_Size : List Nat := []
theorem sh_kinds_Size (n : Nat) (x0 : D) (h : Heap) : textK Try.prog T08 kp_kinds_Size n Try.f22 [x0] h =
(thn (binK .int .geq x0 (iD 2)) fun y0 =>
condK y0
(thn (binK .int .leq x0 (iD 9)) fun y1 =>
condK y1
(thn (binK .int .sub x0 (iD 1)) fun y2 =>
some (y2, h))
(some ((iD 0), h)))
(some ((iD 0), h))) := by kernel_rfl

def kp_offshootref09_Size : List Nat := []
theorem sh_offshootref09_Size (n : Nat) (x0 : D) (h : Heap) : textK Try.prog T08 kp_offshootref09_Size n Try.f23 [x0] h =
(thn (binK .int .lss x0 (iD 2)) fun y0 =>
condK y0
(some ((iD 0), h))
(thn (binK .int .gtr x0 (iD 9)) fun y1 =>
condK y1
(some ((iD 0), h))
(thn (binK .int .sub x0 (iD 1)) fun y2 =>
some (y2, h)))) := by kernel_rfl

def kp_offshootref09_typed : List Nat := []
theorem sh_offshootref09_typed (n : Nat) (x0 x1 : D) (h : Heap) : textK Try.prog T08 kp_offshootref09_typed n Try.f47 [x0, x1] h =
(thnH (boxH 25 x0 h) fun y0 h1 =>
thn (binK .int .lss x1 (iD 0)) fun y2 =>
condK y2
(some ((iD (-1)), h1))
(thn (fieldAtH 1 y0) fun y3 =>
thn (loadH none h1 y3) fun y4 =>
thn (lenH .sl y4) fun y5 =>
thn (binK .int .geq x1 y5) fun y6 =>
condK y6
(some ((iD (-1)), h1))
(thn (fieldAtH 1 y0) fun y7 =>
thn (loadH none h1 y7) fun y8 =>
thn (idxH 1 y8 x1) fun y9 =>
thn (loadH none h1 y9) fun y10 =>
some (y10, h1)))) := by kernel_rfl

def kp_offshootref09_kind : List Nat := []
theorem sh_offshootref09_kind (n : Nat) (x0 x1 : D) (h : Heap) : textK Try.prog T08 kp_offshootref09_kind n Try.f48 [x0, x1] h =
(condK x0
(some (x1, h))
(some ((iD (-1)), h))) := by kernel_rfl

def kp_offshootref09_Same : List Nat := []
theorem sh_offshootref09_Same (n : Nat) (x0 x1 : D) (h : Heap) : textK Try.prog T08 kp_offshootref09_Same n Try.f17 [x0, x1] h =
(thnH (boxH 25 x0 h) fun y0 h1 =>
thnH (boxH 25 x1 h1) fun y2 h3 =>
thn (fieldAtH 1 y0) fun y4 =>
thn (loadH none h3 y4) fun y5 =>
thn (fieldAtH 1 y2) fun y6 =>
thn (loadH none h3 y6) fun y7 =>
thnH (liftF F_RefInts [y5, y7] h3) fun y8 h9 =>
thn (fieldAtH 2 y0) fun y10 =>
thn (loadH none h9 y10) fun y11 =>
thn (fieldAtH 2 y2) fun y12 =>
thn (loadH none h9 y12) fun y13 =>
thnH (liftF F_RefSame [y11, y13] h9) fun y14 h15 =>
condK y8
(condK y14
(thn (fieldAtH 0 y0) fun y16 =>
thn (loadH none h15 y16) fun y17 =>
thn (fieldAtH 0 y2) fun y18 =>
thn (loadH none h15 y18) fun y19 =>
thn (binK .int .eql y17 y19) fun y20 =>
some (y20, h15))
(some ((bD false), h15)))
(some ((bD false), h15))) := by kernel_rfl

def kp_offshootref09_Few : List Nat := []
theorem sh_offshootref09_Few (n : Nat) (x0 : D) (h : Heap) : textK Try.prog T08 kp_offshootref09_Few n Try.f16 [x0] h =
(thnH (boxH 25 x0 h) fun y0 h1 =>
thn (fieldAtH 2 y0) fun y2 =>
thn (loadH none h1 y2) fun y3 =>
thn (lenH .sl y3) fun y4 =>
thn (binK .int .leq y4 (iD 60)) fun y5 =>
condK y5
(thn (fieldAtH 1 y0) fun y6 =>
thn (loadH none h1 y6) fun y7 =>
thn (lenH .sl y7) fun y8 =>
thn (binK .int .leq y8 (iD 20)) fun y9 =>
some (y9, h1))
(some ((bD false), h1))) := by kernel_rfl

def kp_slices_Equal___int_int_ : List Nat := [0, 1, 4, 5, 12, 13]
theorem sh_slices_Equal___int_int_ (n : Nat) (x0 x1 : D) (h : Heap) : textK Try.prog T08 kp_slices_Equal___int_int_ n Try.f41 [x0, x1] h =
(thn (lenH .sl x0) fun y0 =>
thn (lenH .sl x1) fun y1 =>
thn (binK .int .neq y0 y1) fun y2 =>
condK y2
(some ((bD false), h))
(thn (lenH .sl x0) fun y3 =>
leaveK (loopF Try.prog T08 kp_slices_Equal___int_int_ n Try.f41 0 [x0, x1, (bD false), .undef, y3, (iD 0)] h) (fun j4 s5 h6 =>
condN j4 0
(some ((bD true), h6))
(none)) (fun s5 h6 =>
some ((s5.getD 2 .undef), h6)))) := by kernel_rfl

theorem st_slices_Equal___int_int__0 (n : Nat) (s0 s1 s2 s3 s4 s5 : D) (h : Heap) : stepF Try.prog T08 kp_slices_Equal___int_int_ n Try.f41 0 [s0, s1, s2, s3, s4, s5] h =
(thn (binK .int .lss s5 s4) fun y0 =>
condK y0
(thn (idxH 1 s0 s5) fun y1 =>
thn (loadH none h y1) fun y2 =>
thn (idxH 1 s1 s5) fun y3 =>
thn (loadH none h y3) fun y4 =>
thn (binK .int .neq y2 y4) fun y5 =>
condK y5
(some (.ret, [s0, s1, (bD false), s5, s4, s5], h))
(thn (binK .int .add s5 (iD 1)) fun y6 =>
some (.normal, [s0, s1, s2, s5, s4, y6], h)))
(some ((.exit 0), [s0, s1, s2, s3, s4, s5], h))) := by kernel_rfl

def kp_bits_Mul64 : List Nat := []
theorem sh_bits_Mul64 (n : Nat) (x0 x1 : D) (h : Heap) : textK Try.prog T08 kp_bits_Mul64 n Try.f107 [x0, x1] h =
(thn (binK .int .and x0 (.v (.int .u64 4294967295))) fun y0 =>
thn (binK .int .shr x0 (.v (.int .u64 32))) fun y1 =>
thn (binK .int .and x1 (.v (.int .u64 4294967295))) fun y2 =>
thn (binK .int .shr x1 (.v (.int .u64 32))) fun y3 =>
thn (binK .int .mul y0 y2) fun y4 =>
thn (binK .int .mul y1 y2) fun y5 =>
thn (binK .int .shr y4 (.v (.int .u64 32))) fun y6 =>
thn (binK .int .add y5 y6) fun y7 =>
thn (binK .int .and y7 (.v (.int .u64 4294967295))) fun y8 =>
thn (binK .int .shr y7 (.v (.int .u64 32))) fun y9 =>
thn (binK .int .mul y0 y3) fun y10 =>
thn (binK .int .add y8 y10) fun y11 =>
thn (binK .int .mul y1 y3) fun y12 =>
thn (binK .int .add y12 y9) fun y13 =>
thn (binK .int .shr y11 (.v (.int .u64 32))) fun y14 =>
thn (binK .int .add y13 y14) fun y15 =>
thn (binK .int .mul x0 x1) fun y16 =>
some (.tup [y15, y16], h)) := by kernel_rfl

def kp_offshootref09_blocks : List Nat := [0, 1, 2, 3, 6, 7]
theorem sh_offshootref09_blocks (n : Nat) (x0 x1 x2 : D) (h : Heap) : textK Try.prog T08 kp_offshootref09_blocks n Try.f50 [x0, x1, x2] h =
(thnH (boxH 25 x0 h) fun y0 h1 =>
leaveK (loopF Try.prog T08 kp_offshootref09_blocks n Try.f50 0 [x0, x1, x2, y0, (bD false), x2] h1) (fun j2 s3 h4 =>
condN j2 0
(some ((bD true), h4))
(none)) (fun s3 h4 =>
some ((s3.getD 4 .undef), h4))) := by kernel_rfl

theorem st_offshootref09_blocks_0 (n : Nat) (s0 s1 s2 s3 s4 s5 : D) (h : Heap) : stepF Try.prog T08 kp_offshootref09_blocks n Try.f50 0 [s0, s1, s2, s3, s4, s5] h =
(thn (lenH .sl s1) fun y0 =>
thn (binK .int .lss s5 y0) fun y1 =>
condK y1
(thn (fieldAtH 2 s3) fun y2 =>
thn (loadH none h y2) fun y3 =>
thn (idxH 1 s1 s5) fun y4 =>
thn (loadH none h y4) fun y5 =>
thn (idxH 2 y3 y5) fun y6 =>
thn (fieldAtH 0 y6) fun y7 =>
thn (loadH none h y7) fun y8 =>
thn (binK .int .neq y8 (iD 20)) fun y9 =>
condK y9
(some (.ret, [s0, s1, s2, s3, (bD false), s5], h))
(thn (binK .int .add s5 (iD 1)) fun y10 =>
some (.normal, [s0, s1, s2, s3, s4, y10], h)))
(some ((.exit 0), [s0, s1, s2, s3, s4, s5], h))) := by kernel_rfl

end Go.Proofs.Ytbnmkdlmalobaaa
end

section
namespace Go.Proofs.Ytbnmkdlmalobaaa
open Go.RowKit
set_option linter.unusedVariables false
set_option linter.unusedSimpArgs false

theorem mixed : Try.prog.follows .mixedOrders = true := by kernel_rfl

/-- How many numbers an array has. -/
def sizeV (t : Int) : Int := if 2 ≤ t ∧ t ≤ 9 then t - 1 else 0
def F_Size : List D → Option D := F1 intT fun t => some (iD (sizeV t))
theorem C_Size : CallOk Try.prog 22 F_Size := call1 (kp := kp_kinds_Size) T08_ok mixed Try.func22 (by kernel_rfl) (by decide) fun t d h => by
  cases h
  refine ⟨0, _, ?_, Imp.refl _⟩
  show outD (textK _ _ _ _ _ [iD t] []) = _
  rw [sh_kinds_Size]
  unfold sizeV
  by_cases h1 : 2 ≤ t <;> by_cases h2 : t ≤ 9 <;> simp (disch := omega) [h1, h2, intD_sub]
theorem C_RefSize : CallOk Try.prog 23 F_Size := call1 (kp := kp_offshootref09_Size) T08_ok mixed Try.func23 (by kernel_rfl) (by decide) fun t d h => by
  cases h
  refine ⟨0, _, ?_, Imp.refl _⟩
  show outD (textK _ _ _ _ _ [iD t] []) = _
  rw [sh_offshootref09_Size]
  unfold sizeV
  by_cases h1 : t < 2
  · simp [h1, Int.not_le.2 h1]
  · by_cases h2 : 9 < t
    · simp [h1, h2, Int.not_le.2 h2]
    · simp (disch := omega) [h1, h2, intD_sub, Int.not_lt.1 h1, Int.not_lt.1 h2]

/-- A variable's type; -1: there is none. -/
def typedV (vs : List Int) (v : Int) : Int := if v < 0 then -1 else vs.getD v.toNat (-1)
def F_typed : List D → Option D := F2 progT intT fun p v => some (iD (typedV p.vars v))
theorem C_typed : CallOk Try.prog 47 F_typed := call2 (kp := kp_offshootref09_typed) T08_ok mixed Try.func47 (by kernel_rfl) (by decide) fun p v d h => by
  cases h
  refine ⟨0, _, ?_, Imp.refl _⟩
  show outD (textK _ _ _ _ _ [progD p, iD v] []) = _
  rw [sh_offshootref09_typed]
  unfold typedV
  by_cases h1 : v < 0
  · simp [h1]
  · by_cases h2 : (p.vars.length : Int) ≤ v
    · have : p.vars[v.toNat]? = none := List.getElem?_eq_none (by omega)
      simp [h1, h2, this]
    · have h3 : v.toNat < p.vars.length := by omega
      simp [h1, h2, idx_ints _ _ (Int.not_lt.1 h1) h3, h3]

def F_kind : List D → Option D := F2 boolT intT fun b k => some (iD (if b then k else -1))
theorem C_kind : CallOk Try.prog 48 F_kind := call2 (kp := kp_offshootref09_kind) T08_ok mixed Try.func48 (by kernel_rfl) (by decide) fun b k d h => by
  cases h
  refine ⟨0, _, ?_, Imp.refl _⟩
  show outD (textK _ _ _ _ _ [bD b, iD k] []) = _
  rw [sh_offshootref09_kind]
  cases b <;> simp

theorem refInts_pure (a b : List Int) (H : Heap) (ha : a.length ≤ 3000000) (hb : b.length ≤ 3000000) : liftF F_RefInts [intsD a, intsD b] H = some (bD (decide (a = b)), H) := by
  rw [liftF_pure _ _ _ rfl]; simp [F_RefInts, ha, hb]
theorem refSame_pure (a b : List Nd) (H : Heap) (ha : a.length ≤ 3000000) (hb : b.length ≤ 3000000) : liftF F_RefSame [nodesD a, nodesD b] H = some (bD (decide (a = b)), H) := by
  rw [liftF_pure _ _ _ rfl]; simp [F_RefSame, ha, hb]
theorem equalNodes_pure (a b : List Nd) (H : Heap) (ha : a.length ≤ 3000000) (hb : b.length ≤ 3000000) : liftF F_EqualNodes [nodesD a, nodesD b] H = some (bD (decide (a = b)), H) := by
  rw [liftF_pure _ _ _ rfl]; simp [F_EqualNodes, ha, hb]

/-- A program's lists are no longer than any bound that matters. -/
abbrev Pg.fits (p : Pg) : Prop := p.vars.length ≤ 3000000 ∧ p.body.length ≤ 3000000
theorem pg_eq (p q : Pg) : p = q ↔ p.params = q.params ∧ p.vars = q.vars ∧ p.body = q.body := by
  obtain ⟨a, b, c⟩ := p
  obtain ⟨d, e, f⟩ := q
  simp
def F_Same9 : List D → Option D := F2 progT progT fun p q => if p.fits ∧ q.fits then some (bD (decide (p = q))) else none
theorem C_RefSame9 : CallOk Try.prog 17 F_Same9 := call2 (kp := kp_offshootref09_Same) T08_ok mixed Try.func17 (by kernel_rfl) (by decide) fun p q d h => by
  split at h
  case isFalse => cases h
  rename_i hf
  cases h
  refine ⟨0, _, ?_, Imp.refl _⟩
  show outD (textK _ _ _ _ _ [progD p, progD q] []) = _
  rw [sh_offshootref09_Same]
  simp only [pg_eq p q]
  by_cases h1 : p.vars = q.vars <;> by_cases h2 : p.body = q.body <;> by_cases h3 : p.params = q.params <;> simp [refInts_pure, refSame_pure, hf.1.1, hf.1.2, hf.2.1, hf.2.2, h1, h2, h3]

def fewV (p : Pg) : Bool := decide (p.body.length ≤ 60) && decide (p.vars.length ≤ 20)
def F_Few : List D → Option D := F1 progT fun p => some (bD (fewV p))
theorem C_Few : CallOk Try.prog 16 F_Few := call1 (kp := kp_offshootref09_Few) T08_ok mixed Try.func16 (by kernel_rfl) (by decide) fun p d h => by
  cases h
  refine ⟨0, _, ?_, Imp.refl _⟩
  show outD (textK _ _ _ _ _ [progD p] []) = _
  rw [sh_offshootref09_Few]
  unfold fewV
  by_cases h1 : (p.body.length : Int) ≤ 60
  · have h1' : p.body.length ≤ 60 := by omega
    by_cases h2 : (p.vars.length : Int) ≤ 20
    · have h2' : p.vars.length ≤ 20 := by omega
      simp [h1, h2, h1', h2']
    · have h2' : ¬ p.vars.length ≤ 20 := by omega
      simp [h1, h2, h1', h2']
  · have h1' : ¬ p.body.length ≤ 60 := by omega
    simp [h1, h1']

/-- Two lists of ints, held against each other. -/
def F_EqualInts : List D → Option D := F2 intsT intsT fun a b => if a.length ≤ 3000000 ∧ b.length ≤ 3000000 then some (bD (decide (a = b))) else none
theorem C_EqualInts : CallOk Try.prog 41 F_EqualInts := call2 (kp := kp_slices_Equal___int_int_) T08_ok mixed Try.func41 (by kernel_rfl) (by decide) fun a b d h => by
  split at h
  case isFalse => cases h
  rename_i hf
  cases h
  refine ⟨a.length + 1, _, ?_, Imp.refl _⟩
  show outD (textK _ _ _ _ _ [intsD a, intsD b] []) = _
  rw [sh_slices_Equal___int_int_]
  by_cases hl : a.length = b.length
  case neg =>
    have h1 : ¬ ((a.length : Int) = b.length) := by omega
    have h2 : a ≠ b := fun e => hl (by rw [e])
    simp [h1, h2]
  -- the first place where they part
  have key : ∀ (m i : Nat) (s3 : D), i + m = a.length → a.take i = b.take i → ∀ n, m < n → ∃ s lv, (lv = .exit 0 ∧ a = b ∨ lv = .ret ∧ a ≠ b ∧ s.getD 2 .undef = bD false) ∧
      iterS (stepF Try.prog T08 kp_slices_Equal___int_int_ (a.length + 1) Try.f41 0) n [intsD a, intsD b, bD false, s3, iD a.length, iD i] [] = some (lv, s, []) := by
    intro m
    induction m with
    | zero =>
      intro i s3 hi ht n hn
      obtain ⟨n, rfl⟩ : ∃ m, n = m + 1 := ⟨n - 1, by omega⟩
      have hia : i = a.length := by omega
      refine ⟨_, .exit 0, .inl ⟨rfl, ?_⟩, iterS_exit (s' := [intsD a, intsD b, bD false, s3, iD a.length, iD i]) ?_⟩
      · rw [hia, List.take_length, hl, List.take_length] at ht; exact ht
      · rw [st_slices_Equal___int_int__0]
        simp [hia]
    | succ m ih =>
      intro i s3 hi ht n hn
      obtain ⟨n, rfl⟩ : ∃ m, n = m + 1 := ⟨n - 1, by omega⟩
      have hia : i < a.length := by omega
      have hib : i < b.length := by omega
      have h1 : (i : Int) < a.length := by omega
      by_cases he : a[i] = b[i]
      · rw [iterS_go (s' := [intsD a, intsD b, bD false, iD i, iD a.length, iD ((i + 1 : Nat) : Int)]) (H' := [])]
        · exact ih (i + 1) _ (by omega) (take_same ht hia hib he) n (by omega)
        · rw [st_slices_Equal___int_int__0]
          simp (disch := omega) [h1, idx_intsN _ _ hia, idx_intsN _ _ hib, he, intD_add]
      · refine ⟨[intsD a, intsD b, bD false, iD i, iD a.length, iD i], .ret, .inr ⟨rfl, fun e => he (by simp [e]), rfl⟩, iterS_ret ?_⟩
        rw [st_slices_Equal___int_int__0]
        simp (disch := omega) [h1, idx_intsN _ _ hia, idx_intsN _ _ hib, he]
  obtain ⟨s, lv, hs, hk⟩ := key a.length 0 .undef (by omega) rfl (a.length + 1) (by omega)
  have hk' : loopF Try.prog T08 kp_slices_Equal___int_int_ (a.length + 1) Try.f41 0 [intsD a, intsD b, bD false, .undef, iD a.length, iD 0] [] = some (lv, s, []) := hk
  have h1 : ((a.length : Int) = b.length) := by omega
  rcases hs with ⟨rfl, he⟩ | ⟨rfl, he, hg⟩
  · simp only [lenH_ints, thn_some, hk', leaveK_exit]
    simp [h1, he]
  · simp only [lenH_ints, thn_some, hk', leaveK_ret, hg]
    simp [h1, he]
end Go.Proofs.Ytbnmkdlmalobaaa
end

section
namespace Go.Proofs.Ytbnmkdlmalobaaa
open Go.RowKit
set_option linter.unusedVariables false
set_option linter.unusedSimpArgs false

/-- The product of one and a number. -/
def F_Mul : List D → Option D
  | [.v (.int .u64 1), .v (.int .u64 k)] => if 0 ≤ k ∧ k < 4294967296 then some (.tup [.v (.int .u64 0), .v (.int .u64 k)]) else none
  | _ => none
theorem u64_wrap (k : Int) (h0 : 0 ≤ k) (h : k < 18446744073709551616) : IntKind.u64.wrap k = k := by
  unfold IntKind.wrap
  simp [IntKind.signed, IntKind.bits]
  omega
theorem and_low (k : Int) (h0 : 0 ≤ k) (h : k < 4294967296) : intD .and .u64 k 4294967295 = some (.v (.int .u64 k)) := by
  obtain ⟨m, rfl⟩ := Int.eq_ofNat_of_zero_le h0
  have hm : m < 4294967296 := by omega
  have : (BitVec.ofInt IntKind.u64.bits (m : Int) &&& BitVec.ofInt IntKind.u64.bits 4294967295).toNat = m := by
    rw [BitVec.toNat_and]
    have h1 : (BitVec.ofInt IntKind.u64.bits (m : Int)).toNat = m := by
      simp [IntKind.bits]; omega
    have h2 : (BitVec.ofInt IntKind.u64.bits 4294967295).toNat = 2 ^ 32 - 1 := by rfl
    rw [h1, h2, Nat.and_two_pow_sub_one_eq_mod]
    omega
  simp only [intD, this]
  rw [u64_wrap _ (by omega) (by omega)]
theorem shr_low (k : Int) (h0 : 0 ≤ k) (h : k < 4294967296) : binK .int .shr (.v (.int .u64 k)) (.v (.int .u64 32)) = some (.v (.int .u64 0)) := by
  have : k.fdiv 4294967296 = 0 := by
    rw [Int.fdiv_eq_ediv_of_nonneg _ (by omega)]
    exact Int.ediv_eq_zero_of_lt h0 h
  simp [binK, shiftD, IntKind.bits, this]
theorem C_Mul64 : CallOk Try.prog 107 F_Mul := by
  refine call_text (kp := kp_bits_Mul64) T08_ok mixed Try.func107 (by kernel_rfl) (by decide) fun ds d h => ⟨0, ?_⟩
  unfold F_Mul at h
  split at h
  case h_2 => cases h
  rename_i k
  split at h
  case isFalse => cases h
  rename_i hk
  cases h
  rw [sh_bits_Mul64]
  have e1 := and_low 1 (by omega) (by omega)
  have e2 := shr_low 1 (by omega) (by omega)
  have e3 := and_low k hk.1 hk.2
  have e4 := shr_low k hk.1 hk.2
  have e5 := and_low 0 (by omega) (by omega)
  have e6 := shr_low 0 (by omega) (by omega)
  have e7 : intD .mul .u64 1 k = some (.v (.int .u64 k)) := by simp only [intD, Int.one_mul]; rw [u64_wrap _ hk.1 (by omega)]
  have e8 : intD .mul .u64 0 k = some (.v (.int .u64 0)) := by simp only [intD, Int.zero_mul]; rfl
  have e9 : intD .add .u64 0 0 = some (.v (.int .u64 0)) := rfl
  have e10 : intD .mul .u64 1 0 = some (.v (.int .u64 0)) := rfl
  have e11 : intD .mul .u64 0 0 = some (.v (.int .u64 0)) := rfl
  simp [e1, e2, e3, e4, e5, e6, e7, e8, e9, e10, e11]

def blkV (l : List Nd) (ks : List Int) (from_ : Nat) : Bool := (ks.drop from_).all fun k => decide ((l.getD k.toNat (0, 0)).1 = 20)
/-- Are kids blocks, from one on? -/
def F_blocks : List D → Option D := F3 progT intsT intT fun p ks i => if 0 ≤ i ∧ ks.length ≤ 3000000 ∧ (∀ k ∈ ks, 0 ≤ k ∧ k.toNat < p.body.length) then some (bD (blkV p.body ks i.toNat)) else none
theorem C_blocks : CallOk Try.prog 50 F_blocks := call3 (kp := kp_offshootref09_blocks) T08_ok mixed Try.func50 (by kernel_rfl) (by decide) fun p ks i d h => by
  split at h
  case isFalse => cases h
  rename_i hf
  obtain ⟨h0, hl, hk⟩ := hf
  cases h
  obtain ⟨i, rfl⟩ := Int.eq_ofNat_of_zero_le h0
  refine ⟨ks.length + 1, _, ?_, Imp.refl _⟩
  show outD (textK _ _ _ _ _ [progD p, intsD ks, iD i] []) = _
  rw [sh_offshootref09_blocks]
  have key : ∀ (m j : Nat), j + m = max ks.length j → ∀ n, m < n → ∃ s lv, (lv = .exit 0 ∧ blkV p.body ks j = true ∨ lv = .ret ∧ blkV p.body ks j = false ∧ s.getD 4 .undef = bD false) ∧
      iterS (stepF Try.prog T08 kp_offshootref09_blocks (ks.length + 1) Try.f50 0) n [progD p, intsD ks, iD i, .hp 0 0, bD false, iD j] (pgH 25 p) = some (lv, s, pgH 25 p) := by
    intro m
    induction m with
    | zero =>
      intro j hj n hn
      obtain ⟨n, rfl⟩ : ∃ m, n = m + 1 := ⟨n - 1, by omega⟩
      have hjl : ks.length ≤ j := by omega
      refine ⟨_, .exit 0, .inl ⟨rfl, ?_⟩, iterS_exit (s' := [progD p, intsD ks, iD i, .hp 0 0, bD false, iD j]) ?_⟩
      · simp [blkV, List.drop_of_length_le hjl]
      · rw [st_offshootref09_blocks_0]
        have : ¬ (j : Int) < ks.length := by omega
        simp [this]
    | succ m ih =>
      intro j hj n hn
      obtain ⟨n, rfl⟩ : ∃ m, n = m + 1 := ⟨n - 1, by omega⟩
      have hjl : j < ks.length := by omega
      have h1 : (j : Int) < ks.length := by omega
      have e1 := intD_add (j : Int) 1 (by omega) (by omega)
      obtain ⟨k0, k1⟩ := hk ks[j] (List.getElem_mem hjl)
      have hblk : blkV p.body ks j = (decide ((p.body[ks[j].toNat]).1 = 20) && blkV p.body ks (j + 1)) := by
        simp only [blkV]
        rw [List.drop_eq_getElem_cons hjl, List.all_cons]
        congr 1
        simp [k1]
      by_cases he : (p.body[ks[j].toNat]).1 = 20
      · rw [iterS_go (s' := [progD p, intsD ks, iD i, .hp 0 0, bD false, iD ((j + 1 : Nat) : Int)]) (H' := pgH 25 p)]
        · obtain ⟨s, lv, q1, q2⟩ := ih (j + 1) (by omega) n (by omega)
          exact ⟨s, lv, by simpa [hblk, he] using q1, q2⟩
        · rw [st_offshootref09_blocks_0]
          simp [pgH, h1, idx_intsN _ _ hjl, idx_nodes _ _ k0 k1, he, e1]
      · refine ⟨_, .ret, .inr ⟨rfl, by simp [hblk, he], rfl⟩, iterS_ret (s' := [progD p, intsD ks, iD i, .hp 0 0, bD false, iD j]) ?_⟩
        rw [st_offshootref09_blocks_0]
        simp [pgH, h1, idx_intsN _ _ hjl, idx_nodes _ _ k0 k1, he]
  obtain ⟨s, lv, hs, hkk⟩ := key (max ks.length i - i) i (by omega) (ks.length + 1) (by omega)
  have hk' : loopF Try.prog T08 kp_offshootref09_blocks (ks.length + 1) Try.f50 0 [progD p, intsD ks, iD i, .hp 0 0, bD false, iD i] (pgH 25 p) = some (lv, s, pgH 25 p) := hkk
  simp only [box_prog, List.length_nil, List.nil_append, thnH_some]
  unfold pgH at hk'
  rw [hk']
  rcases hs with ⟨rfl, he⟩ | ⟨rfl, he, hg⟩
  · simp [he]
  · simp only [leaveK_ret, hg]
    simp [he]

/-- A rule: kids of kinds, and the own one; one that asks a variable that is no array; one that asks an array; none. -/
inductive RuleT where
  | plain (ks : List Int) (is : Int)
  | array (ks : List Int) (is : Int)
  | scalar (set : Bool)
  | none
  deriving DecidableEq, Inhabited
def RuleT.enc : RuleT → D
  | .plain ks is => .ifc 91 (.agg [intsD ks, iD is])
  | .array ks is => .ifc 95 (.agg [intsD ks, iD is])
  | .scalar b => .ifc 93 (.agg [bD b])
  | .none => .v .nilIface
def RuleT.dec : D → Option RuleT
  | .ifc t (.agg [ks, .v (.int .i64 is)]) => if t = 91 then (asInts ks).map (RuleT.plain · is) else if t = 95 then (asInts ks).map (RuleT.array · is) else Option.none
  | .ifc t (.agg [.v (.bool b)]) => if t = 93 then some (.scalar b) else Option.none
  | .v .nilIface => some .none
  | _ => Option.none
def ruleT : Dec RuleT := ⟨RuleT.enc, RuleT.dec, fun r => by cases r <;> simp [RuleT.enc, RuleT.dec], fun d r h => by
  unfold RuleT.dec at h
  split at h
  · split at h
    · rename_i he
      obtain ⟨ks, hk, rfl⟩ := Option.map_eq_some_iff.1 h
      subst he
      exact Imp.ifc (Imp.agg (.cons (imp_ints hk) (ImpL.refl _)))
    · split at h
      · rename_i he
        obtain ⟨ks, hk, rfl⟩ := Option.map_eq_some_iff.1 h
        subst he
        exact Imp.ifc (Imp.agg (.cons (imp_ints hk) (ImpL.refl _)))
      · cases h
  · split at h
    · rename_i he
      cases h
      subst he
      exact Imp.refl _
    · cases h
  · cases h; exact Imp.refl _
  · cases h⟩
def ruleKs : List Int := [1, 2, 3, 21, 4, 22, 5, 6, 18, 19, 23, 24, 25, 26, 7, 8, 9, 10, 11, 12, 13, 14, 15, 16, 17]
def ruleRs : List RuleT := [.plain [] 0, .plain [] 1, .scalar false, .scalar true, .array [0] 0, .array [0, 0] 2, .plain [0] 0, .plain [1] 1, .plain [1, 1] 1, .plain [1, 1] 1, .plain [1, 2, 2] 2, .plain [1, 2] 2, .plain [0] 2, .plain [] 2,
  .plain [0, 0] 0, .plain [0, 0] 0, .plain [0, 0] 0, .plain [0, 0] 0, .plain [0, 0] 0, .plain [0, 0] 1, .plain [0, 0] 1, .plain [0, 0] 1, .plain [0, 0] 1, .plain [0, 0] 1, .plain [0, 0] 1]
/-- The rules of all tags, as a map. -/
def rulesD : D := .mv ruleKs (ruleRs.map RuleT.enc)
def isRules : D → Option Unit
  | .mv ks vs => if ks = ruleKs ∧ vs.mapM RuleT.dec = some ruleRs then some () else Option.none
  | _ => Option.none
theorem imp_rules {d : D} (h : isRules d = some ()) : Imp d rulesD := by
  unfold isRules at h
  split at h
  · split at h
    · rename_i hc
      obtain ⟨rfl, h2⟩ := hc
      exact Imp.mv (impL_mapM ruleT _ _ h2)
    · cases h
  · cases h
def F_rules : List D → Option D := F0 (some rulesD)
theorem rules_text : (outD (textK Try.prog T08 [0, 1, 2, 3] 20 Try.f43 [] [])).bind isRules = some () := by kernel_rfl
theorem C_rules : CallOk Try.prog 43 F_rules := call0 (kp := [0, 1, 2, 3]) T08_ok mixed Try.func43 (by kernel_rfl) (by decide) fun d h => by
  cases h
  obtain ⟨d', h1, h2⟩ := Option.bind_eq_some_iff.1 rules_text
  exact ⟨20, d', h1, imp_rules h2⟩

def fs09a : List Entry := (22, true, liftF F_Size) :: (23, true, liftF F_Size) :: (47, true, liftF F_typed) :: (48, true, liftF F_kind) :: (17, true, liftF F_Same9) :: (16, true, liftF F_Few) :: (41, true, liftF F_EqualInts) :: (107, true, liftF F_Mul) :: (50, true, liftF F_blocks) :: (43, true, liftF F_rules) :: fs08
theorem fs09a_ok : ∀ p ∈ fs09a, EntryOk Try.prog p :=
  entries_cons (entry_lift C_Size) (entries_cons (entry_lift C_RefSize) (entries_cons (entry_lift C_typed) (entries_cons (entry_lift C_kind) (entries_cons (entry_lift C_RefSame9) (entries_cons (entry_lift C_Few) (entries_cons (entry_lift C_EqualInts) (entries_cons (entry_lift C_Mul64) (entries_cons (entry_lift C_blocks) (entries_cons (entry_lift C_rules) fs08_ok)))))))))
def T09a : Tab := ⟨fs09a, noYl⟩
theorem T09a_ok : TabOk Try.prog T09a := tabOk_of fs09a_ok
end Go.Proofs.Ytbnmkdlmalobaaa
end

section
namespace Go.Proofs.Ytbnmkdlmalobaaa
open Go.RowKit
set_option linter.unusedVariables false
set_option maxRecDepth 100000

def kp_kinds_Vars : List Nat := [1, 2, 23, 24, 25]
theorem sh_kinds_Vars (n : Nat) (x0 : D) (h : Heap) : textK Try.prog T09a kp_kinds_Vars n Try.f20 [x0] h =
(thnH (boxH 25 x0 h) fun y0 h1 =>
thn (fieldAtH 0 y0) fun y2 =>
thn (loadH none h1 y2) fun y3 =>
thn (binK .int .lss y3 (iD 0)) fun y4 =>
condK y4
(some ((iD 14), h1))
(thn (fieldAtH 0 y0) fun y5 =>
thn (loadH none h1 y5) fun y6 =>
thn (fieldAtH 1 y0) fun y7 =>
thn (loadH none h1 y7) fun y8 =>
thn (lenH .sl y8) fun y9 =>
thn (binK .int .gtr y6 y9) fun y10 =>
condK y10
(some ((iD 14), h1))
(thn (fieldAtH 1 y0) fun y11 =>
thn (loadH none h1 y11) fun y12 =>
thn (lenH .sl y12) fun y13 =>
thn (binK .int .gtr y13 (iD 12)) fun y14 =>
condK y14
(some ((iD 14), h1))
(thn (fieldAtH 1 y0) fun y15 =>
thn (loadH none h1 y15) fun y16 =>
thn (lenH .sl y16) fun y17 =>
leaveK (loopF Try.prog T09a kp_kinds_Vars n Try.f20 0 [y0, (iD 0), y16, y17, (iD 0)] h1) (fun j18 s19 h20 =>
condN j18 0
(some ((iD 0), h20))
(none)) (fun s19 h20 =>
some ((s19.getD 1 .undef), h20)))))) := by kernel_rfl

theorem st_kinds_Vars_0 (n : Nat) (s0 s1 s2 s3 s4 : D) (h : Heap) : stepF Try.prog T09a kp_kinds_Vars n Try.f20 0 [s0, s1, s2, s3, s4] h =
(thn (binK .int .lss s4 s3) fun y0 =>
condK y0
(thn (idxH 1 s2 s4) fun y1 =>
thn (loadH none h y1) fun y2 =>
thn (binK .int .neq y2 (iD 0)) fun y3 =>
condK y3
(thn (fieldAtH 0 s0) fun y4 =>
thn (loadH none h y4) fun y5 =>
thn (binK .int .lss s4 y5) fun y6 =>
condK y6
(some (.ret, [s0, (iD 14), s2, s3, s4], h))
(thn (binK .int .neq y2 (iD 1)) fun y7 =>
condK y7
(thnH (liftF F_Size [y2] h) fun y8 h9 =>
thn (binK .int .eql y8 (iD 0)) fun y10 =>
condK y10
(some (.ret, [s0, (iD 14), s2, s3, s4], h9))
(thn (binK .int .add s4 (iD 1)) fun y11 =>
some (.normal, [s0, s1, s2, s3, y11], h9)))
(thn (binK .int .add s4 (iD 1)) fun y12 =>
some (.normal, [s0, s1, s2, s3, y12], h))))
(thn (binK .int .add s4 (iD 1)) fun y13 =>
some (.normal, [s0, s1, s2, s3, y13], h)))
(some ((.exit 0), [s0, s1, s2, s3, s4], h))) := by kernel_rfl

def kp_offshootref09_Vars : List Nat := [1, 2, 3]
theorem sh_offshootref09_Vars (n : Nat) (x0 : D) (h : Heap) : textK Try.prog T09a kp_offshootref09_Vars n Try.f21 [x0] h =
(thnH (boxH 25 x0 h) fun y0 h1 =>
thn (fieldAtH 0 y0) fun y2 =>
thn (loadH none h1 y2) fun y3 =>
thn (binK .int .lss y3 (iD 0)) fun y4 =>
condK y4
(some ((iD 14), h1))
(thn (fieldAtH 0 y0) fun y5 =>
thn (loadH none h1 y5) fun y6 =>
thn (fieldAtH 1 y0) fun y7 =>
thn (loadH none h1 y7) fun y8 =>
thn (lenH .sl y8) fun y9 =>
thn (binK .int .gtr y6 y9) fun y10 =>
condK y10
(some ((iD 14), h1))
(thn (fieldAtH 1 y0) fun y11 =>
thn (loadH none h1 y11) fun y12 =>
thn (lenH .sl y12) fun y13 =>
thn (binK .int .gtr y13 (iD 12)) fun y14 =>
condK y14
(some ((iD 14), h1))
(leaveK (loopF Try.prog T09a kp_offshootref09_Vars n Try.f21 0 [y0, (iD 0), (iD 0)] h1) (fun j15 s16 h17 =>
condN j15 0
(some ((iD 0), h17))
(none)) (fun s16 h17 =>
some ((s16.getD 1 .undef), h17)))))) := by kernel_rfl

theorem st_offshootref09_Vars_0 (n : Nat) (s0 s1 s2 : D) (h : Heap) : stepF Try.prog T09a kp_offshootref09_Vars n Try.f21 0 [s0, s1, s2] h =
(thn (fieldAtH 1 s0) fun y0 =>
thn (loadH none h y0) fun y1 =>
thn (lenH .sl y1) fun y2 =>
thn (binK .int .lss s2 y2) fun y3 =>
condK y3
(thn (fieldAtH 1 s0) fun y4 =>
thn (loadH none h y4) fun y5 =>
thn (idxH 1 y5 s2) fun y6 =>
thn (loadH none h y6) fun y7 =>
thn (binK .int .lss y7 (iD 0)) fun y8 =>
condK y8
(some (.ret, [s0, (iD 14), s2], h))
(thn (fieldAtH 1 s0) fun y9 =>
thn (loadH none h y9) fun y10 =>
thn (idxH 1 y10 s2) fun y11 =>
thn (loadH none h y11) fun y12 =>
thn (binK .int .gtr y12 (iD 9)) fun y13 =>
condK y13
(some (.ret, [s0, (iD 14), s2], h))
(thn (fieldAtH 0 s0) fun y14 =>
thn (loadH none h y14) fun y15 =>
thn (binK .int .lss s2 y15) fun y16 =>
condK y16
(thn (fieldAtH 1 s0) fun y17 =>
thn (loadH none h y17) fun y18 =>
thn (idxH 1 y18 s2) fun y19 =>
thn (loadH none h y19) fun y20 =>
thn (binK .int .neq y20 (iD 0)) fun y21 =>
condK y21
(some (.ret, [s0, (iD 14), s2], h))
(thn (binK .int .add s2 (iD 1)) fun y22 =>
some (.normal, [s0, s1, y22], h)))
(thn (binK .int .add s2 (iD 1)) fun y23 =>
some (.normal, [s0, s1, y23], h)))))
(some ((.exit 0), [s0, s1, s2], h))) := by kernel_rfl

def kp_kinds_Same : List Nat := []
theorem sh_kinds_Same (n : Nat) (x0 x1 : D) (h : Heap) : textK Try.prog T09a kp_kinds_Same n Try.f24 [x0, x1] h =
(thnH (boxH 25 x0 h) fun y0 h1 =>
thnH (boxH 25 x1 h1) fun y2 h3 =>
thn (fieldAtH 0 y0) fun y4 =>
thn (loadH none h3 y4) fun y5 =>
thn (fieldAtH 0 y2) fun y6 =>
thn (loadH none h3 y6) fun y7 =>
thn (binK .int .eql y5 y7) fun y8 =>
condK y8
(thn (fieldAtH 1 y0) fun y9 =>
thn (loadH none h3 y9) fun y10 =>
thn (fieldAtH 1 y2) fun y11 =>
thn (loadH none h3 y11) fun y12 =>
thnH (liftF F_EqualInts [y10, y12] h3) fun y13 h14 =>
condK y13
(thn (fieldAtH 2 y0) fun y15 =>
thn (loadH none h14 y15) fun y16 =>
thn (fieldAtH 2 y2) fun y17 =>
thn (loadH none h14 y17) fun y18 =>
thnH (liftF F_EqualNodes [y16, y18] h14) fun y19 h20 =>
some (y19, h20))
(some ((bD false), h14)))
(some ((bD false), h3))) := by kernel_rfl

def kp_bits_Mul : List Nat := []
theorem sh_bits_Mul (n : Nat) (x0 x1 : D) (h : Heap) : textK Try.prog T09a kp_bits_Mul n Try.f100 [x0, x1] h =
(thnH (liftF F_Mul [x0, x1] h) fun y0 h1 =>
thn (extractD y0 0) fun y2 =>
thn (extractD y0 1) fun y3 =>
some (.tup [y2, y3], h1)) := by kernel_rfl

def kp_kinds_plain__kind : List Nat := []
theorem sh_kinds_plain__kind (n : Nat) (x0 x1 x2 : D) (h : Heap) : textK Try.prog T09a kp_kinds_plain__kind n Try.f128 [x0, x1, x2] h =
(thnH (boxH 91 x0 h) fun y0 h1 =>
thnH (boxH 25 x1 h1) fun y2 h3 =>
thnH (boxH 39 x2 h3) fun y4 h5 =>
thn (fieldAtH 1 y0) fun y6 =>
thn (loadH none h5 y6) fun y7 =>
some (y7, h5)) := by kernel_rfl

def kp_kinds_scalar__kind : List Nat := []
theorem sh_kinds_scalar__kind (n : Nat) (x0 x1 x2 : D) (h : Heap) : textK Try.prog T09a kp_kinds_scalar__kind n Try.f129 [x0, x1, x2] h =
(thnH (boxH 93 x0 h) fun y0 h1 =>
thnH (boxH 25 x1 h1) fun y2 h3 =>
thnH (boxH 39 x2 h3) fun y4 h5 =>
thn (fieldAtH 1 y4) fun y6 =>
thn (loadH none h5 y6) fun y7 =>
thn (fieldAtH 1 y2) fun y8 =>
thn (loadH none h5 y8) fun y9 =>
thn (lenH .sl y9) fun y10 =>
thn (binK .int .geq y7 y10) fun y11 =>
condK y11
(some ((iD (-1)), h5))
(thn (fieldAtH 1 y2) fun y12 =>
thn (loadH none h5 y12) fun y13 =>
thn (fieldAtH 1 y4) fun y14 =>
thn (loadH none h5 y14) fun y15 =>
thn (idxH 1 y13 y15) fun y16 =>
thn (loadH none h5 y16) fun y17 =>
thn (binK .int .neq y17 (iD 0)) fun y18 =>
condK y18
(thn (fieldAtH 1 y2) fun y19 =>
thn (loadH none h5 y19) fun y20 =>
thn (fieldAtH 1 y4) fun y21 =>
thn (loadH none h5 y21) fun y22 =>
thn (idxH 1 y20 y22) fun y23 =>
thn (loadH none h5 y23) fun y24 =>
thn (binK .int .neq y24 (iD 1)) fun y25 =>
condK y25
(some ((iD (-1)), h5))
(thn (fieldAtH 0 y0) fun y26 =>
thn (loadH none h5 y26) fun y27 =>
condK y27
(some ((iD 2), h5))
(thn (fieldAtH 1 y2) fun y28 =>
thn (loadH none h5 y28) fun y29 =>
thn (fieldAtH 1 y4) fun y30 =>
thn (loadH none h5 y30) fun y31 =>
thn (idxH 1 y29 y31) fun y32 =>
thn (loadH none h5 y32) fun y33 =>
some (y33, h5))))
(thn (fieldAtH 0 y0) fun y34 =>
thn (loadH none h5 y34) fun y35 =>
condK y35
(some ((iD 2), h5))
(thn (fieldAtH 1 y2) fun y36 =>
thn (loadH none h5 y36) fun y37 =>
thn (fieldAtH 1 y4) fun y38 =>
thn (loadH none h5 y38) fun y39 =>
thn (idxH 1 y37 y39) fun y40 =>
thn (loadH none h5 y40) fun y41 =>
some (y41, h5))))) := by kernel_rfl

def kp_kinds_array__kind : List Nat := []
theorem sh_kinds_array__kind (n : Nat) (x0 x1 x2 : D) (h : Heap) : textK Try.prog T09a kp_kinds_array__kind n Try.f130 [x0, x1, x2] h =
(thnH (boxH 95 x0 h) fun y0 h1 =>
thnH (boxH 25 x1 h1) fun y2 h3 =>
thnH (boxH 39 x2 h3) fun y4 h5 =>
thn (fieldAtH 1 y4) fun y6 =>
thn (loadH none h5 y6) fun y7 =>
thn (fieldAtH 1 y2) fun y8 =>
thn (loadH none h5 y8) fun y9 =>
thn (lenH .sl y9) fun y10 =>
thn (binK .int .geq y7 y10) fun y11 =>
condK y11
(some ((iD (-1)), h5))
(thn (fieldAtH 1 y2) fun y12 =>
thn (loadH none h5 y12) fun y13 =>
thn (fieldAtH 1 y4) fun y14 =>
thn (loadH none h5 y14) fun y15 =>
thn (idxH 1 y13 y15) fun y16 =>
thn (loadH none h5 y16) fun y17 =>
thnH (liftF F_Size [y17] h5) fun y18 h19 =>
thn (binK .int .eql y18 (iD 0)) fun y20 =>
condK y20
(some ((iD (-1)), h19))
(thn (fieldAtH 0 y0) fun y21 =>
thn (fieldAtH 1 y21) fun y22 =>
thn (loadH none h19 y22) fun y23 =>
some (y23, h19)))) := by kernel_rfl

end Go.Proofs.Ytbnmkdlmalobaaa
end
