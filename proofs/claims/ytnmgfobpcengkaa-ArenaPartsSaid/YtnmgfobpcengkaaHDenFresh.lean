/-
  Functions whose results are memory of their own: they may be called over objects. Nothing here names the program.
-/
import Derived.Test.YtnmgfobpcengkaaHDenSimp
namespace Go.Proofs.Ytnmgfobpcengkaa
open Go.RowKit
set_option linter.unusedVariables false
set_option linter.unusedSimpArgs false

/-- A function gives what is said, by value, in memory that it has made. -/
structure CallNew (P : Program) (f : FuncId) (F : List D → Option D) : Prop where
  body : ∃ fn, P.funcs[f]? = some fn ∧ fn.name ≠ "runtime.NumGoroutine" ∧ fn.body.isSome = true
  calls : ∀ ds d, F ds = some d → ∀ (S : Nat → Prop) (vs : List Value) (w : World), (∀ k, S k → k < w.heap.size) → RepA S [] w vs ds →
    Calls P f vs.toArray w fun e w' => ∃ v, e = .returned v ∧ Rep (fun k => w.heap.size ≤ k ∧ k < w'.heap.size) [] w' v d ∧ Below w.heap.size w w'
def liftN (F : List D → Option D) (ds : List D) (H : Heap) : Option (D × Heap) :=
  match pureL ds with
  | true => (F ds).map fun d => (d, H)
  | false => (ds.mapM (derefN H 9)).bind fun ds' => (F ds').map fun d => (d, H)
theorem new_ok {P : Program} {f : FuncId} {F : List D → Option D} (h : CallNew P f F) : HCallOk P f (liftN F) := by
  refine ⟨h.body, fun ds H d H' hG B S L vs w hr hv => ?_⟩
  have fin : ∀ (S0 : Nat → Prop) (ds' : List D), (∀ k, S0 k → k < w.heap.size) → RepA S0 [] w vs ds' → (F ds').map (fun d => (d, H)) = some (d, H') → Calls P f vs.toArray w fun e w' => ∃ v S' L', e = .returned v ∧ Rep S' L' w' v d ∧ HRel B S' L' w' H' ∧ Later B S S' L L' w w' := by
    intro S0 ds' h0 hv' hF
    obtain ⟨d', hF', e⟩ := Option.map_eq_some_iff.1 hF
    cases e
    refine (h.calls ds' _ hF' S0 vs w h0 hv').mono ?_
    rintro e w' ⟨v, rfl, h1, h2⟩
    obtain ⟨h3, h4⟩ := hr.call h2
    exact ⟨v, _, L, rfl, Rep.kept (Kept.refl _ w') (fun k hk => .inr hk) (fun i p hi => by simp at hi) _ _ h1, h3, h4⟩
  unfold liftN at hG
  split at hG
  · rename_i hp
    exact fin S ds hr.small (pure_repL ds vs hp hv) hG
  · obtain ⟨ds', hds, hG⟩ := Option.bind_eq_some_iff.1 hG
    exact fin _ ds' (fun k hk => hk) (repA_mapM (fun d d' x h1 h2 => deref_ok hr 9 d d' x h1 h2) ds ds' vs hds hv) hG
theorem new_calm (F : List D → Option D) : CalmOk (liftN F) := by
  intro ds H d H' h
  unfold liftN at h ⊢
  split at h
  · obtain ⟨d', hF, e⟩ := Option.map_eq_some_iff.1 h
    cases e
    refine ⟨rfl, fun t => ?_⟩
    rename_i hp
    simp only [hF]
    rfl
  · obtain ⟨ds', hds, h⟩ := Option.bind_eq_some_iff.1 h
    obtain ⟨d', hF, e⟩ := Option.map_eq_some_iff.1 h
    cases e
    refine ⟨rfl, fun t => ?_⟩
    rw [mapM_mono (deref_mono H t 9) ds ds' hds]
    simp only [Option.bind_some, hF]
    rfl
theorem entry_new {P : Program} {f : FuncId} {F : List D → Option D} (h : CallNew P f F) : EntryOk P (f, true, liftN F) := ⟨new_ok h, fun _ => new_calm F⟩
theorem liftN_pure (F : List D → Option D) (ds : List D) (H : Heap) (h : pureL ds = true) : liftN F ds H = (F ds).map fun d => (d, H) := by unfold liftN; rw [h]
theorem liftN_obj (F : List D → Option D) (ds ds' : List D) (H : Heap) (h : pureL ds = false) (hd : ds.mapM (derefN H 9) = some ds') : liftN F ds H = (F ds').map fun d => (d, H) := by unfold liftN; rw [h]; simp only [hd]; rfl
end Go.Proofs.Ytnmgfobpcengkaa
