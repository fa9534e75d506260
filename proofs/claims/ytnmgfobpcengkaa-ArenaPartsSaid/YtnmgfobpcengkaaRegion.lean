/-
  A region that draws its order, by an invariant on which operations have been carried out: each operation is met once, whatever came before it.
-/
import Derived.OrdersIn
import Derived.WalkKit
import Derived.OwnWalkIn
namespace Go.Proofs.Ytnmgfobpcengkaa
open Go.RowKit

/-- Operation i has been carried out, too. -/
def upd (d : Nat → Bool) (i : Nat) : Nat → Bool := fun j => if j = i then true else d j
theorem upd_self (d : Nat → Bool) (i : Nat) : upd d i i = true := by simp [upd]
theorem upd_other (d : Nat → Bool) {i j : Nat} (h : j ≠ i) : upd d i j = d j := by simp [upd, h]

theorem upd_keep {d : Nat → Bool} {i j : Nat} {p : Prop} (hne : j ≠ i) (h : d j = true → p) : upd d i j = true → p := fun hu => h (by rwa [upd_other d hne] at hu)
theorem upd_keep2 {d : Nat → Bool} {i j k : Nat} {p : Prop} (hne : j ≠ i) (hk : k ≠ i) (h : d j = true → d k = false → p) : upd d i j = true → upd d i k = false → p := fun hu hv => h (by rwa [upd_other d hne] at hu) (by rwa [upd_other d hk] at hv)

section
variable {F : Fence} {n : Nat} {P : Program}

/-- Operation i, wherever it comes up: those that it waits for have been carried out; the invariant is carried on. -/
def StepOk (F : Fence) (n : Nat) (P : Program) (ops : Array Oper) (Q : Exit → Act → World → Prop) (Inv : (Nat → Bool) → Act → World → Prop) (i : Nat) (o : Oper) : Prop :=
  ∀ (d : Nat → Bool) (a : Act) (w : World) (K : Act → World → Prop), d i = false → (∀ e ∈ o.after, Region.binds .any e = true → d e.on = true) → Inv d a w → (∀ a' w', Inv (upd d i) a' w' → K a' w') →
    if Region.wanted o (yielded ops a.tmps) then o.wpIn F n P a w K Q else (∀ f, o.about P w a.eval = some f → F.fn f) ∧ K (a.put o.dst undef) w

def stepsOk (F : Fence) (n : Nat) (P : Program) (ops : Array Oper) (Q : Exit → Act → World → Prop) (Inv : (Nat → Bool) → Act → World → Prop) : List Oper → Nat → Prop
  | [], _ => True
  | o :: r, i => StepOk F n P ops Q Inv i o ∧ stepsOk F n P ops Q Inv r (i + 1)

theorem stepsOk_get {ops : Array Oper} {Q : Exit → Act → World → Prop} {Inv : (Nat → Bool) → Act → World → Prop} : ∀ (l : List Oper) (k : Nat), stepsOk F n P ops Q Inv l k → ∀ (j : Nat) (o : Oper), l[j]? = some o → StepOk F n P ops Q Inv (k + j) o
  | [], _, _, j, o, h => by simp at h
  | x :: r, k, hs, 0, o, h => by
    have h' : x = o := by simpa using h
    subst h'
    exact hs.1
  | x :: r, k, hs, j + 1, o, h => by
    have := stepsOk_get r (k + 1) hs.2 j o (by simpa using h)
    rwa [show k + (j + 1) = k + 1 + j from by omega]

theorem region_inv {id : Nat} {ops : Array Oper} {Q : Exit → Act → World → Prop} {a : Act} {w : World} (hm : P.follows .mixedOrders = true) (Inv : (Nat → Bool) → Act → World → Prop)
    (hac : (ops.toList.zipIdx.all fun x => x.1.after.all fun e => e.on < x.2) = true)
    (h0 : Inv (fun _ => false) a w.drew) (hstep : stepsOk F n P ops Q Inv ops.toList 0)
    (hend : ∀ d a w, (∀ i, i < ops.size → d i = true) → Inv d a w → Q .normal a w) : (Code.region id ops true).wpIn F n P Q a w := by
  refine wpIn_region_any hm ?_
  have key : ∀ (fuel : Nat) (listed : Array Bool) (d : Nat → Bool) (a : Act) (w : World), listed.size = ops.size → (∀ i, i < ops.size → listed.getD i false = d i) →
      ((List.range ops.size).filter fun i => !d i).length ≤ fuel → Inv d a w → wpAnyIn F n P .any ops Q fuel listed a w := by
    have hdone : ∀ (listed : Array Bool) (d : Nat → Bool), listed.size = ops.size → (∀ i, i < ops.size → listed.getD i false = d i) → Region.ready .any ops listed = [] → ∀ i, i < ops.size → d i = true := by
      intro listed d hsz hl hr i
      induction i using Nat.strongRecOn with
      | _ i ih =>
        intro hi
        cases hd : d i with
        | true => rfl
        | false =>
          exfalso
          have : i ∈ Region.ready .any ops listed := by
            refine mem_ready.2 ⟨?_, ops[i], Array.getElem?_eq_getElem hi, fun e he _ => ?_⟩
            · have := hl i hi
              rw [hd] at this
              rw [Array.getD_eq_getD_getElem?, Array.getElem?_eq_getElem (by omega)] at this ⊢
              simpa using this
            · have hx : e.on < i := by
                have h1 := List.all_eq_true.1 hac (ops[i], i) (by
                  rw [List.mem_zipIdx_iff_getElem?]
                  simp [hi])
                exact of_decide_eq_true (by simpa using (Array.all_eq_true_iff_forall_mem.1 h1) e he)
              rw [hl e.on (by omega)]
              exact ih e.on hx (by omega)
          rw [hr] at this
          cases this
    intro fuel
    induction fuel with
    | zero =>
      intro listed d a w hsz hl hf hi
      have hall : ∀ i, i < ops.size → d i = true := by
        intro i hi'
        have := List.length_eq_zero_iff.1 (Nat.le_zero.1 hf)
        cases hd : d i with
        | true => rfl
        | false =>
          have hm : i ∈ (List.range ops.size).filter fun i => !d i := by simp [hi', hd]
          rw [this] at hm; cases hm
      refine ⟨?_, hend d a w hall hi⟩
      apply List.eq_nil_iff_forall_not_mem.2
      intro i hmem
      obtain ⟨h1, o, ho, _⟩ := mem_ready.1 hmem
      have hlt : i < ops.size := (Array.getElem?_eq_some_iff.1 ho).1
      have h2 := hl i hlt
      rw [hall i hlt, Array.getD_eq_getD_getElem?, Array.getElem?_eq_getElem (by omega)] at h2
      rw [Array.getD_eq_getD_getElem?, Array.getElem?_eq_getElem (by omega)] at h1
      simp at h1 h2
      rw [h1] at h2; cases h2
    | succ fuel ih =>
      intro listed d a w hsz hl hf hi
      refine ⟨fun hr => hend d a w (hdone listed d hsz hl hr) hi, fun i hmem => ?_⟩
      obtain ⟨h1, o, ho, haft⟩ := mem_ready.1 hmem
      have hlt : i < ops.size := (Array.getElem?_eq_some_iff.1 ho).1
      have hdi : d i = false := by
        rw [← hl i hlt]
        rw [Array.getD_eq_getD_getElem?, Array.getElem?_eq_getElem (by omega)] at h1 ⊢
        simpa using h1
      have hso := stepsOk_get ops.toList 0 hstep i o (by simpa using ho)
      rw [Nat.zero_add] at hso
      unfold wpOpIn
      simp only [ho]
      refine hso d a w _ hdi (fun e he hb => ?_) hi (fun a' w' hi' => ih _ (upd d i) a' w' (by simpa using hsz) (fun j hj => ?_) ?_ hi')
      · have h3 := haft e he hb
        have hx : e.on < i := by
          have h1 := List.all_eq_true.1 hac (o, i) (by
            rw [List.mem_zipIdx_iff_getElem?]
            simpa using ho)
          exact of_decide_eq_true (by simpa using (Array.all_eq_true_iff_forall_mem.1 h1) e he)
        rw [← hl e.on (by omega)]; exact h3
      · by_cases hji : j = i
        · subst hji
          rw [upd_self, Array.getD_eq_getD_getElem?, Array.getElem?_setIfInBounds_self_of_lt (by omega)]; rfl
        · rw [upd_other d hji, getD_set_ne false (fun h => hji h.symm)]; exact hl j hj
      · have : ((List.range ops.size).filter fun j => !upd d i j).length < ((List.range ops.size).filter fun j => !d j).length := by
          have hsub : ((List.range ops.size).filter fun j => !upd d i j) = ((List.range ops.size).filter fun j => !d j).filter fun j => j != i := by
            rw [List.filter_filter]
            apply List.filter_congr
            intro j _
            by_cases hji : j = i
            · subst hji; simp [upd_self]
            · simp [upd_other d hji, hji]
          rw [hsub]
          refine List.length_filter_lt_length_iff_exists.2 ⟨i, by simp [hlt, hdi], by simp⟩
        omega
  exact key ops.size _ (fun _ => false) a _ (by simp) (fun i hi => by simp [Array.getD_eq_getD_getElem?, hi]) (by
    refine Nat.le_trans (List.length_filter_le _ _) (by simp)) h0
end
end Go.Proofs.Ytnmgfobpcengkaa
