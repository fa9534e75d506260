/-
  Parts joined into one text: Sites, CatMore, Law13, Law13b, Walk13. No condition.
-/
import Derived.Test.YtalehbmgbjiigaaFn
import Derived.Test.YtalehbmgbjiigaaFt
import Derived.Test.YtalehbmgbjiigaaFv

section
namespace Go.Proofs.Ytalehbmgbjiigaa
open Go.RowKit
set_option linter.unusedVariables false
set_option linter.unusedSimpArgs false

theorem cmpDl_same {a b : Dl} (h : a.path = b.path) (hl : lexR (a.op, a.n) (b.op, b.n)) : cmpDl a b < 0 := by
  unfold cmpDl
  rw [if_neg (by simpa using (cmpL_zero _ _).2 h)]
  unfold lexR at hl
  rcases hl with hl | hl
  · have := (cmpI_lt a.op b.op).2 hl
    rw [if_pos (by omega)]
    exact this
  · simp only at hl
    rw [if_neg (by simpa using (cmpI_zero _ _).2 hl.1)]
    exact (cmpI_lt _ _).2 hl.2

/-- The mutants at a node. -/
def siteV (l : List Nd) (k : Int) : List Dl := (choicesV l k).map fun e => ⟨(ofv l k).getD [], e.1, e.2⟩
/-- All mutants of a program. -/
def sitesV (l : List Nd) : List Dl := (List.range l.length).flatMap fun k : Nat => siteV l k
section whole
variable {l : List Nd} (hl : endv l 0 = l.length)
include hl
theorem mem_siteV (k : Int) (d : Dl) : d ∈ siteV l k ↔ ofv l k = some d.path ∧ isC l k d.op d.n := by
  unfold siteV
  rw [List.mem_map]
  constructor
  · rintro ⟨⟨o, n⟩, h, rfl⟩
    rw [choices_is] at h
    refine ⟨?_, h⟩
    obtain ⟨p, hp⟩ := Option.isSome_iff_exists.1 ((ofv_some_iff hl k).2 ⟨(endv_in l k h.1).1, by have := (endv_in l k h.1).2; omega⟩)
    rw [hp]; rfl
  · rintro ⟨h1, h2⟩
    exact ⟨(d.op, d.n), (choices_is l k d.op d.n).2 h2, by rw [h1]; rfl⟩
theorem ofv_findv (k : Int) (hk : 0 ≤ k) (p : List Int) : ofv l k = some p ↔ findv l p = k := by
  rw [findv, if_pos hl]
  exact ⟨fun h => ofv_down hl h, fun h => down_ofv hl hk h⟩
theorem mem_sitesV (d : Dl) : d ∈ sitesV l ↔ 0 ≤ findv l d.path ∧ isC l (findv l d.path) d.op d.n := by
  unfold sitesV
  rw [List.mem_flatMap]
  constructor
  · rintro ⟨k, hk, h⟩
    obtain ⟨h1, h2⟩ := (mem_siteV hl k d).1 h
    rw [ofv_findv hl k (by omega)] at h1
    rw [h1]
    exact ⟨by omega, h2⟩
  · rintro ⟨h1, h2⟩
    obtain ⟨k, hk⟩ := Int.eq_ofNat_of_zero_le h1
    refine ⟨k, ?_, ?_⟩
    · rw [List.mem_range]
      have := (endv_in l _ h2.1).2
      omega
    · rw [mem_siteV hl, ofv_findv hl k (by omega), ← hk]
      exact ⟨rfl, h2⟩
omit hl in
theorem siteV_sorted (k : Int) : (siteV l k).Pairwise fun a b => cmpDl a b < 0 := by
  unfold siteV
  rw [List.pairwise_map]
  exact (choices_sorted l k).imp fun {a b} h => cmpDl_same (a := ⟨_, a.1, a.2⟩) (b := ⟨_, b.1, b.2⟩) rfl h
theorem sitesV_sorted : (sitesV l).Pairwise fun a b => cmpDl a b < 0 := by
  unfold sitesV
  rw [List.pairwise_flatMap]
  refine ⟨fun k _ => siteV_sorted k, ?_⟩
  refine (List.pairwise_lt_range (n := l.length)).imp fun {i k} h a ha b hb => ?_
  have h1 := ((mem_siteV hl i a).1 ha).1
  have h2 := ((mem_siteV hl k b).1 hb).1
  exact cmpDl_path (ofv_order hl h1 h2 (by omega))
/-- The mutants of one path are those at its node. -/
theorem sitesV_own (i : Int) (p : List Int) (h : ofv l i = some p) : ((sitesV l).filter fun d => decide (d.path = p)) = siteV l i := by
  apply pw_unique (fun a b => cmpDl a b < 0)
  · intro a; have := (cmpDl_zero a a).2 rfl; omega
  · intro a b h; have := cmpDl_swap a b; omega
  · exact (sitesV_sorted hl).filter _
  · exact siteV_sorted i
  · intro d
    have hi := (ofv_some_iff hl i).1 (by rw [h]; rfl)
    rw [List.mem_filter, mem_sitesV hl, mem_siteV hl, ofv_findv hl i hi.1]
    rw [ofv_findv hl i hi.1] at h
    simp only [decide_eq_true_eq]
    constructor
    · rintro ⟨⟨h1, h2⟩, rfl⟩
      rw [h] at h2
      exact ⟨h, h2⟩
    · rintro ⟨h1, h2⟩
      have : d.path = p := by
        have e1 := (ofv_findv hl i hi.1 d.path).2 h1
        have e2 := (ofv_findv hl i hi.1 p).2 h
        rw [e1] at e2
        exact Option.some.inj e2
      rw [this, h]
      exact ⟨⟨hi.1, h2⟩, rfl⟩
end whole
theorem siteV_len (l : List Nd) (k : Int) : (siteV l k).length = (choicesV l k).length := by simp [siteV]
theorem sitesV_len (l : List Nd) : (sitesV l).length = ((List.range l.length).map fun k : Nat => (choicesV l k).length).sum := by
  unfold sitesV
  rw [List.length_flatMap]
  congr 1
  exact List.map_congr_left fun k _ => siteV_len l k
theorem sitesV_short (l : List Nd) : (sitesV l).length ≤ 5 * l.length := by
  rw [sitesV_len]
  have : ∀ n : Nat, ((List.range n).map fun k : Nat => (choicesV l k).length).sum ≤ 5 * n := by
    intro n
    induction n with
    | zero => simp
    | succ n ih =>
      rw [List.range_succ, List.map_append, List.sum_append]
      have := choices_short l n
      simp
      omega
  exact this _
theorem sitesV_path {l : List Nd} (hl : endv l 0 = l.length) {d : Dl} (h : d ∈ sitesV l) : findv l d.path < l.length ∧ 0 ≤ endv l (findv l d.path) := by
  have := (mem_sitesV hl d).1 h
  exact ⟨by have := (endv_in l _ this.2.1).2; omega, this.2.1⟩

/-- Where a delta stands, between two places. -/
def bsV (l : List Dl) (d : Dl) : Nat → Nat → Nat → Int
  | 0, _, _ => -1
  | f + 1, lo, hi =>
    if lo < hi then
      (if cmpDl (l.getD (lo + (hi - lo) / 2) default) d = 0 then ((lo + (hi - lo) / 2 : Nat) : Int) else
        if cmpDl (l.getD (lo + (hi - lo) / 2) default) d < 0 then bsV l d f (lo + (hi - lo) / 2 + 1) hi else bsV l d f lo (lo + (hi - lo) / 2))
    else -1
def findD (l : List Dl) (d : Dl) : Int := bsV l d (l.length + 1) 0 l.length
theorem bsV_hit (l : List Dl) (d : Dl) : ∀ (f lo hi : Nat), bsV l d f lo hi = -1 ∨ ∃ k : Nat, bsV l d f lo hi = k ∧ lo ≤ k ∧ k < hi ∧ l.getD k default = d
  | 0, _, _ => .inl rfl
  | f + 1, lo, hi => by
    unfold bsV
    split
    · split
      · rename_i h1 h2
        exact .inr ⟨_, rfl, by omega, by omega, (cmpDl_zero _ _).1 h2⟩
      · split
        · rcases bsV_hit l d f (lo + (hi - lo) / 2 + 1) hi with h | ⟨k, h, h1, h2, h3⟩
          · exact .inl h
          · exact .inr ⟨k, h, by omega, h2, h3⟩
        · rcases bsV_hit l d f lo (lo + (hi - lo) / 2) with h | ⟨k, h, h1, h2, h3⟩
          · exact .inl h
          · exact .inr ⟨k, h, h1, by omega, h3⟩
    · exact .inl rfl
theorem bsV_find (l : List Dl) (d : Dl) (hs : l.Pairwise fun a b => cmpDl a b < 0) : ∀ (f lo hi : Nat), hi ≤ l.length → hi < lo + f → (∃ i, lo ≤ i ∧ i < hi ∧ l.getD i default = d) → bsV l d f lo hi ≠ -1
  | 0, lo, hi, _, h1, ⟨i, h2, h3, _⟩ => by omega
  | f + 1, lo, hi, hhi, h1, ⟨i, h2, h3, h4⟩ => by
    have get : ∀ j, j < hi → l.getD j default = l[j]! := fun j hj => by simp [List.getD_eq_getElem?_getD, List.getElem?_eq_getElem (show j < l.length by omega), List.getElem!_eq_getElem?_getD]
    have ord : ∀ i j, i < j → j < l.length → cmpDl (l.getD i default) (l.getD j default) < 0 := fun i j hij hj => by
      have := (List.pairwise_iff_getElem.1 hs) i j (by omega) hj hij
      simpa [List.getD_eq_getElem?_getD, List.getElem?_eq_getElem hj, List.getElem?_eq_getElem (show i < l.length by omega)] using this
    unfold bsV
    rw [if_pos (by omega)]
    split
    · omega
    · rename_i hne
      have hm : lo + (hi - lo) / 2 ≠ i := by
        rintro rfl
        exact hne ((cmpDl_zero _ _).2 h4)
      split
      · rename_i hlt
        refine bsV_find l d hs f _ hi hhi (by omega) ⟨i, ?_, h3, h4⟩
        refine Decidable.byContradiction fun hc => ?_
        have := ord i (lo + (hi - lo) / 2) (by omega) (by omega)
        rw [h4, cmpDl_swap] at this
        omega
      · rename_i hge
        refine bsV_find l d hs f lo _ (by omega) (by omega) ⟨i, h2, ?_, h4⟩
        refine Decidable.byContradiction fun hc => ?_
        have := ord (lo + (hi - lo) / 2) i (by omega) (by omega)
        rw [h4] at this
        omega
theorem findD_hit (l : List Dl) (d : Dl) : findD l d = -1 ∨ ∃ k : Nat, findD l d = k ∧ k < l.length ∧ l[k]? = some d := by
  rcases bsV_hit l d (l.length + 1) 0 l.length with h | ⟨k, h, _, h2, h3⟩
  · exact .inl h
  · refine .inr ⟨k, h, h2, ?_⟩
    rw [List.getElem?_eq_getElem h2]
    simpa [List.getD_eq_getElem?_getD, List.getElem?_eq_getElem h2] using h3
theorem findD_iff (l : List Dl) (d : Dl) (hs : l.Pairwise fun a b => cmpDl a b < 0) : 0 ≤ findD l d ↔ d ∈ l := by
  constructor
  · intro h
    rcases findD_hit l d with e | ⟨k, _, hk, e⟩
    · omega
    · exact List.mem_of_getElem? e
  · intro h
    obtain ⟨i, hi, e⟩ := List.mem_iff_getElem.1 h
    have := bsV_find l d hs (l.length + 1) 0 l.length (Nat.le_refl _) (by omega) ⟨i, by omega, hi, by simp [List.getD_eq_getElem?_getD, List.getElem?_eq_getElem hi, e]⟩
    rcases findD_hit l d with e2 | ⟨k, e2, _⟩
    · exact absurd e2 this
    · omega

theorem apply_ok (p : Pg) (d : Dl) (hl : endv p.body 0 = p.body.length) (h : d ∈ sitesV p.body) : ∃ k : Nat, findv p.body d.path = k ∧ k < p.body.length ∧ isC p.body k d.op d.n ∧ applyV p d = (⟨p.params, p.vars, changedV p.body k (nodeAt p.body k) d.op d.n⟩, 0) := by
  obtain ⟨h1, h2⟩ := (mem_sitesV hl d).1 h
  obtain ⟨k, hk⟩ := Int.eq_ofNat_of_zero_le h1
  rw [hk] at h2
  refine ⟨k, hk, by have := (endv_in _ _ h2.1).2; omega, h2, ?_⟩
  unfold applyV
  rw [hk, if_neg (by omega), if_pos (is_may _ k _ _ h2).1]
  simp
/-- Each mutant is another program, and typed, unless it is too deep. -/
theorem mutant_typed (p : Pg) (d : Dl) (hc : chk9 p = 0) (hb : p.body.length ≤ 60) (h : d ∈ sitesV p.body) : (applyV p d).2 = 0 ∧ (applyV p d).1.body ≠ p.body ∧ knd (applyV p d).1 0 = 2 ∧ (chk9 (applyV p d).1 = 0 ∨ chk9 (applyV p d).1 = 13) := by
  have hw := check_whole (chk9_ok hc).1
  obtain ⟨k, h1, h2, h3, h4⟩ := apply_ok p d hw h
  have hx : p.body[k]? = some (nodeAt p.body k) := by rw [nodeAt_in _ _ h2]; exact List.getElem?_eq_getElem h2
  have := delta_typed hc hb h3.1 hx (is_may _ _ _ _ h3).1
  rw [h4]
  exact ⟨rfl, choice_other _ _ _ _ h3, this.1, by rcases this.2.2 with e | e; exact .inl e; exact .inr e.1⟩
/-- Two mutants by one operator, that changes a node alone, are unlike. -/
theorem mutants_apart (p : Pg) (a b : Dl) (hl : endv p.body 0 = p.body.length) (ha : a ∈ sitesV p.body) (hb : b ∈ sitesV p.body) (hab : a ≠ b) (ho : a.op = b.op) (h4 : a.op ≤ 4) : (applyV p a).1.body ≠ (applyV p b).1.body ∧ (applyV p a).1.body.length = p.body.length := by
  obtain ⟨k, f1, k1, c1, e1⟩ := apply_ok p a hl ha
  obtain ⟨m, f2, k2, c2, e2⟩ := apply_ok p b hl hb
  have gx : ∀ j : Nat, j < p.body.length → p.body[j]? = some (nodeAt p.body j) := fun j hj => by rw [nodeAt_in _ _ hj]; exact List.getElem?_eq_getElem hj
  obtain ⟨y, y1, y2, y3⟩ := changed_set c1.1 _ (gx k k1) (is_may _ _ _ _ c1).1 h4
  obtain ⟨z, z1, z2, z3⟩ := changed_set c2.1 _ (gx m k2) (is_may _ _ _ _ c2).1 (by omega)
  have o1 := choice_other _ _ _ _ c1
  rw [e1, e2]
  simp only
  rw [y1] at o1 ⊢
  rw [z1]
  refine ⟨fun e => ?_, by simp⟩
  by_cases hkm : k = m
  · subst hkm
    have hp : a.path = b.path := by
      have q1 := (ofv_findv hl k (by omega) a.path).2 f1
      have q2 := (ofv_findv hl k (by omega) b.path).2 f2
      rw [q1] at q2
      exact Option.some.inj q2
    have hn : a.n ≠ b.n := fun hn => hab (by obtain ⟨_, _, _⟩ := a; obtain ⟨_, _, _⟩ := b; simp_all)
    have hyz : y = z := by
      have := congrArg (fun l => l[k]?) e
      simpa [List.getElem?_set_self k1] using this
    apply hn
    rcases y3 with ⟨o3, rfl⟩ | ⟨o4, rfl⟩
    · rcases z3 with ⟨_, rfl⟩ | ⟨o, _⟩
      · exact congrArg Prod.fst hyz
      · omega
    · rcases z3 with ⟨o, _⟩ | ⟨_, rfl⟩
      · omega
      · exact congrArg Prod.snd hyz
  · apply o1
    apply List.ext_getElem?
    intro j
    by_cases hj : k = j
    · subst hj
      rw [e, List.getElem?_set_ne (by omega)]
    · rw [List.getElem?_set_ne hj]
end Go.Proofs.Ytalehbmgbjiigaa
end

section
namespace Go.Proofs.Ytalehbmgbjiigaa
open Go.RowKit
set_option linter.unusedVariables false
set_option linter.unusedSimpArgs false

theorem part_isC {l : List Nd} {i op n : Int} (h : isC l i op n) : isC (partV l i) ((0 : Nat) : Int) op n := by
  rw [← choices_is] at h ⊢
  rw [show ((0 : Nat) : Int) = 0 from rfl, choices_part]
  exact h
theorem part_head {l : List Nd} {i : Int} (h : 0 ≤ endv l i) : nodeAt (partV l i) ((0 : Nat) : Int) = nodeAt l i := by
  obtain ⟨k, rfl⟩ := Int.eq_ofNat_of_zero_le (endv_in l i h).1
  have hgt := endv_gt l k h
  have := nodeAt_part l k h 0 (by omega)
  simpa using this
/-- What a choice does to the part that it is of. -/
theorem part_apply {l : List Nd} {i op n : Int} (a : Int) (vs : List Int) (h : isC l i op n) :
    applyV ⟨a, vs, partV l i⟩ ⟨[], op, n⟩ = (⟨a, vs, changedV (partV l i) 0 (nodeAt l i) op n⟩, 0) ∧ changedV (partV l i) 0 (nodeAt l i) op n ≠ partV l i ∧
    endv (changedV (partV l i) 0 (nodeAt l i) op n) 0 = (changedV (partV l i) 0 (nodeAt l i) op n).length ∧ 0 < (changedV (partV l i) 0 (nodeAt l i) op n).length ∧ (changedV (partV l i) 0 (nodeAt l i) op n).length ≤ (partV l i).length + 1 := by
  obtain ⟨hw, h0⟩ := part_pos h.1
  have hp := part_isC h
  have hh := part_head h.1
  have hf : findv (partV l i) [] = 0 := by rw [findv, if_pos hw]; rfl
  have hm := (is_may (partV l i) 0 op n hp).1
  rw [hh] at hm
  have hx : (partV l i)[0]? = some (nodeAt l i) := by
    rw [← hh, nodeAt_in _ _ h0]
    exact List.getElem?_eq_getElem h0
  have ho := choice_other (partV l i) 0 op n hp
  rw [hh] at ho
  obtain ⟨c1, c2, _⟩ := changed_else (k := 0) hw hp.1 _ hx hm
  refine ⟨?_, ho, c1, ?_, c2⟩
  · unfold applyV
    simp only
    rw [hf, if_neg (by omega)]
    have hz : nodeAt (partV l i) 0 = nodeAt l i := hh
    rw [hz, if_pos hm]
    rfl
  · refine Decidable.byContradiction fun hc => ?_
    have hn : changedV (partV l i) 0 (nodeAt l i) op n = [] := List.length_eq_zero_iff.1 (by omega)
    rw [hn] at c1
    revert c1
    decide
theorem part_back {l : List Nd} {i op n : Int} (h : isC l i op n) (h3 : op ≤ 3) : (nodeAt (changedV (partV l i) 0 (nodeAt l i) op n) 0).1 = n ∧
    isC (changedV (partV l i) 0 (nodeAt l i) op n) 0 op (nodeAt l i).1 ∧ ¬ isC (changedV (partV l i) 0 (nodeAt l i) op n) 0 op n := by
  have hh := part_head h.1
  have := choice_back (partV l i) 0 op n (part_isC h) h3
  rw [hh] at this
  exact this
end Go.Proofs.Ytalehbmgbjiigaa
end

section
namespace Go.Proofs.Ytalehbmgbjiigaa
open Go.RowKit
set_option linter.unusedVariables false
set_option linter.unusedSimpArgs false
set_option maxRecDepth 100000

theorem dsame13 (a b : Dl) (ha : a.path.length ≤ 3000000) (hb : b.path.length ≤ 3000000) (H : Heap) : liftF F_DSame [dlD a, dlD b] H = some (bD (decide (a = b)), H) := by
  rw [liftF_pure _ _ _ rfl]
  have : F_DSame [dlD a, dlD b] = _ := f2_enc (A := dlT) (B := dlT) _ a b
  rw [this, if_pos ⟨ha, hb⟩]; rfl
theorem end13 (l : List Nd) (i : Int) (h : l.length ≤ 3000000) (H : Heap) : liftF F_End [nodesD l, iD i] H = some (iD (endv l i), H) := by
  rw [liftF_pure _ _ _ rfl]; simp [F_End, h]
theorem choicesD_len (l : List Nd) (i : Int) : (choicesD l i).length ≤ 5 := by
  have := choices_short l i
  simp [choicesD]; omega
theorem choicesD_path (l : List Nd) (i : Int) : ∀ d ∈ choicesD l i, d.path = [] := fun d hd => by
  obtain ⟨e, _, rfl⟩ := List.mem_map.1 hd
  rfl
theorem choicesD_is (l : List Nd) (i : Int) (d : Dl) (h : d ∈ choicesD l i) : isC l i d.op d.n := by
  obtain ⟨e, he, rfl⟩ := List.mem_map.1 h
  exact (choices_is l i e.1 e.2).1 he
theorem choicesD_has (l : List Nd) (i op n : Int) (h : isC l i op n) : (⟨[], op, n⟩ : Dl) ∈ choicesD l i := List.mem_map.2 ⟨(op, n), (choices_is l i op n).2 h, rfl⟩
theorem choicesD_sorted (l : List Nd) (i : Int) : (choicesD l i).Pairwise fun a b => cmpDl a b < 0 := by
  unfold choicesD
  rw [List.pairwise_map]
  exact (choices_sorted l i).imp fun {a b} h => cmpDl_same (a := mkD a) (b := mkD b) rfl h
theorem catalogTells_text (l : List Nd) (i op n : Int) : ∃ H, textK Try.prog (L13 Try.prog) kp_offshootlaw13_CatalogTells 10 Try.f9 [nodesD l, iD i, iD op, iD n] [] = some (bD true, H) := by
  rw [sh_offshootlaw13_CatalogTells]
  have ht := true13_pure []
  by_cases h : (60 : Int) < (l.length : Int)
  · refine ⟨[], ?_⟩
    simp only [ht, thnH_some, notD_bool, Bool.not_true, thn_some, condK_bool, Bool.false_eq_true, if_false, lenH_nodes, binK_gtr, h, decide_true, if_true]
  · have hb : l.length ≤ 3000000 := by omega
    have hc := choices_pure l i hb []
    have hr := refChoices_pure l i hb []
    have hs := choicesD_len l i
    have hp := choicesD_path l i
    have h1 := cis_pure l i op n hb []
    have h2 := crefIs_pure l i op n hb []
    generalize choicesD l i = L at *
    have key := loopF_invS (P := Try.prog) (T := L13 Try.prog) (kp := kp_offshootlaw13_CatalogTells) (fn := Try.f9) (li := 0)
      (fun j s H => s = [nodesD l, iD i, iD op, iD n, bD false, bD true, dlsD L, dlsD L, iD j] ∧ H = [])
      (fun r => r = (.exit 0, [nodesD l, iD i, iD op, iD n, bD false, bD true, dlsD L, dlsD L, iD L.length], [])) L.length 10
      (fun j s H hj hI => by
        obtain ⟨rfl, rfl⟩ := hI
        have hlt : (j : Int) < (L.length : Int) := by omega
        have i1 := idx_dls L j hj
        have l1 := load_dl [] L[j]
        have hpj := hp L[j] (List.getElem_mem hj)
        have c1 := dcompare_pure L[j] L[j] [] (by rw [hpj]; simp) (by rw [hpj]; simp)
        rw [(cmpDl_zero _ _).2 rfl] at c1
        have e1 := intD_add (j : Int) 1 (by omega) (by omega)
        refine ⟨[nodesD l, iD i, iD op, iD n, bD false, bD true, dlsD L, dlsD L, iD ((j + 1 : Nat) : Int)], [], ?_, rfl, rfl⟩
        rw [st_offshootlaw13_CatalogTells_0]
        simp only [lenH_dls, thn_some, binK_lss, hlt, decide_true, condK_bool, if_true, i1, l1, c1, thnH_some, binK_neq, bne_self_eq_false, Bool.false_eq_true, if_false, binK_int, e1]
        rfl)
      (fun s H hI => by
        obtain ⟨rfl, rfl⟩ := hI
        refine ⟨_, ?_, (by intro e; cases e), rfl⟩
        rw [st_offshootlaw13_CatalogTells_0]
        simp)
      (by omega) (s := [nodesD l, iD i, iD op, iD n, bD false, bD true, dlsD L, dlsD L, iD 0]) (H := []) ⟨rfl, rfl⟩
    obtain ⟨r, k1, rfl⟩ := key
    refine ⟨[], ?_⟩
    simp only [ht, thnH_some, notD_bool, Bool.not_true, thn_some, condK_bool, Bool.false_eq_true, if_false, lenH_nodes, binK_gtr, h, decide_false, hc, hr, lenH_dls, binK_neq, bne_self_eq_false, k1, leaveK_exit, condN_same, List.getD_cons_zero, List.getD_cons_succ, if_true, h1, h2, binK_bool_eq, beq_self_eq_true]
theorem catalogPart_text (l : List Nd) (i : Int) : ∃ H, textK Try.prog (L13 Try.prog) kp_offshootlaw13_CatalogPart 10 Try.f11 [nodesD l, iD i] [] = some (bD true, H) := by
  rw [sh_offshootlaw13_CatalogPart]
  have ht := true13_pure []
  by_cases h : (60 : Int) < (l.length : Int)
  · refine ⟨[], ?_⟩
    simp only [ht, thnH_some, notD_bool, Bool.not_true, thn_some, condK_bool, Bool.false_eq_true, if_false, lenH_nodes, binK_gtr, h, decide_true, if_true]
  · have hb : l.length ≤ 3000000 := by omega
    have hpl : (partV l i).length ≤ l.length := by unfold partV; split <;> simp; omega
    have hc := choices_pure l i hb []
    have hp1 := part13_new l i hb []
    have hr := choices_pure (partV l i) 0 (by omega) []
    have hs := choicesD_len l i
    have hp := choicesD_path l i
    have heq : choicesD (partV l i) 0 = choicesD l i := by unfold choicesD; rw [choices_part]
    rw [heq] at hr
    generalize choicesD l i = L at *
    have key := loopF_invS (P := Try.prog) (T := L13 Try.prog) (kp := kp_offshootlaw13_CatalogPart) (fn := Try.f11) (li := 0)
      (fun j s H => s = [bD false, bD true, dlsD L, dlsD L, iD j] ∧ H = [])
      (fun r => r = (.exit 0, [bD false, bD true, dlsD L, dlsD L, iD L.length], [])) L.length 10
      (fun j s H hj hI => by
        obtain ⟨rfl, rfl⟩ := hI
        have hlt : (j : Int) < (L.length : Int) := by omega
        have i1 := idx_dls L j hj
        have l1 := load_dl [] L[j]
        have hpj := hp L[j] (List.getElem_mem hj)
        have c1 := dsame13 L[j] L[j] (by rw [hpj]; simp) (by rw [hpj]; simp) []
        rw [decide_eq_true rfl] at c1
        have e1 := intD_add (j : Int) 1 (by omega) (by omega)
        refine ⟨[bD false, bD true, dlsD L, dlsD L, iD ((j + 1 : Nat) : Int)], [], ?_, rfl, rfl⟩
        rw [st_offshootlaw13_CatalogPart_0]
        simp only [lenH_dls, thn_some, binK_lss, hlt, decide_true, condK_bool, if_true, i1, l1, c1, thnH_some, notD_bool, Bool.not_true, Bool.false_eq_true, if_false, binK_int, e1]
        rfl)
      (fun s H hI => by
        obtain ⟨rfl, rfl⟩ := hI
        refine ⟨_, ?_, (by intro e; cases e), rfl⟩
        rw [st_offshootlaw13_CatalogPart_0]
        simp)
      (by omega) (s := [bD false, bD true, dlsD L, dlsD L, iD 0]) (H := []) ⟨rfl, rfl⟩
    obtain ⟨r, k1, rfl⟩ := key
    refine ⟨[], ?_⟩
    simp only [ht, thnH_some, notD_bool, Bool.not_true, thn_some, condK_bool, Bool.false_eq_true, if_false, lenH_nodes, binK_gtr, h, decide_false, hc, hp1, hr, lenH_dls, binK_neq, bne_self_eq_false, k1, leaveK_exit, condN_same, List.getD_cons_zero, List.getD_cons_succ]
end Go.Proofs.Ytalehbmgbjiigaa
end

section
namespace Go.Proofs.Ytalehbmgbjiigaa
open Go.RowKit
set_option linter.unusedVariables false
set_option linter.unusedSimpArgs false
set_option maxRecDepth 100000

/-- How many are just this, of the first ones. -/
def cntD (op n : Int) (L : List Dl) (j : Nat) : Nat := ((L.take j).filter fun d => decide (d.op = op ∧ d.n = n)).length
theorem cntD_succ (op n : Int) (L : List Dl) (j : Nat) (h : j < L.length) : cntD op n L (j + 1) = if L[j].op = op ∧ L[j].n = n then cntD op n L j + 1 else cntD op n L j := by
  unfold cntD
  rw [List.take_succ_eq_append_getElem h, List.filter_append, List.length_append]
  by_cases hp : L[j].op = op ∧ L[j].n = n <;> simp [hp]
theorem cntD_le (op n : Int) (L : List Dl) (j : Nat) : cntD op n L j ≤ j := by
  unfold cntD
  refine Nat.le_trans (List.length_filter_le _ _) ?_
  rw [List.length_take]; omega
theorem cntD_all (l : List Nd) (i op n : Int) : cntD op n (choicesD l i) (choicesD l i).length = if isC l i op n then 1 else 0 := by
  unfold cntD
  rw [List.take_length]
  have hs := choicesD_sorted l i
  have hp := choicesD_path l i
  have hsf : ((choicesD l i).filter fun d => decide (d.op = op ∧ d.n = n)).Pairwise fun a b => cmpDl a b < 0 := hs.filter _
  have hall : ∀ d ∈ (choicesD l i).filter fun d => decide (d.op = op ∧ d.n = n), d = ⟨[], op, n⟩ := fun d hd => by
    obtain ⟨h1, h2⟩ := List.mem_filter.1 hd
    obtain ⟨h3, h4⟩ := of_decide_eq_true h2
    have h5 := hp d h1
    obtain ⟨a, b, c⟩ := d
    simp only at h3 h4 h5
    subst h3 h4 h5; rfl
  by_cases h : isC l i op n
  · rw [if_pos h]
    have hm : (⟨[], op, n⟩ : Dl) ∈ (choicesD l i).filter fun d => decide (d.op = op ∧ d.n = n) := List.mem_filter.2 ⟨choicesD_has l i op n h, by simp⟩
    generalize (choicesD l i).filter (fun d => decide (d.op = op ∧ d.n = n)) = F at *
    match F, hm, hall, hsf with
    | [], hm, _, _ => cases hm
    | [a], _, _, _ => rfl
    | a :: b :: r, _, hall, hsf =>
      have ha := hall a (by simp)
      have hb := hall b (by simp)
      have := (List.pairwise_cons.1 hsf).1 b (by simp)
      rw [ha, hb, (cmpDl_zero _ _).2 rfl] at this
      omega
  · rw [if_neg h]
    refine List.length_eq_zero_iff.2 (List.filter_eq_nil_iff.2 fun d hd hx => h ?_)
    obtain ⟨h3, h4⟩ := of_decide_eq_true hx
    have := choicesD_is l i d hd
    rwa [h3, h4] at this
set_option maxHeartbeats 1000000 in
theorem catalogJust_text (l : List Nd) (i op n : Int) : ∃ H, textK Try.prog (L13 Try.prog) kp_offshootlaw13_CatalogJust 10 Try.f10 [nodesD l, iD i, iD op, iD n] [] = some (bD true, H) := by
  rw [sh_offshootlaw13_CatalogJust]
  have ht := true13_pure []
  by_cases h : (60 : Int) < (l.length : Int)
  · refine ⟨[], ?_⟩
    simp only [ht, thnH_some, notD_bool, Bool.not_true, thn_some, condK_bool, Bool.false_eq_true, if_false, lenH_nodes, binK_gtr, h, decide_true, if_true]
  · have hb : l.length ≤ 3000000 := by omega
    have hc := choices_pure l i hb []
    have hs := choicesD_len l i
    have hp := choicesD_path l i
    have hr := choicesD_sorted l i
    have hcnt := cntD_all l i op n
    have h1 := cis_pure l i op n hb []
    generalize choicesD l i = L at *
    have key := loopF_invS (P := Try.prog) (T := L13 Try.prog) (kp := kp_offshootlaw13_CatalogJust) (fn := Try.f10) (li := 0)
      (fun j s H => s = [nodesD l, iD i, iD op, iD n, bD false, bD true, dlsD L, iD (cntD op n L j), iD j] ∧ H = [])
      (fun r => r = (.exit 0, [nodesD l, iD i, iD op, iD n, bD false, bD true, dlsD L, iD (cntD op n L L.length), iD L.length], [])) L.length 10
      (fun j s H hj hI => by
        obtain ⟨rfl, rfl⟩ := hI
        have hlt : (j : Int) < (L.length : Int) := by omega
        have i1 := idx_dls L j hj
        have hpj := hp L[j] (List.getElem_mem hj)
        have f0 : fieldAtH 0 (.ptr (dlC L[j])) = some (.ptr (dlC L[j])) := rfl
        have f1 : fieldAtH 1 (.ptr (dlC L[j])) = some (.ptr [iD L[j].op, iD L[j].n]) := rfl
        have f2 : fieldAtH 2 (.ptr (dlC L[j])) = some (.ptr [iD L[j].n]) := rfl
        have g0 : loadH none [] (.ptr (dlC L[j])) = some (intsD []) := by rw [show dlC L[j] = [intsD [], iD L[j].op, iD L[j].n] from by rw [dlC, hpj]]; rfl
        have g1 : loadH none [] (.ptr [iD L[j].op, iD L[j].n]) = some (iD L[j].op) := rfl
        have g2 : loadH none [] (.ptr [iD L[j].n]) = some (iD L[j].n) := rfl
        have l1 := load_dl [] L[j]
        have e1 := intD_add (j : Int) 1 (by omega) (by omega)
        have c1 : (j : Int) + 1 = ((j + 1 : Nat) : Int) := by omega
        rw [c1] at e1
        have hcl := cntD_le op n L j
        have e2 := intD_add (cntD op n L j : Int) 1 (by omega) (by omega)
        have c2 : (cntD op n L j : Int) + 1 = ((cntD op n L j + 1 : Nat) : Int) := by omega
        rw [c2] at e2
        have hcs := cntD_succ op n L j hj
        have z0 : lenH .sl (intsD []) = some (iD 0) := rfl
        have z1 : ¬ ((0 : Int) < 0) := by omega
        have hstep : ∀ X : Option (Lv × List D × Heap), (thn (idxH 3 (dlsD L) (iD j)) fun y28 => thn (fieldAtH 1 y28) fun y29 => thn (loadH none ([] : Heap) y29) fun y30 => thn (binK .int .eql y30 (iD op)) fun y31 => condK y31
            (thn (idxH 3 (dlsD L) (iD j)) fun y32 => thn (fieldAtH 2 y32) fun y33 => thn (loadH none ([] : Heap) y33) fun y34 => thn (binK .int .eql y34 (iD n)) fun y35 => condK y35
              (thn (binK .int .add (iD (cntD op n L j)) (iD 1)) fun y36 => thn (binK .int .add (iD j) (iD 1)) fun y37 => some (Lv.normal, [nodesD l, iD i, iD op, iD n, bD false, bD true, dlsD L, y36, y37], ([] : Heap)))
              (thn (binK .int .add (iD j) (iD 1)) fun y38 => some (Lv.normal, [nodesD l, iD i, iD op, iD n, bD false, bD true, dlsD L, iD (cntD op n L j), y38], ([] : Heap))))
            (thn (binK .int .add (iD j) (iD 1)) fun y39 => some (Lv.normal, [nodesD l, iD i, iD op, iD n, bD false, bD true, dlsD L, iD (cntD op n L j), y39], ([] : Heap)))) = X →
            X = some (Lv.normal, [nodesD l, iD i, iD op, iD n, bD false, bD true, dlsD L, iD (cntD op n L (j + 1)), iD ((j + 1 : Nat) : Int)], []) := fun X hX => by
          rw [← hX, hcs]
          by_cases a1 : L[j].op = op
          · have b1 : (L[j].op == op) = true := by rw [a1]; exact beq_self_eq_true _
            by_cases a2 : L[j].n = n
            · have b2 : (L[j].n == n) = true := by rw [a2]; exact beq_self_eq_true _
              rw [if_pos ⟨a1, a2⟩]
              simp only [i1, thn_some, f1, g1, f2, g2, binK_eql, b1, b2, condK_bool, if_true, binK_int, e1, e2]
            · have b2 : (L[j].n == n) = false := by rw [beq_eq_false_iff_ne]; exact a2
              rw [if_neg (fun h => a2 h.2)]
              simp only [i1, thn_some, f1, g1, f2, g2, binK_eql, b1, b2, condK_bool, if_true, Bool.false_eq_true, if_false, binK_int, e1]
          · have b1 : (L[j].op == op) = false := by rw [beq_eq_false_iff_ne]; exact a1
            rw [if_neg (fun h => a1 h.1)]
            simp only [i1, thn_some, f1, g1, binK_eql, b1, condK_bool, Bool.false_eq_true, if_false, binK_int, e1]
        refine ⟨[nodesD l, iD i, iD op, iD n, bD false, bD true, dlsD L, iD (cntD op n L (j + 1)), iD ((j + 1 : Nat) : Int)], [], ?_, rfl, rfl⟩
        rw [st_offshootlaw13_CatalogJust_0]
        rw [lenH_dls, thn_some, binK_lss, thn_some, decide_eq_true hlt, condK_bool, if_pos rfl]
        rw [i1, thn_some, f0, thn_some, g0, thn_some, z0, thn_some, binK_gtr, thn_some, decide_eq_false z1, condK_bool, if_neg (by decide)]
        by_cases hj0 : 0 < j
        · have a0 : (0 : Int) < (j : Int) := by omega
          have em := intD_sub (j : Int) 1 (by omega) (by omega)
          have cm : (j : Int) - 1 = ((j - 1 : Nat) : Int) := by omega
          rw [cm] at em
          have im := idx_dls L (j - 1) (by omega)
          have lm := load_dl [] L[j - 1]
          have hpm := hp L[j - 1] (List.getElem_mem (by omega))
          have cc := dcompare_pure L[j - 1] L[j] [] (by rw [hpm]; simp) (by rw [hpj]; simp)
          have hlt2 : cmpDl L[j - 1] L[j] < 0 := (List.pairwise_iff_getElem.1 hr) (j - 1) j (by omega) hj (by omega)
          have hge : ¬ (0 ≤ cmpDl L[j - 1] L[j]) := by omega
          rw [binK_gtr, thn_some, decide_eq_true a0, condK_bool, if_pos rfl, binK_sub, em, thn_some, im, thn_some, lm, thn_some, thn_some, l1, thn_some, cc, thnH_some, binK_geq, thn_some, decide_eq_false hge, condK_bool, if_neg (by decide)]
          rw [← i1]
          exact hstep _ rfl
        · have a0 : ¬ (0 : Int) < (j : Int) := by omega
          rw [binK_gtr, thn_some, decide_eq_false a0, condK_bool, if_neg (by decide)]
          rw [← i1]
          exact hstep _ rfl)
      (fun s H hI => by
        obtain ⟨rfl, rfl⟩ := hI
        refine ⟨_, ?_, (by intro e; cases e), rfl⟩
        rw [st_offshootlaw13_CatalogJust_0]
        simp)
      (by omega) (s := [nodesD l, iD i, iD op, iD n, bD false, bD true, dlsD L, iD 0, iD 0]) (H := []) ⟨by simp [cntD], rfl⟩
    obtain ⟨r, k1, rfl⟩ := key
    refine ⟨[], ?_⟩
    have hle5 : (L.length : Int) ≤ 5 := by omega
    simp only [ht, thnH_some, notD_bool, Bool.not_true, thn_some, condK_bool, Bool.false_eq_true, if_false, lenH_nodes, binK_gtr, h, decide_false, hc, k1, leaveK_exit, condN_same, List.getD_cons_zero, List.getD_cons_succ, if_true, h1, hcnt]
    by_cases hi : isC l i op n
    · simp [hi, hle5]
    · simp [hi, hle5]
theorem dapply13 (p : Pg) (d : Dl) (ps ds : D) (hp : asProg ps = some p) (hd : asDl ds = some d) (hpu : pureL [ps, ds] = true) (h : fitsA p d) (H : Heap) : liftF F_DApply [ps, ds] H = some (.tup [progD (applyV p d).1, iD (applyV p d).2], H) := by
  rw [liftF_pure _ _ _ hpu]
  have : F_DApply [ps, ds] = some (.tup [progD (applyV p d).1, iD (applyV p d).2]) := by
    show ((asProg ps).bind fun a => (asDl ds).bind fun b => if fitsA a b then some (D.tup [progD (applyV a b).1, iD (applyV a b).2]) else none) = _
    rw [hp, Option.bind_some, hd, Option.bind_some, if_pos h]
  rw [this]; rfl
theorem partV_le (l : List Nd) (i : Int) : (partV l i).length ≤ l.length := by unfold partV; split <;> simp; omega
theorem len_dls_zero (L : List Dl) : ((L.length : Int) == 0) = decide (L = []) := by
  rw [Bool.eq_iff_iff, beq_iff_eq, decide_eq_true_eq]
  constructor
  · intro h; exact List.length_eq_zero_iff.1 (by omega)
  · intro h; rw [h]; rfl
theorem alloc_prog13 (H : Heap) : allocH 25 [iD 0, .v (.slice none 0 0), .v (.slice none 0 0)] H = some (.hp H.length 0, H ++ [.cells 25 3 [iD 0, .v (.slice none 0 0), .v (.slice none 0 0)]]) := rfl
theorem build_body (P : List Nd) : buildR [(0, 1), (1, 1), (2, 1)] [iD 0, .v (.slice none 0 0), .v (.slice none 0 0)] [(2, nodesD P)] = some (.agg [iD 0, .v (.slice none 0 0), nodesD P]) := rfl
set_option maxHeartbeats 1000000 in
theorem catalogApplies_text (l : List Nd) (i n : Int) (hb : l.length ≤ 3000000) : ∃ H, textK Try.prog (L13 Try.prog) kp_offshootlaw13_CatalogApplies 0 Try.f14 [nodesD l, iD i, iD n] [] = some (bD true, H) := by
  rw [sh_offshootlaw13_CatalogApplies]
  have ht := true13_pure []
  have hc := choices_pure l i hb []
  have hz := len_dls_zero (choicesD l i)
  by_cases h : (60 : Int) < (l.length : Int)
  · refine ⟨[], ?_⟩
    simp only [ht, thnH_some, notD_bool, Bool.not_true, thn_some, condK_bool, Bool.false_eq_true, if_false, lenH_nodes, binK_gtr, h, decide_true, if_true, hc, lenH_dls, binK_eql]
    cases ((choicesD l i).length : Int) == 0 <;> rfl
  have hE := end13 l i hb []
  by_cases hn : endv l i < 0
  · have hL : choicesD l i = [] := by unfold choicesD choicesV; rw [if_pos hn]; rfl
    refine ⟨[], ?_⟩
    rw [hL] at hc
    simp only [ht, thnH_some, notD_bool, Bool.not_true, thn_some, condK_bool, Bool.false_eq_true, if_false, lenH_nodes, binK_gtr, h, decide_false, hE, binK_lss, hn, decide_true, if_true, hc, lenH_dls, binK_eql]
    rfl
  by_cases h0 : n < 0
  · refine ⟨[], ?_⟩
    simp only [ht, thnH_some, notD_bool, Bool.not_true, thn_some, condK_bool, Bool.false_eq_true, if_false, lenH_nodes, binK_gtr, h, decide_false, hE, binK_lss, hn, decide_true, if_true, hc, h0]
  by_cases h1 : ((choicesD l i).length : Int) ≤ n
  · refine ⟨[], ?_⟩
    simp only [ht, thnH_some, notD_bool, Bool.not_true, thn_some, condK_bool, Bool.false_eq_true, if_false, lenH_nodes, binK_gtr, h, decide_false, hE, binK_lss, hn, decide_true, if_true, hc, h0, lenH_dls, binK_geq, h1]
  obtain ⟨m, rfl⟩ := Int.eq_ofNat_of_zero_le (by omega : 0 ≤ n)
  have hm : m < (choicesD l i).length := by omega
  have ix := idx_dls (choicesD l i) m hm
  have hmem : (choicesD l i)[m] ∈ choicesD l i := List.getElem_mem hm
  have hp := choicesD_path l i _ hmem
  have hi := choicesD_is l i _ hmem
  generalize (choicesD l i)[m] = d at *
  obtain ⟨pa, op, k⟩ := d
  simp only at hp hi
  subst hp
  have hpart := part13_new l i hb []
  have hpl := partV_le l i
  obtain ⟨a1, a2, a3, a4, a5⟩ := part_apply 0 [] hi
  generalize changedV (partV l i) 0 (nodeAt l i) op k = R at *
  generalize partV l i = P at *
  have ap := dapply13 ⟨0, [], P⟩ ⟨[], op, k⟩ (.agg [iD 0, .v (.slice none 0 0), nodesD P]) (dlD ⟨[], op, k⟩) (by simp [asProg, asProgC, asInt, asInts]) (asDl_dlD _) rfl ⟨by simp, by simp only; omega, by simp⟩ [.cells 25 3 [iD 0, .v (.slice none 0 0), nodesD P]]
  rw [a1] at ap
  simp only at ap
  have s1 : setH 3 (.hp 0 0) (.agg [iD 0, .v (.slice none 0 0), nodesD P]) [.cells 25 3 [iD 0, .v (.slice none 0 0), .v (.slice none 0 0)]] = some (.v undef, [.cells 25 3 [iD 0, .v (.slice none 0 0), nodesD P]]) := rfl
  have g1 : loadH (some 3) [.cells 25 3 [iD 0, .v (.slice none 0 0), nodesD P]] (.hp 0 0) = some (.agg [iD 0, .v (.slice none 0 0), nodesD P]) := rfl
  have g2 := load_dl [.cells 25 3 [iD 0, .v (.slice none 0 0), nodesD P]] ⟨[], op, k⟩
  have s2 : setH 3 (.hp 1 0) (progD ⟨0, [], R⟩) [.cells 25 3 [iD 0, .v (.slice none 0 0), nodesD P], .cells 25 3 [iD 0, .v (.slice none 0 0), .v (.slice none 0 0)]] = some (.v undef, [.cells 25 3 [iD 0, .v (.slice none 0 0), nodesD P], .cells 25 3 [iD 0, intsD [], nodesD R]]) := rfl
  have l0 : loadH none [.cells 25 3 [iD 0, .v (.slice none 0 0), nodesD P], .cells 25 3 [iD 0, intsD [], nodesD R]] (.hp 0 2) = some (nodesD P) := rfl
  have l1 : loadH none [.cells 25 3 [iD 0, .v (.slice none 0 0), nodesD P], .cells 25 3 [iD 0, intsD [], nodesD R]] (.hp 1 2) = some (nodesD R) := rfl
  have f0 : fieldAtH 2 (.hp 0 0) = some (.hp 0 2) := rfl
  have f1 : fieldAtH 2 (.hp 1 0) = some (.hp 1 2) := rfl
  have al0 : allocH 25 [iD 0, .v (.slice none 0 0), .v (.slice none 0 0)] [] = some (.hp 0 0, [.cells 25 3 [iD 0, .v (.slice none 0 0), .v (.slice none 0 0)]]) := rfl
  have al1 : allocH 25 [iD 0, .v (.slice none 0 0), .v (.slice none 0 0)] [.cells 25 3 [iD 0, .v (.slice none 0 0), nodesD P]] = some (.hp 1 0, [.cells 25 3 [iD 0, .v (.slice none 0 0), nodesD P], .cells 25 3 [iD 0, .v (.slice none 0 0), .v (.slice none 0 0)]]) := rfl
  have sm := arenaSame13_pure P R [.cells 25 3 [iD 0, .v (.slice none 0 0), nodesD P], .cells 25 3 [iD 0, intsD [], nodesD R]] (by omega) (by omega)
  rw [decide_eq_false (fun e => a2 e.symm)] at sm
  have eR := end13 R 0 (by omega) [.cells 25 3 [iD 0, .v (.slice none 0 0), nodesD P], .cells 25 3 [iD 0, intsD [], nodesD R]]
  rw [a3] at eR
  have x0 : extractD (.tup [progD ⟨0, [], R⟩, iD 0]) 0 = some (progD ⟨0, [], R⟩) := rfl
  have x1 : extractD (.tup [progD ⟨0, [], R⟩, iD 0]) 1 = some (iD 0) := rfl
  refine ⟨[.cells 25 3 [iD 0, .v (.slice none 0 0), nodesD P], .cells 25 3 [iD 0, intsD [], nodesD R]], ?_⟩
  simp only [ht, thnH_some, notD_bool, Bool.not_true, Bool.not_false, thn_some, condK_bool, Bool.false_eq_true, if_false, lenH_nodes, binK_gtr, h, decide_false, hE, binK_lss, hn, if_true, hc, h0, lenH_dls, binK_geq, h1, hpart, build_body, al0, s1, g1, ix, g2, ap, x0, x1, al1, s2, binK_eql, beq_self_eq_true, f0, l0, f1, l1, sm, eR]
set_option maxHeartbeats 1000000 in
theorem catalogBack_text (l : List Nd) (i n : Int) : ∃ H, textK Try.prog (L13 Try.prog) kp_offshootlaw13_CatalogBack 0 Try.f13 [nodesD l, iD i, iD n] [] = some (bD true, H) := by
  rw [sh_offshootlaw13_CatalogBack]
  have ht := true13_pure []
  by_cases h : (60 : Int) < (l.length : Int)
  · refine ⟨[], ?_⟩
    simp only [ht, thnH_some, notD_bool, Bool.not_true, thn_some, condK_bool, Bool.false_eq_true, if_false, lenH_nodes, binK_gtr, h, decide_true, if_true]
  have hb : l.length ≤ 3000000 := by omega
  have hc := choices_pure l i hb []
  have hE := end13 l i hb []
  by_cases hn : endv l i < 0
  · refine ⟨[], ?_⟩
    simp only [ht, thnH_some, notD_bool, Bool.not_true, thn_some, condK_bool, Bool.false_eq_true, if_false, lenH_nodes, binK_gtr, h, decide_false, hE, binK_lss, hn, decide_true, if_true]
  obtain ⟨q, rfl⟩ := Int.eq_ofNat_of_zero_le (endv_in l i (by omega)).1
  have hq := (at_ar (by omega : 0 ≤ endv l q)).choose
  have q0 : ¬ ((q : Int) < 0) := by omega
  have q1 : ¬ ((l.length : Int) ≤ (q : Int)) := by omega
  by_cases h0 : n < 0
  · refine ⟨[], ?_⟩
    simp only [ht, thnH_some, notD_bool, Bool.not_true, thn_some, condK_bool, Bool.false_eq_true, if_false, lenH_nodes, binK_gtr, binK_geq, h, decide_false, hE, binK_lss, hn, q0, q1, decide_true, if_true, hc, h0]
  by_cases h1 : ((choicesD l q).length : Int) ≤ n
  · refine ⟨[], ?_⟩
    simp only [ht, thnH_some, notD_bool, Bool.not_true, thn_some, condK_bool, Bool.false_eq_true, if_false, lenH_nodes, binK_gtr, h, decide_false, hE, binK_lss, hn, q0, q1, decide_true, if_true, hc, h0, lenH_dls, binK_geq, h1]
  obtain ⟨m, rfl⟩ := Int.eq_ofNat_of_zero_le (by omega : 0 ≤ n)
  have hm : m < (choicesD l q).length := by omega
  have ix := idx_dls (choicesD l q) m hm
  have hmem : (choicesD l q)[m] ∈ choicesD l q := List.getElem_mem hm
  have hp := choicesD_path l q _ hmem
  have hi := choicesD_is l q _ hmem
  generalize (choicesD l q)[m] = d at *
  obtain ⟨pa, op, k⟩ := d
  simp only at hp hi
  subst hp
  have ff1 : fieldAtH 1 (.ptr (dlC ⟨[], op, k⟩)) = some (.ptr [iD op, iD k]) := rfl
  have ff2 : fieldAtH 2 (.ptr (dlC ⟨[], op, k⟩)) = some (.ptr [iD k]) := rfl
  have lo : ∀ H, loadH none H (.ptr [iD op, iD k]) = some (iD op) := fun _ => rfl
  have lk : ∀ H, loadH none H (.ptr [iD k]) = some (iD k) := fun _ => rfl
  by_cases h3 : 3 < op
  · refine ⟨[], ?_⟩
    simp only [ht, thnH_some, notD_bool, Bool.not_true, thn_some, condK_bool, Bool.false_eq_true, if_false, lenH_nodes, binK_gtr, h, decide_false, hE, binK_lss, hn, q0, q1, decide_true, if_true, hc, h0, lenH_dls, binK_geq, h1, ix, ff1, lo, h3]
  have hpart := part13_new l q hb []
  have hpl := partV_le l q
  obtain ⟨a1, a2, a3, a4, a5⟩ := part_apply 0 [] hi
  obtain ⟨b1, b2, b3⟩ := part_back hi (by omega)
  have hxq : nodeAt l q = l[q] := nodeAt_in l q hq
  have iq := idx_nodesN l q hq
  rw [← hxq] at iq
  generalize nodeAt l q = x at *
  generalize changedV (partV l q) 0 x op k = R at *
  generalize partV l q = P at *
  have ap := dapply13 ⟨0, [], P⟩ ⟨[], op, k⟩ (.agg [iD 0, .v (.slice none 0 0), nodesD P]) (dlD ⟨[], op, k⟩) (by simp [asProg, asProgC, asInt, asInts]) (asDl_dlD _) rfl ⟨by simp, by simp only; omega, by simp⟩ []
  rw [a1] at ap
  simp only at ap
  have g2 := load_dl [] ⟨[], op, k⟩
  have s2 : setH 3 (.hp 0 0) (progD ⟨0, [], R⟩) [.cells 25 3 [iD 0, .v (.slice none 0 0), .v (.slice none 0 0)]] = some (.v undef, [.cells 25 3 [iD 0, intsD [], nodesD R]]) := rfl
  have l1 : loadH none [.cells 25 3 [iD 0, intsD [], nodesD R]] (.hp 0 2) = some (nodesD R) := rfl
  have f1 : fieldAtH 2 (.hp 0 0) = some (.hp 0 2) := rfl
  have al0 : allocH 25 [iD 0, .v (.slice none 0 0), .v (.slice none 0 0)] [] = some (.hp 0 0, [.cells 25 3 [iD 0, .v (.slice none 0 0), .v (.slice none 0 0)]]) := rfl
  have x0 : extractD (.tup [progD ⟨0, [], R⟩, iD 0]) 0 = some (progD ⟨0, [], R⟩) := rfl
  have x1 : extractD (.tup [progD ⟨0, [], R⟩, iD 0]) 1 = some (iD 0) := rfl
  have iR := idx_nodesN R 0 a4
  have hR0 : nodeAt R 0 = R[0] := nodeAt_in R 0 a4
  rw [← hR0] at iR
  have iR' : idxH 2 (nodesD R) (iD 0) = some (.ptr (nodeD (nodeAt R 0))) := iR
  have n0 : ∀ z : Nd, fieldAtH 0 (.ptr (nodeD z)) = some (.ptr (nodeD z)) := fun _ => rfl
  have nl : ∀ H (z : Nd), loadH none H (.ptr (nodeD z)) = some (iD z.1) := fun _ _ => rfl
  have i1 := cis_pure R 0 op x.1 (by omega) [.cells 25 3 [iD 0, intsD [], nodesD R]]
  have i2 := cis_pure R 0 op k (by omega) [.cells 25 3 [iD 0, intsD [], nodesD R]]
  rw [decide_eq_true (show isC R 0 op x.1 from b2)] at i1
  rw [decide_eq_false (show ¬ isC R 0 op k from b3)] at i2
  have hk : ((nodeAt R 0).1 == k) = true := by rw [b1]; exact beq_self_eq_true _
  have hRl : ((R.length : Int) == 0) = false := by rw [beq_eq_false_iff_ne]; omega
  have z0 : ((0 : Int) != 0) = false := rfl
  refine ⟨[.cells 25 3 [iD 0, intsD [], nodesD R]], ?_⟩
  simp only [ht, thnH_some, notD_bool, Bool.not_true, Bool.not_false, thn_some, condK_bool, Bool.false_eq_true, if_false, lenH_nodes, binK_gtr, h, decide_false, hE, binK_lss, hn, q0, q1, if_true, hc, h0, lenH_dls, binK_geq, h1, ix, ff1, ff2, lo, lk, h3, hpart, build_body, g2, ap, x0, x1, al0, s2, binK_neq, z0, f1, l1, binK_eql, hRl, iR', n0, nl, hk, iq, i1, i2]
end Go.Proofs.Ytalehbmgbjiigaa
end

section
namespace Go.Proofs.Ytalehbmgbjiigaa
open Go.RowKit
set_option linter.unusedVariables false

theorem catalogTells_walk (l : List Nd) (v : Value) (i op n : Int) (w : World) (hv : NodesAt w v l) :
    Calls Try.prog 9 #[v, .int .i64 i, .int .i64 op, .int .i64 n] w fun e w' => e = .returned (.bool true) ∧ Below w.heap.size w w' := by
  obtain ⟨H, hH⟩ := catalogTells_text l i op n
  exact law_walk L13_ok mixed Try.func9 (by kernel_rfl) (by decide) hH (vs := [v, .int .i64 i, .int .i64 op, .int .i64 n]) (RepA.cons (nodesD_rep hv) (RepA.cons (rep_int i) (RepA.cons (rep_int op) (RepA.cons (rep_int n) RepA.nil))))
theorem catalogJust_walk (l : List Nd) (v : Value) (i op n : Int) (w : World) (hv : NodesAt w v l) :
    Calls Try.prog 10 #[v, .int .i64 i, .int .i64 op, .int .i64 n] w fun e w' => e = .returned (.bool true) ∧ Below w.heap.size w w' := by
  obtain ⟨H, hH⟩ := catalogJust_text l i op n
  exact law_walk L13_ok mixed Try.func10 (by kernel_rfl) (by decide) hH (vs := [v, .int .i64 i, .int .i64 op, .int .i64 n]) (RepA.cons (nodesD_rep hv) (RepA.cons (rep_int i) (RepA.cons (rep_int op) (RepA.cons (rep_int n) RepA.nil))))
theorem catalogPart_walk (l : List Nd) (v : Value) (i : Int) (w : World) (hv : NodesAt w v l) :
    Calls Try.prog 11 #[v, .int .i64 i] w fun e w' => e = .returned (.bool true) ∧ Below w.heap.size w w' := by
  obtain ⟨H, hH⟩ := catalogPart_text l i
  exact law_walk L13_ok mixed Try.func11 (by kernel_rfl) (by decide) hH (vs := [v, .int .i64 i]) (RepA.cons (nodesD_rep hv) (RepA.cons (rep_int i) RepA.nil))
theorem catalogBack_walk (l : List Nd) (v : Value) (i n : Int) (w : World) (hv : NodesAt w v l) :
    Calls Try.prog 13 #[v, .int .i64 i, .int .i64 n] w fun e w' => e = .returned (.bool true) ∧ Below w.heap.size w w' := by
  obtain ⟨H, hH⟩ := catalogBack_text l i n
  exact law_walk L13_ok mixed Try.func13 (by kernel_rfl) (by decide) hH (vs := [v, .int .i64 i, .int .i64 n]) (RepA.cons (nodesD_rep hv) (RepA.cons (rep_int i) (RepA.cons (rep_int n) RepA.nil)))
theorem catalogApplies_walk (l : List Nd) (v : Value) (i n : Int) (w : World) (hv : NodesAt w v l) (hb : l.length ≤ 3000000) :
    Calls Try.prog 14 #[v, .int .i64 i, .int .i64 n] w fun e w' => e = .returned (.bool true) ∧ Below w.heap.size w w' := by
  obtain ⟨H, hH⟩ := catalogApplies_text l i n hb
  exact law_walk L13_ok mixed Try.func14 (by kernel_rfl) (by decide) hH (vs := [v, .int .i64 i, .int .i64 n]) (RepA.cons (nodesD_rep hv) (RepA.cons (rep_int i) (RepA.cons (rep_int n) RepA.nil)))
end Go.Proofs.Ytalehbmgbjiigaa
end
