/-
  Parts joined into one text: T12d, Sh12d, T12e, Sh12e, T12f, Sh09a, C09a, T09a, B10, Sh10a, Spec10. No condition.
-/
import Derived.Test.YtalehbmgbjiigaaEi
import Derived.Test.YtalehbmgbjiigaaEk
import Derived.Test.YtalehbmgbjiigaaEl
import Derived.Test.YtalehbmgbjiigaaEn
import Derived.Test.YtalehbmgbjiigaaEo

section
namespace Go.Proofs.Ytalehbmgbjiigaa
open Go.RowKit
set_option linter.unusedVariables false
set_option linter.unusedSimpArgs false
set_option maxRecDepth 100000

theorem dcompare_pure (a b : Dl) (H : Heap) (ha : a.path.length ≤ 3000000) (hb : b.path.length ≤ 3000000) : liftF F_DCompare [dlD a, dlD b] H = some (iD (cmpDl a b), H) := by
  rw [liftF_pure _ _ _ rfl]
  have : F_DCompare [dlD a, dlD b] = _ := f2_enc (A := dlT) (B := dlT) _ a b
  rw [this, if_pos ⟨ha, hb⟩]; rfl
theorem may_pure (x : Nd) (op n : Int) (H : Heap) : liftF F_may [.agg (nodeD x), iD op, iD n] H = some (bD (decide (mayV x op n)), H) := by
  rw [liftF_pure _ _ _ rfl]
  have : F_may [.agg (nodeD x), iD op, iD n] = _ := f3_enc (A := ndT) (B := intT) (C := intT) _ x op n
  rw [this]; rfl
theorem changed_pure (l : List Nd) (k : Nat) (d : Dl) (H : Heap) (hE : 0 ≤ endv l k) (hm : mayV (nodeAt l k) d.op d.n) (hl : l.length ≤ 300000) : liftF F_changed [nodesD l, iD k, dlD d] H = some (nodesD (changedV l k (nodeAt l k) d.op d.n), H) := by
  rw [liftF_pure _ _ _ rfl]
  have : F_changed [nodesD l, iD k, dlD d] = _ := f3_enc (A := nodesT) (B := intT) (C := dlT) _ l (k : Int) d
  rw [this, if_pos ⟨by omega, hE, hm, hl⟩]; rfl
theorem chPut_pure (c : Chg) (x : Nd) (H : Heap) (h0 : 0 ≤ c.k) (hk : c.k.toNat < c.p.body.length) (hl : c.p.body.length ≤ 1000000) : liftF F_chPut [chD c, .agg (nodeD x)] H = some (nodesD (c.p.body.set c.k.toNat x), H) := by
  rw [liftF_pure _ _ _ rfl]
  have : F_chPut [chD c, .agg (nodeD x)] = _ := f2_enc (A := chT) (B := ndT) _ c x
  rw [this, if_pos ⟨h0, hk, hl⟩]; rfl
theorem chBoth_pure (c : Chg) (lo hi : Int) (H : Heap) (h0 : 0 ≤ c.k) (hk : c.k.toNat < c.p.body.length) : liftF F_chBoth [chD c, iD lo, iD hi] H = some (bD (decide (lo ≤ (nodeAt c.p.body c.k).1 ∧ (nodeAt c.p.body c.k).1 ≤ hi ∧ lo ≤ c.n ∧ c.n ≤ hi)), H) := by
  rw [liftF_pure _ _ _ rfl]
  have : F_chBoth [chD c, iD lo, iD hi] = _ := f3_enc (A := chT) (B := intT) (C := intT) _ c lo hi
  rw [this, if_pos ⟨h0, hk⟩]; rfl
theorem replace_row (l : List Nd) (i : Int) (x : Nd) (o : HO) (t : TypeId) (hl : l.length ≤ 3000000) : liftN F_Replace [nodesD l, iD i, .hs 1 1] [o, .cells t 2 [iD x.1, iD x.2]] = some (nodesD (replV l i [x]), [o, .cells t 2 [iD x.1, iD x.2]]) := by
  have hd : [nodesD l, iD i, D.hs 1 1].mapM (derefN [o, .cells t 2 [iD x.1, iD x.2]] 9) = some [nodesD l, iD i, nodesD [x]] := by
    have := deref_row [o, .cells t 2 [iD x.1, iD x.2]] 8 t 1 [x] rfl
    simp only [List.mapM_cons, List.mapM_nil, derefN_pure _ 9 (nodesD l) rfl, derefN_pure _ 9 (iD i) rfl]
    rw [show (D.hs 1 1) = .hs 1 [x].length from rfl, this]
    rfl
  rw [liftN_obj _ _ _ _ rfl hd]
  simp [F_Replace, hl]
/-- How many nodes an operator is asked about. -/
abbrev Chg.fits (c : Chg) : Prop := 0 ≤ c.k ∧ c.k.toNat < c.p.body.length ∧ c.p.body.length ≤ 300000
def F_DSame : List D → Option D := F2 dlT dlT fun a b => if a.path.length ≤ 3000000 ∧ b.path.length ≤ 3000000 then some (bD (decide (a = b))) else none
theorem C_DSame : CallOk Try.prog 26 F_DSame := call2 (kp := kp_delta_Same) T12c_ok mixed Try.func26 (by kernel_rfl) (by decide) fun a b d h => by
  split at h
  case isFalse => cases h
  rename_i hl
  cases h
  refine ⟨0, _, ?_, Imp.refl _⟩
  show outD (textK _ _ _ _ _ [dlD a, dlD b] []) = _
  rw [sh_delta_Same]
  have hb : (cmpDl a b == 0) = decide (a = b) := by
    rw [Bool.eq_iff_iff]; simp [cmpDl_zero]
  simp [dl_agg, dcompare_pure _ _ _ hl.1 hl.2, hb]
def tagV (l : List Nd) (k : Nat) (n lo hi : Int) : List Nd := if lo ≤ (nodeAt l k).1 ∧ (nodeAt l k).1 ≤ hi ∧ lo ≤ n ∧ n ≤ hi then l.set k (n, (nodeAt l k).2) else []
def F_chTag : List D → Option D := F3 chT intT intT fun c lo hi => if c.fits then some (nodesD (tagV c.p.body c.k.toNat c.n lo hi)) else none
theorem C_chTag : CallOk Try.prog 85 F_chTag := call3 (kp := kp_delta_change__tag) T12c_ok mixed Try.func85 (by kernel_rfl) (by decide) fun c lo hi d h => by
  split at h
  case isFalse => cases h
  rename_i hg
  cases h
  obtain ⟨h0, h1, h2⟩ := hg
  have hc := fun H => chNode_pure c H h0 h1
  have hb := fun H => chBoth_pure c lo hi H h0 h1
  have hp := fun x H => chPut_pure c x H h0 h1 (by omega)
  have hk : ((c.k.toNat : Nat) : Int) = c.k := by omega
  unfold tagV
  rw [hk]
  generalize nodeAt c.p.body c.k = x at *
  by_cases hm : lo ≤ x.1 ∧ x.1 ≤ hi ∧ lo ≤ c.n ∧ c.n ≤ hi
  · refine ⟨0, _, ?_, Imp.refl _⟩
    show outD (textK _ _ _ _ _ [chD c, iD lo, iD hi] []) = _
    rw [sh_delta_change__tag, if_pos hm]
    simp [ch_agg, hc, hb, hm, build_node, hp]
  · refine ⟨0, .v (.slice none 0 0), ?_, by rw [if_neg hm]; exact Imp.nil 2⟩
    show outD (textK _ _ _ _ _ [chD c, iD lo, iD hi] []) = _
    rw [sh_delta_change__tag]
    simp [ch_agg, hc, hb, hm, build_node, hp]
def constV (l : List Nd) (k : Nat) (n : Int) : List Nd := if (nodeAt l k).1 = 1 ∨ ((nodeAt l k).1 = 2 ∧ 0 ≤ n ∧ n ≤ 1) then l.set k ((nodeAt l k).1, n) else []
def F_constant : List D → Option D := F1 chT fun c => if c.fits then some (nodesD (constV c.p.body c.k.toNat c.n)) else none
theorem C_constant : CallOk Try.prog 44 F_constant := call1 (kp := kp_delta_change__constant) T12c_ok mixed Try.func44 (by kernel_rfl) (by decide) fun c d h => by
  split at h
  case isFalse => cases h
  rename_i hg
  cases h
  obtain ⟨h0, h1, h2⟩ := hg
  have hc := fun H => chNode_pure c H h0 h1
  have hp := fun x H => chPut_pure c x H h0 h1 (by omega)
  have hk : ((c.k.toNat : Nat) : Int) = c.k := by omega
  unfold constV
  rw [hk]
  generalize nodeAt c.p.body c.k = x at *
  have ha := alloc_node 46 [.cells 62 5 [iD c.p.params, intsD c.p.vars, nodesD c.p.body, iD c.k, iD c.n]]
  have hs := set_node [.cells 62 5 [iD c.p.params, intsD c.p.vars, nodesD c.p.body, iD c.k, iD c.n], .cells 46 2 [iD 0, iD 0]] 1 46 (iD 0) (iD 0) x rfl
  have g0 : (nodeD x)[0]? = some (iD x.1) := rfl
  by_cases t1 : x.1 = 1
  · refine ⟨0, _, ?_, Imp.refl _⟩
    show outD (textK _ _ _ _ _ [chD c] []) = _
    rw [sh_delta_change__constant, if_pos (.inl t1)]
    simp [ch_agg, hc, alloc_node, hs, g0, t1, build_node, hp]
  · by_cases t2 : x.1 = 2 ∧ 0 ≤ c.n ∧ c.n ≤ 1
    · refine ⟨0, _, ?_, Imp.refl _⟩
      show outD (textK _ _ _ _ _ [chD c] []) = _
      rw [sh_delta_change__constant, if_pos (.inr t2)]
      have q1 : ¬ c.n < 0 := by omega
      have q2 : ¬ 1 < c.n := by omega
      simp [ch_agg, hc, alloc_node, hs, g0, t2.1, q1, q2, build_node, hp]
    · refine ⟨0, .v (.slice none 0 0), ?_, by rw [if_neg (by omega)]; exact Imp.nil 2⟩
      show outD (textK _ _ _ _ _ [chD c] []) = _
      rw [sh_delta_change__constant]
      by_cases t3 : x.1 = 2
      · by_cases q1 : c.n < 0
        · simp [ch_agg, hc, alloc_node, hs, g0, t3, q1]
        · have q2 : 1 < c.n := by omega
          simp [ch_agg, hc, alloc_node, hs, g0, t3, q1, q2]
      · simp [ch_agg, hc, alloc_node, hs, g0, t1, t3]
def remV (l : List Nd) (k : Nat) (n : Int) : List Nd := if ((nodeAt l k).1 = 21 ∨ (nodeAt l k).1 = 22 ∨ (nodeAt l k).1 = 23 ∨ (nodeAt l k).1 = 24 ∨ (nodeAt l k).1 = 25) ∧ n = 0 then replV l k [(26, 0)] else []
def F_remove : List D → Option D := F1 chT fun c => if c.fits then some (nodesD (remV c.p.body c.k.toNat c.n)) else none
theorem C_remove : CallOk Try.prog 45 F_remove := call1 (kp := kp_delta_change__remove) T12c_ok mixed Try.func45 (by kernel_rfl) (by decide) fun c d h => by
  split at h
  case isFalse => cases h
  rename_i hg
  cases h
  obtain ⟨h0, h1, h2⟩ := hg
  have hc := fun H => chNode_pure c H h0 h1
  have hk : ((c.k.toNat : Nat) : Int) = c.k := by omega
  unfold remV
  rw [hk]
  generalize nodeAt c.p.body c.k = x at *
  have hr := replace_row c.p.body c.k (26, 0) (.cells 62 5 [iD c.p.params, intsD c.p.vars, nodesD c.p.body, iD c.k, iD c.n]) 46 (by omega)
  by_cases hn : c.n = 0
  · by_cases ht : x.1 = 21 ∨ x.1 = 22 ∨ x.1 = 23 ∨ x.1 = 24 ∨ x.1 = 25
    · refine ⟨0, _, ?_, Imp.refl _⟩
      show outD (textK _ _ _ _ _ [chD c] []) = _
      rw [sh_delta_change__remove, if_pos ⟨ht, hn⟩]
      obtain ⟨p, k, n⟩ := c
      simp only at hn hc hr
      subst hn
      have hx : D.agg [iD p.params, intsD p.vars, nodesD p.body, iD k, iD 0] = chD ⟨p, k, 0⟩ := rfl
      rcases ht with ht | ht | ht | ht | ht <;> simp [hx, hc, ht, build_tag, row_node, hr]
    · refine ⟨0, .v (.slice none 0 0), ?_, by rw [if_neg (fun h => ht h.1)]; exact Imp.nil 2⟩
      show outD (textK _ _ _ _ _ [chD c] []) = _
      rw [sh_delta_change__remove]
      have t1 : ¬ x.1 = 21 := by omega
      have t2 : ¬ x.1 = 22 := by omega
      have t3 : ¬ x.1 = 23 := by omega
      have t4 : ¬ x.1 = 24 := by omega
      have t5 : ¬ x.1 = 25 := by omega
      simp [ch_agg, hc, t1, t2, t3, t4, t5]
  · refine ⟨0, .v (.slice none 0 0), ?_, by rw [if_neg (fun h => hn h.2)]; exact Imp.nil 2⟩
    show outD (textK _ _ _ _ _ [chD c] []) = _
    rw [sh_delta_change__remove]
    by_cases t1 : x.1 = 21
    · simp [ch_agg, hc, hn, t1]
    by_cases t2 : x.1 = 22
    · simp [ch_agg, hc, hn, t2]
    by_cases t3 : x.1 = 23
    · simp [ch_agg, hc, hn, t3]
    by_cases t4 : x.1 = 24
    · simp [ch_agg, hc, hn, t4]
    by_cases t5 : x.1 = 25
    · simp [ch_agg, hc, hn, t5]
    simp [ch_agg, hc, t1, t2, t3, t4, t5]
def ansV (l : List Nd) (k : Nat) (n : Int) : List Nd := if (nodeAt l k).1 = 25 then replV l ((k + 1 : Nat) : Int) [(1, n)] else []
def F_answer : List D → Option D := F1 chT fun c => if c.fits then some (nodesD (ansV c.p.body c.k.toNat c.n)) else none
theorem C_answer : CallOk Try.prog 47 F_answer := call1 (kp := kp_delta_change__answer) T12c_ok mixed Try.func47 (by kernel_rfl) (by decide) fun c d h => by
  split at h
  case isFalse => cases h
  rename_i hg
  cases h
  obtain ⟨h0, h1, h2⟩ := hg
  have hc := fun H => chNode_pure c H h0 h1
  have hk : ((c.k.toNat : Nat) : Int) = c.k := by omega
  have hk1 : ((c.k.toNat + 1 : Nat) : Int) = c.k + 1 := by omega
  unfold ansV
  rw [hk, hk1]
  generalize nodeAt c.p.body c.k = x at *
  have hr := replace_row c.p.body (c.k + 1) (1, c.n) (.cells 62 5 [iD c.p.params, intsD c.p.vars, nodesD c.p.body, iD c.k, iD c.n]) 46 (by omega)
  have e1 := intD_add c.k 1 (by omega) (by omega)
  by_cases ht : x.1 = 25
  · refine ⟨0, _, ?_, Imp.refl _⟩
    show outD (textK _ _ _ _ _ [chD c] []) = _
    rw [sh_delta_change__answer, if_pos ht]
    simp [ch_agg, hc, ht, build_node, row_node, e1, hr]
  · refine ⟨0, .v (.slice none 0 0), ?_, by rw [if_neg ht]; exact Imp.nil 2⟩
    show outD (textK _ _ _ _ _ [chD c] []) = _
    rw [sh_delta_change__answer]
    simp [ch_agg, hc, ht]
theorem refFind_pure' (l : List Nd) (p : List Int) (H : Heap) (hl : l.length ≤ 300000) (hp : p.length ≤ 300000) : liftF F_RefFind [nodesD l, intsD p] H = some (iD (findv l p), H) := refFind_pure l p H (by omega) (by omega)
theorem alloc_prog (t : TypeId) (H : Heap) : allocH t [iD 0, .v (.slice none 0 0), .v (.slice none 0 0)] H = some (.hp H.length 0, H ++ [.cells t 3 [iD 0, .v (.slice none 0 0), .v (.slice none 0 0)]]) := rfl
theorem set_three (H : Heap) (i : Nat) (t : TypeId) (a b c x y z : D) (h : H[i]? = some (.cells t 3 [a, b, c])) (hx : cellOk x = true) (hy : cellOk y = true) (hz : cellOk z = true) : setH 3 (.hp i 0) (.agg [x, y, z]) H = some (.v undef, H.set i (.cells t 3 [x, y, z])) := by
  simp [setH, storeH, h, cellsD, hx, hy, hz]
theorem build_prog (m : Int) (vs : List Int) (l : List Nd) : buildR [(0, 1), (1, 1), (2, 1)] [iD 0, .v (.slice none 0 0), .v (.slice none 0 0)] [(0, iD m), (1, intsD vs), (2, nodesD l)] = some (.agg [iD m, intsD vs, nodesD l]) := rfl
theorem build_none : buildR [(0, 1), (1, 1), (2, 1)] [iD 0, .v (.slice none 0 0), .v (.slice none 0 0)] [] = some (.agg [iD 0, .v (.slice none 0 0), .v (.slice none 0 0)]) := rfl
theorem imp_none : Imp (.agg [iD 0, .v (.slice none 0 0), .v (.slice none 0 0)]) (progD ⟨0, [], []⟩) := Imp.agg (.cons (Imp.refl _) (.cons (Imp.nil 1) (.cons (Imp.nil 2) .nil)))
/-- A program, and a delta, of lists that are no longer than any bound that matters. -/
abbrev fitsA (p : Pg) (d : Dl) : Prop := p.vars.length ≤ 300000 ∧ p.body.length ≤ 300000 ∧ d.path.length ≤ 300000
def F_DApply : List D → Option D := F2 progT dlT fun p d => if fitsA p d then some (.tup [progD (applyV p d).1, iD (applyV p d).2]) else none
theorem C_RefDApply : CallOk Try.prog 19 F_DApply := call2 (kp := kp_offshootref12_Apply) T12c_ok mixed Try.func19 (by kernel_rfl) (by decide) fun p d r h => by
  split at h
  case isFalse => cases h
  rename_i hf
  cases h
  have hF := fun H => refFind_pure' p.body d.path H hf.2.1 hf.2.2
  have hs := set_three [.cells 25 3 [iD p.params, intsD p.vars, nodesD p.body], .cells 27 3 [intsD d.path, iD d.op, iD d.n], .cells 25 3 [iD 0, .v (.slice none 0 0), .v (.slice none 0 0)]] 2 25 _ _ _ (iD 0) (.v (.slice none 0 0)) (.v (.slice none 0 0)) rfl rfl rfl rfl
  rcases apply_cases p d with ⟨h1, e⟩ | ⟨k, h1, h2, h3, hx, h5, hc⟩
  · rw [e]
    refine ⟨0, _, ?_, Imp.tup (.cons imp_none (.cons (Imp.refl (iD 16)) .nil))⟩
    show outD (textK _ _ _ _ _ [progD p, dlD d] []) = _
    rw [sh_offshootref12_Apply]
    simp [hF, alloc_prog, h1, build_none, hs]
  · have hi := idx_nodesN p.body k h2
    have hn : p.body[k] = nodeAt p.body k := (nodeAt_in _ k h2).symm
    rw [hn] at hi
    have h0 : ¬ ((k : Int) < 0) := by omega
    have ha := alloc_node 46 [.cells 25 3 [iD p.params, intsD p.vars, nodesD p.body], .cells 27 3 [intsD d.path, iD d.op, iD d.n], .cells 25 3 [iD 0, .v (.slice none 0 0), .v (.slice none 0 0)]]
    have hs1 := set_node [.cells 25 3 [iD p.params, intsD p.vars, nodesD p.body], .cells 27 3 [intsD d.path, iD d.op, iD d.n], .cells 25 3 [iD 0, .v (.slice none 0 0), .v (.slice none 0 0)], .cells 46 2 [iD 0, iD 0]] 3 46 (iD 0) (iD 0) (nodeAt p.body k) rfl
    have hm' := fun H => may_pure (nodeAt p.body k) d.op d.n H
    have hs2 := fun x y z h1 h2 h3 => set_three [.cells 25 3 [iD p.params, intsD p.vars, nodesD p.body], .cells 27 3 [intsD d.path, iD d.op, iD d.n], .cells 25 3 [iD 0, .v (.slice none 0 0), .v (.slice none 0 0)], .cells 46 2 (nodeD (nodeAt p.body k))] 2 25 _ _ _ x y z rfl h1 h2 h3
    have hl2 : (nodeD (nodeAt p.body k)).length = 2 := rfl
    have htk : D.agg (List.take 2 (nodeD (nodeAt p.body k))) = .agg (nodeD (nodeAt p.body k)) := rfl
    rcases hc with ⟨hm, e⟩ | ⟨hm, e⟩
    · rw [e]
      refine ⟨0, _, ?_, Imp.tup (.cons imp_none (.cons (Imp.refl (iD 17)) .nil))⟩
      show outD (textK _ _ _ _ _ [progD p, dlD d] []) = _
      rw [sh_offshootref12_Apply]
      have q := hs2 (iD 0) (.v (.slice none 0 0)) (.v (.slice none 0 0)) rfl rfl rfl
      simp [hF, alloc_prog, h1, h0, hi, alloc_node, hs1, hl2, htk, hm', hm, build_none, q]
    · rw [e]
      have hch := fun H => changed_pure p.body k d H h3 hm hf.2.1
      refine ⟨0, _, ?_, Imp.refl _⟩
      show outD (textK _ _ _ _ _ [progD p, dlD d] []) = _
      rw [sh_offshootref12_Apply]
      have q := hs2 (iD p.params) (intsD p.vars) (nodesD (changedV p.body k (nodeAt p.body k) d.op d.n)) rfl rfl rfl
      simp [hF, alloc_prog, h1, h0, hi, alloc_node, hs1, hl2, htk, hm', hm, dl_agg, hch, build_prog, q]
      rfl
def fs12d (P : Program) : List Entry := (26, true, liftF F_DSame) :: (85, true, liftF F_chTag) :: (44, true, liftF F_constant) :: (45, true, liftF F_remove) :: (47, true, liftF F_answer) :: (19, true, liftF F_DApply) :: fs12c P
theorem fs12d_ok : ∀ p ∈ fs12d Try.prog, EntryOk Try.prog p := entries_cons (entry_lift C_DSame) <| entries_cons (entry_lift C_chTag) <| entries_cons (entry_lift C_constant) <| entries_cons (entry_lift C_remove) <| entries_cons (entry_lift C_answer) <| entries_cons (entry_lift C_RefDApply) <| fs12c_ok
def T12d (P : Program) : Tab := ⟨fs12d P, noYl⟩
theorem T12d_ok : TabOk Try.prog (T12d Try.prog) := tabOk_of fs12d_ok
end Go.Proofs.Ytalehbmgbjiigaa
end

section
namespace Go.Proofs.Ytalehbmgbjiigaa
open Go.RowKit
set_option linter.unusedVariables false
set_option maxRecDepth 100000

def kp_delta_change__arith : List Nat := []
theorem sh_delta_change__arith (n : Nat) (x0 : D) (h : Heap) : textK Try.prog (T12d Try.prog) kp_delta_change__arith n Try.f41 [x0] h =
(thnH (boxH 62 x0 h) fun y0 h1 =>
thn (loadH (some 5) h1 y0) fun y2 =>
thnH (liftF F_chTag [y2, (iD 7), (iD 11)] h1) fun y3 h4 =>
some (y3, h4)) := by kernel_rfl

def kp_delta_change__rel : List Nat := []
theorem sh_delta_change__rel (n : Nat) (x0 : D) (h : Heap) : textK Try.prog (T12d Try.prog) kp_delta_change__rel n Try.f42 [x0] h =
(thnH (boxH 62 x0 h) fun y0 h1 =>
thn (loadH (some 5) h1 y0) fun y2 =>
thnH (liftF F_chTag [y2, (iD 12), (iD 17)] h1) fun y3 h4 =>
some (y3, h4)) := by kernel_rfl

def kp_delta_change__logic : List Nat := []
theorem sh_delta_change__logic (n : Nat) (x0 : D) (h : Heap) : textK Try.prog (T12d Try.prog) kp_delta_change__logic n Try.f43 [x0] h =
(thnH (boxH 62 x0 h) fun y0 h1 =>
thn (loadH (some 5) h1 y0) fun y2 =>
thnH (liftF F_chTag [y2, (iD 18), (iD 19)] h1) fun y3 h4 =>
some (y3, h4)) := by kernel_rfl

end Go.Proofs.Ytalehbmgbjiigaa
end

section
namespace Go.Proofs.Ytalehbmgbjiigaa
open Go.RowKit
set_option linter.unusedVariables false
set_option linter.unusedSimpArgs false
set_option maxRecDepth 100000

theorem chTag_pure (c : Chg) (lo hi : Int) (H : Heap) (h : c.fits) : liftF F_chTag [chD c, iD lo, iD hi] H = some (nodesD (tagV c.p.body c.k.toNat c.n lo hi), H) := by
  rw [liftF_pure _ _ _ rfl]
  have : F_chTag [chD c, iD lo, iD hi] = _ := f3_enc (A := chT) (B := intT) (C := intT) _ c lo hi
  rw [this, if_pos h]; rfl
def F_tags (lo hi : Int) : List D → Option D := F1 chT fun c => if c.fits then some (nodesD (tagV c.p.body c.k.toNat c.n lo hi)) else none
def F_arith : List D → Option D := F_tags 7 11
def F_rel : List D → Option D := F_tags 12 17
def F_logic : List D → Option D := F_tags 18 19
theorem C_arith : CallOk Try.prog 41 F_arith := call1 (kp := kp_delta_change__arith) T12d_ok mixed Try.func41 (by kernel_rfl) (by decide) fun c d h => by
  split at h
  case isFalse => cases h
  rename_i hg
  cases h
  refine ⟨0, _, ?_, Imp.refl _⟩
  show outD (textK _ _ _ _ _ [chD c] []) = _
  rw [sh_delta_change__arith]
  simp [ch_agg, chTag_pure c _ _ _ hg]
theorem C_rel : CallOk Try.prog 42 F_rel := call1 (kp := kp_delta_change__rel) T12d_ok mixed Try.func42 (by kernel_rfl) (by decide) fun c d h => by
  split at h
  case isFalse => cases h
  rename_i hg
  cases h
  refine ⟨0, _, ?_, Imp.refl _⟩
  show outD (textK _ _ _ _ _ [chD c] []) = _
  rw [sh_delta_change__rel]
  simp [ch_agg, chTag_pure c _ _ _ hg]
theorem C_logic : CallOk Try.prog 43 F_logic := call1 (kp := kp_delta_change__logic) T12d_ok mixed Try.func43 (by kernel_rfl) (by decide) fun c d h => by
  split at h
  case isFalse => cases h
  rename_i hg
  cases h
  refine ⟨0, _, ?_, Imp.refl _⟩
  show outD (textK _ _ _ _ _ [chD c] []) = _
  rw [sh_delta_change__logic]
  simp [ch_agg, chTag_pure c _ _ _ hg]
def fs12e (P : Program) : List Entry := (41, true, liftF F_arith) :: (42, true, liftF F_rel) :: (43, true, liftF F_logic) :: fs12d P
theorem fs12e_ok : ∀ p ∈ fs12e Try.prog, EntryOk Try.prog p := entries_cons (entry_lift C_arith) <| entries_cons (entry_lift C_rel) <| entries_cons (entry_lift C_logic) <| fs12d_ok
def T12e (P : Program) : Tab := ⟨fs12e P, noYl⟩
theorem T12e_ok : TabOk Try.prog (T12e Try.prog) := tabOk_of fs12e_ok
end Go.Proofs.Ytalehbmgbjiigaa
end

section
namespace Go.Proofs.Ytalehbmgbjiigaa
open Go.RowKit
set_option linter.unusedVariables false
set_option maxRecDepth 100000

def kp_delta_Apply : List Nat := []
theorem sh_delta_Apply (n : Nat) (x0 x1 : D) (h : Heap) : textK Try.prog (T12e Try.prog) kp_delta_Apply n Try.f18 [x0, x1] h =
(thnH (boxH 25 x0 h) fun y0 h1 =>
thnH (boxH 27 x1 h1) fun y2 h3 =>
thnH (allocH 25 [(iD 0), (.v (.slice none 0 0)), (.v (.slice none 0 0))] h3) fun y4 h5 =>
thn (buildA 1 [(.v .nilFunc), (.v .nilFunc), (.v .nilFunc), (.v .nilFunc), (.v .nilFunc), (.v .nilFunc), (.v .nilFunc), (.v .nilFunc)] [(0, (.v .nilFunc)), (1, (.clo (.func 41) [] [])), (2, (.clo (.func 42) [] [])), (3, (.clo (.func 43) [] [])), (4, (.clo (.func 44) [] [])), (5, (.clo (.func 45) [] [])), (6, (.clo (.func 46) [] [])), (7, (.clo (.func 47) [] []))]) fun y6 =>
thnH (allocH 63 [(.v .nilFunc), (.v .nilFunc), (.v .nilFunc), (.v .nilFunc), (.v .nilFunc), (.v .nilFunc), (.v .nilFunc), (.v .nilFunc)] h5) fun y7 h8 =>
thnH (setH 8 y7 y6 h8) fun y9 h10 =>
thn (fieldAtH 2 y0) fun y11 =>
thn (loadH none h10 y11) fun y12 =>
thn (fieldAtH 0 y2) fun y13 =>
thn (loadH none h10 y13) fun y14 =>
thnH (liftF F_Find [y12, y14] h10) fun y15 h16 =>
thn (binK .int .lss y15 (iD 0)) fun y17 =>
condK y17
(thn (buildR [(0, 1), (1, 1), (2, 1)] [(iD 0), (.v (.slice none 0 0)), (.v (.slice none 0 0))] []) fun y18 =>
thnH (setH 3 y4 y18 h16) fun y19 h20 =>
thn (loadH (some 3) h20 y4) fun y21 =>
some (.tup [y21, (iD 16)], h20))
(thn (fieldAtH 1 y2) fun y22 =>
thn (loadH none h16 y22) fun y23 =>
thn (binK .int .lss y23 (iD 1)) fun y24 =>
condK y24
(thn (buildR [(0, 1), (1, 1), (2, 1)] [(iD 0), (.v (.slice none 0 0)), (.v (.slice none 0 0))] []) fun y25 =>
thnH (setH 3 y4 y25 h16) fun y26 h27 =>
thn (loadH (some 3) h27 y4) fun y28 =>
some (.tup [y28, (iD 17)], h27))
(thn (fieldAtH 1 y2) fun y29 =>
thn (loadH none h16 y29) fun y30 =>
thn (binK .int .geq y30 (iD 8)) fun y31 =>
condK y31
(thn (buildR [(0, 1), (1, 1), (2, 1)] [(iD 0), (.v (.slice none 0 0)), (.v (.slice none 0 0))] []) fun y32 =>
thnH (setH 3 y4 y32 h16) fun y33 h34 =>
thn (loadH (some 3) h34 y4) fun y35 =>
some (.tup [y35, (iD 17)], h34))
(thn (fieldAtH 1 y2) fun y36 =>
thn (loadH none h16 y36) fun y37 =>
thn (idxA 8 1 y7 y37) fun y38 =>
thn (loadH none h16 y38) fun y39 =>
thn (loadH (some 3) h16 y0) fun y40 =>
thn (fieldAtH 2 y2) fun y41 =>
thn (loadH none h16 y41) fun y42 =>
thn (buildR [(0, 3), (3, 1), (4, 1)] [(iD 0), (.v (.slice none 0 0)), (.v (.slice none 0 0)), (iD 0), (iD 0)] [(0, y40), (1, y15), (2, y42)]) fun y43 =>
thnH (callClo (T12e Try.prog) y39 [y43] h16) fun y44 h45 =>
thn (lenH .sl y44) fun y46 =>
thn (binK .int .eql y46 (iD 0)) fun y47 =>
condK y47
(thn (buildR [(0, 1), (1, 1), (2, 1)] [(iD 0), (.v (.slice none 0 0)), (.v (.slice none 0 0))] []) fun y48 =>
thnH (setH 3 y4 y48 h45) fun y49 h50 =>
thn (loadH (some 3) h50 y4) fun y51 =>
some (.tup [y51, (iD 17)], h50))
(thn (fieldAtH 0 y0) fun y52 =>
thn (loadH none h45 y52) fun y53 =>
thn (fieldAtH 1 y0) fun y54 =>
thn (loadH none h45 y54) fun y55 =>
thnH (liftN F_CloneI [y55] h45) fun y56 h57 =>
thn (buildR [(0, 1), (1, 1), (2, 1)] [(iD 0), (.v (.slice none 0 0)), (.v (.slice none 0 0))] [(0, y53), (1, y56), (2, y44)]) fun y58 =>
thnH (setH 3 y4 y58 h57) fun y59 h60 =>
thn (loadH (some 3) h60 y4) fun y61 =>
some (.tup [y61, (iD 0)], h60)))))) := by kernel_rfl

end Go.Proofs.Ytalehbmgbjiigaa
end

section
namespace Go.Proofs.Ytalehbmgbjiigaa
open Go.RowKit
set_option linter.unusedVariables false
set_option linter.unusedSimpArgs false
set_option maxRecDepth 100000

/- Each operator does what is told of it. -/
theorem op_tag (l : List Nd) (k : Nat) (n lo hi op : Int) (h : (op = 1 ∧ lo = 7 ∧ hi = 11) ∨ (op = 2 ∧ lo = 12 ∧ hi = 17) ∨ (op = 3 ∧ lo = 18 ∧ hi = 19)) : tagV l k n lo hi = opV l k op n := by
  have hm : mayV (nodeAt l k) op n ↔ lo ≤ (nodeAt l k).1 ∧ (nodeAt l k).1 ≤ hi ∧ lo ≤ n ∧ n ≤ hi := by
    unfold mayV
    rcases h with ⟨rfl, rfl, rfl⟩ | ⟨rfl, rfl, rfl⟩ | ⟨rfl, rfl, rfl⟩ <;> simp
  unfold tagV opV
  by_cases hm' : mayV (nodeAt l k) op n
  · rw [if_pos hm', if_pos (hm.1 hm')]
    unfold changedV
    rw [if_pos (by omega)]
  · rw [if_neg hm', if_neg (fun h => hm' (hm.2 h))]
theorem op_const (l : List Nd) (k : Nat) (n : Int) : constV l k n = opV l k 4 n := by
  unfold constV opV
  by_cases hm : mayV (nodeAt l k) 4 n
  · rw [if_pos hm, if_pos (by unfold mayV at hm; omega)]; rfl
  · rw [if_neg hm, if_neg (by unfold mayV at hm; omega)]
theorem op_rem (l : List Nd) (k : Nat) (n : Int) : remV l k n = opV l k 5 n := by
  unfold remV opV
  by_cases hm : mayV (nodeAt l k) 5 n
  · rw [if_pos hm, if_pos (by unfold mayV at hm; omega)]; rfl
  · rw [if_neg hm, if_neg (by unfold mayV at hm; omega)]
theorem op_neg (l : List Nd) (k : Nat) (n : Int) : negV l k n = opV l k 6 n := by
  unfold negV opV
  by_cases hm : mayV (nodeAt l k) 6 n
  · rw [if_pos hm, if_pos (by unfold mayV at hm; omega)]; rfl
  · rw [if_neg hm, if_neg (by unfold mayV at hm; omega)]
theorem op_ans (l : List Nd) (k : Nat) (n : Int) : ansV l k n = opV l k 7 n := by
  unfold ansV opV
  by_cases hm : mayV (nodeAt l k) 7 n
  · rw [if_pos hm, if_pos (by unfold mayV at hm; omega)]; rfl
  · rw [if_neg hm, if_neg (by unfold mayV at hm; omega)]
def opsC : List D := [.v .nilFunc, .clo (.func 41) [] [], .clo (.func 42) [] [], .clo (.func 43) [] [], .clo (.func 44) [] [], .clo (.func 45) [] [], .clo (.func 46) [] [], .clo (.func 47) [] []]
theorem op_call (c : Chg) (H : Heap) (op : Int) (h1 : 1 ≤ op) (h7 : op ≤ 7) (hf : c.fits) (hE : 0 ≤ endv c.p.body c.k) : ∃ x, opsC[op.toNat]? = some x ∧ callClo (T12e Try.prog) x [chD c] H = some (nodesD (opV c.p.body c.k.toNat op c.n), H) := by
  have hp : ∀ (F : List D → Option D) (l : List Nd), F [chD c] = some (nodesD l) → liftF F [chD c] H = some (nodesD l, H) := fun F l h => by
    rw [liftF_pure _ _ _ rfl, h]; rfl
  have hop : op = 1 ∨ op = 2 ∨ op = 3 ∨ op = 4 ∨ op = 5 ∨ op = 6 ∨ op = 7 := by omega
  have ht : ∀ lo hi, F_tags lo hi [chD c] = some (nodesD (tagV c.p.body c.k.toNat c.n lo hi)) := fun lo hi => by
    have : F_tags lo hi [chD c] = _ := f1_enc (A := chT) _ c
    rw [this, if_pos hf]
  rcases hop with rfl | rfl | rfl | rfl | rfl | rfl | rfl
  · refine ⟨_, rfl, ?_⟩
    have : callClo (T12e Try.prog) (.clo (.func 41) [] []) [chD c] H = liftF F_arith [chD c] H := rfl
    rw [← op_tag _ _ _ 7 11 1 (.inl ⟨rfl, rfl, rfl⟩)]
    exact this.trans (hp _ _ (ht 7 11))
  · refine ⟨_, rfl, ?_⟩
    have : callClo (T12e Try.prog) (.clo (.func 42) [] []) [chD c] H = liftF F_rel [chD c] H := rfl
    rw [← op_tag _ _ _ 12 17 2 (.inr (.inl ⟨rfl, rfl, rfl⟩))]
    exact this.trans (hp _ _ (ht 12 17))
  · refine ⟨_, rfl, ?_⟩
    have : callClo (T12e Try.prog) (.clo (.func 43) [] []) [chD c] H = liftF F_logic [chD c] H := rfl
    rw [← op_tag _ _ _ 18 19 3 (.inr (.inr ⟨rfl, rfl, rfl⟩))]
    exact this.trans (hp _ _ (ht 18 19))
  · refine ⟨_, rfl, ?_⟩
    have : callClo (T12e Try.prog) (.clo (.func 44) [] []) [chD c] H = liftF F_constant [chD c] H := rfl
    rw [← op_const]
    have h : F_constant [chD c] = _ := f1_enc (A := chT) _ c
    exact this.trans (hp _ _ (by rw [h, if_pos hf]))
  · refine ⟨_, rfl, ?_⟩
    have : callClo (T12e Try.prog) (.clo (.func 45) [] []) [chD c] H = liftF F_remove [chD c] H := rfl
    rw [← op_rem]
    have h : F_remove [chD c] = _ := f1_enc (A := chT) _ c
    exact this.trans (hp _ _ (by rw [h, if_pos hf]))
  · refine ⟨_, rfl, ?_⟩
    have : callClo (T12e Try.prog) (.clo (.func 46) [] []) [chD c] H = liftF F_negate [chD c] H := rfl
    rw [← op_neg]
    have h : F_negate [chD c] = _ := f1_enc (A := chT) _ c
    have hneg : ((nodeAt c.p.body c.k).1 = 23 ∨ (nodeAt c.p.body c.k).1 = 24) ∧ c.n = 0 → c.k + 1 < c.p.body.length := fun hh => by
      obtain ⟨p, k, n⟩ := c
      obtain ⟨k, rfl⟩ := Int.eq_ofNat_of_zero_le hf.1
      simp only at hE hh ⊢
      obtain ⟨hk, h0, har⟩ := at_ar hE
      have hx : nodeAt p.body k = p.body[k] := nodeAt_in _ k hk
      rw [hx] at hh
      have ha : 0 < arAt p.body k := by
        rw [har]
        generalize p.body[k] = x at *
        obtain ⟨t, m⟩ := x
        simp only at hh h0
        rcases hh.1 with rfl | rfl
        · rw [ar_if h0]; omega
        · rw [ar_while h0]; omega
      obtain ⟨f1, f2, f3⟩ := first_kid hE ha
      omega
    exact this.trans (hp _ _ (by rw [h, if_pos ⟨hf.1, by have := hf.2.1; have := hf.1; omega, hneg, hf.2.2⟩]))
  · refine ⟨_, rfl, ?_⟩
    have : callClo (T12e Try.prog) (.clo (.func 47) [] []) [chD c] H = liftF F_answer [chD c] H := rfl
    rw [← op_ans]
    have h : F_answer [chD c] = _ := f1_enc (A := chT) _ c
    exact this.trans (hp _ _ (by rw [h, if_pos hf]))
theorem build_ops : buildA 1 [.v .nilFunc, .v .nilFunc, .v .nilFunc, .v .nilFunc, .v .nilFunc, .v .nilFunc, .v .nilFunc, .v .nilFunc] [(0, .v .nilFunc), (1, .clo (.func 41) [] []), (2, .clo (.func 42) [] []), (3, .clo (.func 43) [] []), (4, .clo (.func 44) [] []), (5, .clo (.func 45) [] []), (6, .clo (.func 46) [] []), (7, .clo (.func 47) [] [])] = some (.agg opsC) := rfl
theorem alloc_ops (t : TypeId) (H : Heap) : allocH t [.v .nilFunc, .v .nilFunc, .v .nilFunc, .v .nilFunc, .v .nilFunc, .v .nilFunc, .v .nilFunc, .v .nilFunc] H = some (.hp H.length 0, H ++ [.cells t 8 [.v .nilFunc, .v .nilFunc, .v .nilFunc, .v .nilFunc, .v .nilFunc, .v .nilFunc, .v .nilFunc, .v .nilFunc]]) := rfl
theorem build_ch (p : Pg) (k n : Int) : buildR [(0, 3), (3, 1), (4, 1)] [iD 0, .v (.slice none 0 0), .v (.slice none 0 0), iD 0, iD 0] [(0, progD p), (1, iD k), (2, iD n)] = some (chD ⟨p, k, n⟩) := rfl
theorem C_DApply : CallOk Try.prog 18 F_DApply := call2 (kp := kp_delta_Apply) T12e_ok mixed Try.func18 (by kernel_rfl) (by decide) fun p d r h => by
  split at h
  case isFalse => cases h
  rename_i hf
  cases h
  have hF := fun H => find_pure p.body d.path H (by have := hf.2.1; omega) (by have := hf.2.2; omega)
  have hs0 : setH 8 (.hp 3 0) (.agg opsC) [.cells 25 3 [iD p.params, intsD p.vars, nodesD p.body], .cells 27 3 [intsD d.path, iD d.op, iD d.n], .cells 25 3 [iD 0, .v (.slice none 0 0), .v (.slice none 0 0)], .cells 63 8 [.v .nilFunc, .v .nilFunc, .v .nilFunc, .v .nilFunc, .v .nilFunc, .v .nilFunc, .v .nilFunc, .v .nilFunc]] =
    some (.v undef, [.cells 25 3 [iD p.params, intsD p.vars, nodesD p.body], .cells 27 3 [intsD d.path, iD d.op, iD d.n], .cells 25 3 [iD 0, .v (.slice none 0 0), .v (.slice none 0 0)], .cells 63 8 opsC]) := rfl
  have hs := fun x y z h1 h2 h3 => set_three [.cells 25 3 [iD p.params, intsD p.vars, nodesD p.body], .cells 27 3 [intsD d.path, iD d.op, iD d.n], .cells 25 3 [iD 0, .v (.slice none 0 0), .v (.slice none 0 0)], .cells 63 8 opsC] 2 25 _ _ _ x y z rfl h1 h2 h3
  have q0 := hs (iD 0) (.v (.slice none 0 0)) (.v (.slice none 0 0)) rfl rfl rfl
  rcases apply_cases p d with ⟨h1, e⟩ | ⟨k, h1, h2, h3, hx, h5, hc⟩
  · rw [e]
    refine ⟨0, _, ?_, Imp.tup (.cons imp_none (.cons (Imp.refl (iD 16)) .nil))⟩
    show outD (textK _ _ _ _ _ [progD p, dlD d] []) = _
    rw [sh_delta_Apply]
    simp [hF, alloc_prog, build_ops, alloc_ops, hs0, h1, build_none, q0]
  · have h0 : ¬ ((k : Int) < 0) := by omega
    by_cases ho : 1 ≤ d.op ∧ d.op ≤ 7
    · have hop := fun H => op_call ⟨p, k, d.n⟩ H d.op ho.1 ho.2 ⟨by simp, by simpa using h2, hf.2.1⟩ h3
      obtain ⟨x, hx1, _⟩ := hop []
      have hop2 : ∀ H, callClo (T12e Try.prog) x [chD ⟨p, k, d.n⟩] H = some (nodesD (opV p.body k d.op d.n), H) := fun H => by
        obtain ⟨y, e1, e2⟩ := hop H
        rw [hx1] at e1
        cases e1
        simpa using e2
      have o1 : ¬ d.op < 1 := by omega
      have o2 : ¬ 8 ≤ d.op := by omega
      have o3 : 0 ≤ d.op := by omega
      have o4 : d.op.toNat < 8 := by omega
      have hia : idxA 8 1 (.hp 3 0) (iD d.op) = some (.hp 3 d.op.toNat) := by simp [idxA, o3, o4]
      have hdr : (List.drop d.op.toNat opsC)[0]? = some x := by rw [List.getElem?_drop]; simpa using hx1
      rcases hc with ⟨hm, e⟩ | ⟨hm, e⟩
      · have hR : opV p.body k d.op d.n = [] := by unfold opV; rw [if_neg hm]
        rw [e]
        refine ⟨0, _, ?_, Imp.tup (.cons imp_none (.cons (Imp.refl (iD 17)) .nil))⟩
        show outD (textK _ _ _ _ _ [progD p, dlD d] []) = _
        rw [sh_delta_Apply]
        simp [hF, alloc_prog, build_ops, alloc_ops, hs0, h1, h0, o1, o2, hia, hx1, prog_agg, build_ch, hop2, hR, build_none, q0]
      · have hR : opV p.body k d.op d.n = changedV p.body k (nodeAt p.body k) d.op d.n := by unfold opV; rw [if_pos hm]
        have hpos := changed_pos h5 h3 hx hm
        have hne : ¬ ((changedV p.body k (nodeAt p.body k) d.op d.n).length : Int) = 0 := by omega
        have q := hs (iD p.params) (intsD p.vars) (nodesD (changedV p.body k (nodeAt p.body k) d.op d.n)) rfl rfl rfl
        have hcl := fun H => cloneI_pure p.vars H (by have := hf.1; omega)
        rw [e]
        refine ⟨0, _, ?_, Imp.refl _⟩
        show outD (textK _ _ _ _ _ [progD p, dlD d] []) = _
        rw [sh_delta_Apply]
        simp only [hR] at hop2
        generalize changedV p.body k (nodeAt p.body k) d.op d.n = R at *
        have hne2 : ¬ R = [] := by
          intro e; subst e; simp at hpos
        simp [hF, alloc_prog, build_ops, alloc_ops, hs0, h1, h0, o1, o2, hia, hx1, prog_agg, build_ch, hop2, hne2, hcl, build_prog, q]
        rfl
    · have hm : ¬ mayV (nodeAt p.body k) d.op d.n := fun h => by have := may_op h; omega
      have e : applyV p d = (⟨0, [], []⟩, 17) := by
        rcases hc with ⟨_, e⟩ | ⟨h, _⟩
        · exact e
        · exact absurd h hm
      rw [e]
      refine ⟨0, _, ?_, Imp.tup (.cons imp_none (.cons (Imp.refl (iD 17)) .nil))⟩
      show outD (textK _ _ _ _ _ [progD p, dlD d] []) = _
      rw [sh_delta_Apply]
      by_cases o1 : d.op < 1
      · simp [hF, alloc_prog, build_ops, alloc_ops, hs0, h1, h0, o1, build_none, q0]
      · have o2 : 8 ≤ d.op := by omega
        simp [hF, alloc_prog, build_ops, alloc_ops, hs0, h1, h0, o1, o2, build_none, q0]
def fs12f (P : Program) : List Entry := (18, true, liftF F_DApply) :: fs12e P
theorem fs12f_ok : ∀ p ∈ fs12f Try.prog, EntryOk Try.prog p := entries_cons (entry_lift C_DApply) <| fs12e_ok
def T12f (P : Program) : Tab := ⟨fs12f P, noYl⟩
theorem T12f_ok : TabOk Try.prog (T12f Try.prog) := tabOk_of fs12f_ok
end Go.Proofs.Ytalehbmgbjiigaa
end

section
namespace Go.Proofs.Ytalehbmgbjiigaa
open Go.RowKit
set_option linter.unusedVariables false
set_option maxRecDepth 100000

def kp_kinds_Size : List Nat := []
theorem sh_kinds_Size (n : Nat) (x0 : D) (h : Heap) : textK Try.prog T08 kp_kinds_Size n Try.f119 [x0] h =
(thn (binK .int .geq x0 (iD 2)) fun y0 =>
condK y0
(thn (binK .int .leq x0 (iD 9)) fun y1 =>
condK y1
(thn (binK .int .sub x0 (iD 1)) fun y2 =>
some (y2, h))
(some ((iD 0), h)))
(some ((iD 0), h))) := by kernel_rfl

def kp_offshootref09_Size : List Nat := []
def kp_offshootref09_typed : List Nat := []
def kp_offshootref09_kind : List Nat := []
def kp_offshootref09_Same : List Nat := []
theorem sh_offshootref09_Same (n : Nat) (x0 x1 : D) (h : Heap) : textK Try.prog T08 kp_offshootref09_Same n Try.f20 [x0, x1] h =
(thnH (boxH 25 x0 h) fun y0 h1 =>
thnH (boxH 25 x1 h1) fun y2 h3 =>
thn (fieldAtH 1 y0) fun y4 =>
thn (loadH none h3 y4) fun y5 =>
thn (fieldAtH 1 y2) fun y6 =>
thn (loadH none h3 y6) fun y7 =>
thnH (liftF F_RefInts [y5, y7] h3) fun y8 h9 =>
thn (fieldAtH 2 y0) fun y10 =>
thn (loadH none h9 y10) fun y11 =>
thn (fieldAtH 2 y2) fun y12 =>
thn (loadH none h9 y12) fun y13 =>
thnH (liftF F_RefSame [y11, y13] h9) fun y14 h15 =>
condK y8
(condK y14
(thn (fieldAtH 0 y0) fun y16 =>
thn (loadH none h15 y16) fun y17 =>
thn (fieldAtH 0 y2) fun y18 =>
thn (loadH none h15 y18) fun y19 =>
thn (binK .int .eql y17 y19) fun y20 =>
some (y20, h15))
(some ((bD false), h15)))
(some ((bD false), h15))) := by kernel_rfl

def kp_offshootref09_Few : List Nat := []
theorem sh_offshootref09_Few (n : Nat) (x0 : D) (h : Heap) : textK Try.prog T08 kp_offshootref09_Few n Try.f16 [x0] h =
(thnH (boxH 25 x0 h) fun y0 h1 =>
thn (fieldAtH 2 y0) fun y2 =>
thn (loadH none h1 y2) fun y3 =>
thn (lenH .sl y3) fun y4 =>
thn (binK .int .leq y4 (iD 60)) fun y5 =>
condK y5
(thn (fieldAtH 1 y0) fun y6 =>
thn (loadH none h1 y6) fun y7 =>
thn (lenH .sl y7) fun y8 =>
thn (binK .int .leq y8 (iD 20)) fun y9 =>
some (y9, h1))
(some ((bD false), h1))) := by kernel_rfl

def kp_slices_Equal___int_int_ : List Nat := [0, 1, 4, 5, 12, 13]
def kp_bits_Mul64 : List Nat := []
theorem sh_bits_Mul64 (n : Nat) (x0 x1 : D) (h : Heap) : textK Try.prog T08 kp_bits_Mul64 n Try.f165 [x0, x1] h =
(thn (binK .int .and x0 (.v (.int .u64 4294967295))) fun y0 =>
thn (binK .int .shr x0 (.v (.int .u64 32))) fun y1 =>
thn (binK .int .and x1 (.v (.int .u64 4294967295))) fun y2 =>
thn (binK .int .shr x1 (.v (.int .u64 32))) fun y3 =>
thn (binK .int .mul y0 y2) fun y4 =>
thn (binK .int .mul y1 y2) fun y5 =>
thn (binK .int .shr y4 (.v (.int .u64 32))) fun y6 =>
thn (binK .int .add y5 y6) fun y7 =>
thn (binK .int .and y7 (.v (.int .u64 4294967295))) fun y8 =>
thn (binK .int .shr y7 (.v (.int .u64 32))) fun y9 =>
thn (binK .int .mul y0 y3) fun y10 =>
thn (binK .int .add y8 y10) fun y11 =>
thn (binK .int .mul y1 y3) fun y12 =>
thn (binK .int .add y12 y9) fun y13 =>
thn (binK .int .shr y11 (.v (.int .u64 32))) fun y14 =>
thn (binK .int .add y13 y14) fun y15 =>
thn (binK .int .mul x0 x1) fun y16 =>
some (.tup [y15, y16], h)) := by kernel_rfl

def kp_offshootref09_blocks : List Nat := [0, 1, 2, 3, 6, 7]
end Go.Proofs.Ytalehbmgbjiigaa
end

section
namespace Go.Proofs.Ytalehbmgbjiigaa
open Go.RowKit
set_option linter.unusedVariables false
set_option linter.unusedSimpArgs false


/-- How many numbers an array has. -/
def sizeV (t : Int) : Int := if 2 ≤ t ∧ t ≤ 9 then t - 1 else 0
def F_Size : List D → Option D := F1 intT fun t => some (iD (sizeV t))
theorem C_Size : CallOk Try.prog 119 F_Size := call1 (kp := kp_kinds_Size) T08_ok mixed Try.func119 (by kernel_rfl) (by decide) fun t d h => by
  cases h
  refine ⟨0, _, ?_, Imp.refl _⟩
  show outD (textK _ _ _ _ _ [iD t] []) = _
  rw [sh_kinds_Size]
  unfold sizeV
  by_cases h1 : 2 ≤ t <;> by_cases h2 : t ≤ 9 <;> simp (disch := omega) [h1, h2, intD_sub]
/-- A variable's type; -1: there is none. -/
def typedV (vs : List Int) (v : Int) : Int := if v < 0 then -1 else vs.getD v.toNat (-1)
def F_typed : List D → Option D := F2 progT intT fun p v => some (iD (typedV p.vars v))
def F_kind : List D → Option D := F2 boolT intT fun b k => some (iD (if b then k else -1))
theorem refInts_pure (a b : List Int) (H : Heap) (ha : a.length ≤ 3000000) (hb : b.length ≤ 3000000) : liftF F_RefInts [intsD a, intsD b] H = some (bD (decide (a = b)), H) := by
  rw [liftF_pure _ _ _ rfl]; simp [F_RefInts, ha, hb]
theorem refSame_pure (a b : List Nd) (H : Heap) (ha : a.length ≤ 3000000) (hb : b.length ≤ 3000000) : liftF F_RefSame [nodesD a, nodesD b] H = some (bD (decide (a = b)), H) := by
  rw [liftF_pure _ _ _ rfl]; simp [F_RefSame, ha, hb]
theorem equalNodes_pure (a b : List Nd) (H : Heap) (ha : a.length ≤ 3000000) (hb : b.length ≤ 3000000) : liftF F_EqualNodes [nodesD a, nodesD b] H = some (bD (decide (a = b)), H) := by
  rw [liftF_pure _ _ _ rfl]; simp [F_EqualNodes, ha, hb]

/-- A program's lists are no longer than any bound that matters. -/
abbrev Pg.fits (p : Pg) : Prop := p.vars.length ≤ 3000000 ∧ p.body.length ≤ 3000000
theorem pg_eq (p q : Pg) : p = q ↔ p.params = q.params ∧ p.vars = q.vars ∧ p.body = q.body := by
  obtain ⟨a, b, c⟩ := p
  obtain ⟨d, e, f⟩ := q
  simp
def F_Same9 : List D → Option D := F2 progT progT fun p q => if p.fits ∧ q.fits then some (bD (decide (p = q))) else none
theorem C_RefSame9 : CallOk Try.prog 20 F_Same9 := call2 (kp := kp_offshootref09_Same) T08_ok mixed Try.func20 (by kernel_rfl) (by decide) fun p q d h => by
  split at h
  case isFalse => cases h
  rename_i hf
  cases h
  refine ⟨0, _, ?_, Imp.refl _⟩
  show outD (textK _ _ _ _ _ [progD p, progD q] []) = _
  rw [sh_offshootref09_Same]
  simp only [pg_eq p q]
  by_cases h1 : p.vars = q.vars <;> by_cases h2 : p.body = q.body <;> by_cases h3 : p.params = q.params <;> simp [refInts_pure, refSame_pure, hf.1.1, hf.1.2, hf.2.1, hf.2.2, h1, h2, h3]

def fewV (p : Pg) : Bool := decide (p.body.length ≤ 60) && decide (p.vars.length ≤ 20)
def F_Few : List D → Option D := F1 progT fun p => some (bD (fewV p))
theorem C_Few : CallOk Try.prog 16 F_Few := call1 (kp := kp_offshootref09_Few) T08_ok mixed Try.func16 (by kernel_rfl) (by decide) fun p d h => by
  cases h
  refine ⟨0, _, ?_, Imp.refl _⟩
  show outD (textK _ _ _ _ _ [progD p] []) = _
  rw [sh_offshootref09_Few]
  unfold fewV
  by_cases h1 : (p.body.length : Int) ≤ 60
  · have h1' : p.body.length ≤ 60 := by omega
    by_cases h2 : (p.vars.length : Int) ≤ 20
    · have h2' : p.vars.length ≤ 20 := by omega
      simp [h1, h2, h1', h2']
    · have h2' : ¬ p.vars.length ≤ 20 := by omega
      simp [h1, h2, h1', h2']
  · have h1' : ¬ p.body.length ≤ 60 := by omega
    simp [h1, h1']

/-- Two lists of ints, held against each other. -/
def F_EqualInts : List D → Option D := F2 intsT intsT fun a b => if a.length ≤ 3000000 ∧ b.length ≤ 3000000 then some (bD (decide (a = b))) else none
end Go.Proofs.Ytalehbmgbjiigaa
end

section
namespace Go.Proofs.Ytalehbmgbjiigaa
open Go.RowKit
set_option linter.unusedVariables false
set_option linter.unusedSimpArgs false

/-- The product of one and a number. -/
def F_Mul : List D → Option D
  | [.v (.int .u64 1), .v (.int .u64 k)] => if 0 ≤ k ∧ k < 4294967296 then some (.tup [.v (.int .u64 0), .v (.int .u64 k)]) else none
  | _ => none
theorem u64_wrap (k : Int) (h0 : 0 ≤ k) (h : k < 18446744073709551616) : IntKind.u64.wrap k = k := by
  unfold IntKind.wrap
  simp [IntKind.signed, IntKind.bits]
  omega
theorem and_low (k : Int) (h0 : 0 ≤ k) (h : k < 4294967296) : intD .and .u64 k 4294967295 = some (.v (.int .u64 k)) := by
  obtain ⟨m, rfl⟩ := Int.eq_ofNat_of_zero_le h0
  have hm : m < 4294967296 := by omega
  have : (BitVec.ofInt IntKind.u64.bits (m : Int) &&& BitVec.ofInt IntKind.u64.bits 4294967295).toNat = m := by
    rw [BitVec.toNat_and]
    have h1 : (BitVec.ofInt IntKind.u64.bits (m : Int)).toNat = m := by
      simp [IntKind.bits]; omega
    have h2 : (BitVec.ofInt IntKind.u64.bits 4294967295).toNat = 2 ^ 32 - 1 := by rfl
    rw [h1, h2, Nat.and_two_pow_sub_one_eq_mod]
    omega
  simp only [intD, this]
  rw [u64_wrap _ (by omega) (by omega)]
theorem shr_low (k : Int) (h0 : 0 ≤ k) (h : k < 4294967296) : binK .int .shr (.v (.int .u64 k)) (.v (.int .u64 32)) = some (.v (.int .u64 0)) := by
  have : k.fdiv 4294967296 = 0 := by
    rw [Int.fdiv_eq_ediv_of_nonneg _ (by omega)]
    exact Int.ediv_eq_zero_of_lt h0 h
  simp [binK, shiftD, IntKind.bits, this]
theorem C_Mul64 : CallOk Try.prog 165 F_Mul := by
  refine call_text (kp := kp_bits_Mul64) T08_ok mixed Try.func165 (by kernel_rfl) (by decide) fun ds d h => ⟨0, ?_⟩
  unfold F_Mul at h
  split at h
  case h_2 => cases h
  rename_i k
  split at h
  case isFalse => cases h
  rename_i hk
  cases h
  rw [sh_bits_Mul64]
  have e1 := and_low 1 (by omega) (by omega)
  have e2 := shr_low 1 (by omega) (by omega)
  have e3 := and_low k hk.1 hk.2
  have e4 := shr_low k hk.1 hk.2
  have e5 := and_low 0 (by omega) (by omega)
  have e6 := shr_low 0 (by omega) (by omega)
  have e7 : intD .mul .u64 1 k = some (.v (.int .u64 k)) := by simp only [intD, Int.one_mul]; rw [u64_wrap _ hk.1 (by omega)]
  have e8 : intD .mul .u64 0 k = some (.v (.int .u64 0)) := by simp only [intD, Int.zero_mul]; rfl
  have e9 : intD .add .u64 0 0 = some (.v (.int .u64 0)) := rfl
  have e10 : intD .mul .u64 1 0 = some (.v (.int .u64 0)) := rfl
  have e11 : intD .mul .u64 0 0 = some (.v (.int .u64 0)) := rfl
  simp [e1, e2, e3, e4, e5, e6, e7, e8, e9, e10, e11]

def blkV (l : List Nd) (ks : List Int) (from_ : Nat) : Bool := (ks.drop from_).all fun k => decide ((l.getD k.toNat (0, 0)).1 = 20)
/-- Are kids blocks, from one on? -/
def F_blocks : List D → Option D := F3 progT intsT intT fun p ks i => if 0 ≤ i ∧ ks.length ≤ 3000000 ∧ (∀ k ∈ ks, 0 ≤ k ∧ k.toNat < p.body.length) then some (bD (blkV p.body ks i.toNat)) else none
/-- A rule: kids of kinds, and the own one; one that asks a variable that is no array; one that asks an array; none. -/
inductive RuleT where
  | plain (ks : List Int) (is : Int)
  | array (ks : List Int) (is : Int)
  | scalar (set : Bool)
  | none
  deriving DecidableEq, Inhabited
def RuleT.enc : RuleT → D
  | .plain ks is => .ifc 142 (.agg [intsD ks, iD is])
  | .array ks is => .ifc 146 (.agg [intsD ks, iD is])
  | .scalar b => .ifc 144 (.agg [bD b])
  | .none => .v .nilIface
def RuleT.dec : D → Option RuleT
  | .ifc t (.agg [ks, .v (.int .i64 is)]) => if t = 142 then (asInts ks).map (RuleT.plain · is) else if t = 146 then (asInts ks).map (RuleT.array · is) else Option.none
  | .ifc t (.agg [.v (.bool b)]) => if t = 144 then some (.scalar b) else Option.none
  | .v .nilIface => some .none
  | _ => Option.none
def ruleT : Dec RuleT := ⟨RuleT.enc, RuleT.dec, fun r => by cases r <;> simp [RuleT.enc, RuleT.dec], fun d r h => by
  unfold RuleT.dec at h
  split at h
  · split at h
    · rename_i he
      obtain ⟨ks, hk, rfl⟩ := Option.map_eq_some_iff.1 h
      subst he
      exact Imp.ifc (Imp.agg (.cons (imp_ints hk) (ImpL.refl _)))
    · split at h
      · rename_i he
        obtain ⟨ks, hk, rfl⟩ := Option.map_eq_some_iff.1 h
        subst he
        exact Imp.ifc (Imp.agg (.cons (imp_ints hk) (ImpL.refl _)))
      · cases h
  · split at h
    · rename_i he
      cases h
      subst he
      exact Imp.refl _
    · cases h
  · cases h; exact Imp.refl _
  · cases h⟩
def ruleKs : List Int := [1, 2, 3, 21, 4, 22, 5, 6, 18, 19, 23, 24, 25, 26, 7, 8, 9, 10, 11, 12, 13, 14, 15, 16, 17]
def ruleRs : List RuleT := [.plain [] 0, .plain [] 1, .scalar false, .scalar true, .array [0] 0, .array [0, 0] 2, .plain [0] 0, .plain [1] 1, .plain [1, 1] 1, .plain [1, 1] 1, .plain [1, 2, 2] 2, .plain [1, 2] 2, .plain [0] 2, .plain [] 2,
  .plain [0, 0] 0, .plain [0, 0] 0, .plain [0, 0] 0, .plain [0, 0] 0, .plain [0, 0] 0, .plain [0, 0] 1, .plain [0, 0] 1, .plain [0, 0] 1, .plain [0, 0] 1, .plain [0, 0] 1, .plain [0, 0] 1]
/-- The rules of all tags, as a map. -/
def rulesD : D := .mv ruleKs (ruleRs.map RuleT.enc)
def isRules : D → Option Unit
  | .mv ks vs => if ks = ruleKs ∧ vs.mapM RuleT.dec = some ruleRs then some () else Option.none
  | _ => Option.none
theorem imp_rules {d : D} (h : isRules d = some ()) : Imp d rulesD := by
  unfold isRules at h
  split at h
  · split at h
    · rename_i hc
      obtain ⟨rfl, h2⟩ := hc
      exact Imp.mv (impL_mapM ruleT _ _ h2)
    · cases h
  · cases h
def F_rules : List D → Option D := F0 (some rulesD)
theorem rules_text : (outD (textK Try.prog T08 [0, 1, 2, 3] 20 Try.f82 [] [])).bind isRules = some () := by kernel_rfl
theorem C_rules : CallOk Try.prog 82 F_rules := call0 (kp := [0, 1, 2, 3]) T08_ok mixed Try.func82 (by kernel_rfl) (by decide) fun d h => by
  cases h
  obtain ⟨d', h1, h2⟩ := Option.bind_eq_some_iff.1 rules_text
  exact ⟨20, d', h1, imp_rules h2⟩

def fs09a : List Entry := (119, true, liftF F_Size) :: (20, true, liftF F_Same9) :: (16, true, liftF F_Few) :: (165, true, liftF F_Mul) :: (82, true, liftF F_rules) :: fs08
theorem fs09a_ok : ∀ p ∈ fs09a, EntryOk Try.prog p := entries_cons (entry_lift C_Size) <| entries_cons (entry_lift C_RefSame9) <| entries_cons (entry_lift C_Few) <| entries_cons (entry_lift C_Mul64) <| entries_cons (entry_lift C_rules) <| fs08_ok
def T09a : Tab := ⟨fs09a, noYl⟩
theorem T09a_ok : TabOk Try.prog T09a := tabOk_of fs09a_ok
end Go.Proofs.Ytalehbmgbjiigaa
end

section
namespace Go.Proofs.Ytalehbmgbjiigaa

def fsB10 : List Entry := fs09a
theorem fsB10_ok : ∀ p ∈ fsB10, EntryOk Try.prog p := fs09a_ok
def TB10 : Tab := ⟨fsB10, noYl⟩
theorem TB10_ok : TabOk Try.prog TB10 := tabOk_of fsB10_ok
end Go.Proofs.Ytalehbmgbjiigaa
end

section
namespace Go.Proofs.Ytalehbmgbjiigaa
open Go.RowKit
set_option linter.unusedVariables false
set_option maxRecDepth 100000

def kp_offshootref01_bytes : List Nat := [0, 1, 4, 5]
theorem sh_offshootref01_bytes (n : Nat) (x0 x1 : D) (h : Heap) : textK Try.prog TB10 kp_offshootref01_bytes n Try.f151 [x0, x1] h =
(leaveK (loopF Try.prog TB10 kp_offshootref01_bytes n Try.f151 0 [x0, x1, (iD 0), (iD 0)] h) (fun j0 s1 h2 =>
condN j0 0
(some ((iD 0), h2))
(none)) (fun s1 h2 =>
some ((s1.getD 2 .undef), h2))) := by kernel_rfl

theorem st_offshootref01_bytes_0 (n : Nat) (s0 s1 s2 s3 : D) (h : Heap) : stepF Try.prog TB10 kp_offshootref01_bytes n Try.f151 0 [s0, s1, s2, s3] h =
(thn (binK .int .lss s3 (iD 10)) fun y0 =>
condK y0
(thn (binK .int .add s1 s3) fun y1 =>
thn (lenH .str s0) fun y2 =>
thn (binK .int .lss y1 y2) fun y3 =>
condK y3
(thn (binK .int .add s1 s3) fun y4 =>
thn (idxS s0 y4) fun y5 =>
thn (binK .int .lss y5 (.v (.int .u8 128))) fun y6 =>
condK y6
(thn (binK .int .add s3 (iD 1)) fun y7 =>
some (.ret, [s0, s1, y7, s3], h))
(thn (binK .int .add s3 (iD 1)) fun y8 =>
some (.normal, [s0, s1, s2, y8], h)))
(some ((.exit 0), [s0, s1, s2, s3], h)))
(some ((.exit 0), [s0, s1, s2, s3], h))) := by kernel_rfl

def kp_offshootref01_value : List Nat := [0, 3, 4]
theorem sh_offshootref01_value (n : Nat) (x0 : D) (h : Heap) : textK Try.prog TB10 kp_offshootref01_value n Try.f152 [x0] h =
(thn (lenH .str x0) fun y0 =>
thn (binK .int .sub y0 (iD 1)) fun y1 =>
leaveK (loopF Try.prog TB10 kp_offshootref01_value n Try.f152 0 [x0, (.v (.int .u64 0)), y1] h) (fun j2 s3 h4 =>
condN j2 0
(some ((s3.getD 1 .undef), h4))
(none)) (fun s3 h4 =>
some (.undef, h4))) := by kernel_rfl

theorem st_offshootref01_value_0 (n : Nat) (s0 s1 s2 : D) (h : Heap) : stepF Try.prog TB10 kp_offshootref01_value n Try.f152 0 [s0, s1, s2] h =
(thn (binK .int .geq s2 (iD 0)) fun y0 =>
condK y0
(thn (binK .int .mul s1 (.v (.int .u64 128))) fun y1 =>
thn (idxS s0 s2) fun y2 =>
thn (intOf64 .u64 y2) fun y3 =>
thn (binK .int .rem y3 (.v (.int .u64 128))) fun y4 =>
thn (binK .int .add y1 y4) fun y5 =>
thn (binK .int .sub s2 (iD 1)) fun y6 =>
some (.normal, [s0, y5, y6], h))
(some ((.exit 0), [s0, s1, s2], h))) := by kernel_rfl

def kp_zigzag_Zag : List Nat := []
theorem sh_zigzag_Zag (n : Nat) (x0 : D) (h : Heap) : textK Try.prog TB10 kp_zigzag_Zag n Try.f129 [x0] h =
(thn (binK .int .shr x0 (.v (.int .u64 1))) fun y0 =>
thn (intOf64 .i64 y0) fun y1 =>
thn (binK .int .and x0 (.v (.int .u64 1))) fun y2 =>
thn (intOf64 .i64 y2) fun y3 =>
thn (negD y3) fun y4 =>
thn (binK .int .xor y1 y4) fun y5 =>
some (y5, h)) := by kernel_rfl

def kp_offshootref02_Zag : List Nat := []
theorem sh_offshootref02_Zag (n : Nat) (x0 : D) (h : Heap) : textK Try.prog TB10 kp_offshootref02_Zag n Try.f146 [x0] h =
(thn (binK .int .rem x0 (.v (.int .u64 2))) fun y0 =>
thn (binK .int .eql y0 (.v (.int .u64 0))) fun y1 =>
condK y1
(thn (binK .int .quo x0 (.v (.int .u64 2))) fun y2 =>
thn (intOf64 .i64 y2) fun y3 =>
some (y3, h))
(thn (binK .int .quo x0 (.v (.int .u64 2))) fun y4 =>
thn (intOf64 .i64 y4) fun y5 =>
thn (binK .int .sub (iD 0) y5) fun y6 =>
thn (binK .int .sub y6 (iD 1)) fun y7 =>
some (y7, h))) := by kernel_rfl

def kp_offshootref02_Zig : List Nat := []
theorem sh_offshootref02_Zig (n : Nat) (x0 : D) (h : Heap) : textK Try.prog TB10 kp_offshootref02_Zig n Try.f98 [x0] h =
(thn (binK .int .geq x0 (iD 0)) fun y0 =>
condK y0
(thn (intOf64 .u64 x0) fun y1 =>
thn (binK .int .mul (.v (.int .u64 2)) y1) fun y2 =>
some (y2, h))
(thn (binK .int .add x0 (iD 1)) fun y3 =>
thn (binK .int .sub (iD 0) y3) fun y4 =>
thn (intOf64 .u64 y4) fun y5 =>
thn (binK .int .mul (.v (.int .u64 2)) y5) fun y6 =>
thn (binK .int .add y6 (.v (.int .u64 1))) fun y7 =>
some (y7, h))) := by kernel_rfl



def kp_leb_Get : List Nat := [0, 1, 4, 5, 6, 7, 8]
theorem sh_leb_Get (n : Nat) (x0 x1 : D) (h : Heap) : textK Try.prog TB10 kp_leb_Get n Try.f126 [x0, x1] h =
(thn (binK .int .lss x1 (iD 0)) fun y0 =>
condK y0
(some (.tup [(.v (.int .u64 0)), x1, (iD 1)], h))
(thn (lenH .str x0) fun y1 =>
thn (binK .int .gtr x1 y1) fun y2 =>
condK y2
(some (.tup [(.v (.int .u64 0)), x1, (iD 1)], h))
(leaveK (loopF Try.prog TB10 kp_leb_Get n Try.f126 0 [x0, x1, (.v (.int .u64 0)), (iD 0), (iD 0), (.v (.int .u64 0)), (iD 0)] h) (fun j3 s4 h5 =>
condN j3 0
(thn (binK .int .add (s4.getD 1 .undef) (s4.getD 6 .undef)) fun y6 =>
thn (binK .int .sub y6 (iD 1)) fun y7 =>
thn (idxS (s4.getD 0 .undef) y7) fun y8 =>
thn (binK .int .eql y8 (.v (.int .u8 0))) fun y9 =>
condK y9
(thn (binK .int .gtr (s4.getD 6 .undef) (iD 1)) fun y10 =>
condK y10
(some (.tup [(.v (.int .u64 0)), (s4.getD 1 .undef), (iD 3)], h5))
(thn (binK .int .eql (s4.getD 6 .undef) (iD 10)) fun y11 =>
condK y11
(thn (binK .int .add (s4.getD 1 .undef) (s4.getD 6 .undef)) fun y12 =>
thn (binK .int .sub y12 (iD 1)) fun y13 =>
thn (idxS (s4.getD 0 .undef) y13) fun y14 =>
thn (binK .int .gtr y14 (.v (.int .u8 1))) fun y15 =>
condK y15
(some (.tup [(.v (.int .u64 0)), (s4.getD 1 .undef), (iD 3)], h5))
(thn (binK .int .add (s4.getD 1 .undef) (s4.getD 6 .undef)) fun y16 =>
some (.tup [(s4.getD 5 .undef), y16, (iD 0)], h5)))
(thn (binK .int .add (s4.getD 1 .undef) (s4.getD 6 .undef)) fun y17 =>
some (.tup [(s4.getD 5 .undef), y17, (iD 0)], h5))))
(thn (binK .int .eql (s4.getD 6 .undef) (iD 10)) fun y18 =>
condK y18
(thn (binK .int .add (s4.getD 1 .undef) (s4.getD 6 .undef)) fun y19 =>
thn (binK .int .sub y19 (iD 1)) fun y20 =>
thn (idxS (s4.getD 0 .undef) y20) fun y21 =>
thn (binK .int .gtr y21 (.v (.int .u8 1))) fun y22 =>
condK y22
(some (.tup [(.v (.int .u64 0)), (s4.getD 1 .undef), (iD 3)], h5))
(thn (binK .int .add (s4.getD 1 .undef) (s4.getD 6 .undef)) fun y23 =>
some (.tup [(s4.getD 5 .undef), y23, (iD 0)], h5)))
(thn (binK .int .add (s4.getD 1 .undef) (s4.getD 6 .undef)) fun y24 =>
some (.tup [(s4.getD 5 .undef), y24, (iD 0)], h5))))
(none)) (fun s4 h5 =>
some (.tup [(s4.getD 2 .undef), (s4.getD 3 .undef), (s4.getD 4 .undef)], h5))))) := by kernel_rfl

theorem st_leb_Get_0 (n : Nat) (s0 s1 s2 s3 s4 s5 s6 : D) (h : Heap) : stepF Try.prog TB10 kp_leb_Get n Try.f126 0 [s0, s1, s2, s3, s4, s5, s6] h =
(thn (binK .int .eql s6 (iD 10)) fun y0 =>
condK y0
(some (.ret, [s0, s1, (.v (.int .u64 0)), s1, (iD 3), s5, s6], h))
(thn (binK .int .add s1 s6) fun y1 =>
thn (lenH .str s0) fun y2 =>
thn (binK .int .eql y1 y2) fun y3 =>
condK y3
(some (.ret, [s0, s1, (.v (.int .u64 0)), s1, (iD 2), s5, s6], h))
(thn (binK .int .add s1 s6) fun y4 =>
thn (idxS s0 y4) fun y5 =>
thn (binK .int .and y5 (.v (.int .u8 127))) fun y6 =>
thn (intOf64 .u64 y6) fun y7 =>
thn (binK .int .mul (iD 7) s6) fun y8 =>
thn (binK .int .shl y7 y8) fun y9 =>
thn (binK .int .or s5 y9) fun y10 =>
thn (binK .int .add s6 (iD 1)) fun y11 =>
thn (binK .int .lss y5 (.v (.int .u8 128))) fun y12 =>
condK y12
(some ((.exit 0), [s0, s1, s2, s3, s4, y10, y11], h))
(some (.normal, [s0, s1, s2, s3, s4, y10, y11], h))))) := by kernel_rfl

end Go.Proofs.Ytalehbmgbjiigaa
end

section
namespace Go.Proofs.Ytalehbmgbjiigaa
open Go.RowKit
set_option linter.unusedVariables false
set_option linter.unusedSimpArgs false

/-- A number's bytes; so many groups ahead of the last one at most. -/
def putF : Nat → Int → By
  | 0, n => [b8 n]
  | f + 1, n => if n < 128 then [b8 n] else b8 (128 + n % 128) :: putF f (n / 128)
def putV (n : Int) : By := putF 9 n
theorem putF_len : ∀ (f : Nat) (n : Int), 1 ≤ (putF f n).length ∧ (putF f n).length ≤ f + 1
  | 0, n => by simp [putF]
  | f + 1, n => by
    unfold putF
    split
    · simp
    · have := putF_len f (n / 128)
      simp only [List.length_cons]; omega
theorem putV_len (n : Int) : 1 ≤ (putV n).length ∧ (putV n).length ≤ 10 := putF_len 9 n

/-- Two numbers' bits. -/
def orI (a b : Int) : Int := IntKind.u64.wrap (BitVec.ofInt 64 a ||| BitVec.ofInt 64 b).toNat
def grpI (b : UInt8) (k : Nat) : Int := IntKind.u64.wrap ((IntKind.u64.wrap (IntKind.u8.wrap (BitVec.ofInt 8 b.toNat &&& BitVec.ofInt 8 127).toNat)) * 2 ^ (min (7 * k) 64))
/-- What reading groups comes to: the number, how many, the last one; or what is wrong. -/
inductive Lb where
  | got (n : Int) (k : Nat) (b : UInt8)
  | bad (e : Int)
/-- From the k-th group on. -/
def lebF : Nat → By → Nat → Int → Lb
  | 0, _, _, _ => .bad 3
  | f + 1, l, k, n =>
    match l with
    | [] => .bad 2
    | b :: r => if b.toNat < 128 then .got (orI n (grpI b k)) (k + 1) b else lebF f r (k + 1) (orI n (grpI b k))
/-- The number at a place, the place behind it, what is wrong. -/
def lebV (s : By) (i : Nat) : Int × Nat × Int :=
  match lebF 10 (s.drop i) 0 0 with
  | .bad e => (0, i, e)
  | .got n k b => if (b = 0 ∧ 1 < k) ∨ (k = 10 ∧ 1 < b.toNat) then (0, i, 3) else (n, i + k, 0)
theorem lebF_in : ∀ (f : Nat) (l : By) (k : Nat) (n : Int) (m : Int) (j : Nat) (b : UInt8), lebF f l k n = .got m j b → k < j ∧ j ≤ k + l.length ∧ j ≤ k + f ∧ l[j - k - 1]? = some b
  | 0, l, k, n, m, j, b, h => by cases h
  | f + 1, [], k, n, m, j, b, h => by cases h
  | f + 1, x :: r, k, n, m, j, b, h => by
    simp only [lebF] at h
    split at h
    · cases h
      simp
    · obtain ⟨h1, h2, h3, h4⟩ := lebF_in f r (k + 1) _ m j b h
      simp only [List.length_cons]
      refine ⟨by omega, by omega, by omega, ?_⟩
      rw [show j - k - 1 = (j - (k + 1) - 1) + 1 from by omega, List.getElem?_cons_succ]
      exact h4
theorem lebV_in (s : By) (i : Nat) : (lebV s i).2.1 ≤ max i s.length ∧ i ≤ (lebV s i).2.1 := by
  unfold lebV
  split
  · simp only; omega
  · rename_i n k b h
    have := lebF_in _ _ _ _ _ _ _ h
    simp only [List.length_drop] at this
    split <;> simp only <;> omega

/-- The bits of groups are added up. -/
theorem orI_add (a d : Int) (j : Nat) (ha : 0 ≤ a) (haj : a < 2 ^ j) (hd : 0 ≤ d) (hs : a + d * 2 ^ j < 2 ^ 64) : orI a (d * 2 ^ j) = a + d * 2 ^ j := by
  obtain ⟨x, rfl⟩ := Int.eq_ofNat_of_zero_le ha
  obtain ⟨y, rfl⟩ := Int.eq_ofNat_of_zero_le hd
  have hx : x < 2 ^ j := by exact_mod_cast haj
  have hs' : x + y * 2 ^ j < 2 ^ 64 := by exact_mod_cast hs
  have hor : x ||| (y * 2 ^ j) = x + y * 2 ^ j := by
    rw [Nat.or_comm, Nat.mul_comm, ← Nat.two_pow_add_eq_or_of_lt hx, Nat.add_comm]
  have hx64 : x < 2 ^ 64 := by omega
  have hy64 : y * 2 ^ j < 2 ^ 64 := by omega
  have e1 : (BitVec.ofInt 64 (x : Int)).toNat = x := by simp [Nat.mod_eq_of_lt hx64]
  have e2 : (BitVec.ofInt 64 ((y : Int) * 2 ^ j)).toNat = y * 2 ^ j := by
    have : ((y : Int) * 2 ^ j) = ((y * 2 ^ j : Nat) : Int) := by push_cast; rfl
    rw [this, BitVec.toNat_ofInt]
    generalize y * 2 ^ j = z at hy64
    have : ((2 ^ 64 : Nat) : Int) = 18446744073709551616 := by decide
    rw [this]
    omega
  unfold orI
  rw [BitVec.toNat_or, e1, e2, hor, IntWalk.u64_in _ ⟨by omega, by omega⟩]
  push_cast; rfl
theorem grpI_eq (b : UInt8) (k : Nat) (hk : 7 * k ≤ 64) (hs : ((b.toNat % 128 : Nat) : Int) * 2 ^ (7 * k) < 2 ^ 64) : grpI b k = ((b.toNat % 128 : Nat) : Int) * 2 ^ (7 * k) := by
  have hb := b.toNat_lt
  have hz : b.toNat % 128 < 128 := Nat.mod_lt _ (by omega)
  have e1 : (BitVec.ofInt 8 (b.toNat : Int) &&& BitVec.ofInt 8 127).toNat = b.toNat % 128 := by
    rw [BitVec.toNat_and]
    have h1 : (BitVec.ofInt 8 (b.toNat : Int)).toNat = b.toNat := by simp
    have h2 : (BitVec.ofInt 8 127).toNat = 2 ^ 7 - 1 := by decide
    rw [h1, h2, Nat.and_two_pow_sub_one_eq_mod]
  unfold grpI
  rw [e1]
  generalize b.toNat % 128 = z at *
  have e2 : IntKind.u8.wrap (z : Int) = z := IntWalk.u8_in _ ⟨by omega, by omega⟩
  have e3 : IntKind.u64.wrap (z : Int) = z := IntWalk.u64_in _ ⟨by omega, by omega⟩
  rw [e2, e3, Nat.min_eq_left hk]
  have h0 : (0 : Int) ≤ (z : Int) * 2 ^ (7 * k) := Int.mul_nonneg (by omega) (Int.pow_nonneg (by omega))
  exact IntWalk.u64_in _ ⟨h0, by omega⟩

theorem pow7 (k : Nat) : (2 : Int) ^ (7 * (k + 1)) = 128 * 2 ^ (7 * k) := by
  rw [Nat.mul_add, Nat.mul_one, Int.pow_add, Int.mul_comm]
  congr 1
/-- What was put is read. -/
theorem leb_put : ∀ (f k : Nat) (m a : Int) (t : By), f + k = 9 → 0 ≤ m → 0 ≤ a → a < 2 ^ (7 * k) → a + m * 2 ^ (7 * k) < 2 ^ 64 →
    ∃ b, lebF (f + 1) (putF f m ++ t) k a = .got (a + m * 2 ^ (7 * k)) (k + (putF f m).length) b ∧ (k + (putF f m).length = 10 → b.toNat ≤ 1) ∧ (b = 0 → m = 0) := by
  intro f
  have one : ∀ (f k : Nat) (m a : Int) (t : By), f + k = 9 → 0 ≤ m → m < 128 → 0 ≤ a → a < 2 ^ (7 * k) → a + m * 2 ^ (7 * k) < 2 ^ 64 →
      ∃ b, lebF (f + 1) (b8 m :: t) k a = .got (a + m * 2 ^ (7 * k)) (k + 1) b ∧ (k + 1 = 10 → b.toNat ≤ 1) ∧ (b = 0 → m = 0) := by
    intro f k m a t hf hm hm2 ha hak hs
    have hb := b8_toNat m
    have hbn : (b8 m).toNat < 128 := by omega
    have hmod : (((b8 m).toNat % 128 : Nat) : Int) = m := by omega
    refine ⟨b8 m, ?_, ?_, ?_⟩
    · simp only [lebF]
      rw [if_pos hbn, grpI_eq _ _ (by omega) (by rw [hmod]; omega), hmod, orI_add _ _ _ ha hak hm hs]
    · intro hk
      obtain rfl : k = 9 := by omega
      have : (2 : Int) ^ (7 * 9) = 9223372036854775808 := by decide
      rw [this] at hs
      have h64 : (2 : Int) ^ 64 = 18446744073709551616 := by decide
      rw [h64] at hs
      omega
    · intro h0
      rw [h0] at hb
      have : ((0 : UInt8).toNat : Int) = 0 := rfl
      omega
  induction f with
  | zero =>
    intro k m a t hf hm ha hak hs
    obtain rfl : k = 9 := by omega
    have hm2 : m < 128 := by
      have : (2 : Int) ^ (7 * 9) = 9223372036854775808 := by decide
      rw [this] at hs
      have h64 : (2 : Int) ^ 64 = 18446744073709551616 := by decide
      rw [h64] at hs
      omega
    exact one 0 9 m a t hf hm hm2 ha hak hs
  | succ f ih =>
    intro k m a t hf hm ha hak hs
    unfold putF
    by_cases hm2 : m < 128
    · rw [if_pos hm2]
      exact one (f + 1) k m a t hf hm hm2 ha hak hs
    · rw [if_neg hm2]
      have hb := b8_toNat (128 + m % 128)
      have hbn : ¬ (b8 (128 + m % 128)).toNat < 128 := by omega
      have hmod : (((b8 (128 + m % 128)).toNat % 128 : Nat) : Int) = m % 128 := by omega
      have hp : (0 : Int) ≤ 2 ^ (7 * k) := Int.pow_nonneg (by omega)
      have hsplit : m * 2 ^ (7 * k) = (m % 128) * 2 ^ (7 * k) + (m / 128) * (128 * 2 ^ (7 * k)) := by
        have h1 : m = m % 128 + (m / 128) * 128 := by omega
        have h2 : m * 2 ^ (7 * k) = (m % 128 + (m / 128) * 128) * 2 ^ (7 * k) := by rw [← h1]
        rw [h2, Int.add_mul, Int.mul_assoc]
      have h3 : 0 ≤ (m / 128) * (128 * 2 ^ (7 * k)) := Int.mul_nonneg (by omega) (Int.mul_nonneg (by omega) hp)
      have h4 : 0 ≤ (m % 128) * 2 ^ (7 * k) := Int.mul_nonneg (by omega) hp
      have h5 : (m % 128) * 2 ^ (7 * k) ≤ 127 * 2 ^ (7 * k) := Int.mul_le_mul_of_nonneg_right (by omega) hp
      obtain ⟨b, e1, e2, e3⟩ := ih (k + 1) (m / 128) (a + (m % 128) * 2 ^ (7 * k)) t (by omega) (by omega) (by omega) (by rw [pow7]; omega) (by rw [pow7]; omega)
      refine ⟨b, ?_, ?_, ?_⟩
      · rw [List.cons_append, lebF]
        rw [if_neg hbn, grpI_eq _ _ (by omega) (by rw [hmod]; omega), hmod, orI_add _ _ _ ha hak (by omega) (by omega), e1, pow7, List.length_cons]
        congr 1
        · omega
        · omega
      · intro h; exact e2 (by rw [List.length_cons] at h; omega)
      · intro h; have := e3 h; omega
theorem leb_back (s t : By) (n : Int) (h0 : 0 ≤ n) (h1 : n ≤ 18446744073709551615) : lebV (s ++ (putV n ++ t)) s.length = (n, s.length + (putV n).length, 0) := by
  have h64 : (2 : Int) ^ 64 = 18446744073709551616 := by decide
  obtain ⟨b, e1, e2, e3⟩ := leb_put 9 0 n 0 t rfl h0 (by omega) (by decide) (by simp only [Nat.mul_zero, Int.pow_zero]; omega)
  unfold lebV
  rw [List.drop_left' rfl]
  have e : putV n = putF 9 n := rfl
  rw [e, e1]
  simp only [Nat.mul_zero, Int.pow_zero, Int.mul_one, Int.zero_add, Nat.zero_add]
  rw [if_neg]
  rintro (⟨h2, h3⟩ | ⟨h2, h3⟩)
  · have := e3 h2
    subst this
    have : (putF 9 0).length = 1 := by decide
    omega
  · have := e2 (by omega)
    omega
end Go.Proofs.Ytalehbmgbjiigaa
end
