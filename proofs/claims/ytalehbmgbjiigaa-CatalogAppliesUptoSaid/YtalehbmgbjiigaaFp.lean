/-
  Parts joined into one text: T12d, Sh12d, T12e, Sh12e, T12f, Sh13a, SortV, Cat, DedV. No condition.
-/
import Derived.Test.YtalehbmgbjiigaaFm
import Derived.Test.YtalehbmgbjiigaaFo

section
namespace Go.Proofs.Ytalehbmgbjiigaa
open Go.RowKit
set_option linter.unusedVariables false
set_option linter.unusedSimpArgs false
set_option maxRecDepth 100000

theorem dcompare_pure (a b : Dl) (H : Heap) (ha : a.path.length ≤ 3000000) (hb : b.path.length ≤ 3000000) : liftF F_DCompare [dlD a, dlD b] H = some (iD (cmpDl a b), H) := by
  rw [liftF_pure _ _ _ rfl]
  have : F_DCompare [dlD a, dlD b] = _ := f2_enc (A := dlT) (B := dlT) _ a b
  rw [this, if_pos ⟨ha, hb⟩]; rfl
theorem may_pure (x : Nd) (op n : Int) (H : Heap) : liftF F_may [.agg (nodeD x), iD op, iD n] H = some (bD (decide (mayV x op n)), H) := by
  rw [liftF_pure _ _ _ rfl]
  have : F_may [.agg (nodeD x), iD op, iD n] = _ := f3_enc (A := ndT) (B := intT) (C := intT) _ x op n
  rw [this]; rfl
theorem changed_pure (l : List Nd) (k : Nat) (d : Dl) (H : Heap) (hE : 0 ≤ endv l k) (hm : mayV (nodeAt l k) d.op d.n) (hl : l.length ≤ 300000) : liftF F_changed [nodesD l, iD k, dlD d] H = some (nodesD (changedV l k (nodeAt l k) d.op d.n), H) := by
  rw [liftF_pure _ _ _ rfl]
  have : F_changed [nodesD l, iD k, dlD d] = _ := f3_enc (A := nodesT) (B := intT) (C := dlT) _ l (k : Int) d
  rw [this, if_pos ⟨by omega, hE, hm, hl⟩]; rfl
theorem chPut_pure (c : Chg) (x : Nd) (H : Heap) (h0 : 0 ≤ c.k) (hk : c.k.toNat < c.p.body.length) (hl : c.p.body.length ≤ 1000000) : liftF F_chPut [chD c, .agg (nodeD x)] H = some (nodesD (c.p.body.set c.k.toNat x), H) := by
  rw [liftF_pure _ _ _ rfl]
  have : F_chPut [chD c, .agg (nodeD x)] = _ := f2_enc (A := chT) (B := ndT) _ c x
  rw [this, if_pos ⟨h0, hk, hl⟩]; rfl
theorem chBoth_pure (c : Chg) (lo hi : Int) (H : Heap) (h0 : 0 ≤ c.k) (hk : c.k.toNat < c.p.body.length) : liftF F_chBoth [chD c, iD lo, iD hi] H = some (bD (decide (lo ≤ (nodeAt c.p.body c.k).1 ∧ (nodeAt c.p.body c.k).1 ≤ hi ∧ lo ≤ c.n ∧ c.n ≤ hi)), H) := by
  rw [liftF_pure _ _ _ rfl]
  have : F_chBoth [chD c, iD lo, iD hi] = _ := f3_enc (A := chT) (B := intT) (C := intT) _ c lo hi
  rw [this, if_pos ⟨h0, hk⟩]; rfl
theorem replace_row (l : List Nd) (i : Int) (x : Nd) (o : HO) (t : TypeId) (hl : l.length ≤ 3000000) : liftN F_Replace [nodesD l, iD i, .hs 1 1] [o, .cells t 2 [iD x.1, iD x.2]] = some (nodesD (replV l i [x]), [o, .cells t 2 [iD x.1, iD x.2]]) := by
  have hd : [nodesD l, iD i, D.hs 1 1].mapM (derefN [o, .cells t 2 [iD x.1, iD x.2]] 9) = some [nodesD l, iD i, nodesD [x]] := by
    have := deref_row [o, .cells t 2 [iD x.1, iD x.2]] 8 t 1 [x] rfl
    simp only [List.mapM_cons, List.mapM_nil, derefN_pure _ 9 (nodesD l) rfl, derefN_pure _ 9 (iD i) rfl]
    rw [show (D.hs 1 1) = .hs 1 [x].length from rfl, this]
    rfl
  rw [liftN_obj _ _ _ _ rfl hd]
  simp [F_Replace, hl]
/-- How many nodes an operator is asked about. -/
abbrev Chg.fits (c : Chg) : Prop := 0 ≤ c.k ∧ c.k.toNat < c.p.body.length ∧ c.p.body.length ≤ 300000
def F_DSame : List D → Option D := F2 dlT dlT fun a b => if a.path.length ≤ 3000000 ∧ b.path.length ≤ 3000000 then some (bD (decide (a = b))) else none
theorem C_DSame : CallOk Try.prog 26 F_DSame := call2 (kp := kp_delta_Same) T12c_ok mixed Try.func26 (by kernel_rfl) (by decide) fun a b d h => by
  split at h
  case isFalse => cases h
  rename_i hl
  cases h
  refine ⟨0, _, ?_, Imp.refl _⟩
  show outD (textK _ _ _ _ _ [dlD a, dlD b] []) = _
  rw [sh_delta_Same]
  have hb : (cmpDl a b == 0) = decide (a = b) := by
    rw [Bool.eq_iff_iff]; simp [cmpDl_zero]
  simp [dl_agg, dcompare_pure _ _ _ hl.1 hl.2, hb]
def tagV (l : List Nd) (k : Nat) (n lo hi : Int) : List Nd := if lo ≤ (nodeAt l k).1 ∧ (nodeAt l k).1 ≤ hi ∧ lo ≤ n ∧ n ≤ hi then l.set k (n, (nodeAt l k).2) else []
def F_chTag : List D → Option D := F3 chT intT intT fun c lo hi => if c.fits then some (nodesD (tagV c.p.body c.k.toNat c.n lo hi)) else none
theorem C_chTag : CallOk Try.prog 85 F_chTag := call3 (kp := kp_delta_change__tag) T12c_ok mixed Try.func85 (by kernel_rfl) (by decide) fun c lo hi d h => by
  split at h
  case isFalse => cases h
  rename_i hg
  cases h
  obtain ⟨h0, h1, h2⟩ := hg
  have hc := fun H => chNode_pure c H h0 h1
  have hb := fun H => chBoth_pure c lo hi H h0 h1
  have hp := fun x H => chPut_pure c x H h0 h1 (by omega)
  have hk : ((c.k.toNat : Nat) : Int) = c.k := by omega
  unfold tagV
  rw [hk]
  generalize nodeAt c.p.body c.k = x at *
  by_cases hm : lo ≤ x.1 ∧ x.1 ≤ hi ∧ lo ≤ c.n ∧ c.n ≤ hi
  · refine ⟨0, _, ?_, Imp.refl _⟩
    show outD (textK _ _ _ _ _ [chD c, iD lo, iD hi] []) = _
    rw [sh_delta_change__tag, if_pos hm]
    simp [ch_agg, hc, hb, hm, build_node, hp]
  · refine ⟨0, .v (.slice none 0 0), ?_, by rw [if_neg hm]; exact Imp.nil 2⟩
    show outD (textK _ _ _ _ _ [chD c, iD lo, iD hi] []) = _
    rw [sh_delta_change__tag]
    simp [ch_agg, hc, hb, hm, build_node, hp]
def constV (l : List Nd) (k : Nat) (n : Int) : List Nd := if (nodeAt l k).1 = 1 ∨ ((nodeAt l k).1 = 2 ∧ 0 ≤ n ∧ n ≤ 1) then l.set k ((nodeAt l k).1, n) else []
def F_constant : List D → Option D := F1 chT fun c => if c.fits then some (nodesD (constV c.p.body c.k.toNat c.n)) else none
theorem C_constant : CallOk Try.prog 44 F_constant := call1 (kp := kp_delta_change__constant) T12c_ok mixed Try.func44 (by kernel_rfl) (by decide) fun c d h => by
  split at h
  case isFalse => cases h
  rename_i hg
  cases h
  obtain ⟨h0, h1, h2⟩ := hg
  have hc := fun H => chNode_pure c H h0 h1
  have hp := fun x H => chPut_pure c x H h0 h1 (by omega)
  have hk : ((c.k.toNat : Nat) : Int) = c.k := by omega
  unfold constV
  rw [hk]
  generalize nodeAt c.p.body c.k = x at *
  have ha := alloc_node 46 [.cells 62 5 [iD c.p.params, intsD c.p.vars, nodesD c.p.body, iD c.k, iD c.n]]
  have hs := set_node [.cells 62 5 [iD c.p.params, intsD c.p.vars, nodesD c.p.body, iD c.k, iD c.n], .cells 46 2 [iD 0, iD 0]] 1 46 (iD 0) (iD 0) x rfl
  have g0 : (nodeD x)[0]? = some (iD x.1) := rfl
  by_cases t1 : x.1 = 1
  · refine ⟨0, _, ?_, Imp.refl _⟩
    show outD (textK _ _ _ _ _ [chD c] []) = _
    rw [sh_delta_change__constant, if_pos (.inl t1)]
    simp [ch_agg, hc, alloc_node, hs, g0, t1, build_node, hp]
  · by_cases t2 : x.1 = 2 ∧ 0 ≤ c.n ∧ c.n ≤ 1
    · refine ⟨0, _, ?_, Imp.refl _⟩
      show outD (textK _ _ _ _ _ [chD c] []) = _
      rw [sh_delta_change__constant, if_pos (.inr t2)]
      have q1 : ¬ c.n < 0 := by omega
      have q2 : ¬ 1 < c.n := by omega
      simp [ch_agg, hc, alloc_node, hs, g0, t2.1, q1, q2, build_node, hp]
    · refine ⟨0, .v (.slice none 0 0), ?_, by rw [if_neg (by omega)]; exact Imp.nil 2⟩
      show outD (textK _ _ _ _ _ [chD c] []) = _
      rw [sh_delta_change__constant]
      by_cases t3 : x.1 = 2
      · by_cases q1 : c.n < 0
        · simp [ch_agg, hc, alloc_node, hs, g0, t3, q1]
        · have q2 : 1 < c.n := by omega
          simp [ch_agg, hc, alloc_node, hs, g0, t3, q1, q2]
      · simp [ch_agg, hc, alloc_node, hs, g0, t1, t3]
def remV (l : List Nd) (k : Nat) (n : Int) : List Nd := if ((nodeAt l k).1 = 21 ∨ (nodeAt l k).1 = 22 ∨ (nodeAt l k).1 = 23 ∨ (nodeAt l k).1 = 24 ∨ (nodeAt l k).1 = 25) ∧ n = 0 then replV l k [(26, 0)] else []
def F_remove : List D → Option D := F1 chT fun c => if c.fits then some (nodesD (remV c.p.body c.k.toNat c.n)) else none
theorem C_remove : CallOk Try.prog 45 F_remove := call1 (kp := kp_delta_change__remove) T12c_ok mixed Try.func45 (by kernel_rfl) (by decide) fun c d h => by
  split at h
  case isFalse => cases h
  rename_i hg
  cases h
  obtain ⟨h0, h1, h2⟩ := hg
  have hc := fun H => chNode_pure c H h0 h1
  have hk : ((c.k.toNat : Nat) : Int) = c.k := by omega
  unfold remV
  rw [hk]
  generalize nodeAt c.p.body c.k = x at *
  have hr := replace_row c.p.body c.k (26, 0) (.cells 62 5 [iD c.p.params, intsD c.p.vars, nodesD c.p.body, iD c.k, iD c.n]) 46 (by omega)
  by_cases hn : c.n = 0
  · by_cases ht : x.1 = 21 ∨ x.1 = 22 ∨ x.1 = 23 ∨ x.1 = 24 ∨ x.1 = 25
    · refine ⟨0, _, ?_, Imp.refl _⟩
      show outD (textK _ _ _ _ _ [chD c] []) = _
      rw [sh_delta_change__remove, if_pos ⟨ht, hn⟩]
      obtain ⟨p, k, n⟩ := c
      simp only at hn hc hr
      subst hn
      have hx : D.agg [iD p.params, intsD p.vars, nodesD p.body, iD k, iD 0] = chD ⟨p, k, 0⟩ := rfl
      rcases ht with ht | ht | ht | ht | ht <;> simp [hx, hc, ht, build_tag, row_node, hr]
    · refine ⟨0, .v (.slice none 0 0), ?_, by rw [if_neg (fun h => ht h.1)]; exact Imp.nil 2⟩
      show outD (textK _ _ _ _ _ [chD c] []) = _
      rw [sh_delta_change__remove]
      have t1 : ¬ x.1 = 21 := by omega
      have t2 : ¬ x.1 = 22 := by omega
      have t3 : ¬ x.1 = 23 := by omega
      have t4 : ¬ x.1 = 24 := by omega
      have t5 : ¬ x.1 = 25 := by omega
      simp [ch_agg, hc, t1, t2, t3, t4, t5]
  · refine ⟨0, .v (.slice none 0 0), ?_, by rw [if_neg (fun h => hn h.2)]; exact Imp.nil 2⟩
    show outD (textK _ _ _ _ _ [chD c] []) = _
    rw [sh_delta_change__remove]
    by_cases t1 : x.1 = 21
    · simp [ch_agg, hc, hn, t1]
    by_cases t2 : x.1 = 22
    · simp [ch_agg, hc, hn, t2]
    by_cases t3 : x.1 = 23
    · simp [ch_agg, hc, hn, t3]
    by_cases t4 : x.1 = 24
    · simp [ch_agg, hc, hn, t4]
    by_cases t5 : x.1 = 25
    · simp [ch_agg, hc, hn, t5]
    simp [ch_agg, hc, t1, t2, t3, t4, t5]
def ansV (l : List Nd) (k : Nat) (n : Int) : List Nd := if (nodeAt l k).1 = 25 then replV l ((k + 1 : Nat) : Int) [(1, n)] else []
def F_answer : List D → Option D := F1 chT fun c => if c.fits then some (nodesD (ansV c.p.body c.k.toNat c.n)) else none
theorem C_answer : CallOk Try.prog 47 F_answer := call1 (kp := kp_delta_change__answer) T12c_ok mixed Try.func47 (by kernel_rfl) (by decide) fun c d h => by
  split at h
  case isFalse => cases h
  rename_i hg
  cases h
  obtain ⟨h0, h1, h2⟩ := hg
  have hc := fun H => chNode_pure c H h0 h1
  have hk : ((c.k.toNat : Nat) : Int) = c.k := by omega
  have hk1 : ((c.k.toNat + 1 : Nat) : Int) = c.k + 1 := by omega
  unfold ansV
  rw [hk, hk1]
  generalize nodeAt c.p.body c.k = x at *
  have hr := replace_row c.p.body (c.k + 1) (1, c.n) (.cells 62 5 [iD c.p.params, intsD c.p.vars, nodesD c.p.body, iD c.k, iD c.n]) 46 (by omega)
  have e1 := intD_add c.k 1 (by omega) (by omega)
  by_cases ht : x.1 = 25
  · refine ⟨0, _, ?_, Imp.refl _⟩
    show outD (textK _ _ _ _ _ [chD c] []) = _
    rw [sh_delta_change__answer, if_pos ht]
    simp [ch_agg, hc, ht, build_node, row_node, e1, hr]
  · refine ⟨0, .v (.slice none 0 0), ?_, by rw [if_neg ht]; exact Imp.nil 2⟩
    show outD (textK _ _ _ _ _ [chD c] []) = _
    rw [sh_delta_change__answer]
    simp [ch_agg, hc, ht]
theorem refFind_pure' (l : List Nd) (p : List Int) (H : Heap) (hl : l.length ≤ 300000) (hp : p.length ≤ 300000) : liftF F_RefFind [nodesD l, intsD p] H = some (iD (findv l p), H) := refFind_pure l p H (by omega) (by omega)
theorem alloc_prog (t : TypeId) (H : Heap) : allocH t [iD 0, .v (.slice none 0 0), .v (.slice none 0 0)] H = some (.hp H.length 0, H ++ [.cells t 3 [iD 0, .v (.slice none 0 0), .v (.slice none 0 0)]]) := rfl
theorem set_three (H : Heap) (i : Nat) (t : TypeId) (a b c x y z : D) (h : H[i]? = some (.cells t 3 [a, b, c])) (hx : cellOk x = true) (hy : cellOk y = true) (hz : cellOk z = true) : setH 3 (.hp i 0) (.agg [x, y, z]) H = some (.v undef, H.set i (.cells t 3 [x, y, z])) := by
  simp [setH, storeH, h, cellsD, hx, hy, hz]
theorem build_prog (m : Int) (vs : List Int) (l : List Nd) : buildR [(0, 1), (1, 1), (2, 1)] [iD 0, .v (.slice none 0 0), .v (.slice none 0 0)] [(0, iD m), (1, intsD vs), (2, nodesD l)] = some (.agg [iD m, intsD vs, nodesD l]) := rfl
theorem build_none : buildR [(0, 1), (1, 1), (2, 1)] [iD 0, .v (.slice none 0 0), .v (.slice none 0 0)] [] = some (.agg [iD 0, .v (.slice none 0 0), .v (.slice none 0 0)]) := rfl
theorem imp_none : Imp (.agg [iD 0, .v (.slice none 0 0), .v (.slice none 0 0)]) (progD ⟨0, [], []⟩) := Imp.agg (.cons (Imp.refl _) (.cons (Imp.nil 1) (.cons (Imp.nil 2) .nil)))
/-- A program, and a delta, of lists that are no longer than any bound that matters. -/
abbrev fitsA (p : Pg) (d : Dl) : Prop := p.vars.length ≤ 300000 ∧ p.body.length ≤ 300000 ∧ d.path.length ≤ 300000
def F_DApply : List D → Option D := F2 progT dlT fun p d => if fitsA p d then some (.tup [progD (applyV p d).1, iD (applyV p d).2]) else none
theorem C_RefDApply : CallOk Try.prog 19 F_DApply := call2 (kp := kp_offshootref12_Apply) T12c_ok mixed Try.func19 (by kernel_rfl) (by decide) fun p d r h => by
  split at h
  case isFalse => cases h
  rename_i hf
  cases h
  have hF := fun H => refFind_pure' p.body d.path H hf.2.1 hf.2.2
  have hs := set_three [.cells 25 3 [iD p.params, intsD p.vars, nodesD p.body], .cells 27 3 [intsD d.path, iD d.op, iD d.n], .cells 25 3 [iD 0, .v (.slice none 0 0), .v (.slice none 0 0)]] 2 25 _ _ _ (iD 0) (.v (.slice none 0 0)) (.v (.slice none 0 0)) rfl rfl rfl rfl
  rcases apply_cases p d with ⟨h1, e⟩ | ⟨k, h1, h2, h3, hx, h5, hc⟩
  · rw [e]
    refine ⟨0, _, ?_, Imp.tup (.cons imp_none (.cons (Imp.refl (iD 16)) .nil))⟩
    show outD (textK _ _ _ _ _ [progD p, dlD d] []) = _
    rw [sh_offshootref12_Apply]
    simp [hF, alloc_prog, h1, build_none, hs]
  · have hi := idx_nodesN p.body k h2
    have hn : p.body[k] = nodeAt p.body k := (nodeAt_in _ k h2).symm
    rw [hn] at hi
    have h0 : ¬ ((k : Int) < 0) := by omega
    have ha := alloc_node 46 [.cells 25 3 [iD p.params, intsD p.vars, nodesD p.body], .cells 27 3 [intsD d.path, iD d.op, iD d.n], .cells 25 3 [iD 0, .v (.slice none 0 0), .v (.slice none 0 0)]]
    have hs1 := set_node [.cells 25 3 [iD p.params, intsD p.vars, nodesD p.body], .cells 27 3 [intsD d.path, iD d.op, iD d.n], .cells 25 3 [iD 0, .v (.slice none 0 0), .v (.slice none 0 0)], .cells 46 2 [iD 0, iD 0]] 3 46 (iD 0) (iD 0) (nodeAt p.body k) rfl
    have hm' := fun H => may_pure (nodeAt p.body k) d.op d.n H
    have hs2 := fun x y z h1 h2 h3 => set_three [.cells 25 3 [iD p.params, intsD p.vars, nodesD p.body], .cells 27 3 [intsD d.path, iD d.op, iD d.n], .cells 25 3 [iD 0, .v (.slice none 0 0), .v (.slice none 0 0)], .cells 46 2 (nodeD (nodeAt p.body k))] 2 25 _ _ _ x y z rfl h1 h2 h3
    have hl2 : (nodeD (nodeAt p.body k)).length = 2 := rfl
    have htk : D.agg (List.take 2 (nodeD (nodeAt p.body k))) = .agg (nodeD (nodeAt p.body k)) := rfl
    rcases hc with ⟨hm, e⟩ | ⟨hm, e⟩
    · rw [e]
      refine ⟨0, _, ?_, Imp.tup (.cons imp_none (.cons (Imp.refl (iD 17)) .nil))⟩
      show outD (textK _ _ _ _ _ [progD p, dlD d] []) = _
      rw [sh_offshootref12_Apply]
      have q := hs2 (iD 0) (.v (.slice none 0 0)) (.v (.slice none 0 0)) rfl rfl rfl
      simp [hF, alloc_prog, h1, h0, hi, alloc_node, hs1, hl2, htk, hm', hm, build_none, q]
    · rw [e]
      have hch := fun H => changed_pure p.body k d H h3 hm hf.2.1
      refine ⟨0, _, ?_, Imp.refl _⟩
      show outD (textK _ _ _ _ _ [progD p, dlD d] []) = _
      rw [sh_offshootref12_Apply]
      have q := hs2 (iD p.params) (intsD p.vars) (nodesD (changedV p.body k (nodeAt p.body k) d.op d.n)) rfl rfl rfl
      simp [hF, alloc_prog, h1, h0, hi, alloc_node, hs1, hl2, htk, hm', hm, dl_agg, hch, build_prog, q]
      rfl
def fs12d (P : Program) : List Entry := (26, true, liftF F_DSame) :: (85, true, liftF F_chTag) :: (44, true, liftF F_constant) :: (45, true, liftF F_remove) :: (47, true, liftF F_answer) :: (19, true, liftF F_DApply) :: fs12c P
theorem fs12d_ok : ∀ p ∈ fs12d Try.prog, EntryOk Try.prog p := entries_cons (entry_lift C_DSame) <| entries_cons (entry_lift C_chTag) <| entries_cons (entry_lift C_constant) <| entries_cons (entry_lift C_remove) <| entries_cons (entry_lift C_answer) <| entries_cons (entry_lift C_RefDApply) <| fs12c_ok
def T12d (P : Program) : Tab := ⟨fs12d P, noYl⟩
theorem T12d_ok : TabOk Try.prog (T12d Try.prog) := tabOk_of fs12d_ok
end Go.Proofs.Ytalehbmgbjiigaa
end

section
namespace Go.Proofs.Ytalehbmgbjiigaa
open Go.RowKit
set_option linter.unusedVariables false
set_option maxRecDepth 100000

def kp_delta_change__arith : List Nat := []
theorem sh_delta_change__arith (n : Nat) (x0 : D) (h : Heap) : textK Try.prog (T12d Try.prog) kp_delta_change__arith n Try.f41 [x0] h =
(thnH (boxH 62 x0 h) fun y0 h1 =>
thn (loadH (some 5) h1 y0) fun y2 =>
thnH (liftF F_chTag [y2, (iD 7), (iD 11)] h1) fun y3 h4 =>
some (y3, h4)) := by kernel_rfl

def kp_delta_change__rel : List Nat := []
theorem sh_delta_change__rel (n : Nat) (x0 : D) (h : Heap) : textK Try.prog (T12d Try.prog) kp_delta_change__rel n Try.f42 [x0] h =
(thnH (boxH 62 x0 h) fun y0 h1 =>
thn (loadH (some 5) h1 y0) fun y2 =>
thnH (liftF F_chTag [y2, (iD 12), (iD 17)] h1) fun y3 h4 =>
some (y3, h4)) := by kernel_rfl

def kp_delta_change__logic : List Nat := []
theorem sh_delta_change__logic (n : Nat) (x0 : D) (h : Heap) : textK Try.prog (T12d Try.prog) kp_delta_change__logic n Try.f43 [x0] h =
(thnH (boxH 62 x0 h) fun y0 h1 =>
thn (loadH (some 5) h1 y0) fun y2 =>
thnH (liftF F_chTag [y2, (iD 18), (iD 19)] h1) fun y3 h4 =>
some (y3, h4)) := by kernel_rfl

end Go.Proofs.Ytalehbmgbjiigaa
end

section
namespace Go.Proofs.Ytalehbmgbjiigaa
open Go.RowKit
set_option linter.unusedVariables false
set_option linter.unusedSimpArgs false
set_option maxRecDepth 100000

theorem chTag_pure (c : Chg) (lo hi : Int) (H : Heap) (h : c.fits) : liftF F_chTag [chD c, iD lo, iD hi] H = some (nodesD (tagV c.p.body c.k.toNat c.n lo hi), H) := by
  rw [liftF_pure _ _ _ rfl]
  have : F_chTag [chD c, iD lo, iD hi] = _ := f3_enc (A := chT) (B := intT) (C := intT) _ c lo hi
  rw [this, if_pos h]; rfl
def F_tags (lo hi : Int) : List D → Option D := F1 chT fun c => if c.fits then some (nodesD (tagV c.p.body c.k.toNat c.n lo hi)) else none
def F_arith : List D → Option D := F_tags 7 11
def F_rel : List D → Option D := F_tags 12 17
def F_logic : List D → Option D := F_tags 18 19
theorem C_arith : CallOk Try.prog 41 F_arith := call1 (kp := kp_delta_change__arith) T12d_ok mixed Try.func41 (by kernel_rfl) (by decide) fun c d h => by
  split at h
  case isFalse => cases h
  rename_i hg
  cases h
  refine ⟨0, _, ?_, Imp.refl _⟩
  show outD (textK _ _ _ _ _ [chD c] []) = _
  rw [sh_delta_change__arith]
  simp [ch_agg, chTag_pure c _ _ _ hg]
theorem C_rel : CallOk Try.prog 42 F_rel := call1 (kp := kp_delta_change__rel) T12d_ok mixed Try.func42 (by kernel_rfl) (by decide) fun c d h => by
  split at h
  case isFalse => cases h
  rename_i hg
  cases h
  refine ⟨0, _, ?_, Imp.refl _⟩
  show outD (textK _ _ _ _ _ [chD c] []) = _
  rw [sh_delta_change__rel]
  simp [ch_agg, chTag_pure c _ _ _ hg]
theorem C_logic : CallOk Try.prog 43 F_logic := call1 (kp := kp_delta_change__logic) T12d_ok mixed Try.func43 (by kernel_rfl) (by decide) fun c d h => by
  split at h
  case isFalse => cases h
  rename_i hg
  cases h
  refine ⟨0, _, ?_, Imp.refl _⟩
  show outD (textK _ _ _ _ _ [chD c] []) = _
  rw [sh_delta_change__logic]
  simp [ch_agg, chTag_pure c _ _ _ hg]
def fs12e (P : Program) : List Entry := (41, true, liftF F_arith) :: (42, true, liftF F_rel) :: (43, true, liftF F_logic) :: fs12d P
theorem fs12e_ok : ∀ p ∈ fs12e Try.prog, EntryOk Try.prog p := entries_cons (entry_lift C_arith) <| entries_cons (entry_lift C_rel) <| entries_cons (entry_lift C_logic) <| fs12d_ok
def T12e (P : Program) : Tab := ⟨fs12e P, noYl⟩
theorem T12e_ok : TabOk Try.prog (T12e Try.prog) := tabOk_of fs12e_ok
end Go.Proofs.Ytalehbmgbjiigaa
end

section
namespace Go.Proofs.Ytalehbmgbjiigaa
open Go.RowKit
set_option linter.unusedVariables false
set_option maxRecDepth 100000

def kp_delta_Apply : List Nat := []
theorem sh_delta_Apply (n : Nat) (x0 x1 : D) (h : Heap) : textK Try.prog (T12e Try.prog) kp_delta_Apply n Try.f18 [x0, x1] h =
(thnH (boxH 25 x0 h) fun y0 h1 =>
thnH (boxH 27 x1 h1) fun y2 h3 =>
thnH (allocH 25 [(iD 0), (.v (.slice none 0 0)), (.v (.slice none 0 0))] h3) fun y4 h5 =>
thn (buildA 1 [(.v .nilFunc), (.v .nilFunc), (.v .nilFunc), (.v .nilFunc), (.v .nilFunc), (.v .nilFunc), (.v .nilFunc), (.v .nilFunc)] [(0, (.v .nilFunc)), (1, (.clo (.func 41) [] [])), (2, (.clo (.func 42) [] [])), (3, (.clo (.func 43) [] [])), (4, (.clo (.func 44) [] [])), (5, (.clo (.func 45) [] [])), (6, (.clo (.func 46) [] [])), (7, (.clo (.func 47) [] []))]) fun y6 =>
thnH (allocH 63 [(.v .nilFunc), (.v .nilFunc), (.v .nilFunc), (.v .nilFunc), (.v .nilFunc), (.v .nilFunc), (.v .nilFunc), (.v .nilFunc)] h5) fun y7 h8 =>
thnH (setH 8 y7 y6 h8) fun y9 h10 =>
thn (fieldAtH 2 y0) fun y11 =>
thn (loadH none h10 y11) fun y12 =>
thn (fieldAtH 0 y2) fun y13 =>
thn (loadH none h10 y13) fun y14 =>
thnH (liftF F_Find [y12, y14] h10) fun y15 h16 =>
thn (binK .int .lss y15 (iD 0)) fun y17 =>
condK y17
(thn (buildR [(0, 1), (1, 1), (2, 1)] [(iD 0), (.v (.slice none 0 0)), (.v (.slice none 0 0))] []) fun y18 =>
thnH (setH 3 y4 y18 h16) fun y19 h20 =>
thn (loadH (some 3) h20 y4) fun y21 =>
some (.tup [y21, (iD 16)], h20))
(thn (fieldAtH 1 y2) fun y22 =>
thn (loadH none h16 y22) fun y23 =>
thn (binK .int .lss y23 (iD 1)) fun y24 =>
condK y24
(thn (buildR [(0, 1), (1, 1), (2, 1)] [(iD 0), (.v (.slice none 0 0)), (.v (.slice none 0 0))] []) fun y25 =>
thnH (setH 3 y4 y25 h16) fun y26 h27 =>
thn (loadH (some 3) h27 y4) fun y28 =>
some (.tup [y28, (iD 17)], h27))
(thn (fieldAtH 1 y2) fun y29 =>
thn (loadH none h16 y29) fun y30 =>
thn (binK .int .geq y30 (iD 8)) fun y31 =>
condK y31
(thn (buildR [(0, 1), (1, 1), (2, 1)] [(iD 0), (.v (.slice none 0 0)), (.v (.slice none 0 0))] []) fun y32 =>
thnH (setH 3 y4 y32 h16) fun y33 h34 =>
thn (loadH (some 3) h34 y4) fun y35 =>
some (.tup [y35, (iD 17)], h34))
(thn (fieldAtH 1 y2) fun y36 =>
thn (loadH none h16 y36) fun y37 =>
thn (idxA 8 1 y7 y37) fun y38 =>
thn (loadH none h16 y38) fun y39 =>
thn (loadH (some 3) h16 y0) fun y40 =>
thn (fieldAtH 2 y2) fun y41 =>
thn (loadH none h16 y41) fun y42 =>
thn (buildR [(0, 3), (3, 1), (4, 1)] [(iD 0), (.v (.slice none 0 0)), (.v (.slice none 0 0)), (iD 0), (iD 0)] [(0, y40), (1, y15), (2, y42)]) fun y43 =>
thnH (callClo (T12e Try.prog) y39 [y43] h16) fun y44 h45 =>
thn (lenH .sl y44) fun y46 =>
thn (binK .int .eql y46 (iD 0)) fun y47 =>
condK y47
(thn (buildR [(0, 1), (1, 1), (2, 1)] [(iD 0), (.v (.slice none 0 0)), (.v (.slice none 0 0))] []) fun y48 =>
thnH (setH 3 y4 y48 h45) fun y49 h50 =>
thn (loadH (some 3) h50 y4) fun y51 =>
some (.tup [y51, (iD 17)], h50))
(thn (fieldAtH 0 y0) fun y52 =>
thn (loadH none h45 y52) fun y53 =>
thn (fieldAtH 1 y0) fun y54 =>
thn (loadH none h45 y54) fun y55 =>
thnH (liftN F_CloneI [y55] h45) fun y56 h57 =>
thn (buildR [(0, 1), (1, 1), (2, 1)] [(iD 0), (.v (.slice none 0 0)), (.v (.slice none 0 0))] [(0, y53), (1, y56), (2, y44)]) fun y58 =>
thnH (setH 3 y4 y58 h57) fun y59 h60 =>
thn (loadH (some 3) h60 y4) fun y61 =>
some (.tup [y61, (iD 0)], h60)))))) := by kernel_rfl

end Go.Proofs.Ytalehbmgbjiigaa
end

section
namespace Go.Proofs.Ytalehbmgbjiigaa
open Go.RowKit
set_option linter.unusedVariables false
set_option linter.unusedSimpArgs false
set_option maxRecDepth 100000

/- Each operator does what is told of it. -/
theorem op_tag (l : List Nd) (k : Nat) (n lo hi op : Int) (h : (op = 1 ∧ lo = 7 ∧ hi = 11) ∨ (op = 2 ∧ lo = 12 ∧ hi = 17) ∨ (op = 3 ∧ lo = 18 ∧ hi = 19)) : tagV l k n lo hi = opV l k op n := by
  have hm : mayV (nodeAt l k) op n ↔ lo ≤ (nodeAt l k).1 ∧ (nodeAt l k).1 ≤ hi ∧ lo ≤ n ∧ n ≤ hi := by
    unfold mayV
    rcases h with ⟨rfl, rfl, rfl⟩ | ⟨rfl, rfl, rfl⟩ | ⟨rfl, rfl, rfl⟩ <;> simp
  unfold tagV opV
  by_cases hm' : mayV (nodeAt l k) op n
  · rw [if_pos hm', if_pos (hm.1 hm')]
    unfold changedV
    rw [if_pos (by omega)]
  · rw [if_neg hm', if_neg (fun h => hm' (hm.2 h))]
theorem op_const (l : List Nd) (k : Nat) (n : Int) : constV l k n = opV l k 4 n := by
  unfold constV opV
  by_cases hm : mayV (nodeAt l k) 4 n
  · rw [if_pos hm, if_pos (by unfold mayV at hm; omega)]; rfl
  · rw [if_neg hm, if_neg (by unfold mayV at hm; omega)]
theorem op_rem (l : List Nd) (k : Nat) (n : Int) : remV l k n = opV l k 5 n := by
  unfold remV opV
  by_cases hm : mayV (nodeAt l k) 5 n
  · rw [if_pos hm, if_pos (by unfold mayV at hm; omega)]; rfl
  · rw [if_neg hm, if_neg (by unfold mayV at hm; omega)]
theorem op_neg (l : List Nd) (k : Nat) (n : Int) : negV l k n = opV l k 6 n := by
  unfold negV opV
  by_cases hm : mayV (nodeAt l k) 6 n
  · rw [if_pos hm, if_pos (by unfold mayV at hm; omega)]; rfl
  · rw [if_neg hm, if_neg (by unfold mayV at hm; omega)]
theorem op_ans (l : List Nd) (k : Nat) (n : Int) : ansV l k n = opV l k 7 n := by
  unfold ansV opV
  by_cases hm : mayV (nodeAt l k) 7 n
  · rw [if_pos hm, if_pos (by unfold mayV at hm; omega)]; rfl
  · rw [if_neg hm, if_neg (by unfold mayV at hm; omega)]
def opsC : List D := [.v .nilFunc, .clo (.func 41) [] [], .clo (.func 42) [] [], .clo (.func 43) [] [], .clo (.func 44) [] [], .clo (.func 45) [] [], .clo (.func 46) [] [], .clo (.func 47) [] []]
theorem op_call (c : Chg) (H : Heap) (op : Int) (h1 : 1 ≤ op) (h7 : op ≤ 7) (hf : c.fits) (hE : 0 ≤ endv c.p.body c.k) : ∃ x, opsC[op.toNat]? = some x ∧ callClo (T12e Try.prog) x [chD c] H = some (nodesD (opV c.p.body c.k.toNat op c.n), H) := by
  have hp : ∀ (F : List D → Option D) (l : List Nd), F [chD c] = some (nodesD l) → liftF F [chD c] H = some (nodesD l, H) := fun F l h => by
    rw [liftF_pure _ _ _ rfl, h]; rfl
  have hop : op = 1 ∨ op = 2 ∨ op = 3 ∨ op = 4 ∨ op = 5 ∨ op = 6 ∨ op = 7 := by omega
  have ht : ∀ lo hi, F_tags lo hi [chD c] = some (nodesD (tagV c.p.body c.k.toNat c.n lo hi)) := fun lo hi => by
    have : F_tags lo hi [chD c] = _ := f1_enc (A := chT) _ c
    rw [this, if_pos hf]
  rcases hop with rfl | rfl | rfl | rfl | rfl | rfl | rfl
  · refine ⟨_, rfl, ?_⟩
    have : callClo (T12e Try.prog) (.clo (.func 41) [] []) [chD c] H = liftF F_arith [chD c] H := rfl
    rw [← op_tag _ _ _ 7 11 1 (.inl ⟨rfl, rfl, rfl⟩)]
    exact this.trans (hp _ _ (ht 7 11))
  · refine ⟨_, rfl, ?_⟩
    have : callClo (T12e Try.prog) (.clo (.func 42) [] []) [chD c] H = liftF F_rel [chD c] H := rfl
    rw [← op_tag _ _ _ 12 17 2 (.inr (.inl ⟨rfl, rfl, rfl⟩))]
    exact this.trans (hp _ _ (ht 12 17))
  · refine ⟨_, rfl, ?_⟩
    have : callClo (T12e Try.prog) (.clo (.func 43) [] []) [chD c] H = liftF F_logic [chD c] H := rfl
    rw [← op_tag _ _ _ 18 19 3 (.inr (.inr ⟨rfl, rfl, rfl⟩))]
    exact this.trans (hp _ _ (ht 18 19))
  · refine ⟨_, rfl, ?_⟩
    have : callClo (T12e Try.prog) (.clo (.func 44) [] []) [chD c] H = liftF F_constant [chD c] H := rfl
    rw [← op_const]
    have h : F_constant [chD c] = _ := f1_enc (A := chT) _ c
    exact this.trans (hp _ _ (by rw [h, if_pos hf]))
  · refine ⟨_, rfl, ?_⟩
    have : callClo (T12e Try.prog) (.clo (.func 45) [] []) [chD c] H = liftF F_remove [chD c] H := rfl
    rw [← op_rem]
    have h : F_remove [chD c] = _ := f1_enc (A := chT) _ c
    exact this.trans (hp _ _ (by rw [h, if_pos hf]))
  · refine ⟨_, rfl, ?_⟩
    have : callClo (T12e Try.prog) (.clo (.func 46) [] []) [chD c] H = liftF F_negate [chD c] H := rfl
    rw [← op_neg]
    have h : F_negate [chD c] = _ := f1_enc (A := chT) _ c
    have hneg : ((nodeAt c.p.body c.k).1 = 23 ∨ (nodeAt c.p.body c.k).1 = 24) ∧ c.n = 0 → c.k + 1 < c.p.body.length := fun hh => by
      obtain ⟨p, k, n⟩ := c
      obtain ⟨k, rfl⟩ := Int.eq_ofNat_of_zero_le hf.1
      simp only at hE hh ⊢
      obtain ⟨hk, h0, har⟩ := at_ar hE
      have hx : nodeAt p.body k = p.body[k] := nodeAt_in _ k hk
      rw [hx] at hh
      have ha : 0 < arAt p.body k := by
        rw [har]
        generalize p.body[k] = x at *
        obtain ⟨t, m⟩ := x
        simp only at hh h0
        rcases hh.1 with rfl | rfl
        · rw [ar_if h0]; omega
        · rw [ar_while h0]; omega
      obtain ⟨f1, f2, f3⟩ := first_kid hE ha
      omega
    exact this.trans (hp _ _ (by rw [h, if_pos ⟨hf.1, by have := hf.2.1; have := hf.1; omega, hneg, hf.2.2⟩]))
  · refine ⟨_, rfl, ?_⟩
    have : callClo (T12e Try.prog) (.clo (.func 47) [] []) [chD c] H = liftF F_answer [chD c] H := rfl
    rw [← op_ans]
    have h : F_answer [chD c] = _ := f1_enc (A := chT) _ c
    exact this.trans (hp _ _ (by rw [h, if_pos hf]))
theorem build_ops : buildA 1 [.v .nilFunc, .v .nilFunc, .v .nilFunc, .v .nilFunc, .v .nilFunc, .v .nilFunc, .v .nilFunc, .v .nilFunc] [(0, .v .nilFunc), (1, .clo (.func 41) [] []), (2, .clo (.func 42) [] []), (3, .clo (.func 43) [] []), (4, .clo (.func 44) [] []), (5, .clo (.func 45) [] []), (6, .clo (.func 46) [] []), (7, .clo (.func 47) [] [])] = some (.agg opsC) := rfl
theorem alloc_ops (t : TypeId) (H : Heap) : allocH t [.v .nilFunc, .v .nilFunc, .v .nilFunc, .v .nilFunc, .v .nilFunc, .v .nilFunc, .v .nilFunc, .v .nilFunc] H = some (.hp H.length 0, H ++ [.cells t 8 [.v .nilFunc, .v .nilFunc, .v .nilFunc, .v .nilFunc, .v .nilFunc, .v .nilFunc, .v .nilFunc, .v .nilFunc]]) := rfl
theorem build_ch (p : Pg) (k n : Int) : buildR [(0, 3), (3, 1), (4, 1)] [iD 0, .v (.slice none 0 0), .v (.slice none 0 0), iD 0, iD 0] [(0, progD p), (1, iD k), (2, iD n)] = some (chD ⟨p, k, n⟩) := rfl
theorem C_DApply : CallOk Try.prog 18 F_DApply := call2 (kp := kp_delta_Apply) T12e_ok mixed Try.func18 (by kernel_rfl) (by decide) fun p d r h => by
  split at h
  case isFalse => cases h
  rename_i hf
  cases h
  have hF := fun H => find_pure p.body d.path H (by have := hf.2.1; omega) (by have := hf.2.2; omega)
  have hs0 : setH 8 (.hp 3 0) (.agg opsC) [.cells 25 3 [iD p.params, intsD p.vars, nodesD p.body], .cells 27 3 [intsD d.path, iD d.op, iD d.n], .cells 25 3 [iD 0, .v (.slice none 0 0), .v (.slice none 0 0)], .cells 63 8 [.v .nilFunc, .v .nilFunc, .v .nilFunc, .v .nilFunc, .v .nilFunc, .v .nilFunc, .v .nilFunc, .v .nilFunc]] =
    some (.v undef, [.cells 25 3 [iD p.params, intsD p.vars, nodesD p.body], .cells 27 3 [intsD d.path, iD d.op, iD d.n], .cells 25 3 [iD 0, .v (.slice none 0 0), .v (.slice none 0 0)], .cells 63 8 opsC]) := rfl
  have hs := fun x y z h1 h2 h3 => set_three [.cells 25 3 [iD p.params, intsD p.vars, nodesD p.body], .cells 27 3 [intsD d.path, iD d.op, iD d.n], .cells 25 3 [iD 0, .v (.slice none 0 0), .v (.slice none 0 0)], .cells 63 8 opsC] 2 25 _ _ _ x y z rfl h1 h2 h3
  have q0 := hs (iD 0) (.v (.slice none 0 0)) (.v (.slice none 0 0)) rfl rfl rfl
  rcases apply_cases p d with ⟨h1, e⟩ | ⟨k, h1, h2, h3, hx, h5, hc⟩
  · rw [e]
    refine ⟨0, _, ?_, Imp.tup (.cons imp_none (.cons (Imp.refl (iD 16)) .nil))⟩
    show outD (textK _ _ _ _ _ [progD p, dlD d] []) = _
    rw [sh_delta_Apply]
    simp [hF, alloc_prog, build_ops, alloc_ops, hs0, h1, build_none, q0]
  · have h0 : ¬ ((k : Int) < 0) := by omega
    by_cases ho : 1 ≤ d.op ∧ d.op ≤ 7
    · have hop := fun H => op_call ⟨p, k, d.n⟩ H d.op ho.1 ho.2 ⟨by simp, by simpa using h2, hf.2.1⟩ h3
      obtain ⟨x, hx1, _⟩ := hop []
      have hop2 : ∀ H, callClo (T12e Try.prog) x [chD ⟨p, k, d.n⟩] H = some (nodesD (opV p.body k d.op d.n), H) := fun H => by
        obtain ⟨y, e1, e2⟩ := hop H
        rw [hx1] at e1
        cases e1
        simpa using e2
      have o1 : ¬ d.op < 1 := by omega
      have o2 : ¬ 8 ≤ d.op := by omega
      have o3 : 0 ≤ d.op := by omega
      have o4 : d.op.toNat < 8 := by omega
      have hia : idxA 8 1 (.hp 3 0) (iD d.op) = some (.hp 3 d.op.toNat) := by simp [idxA, o3, o4]
      have hdr : (List.drop d.op.toNat opsC)[0]? = some x := by rw [List.getElem?_drop]; simpa using hx1
      rcases hc with ⟨hm, e⟩ | ⟨hm, e⟩
      · have hR : opV p.body k d.op d.n = [] := by unfold opV; rw [if_neg hm]
        rw [e]
        refine ⟨0, _, ?_, Imp.tup (.cons imp_none (.cons (Imp.refl (iD 17)) .nil))⟩
        show outD (textK _ _ _ _ _ [progD p, dlD d] []) = _
        rw [sh_delta_Apply]
        simp [hF, alloc_prog, build_ops, alloc_ops, hs0, h1, h0, o1, o2, hia, hx1, prog_agg, build_ch, hop2, hR, build_none, q0]
      · have hR : opV p.body k d.op d.n = changedV p.body k (nodeAt p.body k) d.op d.n := by unfold opV; rw [if_pos hm]
        have hpos := changed_pos h5 h3 hx hm
        have hne : ¬ ((changedV p.body k (nodeAt p.body k) d.op d.n).length : Int) = 0 := by omega
        have q := hs (iD p.params) (intsD p.vars) (nodesD (changedV p.body k (nodeAt p.body k) d.op d.n)) rfl rfl rfl
        have hcl := fun H => cloneI_pure p.vars H (by have := hf.1; omega)
        rw [e]
        refine ⟨0, _, ?_, Imp.refl _⟩
        show outD (textK _ _ _ _ _ [progD p, dlD d] []) = _
        rw [sh_delta_Apply]
        simp only [hR] at hop2
        generalize changedV p.body k (nodeAt p.body k) d.op d.n = R at *
        have hne2 : ¬ R = [] := by
          intro e; subst e; simp at hpos
        simp [hF, alloc_prog, build_ops, alloc_ops, hs0, h1, h0, o1, o2, hia, hx1, prog_agg, build_ch, hop2, hne2, hcl, build_prog, q]
        rfl
    · have hm : ¬ mayV (nodeAt p.body k) d.op d.n := fun h => by have := may_op h; omega
      have e : applyV p d = (⟨0, [], []⟩, 17) := by
        rcases hc with ⟨_, e⟩ | ⟨h, _⟩
        · exact e
        · exact absurd h hm
      rw [e]
      refine ⟨0, _, ?_, Imp.tup (.cons imp_none (.cons (Imp.refl (iD 17)) .nil))⟩
      show outD (textK _ _ _ _ _ [progD p, dlD d] []) = _
      rw [sh_delta_Apply]
      by_cases o1 : d.op < 1
      · simp [hF, alloc_prog, build_ops, alloc_ops, hs0, h1, h0, o1, build_none, q0]
      · have o2 : 8 ≤ d.op := by omega
        simp [hF, alloc_prog, build_ops, alloc_ops, hs0, h1, h0, o1, o2, build_none, q0]
def fs12f (P : Program) : List Entry := (18, true, liftF F_DApply) :: fs12e P
theorem fs12f_ok : ∀ p ∈ fs12f Try.prog, EntryOk Try.prog p := entries_cons (entry_lift C_DApply) <| fs12e_ok
def T12f (P : Program) : Tab := ⟨fs12f P, noYl⟩
theorem T12f_ok : TabOk Try.prog (T12f Try.prog) := tabOk_of fs12f_ok
end Go.Proofs.Ytalehbmgbjiigaa
end

section
namespace Go.Proofs.Ytalehbmgbjiigaa
open Go.RowKit
set_option linter.unusedVariables false
set_option maxRecDepth 100000

def kp_cmp_isNaN_int_ : List Nat := []
theorem sh_cmp_isNaN_int_ (n : Nat) (x0 : D) (h : Heap) : textK Try.prog (T12f Try.prog) kp_cmp_isNaN_int_ n Try.f107 [x0] h =
(thn (binK .int .neq x0 x0) fun y0 =>
some (y0, h)) := by kernel_rfl

def kp_slices_Compact___int_int_ : List Nat := [0, 2, 3, 4, 5]
theorem sh_slices_Compact___int_int_ (n : Nat) (x0 : D) (h : Heap) : textK Try.prog (T12f Try.prog) kp_slices_Compact___int_int_ n Try.f133 [x0] h =
(thn (lenH .sl x0) fun y0 =>
thn (binK .int .lss y0 (iD 2)) fun y1 =>
condK y1
(some (x0, h))
(leaveK (loopF Try.prog (T12f Try.prog) kp_slices_Compact___int_int_ n Try.f133 0 [x0, (.v (.slice none 0 0)), (iD 1), .undef, .undef] h) (fun j2 s3 h4 =>
condN j2 0
(some ((s3.getD 0 .undef), h4))
(none)) (fun s3 h4 =>
some ((s3.getD 1 .undef), h4)))) := by kernel_rfl

theorem st_slices_Compact___int_int__0 (n : Nat) (s0 s1 s2 s3 s4 : D) (h : Heap) : stepF Try.prog (T12f Try.prog) kp_slices_Compact___int_int_ n Try.f133 0 [s0, s1, s2, s3, s4] h =
(thn (lenH .sl s0) fun y0 =>
thn (binK .int .lss s2 y0) fun y1 =>
condK y1
(thn (idxH 1 s0 s2) fun y2 =>
thn (loadH none h y2) fun y3 =>
thn (binK .int .sub s2 (iD 1)) fun y4 =>
thn (idxH 1 s0 y4) fun y5 =>
thn (loadH none h y5) fun y6 =>
thn (binK .int .eql y3 y6) fun y7 =>
condK y7
(thn (cutH 1 s0 (some s2) none) fun y8 =>
leaveK (loopF Try.prog (T12f Try.prog) kp_slices_Compact___int_int_ n Try.f133 1 [s0, s1, s2, y8, (iD 1)] h) (fun j9 s10 h11 =>
condN j9 2
(thn (cutH 1 (s10.getD 0 .undef) (some (s10.getD 2 .undef)) none) fun y12 =>
thnH (clearH 1 [(iD 0)] y12 h11) fun y13 h14 =>
thn (cutH 1 (s10.getD 0 .undef) none (some (s10.getD 2 .undef))) fun y15 =>
some (.ret, [(s10.getD 0 .undef), y15, (s10.getD 2 .undef), (s10.getD 3 .undef), (s10.getD 4 .undef)], h14))
(condN j9 1
(thn (binK .int .add (s10.getD 2 .undef) (iD 1)) fun y16 =>
some (.normal, [(s10.getD 0 .undef), (s10.getD 1 .undef), y16, (s10.getD 3 .undef), (s10.getD 4 .undef)], h11))
(some ((.exit j9), [(s10.getD 0 .undef), (s10.getD 1 .undef), (s10.getD 2 .undef), (s10.getD 3 .undef), (s10.getD 4 .undef)], h11)))) (fun s10 h11 =>
some (.ret, [(s10.getD 0 .undef), (s10.getD 1 .undef), (s10.getD 2 .undef), (s10.getD 3 .undef), (s10.getD 4 .undef)], h11)))
(thn (binK .int .add s2 (iD 1)) fun y17 =>
some (.normal, [s0, s1, y17, s3, s4], h)))
(some ((.exit 0), [s0, s1, s2, s3, s4], h))) := by kernel_rfl

theorem st_slices_Compact___int_int__1 (n : Nat) (s0 s1 s2 s3 s4 : D) (h : Heap) : stepF Try.prog (T12f Try.prog) kp_slices_Compact___int_int_ n Try.f133 1 [s0, s1, s2, s3, s4] h =
(thn (lenH .sl s3) fun y0 =>
thn (binK .int .lss s4 y0) fun y1 =>
condK y1
(thn (idxH 1 s3 s4) fun y2 =>
thn (loadH none h y2) fun y3 =>
thn (binK .int .sub s4 (iD 1)) fun y4 =>
thn (idxH 1 s3 y4) fun y5 =>
thn (loadH none h y5) fun y6 =>
thn (binK .int .neq y3 y6) fun y7 =>
condK y7
(thn (idxH 1 s3 s4) fun y8 =>
thn (loadH none h y8) fun y9 =>
thn (idxH 1 s0 s2) fun y10 =>
thnH (setH 1 y10 y9 h) fun y11 h12 =>
thn (binK .int .add s2 (iD 1)) fun y13 =>
thn (binK .int .add s4 (iD 1)) fun y14 =>
some (.normal, [s0, s1, y13, s3, y14], h12))
(thn (binK .int .add s4 (iD 1)) fun y15 =>
some (.normal, [s0, s1, s2, s3, y15], h)))
(some ((.exit 2), [s0, s1, s2, s3, s4], h))) := by kernel_rfl

def kp_catalog_once_int__1 : List Nat := []
theorem sh_catalog_once_int__1 (n : Nat) (x0 x1 : D) (h : Heap) : textK Try.prog (T12f Try.prog) kp_catalog_once_int__1 n Try.f135 [x0, x1] h =
(thn (loadH none h x1) fun y0 =>
thn (binK .int .eql x0 y0) fun y1 =>
some (y1, h)) := by kernel_rfl

def kp_catalog_row : List Nat := [1, 2, 7, 8]
theorem sh_catalog_row (n : Nat) (x0 x1 x2 : D) (h : Heap) : textK Try.prog (T12f Try.prog) kp_catalog_row n Try.f110 [x0, x1, x2] h =
(leaveK (loopF Try.prog (T12f Try.prog) kp_catalog_row n Try.f110 0 [x1, x2, (.v (.slice none 0 0)), x0] h) (fun j0 s1 h2 =>
condN j0 0
(some ((s1.getD 2 .undef), h2))
(none)) (fun s1 h2 =>
some (.undef, h2))) := by kernel_rfl

theorem st_catalog_row_0 (n : Nat) (s0 s1 s2 s3 : D) (h : Heap) : stepF Try.prog (T12f Try.prog) kp_catalog_row n Try.f110 0 [s0, s1, s2, s3] h =
(thn (binK .int .leq s3 s0) fun y0 =>
condK y0
(thn (binK .int .neq s3 s1) fun y1 =>
condK y1
(thnH (rowH 3 1 1 [(iD 0)] [(0, s3)] h) fun y2 h3 =>
thnH (appendH 3 1 s2 y2 h3) fun y4 h5 =>
thn (binK .int .add s3 (iD 1)) fun y6 =>
some (.normal, [s0, s1, y4, y6], h5))
(thn (binK .int .add s3 (iD 1)) fun y7 =>
some (.normal, [s0, s1, s2, y7], h)))
(some ((.exit 0), [s0, s1, s2, s3], h))) := by kernel_rfl

end Go.Proofs.Ytalehbmgbjiigaa
end

section
namespace Go.Proofs.Ytalehbmgbjiigaa
open Go.RowKit
set_option linter.unusedVariables false
set_option linter.unusedSimpArgs false

/- Cells of a row. -/
theorem idx_own (id n i : Nat) (h : i < n) : idxH 1 (.hs id n) (iD i) = some (.hp id i) := by simp [idxH, h]
theorem load_own {H : Heap} {id : Nat} {t : TypeId} {l : List Int} (h : H[id]? = some (.cells t 1 (intsC l))) (i : Nat) (hi : i < l.length) : loadH none H (.hp id i) = some (iD (l.getD i 0)) :=
  load_cellN H id i _ _ _ _ h (by rw [getD_in _ _ _ hi]; simp [intsC, hi])
theorem set_own {H : Heap} {id : Nat} {t : TypeId} {l : List Int} (h : H[id]? = some (.cells t 1 (intsC l))) (i : Nat) (hi : i < l.length) (x : Int) : setH 1 (.hp id i) (iD x) H = some (.v undef, H.set id (.cells t 1 (intsC (l.set i x)))) := by
  have := set_cellN H id i _ _ _ (iD x) h (by rw [intsC_len]; exact hi) rfl rfl
  rw [this]
  congr 3
  simp [intsC, List.map_set]
theorem own_set {H : Heap} {id : Nat} {o : HO} (h : ∃ o', H[id]? = some o') : (H.set id o)[id]? = some o := by
  obtain ⟨o', h⟩ := h
  rw [List.getElem?_set_self (List.getElem?_eq_some_iff.1 h).1]

/- Lists, by place. -/
theorem getD_set_self (l : List Int) (i : Nat) (x : Int) (h : i < l.length) : (l.set i x).getD i 0 = x := by
  simp [List.getD_eq_getElem?_getD, h]
theorem getD_set_other (l : List Int) (i j : Nat) (x : Int) (h : i ≠ j) : (l.set i x).getD j 0 = l.getD j 0 := by
  rw [List.getD_eq_getElem?_getD, List.getElem?_set_ne h, ← List.getD_eq_getElem?_getD]
theorem mem_getD (l : List Int) (x : Int) : x ∈ l ↔ ∃ p, p < l.length ∧ l.getD p 0 = x := by
  rw [List.mem_iff_getElem]
  constructor
  · rintro ⟨p, hp, rfl⟩; exact ⟨p, hp, getD_in _ _ _ hp⟩
  · rintro ⟨p, hp, rfl⟩; exact ⟨p, hp, (getD_in _ _ _ hp).symm⟩
/-- Two things change places. -/
def swp (l : List Int) (j : Nat) : List Int := (l.set (j + 1) (l.getD j 0)).set j (l.getD (j + 1) 0)
theorem swp_len (l : List Int) (j : Nat) : (swp l j).length = l.length := by simp [swp]
theorem swp_at (l : List Int) (j p : Nat) (h : j + 1 < l.length) : (swp l j).getD p 0 = if p = j then l.getD (j + 1) 0 else if p = j + 1 then l.getD j 0 else l.getD p 0 := by
  unfold swp
  by_cases h1 : p = j
  · subst h1; rw [if_pos rfl, getD_set_self _ _ _ (by simp; omega)]
  · rw [if_neg h1, getD_set_other _ _ _ _ (Ne.symm h1)]
    by_cases h2 : p = j + 1
    · subst h2; rw [if_pos rfl, getD_set_self _ _ _ h]
    · rw [if_neg h2, getD_set_other _ _ _ _ (Ne.symm h2)]
theorem swp_mem (l : List Int) (j : Nat) (h : j + 1 < l.length) (x : Int) : x ∈ swp l j ↔ x ∈ l := by
  rw [mem_getD, mem_getD, swp_len]
  constructor
  · rintro ⟨p, hp, e⟩
    rw [swp_at _ _ _ h] at e
    split at e
    · exact ⟨j + 1, h, e⟩
    · split at e
      · exact ⟨j, by omega, e⟩
      · exact ⟨p, hp, e⟩
  · rintro ⟨p, hp, e⟩
    by_cases h1 : p = j
    · subst h1
      exact ⟨p + 1, h, by rw [swp_at _ _ _ h, if_neg (by omega), if_pos rfl]; exact e⟩
    · by_cases h2 : p = j + 1
      · subst h2
        exact ⟨j, by omega, by rw [swp_at _ _ _ h, if_pos rfl]; exact e⟩
      · exact ⟨p, hp, by rw [swp_at _ _ _ h, if_neg h1, if_neg h2]; exact e⟩
/-- The first m things rise. -/
def Rise (l : List Int) (m : Nat) : Prop := ∀ p q, p < q → q < m → l.getD p 0 ≤ l.getD q 0
/-- The first i + 1 things rise, but for what stands ahead of the one at j. -/
def Near (l : List Int) (i j : Nat) : Prop := ∀ p q, p < q → q ≤ i → q ≠ j → l.getD p 0 ≤ l.getD q 0
theorem near_start {l : List Int} {i : Nat} (h : Rise l i) : Near l i i := fun p q h1 h2 h3 => h p q h1 (by omega)
theorem near_swp {l : List Int} {i j : Nat} (hi : i < l.length) (hj : j + 1 ≤ i) (h : Near l i (j + 1)) (hlt : l.getD (j + 1) 0 < l.getD j 0) : Near (swp l j) i j := by
  intro p q h1 h2 h3
  have hl : j + 1 < l.length := by omega
  rw [swp_at _ _ _ hl, swp_at _ _ _ hl]
  rw [if_neg (show ¬ q = j from h3)]
  by_cases hq : q = j + 1
  · rw [if_pos hq]
    by_cases hp : p = j
    · rw [if_pos hp]; omega
    · rw [if_neg hp, if_neg (by omega)]
      exact h p j (by omega) (by omega) (by omega)
  · rw [if_neg hq]
    by_cases hp : p = j
    · rw [if_pos hp]; exact h (j + 1) q (by omega) h2 hq
    · rw [if_neg hp]
      by_cases hp2 : p = j + 1
      · rw [if_pos hp2]; exact h j q (by omega) h2 hq
      · rw [if_neg hp2]; exact h p q h1 h2 hq
theorem near_end {l : List Int} {i j : Nat} (h : Near l i j) (hj : j ≤ i) (he : j = 0 ∨ l.getD (j - 1) 0 ≤ l.getD j 0) : Rise l (i + 1) := by
  intro p q h1 h2
  by_cases hq : q = j
  · subst hq
    rcases he with rfl | he
    · omega
    · by_cases hp : p = q - 1
      · rw [hp]; exact he
      · exact Int.le_trans (h p (q - 1) (by omega) (by omega) (by omega)) he
  · exact h p q h1 (by omega) hq
end Go.Proofs.Ytalehbmgbjiigaa
end

section
namespace Go.Proofs.Ytalehbmgbjiigaa
open Go.RowKit
set_option linter.unusedVariables false
set_option linter.unusedSimpArgs false

/-- Lists in one order, with the same things, are the same. -/
theorem pw_unique {α : Type} (R : α → α → Prop) (irr : ∀ a, ¬ R a a) (asym : ∀ a b, R a b → ¬ R b a) : ∀ (l l' : List α), l.Pairwise R → l'.Pairwise R → (∀ a, a ∈ l ↔ a ∈ l') → l = l'
  | [], [], _, _, _ => rfl
  | [], y :: s, _, _, h => by have := (h y).2 (List.mem_cons_self ..); cases this
  | x :: r, [], _, _, h => by have := (h x).1 (List.mem_cons_self ..); cases this
  | x :: r, y :: s, h1, h2, h => by
    rw [List.pairwise_cons] at h1 h2
    have hxy : x = y := by
      have a := (h x).1 (List.mem_cons_self ..)
      have b := (h y).2 (List.mem_cons_self ..)
      rcases List.mem_cons.1 a with a | a
      · exact a
      · rcases List.mem_cons.1 b with b | b
        · exact b.symm
        · exact absurd (h2.1 x a) (asym _ _ (h1.1 y b))
    subst hxy
    congr 1
    refine pw_unique R irr asym r s h1.2 h2.2 fun a => ⟨fun ha => ?_, fun ha => ?_⟩
    · rcases List.mem_cons.1 ((h a).1 (List.mem_cons_of_mem _ ha)) with e | e
      · subst e; exact absurd (h1.1 a ha) (irr a)
      · exact e
    · rcases List.mem_cons.1 ((h a).2 (List.mem_cons_of_mem _ ha)) with e | e
      · subst e; exact absurd (h2.1 a ha) (irr a)
      · exact e
/-- A number is put in where it belongs, if it is not there. -/
def sins (a : Int) : List Int → List Int
  | [] => [a]
  | b :: r => if a < b then a :: b :: r else if a = b then b :: r else b :: sins a r
theorem mem_sins (a : Int) : ∀ (l : List Int) (x : Int), x ∈ sins a l ↔ x = a ∨ x ∈ l
  | [], x => by simp [sins]
  | b :: r, x => by
    unfold sins
    split
    · simp
    · split
      · rename_i h; subst h; simp
      · simp only [List.mem_cons, mem_sins a r x]
        constructor
        · rintro (h | h | h)
          · exact .inr (.inl h)
          · exact .inl h
          · exact .inr (.inr h)
        · rintro (h | h | h)
          · exact .inr (.inl h)
          · exact .inl h
          · exact .inr (.inr h)
theorem sins_sorted (a : Int) : ∀ (l : List Int), l.Pairwise (· < ·) → (sins a l).Pairwise (· < ·)
  | [], _ => by simp [sins]
  | b :: r, h => by
    have h' := h
    rw [List.pairwise_cons] at h
    unfold sins
    split
    · rename_i hab
      rw [List.pairwise_cons]
      refine ⟨fun y hy => ?_, h'⟩
      rcases List.mem_cons.1 hy with rfl | hy
      · exact hab
      · have := h.1 y hy; omega
    · split
      · exact h'
      · rename_i h1 h2
        rw [List.pairwise_cons]
        refine ⟨fun y hy => ?_, sins_sorted a r h.2⟩
        rcases (mem_sins a r y).1 hy with rfl | hy
        · omega
        · exact h.1 y hy
/-- Numbers in order, each once. -/
def sortV (l : List Int) : List Int := l.foldr sins []
theorem mem_sortV (l : List Int) (x : Int) : x ∈ sortV l ↔ x ∈ l := by
  induction l with
  | nil => simp [sortV]
  | cons a r ih =>
    have : sortV (a :: r) = sins a (sortV r) := rfl
    rw [this, mem_sins, ih, List.mem_cons]
theorem sortV_sorted (l : List Int) : (sortV l).Pairwise (· < ·) := by
  induction l with
  | nil => simp [sortV]
  | cons a r ih => exact sins_sorted a _ ih
/-- But for one. -/
def onceV (but : Int) (l : List Int) : List Int := (sortV l).filter fun x => decide (x ≠ but)
theorem mem_onceV (but : Int) (l : List Int) (x : Int) : x ∈ onceV but l ↔ x ∈ l ∧ x ≠ but := by
  simp [onceV, mem_sortV]
theorem onceV_sorted (but : Int) (l : List Int) : (onceV but l).Pairwise (· < ·) := (sortV_sorted l).filter _

def w64 (n : Int) : Int := IntKind.i64.wrap n
/-- May it be put in, at a node x whose next one is y? -/
def isN (x y : Nd) (op n : Int) : Prop :=
  (op = 1 ∧ 7 ≤ x.1 ∧ x.1 ≤ 11 ∧ 7 ≤ n ∧ n ≤ 11 ∧ n ≠ x.1) ∨ (op = 2 ∧ 12 ≤ x.1 ∧ x.1 ≤ 17 ∧ 12 ≤ n ∧ n ≤ 17 ∧ n ≠ x.1) ∨ (op = 3 ∧ 18 ≤ x.1 ∧ x.1 ≤ 19 ∧ 18 ≤ n ∧ n ≤ 19 ∧ n ≠ x.1) ∨
  (op = 4 ∧ ((x.1 = 1 ∧ (n = 0 ∨ n = 1 ∨ n = -1 ∨ n = w64 (x.2 + 1) ∨ n = w64 (x.2 - 1)) ∧ n ≠ x.2) ∨ (x.1 = 2 ∧ n = w64 (1 - x.2)))) ∨
  (op = 5 ∧ (x.1 = 21 ∨ x.1 = 22 ∨ x.1 = 23 ∨ x.1 = 24 ∨ x.1 = 25) ∧ n = 0) ∨ (op = 6 ∧ (x.1 = 23 ∨ x.1 = 24) ∧ n = 0) ∨ (op = 7 ∧ x.1 = 25 ∧ (n = 0 ∨ n = 1) ∧ y ≠ (1, n))
instance (x y : Nd) (op n : Int) : Decidable (isN x y op n) := by unfold isN; infer_instance
def rowV (lo hi but : Int) : List Int := ((List.range (hi - lo + 1).toNat).map fun i : Nat => lo + (i : Int)).filter fun n => decide (n ≠ but)
theorem mem_rowV (lo hi but n : Int) : n ∈ rowV lo hi but ↔ lo ≤ n ∧ n ≤ hi ∧ n ≠ but := by
  simp only [rowV, List.mem_filter, List.mem_map, List.mem_range, decide_eq_true_eq]
  constructor
  · rintro ⟨⟨i, hi, rfl⟩, h⟩; omega
  · rintro ⟨h1, h2, h3⟩; exact ⟨⟨(n - lo).toNat, by omega, by omega⟩, h3⟩
theorem rowV_sorted (lo hi but : Int) : (rowV lo hi but).Pairwise (· < ·) := by
  refine List.Pairwise.filter _ ?_
  rw [List.pairwise_map]
  exact List.pairwise_lt_range.imp fun h => by omega
def answersV (y : Nd) : List Int := if y.1 = 1 then onceV y.2 [0, 1] else [0, 1]
theorem mem_answersV (y : Nd) (n : Int) : n ∈ answersV y ↔ (n = 0 ∨ n = 1) ∧ y ≠ (1, n) := by
  obtain ⟨t, m⟩ := y
  unfold answersV
  split
  · rename_i h
    simp only at h
    subst h
    rw [mem_onceV]
    simp only [List.mem_cons, List.not_mem_nil, or_false, ne_eq, Prod.mk.injEq, true_and]
    constructor
    · rintro ⟨h1, h2⟩; exact ⟨h1, fun e => h2 e.symm⟩
    · rintro ⟨h1, h2⟩; exact ⟨h1, fun e => h2 e.symm⟩
  · rename_i h
    simp only at h
    simp only [List.mem_cons, List.not_mem_nil, or_false, ne_eq, Prod.mk.injEq]
    exact ⟨fun h1 => ⟨h1, fun e => h e.1⟩, fun h1 => h1.1⟩
theorem answersV_sorted (y : Nd) : (answersV y).Pairwise (· < ·) := by
  unfold answersV
  split
  · exact onceV_sorted _ _
  · simp
/-- The operators at a node, and their numbers. -/
def numsV (x y : Nd) : List (Int × List Int) :=
  (if 7 ≤ x.1 ∧ x.1 ≤ 11 then [(1, rowV 7 11 x.1)] else if 12 ≤ x.1 ∧ x.1 ≤ 17 then [(2, rowV 12 17 x.1)] else if x.1 = 18 ∨ x.1 = 19 then [(3, rowV 18 19 x.1)]
    else if x.1 = 1 then [(4, onceV x.2 [0, 1, -1, w64 (x.2 + 1), w64 (x.2 - 1)])] else if x.1 = 2 then [(4, [w64 (1 - x.2)])] else []) ++
  ((if x.1 = 21 ∨ x.1 = 22 ∨ x.1 = 23 ∨ x.1 = 24 ∨ x.1 = 25 then [(5, [0])] else []) ++
  (if x.1 = 23 ∨ x.1 = 24 then [(6, [0])] else if x.1 = 25 then [(7, answersV y)] else []))
def choiceV (x y : Nd) : List (Int × Int) := (numsV x y).flatMap fun e => e.2.map fun n => (e.1, n)
def lexR (a b : Int × Int) : Prop := a.1 < b.1 ∨ (a.1 = b.1 ∧ a.2 < b.2)
theorem lexR_irr (a : Int × Int) : ¬ lexR a a := by unfold lexR; omega
theorem lexR_asym (a b : Int × Int) (h : lexR a b) : ¬ lexR b a := by unfold lexR at *; omega
theorem mem_choice (x y : Nd) (op n : Int) : (op, n) ∈ choiceV x y ↔ ∃ e ∈ numsV x y, op = e.1 ∧ n ∈ e.2 := by
  simp only [choiceV, List.mem_flatMap, List.mem_map, Prod.mk.injEq]
  constructor
  · rintro ⟨e, he, m, hm, rfl, rfl⟩; exact ⟨e, he, rfl, hm⟩
  · rintro ⟨e, he, rfl, hm⟩; exact ⟨e, he, n, hm, rfl, rfl⟩
theorem flat_sorted : ∀ (L : List (Int × List Int)), (L.Pairwise fun a b => a.1 < b.1) → (∀ e ∈ L, e.2.Pairwise (· < ·)) → (L.flatMap fun e => e.2.map fun n => (e.1, n)).Pairwise lexR
  | [], _, _ => by simp
  | e :: r, h, hs => by
    rw [List.pairwise_cons] at h
    rw [List.flatMap_cons, List.pairwise_append]
    refine ⟨?_, flat_sorted r h.2 fun e he => hs e (List.mem_cons_of_mem _ he), fun a ha b hb => ?_⟩
    · rw [List.pairwise_map]
      exact (hs e (List.mem_cons_self ..)).imp fun h => .inr ⟨rfl, h⟩
    · obtain ⟨m, _, rfl⟩ := List.mem_map.1 ha
      obtain ⟨e', he', hb⟩ := List.mem_flatMap.1 hb
      obtain ⟨m', _, rfl⟩ := List.mem_map.1 hb
      exact .inl (h.1 e' he')
theorem numsV_sorted (x y : Nd) : ((numsV x y).Pairwise fun a b => a.1 < b.1) ∧ ∀ e ∈ numsV x y, e.2.Pairwise (· < ·) := by
  have r := rowV_sorted
  have a := answersV_sorted y
  have o := onceV_sorted
  unfold numsV
  repeat' split
  all_goals simp [r, a, o]
theorem choice_sorted (x y : Nd) : (choiceV x y).Pairwise lexR := flat_sorted _ (numsV_sorted x y).1 (numsV_sorted x y).2
theorem ex_nil {p : Int × List Int → Prop} : (∃ e ∈ ([] : List (Int × List Int)), p e) ↔ False := by simp
theorem ex_one {p : Int × List Int → Prop} (e : Int × List Int) : (∃ x ∈ [e], p x) ↔ p e := by simp
theorem choice_a (x : Nd) (op n : Int) : (∃ e ∈ (if 7 ≤ x.1 ∧ x.1 ≤ 11 then [(1, rowV 7 11 x.1)] else if 12 ≤ x.1 ∧ x.1 ≤ 17 then [(2, rowV 12 17 x.1)] else if x.1 = 18 ∨ x.1 = 19 then [(3, rowV 18 19 x.1)]
    else if x.1 = 1 then [(4, onceV x.2 [0, 1, -1, w64 (x.2 + 1), w64 (x.2 - 1)])] else if x.1 = 2 then [(4, [w64 (1 - x.2)])] else [] : List (Int × List Int)), op = e.1 ∧ n ∈ e.2) ↔
  (op = 1 ∧ 7 ≤ x.1 ∧ x.1 ≤ 11 ∧ 7 ≤ n ∧ n ≤ 11 ∧ n ≠ x.1) ∨ (op = 2 ∧ 12 ≤ x.1 ∧ x.1 ≤ 17 ∧ 12 ≤ n ∧ n ≤ 17 ∧ n ≠ x.1) ∨ (op = 3 ∧ 18 ≤ x.1 ∧ x.1 ≤ 19 ∧ 18 ≤ n ∧ n ≤ 19 ∧ n ≠ x.1) ∨
  (op = 4 ∧ ((x.1 = 1 ∧ (n = 0 ∨ n = 1 ∨ n = -1 ∨ n = w64 (x.2 + 1) ∨ n = w64 (x.2 - 1)) ∧ n ≠ x.2) ∨ (x.1 = 2 ∧ n = w64 (1 - x.2)))) := by
  by_cases c1 : 7 ≤ x.1 ∧ x.1 ≤ 11
  · rw [if_pos c1, ex_one, mem_rowV]
    constructor
    · rintro ⟨h1, h2⟩; exact .inl ⟨h1, c1.1, c1.2, h2⟩
    · rintro (h | h | h | h)
      · exact ⟨h.1, h.2.2.2⟩
      · omega
      · omega
      · omega
  rw [if_neg c1]
  by_cases c2 : 12 ≤ x.1 ∧ x.1 ≤ 17
  · rw [if_pos c2, ex_one, mem_rowV]
    constructor
    · rintro ⟨h1, h2⟩; exact .inr (.inl ⟨h1, c2.1, c2.2, h2⟩)
    · rintro (h | h | h | h)
      · omega
      · exact ⟨h.1, h.2.2.2⟩
      · omega
      · omega
  rw [if_neg c2]
  by_cases c3 : x.1 = 18 ∨ x.1 = 19
  · rw [if_pos c3, ex_one, mem_rowV]
    constructor
    · rintro ⟨h1, h2⟩; exact .inr (.inr (.inl ⟨h1, by omega, by omega, h2⟩))
    · rintro (h | h | h | h)
      · omega
      · omega
      · exact ⟨h.1, h.2.2.2⟩
      · omega
  rw [if_neg c3]
  by_cases c4 : x.1 = 1
  · rw [if_pos c4, ex_one, mem_onceV]
    simp only [List.mem_cons, List.not_mem_nil, or_false]
    constructor
    · rintro ⟨h1, h2⟩; exact .inr (.inr (.inr ⟨h1, .inl ⟨c4, h2⟩⟩))
    · rintro (h | h | h | h)
      · omega
      · omega
      · omega
      · rcases h.2 with h2 | h2
        · exact ⟨h.1, h2.2⟩
        · omega
  rw [if_neg c4]
  by_cases c5 : x.1 = 2
  · rw [if_pos c5, ex_one]
    simp only [List.mem_cons, List.not_mem_nil, or_false]
    constructor
    · rintro ⟨h1, h2⟩; exact .inr (.inr (.inr ⟨h1, .inr ⟨c5, h2⟩⟩))
    · rintro (h | h | h | h)
      · omega
      · omega
      · omega
      · rcases h.2 with h2 | h2
        · omega
        · exact ⟨h.1, h2.2⟩
  rw [if_neg c5, ex_nil]
  constructor
  · exact fun h => h.elim
  · rintro (h | h | h | h) <;> omega
theorem choice_b (x : Nd) (op n : Int) : (∃ e ∈ (if x.1 = 21 ∨ x.1 = 22 ∨ x.1 = 23 ∨ x.1 = 24 ∨ x.1 = 25 then [(5, [0])] else [] : List (Int × List Int)), op = e.1 ∧ n ∈ e.2) ↔ (op = 5 ∧ (x.1 = 21 ∨ x.1 = 22 ∨ x.1 = 23 ∨ x.1 = 24 ∨ x.1 = 25) ∧ n = 0) := by
  split
  · rename_i h
    rw [ex_one]
    simp only [List.mem_singleton]
    exact ⟨fun a => ⟨a.1, h, a.2⟩, fun a => ⟨a.1, a.2.2⟩⟩
  · rename_i h
    rw [ex_nil]
    exact ⟨fun a => a.elim, fun a => h a.2.1⟩
theorem choice_c (x y : Nd) (op n : Int) : (∃ e ∈ (if x.1 = 23 ∨ x.1 = 24 then [(6, [0])] else if x.1 = 25 then [(7, answersV y)] else [] : List (Int × List Int)), op = e.1 ∧ n ∈ e.2) ↔ (op = 6 ∧ (x.1 = 23 ∨ x.1 = 24) ∧ n = 0) ∨ (op = 7 ∧ x.1 = 25 ∧ (n = 0 ∨ n = 1) ∧ y ≠ (1, n)) := by
  by_cases c1 : x.1 = 23 ∨ x.1 = 24
  · rw [if_pos c1, ex_one]
    simp only [List.mem_singleton]
    exact ⟨fun a => .inl ⟨a.1, c1, a.2⟩, fun a => by
      rcases a with a | a
      · exact ⟨a.1, a.2.2⟩
      · omega⟩
  rw [if_neg c1]
  by_cases c2 : x.1 = 25
  · rw [if_pos c2, ex_one, mem_answersV]
    exact ⟨fun a => .inr ⟨a.1, c2, a.2⟩, fun a => by
      rcases a with a | a
      · omega
      · exact ⟨a.1, a.2.2⟩⟩
  rw [if_neg c2, ex_nil]
  exact ⟨fun a => a.elim, fun a => by
    rcases a with a | a
    · exact c1 a.2.1
    · exact c2 a.2.1⟩
theorem ex_app {p : Int × List Int → Prop} (a b : List (Int × List Int)) : (∃ e ∈ a ++ b, p e) ↔ (∃ e ∈ a, p e) ∨ ∃ e ∈ b, p e := by
  simp only [List.mem_append]
  constructor
  · rintro ⟨e, h | h, hp⟩
    · exact .inl ⟨e, h, hp⟩
    · exact .inr ⟨e, h, hp⟩
  · rintro (⟨e, h, hp⟩ | ⟨e, h, hp⟩)
    · exact ⟨e, .inl h, hp⟩
    · exact ⟨e, .inr h, hp⟩
theorem choice_is (x y : Nd) (op n : Int) : (op, n) ∈ choiceV x y ↔ isN x y op n := by
  rw [mem_choice]
  unfold numsV
  rw [ex_app, ex_app, choice_a, choice_b, choice_c]
  unfold isN
  simp only [or_assoc]
theorem nums_short (x y : Nd) : (choiceV x y).length ≤ 5 := by
  have hr : ∀ lo hi but : Int, lo ≤ but → but ≤ hi → (rowV lo hi but).length ≤ (hi - lo).toNat := by
    intro lo hi but h1 h2
    have : (rowV lo hi but).length < ((List.range (hi - lo + 1).toNat).map fun i : Nat => lo + (i : Int)).length := by
      unfold rowV
      rw [List.length_filter_lt_length_iff_exists]
      exact ⟨but, List.mem_map.2 ⟨(but - lo).toNat, by simp; omega, by omega⟩, by simp⟩
    simp at this
    omega
  have hs : ∀ a : Int, ∀ l : List Int, (sins a l).length ≤ l.length + 1 := by
    intro a l
    induction l with
    | nil => simp [sins]
    | cons b r ih =>
      unfold sins
      split
      · simp
      · split
        · simp
        · simp only [List.length_cons]; omega
  have hso : ∀ l : List Int, (sortV l).length ≤ l.length := by
    intro l
    induction l with
    | nil => simp [sortV]
    | cons a r ih =>
      have := hs a (sortV r)
      have e : sortV (a :: r) = sins a (sortV r) := rfl
      rw [e, List.length_cons]; omega
  have ho : ∀ (but : Int) (l : List Int), (onceV but l).length ≤ l.length := fun but l => Nat.le_trans (List.length_filter_le _ _) (hso l)
  have ha : (answersV y).length ≤ 2 := by
    unfold answersV
    split
    · exact ho _ _
    · simp
  have h1 := fun t (a : 7 ≤ t) (b : t ≤ 11) => hr 7 11 t a b
  have h2 := fun t (a : 12 ≤ t) (b : t ≤ 17) => hr 12 17 t a b
  have h3 := fun t (a : 18 ≤ t) (b : t ≤ 19) => hr 18 19 t a b
  have h4 := ho x.2 [0, 1, -1, w64 (x.2 + 1), w64 (x.2 - 1)]
  simp only [List.length_cons, List.length_nil] at h4
  unfold choiceV numsV
  by_cases c1 : 7 ≤ x.1 ∧ x.1 ≤ 11
  · have := h1 x.1 c1.1 c1.2
    rw [if_pos c1, if_neg (by omega), if_neg (by omega), if_neg (by omega)]
    simp
    omega
  by_cases c2 : 12 ≤ x.1 ∧ x.1 ≤ 17
  · have := h2 x.1 c2.1 c2.2
    rw [if_neg c1, if_pos c2, if_neg (by omega), if_neg (by omega), if_neg (by omega)]
    simp
    omega
  by_cases c3 : x.1 = 18 ∨ x.1 = 19
  · have := h3 x.1 (by omega) (by omega)
    rw [if_neg c1, if_neg c2, if_pos c3, if_neg (by omega), if_neg (by omega), if_neg (by omega)]
    simp
    omega
  by_cases c4 : x.1 = 1
  · rw [if_neg c1, if_neg c2, if_neg c3, if_pos c4, if_neg (by omega), if_neg (by omega), if_neg (by omega)]
    simp
    omega
  by_cases c5 : x.1 = 2
  · rw [if_neg c1, if_neg c2, if_neg c3, if_neg c4, if_pos c5, if_neg (by omega), if_neg (by omega), if_neg (by omega)]
    simp
  rw [if_neg c1, if_neg c2, if_neg c3, if_neg c4, if_neg c5]
  by_cases c6 : x.1 = 21 ∨ x.1 = 22 ∨ x.1 = 23 ∨ x.1 = 24 ∨ x.1 = 25
  · rw [if_pos c6]
    by_cases c7 : x.1 = 23 ∨ x.1 = 24
    · rw [if_pos c7]; simp
    · rw [if_neg c7]
      by_cases c8 : x.1 = 25
      · rw [if_pos c8]
        simp
        omega
      · rw [if_neg c8]; simp
  · rw [if_neg c6, if_neg (by omega), if_neg (by omega)]
    simp
/-- The document's way: numbers that may be, tried for each operator. -/
def triesV (x : Nd) : List Int := sortV [-1, 0, 1, w64 (x.2 - 1), w64 (x.2 + 1), 7, 8, 9, 10, 11, 12, 13, 14, 15, 16, 17, 18, 19]
def choiceQ (x y : Nd) : List (Int × Int) := ([1, 2, 3, 4, 5, 6, 7] : List Int).flatMap fun op => ((triesV x).filter fun n => decide (isN x y op n)).map fun n => (op, n)
theorem choiceQ_eq (x y : Nd) (hb : x.1 = 2 → 0 ≤ x.2 ∧ x.2 ≤ 1) : choiceQ x y = choiceV x y := by
  refine pw_unique lexR lexR_irr lexR_asym _ _ ?_ (choice_sorted x y) ?_
  · have := flat_sorted (([1, 2, 3, 4, 5, 6, 7] : List Int).map fun op => (op, (triesV x).filter fun n => decide (isN x y op n))) (by simp) (fun e he => by
      obtain ⟨op, _, rfl⟩ := List.mem_map.1 he
      exact (sortV_sorted _).filter _)
    rw [List.flatMap_map] at this
    exact this
  · rintro ⟨op, n⟩
    rw [choice_is]
    unfold choiceQ
    simp only [List.mem_flatMap, List.mem_map, List.mem_filter, Prod.mk.injEq, decide_eq_true_eq]
    constructor
    · rintro ⟨o, _, m, ⟨_, h⟩, rfl, rfl⟩; exact h
    · intro h
      refine ⟨op, ?_, n, ⟨?_, h⟩, rfl, rfl⟩
      · simp only [List.mem_cons, List.not_mem_nil, or_false]
        rcases h with h | h | h | h | h | h | h
        all_goals have := h.1
        all_goals omega
      · unfold triesV
        rw [mem_sortV]
        simp only [List.mem_cons, List.not_mem_nil, or_false]
        have e1 : w64 (1 - 0) = 1 := by decide
        have e2 : w64 (1 - 1) = 0 := by decide
        rcases h with h | h | h | h | h | h | h
        · omega
        · omega
        · omega
        · rcases h.2 with h | h
          · omega
          · have := hb h.1
            have e : x.2 = 0 ∨ x.2 = 1 := by omega
            rcases e with e | e
            · rw [e, e1] at h; omega
            · rw [e, e2] at h; omega
        · omega
        · omega
        · omega
end Go.Proofs.Ytalehbmgbjiigaa
end

section
namespace Go.Proofs.Ytalehbmgbjiigaa
open Go.RowKit
set_option linter.unusedVariables false
set_option linter.unusedSimpArgs false

theorem set_self {H : Heap} {id : Nat} {o : HO} (h : H[id]? = some o) : H.set id o = H := by
  apply List.ext_getElem?
  intro k
  by_cases hk : id = k
  · subst hk; rw [List.getElem?_set_self (List.getElem?_eq_some_iff.1 h).1, h]
  · rw [List.getElem?_set_ne hk]
/-- One more, unless it is like the last one. -/
def dedS (a : List Int) (x : Int) : List Int := if a.getLast? = some x then a else a ++ [x]
def dedV (l : List Int) (m : Nat) : List Int := (l.take m).foldl dedS []
theorem dedV_zero (l : List Int) : dedV l 0 = [] := by simp [dedV]
theorem dedV_succ (l : List Int) (m : Nat) (h : m < l.length) : dedV l (m + 1) = dedS (dedV l m) (l.getD m 0) := by
  unfold dedV
  rw [List.take_succ_eq_append_getElem h, List.foldl_append, getD_in _ _ _ h]
  rfl
theorem dedS_last (a : List Int) (x : Int) : (dedS a x).getLast? = some x := by
  unfold dedS
  split
  · assumption
  · simp
theorem dedV_last (l : List Int) (m : Nat) (h : m < l.length) : (dedV l (m + 1)).getLast? = some (l.getD m 0) := by
  rw [dedV_succ l m h]; exact dedS_last _ _
theorem dedV_len (l : List Int) : ∀ m, m ≤ l.length → (dedV l m).length ≤ m
  | 0, _ => by simp [dedV_zero]
  | m + 1, h => by
    rw [dedV_succ l m h]
    have := dedV_len l m (by omega)
    unfold dedS
    split
    · omega
    · simp; omega
theorem pw_last {l : List Int} {x : Int} (h : l.Pairwise (· < ·)) (hx : l.getLast? = some x) : ∀ y ∈ l, y ≤ x := by
  intro y hy
  obtain ⟨a, rfl⟩ : ∃ a, l = a ++ [x] := by
    rcases List.eq_nil_or_concat l with rfl | ⟨a, b, rfl⟩
    · simp at hx
    · rw [List.concat_eq_append, List.getLast?_append] at hx
      simp at hx
      subst hx
      exact ⟨a, List.concat_eq_append⟩
  rw [List.pairwise_append] at h
  simp only [List.mem_append, List.mem_singleton] at hy
  rcases hy with hy | rfl
  · have := h.2.2 y hy x (by simp); omega
  · omega
/-- In a row that rises, each is left once. -/
theorem dedV_rise (l : List Int) : ∀ m, m ≤ l.length → Rise l m → (dedV l m).Pairwise (· < ·) ∧ ∀ x, x ∈ dedV l m ↔ x ∈ l.take m
  | 0, _, _ => by simp [dedV_zero]
  | m + 1, h, hR => by
    obtain ⟨h1, h2⟩ := dedV_rise l m (by omega) fun p q a b => hR p q a (by omega)
    rw [dedV_succ l m h, List.take_succ_eq_append_getElem h]
    have hgx : l[m] = l.getD m 0 := (getD_in _ _ _ h).symm
    rw [hgx]
    unfold dedS
    by_cases he : (dedV l m).getLast? = some (l.getD m 0)
    · rw [if_pos he]
      refine ⟨h1, fun x => ?_⟩
      rw [h2, List.mem_append, List.mem_singleton]
      constructor
      · exact .inl
      · rintro (hx | rfl)
        · exact hx
        · exact (h2 _).1 (List.mem_of_getLast? he)
    · rw [if_neg he]
      refine ⟨?_, fun x => by rw [List.mem_append, List.mem_append, h2]⟩
      rw [List.pairwise_append]
      refine ⟨h1, by simp, fun y hy x hx => ?_⟩
      rw [List.mem_singleton] at hx
      subst hx
      cases m with
      | zero => simp [dedV_zero] at hy
      | succ m =>
        have hl := dedV_last l m (by omega)
        rw [hl] at he
        have a1 := pw_last h1 hl y hy
        have a2 := hR m (m + 1) (by omega) (by omega)
        have a3 : l.getD m 0 ≠ l.getD (m + 1) 0 := fun e => he (by rw [e])
        omega
/-- Nothing alike so far: nothing is left out. -/
theorem dedV_all (l : List Int) : ∀ m, m ≤ l.length → (∀ p, p + 1 < m → l.getD (p + 1) 0 ≠ l.getD p 0) → dedV l m = l.take m
  | 0, _, _ => by simp [dedV_zero]
  | m + 1, h, hd => by
    have ih := dedV_all l m (by omega) fun p hp => hd p (by omega)
    rw [dedV_succ l m h, List.take_succ_eq_append_getElem h, ← ih]
    unfold dedS
    rw [if_neg, getD_in _ _ _ h]
    cases m with
    | zero => simp [dedV_zero]
    | succ m =>
      rw [dedV_last l m (by omega)]
      intro e
      exact hd m (by omega) (Option.some.inj e).symm
/-- What rises, and holds the same, is the list in order. -/
theorem dedV_sort (l s : List Int) (hR : Rise s s.length) (hm : ∀ x, x ∈ s ↔ x ∈ l) : dedV s s.length = sortV l := by
  obtain ⟨h1, h2⟩ := dedV_rise s s.length (Nat.le_refl _) hR
  refine pw_unique (· < ·) (fun a (h : a < a) => by omega) (fun a b (h1 : a < b) (h2 : b < a) => by omega) _ _ h1 (sortV_sorted l) fun x => ?_
  rw [h2, List.take_length, hm, mem_sortV]
/-- A place is written ahead of what was not read. -/
theorem take_set_succ (c : List Int) (k : Nat) (x : Int) (h : k < c.length) : (c.set k x).take (k + 1) = c.take k ++ [x] := by
  rw [List.take_succ_eq_append_getElem (by simpa using h), List.take_set_of_le (Nat.le_refl _)]
  simp
end Go.Proofs.Ytalehbmgbjiigaa
end
