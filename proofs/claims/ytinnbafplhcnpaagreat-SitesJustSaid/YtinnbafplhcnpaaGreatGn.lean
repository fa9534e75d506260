/-
  Parts joined into one text: Sh09j, T09j, Sh09k, T09k, KindLaw, KindBelow, Kind20, DepRepl, ShL09, Pure9, Law09, Law09b, DeltTyped, CatLaw, T13i, DlRow, T13j, Sh13j, T13k, Sh13k, Tries. No condition.
-/
import Derived.Test.YtinnbafplhcnpaaGreatGg
import Derived.Test.YtinnbafplhcnpaaGreatGi
import Derived.Test.YtinnbafplhcnpaaGreatGj
import Derived.Test.YtinnbafplhcnpaaGreatGk
import Derived.Test.YtinnbafplhcnpaaGreatGm

section
namespace Go.Proofs.YtinnbafplhcnpaaGreat
open Go.RowKit
set_option linter.unusedVariables false
set_option maxRecDepth 100000

def kp_kinds_Of : List Nat := []
theorem sh_kinds_Of (n : Nat) (x0 x1 : D) (h : Heap) : textK Tryz.prog T09h kp_kinds_Of n Tryz.f29 [x0, x1] h =
(thnH (boxH 25 x0 h) fun y0 h1 =>
thn (fieldAtH 2 y0) fun y2 =>
thn (loadH none h1 y2) fun y3 =>
thnH (liftF F_End [y3, x1] h1) fun y4 h5 =>
thn (binK .int .lss y4 (iD 0)) fun y6 =>
condK y6
(some ((iD (-1)), h5))
(thn (loadH (some 3) h5 y0) fun y7 =>
thnH (liftF F_rules [] h5) fun y8 h9 =>
thn (buildR [(0, 3), (3, 1)] [(iD 0), (.v (.slice none 0 0)), (.v (.slice none 0 0)), (.v (.map none))] [(0, y7), (1, y8)]) fun y10 =>
thnH (liftF F_ofAll [y10, x1] h9) fun y11 h12 =>
some (y11, h12))) := by kernel_rfl

end Go.Proofs.YtinnbafplhcnpaaGreat
end

section
namespace Go.Proofs.YtinnbafplhcnpaaGreat
open Go.RowKit
set_option linter.unusedVariables false
set_option linter.unusedSimpArgs false

theorem knd_no {p : Pg} {i : Int} (h : endv p.body i < 0) : knd p i = -1 := by rw [knd, kindV, if_pos h]
theorem rules_pure (H : Heap) : liftF F_rules [] H = some (rulesD, H) := by rw [liftF_pure _ _ _ rfl]; rfl
theorem ofAll_pure (p : Pg) (i : Int) (h : ofOk p i = true) (H : Heap) : liftF F_ofAll [.agg (chkC p), iD i] H = some (iD (knd p i), H) := by
  rw [liftF_pure _ _ _ rfl]
  have : F_ofAll [.agg (chkC p), iD i] = _ := f2_enc (A := chkT) (B := intT) _ p i
  rw [this, if_pos h]; rfl
theorem C_Of9 : CallOk Tryz.prog 29 F_Of9 := call2 (kp := kp_kinds_Of) T09h_ok mixed Tryz.func29 (by kernel_rfl) (by decide) fun p i d h => by
  split at h
  case isFalse => cases h
  rename_i hp
  cases h
  refine ⟨0, _, ?_, Imp.refl _⟩
  show outD (textK _ _ _ _ _ [progD p, iD i] []) = _
  rw [sh_kinds_Of]
  by_cases hE : endv p.body i < 0
  · simp [end_pure p.body i hp, hE, knd_no hE]
  · have hb : buildR [(0, 3), (3, 1)] [iD 0, .v (.slice none 0 0), .v (.slice none 0 0), .v (.map none)] [(0, .agg [iD p.params, intsD p.vars, nodesD p.body]), (1, rulesD)] = some (.agg (chkC p)) := rfl
    have hok : ofOk p i = true := by simp only [ofOk, decide_eq_true_eq]; omega
    simp [end_pure p.body i hp, hE, rules_pure, hb, ofAll_pure p i hok]

def fs09j : List Entry := (29, true, liftF F_Of9) :: fs09h
theorem fs09j_ok : ∀ p ∈ fs09j, EntryOk Tryz.prog p := entries_cons (entry_lift C_Of9) <| fs09h_ok
def T09j : Tab := ⟨fs09j, noYl⟩
theorem T09j_ok : TabOk Tryz.prog T09j := tabOk_of fs09j_ok
end Go.Proofs.YtinnbafplhcnpaaGreat
end

section
namespace Go.Proofs.YtinnbafplhcnpaaGreat
open Go.RowKit
set_option linter.unusedVariables false
set_option maxRecDepth 100000

def kp_kinds_Check : List Nat := []
theorem sh_kinds_Check (n : Nat) (x0 : D) (h : Heap) : textK Tryz.prog T09j kp_kinds_Check n Tryz.f19 [x0] h =
(thnH (boxH 25 x0 h) fun y0 h1 =>
thn (fieldAtH 2 y0) fun y2 =>
thn (loadH none h1 y2) fun y3 =>
thnH (liftF F_Check [y3] h1) fun y4 h5 =>
thn (binK .int .neq y4 (iD 0)) fun y6 =>
condK y6
(some (y4, h5))
(thn (loadH (some 3) h5 y0) fun y7 =>
thnH (liftF F_Vars [y7] h5) fun y8 h9 =>
thn (binK .int .neq y8 (iD 0)) fun y10 =>
condK y10
(some (y8, h9))
(thn (fieldAtH 2 y0) fun y11 =>
thn (loadH none h9 y11) fun y12 =>
thn (idxH 2 y12 (iD 0)) fun y13 =>
thn (fieldAtH 0 y13) fun y14 =>
thn (loadH none h9 y14) fun y15 =>
thn (binK .int .neq y15 (iD 20)) fun y16 =>
condK y16
(some ((iD 15), h9))
(thn (loadH (some 3) h9 y0) fun y17 =>
thnH (liftF F_Of9 [y17, (iD 0)] h9) fun y18 h19 =>
thn (binK .int .neq y18 (iD 2)) fun y20 =>
condK y20
(some ((iD 15), h19))
(some ((iD 0), h19)))))) := by kernel_rfl

def kp_offshootref09_Check : List Nat := []
theorem sh_offshootref09_Check (n : Nat) (x0 : D) (h : Heap) : textK Tryz.prog T09j kp_offshootref09_Check n Tryz.f31 [x0] h =
(thnH (boxH 25 x0 h) fun y0 h1 =>
thn (fieldAtH 2 y0) fun y2 =>
thn (loadH none h1 y2) fun y3 =>
thnH (liftF F_RefCheck [y3] h1) fun y4 h5 =>
thn (binK .int .neq y4 (iD 0)) fun y6 =>
condK y6
(some (y4, h5))
(thn (loadH (some 3) h5 y0) fun y7 =>
thnH (liftF F_Vars [y7] h5) fun y8 h9 =>
thn (binK .int .neq y8 (iD 0)) fun y10 =>
condK y10
(some (y8, h9))
(thn (fieldAtH 2 y0) fun y11 =>
thn (loadH none h9 y11) fun y12 =>
thn (idxH 2 y12 (iD 0)) fun y13 =>
thn (fieldAtH 0 y13) fun y14 =>
thn (loadH none h9 y14) fun y15 =>
thn (binK .int .neq y15 (iD 20)) fun y16 =>
condK y16
(some ((iD 15), h9))
(thn (loadH (some 3) h9 y0) fun y17 =>
thnH (liftF F_Of9 [y17, (iD 0)] h9) fun y18 h19 =>
thn (binK .int .neq y18 (iD 2)) fun y20 =>
condK y20
(some ((iD 15), h19))
(some ((iD 0), h19)))))) := by kernel_rfl

end Go.Proofs.YtinnbafplhcnpaaGreat
end

section
namespace Go.Proofs.YtinnbafplhcnpaaGreat
open Go.RowKit
set_option linter.unusedVariables false
set_option linter.unusedSimpArgs false

/-- Is a program typed? -/
def chk9 (p : Pg) : Int :=
  if checkV p.body ≠ 0 then checkV p.body else
  if varsV p ≠ 0 then varsV p else
  if (nodeAt p.body 0).1 ≠ 20 ∨ knd p 0 ≠ 2 then 15 else 0
def F_Check9 : List D → Option D := F1 progT fun p => if p.body.length ≤ 3000000 then some (iD (chk9 p)) else none
theorem check_pure (l : List Nd) (h : l.length ≤ 3000000) (H : Heap) : liftF F_Check [nodesD l] H = some (iD (checkV l), H) := by
  rw [liftF_pure _ _ _ rfl]; simp [F_Check, h]
theorem refCheck_pure (l : List Nd) (h : l.length ≤ 3000000) (H : Heap) : liftF F_RefCheck [nodesD l] H = some (iD (checkV l), H) := by
  rw [liftF_pure _ _ _ rfl]; simp [F_RefCheck, h]
theorem vars_pure (p : Pg) (H : Heap) : liftF F_Vars [progD p] H = some (iD (varsV p), H) := by
  rw [liftF_pure _ _ _ rfl]
  have : F_Vars [progD p] = _ := f1_enc (A := progT) _ p
  rw [this]; rfl
theorem of9_pure (p : Pg) (i : Int) (h : p.body.length ≤ 3000000) (H : Heap) : liftF F_Of9 [progD p, iD i] H = some (iD (knd p i), H) := by
  rw [liftF_pure _ _ _ rfl]
  have : F_Of9 [progD p, iD i] = _ := f2_enc (A := progT) (B := intT) _ p i
  rw [this, if_pos h]; rfl
theorem check_pos {l : List Nd} (h : checkV l = 0) : 0 < l.length := by
  unfold checkV at h
  split at h
  · cases h
  · omega
theorem C_Check9 : CallOk Tryz.prog 19 F_Check9 := call1 (kp := kp_kinds_Check) T09j_ok mixed Tryz.func19 (by kernel_rfl) (by decide) fun p d h => by
  split at h
  case isFalse => cases h
  rename_i hp
  cases h
  refine ⟨0, _, ?_, Imp.refl _⟩
  show outD (textK _ _ _ _ _ [progD p] []) = _
  rw [sh_kinds_Check]
  have ep : D.agg [iD p.params, intsD p.vars, nodesD p.body] = progD p := rfl
  unfold chk9
  by_cases h1 : checkV p.body = 0
  · by_cases h2 : varsV p = 0
    · have h0 := check_pos h1
      have hn : nodeAt p.body 0 = p.body[0] := by unfold nodeAt; exact getD_in _ 0 _ h0
      have hi := idx_nodesN p.body 0 h0
      simp only [cast0] at hi
      by_cases h3 : (p.body[0]).1 = 20
      · by_cases h4 : knd p 0 = 2
        · simp [check_pure _ hp, h1, vars_pure, h2, hn, hi, h3, of9_pure p 0 hp, h4, ep]
        · simp [check_pure _ hp, h1, vars_pure, h2, hn, hi, h3, of9_pure p 0 hp, h4, ep]
      · simp [check_pure _ hp, h1, vars_pure, h2, hn, hi, h3, ep]
    · simp [check_pure _ hp, h1, vars_pure, h2, ep]
  · simp [check_pure _ hp, h1]
theorem C_RefCheck9 : CallOk Tryz.prog 31 F_Check9 := call1 (kp := kp_offshootref09_Check) T09j_ok mixed Tryz.func31 (by kernel_rfl) (by decide) fun p d h => by
  split at h
  case isFalse => cases h
  rename_i hp
  cases h
  refine ⟨0, _, ?_, Imp.refl _⟩
  show outD (textK _ _ _ _ _ [progD p] []) = _
  rw [sh_offshootref09_Check]
  have ep : D.agg [iD p.params, intsD p.vars, nodesD p.body] = progD p := rfl
  unfold chk9
  by_cases h1 : checkV p.body = 0
  · by_cases h2 : varsV p = 0
    · have h0 := check_pos h1
      have hn : nodeAt p.body 0 = p.body[0] := by unfold nodeAt; exact getD_in _ 0 _ h0
      have hi := idx_nodesN p.body 0 h0
      simp only [cast0] at hi
      by_cases h3 : (p.body[0]).1 = 20
      · by_cases h4 : knd p 0 = 2
        · simp [refCheck_pure _ hp, h1, vars_pure, h2, hn, hi, h3, of9_pure p 0 hp, h4, ep]
        · simp [refCheck_pure _ hp, h1, vars_pure, h2, hn, hi, h3, of9_pure p 0 hp, h4, ep]
      · simp [refCheck_pure _ hp, h1, vars_pure, h2, hn, hi, h3, ep]
    · simp [refCheck_pure _ hp, h1, vars_pure, h2, ep]
  · simp [refCheck_pure _ hp, h1]
end Go.Proofs.YtinnbafplhcnpaaGreat
end

section
namespace Go.Proofs.YtinnbafplhcnpaaGreat
open Go.RowKit
set_option linter.unusedVariables false
set_option linter.unusedSimpArgs false

/-- A node's kind, with fuel enough. -/
def kv (vs : List Int) (l : List Nd) (i : Int) : Int := kindV (l.length + 1) vs l i
section
variable {l r : List Nd} {k : Nat}
end
end Go.Proofs.YtinnbafplhcnpaaGreat
end

section
namespace Go.Proofs.YtinnbafplhcnpaaGreat
open Go.RowKit
set_option linter.unusedVariables false
set_option linter.unusedSimpArgs false

end Go.Proofs.YtinnbafplhcnpaaGreat
end

section
namespace Go.Proofs.YtinnbafplhcnpaaGreat
open Go.RowKit
set_option linter.unusedVariables false
set_option linter.unusedSimpArgs false

section
variable {l r : List Nd} {k : Nat}
end
end Go.Proofs.YtinnbafplhcnpaaGreat
end

section
namespace Go.Proofs.YtinnbafplhcnpaaGreat
open Go.RowKit
set_option linter.unusedVariables false
set_option linter.unusedSimpArgs false

section
variable {l r : List Nd} {k : Nat}
end
end Go.Proofs.YtinnbafplhcnpaaGreat
end

section
namespace Go.Proofs.YtinnbafplhcnpaaGreat
open Go.RowKit
set_option linter.unusedVariables false
set_option maxRecDepth 100000

end Go.Proofs.YtinnbafplhcnpaaGreat
end

section
namespace Go.Proofs.YtinnbafplhcnpaaGreat
open Go.RowKit
set_option linter.unusedVariables false
set_option linter.unusedSimpArgs false

theorem few_pure (p : Pg) (H : Heap) : liftF F_Few [progD p] H = some (bD (fewV p), H) := by
  rw [liftF_pure _ _ _ rfl]
  have : F_Few [progD p] = _ := f1_enc (A := progT) _ p
  rw [this]; rfl
theorem few_fits {p : Pg} (h : fewV p = true) : p.body.length ≤ 60 ∧ p.vars.length ≤ 20 ∧ p.fits ∧ p.body.length ≤ 3000000 := by
  simp only [fewV, Bool.and_eq_true, decide_eq_true_eq] at h
  exact ⟨h.1, h.2, ⟨by omega, by omega⟩, by omega⟩

@[simp] theorem cells_prog (p : Pg) : cellsD (progD p) = some [iD p.params, intsD p.vars, nodesD p.body] := rfl
end Go.Proofs.YtinnbafplhcnpaaGreat
end

section
namespace Go.Proofs.YtinnbafplhcnpaaGreat
open Go.RowKit
set_option linter.unusedVariables false
set_option linter.unusedSimpArgs false

end Go.Proofs.YtinnbafplhcnpaaGreat
end

section
namespace Go.Proofs.YtinnbafplhcnpaaGreat
open Go.RowKit
set_option linter.unusedVariables false
set_option linter.unusedSimpArgs false

theorem chk9_ok {p : Pg} (h : chk9 p = 0) : checkV p.body = 0 ∧ varsV p = 0 ∧ (nodeAt p.body 0).1 = 20 ∧ knd p 0 = 2 := by
  unfold chk9 at h
  by_cases h1 : checkV p.body = 0
  · rw [if_neg (by simp [h1])] at h
    by_cases h2 : varsV p = 0
    · rw [if_neg (by simp [h2])] at h
      split at h
      · cases h
      · rename_i h3
        rw [not_or] at h3
        exact ⟨h1, h2, Decidable.not_not.1 h3.1, Decidable.not_not.1 h3.2⟩
    · rw [if_pos h2] at h; exact absurd h h2
  · rw [if_pos h1] at h; exact absurd h h1
end Go.Proofs.YtinnbafplhcnpaaGreat
end

section
namespace Go.Proofs.YtinnbafplhcnpaaGreat
open Go.RowKit
set_option linter.unusedVariables false
set_option linter.unusedSimpArgs false

end Go.Proofs.YtinnbafplhcnpaaGreat
end

section
namespace Go.Proofs.YtinnbafplhcnpaaGreat
open Go.RowKit
set_option linter.unusedVariables false
set_option linter.unusedSimpArgs false

def choicesV (l : List Nd) (i : Int) : List (Int × Int) := if endv l i < 0 then [] else choiceV (nodeAt l i) (nodeAt l (i + 1))
/-- Is there such a choice? -/
def isC (l : List Nd) (i op n : Int) : Prop := 0 ≤ endv l i ∧ isN (nodeAt l i) (nodeAt l (i + 1)) op n
instance (l : List Nd) (i op n : Int) : Decidable (isC l i op n) := by unfold isC; infer_instance
theorem choices_is (l : List Nd) (i op n : Int) : (op, n) ∈ choicesV l i ↔ isC l i op n := by
  unfold choicesV isC
  split
  · simp; omega
  · rw [choice_is]; exact ⟨fun h => ⟨by omega, h⟩, fun h => h.2⟩
theorem choices_sorted (l : List Nd) (i : Int) : (choicesV l i).Pairwise lexR := by
  unfold choicesV
  split
  · simp
  · exact choice_sorted _ _
theorem choices_short (l : List Nd) (i : Int) : (choicesV l i).length ≤ 5 := by
  unfold choicesV
  split
  · simp
  · exact nums_short _ _
/-- The next node counts at a Return alone. -/
theorem choice_next (x y z : Nd) (h : x.1 = 25 → y = z) : choiceV x y = choiceV x z := by
  by_cases e : x.1 = 25
  · rw [h e]
  · unfold choiceV numsV
    rw [if_neg e, if_neg e]
theorem part_get (l : List Nd) (k : Nat) (hE : 0 ≤ endv l k) (j : Nat) (hj : ((k + j : Nat) : Int) < endv l k) : (partV l k)[j]? = l[k + j]? := by
  have hle := endv_le l k
  rw [partV, if_neg (by omega)]
  simp only [Int.toNat_natCast]
  rw [List.getElem?_drop, List.getElem?_take_of_lt (by omega)]
theorem nodeAt_part (l : List Nd) (k : Nat) (hE : 0 ≤ endv l k) (j : Nat) (hj : ((k + j : Nat) : Int) < endv l k) : nodeAt (partV l k) j = nodeAt l ((k + j : Nat) : Int) := by
  unfold nodeAt
  rw [Int.toNat_natCast, Int.toNat_natCast, List.getD_eq_getElem?_getD, List.getD_eq_getElem?_getD, part_get l k hE j hj]
theorem choices_part (l : List Nd) (i : Int) : choicesV (partV l i) 0 = choicesV l i := by
  by_cases hE : endv l i < 0
  · have e : partV l i = [] := by rw [partV, if_pos hE]
    unfold choicesV
    rw [if_pos hE, e, if_pos (by decide)]
  · have h0 : 0 ≤ endv l i := by omega
    obtain ⟨k, rfl⟩ := Int.eq_ofNat_of_zero_le (endv_in l i h0).1
    have hgt := endv_gt l k h0
    have hw := part_whole h0
    have hn := nodeAt_part l k h0 0 (by omega)
    unfold choicesV
    rw [if_neg (by rw [hw]; omega), if_neg hE]
    rw [show ((0 : Nat) : Int) = 0 from rfl] at hn
    rw [hn, Nat.add_zero]
    refine choice_next _ _ _ fun h25 => ?_
    obtain ⟨f1, f2, f3⟩ := ret_kid l k h0 h25
    have hg := endv_gt l _ f1
    have := nodeAt_part l k h0 1 (by omega)
    rw [show (0 : Int) + 1 = ((1 : Nat) : Int) from rfl, this]
    rfl
theorem bool_num {l : List Nd} {k : Nat} (hE : 0 ≤ endv l k) (h : (nodeAt l k).1 = 2) : 0 ≤ (nodeAt l k).2 ∧ (nodeAt l k).2 ≤ 1 := by
  obtain ⟨hk, h0, _⟩ := at_ar hE
  rw [nodeAt_in l k hk] at h ⊢
  generalize l[k] = x at *
  obtain ⟨t, m⟩ := x
  simp only at h h0 ⊢
  subst h
  unfold ar at h0
  rw [if_neg (show ¬ ((2 : Int) = 1) from by decide)] at h0
  have : lim 2 m = (1, 0) := rfl
  simp only [this] at h0
  split at h0 <;> omega
theorem part_pos {l : List Nd} {i : Int} (h : 0 ≤ endv l i) : endv (partV l i) 0 = (partV l i).length ∧ 0 < (partV l i).length := by
  obtain ⟨k, rfl⟩ := Int.eq_ofNat_of_zero_le (endv_in l i h).1
  have hw := part_whole h
  refine ⟨hw, ?_⟩
  have hgt := endv_gt (partV l k) 0 (by rw [hw]; omega)
  rw [hw] at hgt
  omega
end Go.Proofs.YtinnbafplhcnpaaGreat
end

section
namespace Go.Proofs.YtinnbafplhcnpaaGreat
open Go.RowKit
set_option linter.unusedVariables false
set_option linter.unusedSimpArgs false
set_option maxRecDepth 100000

theorem sins_len (a : Int) : ∀ l : List Int, (sins a l).length ≤ l.length + 1
  | [] => by simp [sins]
  | x :: r => by
    have := sins_len a r
    simp only [sins]
    split
    · simp
    · split <;> simp <;> omega
theorem sortV_len (l : List Int) : (sortV l).length ≤ l.length := by
  induction l with
  | nil => simp [sortV]
  | cons a r ih =>
    have : sortV (a :: r) = sins a (sortV r) := rfl
    rw [this]
    have := sins_len a (sortV r)
    simp; omega
theorem onceV_len (but : Int) (l : List Int) : (onceV but l).length ≤ l.length := Nat.le_trans (List.length_filter_le _ _) (sortV_len l)
theorem rowV_len (lo hi but : Int) (h : hi - lo ≤ 5) : (rowV lo hi but).length ≤ 6 := Nat.le_trans (rowP_len lo (hi - lo + 1).toNat but) (by omega)
theorem answersV_len (y : Nd) : (answersV y).length ≤ 2 := by
  unfold answersV
  split
  · exact onceV_len _ _
  · simp
def fl (L : List (Int × List Int)) : List (Int × Int) := L.flatMap fun e => e.2.map fun n => (e.1, n)
def pA (x : Nd) : List (Int × List Int) :=
  if 7 ≤ x.1 ∧ x.1 ≤ 11 then [(1, rowV 7 11 x.1)] else if 12 ≤ x.1 ∧ x.1 ≤ 17 then [(2, rowV 12 17 x.1)] else if x.1 = 18 ∨ x.1 = 19 then [(3, rowV 18 19 x.1)]
    else if x.1 = 1 then [(4, onceV x.2 [0, 1, -1, w64 (x.2 + 1), w64 (x.2 - 1)])] else if x.1 = 2 then [(4, [w64 (1 - x.2)])] else []
def pB (x : Nd) : List (Int × List Int) := if x.1 = 21 ∨ x.1 = 22 ∨ x.1 = 23 ∨ x.1 = 24 ∨ x.1 = 25 then [(5, [0])] else []
def pC (x y : Nd) : List (Int × List Int) := if x.1 = 23 ∨ x.1 = 24 then [(6, [0])] else if x.1 = 25 then [(7, answersV y)] else []
theorem choice_parts (x y : Nd) : choiceV x y = fl (pA x) ++ (fl (pB x) ++ fl (pC x y)) := by
  unfold choiceV fl
  rw [← List.flatMap_append, ← List.flatMap_append]
  rfl
theorem fl_one (op : Int) (ns : List Int) : fl [(op, ns)] = ns.map fun n => (op, n) := by simp [fl]
theorem row_one13 (t : TypeId) (a : Int) (H : Heap) : rowH t 1 1 [iD 0] [(0, iD a)] H = some (.hs H.length 1, H ++ [.cells t 1 (intsC [a])]) := rfl
theorem numb_new (t : TypeId) (ns : List Int) (H : Heap) : Numb H.length (H ++ [.cells t 1 (intsC ns)]) (.hs H.length ns.length) ns := .inr ⟨H.length, t, ns, Nat.le_refl _, rfl, by simp, List.take_length⟩
/-- The last part. -/
theorem lists3_ok (l : List Nd) (x : Nd) (H : Heap) (out : List (Int × Int)) (h : ChInv l x H out) (hk : x.1 = 25 → 1 < l.length) (hout : out.length ≤ 90) :
    ∃ H', lists3 Tryz.prog (Y13 Tryz.prog) (.hp 1 0) (.hp 3 0) (.hp 4 0) (.hp 5 0) H = some (.tup [], H') ∧ ChInv l x H' (out ++ fl (pC x (nodeAt l 1))) := by
  have f0 : fieldAtH 0 (.hp 4 0) = some (.hp 4 0) := rfl
  have l0 := load_cell0 H 4 _ _ _ _ h.node
  have l1 := load_cell0 H 1 _ _ _ _ h.row
  have hone := tell_ok l x H (H ++ [.cells 3 1 (intsC [0])]) out 6 (.hs H.length 1) [0] h (Kp.app _ _ _ (Nat.le_refl _)) (numb_new 3 [0] H) (by simp) (by omega)
  obtain ⟨H6, u1, u2⟩ := hone
  unfold lists3 pC
  by_cases h23 : x.1 = 23
  · have b1 : (x.1 == 23) = true := by rw [h23]; rfl
    refine ⟨H6, ?_, by rw [if_pos (.inl h23), fl_one]; exact u2⟩
    simp only [f0, thn_some, l0, binK_eql, b1, condK_bool, if_true, row_one13, thnH_some, u1]
  · have b1 : (x.1 == 23) = false := by rw [beq_eq_false_iff_ne]; exact h23
    by_cases h24 : x.1 = 24
    · have b2 : (x.1 == 24) = true := by rw [h24]; rfl
      refine ⟨H6, ?_, by rw [if_pos (.inr h24), fl_one]; exact u2⟩
      simp only [f0, thn_some, l0, binK_eql, b1, b2, condK_bool, Bool.false_eq_true, if_false, if_true, row_one13, thnH_some, u1]
    · have b2 : (x.1 == 24) = false := by rw [beq_eq_false_iff_ne]; exact h24
      rw [if_neg (by omega)]
      by_cases h25 : x.1 = 25
      · have b3 : (x.1 == 25) = true := by rw [h25]; rfl
        have hl := hk h25
        have i1 : idxH 2 (nodesD l) (iD 1) = some (.ptr (nodeD l[1])) := idx_nodesN l 1 hl
        have hx : nodeAt l 1 = l[1] := nodeAt_in l 1 hl
        have l2 : loadH (some 2) H (.ptr (nodeD l[1])) = some (.agg (nodeD l[1])) := rfl
        obtain ⟨d, H1, a1, a2, a3, a4⟩ := answers_ok l[1] H
        have hal := answersV_len l[1]
        obtain ⟨H7, v1, v2⟩ := tell_ok l x H H1 out 7 d (answersV l[1]) h a3 a2 (by omega) (by omega)
        refine ⟨H7, ?_, by rw [if_pos h25, fl_one, hx]; exact v2⟩
        simp only [f0, thn_some, l0, binK_eql, b1, b2, b3, condK_bool, Bool.false_eq_true, if_false, if_true, l1, i1, l2, a1, thnH_some, v1]
      · have b3 : (x.1 == 25) = false := by rw [beq_eq_false_iff_ne]; exact h25
        refine ⟨H, ?_, by rw [if_neg h25]; simpa [fl] using h⟩
        simp only [f0, thn_some, l0, binK_eql, b1, b2, b3, condK_bool, Bool.false_eq_true, if_false]
theorem tell5_ok (l : List Nd) (x : Nd) (H : Heap) (out : List (Int × Int)) (h : ChInv l x H out) (hk : x.1 = 25 → 1 < l.length) (hout : out.length ≤ 80) :
    ∃ H', tell5 Tryz.prog (Y13 Tryz.prog) (.hp 1 0) (.hp 3 0) (.hp 4 0) (.hp 5 0) H = some (.tup [], H') ∧ ChInv l x H' (out ++ (fl [(5, [0])] ++ fl (pC x (nodeAt l 1)))) := by
  obtain ⟨H6, u1, u2⟩ := tell_ok l x H (H ++ [.cells 3 1 (intsC [0])]) out 5 (.hs H.length 1) [0] h (Kp.app _ _ _ (Nat.le_refl _)) (numb_new 3 [0] H) (by simp) (by omega)
  obtain ⟨H7, v1, v2⟩ := lists3_ok l x H6 _ u2 hk (by simp; omega)
  refine ⟨H7, ?_, by rw [fl_one, ← List.append_assoc]; exact v2⟩
  unfold tell5
  simp only [row_one13, thnH_some, u1, v1]
/-- The second part. -/
theorem lists2_ok (l : List Nd) (x : Nd) (H : Heap) (out : List (Int × Int)) (h : ChInv l x H out) (hk : x.1 = 25 → 1 < l.length) (hout : out.length ≤ 80) :
    ∃ H', lists2 Tryz.prog (Y13 Tryz.prog) (.hp 1 0) (.hp 3 0) (.hp 4 0) (.hp 5 0) H = some (.tup [], H') ∧ ChInv l x H' (out ++ (fl (pB x) ++ fl (pC x (nodeAt l 1)))) := by
  have f0 : fieldAtH 0 (.hp 4 0) = some (.hp 4 0) := rfl
  have l0 := load_cell0 H 4 _ _ _ _ h.node
  unfold lists2
  by_cases hx : x.1 = 21 ∨ x.1 = 22 ∨ x.1 = 23 ∨ x.1 = 24 ∨ x.1 = 25
  · obtain ⟨H', q1, q2⟩ := tell5_ok l x H out h hk hout
    refine ⟨H', ?_, by unfold pB; rw [if_pos hx]; exact q2⟩
    rcases hx with e | e | e | e | e <;> rw [e] at l0 <;> simp only [f0, thn_some, l0, binK_eql, condK_bool] <;> exact q1
  · obtain ⟨H', q1, q2⟩ := lists3_ok l x H out h hk (by omega)
    refine ⟨H', ?_, by unfold pB; rw [if_neg hx]; simpa [fl] using q2⟩
    have b : ∀ t : Int, t = 21 ∨ t = 22 ∨ t = 23 ∨ t = 24 ∨ t = 25 → (x.1 == t) = false := fun t ht => by rw [beq_eq_false_iff_ne]; omega
    simp only [f0, thn_some, l0, binK_eql, condK_bool, b 21 (by omega), b 22 (by omega), b 23 (by omega), b 24 (by omega), b 25 (by omega), Bool.false_eq_true, if_false, q1]
/-- An operator of a row. -/
theorem tellRow_ok (l : List Nd) (x : Nd) (H : Heap) (lo hi op : Int) (h : ChInv l x H []) (hk : x.1 = 25 → 1 < l.length) (hb : 0 ≤ lo ∧ hi ≤ 100) (hr : hi - lo ≤ 5) :
    ∃ H', tellRow Tryz.prog (Y13 Tryz.prog) lo hi op (.hp 1 0) (.hp 3 0) (.hp 4 0) (.hp 5 0) (iD x.1) H = some (.tup [], H') ∧ ChInv l x H' (fl [(op, rowV lo hi x.1)] ++ (fl (pB x) ++ fl (pC x (nodeAt l 1)))) := by
  have hrl := rowV_len lo hi x.1 hr
  obtain ⟨H6, u1, u2⟩ := tell_ok l x H H [] op (intsD (rowV lo hi x.1)) (rowV lo hi x.1) h (Kp.refl _ _) (.inl rfl) hrl (by simp)
  obtain ⟨H7, v1, v2⟩ := lists2_ok l x H6 _ u2 hk (by simp; omega)
  refine ⟨H7, ?_, by rw [fl_one]; simpa using v2⟩
  unfold tellRow
  simp only [row_pure _ _ _ hb, thnH_some, u1, v1]
theorem listsE_ok (l : List Nd) (x : Nd) (H : Heap) (h : ChInv l x H []) (hk : x.1 = 25 → 1 < l.length) :
    ∃ H', listsE Tryz.prog (Y13 Tryz.prog) (.hp 1 0) (.hp 3 0) (.hp 4 0) (.hp 5 0) (iD x.1) H = some (.tup [], H') ∧ ChInv l x H' (fl (if x.1 = 2 then [(4, [w64 (1 - x.2)])] else []) ++ (fl (pB x) ++ fl (pC x (nodeAt l 1)))) := by
  have f1 : fieldAtH 1 (.hp 4 0) = some (.hp 4 1) := rfl
  have l1 : loadH none H (.hp 4 1) = some (iD x.2) := load_cellN _ _ _ _ _ _ _ h.node rfl
  unfold listsE
  by_cases h2 : x.1 = 2
  · have b : (x.1 == 2) = true := by rw [h2]; rfl
    have e : intD .sub .i64 1 x.2 = some (iD (w64 (1 - x.2))) := rfl
    obtain ⟨H6, u1, u2⟩ := tell_ok l x H (H ++ [.cells 3 1 (intsC [w64 (1 - x.2)])]) [] 4 (.hs H.length 1) [w64 (1 - x.2)] h (Kp.app _ _ _ (Nat.le_refl _)) (numb_new 3 [w64 (1 - x.2)] H) (by simp) (by simp)
    obtain ⟨H7, v1, v2⟩ := lists2_ok l x H6 _ u2 hk (by simp)
    refine ⟨H7, ?_, by rw [if_pos h2, fl_one]; simpa using v2⟩
    simp only [binK_eql, b, thn_some, condK_bool, if_true, f1, l1, binK_sub, e, row_one13, thnH_some, u1, v1]
  · have b : (x.1 == 2) = false := by rw [beq_eq_false_iff_ne]; exact h2
    obtain ⟨H7, v1, v2⟩ := lists2_ok l x H [] h hk (by simp)
    refine ⟨H7, ?_, by rw [if_neg h2]; simpa [fl] using v2⟩
    simp only [binK_eql, b, thn_some, condK_bool, Bool.false_eq_true, if_false, v1]
theorem listsD_ok (l : List Nd) (x : Nd) (H : Heap) (h : ChInv l x H []) (hk : x.1 = 25 → 1 < l.length) :
    ∃ H', listsD Tryz.prog (Y13 Tryz.prog) (.hp 1 0) (.hp 3 0) (.hp 4 0) (.hp 5 0) (iD x.1) H = some (.tup [], H') ∧ ChInv l x H' (fl (if x.1 = 1 then [(4, onceV x.2 [0, 1, -1, w64 (x.2 + 1), w64 (x.2 - 1)])] else if x.1 = 2 then [(4, [w64 (1 - x.2)])] else []) ++ (fl (pB x) ++ fl (pC x (nodeAt l 1)))) := by
  have f1 : fieldAtH 1 (.hp 4 0) = some (.hp 4 1) := rfl
  have l1 : loadH none H (.hp 4 1) = some (iD x.2) := load_cellN _ _ _ _ _ _ _ h.node rfl
  unfold listsD
  by_cases h2 : x.1 = 1
  · have b : (x.1 == 1) = true := by rw [h2]; rfl
    have e : intD .sub .i64 x.2 1 = some (iD (w64 (x.2 - 1))) := rfl
    have e2 : intD .add .i64 x.2 1 = some (iD (w64 (x.2 + 1))) := rfl
    obtain ⟨H1, a1, a2, a3, a4⟩ := once_new 5 (.inr rfl) x.2 3 [0, 1, -1, w64 (x.2 + 1), w64 (x.2 - 1)] H rfl
    have hol := onceV_len x.2 [0, 1, -1, w64 (x.2 + 1), w64 (x.2 - 1)]
    simp only [List.length_cons, List.length_nil] at hol
    obtain ⟨H6, u1, u2⟩ := tell_ok l x H H1 [] 4 _ _ h a3 a2 (by omega) (by simp)
    obtain ⟨H7, v1, v2⟩ := lists2_ok l x H6 _ u2 hk (by simp; omega)
    refine ⟨H7, ?_, by rw [if_pos h2, fl_one]; simpa using v2⟩
    simp only [binK_eql, b, thn_some, condK_bool, if_true, f1, l1, binK_sub, binK_int, e, e2, row_five, thnH_some, a1, u1, v1]
  · have b : (x.1 == 1) = false := by rw [beq_eq_false_iff_ne]; exact h2
    obtain ⟨H7, v1, v2⟩ := listsE_ok l x H h hk
    refine ⟨H7, ?_, by rw [if_neg h2]; exact v2⟩
    simp only [binK_eql, b, thn_some, condK_bool, Bool.false_eq_true, if_false, v1]
/-- All that is told at a node. -/
theorem listsA_ok (l : List Nd) (x : Nd) (H : Heap) (h : ChInv l x H []) (hk : x.1 = 25 → 1 < l.length) :
    ∃ H', listsA Tryz.prog (Y13 Tryz.prog) (.hp 1 0) (.hp 3 0) (.hp 4 0) (.hp 5 0) (iD x.1) H = some (.tup [], H') ∧ ChInv l x H' (choiceV x (nodeAt l 1)) := by
  rw [choice_parts]
  by_cases hA : 7 ≤ x.1 ∧ x.1 ≤ 11
  · obtain ⟨H7, v1, v2⟩ := tellRow_ok l x H 7 11 1 h hk (by omega) (by omega)
    refine ⟨H7, ?_, by unfold pA; rw [if_pos hA]; exact v2⟩
    unfold listsA
    simp only [binK_geq, binK_leq, hA.1, hA.2, decide_true, thn_some, condK_bool, if_true, v1]
  have eA : listsA Tryz.prog (Y13 Tryz.prog) (.hp 1 0) (.hp 3 0) (.hp 4 0) (.hp 5 0) (iD x.1) H = listsB Tryz.prog (Y13 Tryz.prog) (.hp 1 0) (.hp 3 0) (.hp 4 0) (.hp 5 0) (iD x.1) H := by
    unfold listsA
    by_cases h7 : 7 ≤ x.1
    · have h11 : ¬ x.1 ≤ 11 := fun e => hA ⟨h7, e⟩
      simp only [binK_geq, binK_leq, h7, h11, decide_true, decide_false, thn_some, condK_bool, if_true, Bool.false_eq_true, if_false]
    · simp only [binK_geq, h7, decide_false, thn_some, condK_bool, Bool.false_eq_true, if_false]
  rw [eA]
  by_cases hB : 12 ≤ x.1 ∧ x.1 ≤ 17
  · obtain ⟨H7, v1, v2⟩ := tellRow_ok l x H 12 17 2 h hk (by omega) (by omega)
    refine ⟨H7, ?_, by unfold pA; rw [if_neg hA, if_pos hB]; exact v2⟩
    unfold listsB
    simp only [binK_geq, binK_leq, hB.1, hB.2, decide_true, thn_some, condK_bool, if_true, v1]
  have eB : listsB Tryz.prog (Y13 Tryz.prog) (.hp 1 0) (.hp 3 0) (.hp 4 0) (.hp 5 0) (iD x.1) H = listsC Tryz.prog (Y13 Tryz.prog) (.hp 1 0) (.hp 3 0) (.hp 4 0) (.hp 5 0) (iD x.1) H := by
    unfold listsB
    by_cases h7 : 12 ≤ x.1
    · have h11 : ¬ x.1 ≤ 17 := fun e => hB ⟨h7, e⟩
      simp only [binK_geq, binK_leq, h7, h11, decide_true, decide_false, thn_some, condK_bool, if_true, Bool.false_eq_true, if_false]
    · simp only [binK_geq, h7, decide_false, thn_some, condK_bool, Bool.false_eq_true, if_false]
  rw [eB]
  by_cases hC : x.1 = 18 ∨ x.1 = 19
  · obtain ⟨H7, v1, v2⟩ := tellRow_ok l x H 18 19 3 h hk (by omega) (by omega)
    refine ⟨H7, ?_, by unfold pA; rw [if_neg hA, if_neg hB, if_pos hC]; exact v2⟩
    unfold listsC
    by_cases h18 : x.1 = 18
    · have b : (x.1 == 18) = true := by rw [h18]; rfl
      simp only [binK_eql, b, thn_some, condK_bool, if_true, v1]
    · have b : (x.1 == 18) = false := by rw [beq_eq_false_iff_ne]; exact h18
      have b2 : (x.1 == 19) = true := by rw [hC.resolve_left h18]; rfl
      simp only [binK_eql, b, b2, thn_some, condK_bool, Bool.false_eq_true, if_false, if_true, v1]
  obtain ⟨H7, v1, v2⟩ := listsD_ok l x H h hk
  refine ⟨H7, ?_, by unfold pA; rw [if_neg hA, if_neg hB, if_neg hC]; exact v2⟩
  unfold listsC
  have b : (x.1 == 18) = false := by rw [beq_eq_false_iff_ne]; omega
  have b2 : (x.1 == 19) = false := by rw [beq_eq_false_iff_ne]; omega
  simp only [binK_eql, b, b2, thn_some, condK_bool, Bool.false_eq_true, if_false, v1]
end Go.Proofs.YtinnbafplhcnpaaGreat
end

section
namespace Go.Proofs.YtinnbafplhcnpaaGreat
open Go.RowKit
set_option linter.unusedVariables false
set_option linter.unusedSimpArgs false

def dlsD (L : List Dl) : D := .sl 3 (L.map dlC)
def asDls : D → Option (List Dl)
  | .sl _ els => els.mapM asDlC
  | .v (.slice none 0 0) => some []
  | _ => none
@[simp] theorem asDlC_dlC (d : Dl) : asDlC (dlC d) = some d := by simp [dlC, asDlC]
@[simp] theorem asDls_dlsD (L : List Dl) : asDls (dlsD L) = some L := mapM_map dlC asDlC (fun x => asDlC_dlC x) L
/-- Each element reads as another one does. -/
inductive ImpE : List (List D) → List (List D) → Prop
  | nil : ImpE [] []
  | cons {a b : List D} {r s : List (List D)} (h : ImpL a b) (k : ImpE r s) : ImpE (a :: r) (b :: s)
theorem ImpL.len : ∀ {a b : List D}, ImpL a b → a.length = b.length
  | _, _, .nil => rfl
  | _, _, .cons _ k => by simp [ImpL.len k]
theorem ImpE.len : ∀ {a b : List (List D)}, ImpE a b → a.length = b.length
  | _, _, .nil => rfl
  | _, _, .cons _ k => by simp [ImpE.len k]
theorem imp_cells {S : Nat → Prop} {L : List (Nat × Nat)} {w : World} {b : Nat} : ∀ {cs ds : List D} {o : Nat}, ImpL cs ds → RepC S L w b o cs → RepC S L w b o ds
  | _, _, o, .nil, h => h
  | _, _, o, .cons h k, q => by
    simp only [RepC] at q ⊢
    obtain ⟨⟨x, q1, q2⟩, q3⟩ := q
    exact ⟨⟨x, q1, h _ _ _ _ q2⟩, imp_cells k q3⟩
theorem imp_rows {S : Nat → Prop} {L : List (Nat × Nat)} {w : World} {b sz : Nat} : ∀ {cs ds : List (List D)} {o : Nat}, ImpE cs ds → RepR S L w b o sz cs → RepR S L w b o sz ds
  | _, _, o, .nil, h => h
  | _, _, o, .cons h k, q => by
    simp only [RepR] at q ⊢
    obtain ⟨q1, q2, q3⟩ := q
    exact ⟨by rw [← h.len]; exact q1, imp_cells h q2, imp_rows k q3⟩
theorem Imp.slE (s sz : Nat) {els els' : List (List D)} (h : ImpE els els') (hs : ∀ e ∈ els, e.length = s → s = sz) : Imp (.sl s els) (.sl sz els') := by
  intro S L w x hx
  have h1 := Imp.sl s sz els hs S L w x hx
  simp only [Rep] at h1 ⊢
  rcases h1 with ⟨h1, h2⟩ | ⟨b, o, cap, h1, h2, h3, h4, h5⟩
  · subst h1
    cases h
    exact .inl ⟨rfl, h2⟩
  · rw [h.len] at h1 h2 h3
    exact .inr ⟨b, o, cap, h1, h2, h3, h4, imp_rows h h5⟩
theorem impE_mapM : ∀ (els : List (List D)) (L : List Dl), els.mapM asDlC = some L → ImpE els (L.map dlC) ∧ ∀ e ∈ els, e.length = 3
  | [], L, h => by simp at h; subst h; exact ⟨.nil, fun e he => by cases he⟩
  | e :: r, L, h => by
    simp only [List.mapM_cons, Option.pure_def, Option.bind_eq_bind] at h
    cases h1 : asDlC e with
    | none => rw [h1] at h; cases h
    | some a =>
      cases h2 : r.mapM asDlC with
      | none => rw [h1, h2] at h; cases h
      | some t =>
        rw [h1, h2] at h
        cases h
        obtain ⟨k1, k2⟩ := impE_mapM r t h2
        have hi := imp_dlC h1
        refine ⟨.cons hi k1, fun x hx => ?_⟩
        rcases List.mem_cons.1 hx with rfl | hx
        · rw [hi.len]; rfl
        · exact k2 x hx
theorem imp_dls {d : D} {L : List Dl} (h : asDls d = some L) : Imp d (dlsD L) := by
  unfold asDls at h
  split at h
  · rename_i s els
    obtain ⟨k1, k2⟩ := impE_mapM els L h
    exact Imp.slE s 3 k1 fun e he hl => by rw [← hl, k2 e he]
  · cases h; exact Imp.nil 3
  · cases h
def dlsT : Dec (List Dl) := ⟨dlsD, asDls, asDls_dlsD, fun d a h => imp_dls h⟩
@[simp] theorem pure_dls (L : List Dl) : pureD (dlsD L) = true := rfl
@[simp] theorem cellOk_dls (L : List Dl) : cellOk (dlsD L) = true := rfl
@[simp] theorem lenH_dls (L : List Dl) : lenH .sl (dlsD L) = some (iD L.length) := by simp [lenH, lenK, dlsD]
@[simp] theorem elsD_dlsD (L : List Dl) : elsD 3 (dlsD L) = some (L.map dlC) := by simp [elsD, dlsD]
theorem idx_dls (L : List Dl) (i : Nat) (h : i < L.length) : idxH 3 (dlsD L) (iD i) = some (.ptr (dlC L[i])) := by
  have : idxH 3 (dlsD L) (iD i) = idxD 3 (dlsD L) (iD i) := rfl
  rw [this]; simp [idxD, h]
theorem load_dl (H : Heap) (d : Dl) : loadH (some 3) H (.ptr (dlC d)) = some (dlD d) := rfl

/-- A row that a text has made, by value. -/
theorem rep_rowG {B : Nat} {S : Nat → Prop} {L : List (Nat × Nat)} {w : World} {H : Heap} (hr : HRel B S L w H) {e : TypeId} {sz n : Nat} {cs : List D} {els : List (List D)} {d : D} (hsz : 0 < sz) (hb : Buf e sz H 0 d n cs) (hn : els.length = n) (hl : ∀ e ∈ els, e.length = sz)
    (himp : ∀ xs, RepA S L w xs cs → RepA (fun k => B ≤ k ∧ k < w.heap.size) [] w xs els.flatten) {v : Value} (hv : Rep S L w v d) : Rep (fun k => B ≤ k ∧ k < w.heap.size) [] w v (.sl sz els) := by
  rcases hb with ⟨rfl, h1, _⟩ | ⟨r, h1, rfl, h3, h4⟩
  · have : els = [] := List.length_eq_zero_iff.1 (by omega)
    subst this
    simp only [Rep] at hv
    subst hv
    simp only [Rep]
    exact .inl ⟨trivial, none, 0, rfl, fun _ => rfl⟩
  · simp only [Rep] at hv
    obtain ⟨b, c, hL, hnc, rfl⟩ := hv
    obtain ⟨arr, g1, g2, g3, g4, g5⟩ := row_values hr h3 hL
    obtain ⟨k1, k2, k3⟩ := hr.lt h3 hL
    by_cases hz : els = []
    · subst hz
      simp only [List.length_nil] at hn
      subst hn
      simp only [Rep]
      exact .inl ⟨trivial, _, c, rfl, fun e => by cases e⟩
    · have hpos : 0 < els.length := by
        cases els with
        | nil => exact absurd rfl hz
        | cons x r => simp
      simp only [Rep]
      refine .inr ⟨b, 0, c, by rw [hn], hpos, by omega, ⟨k1, k2⟩, ?_⟩
      refine RepR.of hl ?_
      refine RepC.of (himp _ g5) fun j x hj => ?_
      rw [Nat.zero_add, cell_of_heap g1]
      have hlt := (List.getElem?_eq_some_iff.1 hj).1
      rw [List.getElem?_take_of_lt (by simp at hlt; omega)] at hj
      simpa using hj
/-- A text that gives a row that it has made. -/
theorem new_rows {P : Program} {f : FuncId} {G : List D → Heap → Option (D × Heap)} {F : List D → Option D} (hG : HCallOk P f G)
    (h : ∀ ds d, F ds = some d → ∃ (sz n : Nat) (cs : List D) (els : List (List D)) (ds' : List D) (d' : D) (H' : Heap) (e : TypeId), d = .sl sz els ∧ ImpL ds ds' ∧ G ds' [] = some (d', H') ∧ Buf e sz H' 0 d' n cs ∧ 0 < sz ∧ els.length = n ∧ (∀ e ∈ els, e.length = sz) ∧
      ∀ (S S2 : Nat → Prop) (L : List (Nat × Nat)) (w : World) (xs : List Value), RepA S L w xs cs → RepA S2 [] w xs els.flatten) : CallNew P f F := by
  refine ⟨hG.body, fun ds d hF S vs w hS hv => ?_⟩
  obtain ⟨sz, n, cs, els, ds', d', H', e, rfl, hi, hg, hb, h1, h2, h3, h4⟩ := h ds d hF
  refine (hG.calls ds' [] d' H' hg w.heap.size S [] vs w (hrel_none S w hS) (hi.rep hv)).mono ?_
  rintro e w' ⟨v, S', L', rfl, k1, k2, k3⟩
  exact ⟨v, rfl, rep_rowG k2 h1 hb h2 h3 (fun xs hx => h4 S' _ L' w' xs hx) k1, k3.below⟩
end Go.Proofs.YtinnbafplhcnpaaGreat
end

section
namespace Go.Proofs.YtinnbafplhcnpaaGreat
open Go.RowKit
set_option linter.unusedVariables false
set_option linter.unusedSimpArgs false
set_option maxRecDepth 100000

def mkD (e : Int × Int) : Dl := ⟨[], e.1, e.2⟩
def choicesD (l : List Nd) (i : Int) : List Dl := (choicesV l i).map mkD
theorem repA_out {S S2 : Nat → Prop} {L : List (Nat × Nat)} {w : World} : ∀ (out : List (Int × Int)) (xs : List Value), RepA S L w xs (outC out) → RepA S2 [] w xs ((out.map mkD).map dlC).flatten
  | [], xs, h => by simpa only [outC, List.map_nil, List.flatten_nil, RepA] using h
  | x :: r, xs, h => by
    have e : outC (x :: r) = .v (.slice none 0 0) :: iD x.1 :: iD x.2 :: outC r := rfl
    have e2 : (((x :: r).map mkD).map dlC).flatten = intsD [] :: iD x.1 :: iD x.2 :: ((r.map mkD).map dlC).flatten := rfl
    rw [e] at h
    rw [e2]
    simp only [RepA, Rep] at h ⊢
    obtain ⟨a, t, h1, h2, b, u, h3, h4, c, v, h5, h6, h7⟩ := h
    refine ⟨a, t, h1, ?_, b, u, h3, h4, c, v, h5, h6, repA_out r v h7⟩
    simp only [intsD, List.map_nil, Rep]
    exact .inl ⟨trivial, none, 0, h2, fun _ => rfl⟩
def G_Choices (P : Program) : List D → Heap → Option (D × Heap) := textG P (T13h P (Y13 P)) kp_catalog_Choices 0 20
theorem G_Choices_eq (ds : List D) (H : Heap) : G_Choices Tryz.prog ds H = textK Tryz.prog (T13h Tryz.prog (Y13 Tryz.prog)) kp_catalog_Choices 0 Tryz.f20 ds H := textG_eq Tryz.func20 ds H
theorem C_GChoices : HCallOk Tryz.prog 20 (G_Choices Tryz.prog) := hcall_G (T13h_ok (Y13 Tryz.prog) Y13_ok) mixed Tryz.func20 (by kernel_rfl) (by decide)
theorem part13_new (l : List Nd) (i : Int) (h : l.length ≤ 3000000) (H : Heap) : liftN F_Part [nodesD l, iD i] H = some (nodesD (partV l i), H) := by
  rw [liftN_pure _ _ _ rfl]; simp [F_Part, h]
theorem choices_parts (l : List Nd) (i : Int) : choicesV l i = if (partV l i).length = 0 then [] else choiceV (nodeAt (partV l i) 0) (nodeAt (partV l i) 1) := by
  by_cases hE : 0 ≤ endv l i
  · obtain ⟨h1, h2⟩ := part_pos hE
    rw [if_neg (by omega), ← choices_part l i]
    unfold choicesV
    rw [if_neg (by omega)]
    rfl
  · have hp : partV l i = [] := by unfold partV; rw [if_pos (by omega)]
    rw [hp]
    unfold choicesV
    rw [if_pos (by omega)]
    rfl
theorem choices_text (l : List Nd) (i : Int) (h : l.length ≤ 3000000) : ∃ d H', G_Choices Tryz.prog [nodesD l, iD i] [] = some (d, H') ∧ Buf 34 3 H' 0 d (choicesV l i).length (outC (choicesV l i)) := by
  rw [G_Choices_eq, sh_catalog_Choices, choices_parts]
  have hp := part13_new l i h [.cells 28 1 [.v (.slice none 0 0)]]
  have e1 : allocH 28 [.v (.slice none 0 0)] [] = some (.hp 0 0, [.cells 28 1 [.v (.slice none 0 0)]]) := rfl
  have hpos : 0 ≤ endv l i → endv (partV l i) 0 = (partV l i).length := fun hE => (part_pos hE).1
  have hneg : endv l i < 0 → partV l i = [] := fun hE => by unfold partV; rw [if_pos hE]
  by_cases h0 : (partV l i).length = 0
  · rw [if_pos h0]
    refine ⟨.v (.slice none 0 0), [.cells 28 1 [.v (.slice none 0 0)]], ?_, Buf.nil _ _ _ _⟩
    have hgt : ¬ (0 : Int) < ((partV l i).length : Int) := by omega
    have l0 : loadH none [.cells 28 1 [.v (.slice none 0 0)]] (.hp 0 0) = some (.v (.slice none 0 0)) := rfl
    simp only [e1, thnH_some, hp, lenH_nodes, thn_some, binK_gtr, hgt, decide_false, condK_bool, Bool.false_eq_true, if_false, l0]
  · rw [if_neg h0]
    have hE : 0 ≤ endv l i := by
      rcases Int.lt_or_le (endv l i) 0 with hh | hh
      · exact absurd (by rw [hneg hh]; rfl) h0
      · exact hh
    have hw := hpos hE
    generalize partV l i = l1 at *
    have hlt : 0 < l1.length := by omega
    have hgt : (0 : Int) < (l1.length : Int) := by omega
    have hx0 : nodeAt l1 0 = l1[0] := nodeAt_in l1 0 hlt
    have hkid : (nodeAt l1 0).1 = 25 → 1 < l1.length := fun e => by
      have := ret_kid l1 0 (by show 0 ≤ endv l1 0; omega) e
      omega
    have e2 : G_lists Tryz.prog [nodesD l1] [.cells 28 1 [.v (.slice none 0 0)]] = some (.clo (.func 83) [] [.hp 1 0], [.cells 28 1 [.v (.slice none 0 0)], .cells 23 1 [nodesD l1]]) := by
      rw [G_lists_eq, sh_catalog_lists]
      rfl
    have hinv : ChInv l1 (nodeAt l1 0) [.cells 28 1 [.v (.slice none 0 0)], .cells 23 1 [nodesD l1], loopC Tryz.f20 .ready, .cells 106 1 [.yld 2], .cells 54 2 [iD (nodeAt l1 0).1, iD (nodeAt l1 0).2], .cells 4 1 [bD true]] [] :=
      ⟨by simp, ⟨_, rfl, Buf.nil _ _ _ _⟩, rfl, rfl, rfl, rfl, rfl⟩
    obtain ⟨H', v1, v2⟩ := listsA_ok l1 (nodeAt l1 0) _ hinv hkid
    have e3 : G_lists1 Tryz.prog (Y13 Tryz.prog) [.yld 2, .hp 1 0] [.cells 28 1 [.v (.slice none 0 0)], .cells 23 1 [nodesD l1], loopC Tryz.f20 .ready] = some (.tup [], H') := by
      rw [G_lists1_eq, sh_catalog_lists_1]
      have i0 : idxH 2 (nodesD l1) (iD 0) = some (.ptr (nodeD l1[0])) := idx_nodesN l1 0 hlt
      have b1 : boxH 106 (.yld 2) [.cells 28 1 [.v (.slice none 0 0)], .cells 23 1 [nodesD l1], loopC Tryz.f20 .ready] = some (.hp 3 0, [.cells 28 1 [.v (.slice none 0 0)], .cells 23 1 [nodesD l1], loopC Tryz.f20 .ready, .cells 106 1 [.yld 2]]) := rfl
      have l1' : loadH none [.cells 28 1 [.v (.slice none 0 0)], .cells 23 1 [nodesD l1], loopC Tryz.f20 .ready, .cells 106 1 [.yld 2]] (.hp 1 0) = some (nodesD l1) := rfl
      have l2' : loadH (some 2) [.cells 28 1 [.v (.slice none 0 0)], .cells 23 1 [nodesD l1], loopC Tryz.f20 .ready, .cells 106 1 [.yld 2]] (.ptr (nodeD l1[0])) = some (.agg (nodeD l1[0])) := rfl
      rw [hx0] at v1
      simp only [b1, thnH_some, l1', thn_some, i0, l2']
      exact v1
    obtain ⟨h0', ⟨d, q1, q2⟩, q3, q4, q5, q6, q7⟩ := v2
    have e4 : rangeS (T13h Tryz.prog (Y13 Tryz.prog)) (.clo (.func 83) [] [.hp 1 0]) [19, 20] (rangeA Tryz.f20 0) (rangeB Tryz.f20 0) 35 kp_catalog_Choices [.hp 0 0, .undef, .undef, .undef, .undef] [.cells 28 1 [.v (.slice none 0 0)], .cells 23 1 [nodesD l1]] = some (.normal, H'.set 2 .dead) := by
      have e5 : rangeS (T13h Tryz.prog (Y13 Tryz.prog)) (.clo (.func 83) [] [.hp 1 0]) [19, 20] (rangeA Tryz.f20 0) (rangeB Tryz.f20 0) 35 kp_catalog_Choices [.hp 0 0, .undef, .undef, .undef, .undef] [.cells 28 1 [.v (.slice none 0 0)], .cells 23 1 [nodesD l1]] =
        leftR (G_lists1 Tryz.prog (Y13 Tryz.prog) [.yld 2, .hp 1 0] [.cells 28 1 [.v (.slice none 0 0)], .cells 23 1 [nodesD l1], loopC Tryz.f20 .ready]) 2 := rfl
      rw [e5, e3]
      unfold leftR
      simp only [q4]
      rfl
    have w1 : (H'.set 2 HO.dead)[0]? = some (.cells 28 1 [d]) := by rw [List.getElem?_set_ne (by omega)]; exact q1
    have l2 := load_cell0 _ 0 _ _ _ _ w1
    refine ⟨d, H'.set 2 .dead, ?_, ?_⟩
    · simp only [e1, thnH_some, hp, lenH_nodes, thn_some, binK_gtr, hgt, decide_true, condK_bool, if_true, e2, e4, leaveR3_normal, l2]
    · rcases q2.set 2 .dead (by omega) with q | ⟨r, r1, r2⟩
      · exact .inl q
      · exact .inr ⟨r, Nat.zero_le _, r2⟩
def F_Choices : List D → Option D := F2 nodesT intT fun l i => if l.length ≤ 3000000 then some (dlsD (choicesD l i)) else none
theorem N_Choices : CallNew Tryz.prog 20 F_Choices := new_rows C_GChoices fun ds d hF => by
  unfold F_Choices F2 at hF
  split at hF
  · obtain ⟨l, hl, hF⟩ := Option.bind_eq_some_iff.1 hF
    obtain ⟨i, hi, hF⟩ := Option.bind_eq_some_iff.1 hF
    simp only at hF
    split at hF
    case isFalse => cases hF
    rename_i hb
    cases hF
    obtain ⟨d', H', q1, q2⟩ := choices_text l i hb
    exact ⟨3, _, _, (choicesD l i).map dlC, [nodesD l, iD i], d', H', _, rfl, .cons (nodesT.ok _ _ hl) (.cons (intT.ok _ _ hi) .nil), q1, q2, by omega, by simp [choicesD], fun e he => by obtain ⟨x, _, rfl⟩ := List.mem_map.1 he; rfl, fun S S2 L w xs hx => repA_out _ xs hx⟩
  · cases hF
theorem choices_pure (l : List Nd) (i : Int) (h : l.length ≤ 3000000) (H : Heap) : liftN F_Choices [nodesD l, iD i] H = some (dlsD (choicesD l i), H) := by
  rw [liftN_pure _ _ _ rfl]
  have : F_Choices [nodesD l, iD i] = _ := f2_enc (A := nodesT) (B := intT) _ l i
  rw [this, if_pos h]; rfl
def fs13j (P : Program) : List Entry := (20, true, liftN F_Choices) :: fs12f P
theorem fs13j_ok : ∀ p ∈ fs13j Tryz.prog, EntryOk Tryz.prog p := entries_cons (entry_new N_Choices) <| fs12f_ok
def T13j (P : Program) : Tab := ⟨fs13j P, noYl⟩
theorem T13j_ok : TabOk Tryz.prog (T13j Tryz.prog) := tabOk_of fs13j_ok
end Go.Proofs.YtinnbafplhcnpaaGreat
end

section
namespace Go.Proofs.YtinnbafplhcnpaaGreat
open Go.RowKit
set_option linter.unusedVariables false
set_option maxRecDepth 100000

def kp_catalog_Is_1 : List Nat := []
theorem sh_catalog_Is_1 (n : Nat) (x0 x1 x2 : D) (h : Heap) : textK Tryz.prog (T13j Tryz.prog) kp_catalog_Is_1 n Tryz.f50 [x0, x1, x2] h =
(thnH (boxH 34 x0 h) fun y0 h1 =>
thn (fieldAtH 1 y0) fun y2 =>
thn (loadH none h1 y2) fun y3 =>
thn (loadH none h1 x1) fun y4 =>
thn (binK .int .eql y3 y4) fun y5 =>
condK y5
(thn (fieldAtH 2 y0) fun y6 =>
thn (loadH none h1 y6) fun y7 =>
thn (loadH none h1 x2) fun y8 =>
thn (binK .int .eql y7 y8) fun y9 =>
some (y9, h1))
(some ((bD false), h1))) := by kernel_rfl

def kp_offshootref13_Is : List Nat := []
theorem sh_offshootref13_Is (n : Nat) (x0 x1 x2 x3 : D) (h : Heap) : textK Tryz.prog (T13j Tryz.prog) kp_offshootref13_Is n Tryz.f63 [x0, x1, x2, x3] h =
(thnH (liftF F_RefEnd [x0, x1] h) fun y0 h1 =>
thn (binK .int .lss y0 (iD 0)) fun y2 =>
condK y2
(some ((bD false), h1))
(thn (idxH 2 x0 x1) fun y3 =>
thn (loadH (some 2) h1 y3) fun y4 =>
thnH (allocH 54 [(iD 0), (iD 0)] h1) fun y5 h6 =>
thnH (setH 2 y5 y4 h6) fun y7 h8 =>
thn (fieldAtH 0 y5) fun y9 =>
thn (loadH none h8 y9) fun y10 =>
thn (binK .int .eql x2 (iD 1)) fun y11 =>
condK y11
(thn (binK .int .geq y10 (iD 7)) fun y12 =>
condK y12
(thn (binK .int .leq y10 (iD 11)) fun y13 =>
condK y13
(thn (binK .int .geq x3 (iD 7)) fun y14 =>
condK y14
(thn (binK .int .leq x3 (iD 11)) fun y15 =>
condK y15
(thn (binK .int .neq x3 y10) fun y16 =>
some (y16, h8))
(some ((bD false), h8)))
(some ((bD false), h8)))
(some ((bD false), h8)))
(some ((bD false), h8)))
(thn (binK .int .eql x2 (iD 2)) fun y17 =>
condK y17
(thn (binK .int .geq y10 (iD 12)) fun y18 =>
condK y18
(thn (binK .int .leq y10 (iD 17)) fun y19 =>
condK y19
(thn (binK .int .geq x3 (iD 12)) fun y20 =>
condK y20
(thn (binK .int .leq x3 (iD 17)) fun y21 =>
condK y21
(thn (binK .int .neq x3 y10) fun y22 =>
some (y22, h8))
(some ((bD false), h8)))
(some ((bD false), h8)))
(some ((bD false), h8)))
(some ((bD false), h8)))
(thn (binK .int .eql x2 (iD 3)) fun y23 =>
condK y23
(thn (binK .int .geq y10 (iD 18)) fun y24 =>
condK y24
(thn (binK .int .leq y10 (iD 19)) fun y25 =>
condK y25
(thn (binK .int .geq x3 (iD 18)) fun y26 =>
condK y26
(thn (binK .int .leq x3 (iD 19)) fun y27 =>
condK y27
(thn (binK .int .neq x3 y10) fun y28 =>
some (y28, h8))
(some ((bD false), h8)))
(some ((bD false), h8)))
(some ((bD false), h8)))
(some ((bD false), h8)))
(thn (binK .int .eql x2 (iD 4)) fun y29 =>
condK y29
(thn (binK .int .eql x3 (iD 0)) fun y30 =>
condK y30
(thn (binK .int .eql y10 (iD 1)) fun y31 =>
condK y31
(thn (fieldAtH 1 y5) fun y32 =>
thn (loadH none h8 y32) fun y33 =>
thn (binK .int .neq x3 y33) fun y34 =>
condK y34
(some ((bD true), h8))
(thn (binK .int .eql y10 (iD 2)) fun y35 =>
condK y35
(thn (fieldAtH 1 y5) fun y36 =>
thn (loadH none h8 y36) fun y37 =>
thn (binK .int .sub (iD 1) y37) fun y38 =>
thn (binK .int .eql x3 y38) fun y39 =>
some (y39, h8))
(some ((bD false), h8))))
(thn (binK .int .eql y10 (iD 2)) fun y40 =>
condK y40
(thn (fieldAtH 1 y5) fun y41 =>
thn (loadH none h8 y41) fun y42 =>
thn (binK .int .sub (iD 1) y42) fun y43 =>
thn (binK .int .eql x3 y43) fun y44 =>
some (y44, h8))
(some ((bD false), h8))))
(thn (binK .int .eql x3 (iD 1)) fun y45 =>
condK y45
(thn (binK .int .eql y10 (iD 1)) fun y46 =>
condK y46
(thn (fieldAtH 1 y5) fun y47 =>
thn (loadH none h8 y47) fun y48 =>
thn (binK .int .neq x3 y48) fun y49 =>
condK y49
(some ((bD true), h8))
(thn (binK .int .eql y10 (iD 2)) fun y50 =>
condK y50
(thn (fieldAtH 1 y5) fun y51 =>
thn (loadH none h8 y51) fun y52 =>
thn (binK .int .sub (iD 1) y52) fun y53 =>
thn (binK .int .eql x3 y53) fun y54 =>
some (y54, h8))
(some ((bD false), h8))))
(thn (binK .int .eql y10 (iD 2)) fun y55 =>
condK y55
(thn (fieldAtH 1 y5) fun y56 =>
thn (loadH none h8 y56) fun y57 =>
thn (binK .int .sub (iD 1) y57) fun y58 =>
thn (binK .int .eql x3 y58) fun y59 =>
some (y59, h8))
(some ((bD false), h8))))
(thn (binK .int .eql x3 (iD (-1))) fun y60 =>
condK y60
(thn (binK .int .eql y10 (iD 1)) fun y61 =>
condK y61
(thn (fieldAtH 1 y5) fun y62 =>
thn (loadH none h8 y62) fun y63 =>
thn (binK .int .neq x3 y63) fun y64 =>
condK y64
(some ((bD true), h8))
(thn (binK .int .eql y10 (iD 2)) fun y65 =>
condK y65
(thn (fieldAtH 1 y5) fun y66 =>
thn (loadH none h8 y66) fun y67 =>
thn (binK .int .sub (iD 1) y67) fun y68 =>
thn (binK .int .eql x3 y68) fun y69 =>
some (y69, h8))
(some ((bD false), h8))))
(thn (binK .int .eql y10 (iD 2)) fun y70 =>
condK y70
(thn (fieldAtH 1 y5) fun y71 =>
thn (loadH none h8 y71) fun y72 =>
thn (binK .int .sub (iD 1) y72) fun y73 =>
thn (binK .int .eql x3 y73) fun y74 =>
some (y74, h8))
(some ((bD false), h8))))
(thn (fieldAtH 1 y5) fun y75 =>
thn (loadH none h8 y75) fun y76 =>
thn (binK .int .add y76 (iD 1)) fun y77 =>
thn (binK .int .eql x3 y77) fun y78 =>
condK y78
(thn (binK .int .eql y10 (iD 1)) fun y79 =>
condK y79
(thn (fieldAtH 1 y5) fun y80 =>
thn (loadH none h8 y80) fun y81 =>
thn (binK .int .neq x3 y81) fun y82 =>
condK y82
(some ((bD true), h8))
(thn (binK .int .eql y10 (iD 2)) fun y83 =>
condK y83
(thn (fieldAtH 1 y5) fun y84 =>
thn (loadH none h8 y84) fun y85 =>
thn (binK .int .sub (iD 1) y85) fun y86 =>
thn (binK .int .eql x3 y86) fun y87 =>
some (y87, h8))
(some ((bD false), h8))))
(thn (binK .int .eql y10 (iD 2)) fun y88 =>
condK y88
(thn (fieldAtH 1 y5) fun y89 =>
thn (loadH none h8 y89) fun y90 =>
thn (binK .int .sub (iD 1) y90) fun y91 =>
thn (binK .int .eql x3 y91) fun y92 =>
some (y92, h8))
(some ((bD false), h8))))
(thn (fieldAtH 1 y5) fun y93 =>
thn (loadH none h8 y93) fun y94 =>
thn (binK .int .sub y94 (iD 1)) fun y95 =>
thn (binK .int .eql x3 y95) fun y96 =>
thn (binK .int .eql y10 (iD 1)) fun y97 =>
condK y97
(condK y96
(thn (fieldAtH 1 y5) fun y98 =>
thn (loadH none h8 y98) fun y99 =>
thn (binK .int .neq x3 y99) fun y100 =>
condK y100
(some ((bD true), h8))
(thn (binK .int .eql y10 (iD 2)) fun y101 =>
condK y101
(thn (fieldAtH 1 y5) fun y102 =>
thn (loadH none h8 y102) fun y103 =>
thn (binK .int .sub (iD 1) y103) fun y104 =>
thn (binK .int .eql x3 y104) fun y105 =>
some (y105, h8))
(some ((bD false), h8))))
(thn (binK .int .eql y10 (iD 2)) fun y106 =>
condK y106
(thn (fieldAtH 1 y5) fun y107 =>
thn (loadH none h8 y107) fun y108 =>
thn (binK .int .sub (iD 1) y108) fun y109 =>
thn (binK .int .eql x3 y109) fun y110 =>
some (y110, h8))
(some ((bD false), h8))))
(thn (binK .int .eql y10 (iD 2)) fun y111 =>
condK y111
(thn (fieldAtH 1 y5) fun y112 =>
thn (loadH none h8 y112) fun y113 =>
thn (binK .int .sub (iD 1) y113) fun y114 =>
thn (binK .int .eql x3 y114) fun y115 =>
some (y115, h8))
(some ((bD false), h8))))))))
(thn (binK .int .eql x2 (iD 5)) fun y116 =>
condK y116
(thn (binK .int .eql y10 (iD 21)) fun y117 =>
condK y117
(thn (binK .int .eql x3 (iD 0)) fun y118 =>
some (y118, h8))
(thn (binK .int .eql y10 (iD 22)) fun y119 =>
condK y119
(thn (binK .int .eql x3 (iD 0)) fun y120 =>
some (y120, h8))
(thn (binK .int .eql y10 (iD 23)) fun y121 =>
condK y121
(thn (binK .int .eql x3 (iD 0)) fun y122 =>
some (y122, h8))
(thn (binK .int .eql y10 (iD 24)) fun y123 =>
condK y123
(thn (binK .int .eql x3 (iD 0)) fun y124 =>
some (y124, h8))
(thn (binK .int .eql y10 (iD 25)) fun y125 =>
condK y125
(thn (binK .int .eql x3 (iD 0)) fun y126 =>
some (y126, h8))
(some ((bD false), h8)))))))
(thn (binK .int .eql x2 (iD 6)) fun y127 =>
condK y127
(thn (binK .int .eql y10 (iD 23)) fun y128 =>
condK y128
(thn (binK .int .eql x3 (iD 0)) fun y129 =>
some (y129, h8))
(thn (binK .int .eql y10 (iD 24)) fun y130 =>
condK y130
(thn (binK .int .eql x3 (iD 0)) fun y131 =>
some (y131, h8))
(some ((bD false), h8))))
(thn (binK .int .eql x2 (iD 7)) fun y132 =>
condK y132
(thn (binK .int .eql y10 (iD 25)) fun y133 =>
condK y133
(thn (binK .int .eql x3 (iD 0)) fun y134 =>
condK y134
(thn (binK .int .add x1 (iD 1)) fun y135 =>
thn (idxH 2 x0 y135) fun y136 =>
thn (loadH (some 2) h8 y136) fun y137 =>
thn (buildR [(0, 1), (1, 1)] [(iD 0), (iD 0)] [(0, (iD 1)), (1, x3)]) fun y138 =>
thn (binK (.ints 2) .neq y137 y138) fun y139 =>
some (y139, h8))
(thn (binK .int .eql x3 (iD 1)) fun y140 =>
condK y140
(thn (binK .int .add x1 (iD 1)) fun y141 =>
thn (idxH 2 x0 y141) fun y142 =>
thn (loadH (some 2) h8 y142) fun y143 =>
thn (buildR [(0, 1), (1, 1)] [(iD 0), (iD 0)] [(0, (iD 1)), (1, x3)]) fun y144 =>
thn (binK (.ints 2) .neq y143 y144) fun y145 =>
some (y145, h8))
(some ((bD false), h8))))
(some ((bD false), h8)))
(some ((bD false), h8)))))))))) := by kernel_rfl

end Go.Proofs.YtinnbafplhcnpaaGreat
end

section
namespace Go.Proofs.YtinnbafplhcnpaaGreat
open Go.RowKit
set_option linter.unusedVariables false
set_option linter.unusedSimpArgs false
set_option maxRecDepth 100000

def G_Is1 (P : Program) : List D → Heap → Option (D × Heap) := textG P (T13j P) kp_catalog_Is_1 0 50
theorem G_Is1_eq (ds : List D) (H : Heap) : G_Is1 Tryz.prog ds H = textK Tryz.prog (T13j Tryz.prog) kp_catalog_Is_1 0 Tryz.f50 ds H := textG_eq Tryz.func50 ds H
theorem C_Is1 : HCallOk Tryz.prog 50 (G_Is1 Tryz.prog) := hcall_G T13j_ok mixed Tryz.func50 (by kernel_rfl) (by decide)
theorem is1_ok (d : Dl) (op n : Int) (a b : Nat) (ta tb : TypeId) (H : Heap) (ha : H[a]? = some (.cells ta 1 [iD op])) (hb : H[b]? = some (.cells tb 1 [iD n])) : ∃ H', G_Is1 Tryz.prog [dlD d, .hp a 0, .hp b 0] H = some (bD (decide (d.op = op ∧ d.n = n)), H') ∧ Kp H.length H H' := by
  rw [G_Is1_eq, sh_catalog_Is_1]
  have hla := (List.getElem?_eq_some_iff.1 ha).1
  have hlb := (List.getElem?_eq_some_iff.1 hb).1
  have hbox : boxH 34 (dlD d) H = some (.hp H.length 0, H ++ [.cells 34 3 [intsD d.path, iD d.op, iD d.n]]) := box_dl _ d H
  have hk1 : Kp H.length H (H ++ [.cells 34 3 [intsD d.path, iD d.op, iD d.n]]) := Kp.app _ _ _ (Nat.le_refl _)
  have hg : (H ++ [HO.cells 34 3 [intsD d.path, iD d.op, iD d.n]])[H.length]? = some (.cells 34 3 [intsD d.path, iD d.op, iD d.n]) := by simp
  refine ⟨H ++ [.cells 34 3 [intsD d.path, iD d.op, iD d.n]], ?_, hk1⟩
  generalize H ++ [HO.cells 34 3 [intsD d.path, iD d.op, iD d.n]] = H1 at *
  have l1 : loadH none H1 (.hp H.length 1) = some (iD d.op) := load_cellN _ _ _ _ _ _ _ hg rfl
  have l2 : loadH none H1 (.hp H.length 2) = some (iD d.n) := load_cellN _ _ _ _ _ _ _ hg rfl
  have f1 : fieldAtH 1 (.hp H.length 0) = some (.hp H.length 1) := rfl
  have f2 : fieldAtH 2 (.hp H.length 0) = some (.hp H.length 2) := rfl
  have la : loadH none H1 (.hp a 0) = some (iD op) := load_cell0 _ _ _ _ _ _ ((hk1.2 a hla).trans ha)
  have lb : loadH none H1 (.hp b 0) = some (iD n) := load_cell0 _ _ _ _ _ _ ((hk1.2 b hlb).trans hb)
  by_cases h1 : d.op = op
  · have b1 : (d.op == op) = true := by rw [h1]; exact beq_self_eq_true _
    simp only [hbox, thnH_some, f1, thn_some, l1, la, binK_eql, b1, condK_bool, if_true, f2, l2, lb]
    by_cases h2 : d.n = n
    · have b2 : (d.n == n) = true := by rw [h2]; exact beq_self_eq_true _
      rw [b2, decide_eq_true ⟨h1, h2⟩]
    · have b2 : (d.n == n) = false := by rw [beq_eq_false_iff_ne]; exact h2
      rw [b2, decide_eq_false (fun h => h2 h.2)]
  · have b1 : (d.op == op) = false := by rw [beq_eq_false_iff_ne]; exact h1
    simp only [hbox, thnH_some, f1, thn_some, l1, la, binK_eql, b1, condK_bool, Bool.false_eq_true, if_false]
    rw [decide_eq_false (fun h => h1 h.1)]

theorem bD_iff {p : Prop} [Decidable p] {b : Bool} (h : b = true ↔ p) : bD b = bD (decide p) := by
  congr 2
  rw [Bool.eq_iff_iff, h]; simp
theorem isN4 (t m : Int) (y : Nd) (n : Int) : isN (t, m) y 4 n ↔ (t = 1 ∧ (n = 0 ∨ n = 1 ∨ n = -1 ∨ n = w64 (m + 1) ∨ n = w64 (m - 1)) ∧ n ≠ m) ∨ (t = 2 ∧ n = w64 (1 - m)) := by simp [isN, and_assoc]
theorem isN5 (t m : Int) (y : Nd) (n : Int) : isN (t, m) y 5 n ↔ (t = 21 ∨ t = 22 ∨ t = 23 ∨ t = 24 ∨ t = 25) ∧ n = 0 := by simp [isN]
theorem isN6 (t m : Int) (y : Nd) (n : Int) : isN (t, m) y 6 n ↔ (t = 23 ∨ t = 24) ∧ n = 0 := by simp [isN]
theorem isN7 (t m : Int) (y : Nd) (n : Int) : isN (t, m) y 7 n ↔ t = 25 ∧ (n = 0 ∨ n = 1) ∧ y ≠ (1, n) := by simp [isN]
theorem isNo (x y : Nd) (op n : Int) (h : ¬ (1 ≤ op ∧ op ≤ 7)) : ¬ isN x y op n := by
  unfold isN
  rintro (h1 | h1 | h1 | h1 | h1 | h1 | h1) <;> obtain ⟨e, _⟩ := h1 <;> omega
instance (l : List Nd) (i op n : Int) : Decidable (isC l i op n) := by unfold isC; infer_instance
def F_CRefIs : List D → Option D := F4 nodesT intT intT intT fun l i op n => if l.length ≤ 3000000 then some (bD (decide (isC l i op n))) else none
set_option maxHeartbeats 4000000 in
theorem C_CRefIs : CallOk Tryz.prog 63 F_CRefIs := call4 (kp := kp_offshootref13_Is) T13j_ok mixed Tryz.func63 (by kernel_rfl) (by decide) fun l i op n d h => by
  split at h
  case isFalse => cases h
  rename_i hb
  cases h
  refine ⟨0, _, ?_, Imp.refl _⟩
  show outD (textK _ _ _ _ _ [nodesD l, iD i, iD op, iD n] []) = _
  rw [sh_offshootref13_Is]
  have hend := refEnd12_pure l i [] hb
  by_cases hE : endv l i < 0
  · have hn : ¬ isC l i op n := fun h => by have := h.1; omega
    simp only [hend, thnH_some, binK_lss, hE, decide_true, thn_some, condK_bool, if_true, decide_eq_false hn]
    rfl
  have hE0 : 0 ≤ endv l i := by omega
  obtain ⟨k, rfl⟩ := Int.eq_ofNat_of_zero_le (endv_in l i hE0).1
  have hk := (at_ar hE0).choose
  have hx : nodeAt l k = l[k] := nodeAt_in l k hk
  have i0 := idx_nodesN l k hk
  have hC : isC l k op n ↔ isN (nodeAt l k) (nodeAt l ((k : Int) + 1)) op n := ⟨fun h => h.2, fun h => ⟨hE0, h⟩⟩
  rw [← hx] at i0
  have hkid : (nodeAt l k).1 = 25 → idxH 2 (nodesD l) (iD ((k + 1 : Nat) : Int)) = some (.ptr (nodeD (nodeAt l ((k : Int) + 1)))) := fun e => by
    obtain ⟨_, _, h3⟩ := ret_kid l k hE0 e
    have := idx_nodesN l (k + 1) h3
    rw [this]
    have hy : nodeAt l ((k + 1 : Nat) : Int) = l[k + 1] := nodeAt_in l (k + 1) h3
    have e2 : ((k : Int) + 1) = ((k + 1 : Nat) : Int) := by omega
    rw [e2, hy]
  have hki : (nodeAt l k).1 = 25 → intD .add .i64 (k : Int) 1 = some (iD ((k + 1 : Nat) : Int)) := fun e => by
    rw [intD_add (k : Int) 1 (by omega) (by omega)]
    congr 3
  generalize nodeAt l ((k : Int) + 1) = y at *
  generalize nodeAt l k = x at *
  clear hx hk
  obtain ⟨t, m⟩ := x
  have a0 : allocH 54 [iD 0, iD 0] [] = some (.hp 0 0, [.cells 54 2 [iD 0, iD 0]]) := rfl
  have s0 : setH 2 (.hp 0 0) (.agg (nodeD (t, m))) [.cells 54 2 [iD 0, iD 0]] = some (.v undef, [.cells 54 2 [iD t, iD m]]) := rfl
  have l0 : loadH none [.cells 54 2 [iD t, iD m]] (.hp 0 0) = some (iD t) := rfl
  have l1 : loadH none [.cells 54 2 [iD t, iD m]] (.hp 0 1) = some (iD m) := rfl
  have lp : ∀ H z, loadH (some 2) H (.ptr (nodeD z)) = some (.agg (nodeD z)) := fun _ _ => rfl
  have f0 : fieldAtH 0 (.hp 0 0) = some (.hp 0 0) := rfl
  have f1 : fieldAtH 1 (.hp 0 0) = some (.hp 0 1) := rfl
  have eP : intD .add .i64 m 1 = some (iD (w64 (m + 1))) := rfl
  have eM : intD .sub .i64 m 1 = some (iD (w64 (m - 1))) := rfl
  have eO : intD .sub .i64 1 m = some (iD (w64 (1 - m))) := rfl
  have bu : buildR [(0, 1), (1, 1)] [iD 0, iD 0] [(0, iD 1), (1, iD n)] = some (.agg (nodeD (1, n))) := rfl
  have ho : ∀ b : Bool, outD (some (bD b, [HO.cells 54 2 [iD t, iD m]])) = some (bD b) := fun b => rfl
  simp only [hend, thnH_some, binK_lss, hE, decide_false, thn_some, condK_bool, Bool.false_eq_true, if_false, i0, lp, a0, s0, f0, l0, binK_eql]
  have key : ∀ b : Bool, (b = true ↔ isC l k op n) → outD (some (bD b, [HO.cells 54 2 [iD t, iD m]])) = some (bD (decide (isC l k op n))) := fun b hb => by rw [ho, bD_iff hb]
  by_cases o1 : op = 1
  · subst o1
    simp only [show ((1 : Int) == 1) = true from rfl, if_true, binK_geq, binK_leq, binK_neq, thn_some, condK_bool]
    by_cases a1 : 7 ≤ t <;> by_cases a2 : t ≤ 11 <;> by_cases a3 : 7 ≤ n <;> by_cases a4 : n ≤ 11 <;> simp only [a1, a2, a3, a4, decide_true, decide_false, if_true, if_false, Bool.false_eq_true] <;> refine key _ ?_ <;> rw [hC] <;> simp [isN] <;> omega
  by_cases o2 : op = 2
  · subst o2
    simp only [show ((2 : Int) == 1) = false from rfl, show ((2 : Int) == 2) = true from rfl, if_true, if_false, Bool.false_eq_true, binK_geq, binK_leq, binK_neq, thn_some, condK_bool]
    by_cases a1 : 12 ≤ t <;> by_cases a2 : t ≤ 17 <;> by_cases a3 : 12 ≤ n <;> by_cases a4 : n ≤ 17 <;> simp only [a1, a2, a3, a4, decide_true, decide_false, if_true, if_false, Bool.false_eq_true] <;> refine key _ ?_ <;> rw [hC] <;> simp [isN] <;> omega
  by_cases o3 : op = 3
  · subst o3
    simp only [show ((3 : Int) == 1) = false from rfl, show ((3 : Int) == 2) = false from rfl, show ((3 : Int) == 3) = true from rfl, if_true, if_false, Bool.false_eq_true, binK_geq, binK_leq, binK_neq, thn_some, condK_bool]
    by_cases a1 : 18 ≤ t <;> by_cases a2 : t ≤ 19 <;> by_cases a3 : 18 ≤ n <;> by_cases a4 : n ≤ 19 <;> simp only [a1, a2, a3, a4, decide_true, decide_false, if_true, if_false, Bool.false_eq_true] <;> refine key _ ?_ <;> rw [hC] <;> simp [isN] <;> omega
  have q1 : (op == 1) = false := by rw [beq_eq_false_iff_ne]; exact o1
  have q2 : (op == 2) = false := by rw [beq_eq_false_iff_ne]; exact o2
  have q3 : (op == 3) = false := by rw [beq_eq_false_iff_ne]; exact o3
  simp only [q1, q2, q3, Bool.false_eq_true, if_false]
  by_cases o4 : op = 4
  · have q4 : (op == 4) = true := by rw [o4]; rfl
    simp only [q4, if_true, f1, l1, thn_some, binK_neq, binK_sub, binK_int, eP, eM, eO, binK_eql, condK_bool]
    have fin : ∀ b : Bool, b = (((n == 0) || (n == 1) || (n == -1) || (n == w64 (m + 1)) || (n == w64 (m - 1))) && (t == 1) && (n != m) || (t == 2) && (n == w64 (1 - m))) → outD (some (bD b, [HO.cells 54 2 [iD t, iD m]])) = some (bD (decide (isC l k op n))) := fun b e => by
      refine key b ?_
      rw [hC, o4, e]
      rw [isN4]
      simp only [Bool.or_eq_true, Bool.and_eq_true, beq_iff_eq, bne_iff_ne]
      omega
    generalize e1 : (n == 0) = b1 at *
    generalize e2 : (n == 1) = b2 at *
    generalize e3 : (n == -1) = b3 at *
    generalize e4 : (n == w64 (m + 1)) = b4 at *
    generalize e5 : (n == w64 (m - 1)) = b5 at *
    generalize e6 : (t == 1) = b6 at *
    generalize e7 : (t == 2) = b7 at *
    generalize e8 : (n != m) = b8 at *
    generalize e9 : (n == w64 (1 - m)) = b9 at *
    clear key hC ho
    cases b6 <;> cases b7 <;> cases b8 <;> cases b1 <;> cases b2 <;> cases b3 <;> cases b4 <;> cases b5 <;> simp only [if_true, if_false, Bool.false_eq_true] <;> exact fin _ (by cases b9 <;> rfl)
  have q4 : (op == 4) = false := by rw [beq_eq_false_iff_ne]; exact o4
  simp only [q4, Bool.false_eq_true, if_false]
  by_cases o5 : op = 5
  · have q5 : (op == 5) = true := by rw [o5]; rfl
    simp only [q5, if_true, binK_eql, thn_some, condK_bool]
    by_cases ht : t = 21 ∨ t = 22 ∨ t = 23 ∨ t = 24 ∨ t = 25
    · have fin := key (n == 0) (by rw [hC, o5, isN5, beq_iff_eq]; exact ⟨fun h => ⟨ht, h⟩, fun h => h.2⟩)
      rcases ht with rfl | rfl | rfl | rfl | rfl <;> simpa using fin
    · have fin := key false (by rw [hC, o5, isN5]; exact ⟨fun h => (by cases h), fun h => absurd h.1 ht⟩)
      have b : ∀ z : Int, z = 21 ∨ z = 22 ∨ z = 23 ∨ z = 24 ∨ z = 25 → (t == z) = false := fun z hz => by rw [beq_eq_false_iff_ne]; omega
      simp only [b 21 (by omega), b 22 (by omega), b 23 (by omega), b 24 (by omega), b 25 (by omega), Bool.false_eq_true, if_false]
      exact fin
  have q5 : (op == 5) = false := by rw [beq_eq_false_iff_ne]; exact o5
  simp only [q5, Bool.false_eq_true, if_false]
  by_cases o6 : op = 6
  · have q6 : (op == 6) = true := by rw [o6]; rfl
    simp only [q6, if_true, binK_eql, thn_some, condK_bool]
    by_cases ht : t = 23 ∨ t = 24
    · have fin := key (n == 0) (by rw [hC, o6, isN6, beq_iff_eq]; exact ⟨fun h => ⟨ht, h⟩, fun h => h.2⟩)
      rcases ht with rfl | rfl <;> simpa using fin
    · have fin := key false (by rw [hC, o6, isN6]; exact ⟨fun h => (by cases h), fun h => absurd h.1 ht⟩)
      have b : ∀ z : Int, z = 23 ∨ z = 24 → (t == z) = false := fun z hz => by rw [beq_eq_false_iff_ne]; omega
      simp only [b 23 (by omega), b 24 (by omega), Bool.false_eq_true, if_false]
      exact fin
  have q6 : (op == 6) = false := by rw [beq_eq_false_iff_ne]; exact o6
  simp only [q6, Bool.false_eq_true, if_false]
  by_cases o7 : op = 7
  · have q7 : (op == 7) = true := by rw [o7]; rfl
    simp only [q7, if_true, binK_eql, thn_some, condK_bool]
    by_cases ht : t = 25
    · have hkid' := hkid ht
      have hki' := hki ht
      have b25 : (t == 25) = true := by rw [ht]; rfl
      have fin := key (!decide (y = (1, n)) && ((n == 0) || (n == 1))) (by
        rw [hC, o7, isN7]
        simp only [Bool.and_eq_true, Bool.or_eq_true, beq_iff_eq, Bool.not_eq_true', decide_eq_false_iff_not]
        exact ⟨fun h => ⟨ht, h.2, h.1⟩, fun h => ⟨h.2.2, h.2.1⟩⟩)
      simp only [b25, if_true, binK_int, hki', thn_some, hkid', lp, bu, binK_node_ne]
      generalize e1 : (n == 0) = b1 at *
      generalize e2 : (n == 1) = b2 at *
      cases b1 <;> cases b2 <;> simpa using fin
    · have b25 : (t == 25) = false := by rw [beq_eq_false_iff_ne]; exact ht
      have fin := key false (by rw [hC, o7, isN7]; exact ⟨fun h => (by cases h), fun h => absurd h.1 ht⟩)
      simp only [b25, Bool.false_eq_true, if_false]
      exact fin
  have q7 : (op == 7) = false := by rw [beq_eq_false_iff_ne]; exact o7
  simp only [q7, thn_some, condK_bool, Bool.false_eq_true, if_false]
  exact key false (by rw [hC]; exact ⟨fun h => (by cases h), fun h => absurd h (isNo _ _ _ _ (by omega))⟩)
theorem crefIs_pure (l : List Nd) (i op n : Int) (h : l.length ≤ 3000000) (H : Heap) : liftF F_CRefIs [nodesD l, iD i, iD op, iD n] H = some (bD (decide (isC l i op n)), H) := by
  rw [liftF_pure _ _ _ rfl]
  have : F_CRefIs [nodesD l, iD i, iD op, iD n] = _ := f4_enc (A := nodesT) (B := intT) (C := intT) (E := intT) _ l i op n
  rw [this, if_pos h]; rfl
def fs13k (P : Program) : List Entry := (50, false, G_Is1 P) :: (63, true, liftF F_CRefIs) :: fs13j P
theorem fs13k_ok : ∀ p ∈ fs13k Tryz.prog, EntryOk Tryz.prog p := entries_cons (entry_obj C_Is1) <| entries_cons (entry_lift C_CRefIs) <| fs13j_ok
def T13k (P : Program) : Tab := ⟨fs13k P, noYl⟩
theorem T13k_ok : TabOk Tryz.prog (T13k Tryz.prog) := tabOk_of fs13k_ok
end Go.Proofs.YtinnbafplhcnpaaGreat
end

section
namespace Go.Proofs.YtinnbafplhcnpaaGreat
open Go.RowKit
set_option linter.unusedVariables false
set_option maxRecDepth 100000

def kp_idxD : List Nat := [0, 1, 4, 7, 8]
theorem sh_idxD (n : Nat) (x0 x1 : D) (h : Heap) : textK Tryz.prog (T13k Tryz.prog) kp_idxD n Tryz.f92 [x0, x1] h =
(thn (lenH .sl x0) fun y0 =>
leaveK (loopF Tryz.prog (T13k Tryz.prog) kp_idxD n Tryz.f92 0 [x0, x1, (iD 0), y0, (iD 0)] h) (fun j1 s2 h3 =>
condN j1 0
(some ((iD (-1)), h3))
(none)) (fun s2 h3 =>
some ((s2.getD 2 .undef), h3))) := by kernel_rfl

theorem st_idxD_0 (n : Nat) (s0 s1 s2 s3 s4 : D) (h : Heap) : stepF Tryz.prog (T13k Tryz.prog) kp_idxD n Tryz.f92 0 [s0, s1, s2, s3, s4] h =
(thn (binK .int .lss s4 s3) fun y0 =>
condK y0
(thn (idxH 3 s0 s4) fun y1 =>
thn (loadH (some 3) h y1) fun y2 =>
thnH (callClo (T13k Tryz.prog) s1 [y2] h) fun y3 h4 =>
condK y3
(some (.ret, [s0, s1, s4, s3, s4], h4))
(thn (binK .int .add s4 (iD 1)) fun y5 =>
some (.normal, [s0, s1, s2, s3, y5], h4)))
(some ((.exit 0), [s0, s1, s2, s3, s4], h))) := by kernel_rfl

def kp_offshootref13_tries : List Nat := [3, 4, 5, 6, 7, 8, 9]
theorem sh_offshootref13_tries (n : Nat) (x0 : D) (h : Heap) : textK Tryz.prog (T13k Tryz.prog) kp_offshootref13_tries n Tryz.f62 [x0] h =
(thnH (boxH 54 x0 h) fun y0 h1 =>
thn (fieldAtH 1 y0) fun y2 =>
thn (loadH none h1 y2) fun y3 =>
thn (binK .int .sub y3 (iD 1)) fun y4 =>
thn (fieldAtH 1 y0) fun y5 =>
thn (loadH none h1 y5) fun y6 =>
thn (binK .int .add y6 (iD 1)) fun y7 =>
thnH (rowH 3 1 5 [(iD 0)] [(0, (iD (-1))), (1, (iD 0)), (2, (iD 1)), (3, y4), (4, y7)] h1) fun y8 h9 =>
leaveK (loopF Tryz.prog (T13k Tryz.prog) kp_offshootref13_tries n Tryz.f62 0 [(.v (.slice none 0 0)), y8, (iD 7), .undef, .undef, .undef, .undef] h9) (fun j10 s11 h12 =>
condN j10 0
(leaveK (loopF Tryz.prog (T13k Tryz.prog) kp_offshootref13_tries n Tryz.f62 1 [(s11.getD 0 .undef), (s11.getD 1 .undef), (s11.getD 2 .undef), (iD 0), (s11.getD 4 .undef), (s11.getD 5 .undef), (s11.getD 6 .undef)] h12) (fun j13 s14 h15 =>
condN j13 2
(some ((s14.getD 0 .undef), h15))
(none)) (fun s14 h15 =>
some (.undef, h15)))
(none)) (fun s11 h12 =>
some (.undef, h12))) := by kernel_rfl

theorem st_offshootref13_tries_0 (n : Nat) (s0 s1 s2 s3 s4 s5 s6 : D) (h : Heap) : stepF Tryz.prog (T13k Tryz.prog) kp_offshootref13_tries n Tryz.f62 0 [s0, s1, s2, s3, s4, s5, s6] h =
(thn (binK .int .leq s2 (iD 19)) fun y0 =>
condK y0
(thnH (rowH 3 1 1 [(iD 0)] [(0, s2)] h) fun y1 h2 =>
thnH (appendH 3 1 s1 y1 h2) fun y3 h4 =>
thn (binK .int .add s2 (iD 1)) fun y5 =>
some (.normal, [s0, y3, y5, s3, s4, s5, s6], h4))
(some ((.exit 0), [s0, s1, s2, s3, s4, s5, s6], h))) := by kernel_rfl

theorem st_offshootref13_tries_1 (n : Nat) (s0 s1 s2 s3 s4 s5 s6 : D) (h : Heap) : stepF Tryz.prog (T13k Tryz.prog) kp_offshootref13_tries n Tryz.f62 1 [s0, s1, s2, s3, s4, s5, s6] h =
(thn (lenH .sl s1) fun y0 =>
thn (binK .int .lss s3 y0) fun y1 =>
condK y1
(leaveK (loopF Tryz.prog (T13k Tryz.prog) kp_offshootref13_tries n Tryz.f62 2 [s0, s1, s2, s3, (iD 0), (bD false), (iD 0)] h) (fun j2 s3 h4 =>
condN j2 4
(thn (notD (s3.getD 5 .undef)) fun y5 =>
condK y5
(thnH (rowH 3 1 0 [(iD 0)] [] h4) fun y6 h7 =>
thn (cutH 1 (s3.getD 0 .undef) none (some (s3.getD 4 .undef))) fun y8 =>
thnH (appendH 3 1 y6 y8 h7) fun y9 h10 =>
thn (idxH 1 (s3.getD 1 .undef) (s3.getD 3 .undef)) fun y11 =>
thn (loadH none h10 y11) fun y12 =>
thnH (rowH 3 1 1 [(iD 0)] [(0, y12)] h10) fun y13 h14 =>
thnH (appendH 3 1 y9 y13 h14) fun y15 h16 =>
thn (cutH 1 (s3.getD 0 .undef) (some (s3.getD 4 .undef)) none) fun y17 =>
thnH (appendH 3 1 y15 y17 h16) fun y18 h19 =>
thn (binK .int .add (s3.getD 3 .undef) (iD 1)) fun y20 =>
some (.normal, [y18, (s3.getD 1 .undef), (s3.getD 2 .undef), y20, (s3.getD 4 .undef), (s3.getD 5 .undef), (s3.getD 6 .undef)], h19))
(thn (binK .int .add (s3.getD 3 .undef) (iD 1)) fun y21 =>
some (.normal, [(s3.getD 0 .undef), (s3.getD 1 .undef), (s3.getD 2 .undef), y21, (s3.getD 4 .undef), (s3.getD 5 .undef), (s3.getD 6 .undef)], h4)))
(condN j2 3
(thn (binK .int .add (s3.getD 3 .undef) (iD 1)) fun y22 =>
some (.normal, [(s3.getD 0 .undef), (s3.getD 1 .undef), (s3.getD 2 .undef), y22, (s3.getD 4 .undef), (s3.getD 5 .undef), (s3.getD 6 .undef)], h4))
(some ((.exit j2), [(s3.getD 0 .undef), (s3.getD 1 .undef), (s3.getD 2 .undef), (s3.getD 3 .undef), (s3.getD 4 .undef), (s3.getD 5 .undef), (s3.getD 6 .undef)], h4)))) (fun s3 h4 =>
some (.ret, [(s3.getD 0 .undef), (s3.getD 1 .undef), (s3.getD 2 .undef), (s3.getD 3 .undef), (s3.getD 4 .undef), (s3.getD 5 .undef), (s3.getD 6 .undef)], h4)))
(some ((.exit 2), [s0, s1, s2, s3, s4, s5, s6], h))) := by kernel_rfl

theorem st_offshootref13_tries_2 (n : Nat) (s0 s1 s2 s3 s4 s5 s6 : D) (h : Heap) : stepF Tryz.prog (T13k Tryz.prog) kp_offshootref13_tries n Tryz.f62 2 [s0, s1, s2, s3, s4, s5, s6] h =
(thn (lenH .sl s0) fun y0 =>
thn (binK .int .lss s6 y0) fun y1 =>
condK y1
(condK s5
(thn (idxH 1 s0 s6) fun y2 =>
thn (loadH none h y2) fun y3 =>
thn (idxH 1 s1 s3) fun y4 =>
thn (loadH none h y4) fun y5 =>
thn (binK .int .lss y3 y5) fun y6 =>
condK y6
(thn (binK .int .add s6 (iD 1)) fun y7 =>
thn (binK .int .add s6 (iD 1)) fun y8 =>
some (.normal, [s0, s1, s2, s3, y7, (bD true), y8], h))
(thn (binK .int .add s6 (iD 1)) fun y9 =>
some (.normal, [s0, s1, s2, s3, s4, (bD true), y9], h)))
(thn (idxH 1 s0 s6) fun y10 =>
thn (loadH none h y10) fun y11 =>
thn (idxH 1 s1 s3) fun y12 =>
thn (loadH none h y12) fun y13 =>
thn (binK .int .eql y11 y13) fun y14 =>
thn (idxH 1 s0 s6) fun y15 =>
thn (loadH none h y15) fun y16 =>
thn (idxH 1 s1 s3) fun y17 =>
thn (loadH none h y17) fun y18 =>
thn (binK .int .lss y16 y18) fun y19 =>
condK y19
(thn (binK .int .add s6 (iD 1)) fun y20 =>
thn (binK .int .add s6 (iD 1)) fun y21 =>
some (.normal, [s0, s1, s2, s3, y20, y14, y21], h))
(thn (binK .int .add s6 (iD 1)) fun y22 =>
some (.normal, [s0, s1, s2, s3, s4, y14, y22], h))))
(some ((.exit 4), [s0, s1, s2, s3, s4, s5, s6], h))) := by kernel_rfl

end Go.Proofs.YtinnbafplhcnpaaGreat
end

section
namespace Go.Proofs.YtinnbafplhcnpaaGreat
open Go.RowKit
set_option linter.unusedVariables false
set_option linter.unusedSimpArgs false

/-- The place behind the last one that is less. -/
def kP (a : Int) (l : List Int) : Nat → Nat
  | 0 => 0
  | j + 1 => if l.getD j 0 < a then j + 1 else kP a l j
/-- Is it there already? -/
def inP (a : Int) (l : List Int) : Nat → Bool
  | 0 => false
  | j + 1 => inP a l j || (l.getD j 0 == a)
theorem kP_le (a : Int) (l : List Int) : ∀ j, kP a l j ≤ j
  | 0 => Nat.le_refl _
  | j + 1 => by
    have := kP_le a l j
    simp only [kP]
    split <;> omega
def Up (l : List Int) : Prop := ∀ p q, p < q → q < l.length → l.getD p 0 < l.getD q 0
theorem up_pw {l : List Int} (h : l.Pairwise (· < ·)) : Up l := fun p q h1 h2 => by
  rw [getD_in _ _ _ h2, getD_in _ _ _ (by omega : p < l.length)]
  exact (List.pairwise_iff_getElem.1 h) p q (by omega) h2 h1
theorem kP_spec (a : Int) (l : List Int) (hs : Up l) : ∀ j, j ≤ l.length → (∀ p, p < kP a l j → l.getD p 0 < a) ∧ ∀ p, kP a l j ≤ p → p < j → ¬ l.getD p 0 < a
  | 0, _ => ⟨fun p h => by simp [kP] at h, fun p _ h => by omega⟩
  | j + 1, hj => by
    obtain ⟨h1, h2⟩ := kP_spec a l hs j (by omega)
    simp only [kP]
    by_cases hx : l.getD j 0 < a
    · rw [if_pos hx]
      refine ⟨fun p hp => ?_, fun p h3 h4 => by omega⟩
      rcases Nat.lt_or_ge p j with h | h
      · have := hs p j h (by omega); omega
      · obtain rfl : p = j := by omega
        exact hx
    · rw [if_neg hx]
      refine ⟨h1, fun p h3 h4 => ?_⟩
      rcases Nat.lt_or_ge p j with h | h
      · exact h2 p h3 h
      · obtain rfl : p = j := by omega
        exact hx
theorem inP_iff (a : Int) (l : List Int) : ∀ j, j ≤ l.length → (inP a l j = true ↔ ∃ p, p < j ∧ l.getD p 0 = a)
  | 0, _ => by simp [inP]
  | j + 1, hj => by
    simp only [inP, Bool.or_eq_true, beq_iff_eq]
    rw [inP_iff a l j (by omega)]
    constructor
    · rintro (⟨p, h1, h2⟩ | h)
      · exact ⟨p, by omega, h2⟩
      · exact ⟨j, by omega, h⟩
    · rintro ⟨p, h1, h2⟩
      rcases Nat.lt_or_ge p j with h | h
      · exact .inl ⟨p, h, h2⟩
      · obtain rfl : p = j := by omega
        exact .inr h2
/-- One is put where it belongs. -/
def putS (l : List Int) (a : Int) : List Int := if inP a l l.length = true then l else l.take (kP a l l.length) ++ a :: l.drop (kP a l l.length)
theorem putS_len (l : List Int) (a : Int) : (putS l a).length ≤ l.length + 1 := by
  have := kP_le a l l.length
  unfold putS
  split
  · omega
  · simp; omega
theorem putS_mem (l : List Int) (a x : Int) : x ∈ putS l a ↔ x = a ∨ x ∈ l := by
  unfold putS
  split
  · rename_i h
    rw [inP_iff a l l.length (Nat.le_refl _)] at h
    constructor
    · exact .inr
    · rintro (rfl | h')
      · exact (mem_getD l _).2 h
      · exact h'
  · have e : x ∈ l ↔ x ∈ l.take (kP a l l.length) ∨ x ∈ l.drop (kP a l l.length) := by
      rw [← List.mem_append, List.take_append_drop]
    rw [e, List.mem_append, List.mem_cons]
    constructor
    · rintro (h | h | h)
      · exact .inr (.inl h)
      · exact .inl h
      · exact .inr (.inr h)
    · rintro (h | h | h)
      · exact .inr (.inl h)
      · exact .inl h
      · exact .inr (.inr h)
theorem putS_up (l : List Int) (a : Int) (hs : l.Pairwise (· < ·)) : (putS l a).Pairwise (· < ·) := by
  unfold putS
  split
  · exact hs
  · rename_i hi
    rw [inP_iff a l l.length (Nat.le_refl _)] at hi
    obtain ⟨h1, h2⟩ := kP_spec a l (up_pw hs) l.length (Nat.le_refl _)
    have hk := kP_le a l l.length
    generalize kP a l l.length = k at *
    have ht : ∀ x ∈ l.take k, x < a := fun x hx => by
      obtain ⟨p, hp, e⟩ := List.getElem_of_mem hx
      have hp' : p < k := by simp at hp; omega
      have := h1 p hp'
      rw [getD_in _ _ _ (by omega : p < l.length)] at this
      rw [List.getElem_take] at e
      omega
    have hd : ∀ x ∈ l.drop k, a < x := fun x hx => by
      obtain ⟨p, hp, e⟩ := List.getElem_of_mem hx
      have hp' : k + p < l.length := by simp at hp; omega
      have h3 := h2 (k + p) (by omega) hp'
      have h4 : l.getD (k + p) 0 ≠ a := fun e => hi ⟨k + p, hp', e⟩
      rw [getD_in _ _ _ hp'] at h3 h4
      rw [List.getElem_drop] at e
      omega
    rw [List.pairwise_append]
    refine ⟨hs.sublist (List.take_sublist _ _), List.pairwise_cons.2 ⟨hd, hs.sublist (List.drop_sublist _ _)⟩, fun x hx y hy => ?_⟩
    rcases List.mem_cons.1 hy with rfl | hy
    · exact ht x hx
    · have := ht x hx
      have := hd y hy
      omega
theorem putS_all (add : List Int) : ∀ (l : List Int), l.Pairwise (· < ·) → (add.foldl putS l).Pairwise (· < ·) ∧ ∀ x, x ∈ add.foldl putS l ↔ x ∈ add ∨ x ∈ l := by
  induction add with
  | nil => intro l h; simp [h]
  | cons a r ih =>
    intro l h
    obtain ⟨h1, h2⟩ := ih (putS l a) (putS_up l a h)
    refine ⟨h1, fun x => ?_⟩
    rw [List.foldl_cons, h2, putS_mem, List.mem_cons]
    constructor
    · rintro (h | h | h)
      · exact .inl (.inr h)
      · exact .inl (.inl h)
      · exact .inr h
    · rintro ((h | h) | h)
      · exact .inr (.inl h)
      · exact .inl h
      · exact .inr (.inr h)
theorem putS_sort (add : List Int) : add.foldl putS [] = sortV add := by
  obtain ⟨h1, h2⟩ := putS_all add [] List.Pairwise.nil
  refine pw_unique (· < ·) (fun a h => by omega) (fun a b h k => by omega) _ _ h1 (sortV_sorted add) fun x => ?_
  rw [h2, mem_sortV]; simp
theorem putS_take (add : List Int) (i : Nat) (hi : i < add.length) : (add.take (i + 1)).foldl putS [] = putS ((add.take i).foldl putS []) (add.getD i 0) := by
  rw [List.take_succ_eq_append_getElem hi, List.foldl_append, getD_in _ _ _ hi]; rfl
theorem putS_bound (add : List Int) : ∀ i, i ≤ add.length → ((add.take i).foldl putS []).length ≤ i
  | 0, _ => by simp
  | i + 1, h => by
    have h1 := putS_bound add i (by omega)
    rw [putS_take add i (by omega)]
    have := putS_len ((add.take i).foldl putS []) (add.getD i 0)
    omega

/-- A row's first ones, to be appended. -/
theorem src_to {e : TypeId} {H : Heap} {B : Nat} {d : D} {l : List Int} (h : Buf e 1 H B d l.length (intsC l)) (k : Nat) (hk : k ≤ l.length) :
    ∃ p, cutH 1 d none (some (iD k)) = some p ∧ ∀ H', (∀ r m, d = .hs r m → H'[r]? = H[r]?) → srcH 1 H' p = some (intsC (l.take k)) := by
  rcases h with ⟨rfl, h1, _⟩ | ⟨r, h1, rfl, h3, h4⟩
  · have : l = [] := List.length_eq_zero_iff.1 h1
    subst this
    simp only [List.length_nil] at hk
    obtain rfl : k = 0 := by omega
    exact ⟨.sl 1 [], rfl, fun H' _ => rfl⟩
  · refine ⟨.hs r k, by simp [cutH, lowD, highD, hk], fun H' hH => ?_⟩
    simp only [srcH, (hH r _ rfl).trans h3]
    rw [if_pos ⟨trivial, by rw [intsC_len]; omega⟩, Nat.mul_one]
    simp [intsC, List.map_take]
/-- A row's last ones. -/
theorem src_from {e : TypeId} {H : Heap} {B : Nat} {d : D} {l : List Int} (h : Buf e 1 H B d l.length (intsC l)) (k : Nat) (hk : k ≤ l.length) :
    ∃ p, cutH 1 d (some (iD k)) none = some p ∧ ∀ H', (∀ r m, d = .hs r m → H'[r]? = H[r]?) → srcH 1 H' p = some (intsC (l.drop k)) := by
  rcases h with ⟨rfl, h1, _⟩ | ⟨r, h1, rfl, h3, h4⟩
  · have : l = [] := List.length_eq_zero_iff.1 h1
    subst this
    simp only [List.length_nil] at hk
    obtain rfl : k = 0 := by omega
    exact ⟨.sl 1 [], rfl, fun H' _ => rfl⟩
  · by_cases h0 : k = 0
    · subst h0
      refine ⟨.hs r l.length, by simp [cutH, lowD, highD], fun H' hH => ?_⟩
      simp only [srcH, (hH r _ rfl).trans h3]
      rw [if_pos ⟨trivial, by rw [intsC_len]; omega⟩, Nat.mul_one, List.take_of_length_le (by rw [intsC_len]; omega)]; rfl
    · refine ⟨.ht r (k * 1) (l.length - k), by simp [cutH, lowD, highD, hk]; omega, fun H' hH => ?_⟩
      simp only [srcH, (hH r _ rfl).trans h3]
      rw [if_pos ⟨trivial, by rw [intsC_len]; omega⟩, Nat.mul_one, Nat.mul_one, List.take_of_length_le (by rw [List.length_drop, intsC_len]; omega)]
      simp [intsC, List.map_drop]
/-- Reading a row's cells. -/
theorem buf_get {e : TypeId} {H : Heap} {B : Nat} {d : D} {l : List Int} (h : Buf e 1 H B d l.length (intsC l)) (i : Nat) (hi : i < l.length) : ∃ p, idxH 1 d (iD i) = some p ∧ loadH none H p = some (iD (l.getD i 0)) := by
  rcases h with ⟨rfl, h1, _⟩ | ⟨r, h1, rfl, h3, h4⟩
  · omega
  · exact ⟨_, idx_own r _ i hi, load_own h3 i hi⟩
/-- An append, whatever the source. -/
theorem app_src {t : TypeId} {H : Heap} {B : Nat} {d x : D} {l new : List Int} (h : Buf t 1 H B d l.length (intsC l)) (hs : srcH 1 H x = some (intsC new)) (hb : l.length + new.length ≤ 1000000) (hB : B ≤ H.length) :
    ∃ d' H', appendH t 1 d x H = some (d', H') ∧ Buf t 1 H' B d' (l ++ new).length (intsC (l ++ new)) ∧ Kp B H H' ∧ H.length ≤ H'.length ∧ (∀ k, k < H.length → (∀ q, d ≠ .hs k q) → H'[k]? = H[k]?) ∧ (∀ k q, k < H.length → (∀ q, d ≠ .hs k q) → d' ≠ .hs k q) := by
  obtain ⟨d', H', h1, h2, h3, h4, h5⟩ := app_buf (m := new.length) h (by omega) (by rw [intsC_len]; omega) (intsC_ok new) (by rw [intsC_len, intsC_len]; omega) hB
  refine ⟨d', H', by unfold appendH; rw [hs]; exact h1, by rw [List.length_append, intsC_app]; exact h2, h3, h3.1, h4, fun k q hk hd => ?_⟩
  rcases h5 with rfl | ⟨q', rfl⟩
  · exact hd q
  · intro e
    cases e
    omega
end Go.Proofs.YtinnbafplhcnpaaGreat
end
