/-
  Chapter 8's laws: each comes to true.
-/
import Derived.Test.YtnmgfobpcengkaaSh08
import Derived.Test.YtnmgfobpcengkaaDenSimp
import Derived.Test.YtnmgfobpcengkaaReplLaw
namespace Go.Proofs.Ytnmgfobpcengkaa
open Go.RowKit
set_option linter.unusedVariables false

section
@[local simp] theorem fWorks : F_works08 [] = some (bD true) := rfl
@[local simp] theorem fArity (x : Nd) : F_Arity [.agg (nodeD x)] = some (iD (ar x)) := rfl
@[local simp] theorem fRefArity (x : Nd) : F_RefArity [.agg (nodeD x)] = some (iD (ar x)) := rfl
@[local simp] theorem fEnd (l : List Nd) (i : Int) : F_End [nodesD l, .v (.int .i64 i)] = if l.length ≤ 3000000 then some (iD (endv l i)) else none := by simp [F_End]
@[local simp] theorem fRefEnd (l : List Nd) (i : Int) : F_RefEnd [nodesD l, .v (.int .i64 i)] = if l.length ≤ 3000000 then some (iD (endv l i)) else none := by simp [F_RefEnd]
@[local simp] theorem fKids (l : List Nd) (i : Int) : F_Kids [nodesD l, .v (.int .i64 i)] = if l.length ≤ 3000000 then some (intsD (kidsv l i)) else none := by simp [F_Kids]
@[local simp] theorem fRefKids (l : List Nd) (i : Int) : F_RefKids [nodesD l, .v (.int .i64 i)] = if l.length ≤ 3000000 then some (intsD (kidsv l i)) else none := by simp [F_RefKids]
@[local simp] theorem fDepth (l : List Nd) (i : Int) : F_Depth [nodesD l, .v (.int .i64 i)] = if l.length ≤ 3000000 then some (iD (depV l.length l i)) else none := by simp [F_Depth]
@[local simp] theorem fRefDepth (l : List Nd) (i : Int) : F_RefDepth [nodesD l, .v (.int .i64 i)] = if l.length ≤ 3000000 then some (iD (depV l.length l i)) else none := by simp [F_RefDepth]
@[local simp] theorem fPart (l : List Nd) (i : Int) : F_Part [nodesD l, .v (.int .i64 i)] = if l.length ≤ 3000000 then some (nodesD (partV l i)) else none := by simp [F_Part]
@[local simp] theorem fRefPart (l : List Nd) (i : Int) : F_RefPart [nodesD l, .v (.int .i64 i)] = if l.length ≤ 3000000 then some (nodesD (partV l i)) else none := by simp [F_RefPart]
@[local simp] theorem fReplace (l r : List Nd) (i : Int) : F_Replace [nodesD l, .v (.int .i64 i), nodesD r] = if l.length ≤ 3000000 ∧ r.length ≤ 3000000 then some (nodesD (replV l i r)) else none := by simp [F_Replace]
@[local simp] theorem fRefReplace (l r : List Nd) (i : Int) : F_RefReplace [nodesD l, .v (.int .i64 i), nodesD r] = if l.length ≤ 3000000 ∧ r.length ≤ 3000000 then some (nodesD (replV l i r)) else none := by simp [F_RefReplace]
@[local simp] theorem fCheck (l : List Nd) : F_Check [nodesD l] = if l.length ≤ 3000000 then some (iD (checkV l)) else none := by simp [F_Check]
@[local simp] theorem fRefCheck (l : List Nd) : F_RefCheck [nodesD l] = if l.length ≤ 3000000 then some (iD (checkV l)) else none := by simp [F_RefCheck]
@[local simp] theorem fSame (l k : List Nd) : F_Same [nodesD l, nodesD k] = if l.length ≤ 3000000 ∧ k.length ≤ 3000000 then some (bD (decide (l = k))) else none := by simp [F_Same]
@[local simp] theorem fRefSame (l k : List Nd) : F_RefSame [nodesD l, nodesD k] = if l.length ≤ 3000000 ∧ k.length ≤ 3000000 then some (bD (decide (l = k))) else none := by simp [F_RefSame]
@[local simp] theorem fRefInts (l k : List Int) : F_RefInts [intsD l, intsD k] = if l.length ≤ 3000000 ∧ k.length ≤ 3000000 then some (bD (decide (l = k))) else none := by simp [F_RefInts]

theorem arenaChecks_text (l k : List Nd) (x : Nd) : textK Try.prog L08 10 Try.f8 [nodesD l, nodesD k, .agg (nodeD x)] = some (bD true) := by
  rw [sh_offshootlaw08_ArenaChecks]
  by_cases h1 : 240 < l.length
  · have : (240 : Int) < l.length := by omega
    simp [this]
  · by_cases h2 : 240 < k.length
    · have e1 : ¬ (240 : Int) < l.length := by omega
      have e2 : (240 : Int) < k.length := by omega
      simp [e1, e2]
    · have e1 : ¬ (240 : Int) < l.length := by omega
      have e2 : ¬ (240 : Int) < k.length := by omega
      have e3 : l.length ≤ 3000000 := by omega
      have e4 : k.length ≤ 3000000 := by omega
      simp [e1, e2, e3, e4]

theorem partV_len (l : List Nd) (i : Int) : (partV l i).length ≤ l.length := by
  unfold partV
  split
  · simp
  · simp; omega
theorem replV_len (l r : List Nd) (i : Int) : (replV l i r).length ≤ l.length + r.length + l.length := by
  unfold replV
  split
  · omega
  · simp; omega
theorem arenaTells_text (l r : List Nd) (i : Int) : textK Try.prog L08 10 Try.f9 [nodesD l, iD i, nodesD r] = some (bD true) := by
  rw [sh_offshootlaw08_ArenaTells]
  by_cases h1 : 80 < l.length
  · have : (80 : Int) < l.length := by omega
    simp [this]
  · by_cases h2 : 80 < r.length
    · have e1 : ¬ (80 : Int) < l.length := by omega
      have e2 : (80 : Int) < r.length := by omega
      simp [e1, e2]
    · have e1 : ¬ (80 : Int) < l.length := by omega
      have e2 : ¬ (80 : Int) < r.length := by omega
      have e3 : l.length ≤ 3000000 := by omega
      have e4 : r.length ≤ 3000000 := by omega
      have e5 : (kidsv l i).length ≤ 3000000 := by have := kidsv_len l i; omega
      have e6 : (partV l i).length ≤ 3000000 := by have := partV_len l i; omega
      have e7 : (replV l i r).length ≤ 3000000 := by have := replV_len l r i; omega
      simp [e1, e2, e3, e4, e5, e6, e7]

theorem arenaBack_text (l r : List Nd) (i : Int) : textK Try.prog L08 10 Try.f11 [nodesD l, iD i, nodesD r] = some (bD true) := by
  rw [sh_offshootlaw08_ArenaBack]
  by_cases h1 : 80 < l.length
  · have : (80 : Int) < l.length := by omega
    simp [this]
  by_cases h2 : 80 < r.length
  · have e1 : ¬ (80 : Int) < l.length := by omega
    have e2 : (80 : Int) < r.length := by omega
    simp [e1, e2]
  have e1 : ¬ (80 : Int) < l.length := by omega
  have e2 : ¬ (80 : Int) < r.length := by omega
  have e3 : l.length ≤ 3000000 := by omega
  have e4 : r.length ≤ 3000000 := by omega
  by_cases h3 : endv l i < 0
  · simp [e1, e2, e3, e4, h3]
  by_cases h4 : endv r 0 = r.length
  · have hE : 0 ≤ endv l i := by omega
    obtain ⟨hi0, hil⟩ := endv_in l i hE
    obtain ⟨k, rfl⟩ := Int.eq_ofNat_of_zero_le hi0
    have e5 : (replV l k r).length ≤ 3000000 := by have := replV_len l r k; omega
    have e6 : (partV l k).length ≤ 3000000 := by have := partV_len l k; omega
    have e6' := partV_len l k
    have e7 := repl_part hE h4
    have e8 := repl_back hE h4
    have e9 := repl_len (r := r) hE
    have e10 : intD .sub .i64 (l.length : Int) ((partV l k).length : Int) = some (iD ((l.length : Int) - (partV l k).length)) := intD_sub _ _ (by omega) (by omega)
    have e11 : intD .add .i64 ((l.length : Int) - (partV l k).length) (r.length : Int) = some (iD ((l.length : Int) - (partV l k).length + r.length)) := intD_add _ _ (by omega) (by omega)
    have e12 : ((replV l k r).length : Int) = (l.length : Int) - (partV l k).length + r.length := by omega
    simp [e1, e2, e3, e4, h3, h4, e5, e6, e7, e8, e10, e11, e12]
  · simp [e1, e2, e3, e4, h3, h4]

theorem arenaElse_text (l r : List Nd) (i j : Int) : textK Try.prog L08 10 Try.f12 [nodesD l, iD i, nodesD r, iD j] = some (bD true) := by
  rw [sh_offshootlaw08_ArenaElse]
  by_cases h1 : 80 < l.length
  · have : (80 : Int) < l.length := by omega
    simp [this]
  by_cases h2 : 80 < r.length
  · have e1 : ¬ (80 : Int) < l.length := by omega
    have e2 : (80 : Int) < r.length := by omega
    simp [e1, e2]
  have e1 : ¬ (80 : Int) < l.length := by omega
  have e2 : ¬ (80 : Int) < r.length := by omega
  have e3 : l.length ≤ 3000000 := by omega
  have e4 : r.length ≤ 3000000 := by omega
  by_cases h0 : endv l 0 = l.length
  case neg => simp [e1, e2, e3, e4, h0]
  by_cases h3 : endv l i < 0
  · simp [e1, e2, e3, e4, h0, h3]
  by_cases h4 : endv r 0 = r.length
  case neg => simp [e1, e2, e3, e4, h0, h3, h4]
  have hE : 0 ≤ endv l i := by omega
  obtain ⟨hi0, hil⟩ := endv_in l i hE
  obtain ⟨k, rfl⟩ := Int.eq_ofNat_of_zero_le hi0
  have e5 : (replV l k r).length ≤ 3000000 := by have := replV_len l r k; omega
  have e7 := repl_whole h0 hE h4
  have e9 := repl_len (r := r) hE
  have hle := endv_le l k
  have hgt := endv_gt l k hE
  have hpl : (partV l k).length = (endv l k).toNat - k := by
    rw [partV, if_neg h3]
    simp; omega
  by_cases h5 : j < 0
  · simp [e1, e2, e3, e4, h0, h3, h4, e5, e7, h5]
  by_cases h6 : (l.length : Int) ≤ j
  · simp [e1, e2, e3, e4, h0, h3, h4, e5, e7, h5, h6]
  obtain ⟨m, rfl⟩ := Int.eq_ofNat_of_zero_le (show 0 ≤ j by omega)
  have hm : m < l.length := by omega
  have ix : idxD 2 (nodesD l) (iD (m : Int)) = some (.ptr (nodeD l[m])) := by
    have := idx_nodes l (m : Int) (by omega) (by simpa using hm)
    simpa using this
  by_cases h7 : (m : Int) < k
  · -- ahead of the part
    have hm2 : m < (replV l k r).length := by omega
    have hm3 : (m : Int) < ((replV l k r).length : Int) := by omega
    have hb := repl_before (r := r) hE m (by omega)
    rw [List.getElem?_eq_getElem hm2, List.getElem?_eq_getElem hm] at hb
    have ix2 : idxD 2 (nodesD (replV l k r)) (iD (m : Int)) = some (.ptr (nodeD l[m])) := by
      have := idx_nodes (replV l k r) (m : Int) (by omega) (by simpa using hm2)
      simp only [Int.toNat_natCast] at this
      rw [this, Option.some.inj hb]
    have h8 : ¬ (endv l k ≤ m) := by omega
    have h9 : ¬ ((k : Int) ≤ m) := by omega
    have h10 : ¬ (k ≤ m) := by omega
    have h11 : (0 : Int) ≤ m := by omega
    have h12 : m < (replV l k r).length := hm2
    simp [e1, e2, e3, e4, h0, h3, h4, e5, e7, h5, h6, h8, h9, h10, h11, hm3, ix, ix2]
  · have h9 : (k : Int) ≤ m := by omega
    have h10 : k ≤ m := by omega
    by_cases h8 : (m : Int) < endv l k
    · simp [e1, e2, e3, e4, h0, h3, h4, e5, e7, h5, h6, h8, h9, h10]
    · have h8' : endv l k ≤ m := by omega
      have e10 : intD .sub .i64 (m : Int) (endv l k) = some (iD ((m : Int) - endv l k)) := intD_sub _ _ (by omega) (by omega)
      have e11 : intD .add .i64 ((m : Int) - endv l k) (k : Int) = some (iD ((m : Int) - endv l k + k)) := intD_add _ _ (by omega) (by omega)
      have e12 : intD .add .i64 ((m : Int) - endv l k + k) (r.length : Int) = some (iD ((m : Int) - endv l k + k + r.length)) := intD_add _ _ (by omega) (by omega)
      have hq : (m : Int) - endv l k + k + r.length = ((m - (endv l k).toNat + k + r.length : Nat) : Int) := by omega
      have hb := repl_behind (r := r) hE m h8'
      rw [List.getElem?_eq_getElem hm] at hb
      obtain ⟨hm2, hb2⟩ := List.getElem?_eq_some_iff.1 hb
      have ix2 : idxD 2 (nodesD (replV l k r)) (iD ((m : Int) - endv l k + k + r.length)) = some (.ptr (nodeD l[m])) := by
        rw [hq]
        have := idx_nodes (replV l k r) ((m - (endv l k).toNat + k + r.length : Nat) : Int) (by omega) (by rw [Int.toNat_natCast]; exact hm2)
        simp only [Int.toNat_natCast] at this
        rw [this, hb2]
      have h11 : (0 : Int) ≤ (m : Int) - endv l k + k + r.length := by omega
      have h12 : (m : Int) - endv l k + k + r.length < ((replV l k r).length : Int) := by omega
      simp [e1, e2, e3, e4, h0, h3, h4, e5, e7, h5, h6, h8, h8', h9, h10, e10, e11, e12, h11, h12, ix, ix2]
end
end Go.Proofs.Ytnmgfobpcengkaa
