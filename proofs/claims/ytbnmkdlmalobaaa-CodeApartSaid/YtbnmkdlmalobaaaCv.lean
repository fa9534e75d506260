/-
  Parts joined into one text: ShL10, Law10, Walk10. No condition.
-/
import Derived.Test.YtbnmkdlmalobaaaCl
import Derived.Test.YtbnmkdlmalobaaaCu

section
namespace Go.Proofs.Ytbnmkdlmalobaaa
open Go.RowKit
set_option linter.unusedVariables false
set_option maxRecDepth 100000

def kp_offshootlaw10_CodePuts : List Nat := []
theorem sh_offshootlaw10_CodePuts (n : Nat) (x0 : D) (h : Heap) : textK Try.prog (L10 Try.prog) kp_offshootlaw10_CodePuts n Try.f9 [x0] h =
(thnH (boxH 25 x0 h) fun y0 h1 =>
thnH (liftF F_true [] h1) fun y2 h3 =>
thn (notD y2) fun y4 =>
condK y4
(some ((bD false), h3))
(thn (loadH (some 3) h3 y0) fun y5 =>
thnH (liftF F_Few [y5] h3) fun y6 h7 =>
thn (notD y6) fun y8 =>
condK y8
(some (y2, h7))
(thn (loadH (some 3) h7 y0) fun y9 =>
thnH (liftF F_CodePut [y9] h7) fun y10 h11 =>
thn (extractD y10 0) fun y12 =>
thn (extractD y10 1) fun y13 =>
thn (loadH (some 3) h11 y0) fun y14 =>
thnH (liftF F_CodePut [y14] h11) fun y15 h16 =>
thn (extractD y15 0) fun y17 =>
thn (extractD y15 1) fun y18 =>
condK y2
(thn (binK .str .eql y12 y17) fun y19 =>
condK y19
(thn (binK .int .eql y13 y18) fun y20 =>
some (y20, h16))
(some ((bD false), h16)))
(some ((bD false), h16))))) := by kernel_rfl

def kp_offshootlaw10_CodeGets : List Nat := []
theorem sh_offshootlaw10_CodeGets (n : Nat) (x0 : D) (h : Heap) : textK Try.prog (L10 Try.prog) kp_offshootlaw10_CodeGets n Try.f10 [x0] h =
(thnH (liftF F_true [] h) fun y0 h1 =>
thn (notD y0) fun y2 =>
condK y2
(some ((bD false), h1))
(thn (lenH .str x0) fun y3 =>
thn (binK .int .gtr y3 (iD 300)) fun y4 =>
condK y4
(some (y0, h1))
(thnH (liftF F_CodeGet [x0] h1) fun y5 h6 =>
thn (extractD y5 0) fun y7 =>
thn (extractD y5 1) fun y8 =>
thnH (allocH 25 [(iD 0), (.v (.slice none 0 0)), (.v (.slice none 0 0))] h6) fun y9 h10 =>
thnH (setH 3 y9 y7 h10) fun y11 h12 =>
thnH (liftF F_CodeGet [x0] h12) fun y13 h14 =>
thn (extractD y13 0) fun y15 =>
thn (extractD y13 1) fun y16 =>
thnH (allocH 25 [(iD 0), (.v (.slice none 0 0)), (.v (.slice none 0 0))] h14) fun y17 h18 =>
thnH (setH 3 y17 y15 h18) fun y19 h20 =>
thn (loadH (some 3) h20 y9) fun y21 =>
thn (loadH (some 3) h20 y17) fun y22 =>
thnH (liftF F_Same9 [y21, y22] h20) fun y23 h24 =>
condK y0
(condK y23
(thn (binK .int .eql y8 y16) fun y25 =>
some (y25, h24))
(some ((bD false), h24)))
(some ((bD false), h24))))) := by kernel_rfl

def kp_offshootlaw10_CodeBack : List Nat := []
theorem sh_offshootlaw10_CodeBack (n : Nat) (x0 : D) (h : Heap) : textK Try.prog (L10 Try.prog) kp_offshootlaw10_CodeBack n Try.f11 [x0] h =
(thnH (boxH 25 x0 h) fun y0 h1 =>
thnH (liftF F_true [] h1) fun y2 h3 =>
thn (notD y2) fun y4 =>
condK y4
(some ((bD false), h3))
(thn (loadH (some 3) h3 y0) fun y5 =>
thnH (liftF F_Few [y5] h3) fun y6 h7 =>
thn (notD y6) fun y8 =>
condK y8
(some (y2, h7))
(thn (loadH (some 3) h7 y0) fun y9 =>
thnH (liftF F_CodePut [y9] h7) fun y10 h11 =>
thn (extractD y10 0) fun y12 =>
thn (extractD y10 1) fun y13 =>
thn (binK .int .neq y13 (iD 0)) fun y14 =>
condK y14
(condK y2
(thn (binK .str .eql y12 (.v (.string ⟨#[]⟩))) fun y15 =>
condK y15
(thn (loadH (some 3) h11 y0) fun y16 =>
thnH (liftF F_Check9 [y16] h11) fun y17 h18 =>
thn (binK .int .eql y17 y13) fun y19 =>
some (y19, h18))
(some ((bD false), h11)))
(some ((bD false), h11)))
(thnH (liftF F_CodeGet [y12] h11) fun y20 h21 =>
thn (extractD y20 0) fun y22 =>
thn (extractD y20 1) fun y23 =>
thnH (allocH 25 [(iD 0), (.v (.slice none 0 0)), (.v (.slice none 0 0))] h21) fun y24 h25 =>
thnH (setH 3 y24 y22 h25) fun y26 h27 =>
thn (loadH (some 3) h27 y0) fun y28 =>
thn (loadH (some 3) h27 y24) fun y29 =>
thnH (liftF F_Same9 [y28, y29] h27) fun y30 h31 =>
condK y2
(condK y30
(thn (binK .int .eql y23 (iD 0)) fun y32 =>
some (y32, h31))
(some ((bD false), h31)))
(some ((bD false), h31)))))) := by kernel_rfl

def kp_offshootlaw10_CodeOnly : List Nat := []
theorem sh_offshootlaw10_CodeOnly (n : Nat) (x0 : D) (h : Heap) : textK Try.prog (L10 Try.prog) kp_offshootlaw10_CodeOnly n Try.f12 [x0] h =
(thnH (liftF F_true [] h) fun y0 h1 =>
thn (notD y0) fun y2 =>
condK y2
(some ((bD false), h1))
(thn (lenH .str x0) fun y3 =>
thn (binK .int .gtr y3 (iD 300)) fun y4 =>
condK y4
(some (y0, h1))
(thnH (liftF F_CodeGet [x0] h1) fun y5 h6 =>
thn (extractD y5 0) fun y7 =>
thn (extractD y5 1) fun y8 =>
thnH (allocH 25 [(iD 0), (.v (.slice none 0 0)), (.v (.slice none 0 0))] h6) fun y9 h10 =>
thnH (setH 3 y9 y7 h10) fun y11 h12 =>
thn (binK .int .neq y8 (iD 0)) fun y13 =>
condK y13
(condK y0
(thn (binK .int .eql y8 (iD 12)) fun y14 =>
condK y14
(thn (fieldAtH 2 y9) fun y15 =>
thn (loadH none h12 y15) fun y16 =>
thn (lenH .sl y16) fun y17 =>
thn (binK .int .eql y17 (iD 0)) fun y18 =>
some (y18, h12))
(some ((bD false), h12)))
(some ((bD false), h12)))
(thn (loadH (some 3) h12 y9) fun y19 =>
thnH (liftF F_CodePut [y19] h12) fun y20 h21 =>
thn (extractD y20 0) fun y22 =>
thn (extractD y20 1) fun y23 =>
condK y0
(thn (binK .int .eql y23 (iD 0)) fun y24 =>
condK y24
(thn (binK .str .eql y22 x0) fun y25 =>
condK y25
(thn (loadH (some 3) h21 y9) fun y26 =>
thnH (liftF F_Check9 [y26] h21) fun y27 h28 =>
thn (binK .int .eql y27 (iD 0)) fun y29 =>
some (y29, h28))
(some ((bD false), h21)))
(some ((bD false), h21)))
(some ((bD false), h21)))))) := by kernel_rfl

def kp_offshootlaw10_CodeCut : List Nat := []
theorem sh_offshootlaw10_CodeCut (n : Nat) (x0 x1 x2 : D) (h : Heap) : textK Try.prog (L10 Try.prog) kp_offshootlaw10_CodeCut n Try.f13 [x0, x1, x2] h =
(thnH (boxH 25 x0 h) fun y0 h1 =>
thnH (liftF F_true [] h1) fun y2 h3 =>
thn (notD y2) fun y4 =>
condK y4
(some ((bD false), h3))
(thn (loadH (some 3) h3 y0) fun y5 =>
thnH (liftF F_Few [y5] h3) fun y6 h7 =>
thn (notD y6) fun y8 =>
condK y8
(some (y2, h7))
(thn (lenH .str x2) fun y9 =>
thn (binK .int .gtr y9 (iD 300)) fun y10 =>
condK y10
(some (y2, h7))
(thn (lenH .str x2) fun y11 =>
thn (binK .int .eql y11 (iD 0)) fun y12 =>
condK y12
(some (y2, h7))
(thn (loadH (some 3) h7 y0) fun y13 =>
thnH (liftF F_CodePut [y13] h7) fun y14 h15 =>
thn (extractD y14 0) fun y16 =>
thn (extractD y14 1) fun y17 =>
thn (binK .int .neq y17 (iD 0)) fun y18 =>
condK y18
(some (y2, h15))
(thn (binK .str .add y16 x2) fun y19 =>
thnH (liftF F_CodeGet [y19] h15) fun y20 h21 =>
thn (extractD y20 0) fun y22 =>
thn (extractD y20 1) fun y23 =>
thnH (allocH 25 [(iD 0), (.v (.slice none 0 0)), (.v (.slice none 0 0))] h21) fun y24 h25 =>
thnH (setH 3 y24 y22 h25) fun y26 h27 =>
thn (binK .int .lss x1 (iD 0)) fun y28 =>
condK y28
(condK y2
(thn (binK .int .eql y23 (iD 12)) fun y29 =>
some (y29, h27))
(some ((bD false), h27)))
(thn (lenH .str y16) fun y30 =>
thn (binK .int .geq x1 y30) fun y31 =>
condK y31
(condK y2
(thn (binK .int .eql y23 (iD 12)) fun y32 =>
some (y32, h27))
(some ((bD false), h27)))
(thn (cutS y16 none (some x1)) fun y33 =>
thnH (liftF F_CodeGet [y33] h27) fun y34 h35 =>
thn (extractD y34 0) fun y36 =>
thn (extractD y34 1) fun y37 =>
thnH (allocH 25 [(iD 0), (.v (.slice none 0 0)), (.v (.slice none 0 0))] h35) fun y38 h39 =>
thnH (setH 3 y38 y36 h39) fun y40 h41 =>
condK y2
(thn (binK .int .eql y23 (iD 12)) fun y42 =>
condK y42
(thn (binK .int .eql y37 (iD 12)) fun y43 =>
some (y43, h41))
(some ((bD false), h41)))
(some ((bD false), h41)))))))))) := by kernel_rfl

def kp_offshootlaw10_CodeApart : List Nat := []
theorem sh_offshootlaw10_CodeApart (n : Nat) (x0 x1 : D) (h : Heap) : textK Try.prog (L10 Try.prog) kp_offshootlaw10_CodeApart n Try.f14 [x0, x1] h =
(thnH (boxH 25 x0 h) fun y0 h1 =>
thnH (boxH 25 x1 h1) fun y2 h3 =>
thnH (liftF F_true [] h3) fun y4 h5 =>
thn (notD y4) fun y6 =>
condK y6
(some ((bD false), h5))
(thn (loadH (some 3) h5 y0) fun y7 =>
thnH (liftF F_Few [y7] h5) fun y8 h9 =>
condK y8
(thn (loadH (some 3) h9 y2) fun y10 =>
thnH (liftF F_Few [y10] h9) fun y11 h12 =>
thn (notD y11) fun y13 =>
condK y13
(some (y4, h12))
(thn (loadH (some 3) h12 y0) fun y14 =>
thnH (liftF F_CodePut [y14] h12) fun y15 h16 =>
thn (extractD y15 0) fun y17 =>
thn (extractD y15 1) fun y18 =>
thn (loadH (some 3) h16 y2) fun y19 =>
thnH (liftF F_CodePut [y19] h16) fun y20 h21 =>
thn (extractD y20 0) fun y22 =>
thn (extractD y20 1) fun y23 =>
thn (binK .int .neq y18 (iD 0)) fun y24 =>
condK y24
(some (y4, h21))
(thn (binK .int .neq y23 (iD 0)) fun y25 =>
condK y25
(some (y4, h21))
(condK y4
(thn (binK .str .eql y17 y22) fun y26 =>
thn (loadH (some 3) h21 y0) fun y27 =>
thn (loadH (some 3) h21 y2) fun y28 =>
thnH (liftF F_Same9 [y27, y28] h21) fun y29 h30 =>
thn (binK .bool .eql y26 y29) fun y31 =>
some (y31, h30))
(some ((bD false), h21))))))
(thn (notD (bD false)) fun y32 =>
condK y32
(some (y4, h9))
(thn (loadH (some 3) h9 y0) fun y33 =>
thnH (liftF F_CodePut [y33] h9) fun y34 h35 =>
thn (extractD y34 0) fun y36 =>
thn (extractD y34 1) fun y37 =>
thn (loadH (some 3) h35 y2) fun y38 =>
thnH (liftF F_CodePut [y38] h35) fun y39 h40 =>
thn (extractD y39 0) fun y41 =>
thn (extractD y39 1) fun y42 =>
thn (binK .int .neq y37 (iD 0)) fun y43 =>
condK y43
(some (y4, h40))
(thn (binK .int .neq y42 (iD 0)) fun y44 =>
condK y44
(some (y4, h40))
(condK y4
(thn (binK .str .eql y36 y41) fun y45 =>
thn (loadH (some 3) h40 y0) fun y46 =>
thn (loadH (some 3) h40 y2) fun y47 =>
thnH (liftF F_Same9 [y46, y47] h40) fun y48 h49 =>
thn (binK .bool .eql y45 y48) fun y50 =>
some (y50, h49))
(some ((bD false), h40)))))))) := by kernel_rfl

end Go.Proofs.Ytbnmkdlmalobaaa
end

section
namespace Go.Proofs.Ytbnmkdlmalobaaa
open Go.RowKit
set_option linter.unusedVariables false
set_option linter.unusedSimpArgs false
set_option maxRecDepth 100000

theorem codeGet_pure (s : By) (hs : s.length ≤ 3000) (H : Heap) : liftF F_CodeGet [sD s] H = some (.tup [progD (getR s).1, iD (getR s).2], H) := by
  rw [liftF_pure _ _ _ rfl]
  have : F_CodeGet [sD s] = _ := f1_enc (A := strT) _ s
  rw [this, if_pos hs]; rfl
theorem get_fits (s : By) : (getR s).1.fits ∧ (getR s).1.body.length ≤ 200 ∧ pgInB (getR s).1 = true := by
  unfold getR
  split
  · rename_i h
    have hp := pg_ok h.1 (pgIn_of (decC_range s).1)
    have h1 := hp.vars.1
    have h2 := hp.body.1
    exact ⟨⟨by simp only; omega, by simp only; omega⟩, h2, (decC_range s).1⟩
  · exact ⟨⟨by simp, by simp⟩, by simp, rfl⟩
theorem get_enc {p : Pg} (h : chk9 p = 0) (hi : pgIn p) : getR (encV p) = (p, 0) := by
  have := dec_enc p (pg_ok h hi) []
  rw [List.append_nil] at this
  unfold getR
  rw [this, if_pos ⟨h, rfl⟩]
theorem get_more {p : Pg} (h : chk9 p = 0) (hi : pgIn p) (t : By) (ht : t ≠ []) : (getR (encV p ++ t)).2 = 12 := by
  have := dec_enc p (pg_ok h hi) t
  unfold getR
  rw [this, if_neg]
  rintro ⟨_, h2⟩
  have := congrArg List.length h2
  rw [List.length_append] at this
  exact ht (List.length_eq_zero_iff.1 (by omega))
theorem get_cut {p : Pg} (h : chk9 p = 0) (hi : pgIn p) (n : Nat) (hn : n < (encV p).length) : (getR ((encV p).take n)).2 = 12 := by
  unfold getR
  rw [if_neg]
  rintro ⟨h1, h2⟩
  have hq := pg_ok h1 (pgIn_of (decC_range _).1)
  have := enc_prefix _ p hq (pg_ok h hi) ((encV p).drop n) (by rw [h2, List.take_append_drop])
  have h3 := congrArg List.length this.1
  simp at h3
  omega
theorem get_some {s : By} (h : (getR s).2 = 0) : chk9 (getR s).1 = 0 ∧ encV (getR s).1 = s := by
  unfold getR at h ⊢
  split
  · rename_i h1; exact h1
  · rename_i h1; rw [if_neg h1] at h; cases h
theorem get_none {s : By} (h : (getR s).2 ≠ 0) : (getR s).2 = 12 ∧ (getR s).1 = ⟨0, [], []⟩ := by
  unfold getR at h ⊢
  split
  · rename_i h1; rw [if_pos h1] at h; exact absurd rfl h
  · exact ⟨rfl, rfl⟩
theorem enc_small {p : Pg} (h : chk9 p = 0) (hi : pgIn p) (hb : p.body.length ≤ 60) : (encV p).length ≤ 1000 := by
  have hp := pg_ok h hi
  have h1 := (putV_len p.params).2
  have h2 := (putV_len p.vars.length).2
  have h3 := (putV_len p.body.length).2
  have h4 := nodesB_len p.body
  have h5 := hp.vars.1
  simp only [encV, List.length_append, List.length_map]
  omega
@[simp] theorem cells_prog (p : Pg) : cellsD (progD p) = some [iD p.params, intsD p.vars, nodesD p.body] := rfl

theorem codePuts_text (p : Pg) (hin : pgInB p = true) : ∃ H, textK Try.prog (L10 Try.prog) kp_offshootlaw10_CodePuts 0 Try.f9 [progD p] [] = some (bD true, H) := by
  rw [sh_offshootlaw10_CodePuts]
  have ep : ∀ p : Pg, D.agg [iD p.params, intsD p.vars, nodesD p.body] = progD p := fun _ => rfl
  cases h1 : fewV p with
  | false => exact ⟨_, by simp [true_pure, few_pure, ep, h1]; rfl⟩
  | true =>
    obtain ⟨_, _, hp, hp'⟩ := few_fits h1
    exact ⟨_, by simp [true_pure, few_pure, ep, h1, codePut_pure p hin hp']; rfl⟩
theorem codeGets_text (s : By) : ∃ H, textK Try.prog (L10 Try.prog) kp_offshootlaw10_CodeGets 0 Try.f10 [sD s] [] = some (bD true, H) := by
  rw [sh_offshootlaw10_CodeGets]
  have ep : ∀ p : Pg, D.agg [iD p.params, intsD p.vars, nodesD p.body] = progD p := fun _ => rfl
  by_cases hs : s.length ≤ 300
  · have h1 : ¬ (300 : Int) < s.length := by omega
    have hg := codeGet_pure s (by omega)
    obtain ⟨hf, _, _⟩ := get_fits s
    exact ⟨_, by simp [true_pure, h1, hg, allocH, newH, setH, storeH, ep, same9_pure _ _ hf hf]; rfl⟩
  · have h1 : (300 : Int) < s.length := by omega
    exact ⟨_, by simp [true_pure, h1]; rfl⟩
theorem codeBack_text (p : Pg) (hin : pgInB p = true) : ∃ H, textK Try.prog (L10 Try.prog) kp_offshootlaw10_CodeBack 0 Try.f11 [progD p] [] = some (bD true, H) := by
  rw [sh_offshootlaw10_CodeBack]
  have ep : ∀ p : Pg, D.agg [iD p.params, intsD p.vars, nodesD p.body] = progD p := fun _ => rfl
  cases h1 : fewV p with
  | false => exact ⟨_, by simp [true_pure, few_pure, ep, h1]; rfl⟩
  | true =>
    obtain ⟨hb, _, hp, hp'⟩ := few_fits h1
    by_cases hz : chk9 p = 0
    · have hpr : putR p = encV p := by unfold putR; rw [if_pos hz]
      have hg := codeGet_pure (encV p) (by have := enc_small hz (pgIn_of hin) hb; omega)
      rw [get_enc hz (pgIn_of hin)] at hg
      exact ⟨_, by simp [true_pure, few_pure, ep, h1, codePut_pure p hin hp', hz, hpr, hg, allocH, newH, setH, storeH, same9_pure _ _ hp hp]; rfl⟩
    · have hpr : putR p = [] := by unfold putR; rw [if_neg hz]
      exact ⟨_, by simp [true_pure, few_pure, ep, h1, codePut_pure p hin hp', hz, hpr, sD_nil, check9_pure p hp']; rfl⟩
theorem codeOnly_text (s : By) : ∃ H, textK Try.prog (L10 Try.prog) kp_offshootlaw10_CodeOnly 0 Try.f12 [sD s] [] = some (bD true, H) := by
  rw [sh_offshootlaw10_CodeOnly]
  have ep : ∀ p : Pg, D.agg [iD p.params, intsD p.vars, nodesD p.body] = progD p := fun _ => rfl
  by_cases hs : s.length ≤ 300
  · have h1 : ¬ (300 : Int) < s.length := by omega
    have hg := codeGet_pure s (by omega)
    obtain ⟨hf, hb, hin⟩ := get_fits s
    by_cases hz : (getR s).2 = 0
    · obtain ⟨q1, q2⟩ := get_some hz
      have hpr : putR (getR s).1 = s := by unfold putR; rw [if_pos q1, q2]
      exact ⟨_, by simp [true_pure, h1, hg, hz, allocH, newH, setH, storeH, ep, codePut_pure _ hin (show (getR s).1.body.length ≤ 3000000 by omega), q1, hpr, check9_pure _ (show (getR s).1.body.length ≤ 3000000 by omega)]; rfl⟩
    · obtain ⟨q1, q2⟩ := get_none hz
      exact ⟨_, by simp [true_pure, h1, hg, q1, q2, allocH, newH, setH, storeH, ep]; rfl⟩
  · have h1 : (300 : Int) < s.length := by omega
    exact ⟨_, by simp [true_pure, h1]; rfl⟩
theorem codeCut_text (p : Pg) (hin : pgInB p = true) (n : Int) (t : By) : ∃ H, textK Try.prog (L10 Try.prog) kp_offshootlaw10_CodeCut 0 Try.f13 [progD p, iD n, sD t] [] = some (bD true, H) := by
  rw [sh_offshootlaw10_CodeCut]
  have ep : ∀ p : Pg, D.agg [iD p.params, intsD p.vars, nodesD p.body] = progD p := fun _ => rfl
  cases h1 : fewV p with
  | false => exact ⟨_, by simp [true_pure, few_pure, ep, h1]; rfl⟩
  | true =>
    obtain ⟨hb, _, hp, hp'⟩ := few_fits h1
    by_cases hs : t.length ≤ 300
    · have g1 : ¬ (300 : Int) < t.length := by omega
      by_cases h0 : t = []
      · subst h0
        exact ⟨_, by simp [true_pure, few_pure, ep, h1]; rfl⟩
      · by_cases hz : chk9 p = 0
        · have hpr : putR p = encV p := by unfold putR; rw [if_pos hz]
          have hlen := enc_small hz (pgIn_of hin) hb
          have ha := str_add (encV p) t (by omega)
          have hg := codeGet_pure (encV p ++ t) (by simp; omega)
          have h12 := get_more hz (pgIn_of hin) t h0
          by_cases hn0 : n < 0
          · exact ⟨_, by simp [true_pure, few_pure, ep, h1, g1, h0, codePut_pure p hin hp', hz, hpr, ha, hg, h12, hn0, allocH, newH, setH, storeH]; rfl⟩
          · obtain ⟨k, rfl⟩ := Int.eq_ofNat_of_zero_le (show 0 ≤ n by omega)
            by_cases hk : (encV p).length ≤ k
            · have hk' : ((encV p).length : Int) ≤ k := by omega
              exact ⟨_, by simp [true_pure, few_pure, ep, h1, g1, h0, codePut_pure p hin hp', hz, hpr, ha, hg, h12, hn0, hk, hk', allocH, newH, setH, storeH]; rfl⟩
            · have hk' : ¬ ((encV p).length : Int) ≤ k := by omega
              have hc : cutS (sD (encV p)) none (some (iD k)) = some (sD ((encV p).take k)) := str_cut (encV p) 0 k (by omega) (by omega)
              have hg2 := codeGet_pure ((encV p).take k) (by simp; omega)
              have h13 := get_cut hz (pgIn_of hin) k (by omega)
              exact ⟨_, by simp [true_pure, few_pure, ep, h1, g1, h0, codePut_pure p hin hp', hz, hpr, ha, hg, h12, hn0, hk, hk', hc, hg2, h13, allocH, newH, setH, storeH]; rfl⟩
        · exact ⟨_, by simp [true_pure, few_pure, ep, h1, g1, h0, codePut_pure p hin hp', hz]; rfl⟩
    · have g1 : (300 : Int) < t.length := by omega
      exact ⟨_, by simp [true_pure, few_pure, ep, h1, g1]; rfl⟩
theorem codeApart_text (p q : Pg) (hin : pgInB p = true) (hiq : pgInB q = true) : ∃ H, textK Try.prog (L10 Try.prog) kp_offshootlaw10_CodeApart 0 Try.f14 [progD p, progD q] [] = some (bD true, H) := by
  rw [sh_offshootlaw10_CodeApart]
  have ep : ∀ p : Pg, D.agg [iD p.params, intsD p.vars, nodesD p.body] = progD p := fun _ => rfl
  cases h1 : fewV p with
  | false => exact ⟨_, by simp [true_pure, few_pure, ep, h1]; rfl⟩
  | true =>
    obtain ⟨_, _, hp, hp'⟩ := few_fits h1
    cases h2 : fewV q with
    | false => exact ⟨_, by simp [true_pure, few_pure, ep, h1, h2]; rfl⟩
    | true =>
      obtain ⟨_, _, hq, hq'⟩ := few_fits h2
      by_cases hz : chk9 p = 0
      · by_cases hy : chk9 q = 0
        · have hpr : putR p = encV p := by unfold putR; rw [if_pos hz]
          have hqr : putR q = encV q := by unfold putR; rw [if_pos hy]
          have he : decide (encV p = encV q) = decide (p = q) := by
            refine decide_eq_decide.2 ⟨fun h => ?_, fun h => by rw [h]⟩
            exact (enc_prefix p q (pg_ok hz (pgIn_of hin)) (pg_ok hy (pgIn_of hiq)) [] (by rw [List.append_nil]; exact h)).2
          exact ⟨_, by simp only [box_prog, thnH_some, true_pure, notD_bool, thn_some, Bool.not_true, condK_bool, Bool.false_eq_true, if_false, loadH_hp, partS_some, ep, few_pure, h1, h2, if_true]; simp [ep, few_pure, h1, h2, codePut_pure p hin hp', codePut_pure q hiq hq', hz, hy, hpr, hqr, he, same9_pure p q hp hq]; rfl⟩
        · exact ⟨_, by simp [true_pure, few_pure, ep, h1, h2, codePut_pure p hin hp', codePut_pure q hiq hq', hz, hy]; rfl⟩
      · exact ⟨_, by simp [true_pure, few_pure, ep, h1, h2, codePut_pure p hin hp', codePut_pure q hiq hq', hz]; rfl⟩
end Go.Proofs.Ytbnmkdlmalobaaa
end

section
namespace Go.Proofs.Ytbnmkdlmalobaaa
open Go.RowKit
set_option linter.unusedVariables false

theorem pgGo_in {p : Pg} (h : pgGo p) : pgInB p = true := pgInB_of fun x hx => (h.2.2 x hx).2
theorem rep_str {S : Nat → Prop} {L : List (Nat × Nat)} {w : World} (x : By) : Rep S L w (.string (baOf x)) (sD x) := by simp only [Rep, sD]
theorem codePuts_walk (p : Pg) (v : Value) (w : World) (hv : Rep (· < w.heap.size) [] w v (progD p)) (hp : pgGo p) :
    Calls Try.prog 9 #[v] w fun e w' => e = .returned (.bool true) ∧ Below w.heap.size w w' := by
  obtain ⟨H, hH⟩ := codePuts_text p (pgGo_in hp)
  exact law_walk L10_ok mixed Try.func9 (by kernel_rfl) (by decide) hH (vs := [v]) (RepA.cons hv RepA.nil)
theorem codeGets_walk (s : By) (w : World) :
    Calls Try.prog 10 #[.string (baOf s)] w fun e w' => e = .returned (.bool true) ∧ Below w.heap.size w w' := by
  obtain ⟨H, hH⟩ := codeGets_text s
  exact law_walk L10_ok mixed Try.func10 (by kernel_rfl) (by decide) hH (vs := [.string (baOf s)]) (RepA.cons (rep_str s) RepA.nil)
theorem codeBack_walk (p : Pg) (v : Value) (w : World) (hv : Rep (· < w.heap.size) [] w v (progD p)) (hp : pgGo p) :
    Calls Try.prog 11 #[v] w fun e w' => e = .returned (.bool true) ∧ Below w.heap.size w w' := by
  obtain ⟨H, hH⟩ := codeBack_text p (pgGo_in hp)
  exact law_walk L10_ok mixed Try.func11 (by kernel_rfl) (by decide) hH (vs := [v]) (RepA.cons hv RepA.nil)
theorem codeOnly_walk (s : By) (w : World) :
    Calls Try.prog 12 #[.string (baOf s)] w fun e w' => e = .returned (.bool true) ∧ Below w.heap.size w w' := by
  obtain ⟨H, hH⟩ := codeOnly_text s
  exact law_walk L10_ok mixed Try.func12 (by kernel_rfl) (by decide) hH (vs := [.string (baOf s)]) (RepA.cons (rep_str s) RepA.nil)
theorem codeCut_walk (p : Pg) (v : Value) (n : Int) (s : By) (w : World) (hv : Rep (· < w.heap.size) [] w v (progD p)) (hp : pgGo p) :
    Calls Try.prog 13 #[v, .int .i64 n, .string (baOf s)] w fun e w' => e = .returned (.bool true) ∧ Below w.heap.size w w' := by
  obtain ⟨H, hH⟩ := codeCut_text p (pgGo_in hp) n s
  exact law_walk L10_ok mixed Try.func13 (by kernel_rfl) (by decide) hH (vs := [v, .int .i64 n, .string (baOf s)]) (RepA.cons hv (RepA.cons (rep_int n) (RepA.cons (rep_str s) RepA.nil)))
theorem codeApart_walk (p : Pg) (v : Value) (q : Pg) (u : Value) (w : World) (hv : Rep (· < w.heap.size) [] w v (progD p)) (hp : pgGo p) (hu : Rep (· < w.heap.size) [] w u (progD q)) (hq : pgGo q) :
    Calls Try.prog 14 #[v, u] w fun e w' => e = .returned (.bool true) ∧ Below w.heap.size w w' := by
  obtain ⟨H, hH⟩ := codeApart_text p q (pgGo_in hp) (pgGo_in hq)
  exact law_walk L10_ok mixed Try.func14 (by kernel_rfl) (by decide) hH (vs := [v, u]) (RepA.cons hv (RepA.cons hu RepA.nil))
end Go.Proofs.Ytbnmkdlmalobaaa
end
