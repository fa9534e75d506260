/-
  Parts joined into one text: Sh09d, T09d, T09e, Sh09e, C09e, T09f, Sh09f, Sh09g, C09f, C09g, C09h, C09i, T09h, Sh09j, T09j, Sh09k, T09k, T12t, ShL12t. No condition.
-/
import Derived.Test.YtalehbmgbjiigaaEj
import Derived.Test.YtalehbmgbjiigaaEt

section
namespace Go.Proofs.Ytalehbmgbjiigaa
open Go.RowKit
set_option linter.unusedVariables false
set_option maxRecDepth 100000

def kp_kinds_asked : List Nat := []
theorem sh_kinds_asked (n : Nat) (x0 x1 x2 x3 : D) (h : Heap) : textK Try.prog T09c kp_kinds_asked n Try.f120 [x0, x1, x2, x3] h =
(thnH (boxH 25 x0 h) fun y0 h1 =>
thnH (boxH 46 x1 h1) fun y2 h3 =>
thn (assertD 142 (.agg [(.v (.slice none 0 0)), (iD 0)]) true x2) fun y4 =>
thn (extractD y4 1) fun y5 =>
thn (extractD y4 0) fun y6 =>
condK y5
(thnH (allocH 142 [(.v (.slice none 0 0)), (iD 0)] h3) fun y7 h8 =>
thnH (setH 2 y7 y6 h8) fun y9 h10 =>
thn (fieldAtH 0 y7) fun y11 =>
thn (loadH none h10 y11) fun y12 =>
some (y12, h10))
(thn (assertD 146 (.agg [(.v (.slice none 0 0)), (iD 0)]) true x2) fun y13 =>
thn (extractD y13 1) fun y14 =>
thn (extractD y13 0) fun y15 =>
condK y14
(thnH (allocH 146 [(.v (.slice none 0 0)), (iD 0)] h3) fun y16 h17 =>
thnH (setH 2 y16 y15 h17) fun y18 h19 =>
thn (fieldAtH 0 y16) fun y20 =>
thn (fieldAtH 0 y20) fun y21 =>
thn (loadH none h19 y21) fun y22 =>
some (y22, h19))
(thn (assertD 144 (.agg [(bD false)]) true x2) fun y23 =>
thn (extractD y23 1) fun y24 =>
thn (extractD y23 0) fun y25 =>
condK y24
(thnH (allocH 144 [(bD false)] h3) fun y26 h27 =>
thnH (setH 1 y26 y25 h27) fun y28 h29 =>
thn (fieldAtH 0 y26) fun y30 =>
thn (loadH none h29 y30) fun y31 =>
condK y31
(thn (fieldAtH 1 y2) fun y32 =>
thn (loadH none h29 y32) fun y33 =>
thn (fieldAtH 1 y0) fun y34 =>
thn (loadH none h29 y34) fun y35 =>
thn (lenH .sl y35) fun y36 =>
thn (binK .int .lss y33 y36) fun y37 =>
condK y37
(thn (fieldAtH 1 y0) fun y38 =>
thn (loadH none h29 y38) fun y39 =>
thn (fieldAtH 1 y2) fun y40 =>
thn (loadH none h29 y40) fun y41 =>
thn (fieldAtH 1 y2) fun y42 =>
thn (loadH none h29 y42) fun y43 =>
thn (binK .int .add y43 (iD 1)) fun y44 =>
thn (cutH 1 y39 (some y41) (some y44)) fun y45 =>
some (y45, h29))
(some ((.v (.slice none 0 0)), h29)))
(some ((.v (.slice none 0 0)), h29)))
(thnH (rowH 3 1 1 [(iD 0)] [(0, (iD 2))] h3) fun y46 h47 =>
thnH (G_Repeat [y46, x3] h47) fun y48 h49 =>
some (y48, h49))))) := by kernel_rfl

end Go.Proofs.Ytalehbmgbjiigaa
end

section
namespace Go.Proofs.Ytalehbmgbjiigaa
open Go.RowKit
set_option linter.unusedVariables false
set_option linter.unusedSimpArgs false

def askV (vs : List Int) (x : Nd) (n : Nat) : RuleT → List Int
  | .plain ks _ => ks
  | .array ks _ => ks
  | .scalar true => if x.2.toNat < vs.length then [vs.getD x.2.toNat 0] else []
  | .scalar false => []
  | .none => List.replicate n 2
def F_asked : List D → Option D := F4 progT ndT ruleT intT fun p x r n => if numOk r x ∧ 0 ≤ n ∧ n ≤ 4000000 then some (intsD (askV p.vars x n.toNat r)) else none
theorem mapM_derefI (H : Heap) (n : Nat) (l : List Int) : (l.map iD).mapM (derefN H n) = some (l.map iD) := by
  induction l with
  | nil => rfl
  | cons a r ih => rw [List.map_cons, List.mapM_cons, derefN_pure H n _ rfl, ih]; rfl
theorem chunks_ints (l : List Int) : chunks 1 l.length (l.map iD) = l.map oneI := by
  induction l with
  | nil => rfl
  | cons a r ih => simp [chunks, ih, oneI]
/-- A row of ints, by value. -/
theorem deref_ints (H : Heap) (n id : Nat) (t : TypeId) (l : List Int) (h : H[id]? = some (.cells t 1 (l.map iD))) : derefN H (n + 1) (.hs id l.length) = some (intsD l) := by
  simp only [derefN, h]
  rw [if_pos (by simp), List.take_of_length_le (by simp), mapM_derefI, Option.map_some, chunks_ints]; rfl
theorem outD_row (H : Heap) (id : Nat) (t : TypeId) (l : List Int) (k : Nat) (hk : k = l.length) (h : H[id]? = some (.cells t 1 (l.map iD))) : outD (some (.hs id k, H)) = some (intsD l) := by
  subst hk; exact deref_ints H 8 id t l h
theorem C_asked : CallOk Try.prog 120 F_asked := call4 (kp := kp_kinds_asked) T09c_ok mixed Try.func120 (by kernel_rfl) (by decide) fun p x r n d h => by
  split at h
  case isFalse => cases h
  rename_i hg
  cases h
  refine ⟨0, ?_⟩
  show ∃ d', outD (textK _ _ _ _ _ [progD p, .agg (nodeD x), r.enc, iD n] []) = some d' ∧ _
  rw [sh_kinds_asked]
  have fin : ∀ l : List Int, (o : Option D) → o = some (intsD l) → ∃ d', o = some d' ∧ Imp d' (intsD l) := fun l o h => ⟨_, h, Imp.refl _⟩
  cases r with
  | plain ks is => exact fin ks _ (by simp [RuleT.enc, assertD, extractD, tupOf, allocH, newH, setH, storeH, cellsD])
  | array ks is => exact fin ks _ (by simp [RuleT.enc, assertD, extractD, tupOf, allocH, newH, setH, storeH, cellsD])
  | scalar b =>
    cases b with
    | false =>
      refine ⟨.v (.slice none 0 0), by simp [RuleT.enc, assertD, extractD, tupOf, allocH, newH, setH, storeH, cellsD], Imp.nil 1⟩
    | true =>
      have hx := hg.1 rfl
      by_cases h1 : x.2.toNat < p.vars.length
      · have h2 : x.2 < (p.vars.length : Int) := by omega
        obtain ⟨k, hk⟩ := Int.eq_ofNat_of_zero_le hx.1
        have e1 := intD_add (k : Int) 1 (by omega) (by omega)
        have e2 := cut_ints p.vars k (k + 1) (by omega) (by omega)
        rw [Int.natCast_add, Int.natCast_one] at e2
        have e3 : (p.vars.take (k + 1)).drop k = [p.vars.getD x.2.toNat 0] := by
          rw [hk, Int.toNat_natCast, getD_in _ _ _ (by omega), List.take_succ_eq_append_getElem (by omega), List.drop_left' (by simp; omega)]
        refine fin _ _ ?_
        have h3 : (k : Int) < p.vars.length := by omega
        simp [RuleT.enc, assertD, extractD, tupOf, allocH, newH, setH, storeH, cellsD, hk, h3, e1, e2]
        rw [e3]
        simp [askV, h1]
      · have h2 : ¬ x.2 < (p.vars.length : Int) := by omega
        refine ⟨.v (.slice none 0 0), by simp [RuleT.enc, assertD, extractD, tupOf, allocH, newH, setH, storeH, cellsD, h2], ?_⟩
        simp only [askV, if_neg h1]
        exact Imp.nil 1
  | none =>
    refine fin _ _ ?_
    have e1 : ∀ H : Heap, rowH 3 1 1 [iD 0] [(0, iD 2)] H = some (.hs H.length 1, H ++ [.cells 3 1 [iD 2]]) := fun H => rfl
    have e2 : G_Repeat [.hs 2 1, iD n] [.cells 25 3 [iD p.params, intsD p.vars, nodesD p.body], .cells 46 2 [iD x.1, iD x.2], .cells 3 1 [iD 2]] =
        some (.hs 3 n.toNat, [.cells 25 3 [iD p.params, intsD p.vars, nodesD p.body], .cells 46 2 [iD x.1, iD x.2], .cells 3 1 [iD 2], .cells 3 1 (List.replicate n.toNat (iD 2))]) := by
      simp [G_Repeat, hg.2]
    simp [RuleT.enc, assertD, extractD, tupOf, e1]
    rw [e2]
    simp only [thnH_some, askV]
    exact outD_row _ 3 3 (List.replicate n.toNat 2) n.toNat (by simp) (by simp)

def fs09d : List Entry := (120, true, liftF F_asked) :: fs09c
theorem fs09d_ok : ∀ p ∈ fs09d, EntryOk Try.prog p := entries_cons (entry_lift C_asked) <| fs09c_ok
/-- The functions that go down: by how deep they are known. -/
def T09d : Tab := ⟨fs09d, noYl⟩
theorem T09d_ok : TabOk Try.prog T09d := tabOk_of fs09d_ok

/-- The rule of a tag. -/
def findR : List Int → List RuleT → Int → Option RuleT
  | a :: r, v :: s, k => if k = a then some v else findR r s k
  | _, _, _ => none
def ruleOf (t : Int) : RuleT := (findR ruleKs ruleRs t).getD .none
theorem findM_map : ∀ (ks : List Int) (rs : List RuleT) (k : Int), findM ks (rs.map RuleT.enc) k = (findR ks rs k).map RuleT.enc
  | [], rs, k => by cases rs <;> rfl
  | a :: r, [], k => rfl
  | a :: r, v :: s, k => by
    simp only [List.map_cons, findM, findR]
    split
    · rfl
    · exact findM_map r s k
theorem look_rules (t : Int) (H : Heap) : lookH (.v .nilIface) false H rulesD (iD t) = some (ruleOf t).enc := by
  have := findM_map ruleKs ruleRs t
  simp only [lookH, mapOf, rulesD, Option.bind_some, int64Of, this, ruleOf]
  cases findR ruleKs ruleRs t <;> rfl

def inner (t : Int) : Bool := decide (t = 23 ∨ t = 24)
/-- A node's kind, by the kinds of those below. -/
def kindV : Nat → List Int → List Nd → Int → Int
  | 0, _, _, _ => -1
  | f + 1, vs, l, i =>
    if endv l i < 0 then -1 else
    if ruleKind vs (nodeAt l i).2 (ruleOf (nodeAt l i).1) = -1 ∨ (askV vs (nodeAt l i) (kidsv l i).length (ruleOf (nodeAt l i).1)).length ≠ (kidsv l i).length then -1 else
    if (List.range (kidsv l i).length).all (fun j => decide (kindV f vs l ((kidsv l i).getD j 0) = (askV vs (nodeAt l i) (kidsv l i).length (ruleOf (nodeAt l i).1)).getD j 0) && !(inner (nodeAt l i).1 && decide (0 < j) && !decide ((nodeAt l ((kidsv l i).getD j 0)).1 = 20)))
      then ruleKind vs (nodeAt l i).2 (ruleOf (nodeAt l i).1) else -1
end Go.Proofs.Ytalehbmgbjiigaa
end

section
namespace Go.Proofs.Ytalehbmgbjiigaa
open Go.RowKit
set_option linter.unusedVariables false
set_option linter.unusedSimpArgs false

/-- A program with the rules. -/
def chkC (p : Pg) : List D := [iD p.params, intsD p.vars, nodesD p.body, rulesD]
def asChk : D → Option Pg
  | .agg [a, b, c, m] => (isRules m).bind fun _ => asProgC [a, b, c]
  | _ => none
theorem mapM_enc {α : Type} (A : Dec α) (l : List α) : (l.map A.enc).mapM A.dec = some l := by
  induction l with
  | nil => rfl
  | cons a r ih => rw [List.map_cons, List.mapM_cons, A.back, ih]; rfl
theorem isRules_rules : isRules rulesD = some () := by
  have : (ruleRs.map RuleT.enc).mapM RuleT.dec = some ruleRs := mapM_enc ruleT ruleRs
  unfold isRules rulesD
  simp only [this, and_self, if_true]
def chkT : Dec Pg := ⟨fun p => .agg (chkC p), asChk, fun p => by simp [asChk, chkC, isRules_rules, asProgC], fun d p h => by
  unfold asChk at h
  split at h
  · obtain ⟨_, h1, h⟩ := Option.bind_eq_some_iff.1 h
    refine Imp.agg ?_
    have := imp_progC h
    simp only [progC, chkC] at this ⊢
    cases this with | cons a1 r => cases r with | cons a2 r => cases r with | cons a3 r => exact .cons a1 (.cons a2 (.cons a3 (.cons (imp_rules h1) .nil)))
  · cases h⟩
def ofOk (p : Pg) (i : Int) : Bool := decide (0 ≤ endv p.body i ∧ p.body.length ≤ 3000000)
def F_of (m : Nat) : List D → Option D := F2 chkT intT fun p i => if ofOk p i && decide (p.body.length < i.toNat + m) then some (iD (kindV m p.vars p.body i)) else none
def fs09e (m : Nat) : List Entry := (83, true, liftF (F_of m)) :: fs09d
def T09e (m : Nat) : Tab := ⟨fs09e m, noYl⟩
end Go.Proofs.Ytalehbmgbjiigaa
end

section
namespace Go.Proofs.Ytalehbmgbjiigaa
open Go.RowKit
set_option linter.unusedVariables false
set_option maxRecDepth 100000
variable (m : Nat)

def kp_kinds_checker__of : List Nat := [2, 4, 5, 8, 9, 52, 53, 54]
theorem sh_kinds_checker__of (n : Nat) (x0 x1 : D) (h : Heap) : textK Try.prog (T09e m) kp_kinds_checker__of n Try.f83 [x0, x1] h =
(thnH (boxH 103 x0 h) fun y0 h1 =>
thn (fieldAtH 0 y0) fun y2 =>
thn (fieldAtH 2 y2) fun y3 =>
thn (loadH none h1 y3) fun y4 =>
thn (idxH 2 y4 x1) fun y5 =>
thn (loadH (some 2) h1 y5) fun y6 =>
thnH (allocH 46 [(iD 0), (iD 0)] h1) fun y7 h8 =>
thnH (setH 2 y7 y6 h8) fun y9 h10 =>
thn (fieldAtH 0 y0) fun y11 =>
thn (fieldAtH 2 y11) fun y12 =>
thn (loadH none h10 y12) fun y13 =>
thnH (liftF F_Kids [y13, x1] h10) fun y14 h15 =>
thn (fieldAtH 3 y0) fun y16 =>
thn (loadH none h15 y16) fun y17 =>
thn (fieldAtH 0 y7) fun y18 =>
thn (loadH none h15 y18) fun y19 =>
thn (lookH (.v .nilIface) false h15 y17 y19) fun y20 =>
thn (binN true .ifc .neq y20 (.v .nilIface)) fun y21 =>
condK y21
(thn (fieldAtH 0 y0) fun y22 =>
thn (loadH (some 3) h15 y22) fun y23 =>
thn (loadH (some 2) h15 y7) fun y24 =>
thnH (callMeth Try.prog (T09e m) y20 "offshoot/kinds.kind" [y23, y24] h15) fun y25 h26 =>
thn (fieldAtH 0 y0) fun y27 =>
thn (loadH (some 3) h26 y27) fun y28 =>
thn (loadH (some 2) h26 y7) fun y29 =>
thn (lenH .sl y14) fun y30 =>
thnH (liftF F_asked [y28, y29, y20, y30] h26) fun y31 h32 =>
thn (binK .int .eql y25 (iD (-1))) fun y33 =>
condK y33
(some ((iD (-1)), h32))
(thn (lenH .sl y31) fun y34 =>
thn (lenH .sl y14) fun y35 =>
thn (binK .int .neq y34 y35) fun y36 =>
condK y36
(some ((iD (-1)), h32))
(thn (lenH .sl y14) fun y37 =>
leaveK (loopF Try.prog (T09e m) kp_kinds_checker__of n Try.f83 0 [y0, (iD 0), y7, y25, y31, y14, y37, (iD 0)] h32) (fun j38 s39 h40 =>
condN j38 0
(some ((s39.getD 3 .undef), h40))
(none)) (fun s39 h40 =>
some ((s39.getD 1 .undef), h40)))))
(thn (fieldAtH 0 y0) fun y41 =>
thn (loadH (some 3) h15 y41) fun y42 =>
thn (loadH (some 2) h15 y7) fun y43 =>
thn (lenH .sl y14) fun y44 =>
thnH (liftF F_asked [y42, y43, y20, y44] h15) fun y45 h46 =>
thn (binK .int .eql (iD 2) (iD (-1))) fun y47 =>
condK y47
(some ((iD (-1)), h46))
(thn (lenH .sl y45) fun y48 =>
thn (lenH .sl y14) fun y49 =>
thn (binK .int .neq y48 y49) fun y50 =>
condK y50
(some ((iD (-1)), h46))
(thn (lenH .sl y14) fun y51 =>
leaveK (loopF Try.prog (T09e m) kp_kinds_checker__of n Try.f83 0 [y0, (iD 0), y7, (iD 2), y45, y14, y51, (iD 0)] h46) (fun j52 s53 h54 =>
condN j52 0
(some ((s53.getD 3 .undef), h54))
(none)) (fun s53 h54 =>
some ((s53.getD 1 .undef), h54)))))) := by kernel_rfl

theorem st_kinds_checker__of_0 (n : Nat) (s0 s1 s2 s3 s4 s5 s6 s7 : D) (h : Heap) : stepF Try.prog (T09e m) kp_kinds_checker__of n Try.f83 0 [s0, s1, s2, s3, s4, s5, s6, s7] h =
(thn (binK .int .lss s7 s6) fun y0 =>
condK y0
(thn (idxH 1 s5 s7) fun y1 =>
thn (loadH none h y1) fun y2 =>
thn (loadH (some 4) h s0) fun y3 =>
thnH (liftF (F_of m) [y3, y2] h) fun y4 h5 =>
thn (idxH 1 s4 s7) fun y6 =>
thn (loadH none h5 y6) fun y7 =>
thn (binK .int .neq y4 y7) fun y8 =>
condK y8
(some (.ret, [s0, (iD (-1)), s2, s3, s4, s5, s6, s7], h5))
(thn (fieldAtH 0 s2) fun y9 =>
thn (loadH none h5 y9) fun y10 =>
thn (binK .int .eql y10 (iD 23)) fun y11 =>
condK y11
(thn (binK .int .gtr s7 (iD 0)) fun y12 =>
condK y12
(thn (fieldAtH 0 s0) fun y13 =>
thn (fieldAtH 2 y13) fun y14 =>
thn (loadH none h5 y14) fun y15 =>
thn (idxH 2 y15 y2) fun y16 =>
thn (fieldAtH 0 y16) fun y17 =>
thn (loadH none h5 y17) fun y18 =>
thn (binK .int .neq y18 (iD 20)) fun y19 =>
condK y19
(some (.ret, [s0, (iD (-1)), s2, s3, s4, s5, s6, s7], h5))
(thn (binK .int .add s7 (iD 1)) fun y20 =>
some (.normal, [s0, s1, s2, s3, s4, s5, s6, y20], h5)))
(thn (binK .int .add s7 (iD 1)) fun y21 =>
some (.normal, [s0, s1, s2, s3, s4, s5, s6, y21], h5)))
(thn (fieldAtH 0 s2) fun y22 =>
thn (loadH none h5 y22) fun y23 =>
thn (binK .int .eql y23 (iD 24)) fun y24 =>
condK y24
(thn (binK .int .gtr s7 (iD 0)) fun y25 =>
condK y25
(thn (fieldAtH 0 s0) fun y26 =>
thn (fieldAtH 2 y26) fun y27 =>
thn (loadH none h5 y27) fun y28 =>
thn (idxH 2 y28 y2) fun y29 =>
thn (fieldAtH 0 y29) fun y30 =>
thn (loadH none h5 y30) fun y31 =>
thn (binK .int .neq y31 (iD 20)) fun y32 =>
condK y32
(some (.ret, [s0, (iD (-1)), s2, s3, s4, s5, s6, s7], h5))
(thn (binK .int .add s7 (iD 1)) fun y33 =>
some (.normal, [s0, s1, s2, s3, s4, s5, s6, y33], h5)))
(thn (binK .int .add s7 (iD 1)) fun y34 =>
some (.normal, [s0, s1, s2, s3, s4, s5, s6, y34], h5)))
(thn (binK .int .add s7 (iD 1)) fun y35 =>
some (.normal, [s0, s1, s2, s3, s4, s5, s6, y35], h5)))))
(some ((.exit 0), [s0, s1, s2, s3, s4, s5, s6, s7], h))) := by kernel_rfl

end Go.Proofs.Ytalehbmgbjiigaa
end

section
namespace Go.Proofs.Ytalehbmgbjiigaa
open Go.RowKit
set_option linter.unusedVariables false
set_option linter.unusedSimpArgs false

theorem ar_num (x : Nd) (h : 0 ≤ ar x) (h1 : x.1 ≠ 1) : 0 ≤ x.2 ∧ x.2 ≤ 200 := by
  unfold ar at h
  rw [if_neg h1] at h
  split at h
  · omega
  · rename_i hh
    refine ⟨by omega, ?_⟩
    have hl : (lim x.1 x.2).1 ≤ 200 := by
      unfold lim
      repeat' split
      all_goals simp
    omega
theorem ruleOf_num (x : Nd) (h : 0 ≤ ar x) : numOk (ruleOf x.1) x := by
  intro hn
  have h1 : x.1 ≠ 1 := by
    intro e
    rw [e] at hn
    cases hn
  have := ar_num x h h1
  omega
theorem meth_kind (m : Nat) (r : RuleT) (hr : r ≠ .none) (p : Pg) (x : Nd) (hn : numOk r x) (H : Heap) : callMeth Try.prog (T09e m) r.enc "offshoot/kinds.kind" [progD p, .agg (nodeD x)] H = some (iD (ruleKind p.vars x.2 r), H) := by
  cases r with
  | none => exact absurd rfl hr
  | plain ks is =>
    have hm : methD Try.prog 142 "offshoot/kinds.kind" = some 189 := by kernel_rfl
    simp only [callMeth, RuleT.enc, hm, Option.bind_some]
    show liftF (F_kindOf 142) [.agg [intsD ks, iD is], progD p, .agg (nodeD x)] H = _
    rw [liftF_pure _ _ _ rfl]
    simp [F_kindOf, ruleIn, RuleT.dec, numOk, needN]
  | array ks is =>
    have hm : methD Try.prog 146 "offshoot/kinds.kind" = some 191 := by kernel_rfl
    simp only [callMeth, RuleT.enc, hm, Option.bind_some]
    show liftF (F_kindOf 146) [.agg [intsD ks, iD is], progD p, .agg (nodeD x)] H = _
    rw [liftF_pure _ _ _ rfl]
    have := hn rfl
    simp [F_kindOf, ruleIn, RuleT.dec, numOk, needN, this]
  | scalar b =>
    have hm : methD Try.prog 144 "offshoot/kinds.kind" = some 190 := by kernel_rfl
    simp only [callMeth, RuleT.enc, hm, Option.bind_some]
    show liftF (F_kindOf 144) [.agg [bD b], progD p, .agg (nodeD x)] H = _
    rw [liftF_pure _ _ _ rfl]
    have := hn rfl
    simp [F_kindOf, ruleIn, RuleT.dec, numOk, needN, this]
theorem asked_pure (p : Pg) (x : Nd) (r : RuleT) (n : Nat) (hn : numOk r x) (hb : n ≤ 4000000) (H : Heap) : liftF F_asked [progD p, .agg (nodeD x), r.enc, iD n] H = some (intsD (askV p.vars x n r), H) := by
  rw [liftF_pure _ _ _ (by cases r <;> rfl)]
  have : F_asked [progD p, .agg (nodeD x), r.enc, iD n] = _ := f4_enc (A := progT) (B := ndT) (C := ruleT) (E := intT) _ p x r (n : Int)
  rw [this, if_pos ⟨hn, by omega, by omega⟩]
  simp
theorem kids_pure (l : List Nd) (i : Int) (h : l.length ≤ 3000000) (H : Heap) : liftF F_Kids [nodesD l, iD i] H = some (intsD (kidsv l i), H) := by
  rw [liftF_pure _ _ _ rfl]; simp [F_Kids, h]
theorem ruleNil (r : RuleT) : binN true .ifc .neq r.enc (.v .nilIface) = some (bD (decide (r ≠ .none))) := by
  cases r <;> rfl
theorem kid_facts (l : List Nd) (k : Nat) (j : Nat) (hj : j < (kidsv l k).length) : (k : Int) < (kidsv l k)[j] ∧ 0 ≤ endv l (kidsv l k)[j] ∧ endv l (kidsv l k)[j] ≤ endv l k ∧ (kidsv l k)[j].toNat < l.length := by
  have hm := List.getElem_mem hj
  obtain ⟨h, c, hc, e⟩ := mem_kidsv l k _ hm
  have := kth_range l k h c hc
  rw [← e] at this
  have h2 := endv_in l _ this.2.2.1
  exact ⟨this.1, this.2.2.1, this.2.2.2, h2.2⟩

def ofAt (m : Nat) (p : Pg) (x : Nd) (ks w : List Int) (j : Nat) : Bool := decide (kindV m p.vars p.body (ks.getD j 0) = w.getD j 0) && !(inner x.1 && decide (0 < j) && !decide ((nodeAt p.body (ks.getD j 0)).1 = 20))
def ofH (p : Pg) (x : Nd) : Heap := [.cells 103 4 [iD p.params, intsD p.vars, nodesD p.body, rulesD], .cells 46 2 [iD x.1, iD x.2]]
theorem of_loop (m N : Nat) (p : Pg) (x : Nd) (ks w : List Int) (is : Int)
    (hof : ∀ (j : Nat) (hj : j < ks.length), liftF (F_of m) [.agg [iD p.params, intsD p.vars, nodesD p.body, rulesD], iD ks[j]] (ofH p x) = some (iD (kindV m p.vars p.body ks[j]), ofH p x))
    (hkid : ∀ (j : Nat) (hj : j < ks.length), 0 ≤ ks[j] ∧ ks[j].toNat < p.body.length) (hks : ks.length ≤ 200) (hN : ks.length < N) (hwl : w.length = ks.length) :
    ((∀ i, 0 ≤ i → i < ks.length → ofAt m p x ks w i = true) ∧ loopF Try.prog (T09e m) kp_kinds_checker__of N Try.f83 0 [.hp 0 0, iD 0, .hp 1 0, iD is, intsD w, intsD ks, iD ks.length, iD ((0 : Nat) : Int)] (ofH p x) = some (.exit 0, [.hp 0 0, iD 0, .hp 1 0, iD is, intsD w, intsD ks, iD ks.length, iD ks.length], ofH p x)) ∨
    ∃ i, 0 ≤ i ∧ i < ks.length ∧ ofAt m p x ks w i = false ∧ (∀ j, 0 ≤ j → j < i → ofAt m p x ks w j = true) ∧ loopF Try.prog (T09e m) kp_kinds_checker__of N Try.f83 0 [.hp 0 0, iD 0, .hp 1 0, iD is, intsD w, intsD ks, iD ks.length, iD ((0 : Nat) : Int)] (ofH p x) = some (.ret, [.hp 0 0, iD (-1), .hp 1 0, iD is, intsD w, intsD ks, iD ks.length, iD i], ofH p x) := by
  have load4 : loadH (some 4) (ofH p x) (.hp 0 0) = some (.agg [iD p.params, intsD p.vars, nodesD p.body, rulesD]) := rfl
  have load0 : loadH none (ofH p x) (.hp 1 0) = some (iD x.1) := rfl
  have load2 : loadH none (ofH p x) (.hp 0 2) = some (nodesD p.body) := rfl
  have split3 : ∀ (j : Nat) (hj : j < ks.length) (hw : j < w.length), ofAt m p x ks w j = (decide (kindV m p.vars p.body ks[j] = w[j]) && !(inner x.1 && decide (0 < j) && !decide ((p.body[ks[j].toNat]'(hkid j hj).2).1 = 20))) := by
    intro j hj hw
    simp only [ofAt, getD_in _ _ _ hj, getD_in _ _ _ hw, nodeAt, getD_in _ _ _ (hkid j hj).2]
  refine loopF_scan (fun j => [.hp 0 0, iD 0, .hp 1 0, iD is, intsD w, intsD ks, iD ks.length, iD j]) (ofH p x) ks.length (ofAt m p x ks w) (fun i => (.ret, [.hp 0 0, iD (-1), .hp 1 0, iD is, intsD w, intsD ks, iD ks.length, iD i], ofH p x)) _ (fun i => by intro e; cases e) (by intro e; cases e) 0 N (Nat.zero_le _) (by omega) ?_ ?_ ?_
  · intro j _ hj hp
    have hw : j < w.length := by omega
    have e1 := intD_add (j : Int) 1 (by omega) (by omega)
    have h1 : (j : Int) < ks.length := by omega
    obtain ⟨k0, k1⟩ := hkid j hj
    rw [split3 j hj hw, Bool.and_eq_true, decide_eq_true_eq] at hp
    obtain ⟨hp1, hp2⟩ := hp
    rw [st_kinds_checker__of_0]
    by_cases h23 : x.1 = 23
    · by_cases hj0 : 0 < j
      · have h20 : (p.body[ks[j].toNat]).1 = 20 := by simpa [inner, h23, hj0] using hp2
        simp [-loadH_hp, h1, idx_intsN _ _ hj, idx_intsN _ _ hw, load4, load0, load2, hof j hj, hp1, h23, e1, hj0, idx_nodes _ _ k0 k1, h20]
      · simp [-loadH_hp, h1, idx_intsN _ _ hj, idx_intsN _ _ hw, load4, load0, load2, hof j hj, hp1, h23, e1, hj0]
    · by_cases h24 : x.1 = 24
      · by_cases hj0 : 0 < j
        · have h20 : (p.body[ks[j].toNat]).1 = 20 := by simpa [inner, h24, hj0] using hp2
          simp [-loadH_hp, h1, idx_intsN _ _ hj, idx_intsN _ _ hw, load4, load0, load2, hof j hj, hp1, h23, h24, e1, hj0, idx_nodes _ _ k0 k1, h20]
        · simp [-loadH_hp, h1, idx_intsN _ _ hj, idx_intsN _ _ hw, load4, load0, load2, hof j hj, hp1, h23, h24, e1, hj0]
      · simp [-loadH_hp, h1, idx_intsN _ _ hj, idx_intsN _ _ hw, load4, load0, load2, hof j hj, hp1, h23, h24, e1]
  · intro j _ hj hp
    have hw : j < w.length := by omega
    have h1 : (j : Int) < ks.length := by omega
    obtain ⟨k0, k1⟩ := hkid j hj
    rw [split3 j hj hw] at hp
    rw [st_kinds_checker__of_0]
    by_cases hq : kindV m p.vars p.body ks[j] = w[j]
    · simp only [hq, decide_true, Bool.true_and, Bool.not_eq_false', Bool.and_eq_true, decide_eq_true_eq, Bool.not_eq_true', decide_eq_false_iff_not] at hp
      obtain ⟨⟨hp1, hp2⟩, hp3⟩ := hp
      have hj0 : 0 < j := hp2
      by_cases h23 : x.1 = 23
      · simp [-loadH_hp, h1, idx_intsN _ _ hj, idx_intsN _ _ hw, load4, load0, load2, hof j hj, hq, h23, hj0, idx_nodes _ _ k0 k1, hp3]
      · have h24 : x.1 = 24 := by simpa [inner, h23] using hp1
        simp [-loadH_hp, h1, idx_intsN _ _ hj, idx_intsN _ _ hw, load4, load0, load2, hof j hj, hq, h23, h24, hj0, idx_nodes _ _ k0 k1, hp3]
    · simp [-loadH_hp, h1, idx_intsN _ _ hj, idx_intsN _ _ hw, load4, load0, load2, hof j hj, hq]
  · rw [st_kinds_checker__of_0]
    simp
theorem C_of : ∀ m : Nat, CallOk Try.prog 83 (F_of m)
  | 0 => ⟨⟨_, Try.func83, by decide, rfl⟩, fun ds d hF => by
      exfalso
      unfold F_of F2 at hF
      split at hF
      · obtain ⟨p, _, hF⟩ := Option.bind_eq_some_iff.1 hF
        obtain ⟨i, _, hF⟩ := Option.bind_eq_some_iff.1 hF
        simp only at hF
        split at hF
        · rename_i hc
          simp only [ofOk, Bool.and_eq_true, decide_eq_true_eq] at hc
          have := (endv_in p.body i hc.1.1).2
          omega
        · cases hF
      · cases hF⟩
  | m + 1 => by
    have hT : TabOk Try.prog (T09e m) := tabOk_of (entries_cons (entry_lift (C_of m)) fs09d_ok)
    refine call2 (kp := kp_kinds_checker__of) hT mixed Try.func83 (by kernel_rfl) (by decide) fun p i d h => ?_
    split at h
    case isFalse => cases h
    rename_i hc
    cases h
    simp only [ofOk, Bool.and_eq_true, decide_eq_true_eq] at hc
    obtain ⟨⟨hE, hlen⟩, hm⟩ := hc
    obtain ⟨h0, hil⟩ := endv_in p.body i hE
    obtain ⟨k, rfl⟩ := Int.eq_ofNat_of_zero_le h0
    have hk : k < p.body.length := by simpa using hil
    have har : 0 ≤ ar p.body[k] := by have := endv_ar p.body k hE; rwa [arAt_in _ _ hk] at this
    have hn := ruleOf_num p.body[k] har
    have hna : nodeAt p.body k = p.body[k] := by unfold nodeAt; rw [Int.toNat_natCast, getD_in _ _ _ hk]
    have hkl := kidsv_len p.body k
    have hkid : ∀ (j : Nat) (hj : j < (kidsv p.body k).length), 0 ≤ (kidsv p.body k)[j] ∧ (kidsv p.body k)[j].toNat < p.body.length := fun j hj => by
      have := kid_facts p.body k j hj
      exact ⟨by omega, this.2.2.2⟩
    have hof : ∀ (j : Nat) (hj : j < (kidsv p.body k).length), liftF (F_of m) [.agg [iD p.params, intsD p.vars, nodesD p.body, rulesD], iD (kidsv p.body k)[j]] (ofH p p.body[k]) = some (iD (kindV m p.vars p.body (kidsv p.body k)[j]), ofH p p.body[k]) := by
      intro j hj
      have hf := kid_facts p.body k j hj
      rw [liftF_pure _ _ _ rfl]
      have : F_of m [.agg [iD p.params, intsD p.vars, nodesD p.body, rulesD], iD (kidsv p.body k)[j]] = _ := f2_enc (A := chkT) (B := intT) _ p (kidsv p.body k)[j]
      rw [this, if_pos]
      · rfl
      · simp only [ofOk, Bool.and_eq_true, decide_eq_true_eq]
        refine ⟨⟨hf.2.1, hlen⟩, ?_⟩
        have := hf.1
        simp only [Int.toNat_natCast] at hm
        omega
    have hkind : kindV (m + 1) p.vars p.body k = if ruleKind p.vars p.body[k].2 (ruleOf p.body[k].1) = -1 ∨ (askV p.vars p.body[k] (kidsv p.body k).length (ruleOf p.body[k].1)).length ≠ (kidsv p.body k).length then -1 else
        if (List.range (kidsv p.body k).length).all (ofAt m p p.body[k] (kidsv p.body k) (askV p.vars p.body[k] (kidsv p.body k).length (ruleOf p.body[k].1))) then ruleKind p.vars p.body[k].2 (ruleOf p.body[k].1) else -1 := by
      rw [kindV, if_neg (by omega)]
      simp only [hna]
      rfl
    have hask := fun H => asked_pure p p.body[k] (ruleOf p.body[k].1) (kidsv p.body k).length hn (by omega) H
    have hmeth := fun (hr : ruleOf p.body[k].1 ≠ .none) H => meth_kind m (ruleOf p.body[k].1) hr p p.body[k] hn H
    have hloop := of_loop m ((kidsv p.body k).length + 1) p p.body[k] (kidsv p.body k) (askV p.vars p.body[k] (kidsv p.body k).length (ruleOf p.body[k].1))
    refine ⟨(kidsv p.body k).length + 1, _, ?_, Imp.refl _⟩
    show outD (textK _ _ _ _ _ [.agg (chkC p), iD (k : Int)] []) = _
    rw [sh_kinds_checker__of, hkind]
    rw [box_agg _ _ _ rfl]
    have ea : ∀ o : HO, allocH 46 [iD 0, iD 0] [o] = some (.hp 1 0, [o, .cells 46 2 [iD 0, iD 0]]) := fun o => rfl
    have es : ∀ o : HO, setH 2 (.hp 1 0) (.agg (nodeD p.body[k])) [o, .cells 46 2 [iD 0, iD 0]] = some (.v undef, [o, .cells 46 2 [iD p.body[k].1, iD p.body[k].2]]) := fun o => rfl
    have ep : D.agg [iD p.params, intsD p.vars, nodesD p.body] = progD p := rfl
    have en : D.agg [iD p.body[k].1, iD p.body[k].2] = .agg (nodeD p.body[k]) := rfl
    have hlook := look_rules p.body[k].1
    have hlk : ∀ a b : Nat, ((a : Int) = b) = (a = b) := fun a b => by simp only [eq_iff_iff]; omega
    generalize ruleOf p.body[k].1 = r at hn hkind hask hmeth hloop hlook ⊢
    have hall1 : (∀ i, 0 ≤ i → i < (kidsv p.body k).length → ofAt m p p.body[k] (kidsv p.body k) (askV p.vars p.body[k] (kidsv p.body k).length r) i = true) → (List.range (kidsv p.body k).length).all (ofAt m p p.body[k] (kidsv p.body k) (askV p.vars p.body[k] (kidsv p.body k).length r)) = true := fun q => by
      rw [List.all_eq_true]; intro i hi; exact q i (Nat.zero_le _) (by simpa using hi)
    have hall2 : ∀ i, i < (kidsv p.body k).length → ofAt m p p.body[k] (kidsv p.body k) (askV p.vars p.body[k] (kidsv p.body k).length r) i = false → (List.range (kidsv p.body k).length).all (ofAt m p p.body[k] (kidsv p.body k) (askV p.vars p.body[k] (kidsv p.body k).length r)) = false := fun i hi q => by
      rw [Bool.eq_false_iff]; intro e; rw [List.all_eq_true] at e
      have := e i (by simpa using hi)
      rw [q] at this; cases this
    have hr := fun is hl => hloop is hof hkid hkl (by omega) hl
    simp only [ofH, cast0] at hr
    generalize askV p.vars p.body[k] (kidsv p.body k).length r = ww at hall1 hall2 hask hr ⊢
    by_cases hn0 : r = .none
    · subst hn0
      have h2 : ruleKind p.vars p.body[k].2 RuleT.none = 2 := rfl
      by_cases hl : ww.length = (kidsv p.body k).length
      · rcases hr 2 hl with ⟨q1, q2⟩ | ⟨i, _, q1, q2, q3, q4⟩
        · have hall := hall1 q1
          simp [chkC, idx_nodesN _ _ hk, ea, es, kids_pure _ _ hlen, hlook, ruleNil, ep, en, h2, hask, hl, q2, hall]
        · have hall := hall2 i q1 q2
          simp [chkC, idx_nodesN _ _ hk, ea, es, kids_pure _ _ hlen, hlook, ruleNil, ep, en, h2, hask, hl, q4, hall]
      · simp [chkC, idx_nodesN _ _ hk, ea, es, kids_pure _ _ hlen, hlook, ruleNil, ep, en, h2, hask, hl, hlk]
    · have hm' := hmeth hn0
      generalize ruleKind p.vars p.body[k].2 r = is at hm' ⊢
      by_cases his : is = -1
      · simp [chkC, idx_nodesN _ _ hk, ea, es, kids_pure _ _ hlen, hlook, ruleNil, ep, en, hask, hm', hn0, his]
      · by_cases hl : ww.length = (kidsv p.body k).length
        · rcases hr is hl with ⟨q1, q2⟩ | ⟨i, _, q1, q2, q3, q4⟩
          · have hall := hall1 q1
            simp [chkC, idx_nodesN _ _ hk, ea, es, kids_pure _ _ hlen, hlook, ruleNil, ep, en, hask, hm', hn0, his, hl, q2, hall]
          · have hall := hall2 i q1 q2
            simp [chkC, idx_nodesN _ _ hk, ea, es, kids_pure _ _ hlen, hlook, ruleNil, ep, en, hask, hm', hn0, his, hl, q4, hall]
        · simp [chkC, idx_nodesN _ _ hk, ea, es, kids_pure _ _ hlen, hlook, ruleNil, ep, en, hask, hm', hn0, his, hl, hlk]
end Go.Proofs.Ytalehbmgbjiigaa
end

section
namespace Go.Proofs.Ytalehbmgbjiigaa
open Go.RowKit
set_option linter.unusedVariables false
set_option linter.unusedSimpArgs false

def allV (m : Nat) (p : Pg) (ks want : List Int) : Bool := decide (ks.length = want.length) && (List.range ks.length).all fun j => decide (kindV m p.vars p.body (ks.getD j 0) = want.getD j 0)
def F_refOf (m : Nat) : List D → Option D := F2 progT intT fun p i => if p.body.length ≤ 3000000 ∧ 0 < m ∧ (endv p.body i < 0 ∨ p.body.length < i.toNat + m) then some (iD (kindV m p.vars p.body i)) else none
def F_all (m : Nat) : List D → Option D := F3 progT intsT intsT fun p ks want => if p.body.length ≤ 3000000 ∧ ks.length ≤ 3000000 ∧ 0 < m ∧ (∀ k ∈ ks, p.body.length < k.toNat + m) then some (bD (allV m p ks want)) else none
def fs09f (m : Nat) : List Entry := fs09d
def T09f (m : Nat) : Tab := ⟨fs09f m, noYl⟩
def fs09g (m : Nat) : List Entry := fs09d
def T09g (m : Nat) : Tab := ⟨fs09g m, noYl⟩
end Go.Proofs.Ytalehbmgbjiigaa
end

section
namespace Go.Proofs.Ytalehbmgbjiigaa
open Go.RowKit
set_option linter.unusedVariables false
set_option maxRecDepth 100000
variable (m : Nat)

def kp_offshootref09_Of : List Nat := [2, 4, 6, 8]
end Go.Proofs.Ytalehbmgbjiigaa
end

section
namespace Go.Proofs.Ytalehbmgbjiigaa
open Go.RowKit
set_option linter.unusedVariables false
set_option maxRecDepth 100000
variable (m : Nat)

def kp_offshootref09_all : List Nat := [1, 2, 3, 6, 7]
end Go.Proofs.Ytalehbmgbjiigaa
end

section
namespace Go.Proofs.Ytalehbmgbjiigaa
open Go.RowKit
set_option linter.unusedVariables false
set_option linter.unusedSimpArgs false

theorem ar_tag (x : Nd) (h : 0 ≤ ar x) : 1 ≤ x.1 ∧ x.1 ≤ 26 := by
  unfold ar at h
  split at h
  · omega
  · split at h
    · omega
    · rename_i h1 h2
      unfold lim at h2
      repeat' split at h2
      all_goals (try (simp only at h2)); omega
theorem kids_count (l : List Nd) (k : Nat) (h : 0 ≤ endv l k) (hk : k < l.length) : (kidsv l k).length = (ar l[k]).toNat := by
  rw [kidsv_eq l k h, upto_length, arAt_in l k hk]

theorem all_split (n : Nat) (f g : Nat → Bool) : ((List.range n).all fun j => f j && g j) = ((List.range n).all f && (List.range n).all g) := by
  induction n with
  | zero => rfl
  | succ n ih =>
    simp only [List.range_succ, List.all_append, ih]
    simp only [List.all_cons, List.all_nil, Bool.and_true]
    cases (List.range n).all f <;> cases (List.range n).all g <;> cases f n <;> cases g n <;> rfl
/-- A kind, by what is asked of kids all at once. -/
theorem kind_all (m : Nat) (p : Pg) (k : Nat) (h : 0 ≤ endv p.body k) (hk : k < p.body.length) (r : RuleT) (hr : ruleOf p.body[k].1 = r) : kindV (m + 1) p.vars p.body k =
    if ruleKind p.vars p.body[k].2 r = -1 then -1 else
    if allV m p (kidsv p.body k) (askV p.vars p.body[k] (kidsv p.body k).length r) && (!inner p.body[k].1 || blkV p.body (kidsv p.body k) 1) then ruleKind p.vars p.body[k].2 r else -1 := by
  have hna : nodeAt p.body k = p.body[k] := by unfold nodeAt; rw [Int.toNat_natCast, getD_in _ _ _ hk]
  rw [kindV, if_neg (by omega)]
  simp only [hna, hr]
  generalize ruleKind p.vars p.body[k].2 r = is
  generalize askV p.vars p.body[k] (kidsv p.body k).length r = w
  generalize kidsv p.body k = ks
  by_cases his : is = -1
  · simp [his]
  · by_cases hl : w.length = ks.length
    · rw [if_neg (by simp [his, hl]), if_neg his, all_split]
      have hb : ((List.range ks.length).all fun j => !(inner p.body[k].1 && decide (0 < j) && !decide ((nodeAt p.body (ks.getD j 0)).1 = 20))) = (!inner p.body[k].1 || blkV p.body ks 1) := by
        cases hi : inner p.body[k].1 with
        | false => simp
        | true =>
          simp only [Bool.true_and, Bool.not_true, Bool.false_or]
          rw [Bool.eq_iff_iff]
          simp only [List.all_eq_true, List.mem_range, blkV, Bool.not_eq_true', Bool.and_eq_false_iff, decide_eq_false_iff_not, Bool.not_eq_false', decide_eq_true_eq]
          constructor
          · intro q y hy
            obtain ⟨j, hj, e⟩ := List.getElem_of_mem hy
            simp only [List.length_drop] at hj
            rw [List.getElem_drop] at e
            rcases q (1 + j) (by omega) with q | q
            · omega
            · have hj' : 1 + j < ks.length := by omega
              rw [getD_in _ _ _ hj', e] at q; exact q
          · intro q j hj
            by_cases h0 : 0 < j
            · right
              rw [getD_in _ _ _ hj]
              show (p.body.getD (ks[j]).toNat (0, 0)).1 = 20
              refine q _ ?_
              have : j = 1 + (j - 1) := by omega
              rw [List.mem_iff_getElem]
              refine ⟨j - 1, by simp; omega, ?_⟩
              rw [List.getElem_drop]
              congr 1
              omega
            · exact .inl h0
      rw [hb]
      simp [allV, hl]
    · rw [if_pos (.inr hl), if_neg his]
      have : allV m p ks w = false := by simp [allV, show ¬ ks.length = w.length from fun e => hl e.symm]
      simp [this]

theorem row1 (t : TypeId) (a : Int) (H : Heap) : rowH t 1 1 [iD 0] [(0, iD a)] H = some (.hs H.length 1, H ++ [.cells t 1 [iD a]]) := rfl
theorem row2 (t : TypeId) (a b : Int) (H : Heap) : rowH t 1 2 [iD 0] [(0, iD a), (1, iD b)] H = some (.hs H.length 2, H ++ [.cells t 1 [iD a, iD b]]) := rfl
theorem row3 (t : TypeId) (a b c : Int) (H : Heap) : rowH t 1 3 [iD 0] [(0, iD a), (1, iD b), (2, iD c)] H = some (.hs H.length 3, H ++ [.cells t 1 [iD a, iD b, iD c]]) := rfl
section
variable (m : Nat) (p : Pg) (ks : List Int) (hp : p.body.length ≤ 3000000) (hks : ks.length ≤ 3000000) (hm : 0 < m) (hk : ∀ k ∈ ks, p.body.length < k.toNat + m)
include hp hks hm hk
theorem all_obj (H : Heap) (id : Nat) (t : TypeId) (l : List Int) (h : H[id]? = some (.cells t 1 (l.map iD))) : liftF (F_all m) [progD p, intsD ks, .hs id l.length] H = some (bD (allV m p ks l), H) := by
  have hd : [progD p, intsD ks, .hs id l.length].mapM (derefN H 9) = some [progD p, intsD ks, intsD l] := by
    simp only [List.mapM_cons, List.mapM_nil, derefN_pure H 9 (progD p) rfl, derefN_pure H 9 (intsD ks) rfl, deref_ints H 8 id t l h]
    rfl
  rw [liftF_obj _ _ _ _ rfl hd]
  have : F_all m [progD p, intsD ks, intsD l] = _ := f3_enc (A := progT) (B := intsT) (C := intsT) _ p ks l
  rw [this, if_pos ⟨hp, hks, hm, hk⟩]
  rfl
end
theorem kindF_pure (b : Bool) (k : Int) (H : Heap) : liftF F_kind [bD b, iD k] H = some (iD (if b then k else -1), H) := by rw [liftF_pure _ _ _ rfl]; rfl
theorem typed_pure (p : Pg) (v : Int) (H : Heap) : liftF F_typed [progD p, iD v] H = some (iD (typedV p.vars v), H) := by
  rw [liftF_pure _ _ _ rfl]
  have : F_typed [progD p, iD v] = _ := f2_enc (A := progT) (B := intT) _ p v
  rw [this]; rfl
theorem refEnd_pure (l : List Nd) (i : Int) (h : l.length ≤ 3000000) (H : Heap) : liftF F_RefEnd [nodesD l, iD i] H = some (iD (endv l i), H) := by
  rw [liftF_pure _ _ _ rfl]; simp [F_RefEnd, h]
theorem end_pure (l : List Nd) (i : Int) (h : l.length ≤ 3000000) (H : Heap) : liftF F_End [nodesD l, iD i] H = some (iD (endv l i), H) := by
  rw [liftF_pure _ _ _ rfl]; simp [F_End, h]
theorem refKids_pure (l : List Nd) (i : Int) (h : l.length ≤ 3000000) (H : Heap) : liftF F_RefKids [nodesD l, iD i] H = some (intsD (kidsv l i), H) := by
  rw [liftF_pure _ _ _ rfl]; simp [F_RefKids, h]
theorem blocks_pure (p : Pg) (ks : List Int) (h1 : ks.length ≤ 3000000) (h2 : ∀ k ∈ ks, 0 ≤ k ∧ k.toNat < p.body.length) (H : Heap) : liftF F_blocks [progD p, intsD ks, iD 1] H = some (bD (blkV p.body ks 1), H) := by
  rw [liftF_pure _ _ _ rfl]
  have : F_blocks [progD p, intsD ks, iD 1] = _ := f3_enc (A := progT) (B := intsT) (C := intT) _ p ks 1
  rw [this, if_pos ⟨by omega, h1, h2⟩]; rfl
theorem refOf_pure (m : Nat) (p : Pg) (i : Int) (hp : p.body.length ≤ 3000000) (hm : 0 < m) (hi : endv p.body i < 0 ∨ p.body.length < i.toNat + m) (H : Heap) : liftF (F_refOf m) [progD p, iD i] H = some (iD (kindV m p.vars p.body i), H) := by
  rw [liftF_pure _ _ _ rfl]
  have : F_refOf m [progD p, iD i] = _ := f2_enc (A := progT) (B := intT) _ p i
  rw [this, if_pos ⟨hp, hm, hi⟩]; rfl

end Go.Proofs.Ytalehbmgbjiigaa
end

section
namespace Go.Proofs.Ytalehbmgbjiigaa
open Go.RowKit
set_option linter.unusedVariables false
set_option linter.unusedSimpArgs false
set_option maxHeartbeats 1000000

theorem sizeV_pos (t : Int) (h : ¬ sizeV t = 0) : 0 < sizeV t := by unfold sizeV at h ⊢; split at h <;> simp_all; omega
end Go.Proofs.Ytalehbmgbjiigaa
end

section
namespace Go.Proofs.Ytalehbmgbjiigaa
open Go.RowKit
set_option linter.unusedVariables false
set_option linter.unusedSimpArgs false
set_option maxHeartbeats 1000000

end Go.Proofs.Ytalehbmgbjiigaa
end

section
namespace Go.Proofs.Ytalehbmgbjiigaa
open Go.RowKit
set_option linter.unusedVariables false
set_option linter.unusedSimpArgs false
set_option maxHeartbeats 1000000

end Go.Proofs.Ytalehbmgbjiigaa
end

section
namespace Go.Proofs.Ytalehbmgbjiigaa
open Go.RowKit
set_option linter.unusedVariables false
set_option linter.unusedSimpArgs false

/-- A node's kind. -/
def knd (p : Pg) (i : Int) : Int := kindV (p.body.length + 1) p.vars p.body i
def F_Of9 : List D → Option D := F2 progT intT fun p i => if p.body.length ≤ 3000000 then some (iD (knd p i)) else none
/-- It makes no difference how deep one may go, if it is deep enough. -/
theorem kindV_deep : ∀ (a b : Nat) (vs : List Int) (l : List Nd) (i : Int), 0 ≤ endv l i → l.length < i.toNat + a → l.length < i.toNat + b → kindV a vs l i = kindV b vs l i
  | 0, b, vs, l, i, h, ha, hb => by have := (endv_in l i h).2; omega
  | a, 0, vs, l, i, h, ha, hb => by have := (endv_in l i h).2; omega
  | a + 1, b + 1, vs, l, i, h, ha, hb => by
    obtain ⟨h0, hil⟩ := endv_in l i h
    obtain ⟨k, rfl⟩ := Int.eq_ofNat_of_zero_le h0
    simp only [Int.toNat_natCast] at ha hb
    have hk : ∀ j, j < (kidsv l k).length → kindV a vs l ((kidsv l k).getD j 0) = kindV b vs l ((kidsv l k).getD j 0) := fun j hj => by
      rw [getD_in _ _ _ hj]
      have := kid_facts l k j hj
      exact kindV_deep a b vs l _ this.2.1 (by omega) (by omega)
    have hall : ∀ f : Nat → Bool, ((List.range (kidsv l k).length).all fun j => decide (kindV a vs l ((kidsv l k).getD j 0) = (askV vs (nodeAt l k) (kidsv l k).length (ruleOf (nodeAt l k).1)).getD j 0) && f j) = ((List.range (kidsv l k).length).all fun j => decide (kindV b vs l ((kidsv l k).getD j 0) = (askV vs (nodeAt l k) (kidsv l k).length (ruleOf (nodeAt l k).1)).getD j 0) && f j) := fun f => by
      rw [Bool.eq_iff_iff]
      simp only [List.all_eq_true, List.mem_range]
      constructor
      · intro q j hj; have := q j hj; rwa [hk j hj] at this
      · intro q j hj; have := q j hj; rwa [hk j hj]
    rw [kindV, kindV, hall]
def F_ofAll : List D → Option D := F2 chkT intT fun p i => if ofOk p i then some (iD (knd p i)) else none
theorem C_ofAll : CallOk Try.prog 83 F_ofAll := call_any C_of fun ds d hF => by
  unfold F_ofAll F2 at hF
  split at hF
  · obtain ⟨p, h1, hF⟩ := Option.bind_eq_some_iff.1 hF
    obtain ⟨i, h2, hF⟩ := Option.bind_eq_some_iff.1 hF
    simp only at hF
    split at hF
    · rename_i hp
      cases hF
      refine ⟨p.body.length + 1, ?_⟩
      simp only [F_of, F2, h1, h2, Option.bind_some]
      rw [if_pos]
      · rfl
      · simp only [hp, Bool.true_and, decide_eq_true_eq]; omega
    · cases hF
  · cases hF
def fs09h : List Entry := (83, true, liftF F_ofAll) :: fs09d
theorem fs09h_ok : ∀ p ∈ fs09h, EntryOk Try.prog p := entries_cons (entry_lift C_ofAll) <| fs09d_ok
def T09h : Tab := ⟨fs09h, noYl⟩
theorem T09h_ok : TabOk Try.prog T09h := tabOk_of fs09h_ok
end Go.Proofs.Ytalehbmgbjiigaa
end

section
namespace Go.Proofs.Ytalehbmgbjiigaa
open Go.RowKit
set_option linter.unusedVariables false
set_option maxRecDepth 100000

def kp_kinds_Of : List Nat := []
theorem sh_kinds_Of (n : Nat) (x0 x1 : D) (h : Heap) : textK Try.prog T09h kp_kinds_Of n Try.f38 [x0, x1] h =
(thnH (boxH 25 x0 h) fun y0 h1 =>
thn (fieldAtH 2 y0) fun y2 =>
thn (loadH none h1 y2) fun y3 =>
thnH (liftF F_End [y3, x1] h1) fun y4 h5 =>
thn (binK .int .lss y4 (iD 0)) fun y6 =>
condK y6
(some ((iD (-1)), h5))
(thn (loadH (some 3) h5 y0) fun y7 =>
thnH (liftF F_rules [] h5) fun y8 h9 =>
thn (buildR [(0, 3), (3, 1)] [(iD 0), (.v (.slice none 0 0)), (.v (.slice none 0 0)), (.v (.map none))] [(0, y7), (1, y8)]) fun y10 =>
thnH (liftF F_ofAll [y10, x1] h9) fun y11 h12 =>
some (y11, h12))) := by kernel_rfl

end Go.Proofs.Ytalehbmgbjiigaa
end

section
namespace Go.Proofs.Ytalehbmgbjiigaa
open Go.RowKit
set_option linter.unusedVariables false
set_option linter.unusedSimpArgs false

theorem knd_no {p : Pg} {i : Int} (h : endv p.body i < 0) : knd p i = -1 := by rw [knd, kindV, if_pos h]
theorem rules_pure (H : Heap) : liftF F_rules [] H = some (rulesD, H) := by rw [liftF_pure _ _ _ rfl]; rfl
theorem ofAll_pure (p : Pg) (i : Int) (h : ofOk p i = true) (H : Heap) : liftF F_ofAll [.agg (chkC p), iD i] H = some (iD (knd p i), H) := by
  rw [liftF_pure _ _ _ rfl]
  have : F_ofAll [.agg (chkC p), iD i] = _ := f2_enc (A := chkT) (B := intT) _ p i
  rw [this, if_pos h]; rfl
theorem C_Of9 : CallOk Try.prog 38 F_Of9 := call2 (kp := kp_kinds_Of) T09h_ok mixed Try.func38 (by kernel_rfl) (by decide) fun p i d h => by
  split at h
  case isFalse => cases h
  rename_i hp
  cases h
  refine ⟨0, _, ?_, Imp.refl _⟩
  show outD (textK _ _ _ _ _ [progD p, iD i] []) = _
  rw [sh_kinds_Of]
  by_cases hE : endv p.body i < 0
  · simp [end_pure p.body i hp, hE, knd_no hE]
  · have hb : buildR [(0, 3), (3, 1)] [iD 0, .v (.slice none 0 0), .v (.slice none 0 0), .v (.map none)] [(0, .agg [iD p.params, intsD p.vars, nodesD p.body]), (1, rulesD)] = some (.agg (chkC p)) := rfl
    have hok : ofOk p i = true := by simp only [ofOk, decide_eq_true_eq]; omega
    simp [end_pure p.body i hp, hE, rules_pure, hb, ofAll_pure p i hok]

def fs09j : List Entry := (38, true, liftF F_Of9) :: fs09h
theorem fs09j_ok : ∀ p ∈ fs09j, EntryOk Try.prog p := entries_cons (entry_lift C_Of9) <| fs09h_ok
def T09j : Tab := ⟨fs09j, noYl⟩
theorem T09j_ok : TabOk Try.prog T09j := tabOk_of fs09j_ok
end Go.Proofs.Ytalehbmgbjiigaa
end

section
namespace Go.Proofs.Ytalehbmgbjiigaa
open Go.RowKit
set_option linter.unusedVariables false
set_option maxRecDepth 100000

def kp_kinds_Check : List Nat := []
theorem sh_kinds_Check (n : Nat) (x0 : D) (h : Heap) : textK Try.prog T09j kp_kinds_Check n Try.f37 [x0] h =
(thnH (boxH 25 x0 h) fun y0 h1 =>
thn (fieldAtH 2 y0) fun y2 =>
thn (loadH none h1 y2) fun y3 =>
thnH (liftF F_Check [y3] h1) fun y4 h5 =>
thn (binK .int .neq y4 (iD 0)) fun y6 =>
condK y6
(some (y4, h5))
(thn (loadH (some 3) h5 y0) fun y7 =>
thnH (liftF F_Vars [y7] h5) fun y8 h9 =>
thn (binK .int .neq y8 (iD 0)) fun y10 =>
condK y10
(some (y8, h9))
(thn (fieldAtH 2 y0) fun y11 =>
thn (loadH none h9 y11) fun y12 =>
thn (idxH 2 y12 (iD 0)) fun y13 =>
thn (fieldAtH 0 y13) fun y14 =>
thn (loadH none h9 y14) fun y15 =>
thn (binK .int .neq y15 (iD 20)) fun y16 =>
condK y16
(some ((iD 15), h9))
(thn (loadH (some 3) h9 y0) fun y17 =>
thnH (liftF F_Of9 [y17, (iD 0)] h9) fun y18 h19 =>
thn (binK .int .neq y18 (iD 2)) fun y20 =>
condK y20
(some ((iD 15), h19))
(some ((iD 0), h19)))))) := by kernel_rfl

def kp_offshootref09_Check : List Nat := []
end Go.Proofs.Ytalehbmgbjiigaa
end

section
namespace Go.Proofs.Ytalehbmgbjiigaa
open Go.RowKit
set_option linter.unusedVariables false
set_option linter.unusedSimpArgs false

/-- Is a program typed? -/
def chk9 (p : Pg) : Int :=
  if checkV p.body ≠ 0 then checkV p.body else
  if varsV p ≠ 0 then varsV p else
  if (nodeAt p.body 0).1 ≠ 20 ∨ knd p 0 ≠ 2 then 15 else 0
def F_Check9 : List D → Option D := F1 progT fun p => if p.body.length ≤ 3000000 then some (iD (chk9 p)) else none
theorem check_pure (l : List Nd) (h : l.length ≤ 3000000) (H : Heap) : liftF F_Check [nodesD l] H = some (iD (checkV l), H) := by
  rw [liftF_pure _ _ _ rfl]; simp [F_Check, h]
theorem refCheck_pure (l : List Nd) (h : l.length ≤ 3000000) (H : Heap) : liftF F_RefCheck [nodesD l] H = some (iD (checkV l), H) := by
  rw [liftF_pure _ _ _ rfl]; simp [F_RefCheck, h]
theorem vars_pure (p : Pg) (H : Heap) : liftF F_Vars [progD p] H = some (iD (varsV p), H) := by
  rw [liftF_pure _ _ _ rfl]
  have : F_Vars [progD p] = _ := f1_enc (A := progT) _ p
  rw [this]; rfl
theorem of9_pure (p : Pg) (i : Int) (h : p.body.length ≤ 3000000) (H : Heap) : liftF F_Of9 [progD p, iD i] H = some (iD (knd p i), H) := by
  rw [liftF_pure _ _ _ rfl]
  have : F_Of9 [progD p, iD i] = _ := f2_enc (A := progT) (B := intT) _ p i
  rw [this, if_pos h]; rfl
theorem check_pos {l : List Nd} (h : checkV l = 0) : 0 < l.length := by
  unfold checkV at h
  split at h
  · cases h
  · omega
theorem C_Check9 : CallOk Try.prog 37 F_Check9 := call1 (kp := kp_kinds_Check) T09j_ok mixed Try.func37 (by kernel_rfl) (by decide) fun p d h => by
  split at h
  case isFalse => cases h
  rename_i hp
  cases h
  refine ⟨0, _, ?_, Imp.refl _⟩
  show outD (textK _ _ _ _ _ [progD p] []) = _
  rw [sh_kinds_Check]
  have ep : D.agg [iD p.params, intsD p.vars, nodesD p.body] = progD p := rfl
  unfold chk9
  by_cases h1 : checkV p.body = 0
  · by_cases h2 : varsV p = 0
    · have h0 := check_pos h1
      have hn : nodeAt p.body 0 = p.body[0] := by unfold nodeAt; exact getD_in _ 0 _ h0
      have hi := idx_nodesN p.body 0 h0
      simp only [cast0] at hi
      by_cases h3 : (p.body[0]).1 = 20
      · by_cases h4 : knd p 0 = 2
        · simp [check_pure _ hp, h1, vars_pure, h2, hn, hi, h3, of9_pure p 0 hp, h4, ep]
        · simp [check_pure _ hp, h1, vars_pure, h2, hn, hi, h3, of9_pure p 0 hp, h4, ep]
      · simp [check_pure _ hp, h1, vars_pure, h2, hn, hi, h3, ep]
    · simp [check_pure _ hp, h1, vars_pure, h2, ep]
  · simp [check_pure _ hp, h1]
def fs09k : List Entry := (37, true, liftF F_Check9) :: fs09j
theorem fs09k_ok : ∀ p ∈ fs09k, EntryOk Try.prog p := entries_cons (entry_lift C_Check9) <| fs09j_ok
def T09k : Tab := ⟨fs09k, noYl⟩
theorem T09k_ok : TabOk Try.prog T09k := tabOk_of fs09k_ok

/-- A function without parameters that gives true. -/
def F_true : List D → Option D := F0 (some (bD true))
def fsL09 : List Entry := fs09k
theorem fsL09_ok : ∀ p ∈ fsL09, EntryOk Try.prog p := fs09k_ok
def L09 : Tab := ⟨fsL09, noYl⟩
theorem L09_ok : TabOk Try.prog L09 := tabOk_of fsL09_ok
end Go.Proofs.Ytalehbmgbjiigaa
end

section
namespace Go.Proofs.Ytalehbmgbjiigaa
open Go.RowKit
set_option linter.unusedVariables false
set_option maxRecDepth 100000

def fsL12t (P : Program) : List Entry := (37, true, liftF F_Check9) :: (38, true, liftF F_Of9) :: fsL12 P
theorem fsL12t_ok : ∀ p ∈ fsL12t Try.prog, EntryOk Try.prog p := entries_cons (entry_lift C_Check9) <| entries_cons (entry_lift C_Of9) <| fsL12_ok
def L12t (P : Program) : Tab := ⟨fsL12t P, noYl⟩
theorem L12t_ok : TabOk Try.prog (L12t Try.prog) := tabOk_of fsL12t_ok
end Go.Proofs.Ytalehbmgbjiigaa
end

section
namespace Go.Proofs.Ytalehbmgbjiigaa
open Go.RowKit
set_option linter.unusedVariables false
set_option maxRecDepth 100000

def kp_offshootlaw12_DeltaTyped : List Nat := []
theorem sh_offshootlaw12_DeltaTyped (n : Nat) (x0 x1 : D) (h : Heap) : textK Try.prog (L12t Try.prog) kp_offshootlaw12_DeltaTyped n Try.f12 [x0, x1] h =
(thnH (boxH 25 x0 h) fun y0 h1 =>
thnH (boxH 27 x1 h1) fun y2 h3 =>
thnH (liftF F_true12 [] h3) fun y4 h5 =>
thn (notD y4) fun y6 =>
condK y6
(some ((bD false), h5))
(thn (loadH (some 3) h5 y0) fun y7 =>
thnH (liftF F_Few [y7] h5) fun y8 h9 =>
condK y8
(thn (loadH (some 3) h9 y2) fun y10 =>
thnH (liftF F_dfew [y10] h9) fun y11 h12 =>
thn (notD y11) fun y13 =>
condK y13
(some (y4, h12))
(thn (loadH (some 3) h12 y0) fun y14 =>
thnH (liftF F_Check9 [y14] h12) fun y15 h16 =>
thn (binK .int .neq y15 (iD 0)) fun y17 =>
condK y17
(some (y4, h16))
(thn (loadH (some 3) h16 y0) fun y18 =>
thn (loadH (some 3) h16 y2) fun y19 =>
thnH (liftF F_DApply [y18, y19] h16) fun y20 h21 =>
thn (extractD y20 0) fun y22 =>
thn (extractD y20 1) fun y23 =>
thnH (allocH 25 [(iD 0), (.v (.slice none 0 0)), (.v (.slice none 0 0))] h21) fun y24 h25 =>
thnH (setH 3 y24 y22 h25) fun y26 h27 =>
thn (binK .int .neq y23 (iD 0)) fun y28 =>
condK y28
(some (y4, h27))
(thn (fieldAtH 2 y0) fun y29 =>
thn (loadH none h27 y29) fun y30 =>
thn (fieldAtH 0 y2) fun y31 =>
thn (loadH none h27 y31) fun y32 =>
thnH (liftF F_Find [y30, y32] h27) fun y33 h34 =>
thn (loadH (some 3) h34 y24) fun y35 =>
thnH (liftF F_Check9 [y35] h34) fun y36 h37 =>
thn (loadH (some 3) h37 y24) fun y38 =>
thnH (liftF F_Of9 [y38, (iD 0)] h37) fun y39 h40 =>
thn (binK .int .neq y39 (iD 2)) fun y41 =>
condK y41
(some ((bD false), h40))
(thn (loadH (some 3) h40 y24) fun y42 =>
thnH (liftF F_Of9 [y42, y33] h40) fun y43 h44 =>
thn (loadH (some 3) h44 y0) fun y45 =>
thnH (liftF F_Of9 [y45, y33] h44) fun y46 h47 =>
thn (binK .int .neq y43 y46) fun y48 =>
condK y48
(some ((bD false), h47))
(condK y4
(thn (binK .int .eql y36 (iD 0)) fun y49 =>
condK y49
(some ((bD true), h47))
(thn (binK .int .eql y36 (iD 13)) fun y50 =>
condK y50
(thn (fieldAtH 1 y2) fun y51 =>
thn (loadH none h47 y51) fun y52 =>
thn (binK .int .eql y52 (iD 6)) fun y53 =>
some (y53, h47))
(some ((bD false), h47))))
(some ((bD false), h47))))))))
(thn (notD (bD false)) fun y54 =>
condK y54
(some (y4, h9))
(thn (loadH (some 3) h9 y0) fun y55 =>
thnH (liftF F_Check9 [y55] h9) fun y56 h57 =>
thn (binK .int .neq y56 (iD 0)) fun y58 =>
condK y58
(some (y4, h57))
(thn (loadH (some 3) h57 y0) fun y59 =>
thn (loadH (some 3) h57 y2) fun y60 =>
thnH (liftF F_DApply [y59, y60] h57) fun y61 h62 =>
thn (extractD y61 0) fun y63 =>
thn (extractD y61 1) fun y64 =>
thnH (allocH 25 [(iD 0), (.v (.slice none 0 0)), (.v (.slice none 0 0))] h62) fun y65 h66 =>
thnH (setH 3 y65 y63 h66) fun y67 h68 =>
thn (binK .int .neq y64 (iD 0)) fun y69 =>
condK y69
(some (y4, h68))
(thn (fieldAtH 2 y0) fun y70 =>
thn (loadH none h68 y70) fun y71 =>
thn (fieldAtH 0 y2) fun y72 =>
thn (loadH none h68 y72) fun y73 =>
thnH (liftF F_Find [y71, y73] h68) fun y74 h75 =>
thn (loadH (some 3) h75 y65) fun y76 =>
thnH (liftF F_Check9 [y76] h75) fun y77 h78 =>
thn (loadH (some 3) h78 y65) fun y79 =>
thnH (liftF F_Of9 [y79, (iD 0)] h78) fun y80 h81 =>
thn (binK .int .neq y80 (iD 2)) fun y82 =>
condK y82
(some ((bD false), h81))
(thn (loadH (some 3) h81 y65) fun y83 =>
thnH (liftF F_Of9 [y83, y74] h81) fun y84 h85 =>
thn (loadH (some 3) h85 y0) fun y86 =>
thnH (liftF F_Of9 [y86, y74] h85) fun y87 h88 =>
thn (binK .int .neq y84 y87) fun y89 =>
condK y89
(some ((bD false), h88))
(condK y4
(thn (binK .int .eql y77 (iD 0)) fun y90 =>
condK y90
(some ((bD true), h88))
(thn (binK .int .eql y77 (iD 13)) fun y91 =>
condK y91
(thn (fieldAtH 1 y2) fun y92 =>
thn (loadH none h88 y92) fun y93 =>
thn (binK .int .eql y93 (iD 6)) fun y94 =>
some (y94, h88))
(some ((bD false), h88))))
(some ((bD false), h88)))))))))) := by kernel_rfl

end Go.Proofs.Ytalehbmgbjiigaa
end
