/-
  Parts joined into one text: T09d, T09e, Sh09e, C09e, T09f, Sh09f, Sh09g, C09f, C09g, C09h, C09i, T09h, Sh09j, T09j, Sh09k, T09k, KindLaw. No condition.
-/
import Derived.Test.YtalehbmgbjiigaaFj
import Derived.Test.YtalehbmgbjiigaaFm
import Derived.Test.YtalehbmgbjiigaaFr

section
namespace Go.Proofs.Ytalehbmgbjiigaa
open Go.RowKit
set_option linter.unusedVariables false
set_option linter.unusedSimpArgs false

def askV (vs : List Int) (x : Nd) (n : Nat) : RuleT → List Int
  | .plain ks _ => ks
  | .array ks _ => ks
  | .scalar true => if x.2.toNat < vs.length then [vs.getD x.2.toNat 0] else []
  | .scalar false => []
  | .none => List.replicate n 2
def F_asked : List D → Option D := F4 progT ndT ruleT intT fun p x r n => if numOk r x ∧ 0 ≤ n ∧ n ≤ 4000000 then some (intsD (askV p.vars x n.toNat r)) else none
theorem mapM_derefI (H : Heap) (n : Nat) (l : List Int) : (l.map iD).mapM (derefN H n) = some (l.map iD) := by
  induction l with
  | nil => rfl
  | cons a r ih => rw [List.map_cons, List.mapM_cons, derefN_pure H n _ rfl, ih]; rfl
theorem chunks_ints (l : List Int) : chunks 1 l.length (l.map iD) = l.map oneI := by
  induction l with
  | nil => rfl
  | cons a r ih => simp [chunks, ih, oneI]
/-- A row of ints, by value. -/
theorem deref_ints (H : Heap) (n id : Nat) (t : TypeId) (l : List Int) (h : H[id]? = some (.cells t 1 (l.map iD))) : derefN H (n + 1) (.hs id l.length) = some (intsD l) := by
  simp only [derefN, h]
  rw [if_pos (by simp), List.take_of_length_le (by simp), mapM_derefI, Option.map_some, chunks_ints]; rfl
theorem outD_row (H : Heap) (id : Nat) (t : TypeId) (l : List Int) (k : Nat) (hk : k = l.length) (h : H[id]? = some (.cells t 1 (l.map iD))) : outD (some (.hs id k, H)) = some (intsD l) := by
  subst hk; exact deref_ints H 8 id t l h
theorem C_asked : CallOk Try.prog 120 F_asked := call4 (kp := kp_kinds_asked) T09c_ok mixed Try.func120 (by kernel_rfl) (by decide) fun p x r n d h => by
  split at h
  case isFalse => cases h
  rename_i hg
  cases h
  refine ⟨0, ?_⟩
  show ∃ d', outD (textK _ _ _ _ _ [progD p, .agg (nodeD x), r.enc, iD n] []) = some d' ∧ _
  rw [sh_kinds_asked]
  have fin : ∀ l : List Int, (o : Option D) → o = some (intsD l) → ∃ d', o = some d' ∧ Imp d' (intsD l) := fun l o h => ⟨_, h, Imp.refl _⟩
  cases r with
  | plain ks is => exact fin ks _ (by simp [RuleT.enc, assertD, extractD, tupOf, allocH, newH, setH, storeH, cellsD])
  | array ks is => exact fin ks _ (by simp [RuleT.enc, assertD, extractD, tupOf, allocH, newH, setH, storeH, cellsD])
  | scalar b =>
    cases b with
    | false =>
      refine ⟨.v (.slice none 0 0), by simp [RuleT.enc, assertD, extractD, tupOf, allocH, newH, setH, storeH, cellsD], Imp.nil 1⟩
    | true =>
      have hx := hg.1 rfl
      by_cases h1 : x.2.toNat < p.vars.length
      · have h2 : x.2 < (p.vars.length : Int) := by omega
        obtain ⟨k, hk⟩ := Int.eq_ofNat_of_zero_le hx.1
        have e1 := intD_add (k : Int) 1 (by omega) (by omega)
        have e2 := cut_ints p.vars k (k + 1) (by omega) (by omega)
        rw [Int.natCast_add, Int.natCast_one] at e2
        have e3 : (p.vars.take (k + 1)).drop k = [p.vars.getD x.2.toNat 0] := by
          rw [hk, Int.toNat_natCast, getD_in _ _ _ (by omega), List.take_succ_eq_append_getElem (by omega), List.drop_left' (by simp; omega)]
        refine fin _ _ ?_
        have h3 : (k : Int) < p.vars.length := by omega
        simp [RuleT.enc, assertD, extractD, tupOf, allocH, newH, setH, storeH, cellsD, hk, h3, e1, e2]
        rw [e3]
        simp [askV, h1]
      · have h2 : ¬ x.2 < (p.vars.length : Int) := by omega
        refine ⟨.v (.slice none 0 0), by simp [RuleT.enc, assertD, extractD, tupOf, allocH, newH, setH, storeH, cellsD, h2], ?_⟩
        simp only [askV, if_neg h1]
        exact Imp.nil 1
  | none =>
    refine fin _ _ ?_
    have e1 : ∀ H : Heap, rowH 3 1 1 [iD 0] [(0, iD 2)] H = some (.hs H.length 1, H ++ [.cells 3 1 [iD 2]]) := fun H => rfl
    have e2 : G_Repeat [.hs 2 1, iD n] [.cells 25 3 [iD p.params, intsD p.vars, nodesD p.body], .cells 46 2 [iD x.1, iD x.2], .cells 3 1 [iD 2]] =
        some (.hs 3 n.toNat, [.cells 25 3 [iD p.params, intsD p.vars, nodesD p.body], .cells 46 2 [iD x.1, iD x.2], .cells 3 1 [iD 2], .cells 3 1 (List.replicate n.toNat (iD 2))]) := by
      simp [G_Repeat, hg.2]
    simp [RuleT.enc, assertD, extractD, tupOf, e1]
    rw [e2]
    simp only [thnH_some, askV]
    exact outD_row _ 3 3 (List.replicate n.toNat 2) n.toNat (by simp) (by simp)

def fs09d : List Entry := (120, true, liftF F_asked) :: fs09c
theorem fs09d_ok : ∀ p ∈ fs09d, EntryOk Try.prog p := entries_cons (entry_lift C_asked) <| fs09c_ok
/-- The functions that go down: by how deep they are known. -/
def T09d : Tab := ⟨fs09d, noYl⟩
theorem T09d_ok : TabOk Try.prog T09d := tabOk_of fs09d_ok

/-- The rule of a tag. -/
def findR : List Int → List RuleT → Int → Option RuleT
  | a :: r, v :: s, k => if k = a then some v else findR r s k
  | _, _, _ => none
def ruleOf (t : Int) : RuleT := (findR ruleKs ruleRs t).getD .none
theorem findM_map : ∀ (ks : List Int) (rs : List RuleT) (k : Int), findM ks (rs.map RuleT.enc) k = (findR ks rs k).map RuleT.enc
  | [], rs, k => by cases rs <;> rfl
  | a :: r, [], k => rfl
  | a :: r, v :: s, k => by
    simp only [List.map_cons, findM, findR]
    split
    · rfl
    · exact findM_map r s k
theorem look_rules (t : Int) (H : Heap) : lookH (.v .nilIface) false H rulesD (iD t) = some (ruleOf t).enc := by
  have := findM_map ruleKs ruleRs t
  simp only [lookH, mapOf, rulesD, Option.bind_some, int64Of, this, ruleOf]
  cases findR ruleKs ruleRs t <;> rfl

def inner (t : Int) : Bool := decide (t = 23 ∨ t = 24)
/-- A node's kind, by the kinds of those below. -/
def kindV : Nat → List Int → List Nd → Int → Int
  | 0, _, _, _ => -1
  | f + 1, vs, l, i =>
    if endv l i < 0 then -1 else
    if ruleKind vs (nodeAt l i).2 (ruleOf (nodeAt l i).1) = -1 ∨ (askV vs (nodeAt l i) (kidsv l i).length (ruleOf (nodeAt l i).1)).length ≠ (kidsv l i).length then -1 else
    if (List.range (kidsv l i).length).all (fun j => decide (kindV f vs l ((kidsv l i).getD j 0) = (askV vs (nodeAt l i) (kidsv l i).length (ruleOf (nodeAt l i).1)).getD j 0) && !(inner (nodeAt l i).1 && decide (0 < j) && !decide ((nodeAt l ((kidsv l i).getD j 0)).1 = 20)))
      then ruleKind vs (nodeAt l i).2 (ruleOf (nodeAt l i).1) else -1
end Go.Proofs.Ytalehbmgbjiigaa
end

section
namespace Go.Proofs.Ytalehbmgbjiigaa
open Go.RowKit
set_option linter.unusedVariables false
set_option linter.unusedSimpArgs false

/-- A program with the rules. -/
def chkC (p : Pg) : List D := [iD p.params, intsD p.vars, nodesD p.body, rulesD]
def asChk : D → Option Pg
  | .agg [a, b, c, m] => (isRules m).bind fun _ => asProgC [a, b, c]
  | _ => none
theorem mapM_enc {α : Type} (A : Dec α) (l : List α) : (l.map A.enc).mapM A.dec = some l := by
  induction l with
  | nil => rfl
  | cons a r ih => rw [List.map_cons, List.mapM_cons, A.back, ih]; rfl
theorem isRules_rules : isRules rulesD = some () := by
  have : (ruleRs.map RuleT.enc).mapM RuleT.dec = some ruleRs := mapM_enc ruleT ruleRs
  unfold isRules rulesD
  simp only [this, and_self, if_true]
def chkT : Dec Pg := ⟨fun p => .agg (chkC p), asChk, fun p => by simp [asChk, chkC, isRules_rules, asProgC], fun d p h => by
  unfold asChk at h
  split at h
  · obtain ⟨_, h1, h⟩ := Option.bind_eq_some_iff.1 h
    refine Imp.agg ?_
    have := imp_progC h
    simp only [progC, chkC] at this ⊢
    cases this with | cons a1 r => cases r with | cons a2 r => cases r with | cons a3 r => exact .cons a1 (.cons a2 (.cons a3 (.cons (imp_rules h1) .nil)))
  · cases h⟩
def ofOk (p : Pg) (i : Int) : Bool := decide (0 ≤ endv p.body i ∧ p.body.length ≤ 3000000)
def F_of (m : Nat) : List D → Option D := F2 chkT intT fun p i => if ofOk p i && decide (p.body.length < i.toNat + m) then some (iD (kindV m p.vars p.body i)) else none
def fs09e (m : Nat) : List Entry := (83, true, liftF (F_of m)) :: fs09d
def T09e (m : Nat) : Tab := ⟨fs09e m, noYl⟩
end Go.Proofs.Ytalehbmgbjiigaa
end

section
namespace Go.Proofs.Ytalehbmgbjiigaa
open Go.RowKit
set_option linter.unusedVariables false
set_option maxRecDepth 100000
variable (m : Nat)

def kp_kinds_checker__of : List Nat := [2, 4, 5, 8, 9, 52, 53, 54]
theorem sh_kinds_checker__of (n : Nat) (x0 x1 : D) (h : Heap) : textK Try.prog (T09e m) kp_kinds_checker__of n Try.f83 [x0, x1] h =
(thnH (boxH 103 x0 h) fun y0 h1 =>
thn (fieldAtH 0 y0) fun y2 =>
thn (fieldAtH 2 y2) fun y3 =>
thn (loadH none h1 y3) fun y4 =>
thn (idxH 2 y4 x1) fun y5 =>
thn (loadH (some 2) h1 y5) fun y6 =>
thnH (allocH 46 [(iD 0), (iD 0)] h1) fun y7 h8 =>
thnH (setH 2 y7 y6 h8) fun y9 h10 =>
thn (fieldAtH 0 y0) fun y11 =>
thn (fieldAtH 2 y11) fun y12 =>
thn (loadH none h10 y12) fun y13 =>
thnH (liftF F_Kids [y13, x1] h10) fun y14 h15 =>
thn (fieldAtH 3 y0) fun y16 =>
thn (loadH none h15 y16) fun y17 =>
thn (fieldAtH 0 y7) fun y18 =>
thn (loadH none h15 y18) fun y19 =>
thn (lookH (.v .nilIface) false h15 y17 y19) fun y20 =>
thn (binN true .ifc .neq y20 (.v .nilIface)) fun y21 =>
condK y21
(thn (fieldAtH 0 y0) fun y22 =>
thn (loadH (some 3) h15 y22) fun y23 =>
thn (loadH (some 2) h15 y7) fun y24 =>
thnH (callMeth Try.prog (T09e m) y20 "offshoot/kinds.kind" [y23, y24] h15) fun y25 h26 =>
thn (fieldAtH 0 y0) fun y27 =>
thn (loadH (some 3) h26 y27) fun y28 =>
thn (loadH (some 2) h26 y7) fun y29 =>
thn (lenH .sl y14) fun y30 =>
thnH (liftF F_asked [y28, y29, y20, y30] h26) fun y31 h32 =>
thn (binK .int .eql y25 (iD (-1))) fun y33 =>
condK y33
(some ((iD (-1)), h32))
(thn (lenH .sl y31) fun y34 =>
thn (lenH .sl y14) fun y35 =>
thn (binK .int .neq y34 y35) fun y36 =>
condK y36
(some ((iD (-1)), h32))
(thn (lenH .sl y14) fun y37 =>
leaveK (loopF Try.prog (T09e m) kp_kinds_checker__of n Try.f83 0 [y0, (iD 0), y7, y25, y31, y14, y37, (iD 0)] h32) (fun j38 s39 h40 =>
condN j38 0
(some ((s39.getD 3 .undef), h40))
(none)) (fun s39 h40 =>
some ((s39.getD 1 .undef), h40)))))
(thn (fieldAtH 0 y0) fun y41 =>
thn (loadH (some 3) h15 y41) fun y42 =>
thn (loadH (some 2) h15 y7) fun y43 =>
thn (lenH .sl y14) fun y44 =>
thnH (liftF F_asked [y42, y43, y20, y44] h15) fun y45 h46 =>
thn (binK .int .eql (iD 2) (iD (-1))) fun y47 =>
condK y47
(some ((iD (-1)), h46))
(thn (lenH .sl y45) fun y48 =>
thn (lenH .sl y14) fun y49 =>
thn (binK .int .neq y48 y49) fun y50 =>
condK y50
(some ((iD (-1)), h46))
(thn (lenH .sl y14) fun y51 =>
leaveK (loopF Try.prog (T09e m) kp_kinds_checker__of n Try.f83 0 [y0, (iD 0), y7, (iD 2), y45, y14, y51, (iD 0)] h46) (fun j52 s53 h54 =>
condN j52 0
(some ((s53.getD 3 .undef), h54))
(none)) (fun s53 h54 =>
some ((s53.getD 1 .undef), h54)))))) := by kernel_rfl

theorem st_kinds_checker__of_0 (n : Nat) (s0 s1 s2 s3 s4 s5 s6 s7 : D) (h : Heap) : stepF Try.prog (T09e m) kp_kinds_checker__of n Try.f83 0 [s0, s1, s2, s3, s4, s5, s6, s7] h =
(thn (binK .int .lss s7 s6) fun y0 =>
condK y0
(thn (idxH 1 s5 s7) fun y1 =>
thn (loadH none h y1) fun y2 =>
thn (loadH (some 4) h s0) fun y3 =>
thnH (liftF (F_of m) [y3, y2] h) fun y4 h5 =>
thn (idxH 1 s4 s7) fun y6 =>
thn (loadH none h5 y6) fun y7 =>
thn (binK .int .neq y4 y7) fun y8 =>
condK y8
(some (.ret, [s0, (iD (-1)), s2, s3, s4, s5, s6, s7], h5))
(thn (fieldAtH 0 s2) fun y9 =>
thn (loadH none h5 y9) fun y10 =>
thn (binK .int .eql y10 (iD 23)) fun y11 =>
condK y11
(thn (binK .int .gtr s7 (iD 0)) fun y12 =>
condK y12
(thn (fieldAtH 0 s0) fun y13 =>
thn (fieldAtH 2 y13) fun y14 =>
thn (loadH none h5 y14) fun y15 =>
thn (idxH 2 y15 y2) fun y16 =>
thn (fieldAtH 0 y16) fun y17 =>
thn (loadH none h5 y17) fun y18 =>
thn (binK .int .neq y18 (iD 20)) fun y19 =>
condK y19
(some (.ret, [s0, (iD (-1)), s2, s3, s4, s5, s6, s7], h5))
(thn (binK .int .add s7 (iD 1)) fun y20 =>
some (.normal, [s0, s1, s2, s3, s4, s5, s6, y20], h5)))
(thn (binK .int .add s7 (iD 1)) fun y21 =>
some (.normal, [s0, s1, s2, s3, s4, s5, s6, y21], h5)))
(thn (fieldAtH 0 s2) fun y22 =>
thn (loadH none h5 y22) fun y23 =>
thn (binK .int .eql y23 (iD 24)) fun y24 =>
condK y24
(thn (binK .int .gtr s7 (iD 0)) fun y25 =>
condK y25
(thn (fieldAtH 0 s0) fun y26 =>
thn (fieldAtH 2 y26) fun y27 =>
thn (loadH none h5 y27) fun y28 =>
thn (idxH 2 y28 y2) fun y29 =>
thn (fieldAtH 0 y29) fun y30 =>
thn (loadH none h5 y30) fun y31 =>
thn (binK .int .neq y31 (iD 20)) fun y32 =>
condK y32
(some (.ret, [s0, (iD (-1)), s2, s3, s4, s5, s6, s7], h5))
(thn (binK .int .add s7 (iD 1)) fun y33 =>
some (.normal, [s0, s1, s2, s3, s4, s5, s6, y33], h5)))
(thn (binK .int .add s7 (iD 1)) fun y34 =>
some (.normal, [s0, s1, s2, s3, s4, s5, s6, y34], h5)))
(thn (binK .int .add s7 (iD 1)) fun y35 =>
some (.normal, [s0, s1, s2, s3, s4, s5, s6, y35], h5)))))
(some ((.exit 0), [s0, s1, s2, s3, s4, s5, s6, s7], h))) := by kernel_rfl

end Go.Proofs.Ytalehbmgbjiigaa
end

section
namespace Go.Proofs.Ytalehbmgbjiigaa
open Go.RowKit
set_option linter.unusedVariables false
set_option linter.unusedSimpArgs false

theorem ar_num (x : Nd) (h : 0 ≤ ar x) (h1 : x.1 ≠ 1) : 0 ≤ x.2 ∧ x.2 ≤ 200 := by
  unfold ar at h
  rw [if_neg h1] at h
  split at h
  · omega
  · rename_i hh
    refine ⟨by omega, ?_⟩
    have hl : (lim x.1 x.2).1 ≤ 200 := by
      unfold lim
      repeat' split
      all_goals simp
    omega
theorem ruleOf_num (x : Nd) (h : 0 ≤ ar x) : numOk (ruleOf x.1) x := by
  intro hn
  have h1 : x.1 ≠ 1 := by
    intro e
    rw [e] at hn
    cases hn
  have := ar_num x h h1
  omega
theorem meth_kind (m : Nat) (r : RuleT) (hr : r ≠ .none) (p : Pg) (x : Nd) (hn : numOk r x) (H : Heap) : callMeth Try.prog (T09e m) r.enc "offshoot/kinds.kind" [progD p, .agg (nodeD x)] H = some (iD (ruleKind p.vars x.2 r), H) := by
  cases r with
  | none => exact absurd rfl hr
  | plain ks is =>
    have hm : methD Try.prog 142 "offshoot/kinds.kind" = some 189 := by kernel_rfl
    simp only [callMeth, RuleT.enc, hm, Option.bind_some]
    show liftF (F_kindOf 142) [.agg [intsD ks, iD is], progD p, .agg (nodeD x)] H = _
    rw [liftF_pure _ _ _ rfl]
    simp [F_kindOf, ruleIn, RuleT.dec, numOk, needN]
  | array ks is =>
    have hm : methD Try.prog 146 "offshoot/kinds.kind" = some 191 := by kernel_rfl
    simp only [callMeth, RuleT.enc, hm, Option.bind_some]
    show liftF (F_kindOf 146) [.agg [intsD ks, iD is], progD p, .agg (nodeD x)] H = _
    rw [liftF_pure _ _ _ rfl]
    have := hn rfl
    simp [F_kindOf, ruleIn, RuleT.dec, numOk, needN, this]
  | scalar b =>
    have hm : methD Try.prog 144 "offshoot/kinds.kind" = some 190 := by kernel_rfl
    simp only [callMeth, RuleT.enc, hm, Option.bind_some]
    show liftF (F_kindOf 144) [.agg [bD b], progD p, .agg (nodeD x)] H = _
    rw [liftF_pure _ _ _ rfl]
    have := hn rfl
    simp [F_kindOf, ruleIn, RuleT.dec, numOk, needN, this]
theorem asked_pure (p : Pg) (x : Nd) (r : RuleT) (n : Nat) (hn : numOk r x) (hb : n ≤ 4000000) (H : Heap) : liftF F_asked [progD p, .agg (nodeD x), r.enc, iD n] H = some (intsD (askV p.vars x n r), H) := by
  rw [liftF_pure _ _ _ (by cases r <;> rfl)]
  have : F_asked [progD p, .agg (nodeD x), r.enc, iD n] = _ := f4_enc (A := progT) (B := ndT) (C := ruleT) (E := intT) _ p x r (n : Int)
  rw [this, if_pos ⟨hn, by omega, by omega⟩]
  simp
theorem kids_pure (l : List Nd) (i : Int) (h : l.length ≤ 3000000) (H : Heap) : liftF F_Kids [nodesD l, iD i] H = some (intsD (kidsv l i), H) := by
  rw [liftF_pure _ _ _ rfl]; simp [F_Kids, h]
theorem ruleNil (r : RuleT) : binN true .ifc .neq r.enc (.v .nilIface) = some (bD (decide (r ≠ .none))) := by
  cases r <;> rfl
theorem kid_facts (l : List Nd) (k : Nat) (j : Nat) (hj : j < (kidsv l k).length) : (k : Int) < (kidsv l k)[j] ∧ 0 ≤ endv l (kidsv l k)[j] ∧ endv l (kidsv l k)[j] ≤ endv l k ∧ (kidsv l k)[j].toNat < l.length := by
  have hm := List.getElem_mem hj
  obtain ⟨h, c, hc, e⟩ := mem_kidsv l k _ hm
  have := kth_range l k h c hc
  rw [← e] at this
  have h2 := endv_in l _ this.2.2.1
  exact ⟨this.1, this.2.2.1, this.2.2.2, h2.2⟩

def ofAt (m : Nat) (p : Pg) (x : Nd) (ks w : List Int) (j : Nat) : Bool := decide (kindV m p.vars p.body (ks.getD j 0) = w.getD j 0) && !(inner x.1 && decide (0 < j) && !decide ((nodeAt p.body (ks.getD j 0)).1 = 20))
def ofH (p : Pg) (x : Nd) : Heap := [.cells 103 4 [iD p.params, intsD p.vars, nodesD p.body, rulesD], .cells 46 2 [iD x.1, iD x.2]]
theorem of_loop (m N : Nat) (p : Pg) (x : Nd) (ks w : List Int) (is : Int)
    (hof : ∀ (j : Nat) (hj : j < ks.length), liftF (F_of m) [.agg [iD p.params, intsD p.vars, nodesD p.body, rulesD], iD ks[j]] (ofH p x) = some (iD (kindV m p.vars p.body ks[j]), ofH p x))
    (hkid : ∀ (j : Nat) (hj : j < ks.length), 0 ≤ ks[j] ∧ ks[j].toNat < p.body.length) (hks : ks.length ≤ 200) (hN : ks.length < N) (hwl : w.length = ks.length) :
    ((∀ i, 0 ≤ i → i < ks.length → ofAt m p x ks w i = true) ∧ loopF Try.prog (T09e m) kp_kinds_checker__of N Try.f83 0 [.hp 0 0, iD 0, .hp 1 0, iD is, intsD w, intsD ks, iD ks.length, iD ((0 : Nat) : Int)] (ofH p x) = some (.exit 0, [.hp 0 0, iD 0, .hp 1 0, iD is, intsD w, intsD ks, iD ks.length, iD ks.length], ofH p x)) ∨
    ∃ i, 0 ≤ i ∧ i < ks.length ∧ ofAt m p x ks w i = false ∧ (∀ j, 0 ≤ j → j < i → ofAt m p x ks w j = true) ∧ loopF Try.prog (T09e m) kp_kinds_checker__of N Try.f83 0 [.hp 0 0, iD 0, .hp 1 0, iD is, intsD w, intsD ks, iD ks.length, iD ((0 : Nat) : Int)] (ofH p x) = some (.ret, [.hp 0 0, iD (-1), .hp 1 0, iD is, intsD w, intsD ks, iD ks.length, iD i], ofH p x) := by
  have load4 : loadH (some 4) (ofH p x) (.hp 0 0) = some (.agg [iD p.params, intsD p.vars, nodesD p.body, rulesD]) := rfl
  have load0 : loadH none (ofH p x) (.hp 1 0) = some (iD x.1) := rfl
  have load2 : loadH none (ofH p x) (.hp 0 2) = some (nodesD p.body) := rfl
  have split3 : ∀ (j : Nat) (hj : j < ks.length) (hw : j < w.length), ofAt m p x ks w j = (decide (kindV m p.vars p.body ks[j] = w[j]) && !(inner x.1 && decide (0 < j) && !decide ((p.body[ks[j].toNat]'(hkid j hj).2).1 = 20))) := by
    intro j hj hw
    simp only [ofAt, getD_in _ _ _ hj, getD_in _ _ _ hw, nodeAt, getD_in _ _ _ (hkid j hj).2]
  refine loopF_scan (fun j => [.hp 0 0, iD 0, .hp 1 0, iD is, intsD w, intsD ks, iD ks.length, iD j]) (ofH p x) ks.length (ofAt m p x ks w) (fun i => (.ret, [.hp 0 0, iD (-1), .hp 1 0, iD is, intsD w, intsD ks, iD ks.length, iD i], ofH p x)) _ (fun i => by intro e; cases e) (by intro e; cases e) 0 N (Nat.zero_le _) (by omega) ?_ ?_ ?_
  · intro j _ hj hp
    have hw : j < w.length := by omega
    have e1 := intD_add (j : Int) 1 (by omega) (by omega)
    have h1 : (j : Int) < ks.length := by omega
    obtain ⟨k0, k1⟩ := hkid j hj
    rw [split3 j hj hw, Bool.and_eq_true, decide_eq_true_eq] at hp
    obtain ⟨hp1, hp2⟩ := hp
    rw [st_kinds_checker__of_0]
    by_cases h23 : x.1 = 23
    · by_cases hj0 : 0 < j
      · have h20 : (p.body[ks[j].toNat]).1 = 20 := by simpa [inner, h23, hj0] using hp2
        simp [-loadH_hp, h1, idx_intsN _ _ hj, idx_intsN _ _ hw, load4, load0, load2, hof j hj, hp1, h23, e1, hj0, idx_nodes _ _ k0 k1, h20]
      · simp [-loadH_hp, h1, idx_intsN _ _ hj, idx_intsN _ _ hw, load4, load0, load2, hof j hj, hp1, h23, e1, hj0]
    · by_cases h24 : x.1 = 24
      · by_cases hj0 : 0 < j
        · have h20 : (p.body[ks[j].toNat]).1 = 20 := by simpa [inner, h24, hj0] using hp2
          simp [-loadH_hp, h1, idx_intsN _ _ hj, idx_intsN _ _ hw, load4, load0, load2, hof j hj, hp1, h23, h24, e1, hj0, idx_nodes _ _ k0 k1, h20]
        · simp [-loadH_hp, h1, idx_intsN _ _ hj, idx_intsN _ _ hw, load4, load0, load2, hof j hj, hp1, h23, h24, e1, hj0]
      · simp [-loadH_hp, h1, idx_intsN _ _ hj, idx_intsN _ _ hw, load4, load0, load2, hof j hj, hp1, h23, h24, e1]
  · intro j _ hj hp
    have hw : j < w.length := by omega
    have h1 : (j : Int) < ks.length := by omega
    obtain ⟨k0, k1⟩ := hkid j hj
    rw [split3 j hj hw] at hp
    rw [st_kinds_checker__of_0]
    by_cases hq : kindV m p.vars p.body ks[j] = w[j]
    · simp only [hq, decide_true, Bool.true_and, Bool.not_eq_false', Bool.and_eq_true, decide_eq_true_eq, Bool.not_eq_true', decide_eq_false_iff_not] at hp
      obtain ⟨⟨hp1, hp2⟩, hp3⟩ := hp
      have hj0 : 0 < j := hp2
      by_cases h23 : x.1 = 23
      · simp [-loadH_hp, h1, idx_intsN _ _ hj, idx_intsN _ _ hw, load4, load0, load2, hof j hj, hq, h23, hj0, idx_nodes _ _ k0 k1, hp3]
      · have h24 : x.1 = 24 := by simpa [inner, h23] using hp1
        simp [-loadH_hp, h1, idx_intsN _ _ hj, idx_intsN _ _ hw, load4, load0, load2, hof j hj, hq, h23, h24, hj0, idx_nodes _ _ k0 k1, hp3]
    · simp [-loadH_hp, h1, idx_intsN _ _ hj, idx_intsN _ _ hw, load4, load0, load2, hof j hj, hq]
  · rw [st_kinds_checker__of_0]
    simp
theorem C_of : ∀ m : Nat, CallOk Try.prog 83 (F_of m)
  | 0 => ⟨⟨_, Try.func83, by decide, rfl⟩, fun ds d hF => by
      exfalso
      unfold F_of F2 at hF
      split at hF
      · obtain ⟨p, _, hF⟩ := Option.bind_eq_some_iff.1 hF
        obtain ⟨i, _, hF⟩ := Option.bind_eq_some_iff.1 hF
        simp only at hF
        split at hF
        · rename_i hc
          simp only [ofOk, Bool.and_eq_true, decide_eq_true_eq] at hc
          have := (endv_in p.body i hc.1.1).2
          omega
        · cases hF
      · cases hF⟩
  | m + 1 => by
    have hT : TabOk Try.prog (T09e m) := tabOk_of (entries_cons (entry_lift (C_of m)) fs09d_ok)
    refine call2 (kp := kp_kinds_checker__of) hT mixed Try.func83 (by kernel_rfl) (by decide) fun p i d h => ?_
    split at h
    case isFalse => cases h
    rename_i hc
    cases h
    simp only [ofOk, Bool.and_eq_true, decide_eq_true_eq] at hc
    obtain ⟨⟨hE, hlen⟩, hm⟩ := hc
    obtain ⟨h0, hil⟩ := endv_in p.body i hE
    obtain ⟨k, rfl⟩ := Int.eq_ofNat_of_zero_le h0
    have hk : k < p.body.length := by simpa using hil
    have har : 0 ≤ ar p.body[k] := by have := endv_ar p.body k hE; rwa [arAt_in _ _ hk] at this
    have hn := ruleOf_num p.body[k] har
    have hna : nodeAt p.body k = p.body[k] := by unfold nodeAt; rw [Int.toNat_natCast, getD_in _ _ _ hk]
    have hkl := kidsv_len p.body k
    have hkid : ∀ (j : Nat) (hj : j < (kidsv p.body k).length), 0 ≤ (kidsv p.body k)[j] ∧ (kidsv p.body k)[j].toNat < p.body.length := fun j hj => by
      have := kid_facts p.body k j hj
      exact ⟨by omega, this.2.2.2⟩
    have hof : ∀ (j : Nat) (hj : j < (kidsv p.body k).length), liftF (F_of m) [.agg [iD p.params, intsD p.vars, nodesD p.body, rulesD], iD (kidsv p.body k)[j]] (ofH p p.body[k]) = some (iD (kindV m p.vars p.body (kidsv p.body k)[j]), ofH p p.body[k]) := by
      intro j hj
      have hf := kid_facts p.body k j hj
      rw [liftF_pure _ _ _ rfl]
      have : F_of m [.agg [iD p.params, intsD p.vars, nodesD p.body, rulesD], iD (kidsv p.body k)[j]] = _ := f2_enc (A := chkT) (B := intT) _ p (kidsv p.body k)[j]
      rw [this, if_pos]
      · rfl
      · simp only [ofOk, Bool.and_eq_true, decide_eq_true_eq]
        refine ⟨⟨hf.2.1, hlen⟩, ?_⟩
        have := hf.1
        simp only [Int.toNat_natCast] at hm
        omega
    have hkind : kindV (m + 1) p.vars p.body k = if ruleKind p.vars p.body[k].2 (ruleOf p.body[k].1) = -1 ∨ (askV p.vars p.body[k] (kidsv p.body k).length (ruleOf p.body[k].1)).length ≠ (kidsv p.body k).length then -1 else
        if (List.range (kidsv p.body k).length).all (ofAt m p p.body[k] (kidsv p.body k) (askV p.vars p.body[k] (kidsv p.body k).length (ruleOf p.body[k].1))) then ruleKind p.vars p.body[k].2 (ruleOf p.body[k].1) else -1 := by
      rw [kindV, if_neg (by omega)]
      simp only [hna]
      rfl
    have hask := fun H => asked_pure p p.body[k] (ruleOf p.body[k].1) (kidsv p.body k).length hn (by omega) H
    have hmeth := fun (hr : ruleOf p.body[k].1 ≠ .none) H => meth_kind m (ruleOf p.body[k].1) hr p p.body[k] hn H
    have hloop := of_loop m ((kidsv p.body k).length + 1) p p.body[k] (kidsv p.body k) (askV p.vars p.body[k] (kidsv p.body k).length (ruleOf p.body[k].1))
    refine ⟨(kidsv p.body k).length + 1, _, ?_, Imp.refl _⟩
    show outD (textK _ _ _ _ _ [.agg (chkC p), iD (k : Int)] []) = _
    rw [sh_kinds_checker__of, hkind]
    rw [box_agg _ _ _ rfl]
    have ea : ∀ o : HO, allocH 46 [iD 0, iD 0] [o] = some (.hp 1 0, [o, .cells 46 2 [iD 0, iD 0]]) := fun o => rfl
    have es : ∀ o : HO, setH 2 (.hp 1 0) (.agg (nodeD p.body[k])) [o, .cells 46 2 [iD 0, iD 0]] = some (.v undef, [o, .cells 46 2 [iD p.body[k].1, iD p.body[k].2]]) := fun o => rfl
    have ep : D.agg [iD p.params, intsD p.vars, nodesD p.body] = progD p := rfl
    have en : D.agg [iD p.body[k].1, iD p.body[k].2] = .agg (nodeD p.body[k]) := rfl
    have hlook := look_rules p.body[k].1
    have hlk : ∀ a b : Nat, ((a : Int) = b) = (a = b) := fun a b => by simp only [eq_iff_iff]; omega
    generalize ruleOf p.body[k].1 = r at hn hkind hask hmeth hloop hlook ⊢
    have hall1 : (∀ i, 0 ≤ i → i < (kidsv p.body k).length → ofAt m p p.body[k] (kidsv p.body k) (askV p.vars p.body[k] (kidsv p.body k).length r) i = true) → (List.range (kidsv p.body k).length).all (ofAt m p p.body[k] (kidsv p.body k) (askV p.vars p.body[k] (kidsv p.body k).length r)) = true := fun q => by
      rw [List.all_eq_true]; intro i hi; exact q i (Nat.zero_le _) (by simpa using hi)
    have hall2 : ∀ i, i < (kidsv p.body k).length → ofAt m p p.body[k] (kidsv p.body k) (askV p.vars p.body[k] (kidsv p.body k).length r) i = false → (List.range (kidsv p.body k).length).all (ofAt m p p.body[k] (kidsv p.body k) (askV p.vars p.body[k] (kidsv p.body k).length r)) = false := fun i hi q => by
      rw [Bool.eq_false_iff]; intro e; rw [List.all_eq_true] at e
      have := e i (by simpa using hi)
      rw [q] at this; cases this
    have hr := fun is hl => hloop is hof hkid hkl (by omega) hl
    simp only [ofH, cast0] at hr
    generalize askV p.vars p.body[k] (kidsv p.body k).length r = ww at hall1 hall2 hask hr ⊢
    by_cases hn0 : r = .none
    · subst hn0
      have h2 : ruleKind p.vars p.body[k].2 RuleT.none = 2 := rfl
      by_cases hl : ww.length = (kidsv p.body k).length
      · rcases hr 2 hl with ⟨q1, q2⟩ | ⟨i, _, q1, q2, q3, q4⟩
        · have hall := hall1 q1
          simp [chkC, idx_nodesN _ _ hk, ea, es, kids_pure _ _ hlen, hlook, ruleNil, ep, en, h2, hask, hl, q2, hall]
        · have hall := hall2 i q1 q2
          simp [chkC, idx_nodesN _ _ hk, ea, es, kids_pure _ _ hlen, hlook, ruleNil, ep, en, h2, hask, hl, q4, hall]
      · simp [chkC, idx_nodesN _ _ hk, ea, es, kids_pure _ _ hlen, hlook, ruleNil, ep, en, h2, hask, hl, hlk]
    · have hm' := hmeth hn0
      generalize ruleKind p.vars p.body[k].2 r = is at hm' ⊢
      by_cases his : is = -1
      · simp [chkC, idx_nodesN _ _ hk, ea, es, kids_pure _ _ hlen, hlook, ruleNil, ep, en, hask, hm', hn0, his]
      · by_cases hl : ww.length = (kidsv p.body k).length
        · rcases hr is hl with ⟨q1, q2⟩ | ⟨i, _, q1, q2, q3, q4⟩
          · have hall := hall1 q1
            simp [chkC, idx_nodesN _ _ hk, ea, es, kids_pure _ _ hlen, hlook, ruleNil, ep, en, hask, hm', hn0, his, hl, q2, hall]
          · have hall := hall2 i q1 q2
            simp [chkC, idx_nodesN _ _ hk, ea, es, kids_pure _ _ hlen, hlook, ruleNil, ep, en, hask, hm', hn0, his, hl, q4, hall]
        · simp [chkC, idx_nodesN _ _ hk, ea, es, kids_pure _ _ hlen, hlook, ruleNil, ep, en, hask, hm', hn0, his, hl, hlk]
end Go.Proofs.Ytalehbmgbjiigaa
end

section
namespace Go.Proofs.Ytalehbmgbjiigaa
open Go.RowKit
set_option linter.unusedVariables false
set_option linter.unusedSimpArgs false

def allV (m : Nat) (p : Pg) (ks want : List Int) : Bool := decide (ks.length = want.length) && (List.range ks.length).all fun j => decide (kindV m p.vars p.body (ks.getD j 0) = want.getD j 0)
def F_refOf (m : Nat) : List D → Option D := F2 progT intT fun p i => if p.body.length ≤ 3000000 ∧ 0 < m ∧ (endv p.body i < 0 ∨ p.body.length < i.toNat + m) then some (iD (kindV m p.vars p.body i)) else none
def F_all (m : Nat) : List D → Option D := F3 progT intsT intsT fun p ks want => if p.body.length ≤ 3000000 ∧ ks.length ≤ 3000000 ∧ 0 < m ∧ (∀ k ∈ ks, p.body.length < k.toNat + m) then some (bD (allV m p ks want)) else none
def fs09f (m : Nat) : List Entry := fs09d
def T09f (m : Nat) : Tab := ⟨fs09f m, noYl⟩
def fs09g (m : Nat) : List Entry := fs09d
def T09g (m : Nat) : Tab := ⟨fs09g m, noYl⟩
end Go.Proofs.Ytalehbmgbjiigaa
end

section
namespace Go.Proofs.Ytalehbmgbjiigaa
open Go.RowKit
set_option linter.unusedVariables false
set_option maxRecDepth 100000
variable (m : Nat)

def kp_offshootref09_Of : List Nat := [2, 4, 6, 8]
end Go.Proofs.Ytalehbmgbjiigaa
end

section
namespace Go.Proofs.Ytalehbmgbjiigaa
open Go.RowKit
set_option linter.unusedVariables false
set_option maxRecDepth 100000
variable (m : Nat)

def kp_offshootref09_all : List Nat := [1, 2, 3, 6, 7]
end Go.Proofs.Ytalehbmgbjiigaa
end

section
namespace Go.Proofs.Ytalehbmgbjiigaa
open Go.RowKit
set_option linter.unusedVariables false
set_option linter.unusedSimpArgs false

theorem ar_tag (x : Nd) (h : 0 ≤ ar x) : 1 ≤ x.1 ∧ x.1 ≤ 26 := by
  unfold ar at h
  split at h
  · omega
  · split at h
    · omega
    · rename_i h1 h2
      unfold lim at h2
      repeat' split at h2
      all_goals (try (simp only at h2)); omega
theorem kids_count (l : List Nd) (k : Nat) (h : 0 ≤ endv l k) (hk : k < l.length) : (kidsv l k).length = (ar l[k]).toNat := by
  rw [kidsv_eq l k h, upto_length, arAt_in l k hk]

theorem all_split (n : Nat) (f g : Nat → Bool) : ((List.range n).all fun j => f j && g j) = ((List.range n).all f && (List.range n).all g) := by
  induction n with
  | zero => rfl
  | succ n ih =>
    simp only [List.range_succ, List.all_append, ih]
    simp only [List.all_cons, List.all_nil, Bool.and_true]
    cases (List.range n).all f <;> cases (List.range n).all g <;> cases f n <;> cases g n <;> rfl
/-- A kind, by what is asked of kids all at once. -/
theorem kind_all (m : Nat) (p : Pg) (k : Nat) (h : 0 ≤ endv p.body k) (hk : k < p.body.length) (r : RuleT) (hr : ruleOf p.body[k].1 = r) : kindV (m + 1) p.vars p.body k =
    if ruleKind p.vars p.body[k].2 r = -1 then -1 else
    if allV m p (kidsv p.body k) (askV p.vars p.body[k] (kidsv p.body k).length r) && (!inner p.body[k].1 || blkV p.body (kidsv p.body k) 1) then ruleKind p.vars p.body[k].2 r else -1 := by
  have hna : nodeAt p.body k = p.body[k] := by unfold nodeAt; rw [Int.toNat_natCast, getD_in _ _ _ hk]
  rw [kindV, if_neg (by omega)]
  simp only [hna, hr]
  generalize ruleKind p.vars p.body[k].2 r = is
  generalize askV p.vars p.body[k] (kidsv p.body k).length r = w
  generalize kidsv p.body k = ks
  by_cases his : is = -1
  · simp [his]
  · by_cases hl : w.length = ks.length
    · rw [if_neg (by simp [his, hl]), if_neg his, all_split]
      have hb : ((List.range ks.length).all fun j => !(inner p.body[k].1 && decide (0 < j) && !decide ((nodeAt p.body (ks.getD j 0)).1 = 20))) = (!inner p.body[k].1 || blkV p.body ks 1) := by
        cases hi : inner p.body[k].1 with
        | false => simp
        | true =>
          simp only [Bool.true_and, Bool.not_true, Bool.false_or]
          rw [Bool.eq_iff_iff]
          simp only [List.all_eq_true, List.mem_range, blkV, Bool.not_eq_true', Bool.and_eq_false_iff, decide_eq_false_iff_not, Bool.not_eq_false', decide_eq_true_eq]
          constructor
          · intro q y hy
            obtain ⟨j, hj, e⟩ := List.getElem_of_mem hy
            simp only [List.length_drop] at hj
            rw [List.getElem_drop] at e
            rcases q (1 + j) (by omega) with q | q
            · omega
            · have hj' : 1 + j < ks.length := by omega
              rw [getD_in _ _ _ hj', e] at q; exact q
          · intro q j hj
            by_cases h0 : 0 < j
            · right
              rw [getD_in _ _ _ hj]
              show (p.body.getD (ks[j]).toNat (0, 0)).1 = 20
              refine q _ ?_
              have : j = 1 + (j - 1) := by omega
              rw [List.mem_iff_getElem]
              refine ⟨j - 1, by simp; omega, ?_⟩
              rw [List.getElem_drop]
              congr 1
              omega
            · exact .inl h0
      rw [hb]
      simp [allV, hl]
    · rw [if_pos (.inr hl), if_neg his]
      have : allV m p ks w = false := by simp [allV, show ¬ ks.length = w.length from fun e => hl e.symm]
      simp [this]

theorem row1 (t : TypeId) (a : Int) (H : Heap) : rowH t 1 1 [iD 0] [(0, iD a)] H = some (.hs H.length 1, H ++ [.cells t 1 [iD a]]) := rfl
theorem row2 (t : TypeId) (a b : Int) (H : Heap) : rowH t 1 2 [iD 0] [(0, iD a), (1, iD b)] H = some (.hs H.length 2, H ++ [.cells t 1 [iD a, iD b]]) := rfl
theorem row3 (t : TypeId) (a b c : Int) (H : Heap) : rowH t 1 3 [iD 0] [(0, iD a), (1, iD b), (2, iD c)] H = some (.hs H.length 3, H ++ [.cells t 1 [iD a, iD b, iD c]]) := rfl
section
variable (m : Nat) (p : Pg) (ks : List Int) (hp : p.body.length ≤ 3000000) (hks : ks.length ≤ 3000000) (hm : 0 < m) (hk : ∀ k ∈ ks, p.body.length < k.toNat + m)
include hp hks hm hk
theorem all_obj (H : Heap) (id : Nat) (t : TypeId) (l : List Int) (h : H[id]? = some (.cells t 1 (l.map iD))) : liftF (F_all m) [progD p, intsD ks, .hs id l.length] H = some (bD (allV m p ks l), H) := by
  have hd : [progD p, intsD ks, .hs id l.length].mapM (derefN H 9) = some [progD p, intsD ks, intsD l] := by
    simp only [List.mapM_cons, List.mapM_nil, derefN_pure H 9 (progD p) rfl, derefN_pure H 9 (intsD ks) rfl, deref_ints H 8 id t l h]
    rfl
  rw [liftF_obj _ _ _ _ rfl hd]
  have : F_all m [progD p, intsD ks, intsD l] = _ := f3_enc (A := progT) (B := intsT) (C := intsT) _ p ks l
  rw [this, if_pos ⟨hp, hks, hm, hk⟩]
  rfl
end
theorem kindF_pure (b : Bool) (k : Int) (H : Heap) : liftF F_kind [bD b, iD k] H = some (iD (if b then k else -1), H) := by rw [liftF_pure _ _ _ rfl]; rfl
theorem typed_pure (p : Pg) (v : Int) (H : Heap) : liftF F_typed [progD p, iD v] H = some (iD (typedV p.vars v), H) := by
  rw [liftF_pure _ _ _ rfl]
  have : F_typed [progD p, iD v] = _ := f2_enc (A := progT) (B := intT) _ p v
  rw [this]; rfl
theorem refEnd_pure (l : List Nd) (i : Int) (h : l.length ≤ 3000000) (H : Heap) : liftF F_RefEnd [nodesD l, iD i] H = some (iD (endv l i), H) := by
  rw [liftF_pure _ _ _ rfl]; simp [F_RefEnd, h]
theorem end_pure (l : List Nd) (i : Int) (h : l.length ≤ 3000000) (H : Heap) : liftF F_End [nodesD l, iD i] H = some (iD (endv l i), H) := by
  rw [liftF_pure _ _ _ rfl]; simp [F_End, h]
theorem refKids_pure (l : List Nd) (i : Int) (h : l.length ≤ 3000000) (H : Heap) : liftF F_RefKids [nodesD l, iD i] H = some (intsD (kidsv l i), H) := by
  rw [liftF_pure _ _ _ rfl]; simp [F_RefKids, h]
theorem blocks_pure (p : Pg) (ks : List Int) (h1 : ks.length ≤ 3000000) (h2 : ∀ k ∈ ks, 0 ≤ k ∧ k.toNat < p.body.length) (H : Heap) : liftF F_blocks [progD p, intsD ks, iD 1] H = some (bD (blkV p.body ks 1), H) := by
  rw [liftF_pure _ _ _ rfl]
  have : F_blocks [progD p, intsD ks, iD 1] = _ := f3_enc (A := progT) (B := intsT) (C := intT) _ p ks 1
  rw [this, if_pos ⟨by omega, h1, h2⟩]; rfl
theorem refOf_pure (m : Nat) (p : Pg) (i : Int) (hp : p.body.length ≤ 3000000) (hm : 0 < m) (hi : endv p.body i < 0 ∨ p.body.length < i.toNat + m) (H : Heap) : liftF (F_refOf m) [progD p, iD i] H = some (iD (kindV m p.vars p.body i), H) := by
  rw [liftF_pure _ _ _ rfl]
  have : F_refOf m [progD p, iD i] = _ := f2_enc (A := progT) (B := intT) _ p i
  rw [this, if_pos ⟨hp, hm, hi⟩]; rfl

end Go.Proofs.Ytalehbmgbjiigaa
end

section
namespace Go.Proofs.Ytalehbmgbjiigaa
open Go.RowKit
set_option linter.unusedVariables false
set_option linter.unusedSimpArgs false
set_option maxHeartbeats 1000000

theorem sizeV_pos (t : Int) (h : ¬ sizeV t = 0) : 0 < sizeV t := by unfold sizeV at h ⊢; split at h <;> simp_all; omega
end Go.Proofs.Ytalehbmgbjiigaa
end

section
namespace Go.Proofs.Ytalehbmgbjiigaa
open Go.RowKit
set_option linter.unusedVariables false
set_option linter.unusedSimpArgs false
set_option maxHeartbeats 1000000

end Go.Proofs.Ytalehbmgbjiigaa
end

section
namespace Go.Proofs.Ytalehbmgbjiigaa
open Go.RowKit
set_option linter.unusedVariables false
set_option linter.unusedSimpArgs false
set_option maxHeartbeats 1000000

end Go.Proofs.Ytalehbmgbjiigaa
end

section
namespace Go.Proofs.Ytalehbmgbjiigaa
open Go.RowKit
set_option linter.unusedVariables false
set_option linter.unusedSimpArgs false

/-- A node's kind. -/
def knd (p : Pg) (i : Int) : Int := kindV (p.body.length + 1) p.vars p.body i
def F_Of9 : List D → Option D := F2 progT intT fun p i => if p.body.length ≤ 3000000 then some (iD (knd p i)) else none
/-- It makes no difference how deep one may go, if it is deep enough. -/
theorem kindV_deep : ∀ (a b : Nat) (vs : List Int) (l : List Nd) (i : Int), 0 ≤ endv l i → l.length < i.toNat + a → l.length < i.toNat + b → kindV a vs l i = kindV b vs l i
  | 0, b, vs, l, i, h, ha, hb => by have := (endv_in l i h).2; omega
  | a, 0, vs, l, i, h, ha, hb => by have := (endv_in l i h).2; omega
  | a + 1, b + 1, vs, l, i, h, ha, hb => by
    obtain ⟨h0, hil⟩ := endv_in l i h
    obtain ⟨k, rfl⟩ := Int.eq_ofNat_of_zero_le h0
    simp only [Int.toNat_natCast] at ha hb
    have hk : ∀ j, j < (kidsv l k).length → kindV a vs l ((kidsv l k).getD j 0) = kindV b vs l ((kidsv l k).getD j 0) := fun j hj => by
      rw [getD_in _ _ _ hj]
      have := kid_facts l k j hj
      exact kindV_deep a b vs l _ this.2.1 (by omega) (by omega)
    have hall : ∀ f : Nat → Bool, ((List.range (kidsv l k).length).all fun j => decide (kindV a vs l ((kidsv l k).getD j 0) = (askV vs (nodeAt l k) (kidsv l k).length (ruleOf (nodeAt l k).1)).getD j 0) && f j) = ((List.range (kidsv l k).length).all fun j => decide (kindV b vs l ((kidsv l k).getD j 0) = (askV vs (nodeAt l k) (kidsv l k).length (ruleOf (nodeAt l k).1)).getD j 0) && f j) := fun f => by
      rw [Bool.eq_iff_iff]
      simp only [List.all_eq_true, List.mem_range]
      constructor
      · intro q j hj; have := q j hj; rwa [hk j hj] at this
      · intro q j hj; have := q j hj; rwa [hk j hj]
    rw [kindV, kindV, hall]
def F_ofAll : List D → Option D := F2 chkT intT fun p i => if ofOk p i then some (iD (knd p i)) else none
theorem C_ofAll : CallOk Try.prog 83 F_ofAll := call_any C_of fun ds d hF => by
  unfold F_ofAll F2 at hF
  split at hF
  · obtain ⟨p, h1, hF⟩ := Option.bind_eq_some_iff.1 hF
    obtain ⟨i, h2, hF⟩ := Option.bind_eq_some_iff.1 hF
    simp only at hF
    split at hF
    · rename_i hp
      cases hF
      refine ⟨p.body.length + 1, ?_⟩
      simp only [F_of, F2, h1, h2, Option.bind_some]
      rw [if_pos]
      · rfl
      · simp only [hp, Bool.true_and, decide_eq_true_eq]; omega
    · cases hF
  · cases hF
def fs09h : List Entry := (83, true, liftF F_ofAll) :: fs09d
theorem fs09h_ok : ∀ p ∈ fs09h, EntryOk Try.prog p := entries_cons (entry_lift C_ofAll) <| fs09d_ok
def T09h : Tab := ⟨fs09h, noYl⟩
theorem T09h_ok : TabOk Try.prog T09h := tabOk_of fs09h_ok
end Go.Proofs.Ytalehbmgbjiigaa
end

section
namespace Go.Proofs.Ytalehbmgbjiigaa
open Go.RowKit
set_option linter.unusedVariables false
set_option maxRecDepth 100000

def kp_kinds_Of : List Nat := []
theorem sh_kinds_Of (n : Nat) (x0 x1 : D) (h : Heap) : textK Try.prog T09h kp_kinds_Of n Try.f38 [x0, x1] h =
(thnH (boxH 25 x0 h) fun y0 h1 =>
thn (fieldAtH 2 y0) fun y2 =>
thn (loadH none h1 y2) fun y3 =>
thnH (liftF F_End [y3, x1] h1) fun y4 h5 =>
thn (binK .int .lss y4 (iD 0)) fun y6 =>
condK y6
(some ((iD (-1)), h5))
(thn (loadH (some 3) h5 y0) fun y7 =>
thnH (liftF F_rules [] h5) fun y8 h9 =>
thn (buildR [(0, 3), (3, 1)] [(iD 0), (.v (.slice none 0 0)), (.v (.slice none 0 0)), (.v (.map none))] [(0, y7), (1, y8)]) fun y10 =>
thnH (liftF F_ofAll [y10, x1] h9) fun y11 h12 =>
some (y11, h12))) := by kernel_rfl

end Go.Proofs.Ytalehbmgbjiigaa
end

section
namespace Go.Proofs.Ytalehbmgbjiigaa
open Go.RowKit
set_option linter.unusedVariables false
set_option linter.unusedSimpArgs false

theorem knd_no {p : Pg} {i : Int} (h : endv p.body i < 0) : knd p i = -1 := by rw [knd, kindV, if_pos h]
theorem rules_pure (H : Heap) : liftF F_rules [] H = some (rulesD, H) := by rw [liftF_pure _ _ _ rfl]; rfl
theorem ofAll_pure (p : Pg) (i : Int) (h : ofOk p i = true) (H : Heap) : liftF F_ofAll [.agg (chkC p), iD i] H = some (iD (knd p i), H) := by
  rw [liftF_pure _ _ _ rfl]
  have : F_ofAll [.agg (chkC p), iD i] = _ := f2_enc (A := chkT) (B := intT) _ p i
  rw [this, if_pos h]; rfl
theorem C_Of9 : CallOk Try.prog 38 F_Of9 := call2 (kp := kp_kinds_Of) T09h_ok mixed Try.func38 (by kernel_rfl) (by decide) fun p i d h => by
  split at h
  case isFalse => cases h
  rename_i hp
  cases h
  refine ⟨0, _, ?_, Imp.refl _⟩
  show outD (textK _ _ _ _ _ [progD p, iD i] []) = _
  rw [sh_kinds_Of]
  by_cases hE : endv p.body i < 0
  · simp [end_pure p.body i hp, hE, knd_no hE]
  · have hb : buildR [(0, 3), (3, 1)] [iD 0, .v (.slice none 0 0), .v (.slice none 0 0), .v (.map none)] [(0, .agg [iD p.params, intsD p.vars, nodesD p.body]), (1, rulesD)] = some (.agg (chkC p)) := rfl
    have hok : ofOk p i = true := by simp only [ofOk, decide_eq_true_eq]; omega
    simp [end_pure p.body i hp, hE, rules_pure, hb, ofAll_pure p i hok]

def fs09j : List Entry := (38, true, liftF F_Of9) :: fs09h
theorem fs09j_ok : ∀ p ∈ fs09j, EntryOk Try.prog p := entries_cons (entry_lift C_Of9) <| fs09h_ok
def T09j : Tab := ⟨fs09j, noYl⟩
theorem T09j_ok : TabOk Try.prog T09j := tabOk_of fs09j_ok
end Go.Proofs.Ytalehbmgbjiigaa
end

section
namespace Go.Proofs.Ytalehbmgbjiigaa
open Go.RowKit
set_option linter.unusedVariables false
set_option maxRecDepth 100000

def kp_kinds_Check : List Nat := []
theorem sh_kinds_Check (n : Nat) (x0 : D) (h : Heap) : textK Try.prog T09j kp_kinds_Check n Try.f37 [x0] h =
(thnH (boxH 25 x0 h) fun y0 h1 =>
thn (fieldAtH 2 y0) fun y2 =>
thn (loadH none h1 y2) fun y3 =>
thnH (liftF F_Check [y3] h1) fun y4 h5 =>
thn (binK .int .neq y4 (iD 0)) fun y6 =>
condK y6
(some (y4, h5))
(thn (loadH (some 3) h5 y0) fun y7 =>
thnH (liftF F_Vars [y7] h5) fun y8 h9 =>
thn (binK .int .neq y8 (iD 0)) fun y10 =>
condK y10
(some (y8, h9))
(thn (fieldAtH 2 y0) fun y11 =>
thn (loadH none h9 y11) fun y12 =>
thn (idxH 2 y12 (iD 0)) fun y13 =>
thn (fieldAtH 0 y13) fun y14 =>
thn (loadH none h9 y14) fun y15 =>
thn (binK .int .neq y15 (iD 20)) fun y16 =>
condK y16
(some ((iD 15), h9))
(thn (loadH (some 3) h9 y0) fun y17 =>
thnH (liftF F_Of9 [y17, (iD 0)] h9) fun y18 h19 =>
thn (binK .int .neq y18 (iD 2)) fun y20 =>
condK y20
(some ((iD 15), h19))
(some ((iD 0), h19)))))) := by kernel_rfl

def kp_offshootref09_Check : List Nat := []
end Go.Proofs.Ytalehbmgbjiigaa
end

section
namespace Go.Proofs.Ytalehbmgbjiigaa
open Go.RowKit
set_option linter.unusedVariables false
set_option linter.unusedSimpArgs false

/-- Is a program typed? -/
def chk9 (p : Pg) : Int :=
  if checkV p.body ≠ 0 then checkV p.body else
  if varsV p ≠ 0 then varsV p else
  if (nodeAt p.body 0).1 ≠ 20 ∨ knd p 0 ≠ 2 then 15 else 0
def F_Check9 : List D → Option D := F1 progT fun p => if p.body.length ≤ 3000000 then some (iD (chk9 p)) else none
theorem check_pure (l : List Nd) (h : l.length ≤ 3000000) (H : Heap) : liftF F_Check [nodesD l] H = some (iD (checkV l), H) := by
  rw [liftF_pure _ _ _ rfl]; simp [F_Check, h]
theorem refCheck_pure (l : List Nd) (h : l.length ≤ 3000000) (H : Heap) : liftF F_RefCheck [nodesD l] H = some (iD (checkV l), H) := by
  rw [liftF_pure _ _ _ rfl]; simp [F_RefCheck, h]
theorem vars_pure (p : Pg) (H : Heap) : liftF F_Vars [progD p] H = some (iD (varsV p), H) := by
  rw [liftF_pure _ _ _ rfl]
  have : F_Vars [progD p] = _ := f1_enc (A := progT) _ p
  rw [this]; rfl
theorem of9_pure (p : Pg) (i : Int) (h : p.body.length ≤ 3000000) (H : Heap) : liftF F_Of9 [progD p, iD i] H = some (iD (knd p i), H) := by
  rw [liftF_pure _ _ _ rfl]
  have : F_Of9 [progD p, iD i] = _ := f2_enc (A := progT) (B := intT) _ p i
  rw [this, if_pos h]; rfl
theorem check_pos {l : List Nd} (h : checkV l = 0) : 0 < l.length := by
  unfold checkV at h
  split at h
  · cases h
  · omega
theorem C_Check9 : CallOk Try.prog 37 F_Check9 := call1 (kp := kp_kinds_Check) T09j_ok mixed Try.func37 (by kernel_rfl) (by decide) fun p d h => by
  split at h
  case isFalse => cases h
  rename_i hp
  cases h
  refine ⟨0, _, ?_, Imp.refl _⟩
  show outD (textK _ _ _ _ _ [progD p] []) = _
  rw [sh_kinds_Check]
  have ep : D.agg [iD p.params, intsD p.vars, nodesD p.body] = progD p := rfl
  unfold chk9
  by_cases h1 : checkV p.body = 0
  · by_cases h2 : varsV p = 0
    · have h0 := check_pos h1
      have hn : nodeAt p.body 0 = p.body[0] := by unfold nodeAt; exact getD_in _ 0 _ h0
      have hi := idx_nodesN p.body 0 h0
      simp only [cast0] at hi
      by_cases h3 : (p.body[0]).1 = 20
      · by_cases h4 : knd p 0 = 2
        · simp [check_pure _ hp, h1, vars_pure, h2, hn, hi, h3, of9_pure p 0 hp, h4, ep]
        · simp [check_pure _ hp, h1, vars_pure, h2, hn, hi, h3, of9_pure p 0 hp, h4, ep]
      · simp [check_pure _ hp, h1, vars_pure, h2, hn, hi, h3, ep]
    · simp [check_pure _ hp, h1, vars_pure, h2, ep]
  · simp [check_pure _ hp, h1]
def fs09k : List Entry := (37, true, liftF F_Check9) :: fs09j
theorem fs09k_ok : ∀ p ∈ fs09k, EntryOk Try.prog p := entries_cons (entry_lift C_Check9) <| fs09j_ok
def T09k : Tab := ⟨fs09k, noYl⟩
theorem T09k_ok : TabOk Try.prog T09k := tabOk_of fs09k_ok

/-- A function without parameters that gives true. -/
def F_true : List D → Option D := F0 (some (bD true))
def fsL09 : List Entry := fs09k
theorem fsL09_ok : ∀ p ∈ fsL09, EntryOk Try.prog p := fs09k_ok
def L09 : Tab := ⟨fsL09, noYl⟩
theorem L09_ok : TabOk Try.prog L09 := tabOk_of fsL09_ok
end Go.Proofs.Ytalehbmgbjiigaa
end

section
namespace Go.Proofs.Ytalehbmgbjiigaa
open Go.RowKit
set_option linter.unusedVariables false
set_option linter.unusedSimpArgs false

/-- A node's kind, with fuel enough. -/
def kv (vs : List Int) (l : List Nd) (i : Int) : Int := kindV (l.length + 1) vs l i
/-- A node's kind, by its kids' kinds and tags. -/
def stepV (vs : List Int) (x : Nd) (kk tt : List Int) : Int :=
  if ruleKind vs x.2 (ruleOf x.1) = -1 ∨ (askV vs x kk.length (ruleOf x.1)).length ≠ kk.length then -1 else
  if (List.range kk.length).all (fun j => decide (kk.getD j 0 = (askV vs x kk.length (ruleOf x.1)).getD j 0) && !(inner x.1 && decide (0 < j) && !decide (tt.getD j 0 = 20)))
    then ruleKind vs x.2 (ruleOf x.1) else -1
theorem all_congr (n : Nat) (f g : Nat → Bool) (h : ∀ j, j < n → f j = g j) : (List.range n).all f = (List.range n).all g := by
  rw [Bool.eq_iff_iff]
  simp only [List.all_eq_true, List.mem_range]
  exact ⟨fun q j hj => (h j hj) ▸ q j hj, fun q j hj => (h j hj).symm ▸ q j hj⟩
theorem kv_no (vs : List Int) (l : List Nd) (i : Int) (h : endv l i < 0) : kv vs l i = -1 := by rw [kv, kindV, if_pos h]
theorem kv_step (vs : List Int) (l : List Nd) (k : Nat) (h : 0 ≤ endv l k) : kv vs l k = stepV vs (nodeAt l k) ((kidsv l k).map (kv vs l)) ((kidsv l k).map fun j => (nodeAt l j).1) := by
  have hkl : k < l.length := by have := (endv_in l k h).2; simpa using this
  rw [kv, kindV, if_neg (by omega), stepV]
  simp only [List.length_map]
  rw [all_congr _ _ (fun j => decide (((kidsv l k).map (kv vs l)).getD j 0 = (askV vs (nodeAt l k) (kidsv l k).length (ruleOf (nodeAt l k).1)).getD j 0) && !(inner (nodeAt l k).1 && decide (0 < j) && !decide (((kidsv l k).map fun j => (nodeAt l j).1).getD j 0 = 20))) fun j hj => ?_]
  have hf := kid_facts l k j hj
  rw [getD_in _ _ _ hj, getD_in ((kidsv l k).map (kv vs l)) _ _ (by simpa using hj), getD_in ((kidsv l k).map fun j => (nodeAt l j).1) _ _ (by simpa using hj)]
  simp only [List.getElem_map]
  rw [kv, kindV_deep (l.length) (l.length + 1) vs l _ hf.2.1 (by omega) (by omega)]

/-- Nodes alike, or with kids alike, have a kind. -/
theorem kind_sim (vs : List Int) (l l' : List Nd) (R : Nat → Nat → Prop)
    (hR : ∀ i i', R i i' → (kv vs l i = kv vs l' i' ∧ (nodeAt l i).1 = (nodeAt l' i').1) ∨
      (0 ≤ endv l i ∧ 0 ≤ endv l' i' ∧ nodeAt l i = nodeAt l' i' ∧ (kidsv l i).length = (kidsv l' i').length ∧ ∀ j (h : j < (kidsv l i).length) (h' : j < (kidsv l' i').length), ∃ a b : Nat, (kidsv l i)[j] = a ∧ (kidsv l' i')[j] = b ∧ R a b)) :
    ∀ (n i i' : Nat), l.length ≤ i + n → R i i' → kv vs l i = kv vs l' i' ∧ (nodeAt l i).1 = (nodeAt l' i').1
  | 0, i, i', hn, h => by
    rcases hR i i' h with h | ⟨h1, _⟩
    · exact h
    · have := (endv_in l i h1).2; omega
  | n + 1, i, i', hn, h => by
    rcases hR i i' h with h | ⟨h1, h2, h3, h4, h5⟩
    · exact h
    · have hk : ∀ j (hj : j < (kidsv l i).length) (hj' : j < (kidsv l' i').length), kv vs l (kidsv l i)[j] = kv vs l' (kidsv l' i')[j] ∧ (nodeAt l (kidsv l i)[j]).1 = (nodeAt l' (kidsv l' i')[j]).1 := fun j hj hj' => by
        obtain ⟨a, b, ea, eb, hab⟩ := h5 j hj hj'
        have hf := kid_facts l i j hj
        rw [ea, eb]
        rw [ea] at hf
        exact kind_sim vs l l' R hR n a b (by omega) hab
      refine ⟨?_, by rw [h3]⟩
      rw [kv_step _ _ _ h1, kv_step _ _ _ h2, h3]
      congr 1
      · exact List.ext_getElem (by simpa using h4) fun j a b => by simpa using (hk j (by simpa using a) (by simpa using b)).1
      · exact List.ext_getElem (by simpa using h4) fun j a b => by simpa using (hk j (by simpa using a) (by simpa using b)).2

/-- Alike for m nodes. -/
def Seg (l l' : List Nd) (i i' m : Nat) : Prop := ∀ x, x < m → l[i + x]? = l'[i' + x]?
theorem endv_shift {l l' : List Nd} {i i' m : Nat} (h : endv l i = ((i + m : Nat) : Int)) (hs : Seg l l' i i' m) : endv l' i' = ((i' + m : Nat) : Int) := by
  obtain ⟨c, hc, he⟩ := endv_get l i (by omega)
  have hcm : c = m := by omega
  subst hcm
  refine endv_some l' i' c ?_
  have e : (l.drop i).take c = (l'.drop i').take c := by
    apply List.ext_getElem?
    intro x
    simp only [List.getElem?_take, List.getElem?_drop]
    split
    · rename_i hx; exact hs x hx
    · rfl
  have := scan_take 1 (l.drop i) c hc ((l'.drop i').drop c)
  rwa [e, List.take_append_drop] at this
/-- A node, and all below it, stand elsewhere, too. -/
def R0 (l l' : List Nd) (i i' : Nat) : Prop := ∃ m, endv l i = ((i + m : Nat) : Int) ∧ Seg l l' i i' m
theorem nodeAt_seg {l l' : List Nd} {i i' m : Nat} (hs : Seg l l' i i' m) (hm : 0 < m) : nodeAt l i = nodeAt l' i' := by
  have := hs 0 hm
  simp only [Nat.add_zero] at this
  simp [nodeAt, List.getD, this]
theorem ar_node (l : List Nd) (i : Nat) : i < l.length → arAt l i = ar (nodeAt l i) := fun h => by
  rw [arAt_in _ _ h, nodeAt, Int.toNat_natCast, getD_in _ _ _ h]
theorem seg_kids {l l' : List Nd} {i i' : Nat} (h : R0 l l' i i') : 0 ≤ endv l i ∧ 0 ≤ endv l' i' ∧ nodeAt l i = nodeAt l' i' ∧ (kidsv l i).length = (kidsv l' i').length ∧
    ∀ j (h : j < (kidsv l i).length) (h' : j < (kidsv l' i').length), ∃ a b : Nat, (kidsv l i)[j] = a ∧ (kidsv l' i')[j] = b ∧ R0 l l' a b := by
  obtain ⟨m, hm, hs⟩ := h
  have h1 : 0 ≤ endv l i := by omega
  have hm' := endv_shift hm hs
  have h2 : 0 ≤ endv l' i' := by omega
  have hgt := endv_gt l i h1
  have hn := nodeAt_seg hs (by omega)
  have hil : i < l.length := by have := (endv_in l i h1).2; simpa using this
  have hil' : i' < l'.length := by have := (endv_in l' i' h2).2; simpa using this
  have har : arAt l i = arAt l' i' := by rw [ar_node _ _ hil, ar_node _ _ hil', hn]
  have hk : ∀ j, j ≤ (arAt l i).toNat → ∃ x, kth l (i + 1) j = ((i + x : Nat) : Int) ∧ kth l' (i' + 1) j = ((i' + x : Nat) : Int) := by
    intro j
    induction j with
    | zero => exact fun _ => ⟨1, by simp [kth], by simp [kth]⟩
    | succ j ih =>
      intro hj
      obtain ⟨x, e1, e2⟩ := ih (by omega)
      obtain ⟨g1, g2, g3, g4⟩ := kth_range l i h1 j (by omega)
      simp only [kth]
      rw [e1] at g1 g2 g3 g4 ⊢
      rw [e2]
      obtain ⟨c, hc, he⟩ := endv_get l (i + x) g3
      refine ⟨x + c, by rw [he]; omega, ?_⟩
      have : endv l' ((i' + x : Nat) : Int) = _ := endv_shift (l' := l') (i' := i' + x) he fun y hy => by
        rw [Nat.add_assoc, Nat.add_assoc]; exact hs _ (by omega)
      rw [this]; omega
  refine ⟨h1, h2, hn, ?_, fun j hj hj' => ?_⟩
  · rw [kidsv_eq _ _ h1, kidsv_eq _ _ h2, upto_length, upto_length, har]
  · have hj2 : j < (arAt l i).toNat := by rwa [kidsv_eq _ _ h1, upto_length] at hj
    obtain ⟨x, e1, e2⟩ := hk j (by omega)
    obtain ⟨g1, g2, g3, g4⟩ := kth_range l i h1 j hj2
    refine ⟨i + x, i' + x, ?_, ?_, ?_⟩
    · simp only [kidsv_eq _ _ h1, upto, List.getElem_map, List.getElem_range, e1]
    · simp only [kidsv_eq _ _ h2, upto, List.getElem_map, List.getElem_range, e2]
    · rw [e1] at g1 g2 g3 g4
      obtain ⟨c, hc, he⟩ := endv_get l (i + x) g3
      exact ⟨c, he, fun y hy => by rw [Nat.add_assoc, Nat.add_assoc]; exact hs _ (by omega)⟩
theorem kind_seg {l l' : List Nd} {i i' : Nat} (vs : List Int) (h : R0 l l' i i') : kv vs l i = kv vs l' i' ∧ (nodeAt l i).1 = (nodeAt l' i').1 :=
  kind_sim vs l l' (R0 l l') (fun i i' h => .inr (seg_kids h)) l.length i i' (by omega) h
theorem part_seg (l : List Nd) (k : Nat) (h : 0 ≤ endv l k) : R0 l (partV l k) k 0 := by
  obtain ⟨c, hc, he⟩ := endv_get l k h
  refine ⟨c, he, fun x hx => ?_⟩
  rw [partV, if_neg (by omega), he]
  simp only [Int.toNat_natCast, List.getElem?_drop, Nat.zero_add, List.getElem?_take]
  rw [if_pos (by omega)]
/-- A part by itself has the kind that it has in its place. -/
theorem kind_part (vs : List Int) (l : List Nd) (k : Nat) (h : 0 ≤ endv l k) : kv vs (partV l k) 0 = kv vs l k := (kind_seg vs (part_seg l k h)).1.symm

section
variable {l r : List Nd} {k : Nat}
/-- Where a node above the part that is replaced ends. -/
theorem repl_above (hE : 0 ≤ endv l k) (hr : endv r 0 = r.length) (i : Nat) (hi : i < k) (h : (k : Int) < endv l i) :
    endv l k ≤ endv l i ∧ endv (replV l k r) i + endv l k = endv l i + k + r.length := by
  have hkl : k < l.length := by have := (endv_in l k hE).2; simpa using this
  have hnlt : ¬ endv l k < 0 := by omega
  obtain ⟨m, hs, he⟩ := endv_get l k hE
  obtain ⟨t, ht, hte⟩ := endv_get l i (by omega)
  obtain ⟨w, hw, hall⟩ := scan_prefix (k - i) 1 (l.drop i) t ht (by omega)
  have h0 := hall ((l.drop i).drop (k - i))
  rw [List.take_append_drop, ht, List.drop_drop, show i + (k - i) = k from by omega] at h0
  obtain ⟨v, rfl⟩ : ∃ v, w = 1 + v := ⟨w - 1, by omega⟩
  rw [scan_add, hs] at h0
  simp only [Option.bind_some, List.drop_drop] at h0
  have h1 := hall (r ++ l.drop (k + m))
  have h2 : scan 1 (r ++ l.drop (k + m)) = some r.length := by
    have := scan_take 1 r r.length (whole_scan hr) (l.drop (k + m))
    rwa [List.take_length] at this
  rw [scan_add, h2] at h1
  simp only [Option.bind_some] at h1
  rw [List.drop_left' rfl] at h1
  have e1 : (replV l k r).drop i = (l.drop i).take (k - i) ++ (r ++ l.drop (k + m)) := by
    rw [replV, if_neg hnlt, he, List.append_assoc]
    rw [List.drop_append_of_le_length (by simp; omega)]
    simp [List.drop_take]
    omega
  cases hv : scan v (l.drop (k + m)) with
  | none => rw [hv] at h0; cases h0
  | some c =>
    rw [hv] at h0 h1
    simp only [Option.map_some, Option.some.injEq] at h0 h1
    rw [← e1] at h1
    have := endv_some _ _ _ h1
    rw [this]
    omega
/-- The nodes of a list, and those of the list with a part replaced. -/
def R1 (l : List Nd) (k : Nat) (r : List Nd) (i i' : Nat) : Prop := R0 l (replV l k r) i i' ∨ (i ≤ k ∧ i' = i ∧ endv l k ≤ endv l i)
theorem repl_seg_before (hE : 0 ≤ endv l k) (i : Nat) (h0 : 0 ≤ endv l i) (h : endv l i ≤ k) : R0 l (replV l k r) i i := by
  obtain ⟨m, hs, he⟩ := endv_get l i h0
  exact ⟨m, he, fun x hx => (repl_before hE (i + x) (by omega)).symm⟩
theorem repl_seg_behind (hE : 0 ≤ endv l k) (i b : Nat) (h0 : 0 ≤ endv l i) (h : endv l k ≤ i) (hb : (b : Int) + endv l k = i + k + r.length) : R0 l (replV l k r) i b := by
  obtain ⟨m, hs, he⟩ := endv_get l i h0
  refine ⟨m, he, fun x hx => ?_⟩
  rw [← repl_behind hE (i + x) (by omega)]
  congr 1
  omega
theorem repl_seg_at (hE : 0 ≤ endv l k) (hr : endv r 0 = r.length) : R0 r (replV l k r) 0 k := by
  have hkl : k < l.length := by have := (endv_in l k hE).2; simpa using this
  refine ⟨r.length, by rw [show ((0 : Nat) : Int) = 0 from rfl, hr]; omega, fun x hx => ?_⟩
  rw [replV, if_neg (by omega), List.append_assoc, List.getElem?_append_right (by simp; omega)]
  simp only [Int.toNat_natCast, List.length_take]
  rw [List.getElem?_append_left (by omega)]
  congr 1
  omega
theorem r1_step (vs : List Int) (hE : 0 ≤ endv l k) (hr : endv r 0 = r.length) (hk : kv vs r 0 = kv vs l k) (ht : (nodeAt r 0).1 = (nodeAt l k).1) (i i' : Nat) (h : R1 l k r i i') :
    (kv vs l i = kv vs (replV l k r) i' ∧ (nodeAt l i).1 = (nodeAt (replV l k r) i').1) ∨
      (0 ≤ endv l i ∧ 0 ≤ endv (replV l k r) i' ∧ nodeAt l i = nodeAt (replV l k r) i' ∧ (kidsv l i).length = (kidsv (replV l k r) i').length ∧ ∀ j (h : j < (kidsv l i).length) (h' : j < (kidsv (replV l k r) i').length), ∃ a b : Nat, (kidsv l i)[j] = a ∧ (kidsv (replV l k r) i')[j] = b ∧ R1 l k r a b) := by
  rcases h with h | ⟨h1, rfl, h2⟩
  · obtain ⟨a, b, c, d, e⟩ := seg_kids h
    refine .inr ⟨a, b, c, d, fun j h h' => ?_⟩
    obtain ⟨x, y, e1, e2, e3⟩ := e j h h'
    exact ⟨x, y, e1, e2, .inl e3⟩
  · by_cases hik : i' = k
    · subst hik
      have : kv vs r 0 = kv vs (replV l i' r) i' ∧ (nodeAt r 0).1 = (nodeAt (replV l i' r) i').1 := kind_seg vs (repl_seg_at hE hr)
      exact .inl ⟨by rw [← this.1]; exact hk.symm, by rw [← this.2]; exact ht.symm⟩
    · have hgtk := endv_gt l k hE
      have hi : i' < k := by omega
      have h0 : 0 ≤ endv l i' := by omega
      obtain ⟨_, hab⟩ := repl_above hE hr i' hi (by omega)
      have h0' : 0 ≤ endv (replV l k r) i' := by omega
      have hil : i' < l.length := by have := (endv_in l i' h0).2; simpa using this
      have hil' : i' < (replV l k r).length := by have := (endv_in _ i' h0').2; simpa using this
      have hn : nodeAt l i' = nodeAt (replV l k r) i' := by simp [nodeAt, List.getD, repl_before hE i' hi]
      have har : arAt l i' = arAt (replV l k r) i' := by rw [ar_node _ _ hil, ar_node _ _ hil', hn]
      have hone : ∀ a b : Nat, ((a ≤ k ∧ b = a) ∨ (endv l k ≤ a ∧ (b : Int) + endv l k = a + k + r.length)) → 0 ≤ endv l a → R1 l k r a b ∧ ∃ a' b' : Nat, endv l a = a' ∧ endv (replV l k r) b = b' ∧ ((a' ≤ k ∧ b' = a') ∨ (endv l k ≤ a' ∧ (b' : Int) + endv l k = a' + k + r.length)) := by
        intro a b hP ha
        obtain ⟨c, hc, hce⟩ := endv_get l a ha
        rcases hP with ⟨p1, rfl⟩ | ⟨p1, p2⟩
        · by_cases hbk : b = k
          · subst hbk
            refine ⟨.inr ⟨by omega, rfl, by omega⟩, b + c, b + r.length, hce, repl_end hE hr, .inr ⟨by omega, by omega⟩⟩
          · by_cases hlow : endv l b ≤ k
            · have hseg := repl_seg_before (r := r) hE b ha hlow
              obtain ⟨m, hm, hs⟩ := hseg
              exact ⟨.inl ⟨m, hm, hs⟩, b + m, b + m, hm, endv_shift hm hs, .inl ⟨by omega, rfl⟩⟩
            · obtain ⟨q1, q2⟩ := repl_above (r := r) hE hr b (by omega) (by omega)
              obtain ⟨d, hd⟩ := Int.eq_ofNat_of_zero_le (show 0 ≤ endv (replV l k r) b by omega)
              exact ⟨.inr ⟨by omega, rfl, q1⟩, b + c, d, hce, hd, .inr ⟨by omega, by omega⟩⟩
        · have hseg := repl_seg_behind (r := r) hE a b ha p1 p2
          obtain ⟨m, hm, hs⟩ := hseg
          exact ⟨.inl ⟨m, hm, hs⟩, a + m, b + m, hm, endv_shift hm hs, .inr ⟨by omega, by omega⟩⟩
      have hkk : ∀ j, j ≤ (arAt l i').toNat → ∃ a b : Nat, kth l (i' + 1) j = a ∧ kth (replV l k r) (i' + 1) j = b ∧ ((a ≤ k ∧ b = a) ∨ (endv l k ≤ a ∧ (b : Int) + endv l k = a + k + r.length)) := by
        intro j
        induction j with
        | zero => exact fun _ => ⟨i' + 1, i' + 1, by simp [kth], by simp [kth], .inl ⟨by omega, rfl⟩⟩
        | succ j ih =>
          intro hj
          obtain ⟨a, b, e1, e2, hP⟩ := ih (by omega)
          obtain ⟨g1, g2, g3, g4⟩ := kth_range l i' h0 j (by omega)
          rw [e1] at g3
          obtain ⟨_, a', b', f1, f2, f3⟩ := hone a b hP g3
          simp only [kth]
          exact ⟨a', b', by rw [e1, f1], by rw [e2, f2], f3⟩
      refine .inr ⟨h0, h0', hn, ?_, fun j hj hj' => ?_⟩
      · rw [kidsv_eq _ _ h0, kidsv_eq _ _ h0', upto_length, upto_length, har]
      · have hj2 : j < (arAt l i').toNat := by rwa [kidsv_eq _ _ h0, upto_length] at hj
        obtain ⟨a, b, e1, e2, hP⟩ := hkk j (by omega)
        obtain ⟨g1, g2, g3, g4⟩ := kth_range l i' h0 j hj2
        rw [e1] at g3
        refine ⟨a, b, ?_, ?_, (hone a b hP g3).1⟩
        · simp only [kidsv_eq _ _ h0, upto, List.getElem_map, List.getElem_range, e1]
        · simp only [kidsv_eq _ _ h0', upto, List.getElem_map, List.getElem_range, e2]
/-- With a part of the same kind and tag instead, the whole's kind stays. -/
theorem kind_repl (vs : List Int) (hl : endv l 0 = l.length) (hE : 0 ≤ endv l k) (hr : endv r 0 = r.length) (hk : kv vs r 0 = kv vs l k) (ht : (nodeAt r 0).1 = (nodeAt l k).1) :
    kv vs l 0 = kv vs (replV l k r) 0 ∧ (nodeAt l 0).1 = (nodeAt (replV l k r) 0).1 := by
  have := kind_sim vs l (replV l k r) (R1 l k r) (fun i i' h => r1_step vs hE hr hk ht i i' h) l.length 0 0 (by omega) (.inr ⟨by omega, rfl, by
    have := endv_le l k
    rw [show ((0 : Nat) : Int) = 0 from rfl, hl]; exact this⟩)
  exact this
end
end Go.Proofs.Ytalehbmgbjiigaa
end
