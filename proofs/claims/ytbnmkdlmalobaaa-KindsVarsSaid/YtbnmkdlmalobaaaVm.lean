/-
  Parts joined into one text: T09c, Sh09d, T09d, T09e, Sh09e, C09e, T09f, Sh09f, Sh09g, C09f, C09g. No condition.
-/
import Derived.Test.YtbnmkdlmalobaaaVj
import Derived.Test.YtbnmkdlmalobaaaVl

section
namespace Go.Proofs.Ytbnmkdlmalobaaa
open Go.RowKit
set_option linter.unusedVariables false
set_option linter.unusedSimpArgs false

/-- A new row: one int, so many times. -/
def G_Repeat (ds : List D) (H : Heap) : Option (D × Heap) :=
  match ds with
  | [.hs id 1, .v (.int .i64 k)] =>
    match H[id]? with
    | some (.cells _ 1 [.v (.int .i64 c)]) => if 0 ≤ k ∧ k ≤ 4000000 then some (.hs H.length k.toNat, H ++ [.cells 3 1 (List.replicate k.toNat (iD c))]) else none
    | _ => none
  | _ => none
theorem flat_ones (n : Nat) (d : D) : (List.replicate n [d]).flatten = List.replicate n d := by
  induction n with
  | zero => rfl
  | succ n ih => simp [List.replicate_succ, ih]
theorem getE_last {α : Type} (l : List α) (x : α) : (l ++ [x])[l.length]? = some x := by simp
theorem set_last {α : Type} (l : List α) (x y : α) : (l ++ [x]).set l.length y = l ++ [y] := by simp
theorem take_one_ok (m : Nat) (c : Int) : (List.take m [iD c]).all cellOk = true := List.all_eq_true.2 fun x hx => by
  have := List.mem_of_mem_take hx
  simp only [List.mem_singleton] at this
  subst this; rfl
theorem rep_made (H : Heap) (k : Nat) (hk : k ≤ 4000000) : makeH 3 1 [iD 0] (.v (.int .i64 (k : Int))) (.v (.int .i64 (k : Int))) H = some (.hs H.length k, H ++ [.cells 3 1 (List.replicate k (iD 0))]) := by
  simp only [makeH]
  rw [if_pos ⟨trivial, by omega, by omega, rfl⟩]
  simp only [Int.toNat_natCast, flat_ones, newH]
  have : (List.replicate k (iD 0)).all cellOk = true := by simp [List.all_replicate]
  rw [this]; rfl
theorem rep_first (H : Heap) (id : Nat) (t : TypeId) (c : Int) (hid : H[id]? = some (.cells t 1 [.v (.int .i64 c)])) (k : Nat) : copyH 1 (.hs H.length k) (.hs id 1) (H ++ [.cells 3 1 (List.replicate k (iD 0))]) = some (iD (min 1 k : Nat), H ++ [.cells 3 1 (List.replicate (min 1 k) (iD c) ++ List.replicate (k - min 1 k) (iD 0))]) := by
  have hlt := (List.getElem?_eq_some_iff.1 hid).1
  have h1 : (H ++ [HO.cells 3 1 (List.replicate k (iD 0))])[id]? = some (.cells t 1 [iD c]) := by rw [List.getElem?_append_left hlt]; exact hid
  simp only [copyH, htOf, Option.bind_some, getE_last, srcH, h1]
  simp only [List.length_singleton, Nat.mul_one, Nat.le_refl, and_self, if_true, List.take_succ_cons, List.take_zero, Option.bind_some, Nat.div_one, Nat.zero_add, List.length_replicate, List.nil_append]
  rw [if_pos ⟨by omega, trivial, trivial, take_one_ok _ c⟩]
  simp only [Option.some.injEq, Prod.mk.injEq, true_and, set_last]
  congr 4
  · rcases Nat.eq_zero_or_pos k with h | h
    · subst h; rfl
    · rw [Nat.min_eq_left h]; rfl
  · simp
theorem rep_rounds (H : Heap) (c : Int) (k fuel : Nat) (hk : k ≤ 4000000) : ∀ (m n : Nat), k - n ≤ m → n ≤ k → (0 < k → 0 < n) → ∀ N, m < N →
    iterS (stepF Try.prog T09b kp_slices_Repeat___int_int_ fuel Try.f87 0) N [.hs H.length k, iD n] (H ++ [.cells 3 1 (List.replicate n (iD c) ++ List.replicate (k - n) (iD 0))]) = some (.exit 0, [.hs H.length k, iD k], H ++ [.cells 3 1 (List.replicate k (iD c))]) := by
  intro m
  induction m with
  | zero =>
    intro n h1 h2 h3 N hN
    obtain ⟨N, rfl⟩ : ∃ m, N = m + 1 := ⟨N - 1, by omega⟩
    obtain rfl : n = k := by omega
    refine iterS_exit ?_
    rw [st_slices_Repeat___int_int__0]
    simp
  | succ m ih =>
    intro n h1 h2 h3 N hN
    obtain ⟨N, rfl⟩ : ∃ m, N = m + 1 := ⟨N - 1, by omega⟩
    by_cases hnk : n = k
    · subst hnk
      refine iterS_exit ?_
      rw [st_slices_Repeat___int_int__0]
      simp
    · have hn0 : 0 < n := h3 (by omega)
      have hlt2 : (n : Int) < k := by omega
      have q1 : cutH 1 (.hs H.length k) (some (.v (.int .i64 (n : Int)))) none = some (.ht H.length n (k - n)) := by
        simp [cutH, lowD, highD, show ¬ n = 0 from by omega, show n ≤ k from h2]
      have q2 : cutH 1 (.hs H.length k) none (some (.v (.int .i64 (n : Int)))) = some (.hs H.length n) := by
        simp [cutH, lowD, highD, show n ≤ k from h2]
      have q3 : copyH 1 (.ht H.length n (k - n)) (.hs H.length n) (H ++ [.cells 3 1 (List.replicate n (iD c) ++ List.replicate (k - n) (iD 0))]) =
          some (iD (min n (k - n) : Nat), H ++ [.cells 3 1 (List.replicate (n + min n (k - n)) (iD c) ++ List.replicate (k - (n + min n (k - n))) (iD 0))]) := by
        have hl : (List.replicate n (iD c) ++ List.replicate (k - n) (iD 0)).length = k := by simp; omega
        simp only [copyH, htOf, Option.bind_some, getE_last, srcH, Nat.mul_one, hl]
        rw [if_pos ⟨trivial, h2⟩]
        have ht : (List.replicate n (iD c) ++ List.replicate (k - n) (iD 0)).take n = List.replicate n (iD c) := List.take_left' (by simp)
        simp only [Option.bind_some, ht, List.length_replicate, Nat.div_one]
        rw [if_pos ⟨by omega, trivial, by omega, by simp [List.take_replicate, List.all_replicate]⟩]
        simp only [Option.some.injEq, Prod.mk.injEq, true_and, set_last]
        congr 3
        rw [List.take_replicate, Nat.min_eq_left (Nat.min_le_left _ _), ← List.replicate_append_replicate, List.drop_append]
        simp only [List.length_replicate, List.drop_replicate]
        rw [show n - (n + min n (k - n)) = 0 from by omega, show k - n - (n + min n (k - n) - n) = k - (n + min n (k - n)) from by omega]
        simp
      have e4 := intD_add (n : Int) ((min n (k - n) : Nat) : Int) (by omega) (by omega)
      rw [iterS_go (s' := [.hs H.length k, iD ((n + min n (k - n) : Nat) : Int)]) (H' := H ++ [.cells 3 1 (List.replicate (n + min n (k - n)) (iD c) ++ List.replicate (k - (n + min n (k - n))) (iD 0))])]
      · exact ih (n + min n (k - n)) (by omega) (by omega) (fun _ => by omega) N (by omega)
      · rw [st_slices_Repeat___int_int__0]
        simp only [lenH_hs, thn_some, binK_lss, hlt2, decide_true, condK_bool, if_true, q1, q2, q3, thnH_some, binK_int, e4]
        rfl
theorem C_Repeat : HCallOk Try.prog 87 G_Repeat := by
  refine hcall_text (kp := kp_slices_Repeat___int_int_) T09b_ok mixed Try.func87 (by kernel_rfl) (by decide) fun ds H d H' h => ?_
  unfold G_Repeat at h
  split at h
  case h_2 => cases h
  rename_i id k
  split at h
  case h_2 => cases h
  rename_i t c hid
  split at h
  case isFalse => cases h
  rename_i hk
  cases h
  obtain ⟨k, rfl⟩ := Int.eq_ofNat_of_zero_le hk.1
  have hk' : k ≤ 4000000 := by omega
  refine ⟨k + 2, ?_⟩
  rw [sh_slices_Repeat___int_int_]
  have e1 : (IntKind.u64.wrap (1 : Int)) = 1 := rfl
  have e2 : (IntKind.u64.wrap (k : Int)) = k := u64_wrap _ (by omega) (by omega)
  have e3 : (IntKind.i64.wrap (k : Int)) = k := wrap_in _ (by omega) (by omega)
  have hlt := (List.getElem?_eq_some_iff.1 hid).1
  have n1 : ¬ (k : Int) < 0 := by omega
  have n2 : ¬ (9223372036854775807 : Int) < k := by omega
  have em := rep_made H k hk'
  have ec := rep_first H id t c hid k
  simp only [lenH_hs, thn_some, binK_lss, condK_bool, n1, decide_false, Bool.false_eq_true, if_false, intOf64, e1, e2, Int.natCast_one]
  rw [mul_pure _ _ (by omega) (by omega)]
  simp only [thnH_some, extractD, tupOf, Option.bind_some, List.getElem?_cons_zero, List.getElem?_cons_succ, thn_some, binK_gtr, Int.lt_irrefl, decide_false, condK_bool, Bool.false_eq_true, if_false, n2, intOf64, e3, em, ec]
  have key := rep_rounds H c k (k + 2) hk'
  have hloop : loopF Try.prog T09b kp_slices_Repeat___int_int_ (k + 2) Try.f87 0 [.hs H.length k, iD (min 1 k : Nat)] (H ++ [.cells 3 1 (List.replicate (min 1 k) (iD c) ++ List.replicate (k - min 1 k) (iD 0))]) = some (.exit 0, [.hs H.length k, iD k], H ++ [.cells 3 1 (List.replicate k (iD c))]) :=
    key k (min 1 k) (by omega) (by omega) (by omega) (k + 2) (by omega)
  rw [hloop]
  simp
def fs09c : List Entry := (87, false, G_Repeat) :: fs09b
theorem fs09c_ok : ∀ p ∈ fs09c, EntryOk Try.prog p := entries_cons (entry_obj C_Repeat) <| fs09b_ok
def T09c : Tab := ⟨fs09c, noYl⟩
theorem T09c_ok : TabOk Try.prog T09c := tabOk_of fs09c_ok
end Go.Proofs.Ytbnmkdlmalobaaa
end

section
namespace Go.Proofs.Ytbnmkdlmalobaaa
open Go.RowKit
set_option linter.unusedVariables false
set_option maxRecDepth 100000

def kp_kinds_asked : List Nat := []
theorem sh_kinds_asked (n : Nat) (x0 x1 x2 x3 : D) (h : Heap) : textK Try.prog T09c kp_kinds_asked n Try.f72 [x0, x1, x2, x3] h =
(thnH (boxH 25 x0 h) fun y0 h1 =>
thnH (boxH 39 x1 h1) fun y2 h3 =>
thn (assertD 91 (.agg [(.v (.slice none 0 0)), (iD 0)]) true x2) fun y4 =>
thn (extractD y4 1) fun y5 =>
thn (extractD y4 0) fun y6 =>
condK y5
(thnH (allocH 91 [(.v (.slice none 0 0)), (iD 0)] h3) fun y7 h8 =>
thnH (setH 2 y7 y6 h8) fun y9 h10 =>
thn (fieldAtH 0 y7) fun y11 =>
thn (loadH none h10 y11) fun y12 =>
some (y12, h10))
(thn (assertD 95 (.agg [(.v (.slice none 0 0)), (iD 0)]) true x2) fun y13 =>
thn (extractD y13 1) fun y14 =>
thn (extractD y13 0) fun y15 =>
condK y14
(thnH (allocH 95 [(.v (.slice none 0 0)), (iD 0)] h3) fun y16 h17 =>
thnH (setH 2 y16 y15 h17) fun y18 h19 =>
thn (fieldAtH 0 y16) fun y20 =>
thn (fieldAtH 0 y20) fun y21 =>
thn (loadH none h19 y21) fun y22 =>
some (y22, h19))
(thn (assertD 93 (.agg [(bD false)]) true x2) fun y23 =>
thn (extractD y23 1) fun y24 =>
thn (extractD y23 0) fun y25 =>
condK y24
(thnH (allocH 93 [(bD false)] h3) fun y26 h27 =>
thnH (setH 1 y26 y25 h27) fun y28 h29 =>
thn (fieldAtH 0 y26) fun y30 =>
thn (loadH none h29 y30) fun y31 =>
condK y31
(thn (fieldAtH 1 y2) fun y32 =>
thn (loadH none h29 y32) fun y33 =>
thn (fieldAtH 1 y0) fun y34 =>
thn (loadH none h29 y34) fun y35 =>
thn (lenH .sl y35) fun y36 =>
thn (binK .int .lss y33 y36) fun y37 =>
condK y37
(thn (fieldAtH 1 y0) fun y38 =>
thn (loadH none h29 y38) fun y39 =>
thn (fieldAtH 1 y2) fun y40 =>
thn (loadH none h29 y40) fun y41 =>
thn (fieldAtH 1 y2) fun y42 =>
thn (loadH none h29 y42) fun y43 =>
thn (binK .int .add y43 (iD 1)) fun y44 =>
thn (cutH 1 y39 (some y41) (some y44)) fun y45 =>
some (y45, h29))
(some ((.v (.slice none 0 0)), h29)))
(some ((.v (.slice none 0 0)), h29)))
(thnH (rowH 3 1 1 [(iD 0)] [(0, (iD 2))] h3) fun y46 h47 =>
thnH (G_Repeat [y46, x3] h47) fun y48 h49 =>
some (y48, h49))))) := by kernel_rfl

end Go.Proofs.Ytbnmkdlmalobaaa
end

section
namespace Go.Proofs.Ytbnmkdlmalobaaa
open Go.RowKit
set_option linter.unusedVariables false
set_option linter.unusedSimpArgs false

def askV (vs : List Int) (x : Nd) (n : Nat) : RuleT → List Int
  | .plain ks _ => ks
  | .array ks _ => ks
  | .scalar true => if x.2.toNat < vs.length then [vs.getD x.2.toNat 0] else []
  | .scalar false => []
  | .none => List.replicate n 2
def F_asked : List D → Option D := F4 progT ndT ruleT intT fun p x r n => if numOk r x ∧ 0 ≤ n ∧ n ≤ 4000000 then some (intsD (askV p.vars x n.toNat r)) else none
theorem mapM_derefI (H : Heap) (n : Nat) (l : List Int) : (l.map iD).mapM (derefN H n) = some (l.map iD) := by
  induction l with
  | nil => rfl
  | cons a r ih => rw [List.map_cons, List.mapM_cons, derefN_pure H n _ rfl, ih]; rfl
theorem chunks_ints (l : List Int) : chunks 1 l.length (l.map iD) = l.map oneI := by
  induction l with
  | nil => rfl
  | cons a r ih => simp [chunks, ih, oneI]
/-- A row of ints, by value. -/
theorem deref_ints (H : Heap) (n id : Nat) (t : TypeId) (l : List Int) (h : H[id]? = some (.cells t 1 (l.map iD))) : derefN H (n + 1) (.hs id l.length) = some (intsD l) := by
  simp only [derefN, h]
  rw [if_pos (by simp), List.take_of_length_le (by simp), mapM_derefI, Option.map_some, chunks_ints]; rfl
theorem outD_row (H : Heap) (id : Nat) (t : TypeId) (l : List Int) (k : Nat) (hk : k = l.length) (h : H[id]? = some (.cells t 1 (l.map iD))) : outD (some (.hs id k, H)) = some (intsD l) := by
  subst hk; exact deref_ints H 8 id t l h
theorem C_asked : CallOk Try.prog 72 F_asked := call4 (kp := kp_kinds_asked) T09c_ok mixed Try.func72 (by kernel_rfl) (by decide) fun p x r n d h => by
  split at h
  case isFalse => cases h
  rename_i hg
  cases h
  refine ⟨0, ?_⟩
  show ∃ d', outD (textK _ _ _ _ _ [progD p, .agg (nodeD x), r.enc, iD n] []) = some d' ∧ _
  rw [sh_kinds_asked]
  have fin : ∀ l : List Int, (o : Option D) → o = some (intsD l) → ∃ d', o = some d' ∧ Imp d' (intsD l) := fun l o h => ⟨_, h, Imp.refl _⟩
  cases r with
  | plain ks is => exact fin ks _ (by simp [RuleT.enc, assertD, extractD, tupOf, allocH, newH, setH, storeH, cellsD])
  | array ks is => exact fin ks _ (by simp [RuleT.enc, assertD, extractD, tupOf, allocH, newH, setH, storeH, cellsD])
  | scalar b =>
    cases b with
    | false =>
      refine ⟨.v (.slice none 0 0), by simp [RuleT.enc, assertD, extractD, tupOf, allocH, newH, setH, storeH, cellsD], Imp.nil 1⟩
    | true =>
      have hx := hg.1 rfl
      by_cases h1 : x.2.toNat < p.vars.length
      · have h2 : x.2 < (p.vars.length : Int) := by omega
        obtain ⟨k, hk⟩ := Int.eq_ofNat_of_zero_le hx.1
        have e1 := intD_add (k : Int) 1 (by omega) (by omega)
        have e2 := cut_ints p.vars k (k + 1) (by omega) (by omega)
        rw [Int.natCast_add, Int.natCast_one] at e2
        have e3 : (p.vars.take (k + 1)).drop k = [p.vars.getD x.2.toNat 0] := by
          rw [hk, Int.toNat_natCast, getD_in _ _ _ (by omega), List.take_succ_eq_append_getElem (by omega), List.drop_left' (by simp; omega)]
        refine fin _ _ ?_
        have h3 : (k : Int) < p.vars.length := by omega
        simp [RuleT.enc, assertD, extractD, tupOf, allocH, newH, setH, storeH, cellsD, hk, h3, e1, e2]
        rw [e3]
        simp [askV, h1]
      · have h2 : ¬ x.2 < (p.vars.length : Int) := by omega
        refine ⟨.v (.slice none 0 0), by simp [RuleT.enc, assertD, extractD, tupOf, allocH, newH, setH, storeH, cellsD, h2], ?_⟩
        simp only [askV, if_neg h1]
        exact Imp.nil 1
  | none =>
    refine fin _ _ ?_
    have e1 : ∀ H : Heap, rowH 3 1 1 [iD 0] [(0, iD 2)] H = some (.hs H.length 1, H ++ [.cells 3 1 [iD 2]]) := fun H => rfl
    have e2 : G_Repeat [.hs 2 1, iD n] [.cells 25 3 [iD p.params, intsD p.vars, nodesD p.body], .cells 39 2 [iD x.1, iD x.2], .cells 3 1 [iD 2]] =
        some (.hs 3 n.toNat, [.cells 25 3 [iD p.params, intsD p.vars, nodesD p.body], .cells 39 2 [iD x.1, iD x.2], .cells 3 1 [iD 2], .cells 3 1 (List.replicate n.toNat (iD 2))]) := by
      simp [G_Repeat, hg.2]
    simp [RuleT.enc, assertD, extractD, tupOf, e1]
    rw [e2]
    simp only [thnH_some, askV]
    exact outD_row _ 3 3 (List.replicate n.toNat 2) n.toNat (by simp) (by simp)

def fs09d : List Entry := (72, true, liftF F_asked) :: fs09c
theorem fs09d_ok : ∀ p ∈ fs09d, EntryOk Try.prog p := entries_cons (entry_lift C_asked) <| fs09c_ok
/-- The functions that go down: by how deep they are known. -/
def T09d : Tab := ⟨fs09d, noYl⟩
theorem T09d_ok : TabOk Try.prog T09d := tabOk_of fs09d_ok

/-- The rule of a tag. -/
def findR : List Int → List RuleT → Int → Option RuleT
  | a :: r, v :: s, k => if k = a then some v else findR r s k
  | _, _, _ => none
def ruleOf (t : Int) : RuleT := (findR ruleKs ruleRs t).getD .none
theorem findM_map : ∀ (ks : List Int) (rs : List RuleT) (k : Int), findM ks (rs.map RuleT.enc) k = (findR ks rs k).map RuleT.enc
  | [], rs, k => by cases rs <;> rfl
  | a :: r, [], k => rfl
  | a :: r, v :: s, k => by
    simp only [List.map_cons, findM, findR]
    split
    · rfl
    · exact findM_map r s k
theorem look_rules (t : Int) (H : Heap) : lookH (.v .nilIface) false H rulesD (iD t) = some (ruleOf t).enc := by
  have := findM_map ruleKs ruleRs t
  simp only [lookH, mapOf, rulesD, Option.bind_some, int64Of, this, ruleOf]
  cases findR ruleKs ruleRs t <;> rfl

def inner (t : Int) : Bool := decide (t = 23 ∨ t = 24)
/-- A node's kind, by the kinds of those below. -/
def kindV : Nat → List Int → List Nd → Int → Int
  | 0, _, _, _ => -1
  | f + 1, vs, l, i =>
    if endv l i < 0 then -1 else
    if ruleKind vs (nodeAt l i).2 (ruleOf (nodeAt l i).1) = -1 ∨ (askV vs (nodeAt l i) (kidsv l i).length (ruleOf (nodeAt l i).1)).length ≠ (kidsv l i).length then -1 else
    if (List.range (kidsv l i).length).all (fun j => decide (kindV f vs l ((kidsv l i).getD j 0) = (askV vs (nodeAt l i) (kidsv l i).length (ruleOf (nodeAt l i).1)).getD j 0) && !(inner (nodeAt l i).1 && decide (0 < j) && !decide ((nodeAt l ((kidsv l i).getD j 0)).1 = 20)))
      then ruleKind vs (nodeAt l i).2 (ruleOf (nodeAt l i).1) else -1
end Go.Proofs.Ytbnmkdlmalobaaa
end

section
namespace Go.Proofs.Ytbnmkdlmalobaaa
open Go.RowKit
set_option linter.unusedVariables false
set_option linter.unusedSimpArgs false

/-- A program with the rules. -/
def chkC (p : Pg) : List D := [iD p.params, intsD p.vars, nodesD p.body, rulesD]
def asChk : D → Option Pg
  | .agg [a, b, c, m] => (isRules m).bind fun _ => asProgC [a, b, c]
  | _ => none
theorem mapM_enc {α : Type} (A : Dec α) (l : List α) : (l.map A.enc).mapM A.dec = some l := by
  induction l with
  | nil => rfl
  | cons a r ih => rw [List.map_cons, List.mapM_cons, A.back, ih]; rfl
theorem isRules_rules : isRules rulesD = some () := by
  have : (ruleRs.map RuleT.enc).mapM RuleT.dec = some ruleRs := mapM_enc ruleT ruleRs
  unfold isRules rulesD
  simp only [this, and_self, if_true]
def chkT : Dec Pg := ⟨fun p => .agg (chkC p), asChk, fun p => by simp [asChk, chkC, isRules_rules, asProgC], fun d p h => by
  unfold asChk at h
  split at h
  · obtain ⟨_, h1, h⟩ := Option.bind_eq_some_iff.1 h
    refine Imp.agg ?_
    have := imp_progC h
    simp only [progC, chkC] at this ⊢
    cases this with | cons a1 r => cases r with | cons a2 r => cases r with | cons a3 r => exact .cons a1 (.cons a2 (.cons a3 (.cons (imp_rules h1) .nil)))
  · cases h⟩
def ofOk (p : Pg) (i : Int) : Bool := decide (0 ≤ endv p.body i ∧ p.body.length ≤ 3000000)
def F_of (m : Nat) : List D → Option D := F2 chkT intT fun p i => if ofOk p i && decide (p.body.length < i.toNat + m) then some (iD (kindV m p.vars p.body i)) else none
def fs09e (m : Nat) : List Entry := (44, true, liftF (F_of m)) :: fs09d
def T09e (m : Nat) : Tab := ⟨fs09e m, noYl⟩
end Go.Proofs.Ytbnmkdlmalobaaa
end

section
namespace Go.Proofs.Ytbnmkdlmalobaaa
open Go.RowKit
set_option linter.unusedVariables false
set_option maxRecDepth 100000
variable (m : Nat)

def kp_kinds_checker__of : List Nat := [2, 4, 5, 8, 9, 52, 53, 54]
theorem sh_kinds_checker__of (n : Nat) (x0 x1 : D) (h : Heap) : textK Try.prog (T09e m) kp_kinds_checker__of n Try.f44 [x0, x1] h =
(thnH (boxH 54 x0 h) fun y0 h1 =>
thn (fieldAtH 0 y0) fun y2 =>
thn (fieldAtH 2 y2) fun y3 =>
thn (loadH none h1 y3) fun y4 =>
thn (idxH 2 y4 x1) fun y5 =>
thn (loadH (some 2) h1 y5) fun y6 =>
thnH (allocH 39 [(iD 0), (iD 0)] h1) fun y7 h8 =>
thnH (setH 2 y7 y6 h8) fun y9 h10 =>
thn (fieldAtH 0 y0) fun y11 =>
thn (fieldAtH 2 y11) fun y12 =>
thn (loadH none h10 y12) fun y13 =>
thnH (liftF F_Kids [y13, x1] h10) fun y14 h15 =>
thn (fieldAtH 3 y0) fun y16 =>
thn (loadH none h15 y16) fun y17 =>
thn (fieldAtH 0 y7) fun y18 =>
thn (loadH none h15 y18) fun y19 =>
thn (lookH (.v .nilIface) false h15 y17 y19) fun y20 =>
thn (binN true .ifc .neq y20 (.v .nilIface)) fun y21 =>
condK y21
(thn (fieldAtH 0 y0) fun y22 =>
thn (loadH (some 3) h15 y22) fun y23 =>
thn (loadH (some 2) h15 y7) fun y24 =>
thnH (callMeth Try.prog (T09e m) y20 "offshoot/kinds.kind" [y23, y24] h15) fun y25 h26 =>
thn (fieldAtH 0 y0) fun y27 =>
thn (loadH (some 3) h26 y27) fun y28 =>
thn (loadH (some 2) h26 y7) fun y29 =>
thn (lenH .sl y14) fun y30 =>
thnH (liftF F_asked [y28, y29, y20, y30] h26) fun y31 h32 =>
thn (binK .int .eql y25 (iD (-1))) fun y33 =>
condK y33
(some ((iD (-1)), h32))
(thn (lenH .sl y31) fun y34 =>
thn (lenH .sl y14) fun y35 =>
thn (binK .int .neq y34 y35) fun y36 =>
condK y36
(some ((iD (-1)), h32))
(thn (lenH .sl y14) fun y37 =>
leaveK (loopF Try.prog (T09e m) kp_kinds_checker__of n Try.f44 0 [y0, (iD 0), y7, y25, y31, y14, y37, (iD 0)] h32) (fun j38 s39 h40 =>
condN j38 0
(some ((s39.getD 3 .undef), h40))
(none)) (fun s39 h40 =>
some ((s39.getD 1 .undef), h40)))))
(thn (fieldAtH 0 y0) fun y41 =>
thn (loadH (some 3) h15 y41) fun y42 =>
thn (loadH (some 2) h15 y7) fun y43 =>
thn (lenH .sl y14) fun y44 =>
thnH (liftF F_asked [y42, y43, y20, y44] h15) fun y45 h46 =>
thn (binK .int .eql (iD 2) (iD (-1))) fun y47 =>
condK y47
(some ((iD (-1)), h46))
(thn (lenH .sl y45) fun y48 =>
thn (lenH .sl y14) fun y49 =>
thn (binK .int .neq y48 y49) fun y50 =>
condK y50
(some ((iD (-1)), h46))
(thn (lenH .sl y14) fun y51 =>
leaveK (loopF Try.prog (T09e m) kp_kinds_checker__of n Try.f44 0 [y0, (iD 0), y7, (iD 2), y45, y14, y51, (iD 0)] h46) (fun j52 s53 h54 =>
condN j52 0
(some ((s53.getD 3 .undef), h54))
(none)) (fun s53 h54 =>
some ((s53.getD 1 .undef), h54)))))) := by kernel_rfl

theorem st_kinds_checker__of_0 (n : Nat) (s0 s1 s2 s3 s4 s5 s6 s7 : D) (h : Heap) : stepF Try.prog (T09e m) kp_kinds_checker__of n Try.f44 0 [s0, s1, s2, s3, s4, s5, s6, s7] h =
(thn (binK .int .lss s7 s6) fun y0 =>
condK y0
(thn (idxH 1 s5 s7) fun y1 =>
thn (loadH none h y1) fun y2 =>
thn (loadH (some 4) h s0) fun y3 =>
thnH (liftF (F_of m) [y3, y2] h) fun y4 h5 =>
thn (idxH 1 s4 s7) fun y6 =>
thn (loadH none h5 y6) fun y7 =>
thn (binK .int .neq y4 y7) fun y8 =>
condK y8
(some (.ret, [s0, (iD (-1)), s2, s3, s4, s5, s6, s7], h5))
(thn (fieldAtH 0 s2) fun y9 =>
thn (loadH none h5 y9) fun y10 =>
thn (binK .int .eql y10 (iD 23)) fun y11 =>
condK y11
(thn (binK .int .gtr s7 (iD 0)) fun y12 =>
condK y12
(thn (fieldAtH 0 s0) fun y13 =>
thn (fieldAtH 2 y13) fun y14 =>
thn (loadH none h5 y14) fun y15 =>
thn (idxH 2 y15 y2) fun y16 =>
thn (fieldAtH 0 y16) fun y17 =>
thn (loadH none h5 y17) fun y18 =>
thn (binK .int .neq y18 (iD 20)) fun y19 =>
condK y19
(some (.ret, [s0, (iD (-1)), s2, s3, s4, s5, s6, s7], h5))
(thn (binK .int .add s7 (iD 1)) fun y20 =>
some (.normal, [s0, s1, s2, s3, s4, s5, s6, y20], h5)))
(thn (binK .int .add s7 (iD 1)) fun y21 =>
some (.normal, [s0, s1, s2, s3, s4, s5, s6, y21], h5)))
(thn (fieldAtH 0 s2) fun y22 =>
thn (loadH none h5 y22) fun y23 =>
thn (binK .int .eql y23 (iD 24)) fun y24 =>
condK y24
(thn (binK .int .gtr s7 (iD 0)) fun y25 =>
condK y25
(thn (fieldAtH 0 s0) fun y26 =>
thn (fieldAtH 2 y26) fun y27 =>
thn (loadH none h5 y27) fun y28 =>
thn (idxH 2 y28 y2) fun y29 =>
thn (fieldAtH 0 y29) fun y30 =>
thn (loadH none h5 y30) fun y31 =>
thn (binK .int .neq y31 (iD 20)) fun y32 =>
condK y32
(some (.ret, [s0, (iD (-1)), s2, s3, s4, s5, s6, s7], h5))
(thn (binK .int .add s7 (iD 1)) fun y33 =>
some (.normal, [s0, s1, s2, s3, s4, s5, s6, y33], h5)))
(thn (binK .int .add s7 (iD 1)) fun y34 =>
some (.normal, [s0, s1, s2, s3, s4, s5, s6, y34], h5)))
(thn (binK .int .add s7 (iD 1)) fun y35 =>
some (.normal, [s0, s1, s2, s3, s4, s5, s6, y35], h5)))))
(some ((.exit 0), [s0, s1, s2, s3, s4, s5, s6, s7], h))) := by kernel_rfl

end Go.Proofs.Ytbnmkdlmalobaaa
end

section
namespace Go.Proofs.Ytbnmkdlmalobaaa
open Go.RowKit
set_option linter.unusedVariables false
set_option linter.unusedSimpArgs false

theorem ar_num (x : Nd) (h : 0 ≤ ar x) (h1 : x.1 ≠ 1) : 0 ≤ x.2 ∧ x.2 ≤ 200 := by
  unfold ar at h
  rw [if_neg h1] at h
  split at h
  · omega
  · rename_i hh
    refine ⟨by omega, ?_⟩
    have hl : (lim x.1 x.2).1 ≤ 200 := by
      unfold lim
      repeat' split
      all_goals simp
    omega
theorem ruleOf_num (x : Nd) (h : 0 ≤ ar x) : numOk (ruleOf x.1) x := by
  intro hn
  have h1 : x.1 ≠ 1 := by
    intro e
    rw [e] at hn
    cases hn
  have := ar_num x h h1
  omega
theorem meth_kind (m : Nat) (r : RuleT) (hr : r ≠ .none) (p : Pg) (x : Nd) (hn : numOk r x) (H : Heap) : callMeth Try.prog (T09e m) r.enc "offshoot/kinds.kind" [progD p, .agg (nodeD x)] H = some (iD (ruleKind p.vars x.2 r), H) := by
  cases r with
  | none => exact absurd rfl hr
  | plain ks is =>
    have hm : methD Try.prog 91 "offshoot/kinds.kind" = some 128 := by kernel_rfl
    simp only [callMeth, RuleT.enc, hm, Option.bind_some]
    show liftF (F_kindOf 91) [.agg [intsD ks, iD is], progD p, .agg (nodeD x)] H = _
    rw [liftF_pure _ _ _ rfl]
    simp [F_kindOf, ruleIn, RuleT.dec, numOk, needN]
  | array ks is =>
    have hm : methD Try.prog 95 "offshoot/kinds.kind" = some 130 := by kernel_rfl
    simp only [callMeth, RuleT.enc, hm, Option.bind_some]
    show liftF (F_kindOf 95) [.agg [intsD ks, iD is], progD p, .agg (nodeD x)] H = _
    rw [liftF_pure _ _ _ rfl]
    have := hn rfl
    simp [F_kindOf, ruleIn, RuleT.dec, numOk, needN, this]
  | scalar b =>
    have hm : methD Try.prog 93 "offshoot/kinds.kind" = some 129 := by kernel_rfl
    simp only [callMeth, RuleT.enc, hm, Option.bind_some]
    show liftF (F_kindOf 93) [.agg [bD b], progD p, .agg (nodeD x)] H = _
    rw [liftF_pure _ _ _ rfl]
    have := hn rfl
    simp [F_kindOf, ruleIn, RuleT.dec, numOk, needN, this]
theorem asked_pure (p : Pg) (x : Nd) (r : RuleT) (n : Nat) (hn : numOk r x) (hb : n ≤ 4000000) (H : Heap) : liftF F_asked [progD p, .agg (nodeD x), r.enc, iD n] H = some (intsD (askV p.vars x n r), H) := by
  rw [liftF_pure _ _ _ (by cases r <;> rfl)]
  have : F_asked [progD p, .agg (nodeD x), r.enc, iD n] = _ := f4_enc (A := progT) (B := ndT) (C := ruleT) (E := intT) _ p x r (n : Int)
  rw [this, if_pos ⟨hn, by omega, by omega⟩]
  simp
theorem kids_pure (l : List Nd) (i : Int) (h : l.length ≤ 3000000) (H : Heap) : liftF F_Kids [nodesD l, iD i] H = some (intsD (kidsv l i), H) := by
  rw [liftF_pure _ _ _ rfl]; simp [F_Kids, h]
theorem ruleNil (r : RuleT) : binN true .ifc .neq r.enc (.v .nilIface) = some (bD (decide (r ≠ .none))) := by
  cases r <;> rfl
theorem kid_facts (l : List Nd) (k : Nat) (j : Nat) (hj : j < (kidsv l k).length) : (k : Int) < (kidsv l k)[j] ∧ 0 ≤ endv l (kidsv l k)[j] ∧ endv l (kidsv l k)[j] ≤ endv l k ∧ (kidsv l k)[j].toNat < l.length := by
  have hm := List.getElem_mem hj
  obtain ⟨h, c, hc, e⟩ := mem_kidsv l k _ hm
  have := kth_range l k h c hc
  rw [← e] at this
  have h2 := endv_in l _ this.2.2.1
  exact ⟨this.1, this.2.2.1, this.2.2.2, h2.2⟩

def ofAt (m : Nat) (p : Pg) (x : Nd) (ks w : List Int) (j : Nat) : Bool := decide (kindV m p.vars p.body (ks.getD j 0) = w.getD j 0) && !(inner x.1 && decide (0 < j) && !decide ((nodeAt p.body (ks.getD j 0)).1 = 20))
def ofH (p : Pg) (x : Nd) : Heap := [.cells 54 4 [iD p.params, intsD p.vars, nodesD p.body, rulesD], .cells 39 2 [iD x.1, iD x.2]]
theorem of_loop (m N : Nat) (p : Pg) (x : Nd) (ks w : List Int) (is : Int)
    (hof : ∀ (j : Nat) (hj : j < ks.length), liftF (F_of m) [.agg [iD p.params, intsD p.vars, nodesD p.body, rulesD], iD ks[j]] (ofH p x) = some (iD (kindV m p.vars p.body ks[j]), ofH p x))
    (hkid : ∀ (j : Nat) (hj : j < ks.length), 0 ≤ ks[j] ∧ ks[j].toNat < p.body.length) (hks : ks.length ≤ 200) (hN : ks.length < N) (hwl : w.length = ks.length) :
    ((∀ i, 0 ≤ i → i < ks.length → ofAt m p x ks w i = true) ∧ loopF Try.prog (T09e m) kp_kinds_checker__of N Try.f44 0 [.hp 0 0, iD 0, .hp 1 0, iD is, intsD w, intsD ks, iD ks.length, iD ((0 : Nat) : Int)] (ofH p x) = some (.exit 0, [.hp 0 0, iD 0, .hp 1 0, iD is, intsD w, intsD ks, iD ks.length, iD ks.length], ofH p x)) ∨
    ∃ i, 0 ≤ i ∧ i < ks.length ∧ ofAt m p x ks w i = false ∧ (∀ j, 0 ≤ j → j < i → ofAt m p x ks w j = true) ∧ loopF Try.prog (T09e m) kp_kinds_checker__of N Try.f44 0 [.hp 0 0, iD 0, .hp 1 0, iD is, intsD w, intsD ks, iD ks.length, iD ((0 : Nat) : Int)] (ofH p x) = some (.ret, [.hp 0 0, iD (-1), .hp 1 0, iD is, intsD w, intsD ks, iD ks.length, iD i], ofH p x) := by
  have load4 : loadH (some 4) (ofH p x) (.hp 0 0) = some (.agg [iD p.params, intsD p.vars, nodesD p.body, rulesD]) := rfl
  have load0 : loadH none (ofH p x) (.hp 1 0) = some (iD x.1) := rfl
  have load2 : loadH none (ofH p x) (.hp 0 2) = some (nodesD p.body) := rfl
  have split3 : ∀ (j : Nat) (hj : j < ks.length) (hw : j < w.length), ofAt m p x ks w j = (decide (kindV m p.vars p.body ks[j] = w[j]) && !(inner x.1 && decide (0 < j) && !decide ((p.body[ks[j].toNat]'(hkid j hj).2).1 = 20))) := by
    intro j hj hw
    simp only [ofAt, getD_in _ _ _ hj, getD_in _ _ _ hw, nodeAt, getD_in _ _ _ (hkid j hj).2]
  refine loopF_scan (fun j => [.hp 0 0, iD 0, .hp 1 0, iD is, intsD w, intsD ks, iD ks.length, iD j]) (ofH p x) ks.length (ofAt m p x ks w) (fun i => (.ret, [.hp 0 0, iD (-1), .hp 1 0, iD is, intsD w, intsD ks, iD ks.length, iD i], ofH p x)) _ (fun i => by intro e; cases e) (by intro e; cases e) 0 N (Nat.zero_le _) (by omega) ?_ ?_ ?_
  · intro j _ hj hp
    have hw : j < w.length := by omega
    have e1 := intD_add (j : Int) 1 (by omega) (by omega)
    have h1 : (j : Int) < ks.length := by omega
    obtain ⟨k0, k1⟩ := hkid j hj
    rw [split3 j hj hw, Bool.and_eq_true, decide_eq_true_eq] at hp
    obtain ⟨hp1, hp2⟩ := hp
    rw [st_kinds_checker__of_0]
    by_cases h23 : x.1 = 23
    · by_cases hj0 : 0 < j
      · have h20 : (p.body[ks[j].toNat]).1 = 20 := by simpa [inner, h23, hj0] using hp2
        simp [-loadH_hp, h1, idx_intsN _ _ hj, idx_intsN _ _ hw, load4, load0, load2, hof j hj, hp1, h23, e1, hj0, idx_nodes _ _ k0 k1, h20]
      · simp [-loadH_hp, h1, idx_intsN _ _ hj, idx_intsN _ _ hw, load4, load0, load2, hof j hj, hp1, h23, e1, hj0]
    · by_cases h24 : x.1 = 24
      · by_cases hj0 : 0 < j
        · have h20 : (p.body[ks[j].toNat]).1 = 20 := by simpa [inner, h24, hj0] using hp2
          simp [-loadH_hp, h1, idx_intsN _ _ hj, idx_intsN _ _ hw, load4, load0, load2, hof j hj, hp1, h23, h24, e1, hj0, idx_nodes _ _ k0 k1, h20]
        · simp [-loadH_hp, h1, idx_intsN _ _ hj, idx_intsN _ _ hw, load4, load0, load2, hof j hj, hp1, h23, h24, e1, hj0]
      · simp [-loadH_hp, h1, idx_intsN _ _ hj, idx_intsN _ _ hw, load4, load0, load2, hof j hj, hp1, h23, h24, e1]
  · intro j _ hj hp
    have hw : j < w.length := by omega
    have h1 : (j : Int) < ks.length := by omega
    obtain ⟨k0, k1⟩ := hkid j hj
    rw [split3 j hj hw] at hp
    rw [st_kinds_checker__of_0]
    by_cases hq : kindV m p.vars p.body ks[j] = w[j]
    · simp only [hq, decide_true, Bool.true_and, Bool.not_eq_false', Bool.and_eq_true, decide_eq_true_eq, Bool.not_eq_true', decide_eq_false_iff_not] at hp
      obtain ⟨⟨hp1, hp2⟩, hp3⟩ := hp
      have hj0 : 0 < j := hp2
      by_cases h23 : x.1 = 23
      · simp [-loadH_hp, h1, idx_intsN _ _ hj, idx_intsN _ _ hw, load4, load0, load2, hof j hj, hq, h23, hj0, idx_nodes _ _ k0 k1, hp3]
      · have h24 : x.1 = 24 := by simpa [inner, h23] using hp1
        simp [-loadH_hp, h1, idx_intsN _ _ hj, idx_intsN _ _ hw, load4, load0, load2, hof j hj, hq, h23, h24, hj0, idx_nodes _ _ k0 k1, hp3]
    · simp [-loadH_hp, h1, idx_intsN _ _ hj, idx_intsN _ _ hw, load4, load0, load2, hof j hj, hq]
  · rw [st_kinds_checker__of_0]
    simp
theorem C_of : ∀ m : Nat, CallOk Try.prog 44 (F_of m)
  | 0 => ⟨⟨_, Try.func44, by decide, rfl⟩, fun ds d hF => by
      exfalso
      unfold F_of F2 at hF
      split at hF
      · obtain ⟨p, _, hF⟩ := Option.bind_eq_some_iff.1 hF
        obtain ⟨i, _, hF⟩ := Option.bind_eq_some_iff.1 hF
        simp only at hF
        split at hF
        · rename_i hc
          simp only [ofOk, Bool.and_eq_true, decide_eq_true_eq] at hc
          have := (endv_in p.body i hc.1.1).2
          omega
        · cases hF
      · cases hF⟩
  | m + 1 => by
    have hT : TabOk Try.prog (T09e m) := tabOk_of (entries_cons (entry_lift (C_of m)) fs09d_ok)
    refine call2 (kp := kp_kinds_checker__of) hT mixed Try.func44 (by kernel_rfl) (by decide) fun p i d h => ?_
    split at h
    case isFalse => cases h
    rename_i hc
    cases h
    simp only [ofOk, Bool.and_eq_true, decide_eq_true_eq] at hc
    obtain ⟨⟨hE, hlen⟩, hm⟩ := hc
    obtain ⟨h0, hil⟩ := endv_in p.body i hE
    obtain ⟨k, rfl⟩ := Int.eq_ofNat_of_zero_le h0
    have hk : k < p.body.length := by simpa using hil
    have har : 0 ≤ ar p.body[k] := by have := endv_ar p.body k hE; rwa [arAt_in _ _ hk] at this
    have hn := ruleOf_num p.body[k] har
    have hna : nodeAt p.body k = p.body[k] := by unfold nodeAt; rw [Int.toNat_natCast, getD_in _ _ _ hk]
    have hkl := kidsv_len p.body k
    have hkid : ∀ (j : Nat) (hj : j < (kidsv p.body k).length), 0 ≤ (kidsv p.body k)[j] ∧ (kidsv p.body k)[j].toNat < p.body.length := fun j hj => by
      have := kid_facts p.body k j hj
      exact ⟨by omega, this.2.2.2⟩
    have hof : ∀ (j : Nat) (hj : j < (kidsv p.body k).length), liftF (F_of m) [.agg [iD p.params, intsD p.vars, nodesD p.body, rulesD], iD (kidsv p.body k)[j]] (ofH p p.body[k]) = some (iD (kindV m p.vars p.body (kidsv p.body k)[j]), ofH p p.body[k]) := by
      intro j hj
      have hf := kid_facts p.body k j hj
      rw [liftF_pure _ _ _ rfl]
      have : F_of m [.agg [iD p.params, intsD p.vars, nodesD p.body, rulesD], iD (kidsv p.body k)[j]] = _ := f2_enc (A := chkT) (B := intT) _ p (kidsv p.body k)[j]
      rw [this, if_pos]
      · rfl
      · simp only [ofOk, Bool.and_eq_true, decide_eq_true_eq]
        refine ⟨⟨hf.2.1, hlen⟩, ?_⟩
        have := hf.1
        simp only [Int.toNat_natCast] at hm
        omega
    have hkind : kindV (m + 1) p.vars p.body k = if ruleKind p.vars p.body[k].2 (ruleOf p.body[k].1) = -1 ∨ (askV p.vars p.body[k] (kidsv p.body k).length (ruleOf p.body[k].1)).length ≠ (kidsv p.body k).length then -1 else
        if (List.range (kidsv p.body k).length).all (ofAt m p p.body[k] (kidsv p.body k) (askV p.vars p.body[k] (kidsv p.body k).length (ruleOf p.body[k].1))) then ruleKind p.vars p.body[k].2 (ruleOf p.body[k].1) else -1 := by
      rw [kindV, if_neg (by omega)]
      simp only [hna]
      rfl
    have hask := fun H => asked_pure p p.body[k] (ruleOf p.body[k].1) (kidsv p.body k).length hn (by omega) H
    have hmeth := fun (hr : ruleOf p.body[k].1 ≠ .none) H => meth_kind m (ruleOf p.body[k].1) hr p p.body[k] hn H
    have hloop := of_loop m ((kidsv p.body k).length + 1) p p.body[k] (kidsv p.body k) (askV p.vars p.body[k] (kidsv p.body k).length (ruleOf p.body[k].1))
    refine ⟨(kidsv p.body k).length + 1, _, ?_, Imp.refl _⟩
    show outD (textK _ _ _ _ _ [.agg (chkC p), iD (k : Int)] []) = _
    rw [sh_kinds_checker__of, hkind]
    rw [box_agg _ _ _ rfl]
    have ea : ∀ o : HO, allocH 39 [iD 0, iD 0] [o] = some (.hp 1 0, [o, .cells 39 2 [iD 0, iD 0]]) := fun o => rfl
    have es : ∀ o : HO, setH 2 (.hp 1 0) (.agg (nodeD p.body[k])) [o, .cells 39 2 [iD 0, iD 0]] = some (.v undef, [o, .cells 39 2 [iD p.body[k].1, iD p.body[k].2]]) := fun o => rfl
    have ep : D.agg [iD p.params, intsD p.vars, nodesD p.body] = progD p := rfl
    have en : D.agg [iD p.body[k].1, iD p.body[k].2] = .agg (nodeD p.body[k]) := rfl
    have hlook := look_rules p.body[k].1
    have hlk : ∀ a b : Nat, ((a : Int) = b) = (a = b) := fun a b => by simp only [eq_iff_iff]; omega
    generalize ruleOf p.body[k].1 = r at hn hkind hask hmeth hloop hlook ⊢
    have hall1 : (∀ i, 0 ≤ i → i < (kidsv p.body k).length → ofAt m p p.body[k] (kidsv p.body k) (askV p.vars p.body[k] (kidsv p.body k).length r) i = true) → (List.range (kidsv p.body k).length).all (ofAt m p p.body[k] (kidsv p.body k) (askV p.vars p.body[k] (kidsv p.body k).length r)) = true := fun q => by
      rw [List.all_eq_true]; intro i hi; exact q i (Nat.zero_le _) (by simpa using hi)
    have hall2 : ∀ i, i < (kidsv p.body k).length → ofAt m p p.body[k] (kidsv p.body k) (askV p.vars p.body[k] (kidsv p.body k).length r) i = false → (List.range (kidsv p.body k).length).all (ofAt m p p.body[k] (kidsv p.body k) (askV p.vars p.body[k] (kidsv p.body k).length r)) = false := fun i hi q => by
      rw [Bool.eq_false_iff]; intro e; rw [List.all_eq_true] at e
      have := e i (by simpa using hi)
      rw [q] at this; cases this
    have hr := fun is hl => hloop is hof hkid hkl (by omega) hl
    simp only [ofH, cast0] at hr
    generalize askV p.vars p.body[k] (kidsv p.body k).length r = ww at hall1 hall2 hask hr ⊢
    by_cases hn0 : r = .none
    · subst hn0
      have h2 : ruleKind p.vars p.body[k].2 RuleT.none = 2 := rfl
      by_cases hl : ww.length = (kidsv p.body k).length
      · rcases hr 2 hl with ⟨q1, q2⟩ | ⟨i, _, q1, q2, q3, q4⟩
        · have hall := hall1 q1
          simp [chkC, idx_nodesN _ _ hk, ea, es, kids_pure _ _ hlen, hlook, ruleNil, ep, en, h2, hask, hl, q2, hall]
        · have hall := hall2 i q1 q2
          simp [chkC, idx_nodesN _ _ hk, ea, es, kids_pure _ _ hlen, hlook, ruleNil, ep, en, h2, hask, hl, q4, hall]
      · simp [chkC, idx_nodesN _ _ hk, ea, es, kids_pure _ _ hlen, hlook, ruleNil, ep, en, h2, hask, hl, hlk]
    · have hm' := hmeth hn0
      generalize ruleKind p.vars p.body[k].2 r = is at hm' ⊢
      by_cases his : is = -1
      · simp [chkC, idx_nodesN _ _ hk, ea, es, kids_pure _ _ hlen, hlook, ruleNil, ep, en, hask, hm', hn0, his]
      · by_cases hl : ww.length = (kidsv p.body k).length
        · rcases hr is hl with ⟨q1, q2⟩ | ⟨i, _, q1, q2, q3, q4⟩
          · have hall := hall1 q1
            simp [chkC, idx_nodesN _ _ hk, ea, es, kids_pure _ _ hlen, hlook, ruleNil, ep, en, hask, hm', hn0, his, hl, q2, hall]
          · have hall := hall2 i q1 q2
            simp [chkC, idx_nodesN _ _ hk, ea, es, kids_pure _ _ hlen, hlook, ruleNil, ep, en, hask, hm', hn0, his, hl, q4, hall]
        · simp [chkC, idx_nodesN _ _ hk, ea, es, kids_pure _ _ hlen, hlook, ruleNil, ep, en, hask, hm', hn0, his, hl, hlk]
end Go.Proofs.Ytbnmkdlmalobaaa
end

section
namespace Go.Proofs.Ytbnmkdlmalobaaa
open Go.RowKit
set_option linter.unusedVariables false
set_option linter.unusedSimpArgs false

def allV (m : Nat) (p : Pg) (ks want : List Int) : Bool := decide (ks.length = want.length) && (List.range ks.length).all fun j => decide (kindV m p.vars p.body (ks.getD j 0) = want.getD j 0)
def F_refOf (m : Nat) : List D → Option D := F2 progT intT fun p i => if p.body.length ≤ 3000000 ∧ 0 < m ∧ (endv p.body i < 0 ∨ p.body.length < i.toNat + m) then some (iD (kindV m p.vars p.body i)) else none
def F_all (m : Nat) : List D → Option D := F3 progT intsT intsT fun p ks want => if p.body.length ≤ 3000000 ∧ ks.length ≤ 3000000 ∧ 0 < m ∧ (∀ k ∈ ks, p.body.length < k.toNat + m) then some (bD (allV m p ks want)) else none
def fs09f (m : Nat) : List Entry := (26, true, liftF (F_refOf m)) :: (49, true, liftF (F_all m)) :: fs09d
def T09f (m : Nat) : Tab := ⟨fs09f m, noYl⟩
def fs09g (m : Nat) : List Entry := (26, true, liftF (F_refOf m)) :: fs09d
def T09g (m : Nat) : Tab := ⟨fs09g m, noYl⟩
end Go.Proofs.Ytbnmkdlmalobaaa
end

section
namespace Go.Proofs.Ytbnmkdlmalobaaa
open Go.RowKit
set_option linter.unusedVariables false
set_option maxRecDepth 100000
variable (m : Nat)

def kp_offshootref09_Of : List Nat := [2, 4, 6, 8]
theorem sh_offshootref09_Of (n : Nat) (x0 x1 : D) (h : Heap) : textK Try.prog (T09f m) kp_offshootref09_Of n Try.f26 [x0, x1] h =
(thnH (boxH 25 x0 h) fun y0 h1 =>
thn (fieldAtH 2 y0) fun y2 =>
thn (loadH none h1 y2) fun y3 =>
thnH (liftF F_RefEnd [y3, x1] h1) fun y4 h5 =>
thn (binK .int .lss y4 (iD 0)) fun y6 =>
condK y6
(some ((iD (-1)), h5))
(thn (fieldAtH 2 y0) fun y7 =>
thn (loadH none h5 y7) fun y8 =>
thn (idxH 2 y8 x1) fun y9 =>
thn (loadH (some 2) h5 y9) fun y10 =>
thnH (allocH 39 [(iD 0), (iD 0)] h5) fun y11 h12 =>
thnH (setH 2 y11 y10 h12) fun y13 h14 =>
thn (fieldAtH 2 y0) fun y15 =>
thn (loadH none h14 y15) fun y16 =>
thnH (liftF F_RefKids [y16, x1] h14) fun y17 h18 =>
thn (loadH (some 3) h18 y0) fun y19 =>
thn (fieldAtH 1 y11) fun y20 =>
thn (loadH none h18 y20) fun y21 =>
thnH (liftF F_typed [y19, y21] h18) fun y22 h23 =>
thn (fieldAtH 0 y11) fun y24 =>
thn (loadH none h23 y24) fun y25 =>
thn (binK .int .eql y25 (iD 1)) fun y26 =>
condK y26
(some ((iD 0), h23))
(thn (binK .int .eql y25 (iD 2)) fun y27 =>
condK y27
(some ((iD 1), h23))
(thn (binK .int .eql y25 (iD 3)) fun y28 =>
condK y28
(thn (binK .int .eql y22 (iD 0)) fun y29 =>
condK y29
(thnH (liftF F_kind [(bD true), y22] h23) fun y30 h31 =>
some (y30, h31))
(thn (binK .int .eql y22 (iD 1)) fun y32 =>
thnH (liftF F_kind [y32, y22] h23) fun y33 h34 =>
some (y33, h34)))
(thn (binK .int .eql y25 (iD 4)) fun y35 =>
condK y35
(thnH (liftF F_Size [y22] h23) fun y36 h37 =>
thn (binK .int .gtr y36 (iD 0)) fun y38 =>
condK y38
(thn (loadH (some 3) h37 y0) fun y39 =>
thnH (rowH 3 1 1 [(iD 0)] [(0, (iD 0))] h37) fun y40 h41 =>
thnH (liftF (F_all m) [y39, y17, y40] h41) fun y42 h43 =>
thnH (liftF F_kind [y42, (iD 0)] h43) fun y44 h45 =>
some (y44, h45))
(thnH (liftF F_kind [(bD false), (iD 0)] h37) fun y46 h47 =>
some (y46, h47)))
(thn (binK .int .eql y25 (iD 5)) fun y48 =>
condK y48
(thn (loadH (some 3) h23 y0) fun y49 =>
thnH (rowH 3 1 1 [(iD 0)] [(0, (iD 0))] h23) fun y50 h51 =>
thnH (liftF (F_all m) [y49, y17, y50] h51) fun y52 h53 =>
thnH (liftF F_kind [y52, (iD 0)] h53) fun y54 h55 =>
some (y54, h55))
(thn (binK .int .eql y25 (iD 6)) fun y56 =>
condK y56
(thn (loadH (some 3) h23 y0) fun y57 =>
thnH (rowH 3 1 1 [(iD 0)] [(0, (iD 1))] h23) fun y58 h59 =>
thnH (liftF (F_all m) [y57, y17, y58] h59) fun y60 h61 =>
thnH (liftF F_kind [y60, (iD 1)] h61) fun y62 h63 =>
some (y62, h63))
(thn (binK .int .eql y25 (iD 7)) fun y64 =>
condK y64
(thn (loadH (some 3) h23 y0) fun y65 =>
thnH (rowH 3 1 2 [(iD 0)] [(0, (iD 0)), (1, (iD 0))] h23) fun y66 h67 =>
thnH (liftF (F_all m) [y65, y17, y66] h67) fun y68 h69 =>
thnH (liftF F_kind [y68, (iD 0)] h69) fun y70 h71 =>
some (y70, h71))
(thn (binK .int .eql y25 (iD 8)) fun y72 =>
condK y72
(thn (loadH (some 3) h23 y0) fun y73 =>
thnH (rowH 3 1 2 [(iD 0)] [(0, (iD 0)), (1, (iD 0))] h23) fun y74 h75 =>
thnH (liftF (F_all m) [y73, y17, y74] h75) fun y76 h77 =>
thnH (liftF F_kind [y76, (iD 0)] h77) fun y78 h79 =>
some (y78, h79))
(thn (binK .int .eql y25 (iD 9)) fun y80 =>
condK y80
(thn (loadH (some 3) h23 y0) fun y81 =>
thnH (rowH 3 1 2 [(iD 0)] [(0, (iD 0)), (1, (iD 0))] h23) fun y82 h83 =>
thnH (liftF (F_all m) [y81, y17, y82] h83) fun y84 h85 =>
thnH (liftF F_kind [y84, (iD 0)] h85) fun y86 h87 =>
some (y86, h87))
(thn (binK .int .eql y25 (iD 10)) fun y88 =>
condK y88
(thn (loadH (some 3) h23 y0) fun y89 =>
thnH (rowH 3 1 2 [(iD 0)] [(0, (iD 0)), (1, (iD 0))] h23) fun y90 h91 =>
thnH (liftF (F_all m) [y89, y17, y90] h91) fun y92 h93 =>
thnH (liftF F_kind [y92, (iD 0)] h93) fun y94 h95 =>
some (y94, h95))
(thn (binK .int .eql y25 (iD 11)) fun y96 =>
condK y96
(thn (loadH (some 3) h23 y0) fun y97 =>
thnH (rowH 3 1 2 [(iD 0)] [(0, (iD 0)), (1, (iD 0))] h23) fun y98 h99 =>
thnH (liftF (F_all m) [y97, y17, y98] h99) fun y100 h101 =>
thnH (liftF F_kind [y100, (iD 0)] h101) fun y102 h103 =>
some (y102, h103))
(thn (binK .int .eql y25 (iD 12)) fun y104 =>
condK y104
(thn (loadH (some 3) h23 y0) fun y105 =>
thnH (rowH 3 1 2 [(iD 0)] [(0, (iD 0)), (1, (iD 0))] h23) fun y106 h107 =>
thnH (liftF (F_all m) [y105, y17, y106] h107) fun y108 h109 =>
thnH (liftF F_kind [y108, (iD 1)] h109) fun y110 h111 =>
some (y110, h111))
(thn (binK .int .eql y25 (iD 13)) fun y112 =>
condK y112
(thn (loadH (some 3) h23 y0) fun y113 =>
thnH (rowH 3 1 2 [(iD 0)] [(0, (iD 0)), (1, (iD 0))] h23) fun y114 h115 =>
thnH (liftF (F_all m) [y113, y17, y114] h115) fun y116 h117 =>
thnH (liftF F_kind [y116, (iD 1)] h117) fun y118 h119 =>
some (y118, h119))
(thn (binK .int .eql y25 (iD 14)) fun y120 =>
condK y120
(thn (loadH (some 3) h23 y0) fun y121 =>
thnH (rowH 3 1 2 [(iD 0)] [(0, (iD 0)), (1, (iD 0))] h23) fun y122 h123 =>
thnH (liftF (F_all m) [y121, y17, y122] h123) fun y124 h125 =>
thnH (liftF F_kind [y124, (iD 1)] h125) fun y126 h127 =>
some (y126, h127))
(thn (binK .int .eql y25 (iD 15)) fun y128 =>
condK y128
(thn (loadH (some 3) h23 y0) fun y129 =>
thnH (rowH 3 1 2 [(iD 0)] [(0, (iD 0)), (1, (iD 0))] h23) fun y130 h131 =>
thnH (liftF (F_all m) [y129, y17, y130] h131) fun y132 h133 =>
thnH (liftF F_kind [y132, (iD 1)] h133) fun y134 h135 =>
some (y134, h135))
(thn (binK .int .eql y25 (iD 16)) fun y136 =>
condK y136
(thn (loadH (some 3) h23 y0) fun y137 =>
thnH (rowH 3 1 2 [(iD 0)] [(0, (iD 0)), (1, (iD 0))] h23) fun y138 h139 =>
thnH (liftF (F_all m) [y137, y17, y138] h139) fun y140 h141 =>
thnH (liftF F_kind [y140, (iD 1)] h141) fun y142 h143 =>
some (y142, h143))
(thn (binK .int .eql y25 (iD 17)) fun y144 =>
condK y144
(thn (loadH (some 3) h23 y0) fun y145 =>
thnH (rowH 3 1 2 [(iD 0)] [(0, (iD 0)), (1, (iD 0))] h23) fun y146 h147 =>
thnH (liftF (F_all m) [y145, y17, y146] h147) fun y148 h149 =>
thnH (liftF F_kind [y148, (iD 1)] h149) fun y150 h151 =>
some (y150, h151))
(thn (binK .int .eql y25 (iD 18)) fun y152 =>
condK y152
(thn (loadH (some 3) h23 y0) fun y153 =>
thnH (rowH 3 1 2 [(iD 0)] [(0, (iD 1)), (1, (iD 1))] h23) fun y154 h155 =>
thnH (liftF (F_all m) [y153, y17, y154] h155) fun y156 h157 =>
thnH (liftF F_kind [y156, (iD 1)] h157) fun y158 h159 =>
some (y158, h159))
(thn (binK .int .eql y25 (iD 19)) fun y160 =>
condK y160
(thn (loadH (some 3) h23 y0) fun y161 =>
thnH (rowH 3 1 2 [(iD 0)] [(0, (iD 1)), (1, (iD 1))] h23) fun y162 h163 =>
thnH (liftF (F_all m) [y161, y17, y162] h163) fun y164 h165 =>
thnH (liftF F_kind [y164, (iD 1)] h165) fun y166 h167 =>
some (y166, h167))
(thn (binK .int .eql y25 (iD 20)) fun y168 =>
condK y168
(leaveK (loopF Try.prog (T09f m) kp_offshootref09_Of n Try.f26 0 [y0, (iD 0), y17, (iD 0)] h23) (fun j169 s170 h171 =>
condN j169 1
(some ((iD 2), h171))
(condN j169 0
(some ((iD 2), h171))
(none))) (fun s170 h171 =>
some ((s170.getD 1 .undef), h171)))
(thn (binK .int .eql y25 (iD 21)) fun y172 =>
condK y172
(thn (binK .int .eql y22 (iD 0)) fun y173 =>
condK y173
(thn (loadH (some 3) h23 y0) fun y174 =>
thnH (rowH 3 1 1 [(iD 0)] [(0, y22)] h23) fun y175 h176 =>
thnH (liftF (F_all m) [y174, y17, y175] h176) fun y177 h178 =>
thnH (liftF F_kind [y177, (iD 2)] h178) fun y179 h180 =>
some (y179, h180))
(thn (binK .int .eql y22 (iD 1)) fun y181 =>
condK y181
(thn (loadH (some 3) h23 y0) fun y182 =>
thnH (rowH 3 1 1 [(iD 0)] [(0, y22)] h23) fun y183 h184 =>
thnH (liftF (F_all m) [y182, y17, y183] h184) fun y185 h186 =>
thnH (liftF F_kind [y185, (iD 2)] h186) fun y187 h188 =>
some (y187, h188))
(thnH (liftF F_kind [(bD false), (iD 2)] h23) fun y189 h190 =>
some (y189, h190))))
(thn (binK .int .eql y25 (iD 22)) fun y191 =>
condK y191
(thnH (liftF F_Size [y22] h23) fun y192 h193 =>
thn (binK .int .gtr y192 (iD 0)) fun y194 =>
condK y194
(thn (loadH (some 3) h193 y0) fun y195 =>
thnH (rowH 3 1 2 [(iD 0)] [(0, (iD 0)), (1, (iD 0))] h193) fun y196 h197 =>
thnH (liftF (F_all m) [y195, y17, y196] h197) fun y198 h199 =>
thnH (liftF F_kind [y198, (iD 2)] h199) fun y200 h201 =>
some (y200, h201))
(thnH (liftF F_kind [(bD false), (iD 2)] h193) fun y202 h203 =>
some (y202, h203)))
(thn (binK .int .eql y25 (iD 23)) fun y204 =>
condK y204
(thn (loadH (some 3) h23 y0) fun y205 =>
thnH (rowH 3 1 3 [(iD 0)] [(0, (iD 1)), (1, (iD 2)), (2, (iD 2))] h23) fun y206 h207 =>
thnH (liftF (F_all m) [y205, y17, y206] h207) fun y208 h209 =>
condK y208
(thn (loadH (some 3) h209 y0) fun y210 =>
thnH (liftF F_blocks [y210, y17, (iD 1)] h209) fun y211 h212 =>
thnH (liftF F_kind [y211, (iD 2)] h212) fun y213 h214 =>
some (y213, h214))
(thnH (liftF F_kind [(bD false), (iD 2)] h209) fun y215 h216 =>
some (y215, h216)))
(thn (binK .int .eql y25 (iD 24)) fun y217 =>
condK y217
(thn (loadH (some 3) h23 y0) fun y218 =>
thnH (rowH 3 1 2 [(iD 0)] [(0, (iD 1)), (1, (iD 2))] h23) fun y219 h220 =>
thnH (liftF (F_all m) [y218, y17, y219] h220) fun y221 h222 =>
condK y221
(thn (loadH (some 3) h222 y0) fun y223 =>
thnH (liftF F_blocks [y223, y17, (iD 1)] h222) fun y224 h225 =>
thnH (liftF F_kind [y224, (iD 2)] h225) fun y226 h227 =>
some (y226, h227))
(thnH (liftF F_kind [(bD false), (iD 2)] h222) fun y228 h229 =>
some (y228, h229)))
(thn (binK .int .eql y25 (iD 25)) fun y230 =>
condK y230
(thn (loadH (some 3) h23 y0) fun y231 =>
thnH (rowH 3 1 1 [(iD 0)] [(0, (iD 0))] h23) fun y232 h233 =>
thnH (liftF (F_all m) [y231, y17, y232] h233) fun y234 h235 =>
thnH (liftF F_kind [y234, (iD 2)] h235) fun y236 h237 =>
some (y236, h237))
(some ((iD 2), h23)))))))))))))))))))))))))))) := by kernel_rfl

theorem st_offshootref09_Of_0 (n : Nat) (s0 s1 s2 s3 : D) (h : Heap) : stepF Try.prog (T09f m) kp_offshootref09_Of n Try.f26 0 [s0, s1, s2, s3] h =
(thn (lenH .sl s2) fun y0 =>
thn (binK .int .lss s3 y0) fun y1 =>
condK y1
(thn (loadH (some 3) h s0) fun y2 =>
thn (idxH 1 s2 s3) fun y3 =>
thn (loadH none h y3) fun y4 =>
thnH (liftF (F_refOf m) [y2, y4] h) fun y5 h6 =>
thn (binK .int .neq y5 (iD 2)) fun y7 =>
condK y7
(some (.ret, [s0, (iD (-1)), s2, s3], h6))
(thn (binK .int .add s3 (iD 1)) fun y8 =>
some (.normal, [s0, s1, s2, y8], h6)))
(some ((.exit 1), [s0, s1, s2, s3], h))) := by kernel_rfl

end Go.Proofs.Ytbnmkdlmalobaaa
end

section
namespace Go.Proofs.Ytbnmkdlmalobaaa
open Go.RowKit
set_option linter.unusedVariables false
set_option maxRecDepth 100000
variable (m : Nat)

def kp_offshootref09_all : List Nat := [1, 2, 3, 6, 7]
theorem sh_offshootref09_all (n : Nat) (x0 x1 x2 : D) (h : Heap) : textK Try.prog (T09g m) kp_offshootref09_all n Try.f49 [x0, x1, x2] h =
(thnH (boxH 25 x0 h) fun y0 h1 =>
thn (lenH .sl x1) fun y2 =>
thn (lenH .sl x2) fun y3 =>
thn (binK .int .neq y2 y3) fun y4 =>
condK y4
(some ((bD false), h1))
(leaveK (loopF Try.prog (T09g m) kp_offshootref09_all n Try.f49 0 [x1, x2, y0, (bD false), (iD 0)] h1) (fun j5 s6 h7 =>
condN j5 0
(some ((bD true), h7))
(none)) (fun s6 h7 =>
some ((s6.getD 3 .undef), h7)))) := by kernel_rfl

theorem st_offshootref09_all_0 (n : Nat) (s0 s1 s2 s3 s4 : D) (h : Heap) : stepF Try.prog (T09g m) kp_offshootref09_all n Try.f49 0 [s0, s1, s2, s3, s4] h =
(thn (lenH .sl s0) fun y0 =>
thn (binK .int .lss s4 y0) fun y1 =>
condK y1
(thn (loadH (some 3) h s2) fun y2 =>
thn (idxH 1 s0 s4) fun y3 =>
thn (loadH none h y3) fun y4 =>
thnH (liftF (F_refOf m) [y2, y4] h) fun y5 h6 =>
thn (idxH 1 s1 s4) fun y7 =>
thn (loadH none h6 y7) fun y8 =>
thn (binK .int .neq y5 y8) fun y9 =>
condK y9
(some (.ret, [s0, s1, s2, (bD false), s4], h6))
(thn (binK .int .add s4 (iD 1)) fun y10 =>
some (.normal, [s0, s1, s2, s3, y10], h6)))
(some ((.exit 0), [s0, s1, s2, s3, s4], h))) := by kernel_rfl

end Go.Proofs.Ytbnmkdlmalobaaa
end

section
namespace Go.Proofs.Ytbnmkdlmalobaaa
open Go.RowKit
set_option linter.unusedVariables false
set_option linter.unusedSimpArgs false

theorem ar_tag (x : Nd) (h : 0 ≤ ar x) : 1 ≤ x.1 ∧ x.1 ≤ 26 := by
  unfold ar at h
  split at h
  · omega
  · split at h
    · omega
    · rename_i h1 h2
      unfold lim at h2
      repeat' split at h2
      all_goals (try (simp only at h2)); omega
theorem kids_count (l : List Nd) (k : Nat) (h : 0 ≤ endv l k) (hk : k < l.length) : (kidsv l k).length = (ar l[k]).toNat := by
  rw [kidsv_eq l k h, upto_length, arAt_in l k hk]

theorem all_split (n : Nat) (f g : Nat → Bool) : ((List.range n).all fun j => f j && g j) = ((List.range n).all f && (List.range n).all g) := by
  induction n with
  | zero => rfl
  | succ n ih =>
    simp only [List.range_succ, List.all_append, ih]
    simp only [List.all_cons, List.all_nil, Bool.and_true]
    cases (List.range n).all f <;> cases (List.range n).all g <;> cases f n <;> cases g n <;> rfl
/-- A kind, by what is asked of kids all at once. -/
theorem kind_all (m : Nat) (p : Pg) (k : Nat) (h : 0 ≤ endv p.body k) (hk : k < p.body.length) (r : RuleT) (hr : ruleOf p.body[k].1 = r) : kindV (m + 1) p.vars p.body k =
    if ruleKind p.vars p.body[k].2 r = -1 then -1 else
    if allV m p (kidsv p.body k) (askV p.vars p.body[k] (kidsv p.body k).length r) && (!inner p.body[k].1 || blkV p.body (kidsv p.body k) 1) then ruleKind p.vars p.body[k].2 r else -1 := by
  have hna : nodeAt p.body k = p.body[k] := by unfold nodeAt; rw [Int.toNat_natCast, getD_in _ _ _ hk]
  rw [kindV, if_neg (by omega)]
  simp only [hna, hr]
  generalize ruleKind p.vars p.body[k].2 r = is
  generalize askV p.vars p.body[k] (kidsv p.body k).length r = w
  generalize kidsv p.body k = ks
  by_cases his : is = -1
  · simp [his]
  · by_cases hl : w.length = ks.length
    · rw [if_neg (by simp [his, hl]), if_neg his, all_split]
      have hb : ((List.range ks.length).all fun j => !(inner p.body[k].1 && decide (0 < j) && !decide ((nodeAt p.body (ks.getD j 0)).1 = 20))) = (!inner p.body[k].1 || blkV p.body ks 1) := by
        cases hi : inner p.body[k].1 with
        | false => simp
        | true =>
          simp only [Bool.true_and, Bool.not_true, Bool.false_or]
          rw [Bool.eq_iff_iff]
          simp only [List.all_eq_true, List.mem_range, blkV, Bool.not_eq_true', Bool.and_eq_false_iff, decide_eq_false_iff_not, Bool.not_eq_false', decide_eq_true_eq]
          constructor
          · intro q y hy
            obtain ⟨j, hj, e⟩ := List.getElem_of_mem hy
            simp only [List.length_drop] at hj
            rw [List.getElem_drop] at e
            rcases q (1 + j) (by omega) with q | q
            · omega
            · have hj' : 1 + j < ks.length := by omega
              rw [getD_in _ _ _ hj', e] at q; exact q
          · intro q j hj
            by_cases h0 : 0 < j
            · right
              rw [getD_in _ _ _ hj]
              show (p.body.getD (ks[j]).toNat (0, 0)).1 = 20
              refine q _ ?_
              have : j = 1 + (j - 1) := by omega
              rw [List.mem_iff_getElem]
              refine ⟨j - 1, by simp; omega, ?_⟩
              rw [List.getElem_drop]
              congr 1
              omega
            · exact .inl h0
      rw [hb]
      simp [allV, hl]
    · rw [if_pos (.inr hl), if_neg his]
      have : allV m p ks w = false := by simp [allV, show ¬ ks.length = w.length from fun e => hl e.symm]
      simp [this]

theorem row1 (t : TypeId) (a : Int) (H : Heap) : rowH t 1 1 [iD 0] [(0, iD a)] H = some (.hs H.length 1, H ++ [.cells t 1 [iD a]]) := rfl
theorem row2 (t : TypeId) (a b : Int) (H : Heap) : rowH t 1 2 [iD 0] [(0, iD a), (1, iD b)] H = some (.hs H.length 2, H ++ [.cells t 1 [iD a, iD b]]) := rfl
theorem row3 (t : TypeId) (a b c : Int) (H : Heap) : rowH t 1 3 [iD 0] [(0, iD a), (1, iD b), (2, iD c)] H = some (.hs H.length 3, H ++ [.cells t 1 [iD a, iD b, iD c]]) := rfl
section
variable (m : Nat) (p : Pg) (ks : List Int) (hp : p.body.length ≤ 3000000) (hks : ks.length ≤ 3000000) (hm : 0 < m) (hk : ∀ k ∈ ks, p.body.length < k.toNat + m)
include hp hks hm hk
theorem all_obj (H : Heap) (id : Nat) (t : TypeId) (l : List Int) (h : H[id]? = some (.cells t 1 (l.map iD))) : liftF (F_all m) [progD p, intsD ks, .hs id l.length] H = some (bD (allV m p ks l), H) := by
  have hd : [progD p, intsD ks, .hs id l.length].mapM (derefN H 9) = some [progD p, intsD ks, intsD l] := by
    simp only [List.mapM_cons, List.mapM_nil, derefN_pure H 9 (progD p) rfl, derefN_pure H 9 (intsD ks) rfl, deref_ints H 8 id t l h]
    rfl
  rw [liftF_obj _ _ _ _ rfl hd]
  have : F_all m [progD p, intsD ks, intsD l] = _ := f3_enc (A := progT) (B := intsT) (C := intsT) _ p ks l
  rw [this, if_pos ⟨hp, hks, hm, hk⟩]
  rfl
end
theorem kindF_pure (b : Bool) (k : Int) (H : Heap) : liftF F_kind [bD b, iD k] H = some (iD (if b then k else -1), H) := by rw [liftF_pure _ _ _ rfl]; rfl
theorem typed_pure (p : Pg) (v : Int) (H : Heap) : liftF F_typed [progD p, iD v] H = some (iD (typedV p.vars v), H) := by
  rw [liftF_pure _ _ _ rfl]
  have : F_typed [progD p, iD v] = _ := f2_enc (A := progT) (B := intT) _ p v
  rw [this]; rfl
theorem refEnd_pure (l : List Nd) (i : Int) (h : l.length ≤ 3000000) (H : Heap) : liftF F_RefEnd [nodesD l, iD i] H = some (iD (endv l i), H) := by
  rw [liftF_pure _ _ _ rfl]; simp [F_RefEnd, h]
theorem end_pure (l : List Nd) (i : Int) (h : l.length ≤ 3000000) (H : Heap) : liftF F_End [nodesD l, iD i] H = some (iD (endv l i), H) := by
  rw [liftF_pure _ _ _ rfl]; simp [F_End, h]
theorem refKids_pure (l : List Nd) (i : Int) (h : l.length ≤ 3000000) (H : Heap) : liftF F_RefKids [nodesD l, iD i] H = some (intsD (kidsv l i), H) := by
  rw [liftF_pure _ _ _ rfl]; simp [F_RefKids, h]
theorem blocks_pure (p : Pg) (ks : List Int) (h1 : ks.length ≤ 3000000) (h2 : ∀ k ∈ ks, 0 ≤ k ∧ k.toNat < p.body.length) (H : Heap) : liftF F_blocks [progD p, intsD ks, iD 1] H = some (bD (blkV p.body ks 1), H) := by
  rw [liftF_pure _ _ _ rfl]
  have : F_blocks [progD p, intsD ks, iD 1] = _ := f3_enc (A := progT) (B := intsT) (C := intT) _ p ks 1
  rw [this, if_pos ⟨by omega, h1, h2⟩]; rfl
theorem refOf_pure (m : Nat) (p : Pg) (i : Int) (hp : p.body.length ≤ 3000000) (hm : 0 < m) (hi : endv p.body i < 0 ∨ p.body.length < i.toNat + m) (H : Heap) : liftF (F_refOf m) [progD p, iD i] H = some (iD (kindV m p.vars p.body i), H) := by
  rw [liftF_pure _ _ _ rfl]
  have : F_refOf m [progD p, iD i] = _ := f2_enc (A := progT) (B := intT) _ p i
  rw [this, if_pos ⟨hp, hm, hi⟩]; rfl

theorem C_all (m : Nat) (hC : CallOk Try.prog 26 (F_refOf m)) : CallOk Try.prog 49 (F_all m) := by
  have hT : TabOk Try.prog (T09g m) := tabOk_of (entries_cons (entry_lift hC) fs09d_ok)
  refine call3 (kp := kp_offshootref09_all) hT mixed Try.func49 (by kernel_rfl) (by decide) fun p ks w d h => ?_
  split at h
  case isFalse => cases h
  rename_i hc
  obtain ⟨hp, hks, hm, hk⟩ := hc
  cases h
  refine ⟨ks.length + 1, _, ?_, Imp.refl _⟩
  show outD (textK _ _ _ _ _ [progD p, intsD ks, intsD w] []) = _
  rw [sh_offshootref09_all]
  by_cases hl : ks.length = w.length
  case neg =>
    have : ¬ ((ks.length : Int) = w.length) := by omega
    simp [allV, hl, this]
  have load3 : loadH (some 3) (pgH 25 p) (.hp 0 0) = some (progD p) := rfl
  have hs := loopF_scan (P := Try.prog) (T := T09g m) (kp := kp_offshootref09_all) (fn := Try.f49) (li := 0) (fun j => [intsD ks, intsD w, .hp 0 0, bD false, iD j]) (pgH 25 p) ks.length (fun j => decide (kindV m p.vars p.body (ks.getD j 0) = w.getD j 0))
    (fun j => (.ret, [intsD ks, intsD w, .hp 0 0, bD false, iD j], pgH 25 p)) (.exit 0, [intsD ks, intsD w, .hp 0 0, bD false, iD ks.length], pgH 25 p) (fun i => by intro e; cases e) (by intro e; cases e) 0 (ks.length + 1) (Nat.zero_le _) (by omega)
    (fun j _ hj hp' => by
      have hw : j < w.length := by omega
      have e1 := intD_add (j : Int) 1 (by omega) (by omega)
      have h1 : (j : Int) < ks.length := by omega
      have h2 := refOf_pure m p ks[j] hp hm (.inr (hk _ (List.getElem_mem hj))) (pgH 25 p)
      rw [getD_in _ _ _ hj, getD_in _ _ _ hw, decide_eq_true_eq] at hp'
      rw [st_offshootref09_all_0]
      simp [-loadH_hp, h1, load3, idx_intsN _ _ hj, idx_intsN _ _ hw, h2, hp', e1])
    (fun j _ hj hp' => by
      have hw : j < w.length := by omega
      have h1 : (j : Int) < ks.length := by omega
      have h2 := refOf_pure m p ks[j] hp hm (.inr (hk _ (List.getElem_mem hj))) (pgH 25 p)
      rw [getD_in _ _ _ hj, getD_in _ _ _ hw, decide_eq_false_iff_not] at hp'
      rw [st_offshootref09_all_0]
      simp [-loadH_hp, h1, load3, idx_intsN _ _ hj, idx_intsN _ _ hw, h2, hp'])
    (by rw [st_offshootref09_all_0]; simp)
  have h1 : ((ks.length : Int) = w.length) := by omega
  rcases hs with ⟨q1, q2⟩ | ⟨i, _, q1, q2, q3, q4⟩
  · have hall : (List.range ks.length).all (fun j => decide (kindV m p.vars p.body (ks.getD j 0) = w.getD j 0)) = true := by
      rw [List.all_eq_true]; intro i hi; exact q1 i (Nat.zero_le _) (by simpa using hi)
    simp only [pgH, cast0] at q2
    rw [allV, hall]
    simp [h1, hl, q2]
    rw [h1] at q2
    simp [hl] at q2
    simp [q2]
  · have hall : (List.range ks.length).all (fun j => decide (kindV m p.vars p.body (ks.getD j 0) = w.getD j 0)) = false := by
      rw [Bool.eq_false_iff]; intro e; rw [List.all_eq_true] at e
      have := e i (by simpa using q1)
      rw [q2] at this; cases this
    simp only [pgH, cast0] at q4
    rw [allV, hall]
    simp [h1, hl] at q4 ⊢
    simp [q4]
end Go.Proofs.Ytbnmkdlmalobaaa
end

section
namespace Go.Proofs.Ytbnmkdlmalobaaa
open Go.RowKit
set_option linter.unusedVariables false
set_option linter.unusedSimpArgs false
set_option maxHeartbeats 1000000

theorem sizeV_pos (t : Int) (h : ¬ sizeV t = 0) : 0 < sizeV t := by unfold sizeV at h ⊢; split at h <;> simp_all; omega
theorem blk_loop (m : Nat) (p : Pg) (o : HO) (ks : List Int) (hp : p.body.length ≤ 3000000) (hm : 0 < m) (hks : ks.length ≤ 200) (hk : ∀ k ∈ ks, p.body.length < k.toNat + m) (N : Nat) (hN : ks.length < N) :
    ((∀ i, 0 ≤ i → i < ks.length → decide (kindV m p.vars p.body (ks.getD i 0) = 2) = true) ∧ loopF Try.prog (T09f m) kp_offshootref09_Of N Try.f26 0 [.hp 0 0, iD 0, intsD ks, iD ((0 : Nat) : Int)] [.cells 25 3 [iD p.params, intsD p.vars, nodesD p.body], o] = some (.exit 1, [.hp 0 0, iD 0, intsD ks, iD ks.length], [.cells 25 3 [iD p.params, intsD p.vars, nodesD p.body], o])) ∨
    ∃ i, 0 ≤ i ∧ i < ks.length ∧ decide (kindV m p.vars p.body (ks.getD i 0) = 2) = false ∧ (∀ j, 0 ≤ j → j < i → decide (kindV m p.vars p.body (ks.getD j 0) = 2) = true) ∧ loopF Try.prog (T09f m) kp_offshootref09_Of N Try.f26 0 [.hp 0 0, iD 0, intsD ks, iD ((0 : Nat) : Int)] [.cells 25 3 [iD p.params, intsD p.vars, nodesD p.body], o] = some (.ret, [.hp 0 0, iD (-1), intsD ks, iD i], [.cells 25 3 [iD p.params, intsD p.vars, nodesD p.body], o]) := by
  refine loopF_scan (fun j => [.hp 0 0, iD 0, intsD ks, iD j]) _ ks.length (fun i => decide (kindV m p.vars p.body (ks.getD i 0) = 2)) (fun i => (.ret, [.hp 0 0, iD (-1), intsD ks, iD i], _)) _ (fun i => by intro e; cases e) (by intro e; cases e) 0 N (Nat.zero_le _) (by omega) ?_ ?_ ?_
  · intro j _ hj hq
    have e1 := intD_add (j : Int) 1 (by omega) (by omega)
    have h1 : (j : Int) < ks.length := by omega
    have h2 := refOf_pure m p ks[j] hp hm (.inr (hk _ (List.getElem_mem hj))) [.cells 25 3 [iD p.params, intsD p.vars, nodesD p.body], o]
    rw [getD_in _ _ _ hj, decide_eq_true_eq] at hq
    have ep : D.agg [iD p.params, intsD p.vars, nodesD p.body] = progD p := rfl
    rw [st_offshootref09_Of_0]
    simp [h1, idx_intsN _ _ hj, h2, hq, e1, ep]
  · intro j _ hj hq
    have h1 : (j : Int) < ks.length := by omega
    have h2 := refOf_pure m p ks[j] hp hm (.inr (hk _ (List.getElem_mem hj))) [.cells 25 3 [iD p.params, intsD p.vars, nodesD p.body], o]
    rw [getD_in _ _ _ hj, decide_eq_false_iff_not] at hq
    have ep : D.agg [iD p.params, intsD p.vars, nodesD p.body] = progD p := rfl
    rw [st_offshootref09_Of_0]
    simp [h1, idx_intsN _ _ hj, h2, hq, ep]
  · rw [st_offshootref09_Of_0]
    simp

end Go.Proofs.Ytbnmkdlmalobaaa
end
