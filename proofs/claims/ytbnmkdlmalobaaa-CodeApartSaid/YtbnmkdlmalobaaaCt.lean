/-
  Parts joined into one text: T10n, T10o, Sh10n, BufV. No condition.
-/
import Derived.Test.YtbnmkdlmalobaaaCp
import Derived.Test.YtbnmkdlmalobaaaCr
import Derived.Test.YtbnmkdlmalobaaaCs

section
namespace Go.Proofs.Ytbnmkdlmalobaaa
open Go.RowKit
set_option linter.unusedVariables false
set_option linter.unusedSimpArgs false
set_option maxRecDepth 100000

/-- Numbers that are no larger than Go's. -/
def i64In (n : Int) : Prop := -9223372036854775808 ≤ n ∧ n ≤ 9223372036854775807
def pgIn (p : Pg) : Prop := ∀ x ∈ p.body, i64In x.2
def pgInB (p : Pg) : Bool := p.body.all fun x => decide (-9223372036854775808 ≤ x.2 ∧ x.2 ≤ 9223372036854775807)
theorem pgIn_of {p : Pg} (h : pgInB p = true) : pgIn p := fun x hx => by
  have := List.all_eq_true.1 h x hx
  have h2 : -9223372036854775808 ≤ x.2 ∧ x.2 ≤ 9223372036854775807 := of_decide_eq_true this
  exact h2
theorem pgInB_of {p : Pg} (h : pgIn p) : pgInB p = true := List.all_eq_true.2 fun x hx => by
  have := h x hx
  unfold i64In at this
  exact decide_eq_true this
theorem nd_ok (x : Nd) (h : 0 ≤ ar x) (hi : i64In x.2) : ndOk x := by
  obtain ⟨t, n⟩ := x
  unfold ar at h
  unfold i64In at hi
  simp only at h hi
  have ht : 1 ≤ t ∧ t ≤ 26 := by
    by_cases h1 : t < 1
    · exfalso
      rw [if_neg (by omega)] at h
      have hl : lim t n = (-1, -1) := by
        unfold lim
        repeat (first | rfl | rw [if_neg (by omega)])
      rw [hl] at h
      simp only at h
      split at h <;> omega
    · by_cases h2 : 26 < t
      · exfalso
        rw [if_neg (by omega)] at h
        have hl : lim t n = (-1, -1) := by
          unfold lim
          repeat (first | rfl | rw [if_neg (by omega)])
        rw [hl] at h
        simp only at h
        split at h <;> omega
      · exact ⟨by omega, by omega⟩
  refine ⟨by omega, by omega, ?_, fun _ => hi, ?_⟩
  · intro hk
    have h1 : t ≠ 1 := by intro e; subst e; simp [kindN] at hk
    have := ar_num (t, n) (by unfold ar; exact h) h1
    exact this
  · intro hk1 hk2
    have h1 : t ≠ 1 := by intro e; subst e; simp [kindN] at hk2
    have hk : ¬ (t = 2 ∨ t = 3 ∨ t = 4 ∨ t = 20 ∨ t = 21 ∨ t = 22) := by
      intro e
      apply hk1
      unfold kindN
      rw [if_neg h1, if_pos e]
    rw [if_neg h1] at h
    have hl : (lim t n).1 ≤ 0 := by
      unfold lim
      rw [if_neg (by omega), if_neg (by omega), if_neg (by omega), if_neg (by omega)]
      repeat' split
      all_goals simp
      all_goals omega
    simp only
    split at h
    · omega
    · rename_i hh; omega
theorem body_ok {l : List Nd} (h : checkV l = 0) : l.length ≤ 200 ∧ ∀ x ∈ l, 0 ≤ ar x := by
  unfold checkV at h
  split at h
  · cases h
  split at h
  · cases h
  rename_i h2
  split at h
  · cases h
  rename_i h3
  refine ⟨by omega, fun x hx => ?_⟩
  have h4 : hasBad l = false := by simpa using h3
  unfold hasBad at h4
  rw [List.any_eq_false] at h4
  have := h4 x hx
  simpa using this
theorem vars_ok {p : Pg} (h : varsV p = 0) : 0 ≤ p.params ∧ p.params ≤ p.vars.length ∧ p.vars.length ≤ 12 ∧ ∀ v ∈ p.vars, 0 ≤ v ∧ v ≤ 9 := by
  unfold varsV at h
  split at h
  · rename_i h1
    unfold varsOk at h1
    simp only [Bool.and_eq_true, decide_eq_true_eq] at h1
    refine ⟨h1.1.1, h1.1.2.1, h1.1.2.2, fun v hv => ?_⟩
    obtain ⟨i, hi, rfl⟩ := List.mem_iff_getElem.1 hv
    have := List.all_eq_true.1 h1.2 i (by simpa using hi)
    rw [getD_in _ _ _ hi] at this
    simp only [vGood, decide_eq_true_eq] at this
    omega
  · cases h
theorem pg_ok {p : Pg} (h : chk9 p = 0) (hi : pgIn p) : PgOk p := by
  obtain ⟨h1, h2, _, _⟩ := chk9_ok h
  obtain ⟨a1, a2⟩ := body_ok h1
  obtain ⟨b1, b2, b3, b4⟩ := vars_ok h2
  exact ⟨⟨b1, by omega⟩, ⟨b3, fun v hv => by have := b4 v hv; omega⟩, ⟨a1, fun x hx => nd_ok x (a2 x hx) (hi x hx)⟩⟩
theorem nodeB_len (x : Nd) : (nodeB x).length ≤ 11 := by
  unfold nodeB
  rw [List.length_cons]
  have h1 := (putV_len x.2).2
  have h2 := (putV_len (zigV x.2)).2
  split
  · omega
  · split
    · omega
    · simp
theorem nodesB_len : ∀ l : List Nd, (nodesB l).length ≤ 11 * l.length
  | [] => by simp [nodesB]
  | x :: r => by
    have := nodesB_len r
    have h := nodeB_len x
    have e : nodesB (x :: r) = nodeB x ++ nodesB r := by simp [nodesB]
    rw [e, List.length_append, List.length_cons]
    omega
theorem nodesB_take (l : List Nd) (j : Nat) (h : j < l.length) : nodesB (l.take (j + 1)) = nodesB (l.take j) ++ nodeB l[j] := by
  rw [List.take_succ_eq_append_getElem h]
  simp only [nodesB, List.map_append, List.flatten_append, List.map_cons, List.map_nil, List.flatten_cons, List.flatten_nil, List.append_nil]
theorem enc_len {p : Pg} (h : PgOk p) : (encV p).length ≤ 3000 := by
  have h1 := (putV_len p.params).2
  have h2 := (putV_len p.vars.length).2
  have h3 := (putV_len p.body.length).2
  have h4 := nodesB_len p.body
  have h5 := h.vars.1
  have h6 := h.body.1
  simp only [encV, List.length_append, List.length_map]
  omega

/-- A program's bytes, and what is wrong with it. -/
def putR (p : Pg) : By := if chk9 p = 0 then encV p else []
def F_CodePut : List D → Option D := F1 progT fun p => if pgInB p = true ∧ p.body.length ≤ 3000000 then some (.tup [sD (putR p), iD (chk9 p)]) else none
theorem codeOf_pure (t : Int) (H : Heap) : liftF F_codeOf [iD t] H = some (
  if kindN t = 2 then .tup [.agg [.clo (.func 77) [] [], .clo (.func 78) [] []], bD true]
  else if kindN t = 1 then .tup [.agg [.clo (.func 54) [] [], .clo (.func 79) [] []], bD true]
  else .tup [.agg [.v .nilFunc, .v .nilFunc], bD false], H) := by
  rw [liftF_pure _ _ _ rfl]
  have : F_codeOf [iD t] = _ := f1_enc (A := intT) _ t
  rw [this]; rfl
def boxP (p : Pg) : HO := .cells 25 3 [iD p.params, intsD p.vars, nodesD p.body]
theorem boxP_load (p : Pg) (H : Heap) (i : Nat) (h : H[i]? = some (boxP p)) : loadH none H (.hp i 0) = some (iD p.params) ∧ loadH none H (.hp i 1) = some (intsD p.vars) ∧ loadH none H (.hp i 2) = some (nodesD p.body) :=
  ⟨load_cellN H i 0 _ _ _ _ h rfl, load_cellN H i 1 _ _ _ _ h rfl, load_cellN H i 2 _ _ _ _ h rfl⟩
/-- What stays while bytes are written: the program's box. -/
structure PutInv (p : Pg) (H : Heap) (l : By) : Prop where
  box : H[0]? = some (boxP p)
  wr : WrAt H 1 2 l
theorem PutInv.next {p : Pg} {H H' : Heap} {l l' : By} (h : PutInv p H l) (k : KpW 1 H H') (w : WrAt H' 1 2 l') : PutInv p H' l' := by
  have hl : 0 < H.length := (List.getElem?_eq_some_iff.1 h.box).1
  exact ⟨((k.2 0 hl (by omega) (h.wr.notRow 0 (.inl (by omega)))).1).trans h.box, w⟩
theorem codePut_vars (p : Pg) (H : Heap) (l : By) (N : Nat) (hN : p.vars.length < N) (hv : p.vars.length ≤ 12) (hl : l.length ≤ 1000) (h : PutInv p H l) (d5 d6 d7 : D) :
    ∃ r, loopF Try.prog (T10m Try.prog) kp_code_Put N Try.f33 0 [.hp 0 0, .hp 1 0, intsD p.vars, iD p.vars.length, iD 0, d5, d6, d7] H = some r ∧ ∃ H', r = (.exit 0, [.hp 0 0, .hp 1 0, intsD p.vars, iD p.vars.length, iD p.vars.length, d5, d6, d7], H') ∧ PutInv p H' (l ++ p.vars.map b8) := by
  refine loopF_inv (fun j => [.hp 0 0, .hp 1 0, intsD p.vars, iD p.vars.length, iD j, d5, d6, d7]) (fun j H => PutInv p H (l ++ (p.vars.take j).map b8)) _ p.vars.length N ?_ ?_ hN (H := H) (by simpa using h)
  · intro j H hj hI
    have h1 : (j : Int) < p.vars.length := by omega
    have e1 := intD_add (j : Int) 1 (by omega) (by omega)
    obtain ⟨H', w1, w2, w3⟩ := wByte_ok H 1 2 _ (b8 p.vars[j]) hI.wr (by simp; omega)
    refine ⟨H', ?_, ?_⟩
    · rw [st_code_Put_0]
      have hu := u8_of .i64 p.vars[j]
      simp [h1, idx_intsN _ _ hj, hu, w1, e1]
    · have e : l ++ (p.vars.take (j + 1)).map b8 = l ++ (p.vars.take j).map b8 ++ [b8 p.vars[j]] := by rw [List.take_succ_eq_append_getElem hj]; simp only [List.map_append, List.map_cons, List.map_nil, List.append_assoc]
      rw [e]
      exact hI.next w3 w2
  · intro H hI
    refine ⟨_, by rw [st_code_Put_0]; simp, (by intro e; cases e), H, rfl, ?_⟩
    rw [List.take_length] at hI
    exact hI
theorem codePut_body (p : Pg) (H : Heap) (l : By) (N : Nat) (hN : p.body.length < N) (hb : p.body.length ≤ 200) (hl : l.length ≤ 1000) (hp : ∀ x ∈ p.body, ndOk x) (h : PutInv p H l) (d2 d3 d4 : D) :
    ∃ r, loopF Try.prog (T10m Try.prog) kp_code_Put N Try.f33 1 [.hp 0 0, .hp 1 0, d2, d3, d4, nodesD p.body, iD p.body.length, iD 0] H = some r ∧ ∃ H', r = (.exit 2, [.hp 0 0, .hp 1 0, d2, d3, d4, nodesD p.body, iD p.body.length, iD p.body.length], H') ∧ PutInv p H' (l ++ nodesB p.body) := by
  refine loopF_inv (fun j => [.hp 0 0, .hp 1 0, d2, d3, d4, nodesD p.body, iD p.body.length, iD j]) (fun j H => PutInv p H (l ++ nodesB (p.body.take j))) _ p.body.length N ?_ ?_ hN (H := H) (by simpa [nodesB] using h)
  · intro j H hj hI
    have h1 : (j : Int) < p.body.length := by omega
    have e1 := intD_add (j : Int) 1 (by omega) (by omega)
    have hlen := nodesB_len (p.body.take j)
    rw [List.length_take] at hlen
    obtain ⟨n1, n2, n3, n4, n5⟩ := hp _ (List.getElem_mem hj)
    generalize hx : p.body[j] = x at *
    -- the node's own object
    have hwl := hI.wr.lt
    generalize hH2 : H ++ [HO.cells 39 2 [iD x.1, iD x.2]] = H2
    have hI2 : PutInv p H2 (l ++ nodesB (p.body.take j)) := by rw [← hH2]; exact hI.next (KpW.app 1 H _ hwl) (hI.wr.app _)
    have hnode : H2[H.length]? = some (.cells 39 2 [iD x.1, iD x.2]) := by rw [← hH2]; simp
    have hl2 : H.length < H2.length := by rw [← hH2]; simp
    have hnr : NotRow H2 1 H.length := by
      intro t sz q e
      have := hI.wr.notRow H.length (.inr (Nat.le_refl _)) t sz q
      rw [← hH2, List.getElem?_append_left hwl] at e
      exact this e
    have m0 := load_cellN H2 H.length 0 _ _ _ _ hnode rfl
    obtain ⟨H3, w1, w2, w3⟩ := wByte_ok H2 1 2 _ (b8 x.1) hI2.wr (by simp; omega)
    have hI3 := hI2.next w3 w2
    obtain ⟨k1, k2⟩ := w3.2 H.length hl2 (by omega) hnr
    have hnode3 : H3[H.length]? = some (.cells 39 2 [iD x.1, iD x.2]) := k1.trans hnode
    have l0 := load_cellN H3 H.length 0 _ _ _ _ hnode3 rfl
    have hl3 : H.length < H3.length := (List.getElem?_eq_some_iff.1 hnode3).1
    have hc := codeOf_pure x.1
    have e : l ++ nodesB (p.body.take (j + 1)) = l ++ nodesB (p.body.take j) ++ [b8 x.1] ++ (if kindN x.1 = 1 then putV x.2 else if kindN x.1 = 2 then putV (zigV x.2) else []) := by rw [nodesB_take _ _ hj, hx]; simp [nodeB]
    rw [e]
    have ha1 : allocH 39 [iD 0, iD 0] H = some (.hp H.length 0, H ++ [.cells 39 2 [iD 0, iD 0]]) := rfl
    have hs1 : setH 2 (.hp H.length 0) (.agg (nodeD x)) (H ++ [.cells 39 2 [iD 0, iD 0]]) = some (.v undef, H2) := by
      rw [← hH2]; simp [setH, storeH, nodeD]
    have hu := u8_of .i64 x.1
    -- the form's object
    have form : ∀ (a b : D) (bb : Bool), cellOk a = true → cellOk b = true → ∃ H4, (allocH 69 [.v .nilFunc, .v .nilFunc] H3 = some (.hp H3.length 0, H3 ++ [.cells 69 2 [.v .nilFunc, .v .nilFunc]])) ∧
        setH 2 (.hp H3.length 0) (.agg [a, b]) (H3 ++ [.cells 69 2 [.v .nilFunc, .v .nilFunc]]) = some (.v undef, H4) ∧ H4 = H3 ++ [.cells 69 2 [a, b]] := by
      intro a b bb ha hb
      exact ⟨_, rfl, by simp [setH, storeH, ha, hb], rfl⟩
    by_cases hk2 : kindN x.1 = 2
    · obtain ⟨H4, f1, f2, f3⟩ := form (.clo (.func 77) [] []) (.clo (.func 78) [] []) true rfl rfl
      have hI4 : PutInv p H4 (l ++ nodesB (p.body.take j) ++ [b8 x.1]) := by rw [f3]; exact hI3.next (KpW.app 1 H3 _ hI3.wr.lt) (hI3.wr.app _)
      have hf : H4[H3.length]? = some (.cells 69 2 [.clo (.func 77) [] [], .clo (.func 78) [] []]) := by rw [f3]; simp
      have hn4 : H4[H.length]? = some (.cells 39 2 [iD x.1, iD x.2]) := by rw [f3, List.getElem?_append_left hl3]; exact hnode3
      have l2 := load_cellN H4 H3.length 0 _ _ _ _ hf rfl
      have l3 := load_cellN H4 H.length 1 _ _ _ _ hn4 rfl
      obtain ⟨H5, v1, v2, v3⟩ := wInt_ok H4 1 2 _ x.2 (n4 hk2) hI4.wr (by simp; omega)
      have hcall : callClo (T10m Try.prog) (.clo (.func 77) [] []) [.hp 1 0, iD x.2] H4 = some (.hp 1 0, H5) := v1
      refine ⟨H5, ?_, ?_⟩
      · rw [st_code_Put_1]
        rw [if_pos hk2] at hc
        simp [-loadH_hp, h1, idx_nodesN _ _ hj, hx, ha1, hs1, m0, hu, w1, l0, hc, f1, f2, l2, l3, hcall, e1]
      · rw [hk2, if_neg (by omega), if_pos rfl]
        exact hI4.next v3 v2
    · by_cases hk1 : kindN x.1 = 1
      · obtain ⟨H4, f1, f2, f3⟩ := form (.clo (.func 54) [] []) (.clo (.func 79) [] []) true rfl rfl
        have hI4 : PutInv p H4 (l ++ nodesB (p.body.take j) ++ [b8 x.1]) := by rw [f3]; exact hI3.next (KpW.app 1 H3 _ hI3.wr.lt) (hI3.wr.app _)
        have hf : H4[H3.length]? = some (.cells 69 2 [.clo (.func 54) [] [], .clo (.func 79) [] []]) := by rw [f3]; simp
        have hn4 : H4[H.length]? = some (.cells 39 2 [iD x.1, iD x.2]) := by rw [f3, List.getElem?_append_left hl3]; exact hnode3
        have l2 := load_cellN H4 H3.length 0 _ _ _ _ hf rfl
        have l3 := load_cellN H4 H.length 1 _ _ _ _ hn4 rfl
        have hx2 := n3 hk1
        obtain ⟨H5, v1, v2, v3⟩ := num_ok H4 1 2 _ x.2 ⟨hx2.1, by omega⟩ hI4.wr (by simp; omega)
        have hcall : callClo (T10m Try.prog) (.clo (.func 54) [] []) [.hp 1 0, iD x.2] H4 = some (.hp 1 0, H5) := v1
        refine ⟨H5, ?_, ?_⟩
        · rw [st_code_Put_1]
          rw [if_neg hk2, if_pos hk1] at hc
          simp [-loadH_hp, h1, idx_nodesN _ _ hj, hx, ha1, hs1, m0, hu, w1, l0, hc, f1, f2, l2, l3, hcall, e1]
        · rw [if_pos hk1]
          exact hI4.next v3 v2
      · obtain ⟨H4, f1, f2, f3⟩ := form (.v .nilFunc) (.v .nilFunc) false rfl rfl
        have hI4 : PutInv p H4 (l ++ nodesB (p.body.take j) ++ [b8 x.1]) := by rw [f3]; exact hI3.next (KpW.app 1 H3 _ hI3.wr.lt) (hI3.wr.app _)
        refine ⟨H4, ?_, ?_⟩
        · rw [st_code_Put_1]
          rw [if_neg hk2, if_neg hk1] at hc
          simp [-loadH_hp, h1, idx_nodesN _ _ hj, hx, ha1, hs1, m0, hu, w1, l0, hc, f1, f2, e1]
        · rw [if_neg hk1, if_neg hk2, List.append_nil]
          exact hI4
  · intro H hI
    refine ⟨_, by rw [st_code_Put_1]; simp, (by intro e; cases e), H, rfl, ?_⟩
    rw [List.take_length] at hI
    exact hI
theorem C_CodePut : CallOk Try.prog 33 F_CodePut := call1 (kp := kp_code_Put) T10m_ok mixed Try.func33 (by kernel_rfl) (by decide) fun p d h => by
  split at h
  case isFalse => cases h
  rename_i hp
  obtain ⟨hin, hp⟩ := hp
  cases h
  refine ⟨300, _, ?_, Imp.refl _⟩
  show outD (textK _ _ _ _ _ [progD p] []) = _
  rw [sh_code_Put]
  have ep : D.agg [iD p.params, intsD p.vars, nodesD p.body] = progD p := rfl
  have hbox : boxH 25 (progD p) [] = some (.hp 0 0, [boxP p]) := rfl
  have hld : loadH (some 3) [boxP p] (.hp 0 0) = some (progD p) := rfl
  have hck := check9_pure p hp [boxP p]
  unfold putR
  by_cases hz : chk9 p = 0
  · obtain ⟨⟨a1, a2⟩, ⟨a3, a4⟩, ⟨a5, a6⟩⟩ := pg_ok hz (pgIn_of hin)
    have hnew : G_wNew Try.prog [] [boxP p] = some (.hp 1 0, [boxP p] ++ [.cells 107 1 [.v (.slice none 0 0)]]) := new_ok' [boxP p]
    have hI0 : PutInv p ([boxP p] ++ [.cells 107 1 [.v (.slice none 0 0)]]) [] := ⟨rfl, wr_new [boxP p]⟩
    generalize hH7 : [boxP p] ++ [HO.cells 107 1 [.v (.slice none 0 0)]] = H7 at *
    obtain ⟨l0, l1, l2⟩ := boxP_load p H7 0 hI0.box
    obtain ⟨H11, w1, w2, w3⟩ := num_ok H7 1 2 [] p.params ⟨a1, by omega⟩ hI0.wr (by simp)
    have hI1 := hI0.next w3 w2
    obtain ⟨l3, l4, l5⟩ := boxP_load p H11 0 hI1.box
    have q1 := (putV_len p.params).2
    have q2 := (putV_len p.vars.length).2
    have q3 := (putV_len p.body.length).2
    obtain ⟨H16, v1, v2, v3⟩ := num_ok H11 1 2 _ (p.vars.length : Int) ⟨by omega, by omega⟩ hI1.wr (by simp; omega)
    have hI2 := hI1.next v3 v2
    obtain ⟨l6, l7, l8⟩ := boxP_load p H16 0 hI2.box
    obtain ⟨r1, c1, H22, rfl, hI3⟩ := codePut_vars p H16 _ 300 (by omega) a3 (by simp; omega) hI2 .undef .undef .undef
    obtain ⟨l9, l10, l11⟩ := boxP_load p H22 0 hI3.box
    obtain ⟨H27, u1, u2, u3⟩ := num_ok H22 1 2 _ (p.body.length : Int) ⟨by omega, by omega⟩ hI3.wr (by simp; omega)
    have hI4 := hI3.next u3 u2
    obtain ⟨l12, l13, l14⟩ := boxP_load p H27 0 hI4.box
    obtain ⟨r2, c2, H33, rfl, hI5⟩ := codePut_body p H27 _ 300 (by omega) a5 (by simp; omega) a6 hI4 (intsD p.vars) (iD p.vars.length) (iD p.vars.length)
    have hby := wBytes_ok H33 1 2 _ hI5.wr
    have s1 : ∀ (o : Nat) (k : Option (D × Heap)), sameO (.hp 0 o) (some [boxP p]) (some H7) k = k := fun o k => sameO_hp 0 o _ _ 25 3 [iD p.params, intsD p.vars, nodesD p.body] k rfl (hI0.box.trans rfl) (by simp)
    have s2 : ∀ (o : Nat) (k : Option (D × Heap)), sameO (.hp 0 o) (some H7) (some H11) k = k := fun o k => sameO_hp 0 o _ _ 25 3 [iD p.params, intsD p.vars, nodesD p.body] k hI0.box (hI1.box.trans hI0.box.symm) (by simp)
    have henc : [] ++ putV p.params ++ putV ↑p.vars.length ++ p.vars.map b8 ++ putV ↑p.body.length ++ nodesB p.body = encV p := by simp [encV]
    rw [henc] at hby
    rw [if_pos hz]
    simp [-loadH_hp, hbox, hld, hck, hz, hnew, l0, w1, l4, v1, s1, s2, l7, c1, l11, u1, l14, c2, hby]
  · rw [if_neg hz]
    simp [-loadH_hp, hbox, hld, hck, hz, sD_nil]
end Go.Proofs.Ytbnmkdlmalobaaa
end

section
namespace Go.Proofs.Ytbnmkdlmalobaaa
open Go.RowKit
set_option linter.unusedVariables false
set_option linter.unusedSimpArgs false
set_option maxRecDepth 100000

theorem refPut_vars (p : Pg) (H : Heap) (l : By) (N : Nat) (hN : p.vars.length < N) (hv : p.vars.length ≤ 12) (hl : l.length ≤ 1000) (h : H[0]? = some (boxP p)) (d3 : D) :
    ∃ r, loopF Try.prog (T10m Try.prog) kp_offshootref10_Put N Try.f34 0 [.hp 0 0, sD l, iD 0, d3] H = some r ∧ r = (.exit 0, [.hp 0 0, sD (l ++ p.vars.map b8), iD p.vars.length, d3], H) := by
  have e0 : sD l = sD (l ++ (p.vars.take 0).map b8) := by simp
  rw [e0]
  refine loopF_inv (fun j => [.hp 0 0, sD (l ++ (p.vars.take j).map b8), iD j, d3]) (fun j H' => H' = H) _ p.vars.length N ?_ ?_ hN (H := H) rfl
  · rintro j _ hj rfl
    obtain ⟨l0, l1, l2⟩ := boxP_load p _ 0 h
    have h1 : (j : Int) < p.vars.length := by omega
    have e1 := intD_add (j : Int) 1 (by omega) (by omega)
    have e : l ++ (p.vars.take (j + 1)).map b8 = l ++ (p.vars.take j).map b8 ++ [b8 p.vars[j]] := by rw [List.take_succ_eq_append_getElem hj]; simp only [List.map_append, List.map_cons, List.map_nil, List.append_assoc]
    have ha := str_add (l ++ (p.vars.take j).map b8) [b8 p.vars[j]] (by simp; omega)
    rw [← e] at ha
    refine ⟨_, ?_, rfl⟩
    rw [st_offshootref10_Put_0]
    simp only [fieldAt_hp, thn_some, Nat.zero_add, l1, lenH_ints, binK_lss, condK_bool, decide_eq_true_eq, h1, if_true, idx_intsN _ _ hj, load_one, byteOf_pure, thnH_some, ha, binK_int, e1, Int.natCast_add, Int.cast_ofNat_Int]
  · rintro _ rfl
    obtain ⟨l0, l1, l2⟩ := boxP_load p _ 0 h
    rw [List.take_length]
    refine ⟨_, by rw [st_offshootref10_Put_0]; simp [-loadH_hp, l1], (by intro e; cases e), rfl⟩
theorem refPut_body (p : Pg) (H : Heap) (l : By) (N : Nat) (hN : p.body.length < N) (hb : p.body.length ≤ 200) (hl : l.length ≤ 1000) (hp : ∀ x ∈ p.body, ndOk x) (h : H[0]? = some (boxP p)) (d2 : D) :
    ∃ r, loopF Try.prog (T10m Try.prog) kp_offshootref10_Put N Try.f34 1 [.hp 0 0, sD l, d2, iD 0] H = some r ∧ ∃ H', r = (.exit 2, [.hp 0 0, sD (l ++ nodesB p.body), d2, iD p.body.length], H') := by
  have e0 : sD l = sD (l ++ nodesB (p.body.take 0)) := by simp [nodesB]
  rw [e0]
  refine loopF_inv (fun j => [.hp 0 0, sD (l ++ nodesB (p.body.take j)), d2, iD j]) (fun j H' => H'[0]? = some (boxP p)) _ p.body.length N ?_ ?_ hN (H := H) h
  · intro j H hj hI
    obtain ⟨l0, l1, l2⟩ := boxP_load p _ 0 hI
    have h1 : (j : Int) < p.body.length := by omega
    have e1 := intD_add (j : Int) 1 (by omega) (by omega)
    have hlen := nodesB_len (p.body.take j)
    rw [List.length_take] at hlen
    obtain ⟨n1, n2, n3, n4, n5⟩ := hp _ (List.getElem_mem hj)
    generalize hx : p.body[j] = x at *
    have h0l : 0 < H.length := (List.getElem?_eq_some_iff.1 hI).1
    have ha1 : allocH 39 [iD 0, iD 0] H = some (.hp H.length 0, H ++ [.cells 39 2 [iD 0, iD 0]]) := rfl
    have hs1 : setH 2 (.hp H.length 0) (.agg (nodeD x)) (H ++ [.cells 39 2 [iD 0, iD 0]]) = some (.v undef, H ++ [.cells 39 2 [iD x.1, iD x.2]]) := by
      simp [setH, storeH, nodeD]
    have hnode : (H ++ [HO.cells 39 2 [iD x.1, iD x.2]])[H.length]? = some (.cells 39 2 [iD x.1, iD x.2]) := by simp
    have m0 := load_cellN _ H.length 0 _ _ _ _ hnode rfl
    have m1 := load_cellN _ H.length 1 _ _ _ _ hnode rfl
    have e : l ++ nodesB (p.body.take (j + 1)) = l ++ nodesB (p.body.take j) ++ [b8 x.1] ++ (if kindN x.1 = 1 then putV x.2 else if kindN x.1 = 2 then putV (zigV x.2) else []) := by rw [nodesB_take _ _ hj, hx]; simp [nodeB]
    rw [e]
    have hA := str_add (l ++ nodesB (p.body.take j)) [b8 x.1] (by simp; omega)
    refine ⟨H ++ [.cells 39 2 [iD x.1, iD x.2]], ?_, by rw [List.getElem?_append_left h0l]; exact hI⟩
    rw [st_offshootref10_Put_1]
    by_cases hk2 : kindN x.1 = 2
    · have hB := str_add (l ++ nodesB (p.body.take j) ++ [b8 x.1]) (putV (zigV x.2)) (by have := (putV_len (zigV x.2)).2; simp; omega)
      rw [hk2, if_neg (by omega), if_pos rfl]
      simp only [fieldAt_hp, thn_some, Nat.zero_add, l2, lenH_nodes, binK_lss, condK_bool, decide_eq_true_eq, h1, if_true, idx_nodesN _ _ hj, hx, load_node, ha1, hs1, thnH_some, m0, m1, byteOf_pure, hA, numbered_pure, hk2, binK_eql, putZ_pure x.2 (n4 hk2), hB, binK_int, e1, Int.natCast_add, Int.cast_ofNat_Int]
      simp
    · by_cases hk1 : kindN x.1 = 1
      · have hx2 := n3 hk1
        have hB := str_add (l ++ nodesB (p.body.take j) ++ [b8 x.1]) (putV x.2) (by have := (putV_len x.2).2; simp; omega)
        have hu : intOf64 .u64 (iD x.2) = some (u64D x.2) := u64_of _ _ hx2.1 (by omega)
        rw [hk1, if_pos rfl]
        simp only [fieldAt_hp, thn_some, Nat.zero_add, l2, lenH_nodes, binK_lss, condK_bool, decide_eq_true_eq, h1, if_true, idx_nodesN _ _ hj, hx, load_node, ha1, hs1, thnH_some, m0, m1, byteOf_pure, hA, numbered_pure, hk1, binK_eql, hu, putN_pure x.2 ⟨hx2.1, by omega⟩, hB, binK_int, e1, Int.natCast_add, Int.cast_ofNat_Int]
        simp
      · rw [if_neg hk1, if_neg hk2, List.append_nil]
        simp [-loadH_hp, l2, h1, idx_nodesN _ _ hj, hx, ha1, hs1, m0, byteOf_pure, hA, numbered_pure, hk1, hk2, e1]
  · intro H hI
    obtain ⟨l0, l1, l2⟩ := boxP_load p _ 0 hI
    rw [List.take_length]
    refine ⟨_, by rw [st_offshootref10_Put_1]; simp [-loadH_hp, l2], (by intro e; cases e), H, rfl⟩
theorem C_RefCodePut : CallOk Try.prog 34 F_CodePut := call1 (kp := kp_offshootref10_Put) T10m_ok mixed Try.func34 (by kernel_rfl) (by decide) fun p d h => by
  split at h
  case isFalse => cases h
  rename_i hp
  obtain ⟨hin, hp⟩ := hp
  cases h
  refine ⟨300, _, ?_, Imp.refl _⟩
  show outD (textK _ _ _ _ _ [progD p] []) = _
  rw [sh_offshootref10_Put]
  have hbox : boxH 25 (progD p) [] = some (.hp 0 0, [boxP p]) := rfl
  have hld : loadH (some 3) [boxP p] (.hp 0 0) = some (progD p) := rfl
  have hck := check9_pure p hp [boxP p]
  unfold putR
  by_cases hz : chk9 p = 0
  · obtain ⟨⟨a1, a2⟩, ⟨a3, a4⟩, ⟨a5, a6⟩⟩ := pg_ok hz (pgIn_of hin)
    obtain ⟨l0, l1, l2⟩ := boxP_load p [boxP p] 0 rfl
    have q1 := (putV_len p.params).2
    have q2 := (putV_len p.vars.length).2
    have q3 := (putV_len p.body.length).2
    have u1 : intOf64 .u64 (iD p.params) = some (u64D p.params) := u64_of _ _ a1 (by omega)
    have u2 : intOf64 .u64 (iD p.vars.length) = some (u64D p.vars.length) := u64_of _ _ (by omega) (by omega)
    have u3 : intOf64 .u64 (iD p.body.length) = some (u64D p.body.length) := u64_of _ _ (by omega) (by omega)
    have p1 := putN_pure p.params ⟨a1, by omega⟩
    have p2 := putN_pure (p.vars.length : Int) ⟨by omega, by omega⟩
    have p3 := putN_pure (p.body.length : Int) ⟨by omega, by omega⟩
    have s1 := str_add (putV p.params) (putV p.vars.length) (by omega)
    obtain ⟨r1, c1, rfl⟩ := refPut_vars p [boxP p] (putV p.params ++ putV p.vars.length) 300 (by omega) a3 (by simp; omega) rfl .undef
    have s2 := str_add (putV p.params ++ putV p.vars.length ++ p.vars.map b8) (putV p.body.length) (by simp; omega)
    obtain ⟨r2, c2, H', rfl⟩ := refPut_body p [boxP p] (putV p.params ++ putV p.vars.length ++ p.vars.map b8 ++ putV p.body.length) 300 (by omega) a5 (by simp; omega) a6 rfl (iD p.vars.length)
    have henc : putV p.params ++ putV ↑p.vars.length ++ p.vars.map b8 ++ putV ↑p.body.length ++ nodesB p.body = encV p := by simp [encV]
    rw [henc] at c2
    rw [if_pos hz]
    simp only [hbox, thnH_some, hld, thn_some, hck, hz, binK_neq, condK_bool, bne_self_eq_false, Bool.false_eq_true, if_false, fieldAt_hp, Nat.zero_add, l0, u1, p1, l1, lenH_ints, u2, p2, s1, c1, leaveK_exit, condN_same, List.getD_cons_zero, List.getD_cons_succ, l2, lenH_nodes, u3, p3, s2, c2]
    simp
  · rw [if_neg hz]
    simp [-loadH_hp, hbox, hld, hck, hz, sD_nil]
theorem codePut_pure (p : Pg) (h : pgInB p = true) (hp : p.body.length ≤ 3000000) (H : Heap) : liftF F_CodePut [progD p] H = some (.tup [sD (putR p), iD (chk9 p)], H) := by
  rw [liftF_pure _ _ _ rfl]
  have : F_CodePut [progD p] = _ := f1_enc (A := progT) _ p
  rw [this, if_pos ⟨h, hp⟩]; rfl
def fs10n (P : Program) : List Entry := (33, true, liftF F_CodePut) :: (34, true, liftF F_CodePut) :: fs10m P
theorem fs10n_ok : ∀ p ∈ fs10n Try.prog, EntryOk Try.prog p := entries_cons (entry_lift C_CodePut) (entries_cons (entry_lift C_RefCodePut) fs10m_ok)
def T10n (P : Program) : Tab := ⟨fs10n P, noYl⟩
theorem T10n_ok : TabOk Try.prog (T10n Try.prog) := tabOk_of fs10n_ok
end Go.Proofs.Ytbnmkdlmalobaaa
end

section
namespace Go.Proofs.Ytbnmkdlmalobaaa
open Go.RowKit
set_option linter.unusedVariables false
set_option maxRecDepth 100000

def kp_code_Get : List Nat := [0, 2, 4, 5, 6, 19, 20]
theorem sh_code_Get (n : Nat) (x0 : D) (h : Heap) : textK Try.prog (T10n Try.prog) kp_code_Get n Try.f35 [x0] h =
(thnH (allocH 25 [(iD 0), (.v (.slice none 0 0)), (.v (.slice none 0 0))] h) fun y0 h1 =>
thnH ((G_rOf Try.prog) [x0] h1) fun y2 h3 =>
thnH ((G_rCount Try.prog) [y2, (iD 12)] h3) fun y4 h5 =>
thn (buildR [(0, 1), (1, 1), (2, 1)] [(iD 0), (.v (.slice none 0 0)), (.v (.slice none 0 0))] [(0, y4)]) fun y6 =>
thnH (allocH 25 [(iD 0), (.v (.slice none 0 0)), (.v (.slice none 0 0))] h5) fun y7 h8 =>
thnH (setH 3 y7 y6 h8) fun y9 h10 =>
thnH ((G_rCount Try.prog) [y2, (iD 12)] h10) fun y11 h12 =>
leaveK (loopF Try.prog (T10n Try.prog) kp_code_Get n Try.f35 0 [x0, y0, y2, y7, .undef, y11, (iD 0)] h12) (fun j13 s14 h15 =>
condN j13 0
(thnH ((G_rCount Try.prog) [(s14.getD 2 .undef), (iD 200)] h15) fun y16 h17 =>
leaveK (loopF Try.prog (T10n Try.prog) kp_code_Get n Try.f35 1 [(s14.getD 0 .undef), (s14.getD 1 .undef), (s14.getD 2 .undef), (s14.getD 3 .undef), y16, (s14.getD 5 .undef), (s14.getD 6 .undef)] h17) (fun j18 s19 h20 =>
condN j18 2
(thn (loadH (some 3) h20 (s19.getD 3 .undef)) fun y21 =>
thnH (liftF F_CodePut [y21] h20) fun y22 h23 =>
thn (extractD y22 0) fun y24 =>
thn (extractD y22 1) fun y25 =>
thn (binK .int .neq y25 (iD 0)) fun y26 =>
condK y26
(thn (buildR [(0, 1), (1, 1), (2, 1)] [(iD 0), (.v (.slice none 0 0)), (.v (.slice none 0 0))] []) fun y27 =>
thnH (setH 3 (s19.getD 1 .undef) y27 h23) fun y28 h29 =>
thn (loadH (some 3) h29 (s19.getD 1 .undef)) fun y30 =>
some (.tup [y30, (iD 12)], h29))
(thn (binK .str .neq y24 (s19.getD 0 .undef)) fun y31 =>
condK y31
(thn (buildR [(0, 1), (1, 1), (2, 1)] [(iD 0), (.v (.slice none 0 0)), (.v (.slice none 0 0))] []) fun y32 =>
thnH (setH 3 (s19.getD 1 .undef) y32 h23) fun y33 h34 =>
thn (loadH (some 3) h34 (s19.getD 1 .undef)) fun y35 =>
some (.tup [y35, (iD 12)], h34))
(thn (loadH (some 3) h23 (s19.getD 3 .undef)) fun y36 =>
thnH (setH 3 (s19.getD 1 .undef) y36 h23) fun y37 h38 =>
thn (loadH (some 3) h38 (s19.getD 1 .undef)) fun y39 =>
some (.tup [y39, (iD 0)], h38))))
(none)) (fun s19 h20 =>
thn (loadH (some 3) h20 (s19.getD 1 .undef)) fun y40 =>
some (.tup [y40, .undef], h20)))
(none)) (fun s14 h15 =>
thn (loadH (some 3) h15 (s14.getD 1 .undef)) fun y41 =>
some (.tup [y41, .undef], h15))) := by kernel_rfl

theorem st_code_Get_0 (n : Nat) (s0 s1 s2 s3 s4 s5 s6 : D) (h : Heap) : stepF Try.prog (T10n Try.prog) kp_code_Get n Try.f35 0 [s0, s1, s2, s3, s4, s5, s6] h =
(thn (binK .int .lss s6 s5) fun y0 =>
condK y0
(thn (fieldAtH 1 s3) fun y1 =>
thn (loadH none h y1) fun y2 =>
thnH ((G_rByte Try.prog) [s2] h) fun y3 h4 =>
thn (intOf64 .i64 y3) fun y5 =>
thnH (rowH 3 1 1 [(iD 0)] [(0, y5)] h4) fun y6 h7 =>
thnH (appendH 3 1 y2 y6 h7) fun y8 h9 =>
thn (fieldAtH 1 s3) fun y10 =>
thnH (setH 1 y10 y8 h9) fun y11 h12 =>
sameO y1 (some h) (some h4)
(thn (binK .int .add s6 (iD 1)) fun y13 =>
some (.normal, [s0, s1, s2, s3, s4, s5, y13], h12)))
(some ((.exit 0), [s0, s1, s2, s3, s4, s5, s6], h))) := by kernel_rfl

theorem st_code_Get_1 (n : Nat) (s0 s1 s2 s3 s4 s5 s6 : D) (h : Heap) : stepF Try.prog (T10n Try.prog) kp_code_Get n Try.f35 1 [s0, s1, s2, s3, s4, s5, s6] h =
(thn (fieldAtH 2 s3) fun y0 =>
thn (loadH none h y0) fun y1 =>
thn (lenH .sl y1) fun y2 =>
thn (binK .int .lss y2 s4) fun y3 =>
condK y3
(thn (nilD s2) fun y4 =>
thn (fieldAtH 0 y4) fun y5 =>
thnH ((G_rEnd Try.prog) [y5] h) fun y6 h7 =>
thn (binK .int .neq y6 (iD 5)) fun y8 =>
condK y8
(some ((.exit 2), [s0, s1, s2, s3, s4, s5, s6], h7))
(thnH ((G_rByte Try.prog) [s2] h7) fun y9 h10 =>
thn (intOf64 .i64 y9) fun y11 =>
thn (buildR [(0, 1), (1, 1)] [(iD 0), (iD 0)] [(0, y11)]) fun y12 =>
thnH (allocH 39 [(iD 0), (iD 0)] h10) fun y13 h14 =>
thnH (setH 2 y13 y12 h14) fun y15 h16 =>
thn (fieldAtH 0 y13) fun y17 =>
thn (loadH none h16 y17) fun y18 =>
thnH (liftF F_codeOf [y18] h16) fun y19 h20 =>
thn (extractD y19 0) fun y21 =>
thn (extractD y19 1) fun y22 =>
thnH (allocH 69 [(.v .nilFunc), (.v .nilFunc)] h20) fun y23 h24 =>
thnH (setH 2 y23 y21 h24) fun y25 h26 =>
condK y22
(thn (fieldAtH 1 y23) fun y27 =>
thn (loadH none h26 y27) fun y28 =>
thnH (callClo (T10n Try.prog) y28 [s2] h26) fun y29 h30 =>
thn (fieldAtH 1 y13) fun y31 =>
thnH (setH 1 y31 y29 h30) fun y32 h33 =>
thn (fieldAtH 2 s3) fun y34 =>
thn (loadH none h33 y34) fun y35 =>
thn (loadH (some 2) h33 y13) fun y36 =>
thnH (rowH 39 2 1 [(iD 0), (iD 0)] [(0, y36)] h33) fun y37 h38 =>
thnH (appendH 39 2 y35 y37 h38) fun y39 h40 =>
thn (fieldAtH 2 s3) fun y41 =>
thnH (setH 1 y41 y39 h40) fun y42 h43 =>
some (.normal, [s0, s1, s2, s3, s4, s5, s6], h43))
(thn (fieldAtH 2 s3) fun y44 =>
thn (loadH none h26 y44) fun y45 =>
thn (loadH (some 2) h26 y13) fun y46 =>
thnH (rowH 39 2 1 [(iD 0), (iD 0)] [(0, y46)] h26) fun y47 h48 =>
thnH (appendH 39 2 y45 y47 h48) fun y49 h50 =>
thn (fieldAtH 2 s3) fun y51 =>
thnH (setH 1 y51 y49 h50) fun y52 h53 =>
some (.normal, [s0, s1, s2, s3, s4, s5, s6], h53))))
(some ((.exit 2), [s0, s1, s2, s3, s4, s5, s6], h))) := by kernel_rfl

def kp_offshootref10_Get : List Nat := [0, 2, 5, 6, 7, 8, 11, 12, 13]
theorem sh_offshootref10_Get (n : Nat) (x0 : D) (h : Heap) : textK Try.prog (T10n Try.prog) kp_offshootref10_Get n Try.f36 [x0] h =
(thnH (allocH 25 [(iD 0), (.v (.slice none 0 0)), (.v (.slice none 0 0))] h) fun y0 h1 =>
thn (buildR [(0, 1), (1, 1), (2, 1)] [(.v (.string ⟨#[]⟩)), (iD 0), (iD 0)] [(0, x0)]) fun y2 =>
thnH (allocH 85 [(.v (.string ⟨#[]⟩)), (iD 0), (iD 0)] h1) fun y3 h4 =>
thnH (setH 3 y3 y2 h4) fun y5 h6 =>
thnH (allocH 25 [(iD 0), (.v (.slice none 0 0)), (.v (.slice none 0 0))] h6) fun y7 h8 =>
thn (loadH (some 3) h8 y3) fun y9 =>
thnH (liftF F_Ask [y9, (iD 2)] h8) fun y10 h11 =>
thn (extractD y10 0) fun y12 =>
thn (extractD y10 1) fun y13 =>
thnH (setH 3 y3 y12 h11) fun y14 h15 =>
thn (fieldAtH 0 y7) fun y16 =>
thnH (setH 1 y16 y13 h15) fun y17 h18 =>
thn (loadH (some 3) h18 y3) fun y19 =>
thnH (liftF F_Ask [y19, (iD 2)] h18) fun y20 h21 =>
thn (extractD y20 0) fun y22 =>
thn (extractD y20 1) fun y23 =>
thnH (allocH 85 [(.v (.string ⟨#[]⟩)), (iD 0), (iD 0)] h21) fun y24 h25 =>
thnH (setH 3 y24 y22 h25) fun y26 h27 =>
leaveK (loopF Try.prog (T10n Try.prog) kp_offshootref10_Get n Try.f36 0 [x0, y0, y7, y24, y23, (iD 0), .undef, .undef, .undef] h27) (fun j28 s29 h30 =>
condN j28 0
(thn (loadH (some 3) h30 (s29.getD 3 .undef)) fun y31 =>
thnH (liftF F_Ask [y31, (iD 2)] h30) fun y32 h33 =>
thn (extractD y32 0) fun y34 =>
thn (extractD y32 1) fun y35 =>
thnH (allocH 85 [(.v (.string ⟨#[]⟩)), (iD 0), (iD 0)] h33) fun y36 h37 =>
thnH (setH 3 y36 y34 h37) fun y38 h39 =>
leaveK (loopF Try.prog (T10n Try.prog) kp_offshootref10_Get n Try.f36 1 [(s29.getD 0 .undef), (s29.getD 1 .undef), (s29.getD 2 .undef), (s29.getD 3 .undef), (s29.getD 4 .undef), (s29.getD 5 .undef), y36, y35, (iD 0)] h39) (fun j40 s41 h42 =>
condN j40 2
(thn (loadH (some 3) h42 (s41.getD 2 .undef)) fun y43 =>
thnH (liftF F_CodePut [y43] h42) fun y44 h45 =>
thn (extractD y44 0) fun y46 =>
thn (extractD y44 1) fun y47 =>
thn (binK .int .neq y47 (iD 0)) fun y48 =>
condK y48
(thn (buildR [(0, 1), (1, 1), (2, 1)] [(iD 0), (.v (.slice none 0 0)), (.v (.slice none 0 0))] []) fun y49 =>
thnH (setH 3 (s41.getD 1 .undef) y49 h45) fun y50 h51 =>
thn (loadH (some 3) h51 (s41.getD 1 .undef)) fun y52 =>
some (.tup [y52, (iD 12)], h51))
(thn (binK .str .neq y46 (s41.getD 0 .undef)) fun y53 =>
condK y53
(thn (buildR [(0, 1), (1, 1), (2, 1)] [(iD 0), (.v (.slice none 0 0)), (.v (.slice none 0 0))] []) fun y54 =>
thnH (setH 3 (s41.getD 1 .undef) y54 h45) fun y55 h56 =>
thn (loadH (some 3) h56 (s41.getD 1 .undef)) fun y57 =>
some (.tup [y57, (iD 12)], h56))
(thn (loadH (some 3) h45 (s41.getD 2 .undef)) fun y58 =>
thnH (setH 3 (s41.getD 1 .undef) y58 h45) fun y59 h60 =>
thn (loadH (some 3) h60 (s41.getD 1 .undef)) fun y61 =>
some (.tup [y61, (iD 0)], h60))))
(none)) (fun s41 h42 =>
thn (loadH (some 3) h42 (s41.getD 1 .undef)) fun y62 =>
some (.tup [y62, .undef], h42)))
(none)) (fun s29 h30 =>
thn (loadH (some 3) h30 (s29.getD 1 .undef)) fun y63 =>
some (.tup [y63, .undef], h30))) := by kernel_rfl

theorem st_offshootref10_Get_0 (n : Nat) (s0 s1 s2 s3 s4 s5 s6 s7 s8 : D) (h : Heap) : stepF Try.prog (T10n Try.prog) kp_offshootref10_Get n Try.f36 0 [s0, s1, s2, s3, s4, s5, s6, s7, s8] h =
(thn (binK .int .lss s5 s4) fun y0 =>
condK y0
(thn (binK .int .lss s5 (iD 13)) fun y1 =>
condK y1
(thn (loadH (some 3) h s3) fun y2 =>
thnH (liftF F_Ask [y2, (iD 0)] h) fun y3 h4 =>
thn (extractD y3 0) fun y5 =>
thn (extractD y3 1) fun y6 =>
thnH (allocH 85 [(.v (.string ⟨#[]⟩)), (iD 0), (iD 0)] h4) fun y7 h8 =>
thnH (setH 3 y7 y5 h8) fun y9 h10 =>
thn (fieldAtH 1 s2) fun y11 =>
thn (loadH none h10 y11) fun y12 =>
thnH (rowH 3 1 1 [(iD 0)] [(0, y6)] h10) fun y13 h14 =>
thnH (appendH 3 1 y12 y13 h14) fun y15 h16 =>
thn (fieldAtH 1 s2) fun y17 =>
thnH (setH 1 y17 y15 h16) fun y18 h19 =>
thn (loadH (some 3) h19 y7) fun y20 =>
thnH (setH 3 s3 y20 h19) fun y21 h22 =>
thn (binK .int .add s5 (iD 1)) fun y23 =>
some (.normal, [s0, s1, s2, s3, s4, y23, s6, s7, s8], h22))
(some ((.exit 0), [s0, s1, s2, s3, s4, s5, s6, s7, s8], h)))
(some ((.exit 0), [s0, s1, s2, s3, s4, s5, s6, s7, s8], h))) := by kernel_rfl

theorem st_offshootref10_Get_1 (n : Nat) (s0 s1 s2 s3 s4 s5 s6 s7 s8 : D) (h : Heap) : stepF Try.prog (T10n Try.prog) kp_offshootref10_Get n Try.f36 1 [s0, s1, s2, s3, s4, s5, s6, s7, s8] h =
(thn (binK .int .lss s8 s7) fun y0 =>
condK y0
(thn (binK .int .lss s8 (iD 201)) fun y1 =>
condK y1
(thn (loadH (some 3) h s6) fun y2 =>
thnH (liftF F_Ask [y2, (iD 0)] h) fun y3 h4 =>
thn (extractD y3 0) fun y5 =>
thn (extractD y3 1) fun y6 =>
thnH (allocH 85 [(.v (.string ⟨#[]⟩)), (iD 0), (iD 0)] h4) fun y7 h8 =>
thnH (setH 3 y7 y5 h8) fun y9 h10 =>
thnH (liftF F_numbered [y6] h10) fun y11 h12 =>
thn (binK .int .eql y11 (iD 1)) fun y13 =>
condK y13
(thn (loadH (some 3) h12 y7) fun y14 =>
thnH (liftF F_Ask [y14, (iD 2)] h12) fun y15 h16 =>
thn (extractD y15 0) fun y17 =>
thn (extractD y15 1) fun y18 =>
thnH (setH 3 y7 y17 h16) fun y19 h20 =>
thnH (liftF F_numbered [y6] h20) fun y21 h22 =>
thn (binK .int .eql y21 (iD 2)) fun y23 =>
condK y23
(thn (loadH (some 3) h22 y7) fun y24 =>
thnH (liftF F_Ask [y24, (iD 3)] h22) fun y25 h26 =>
thn (extractD y25 0) fun y27 =>
thn (extractD y25 1) fun y28 =>
thnH (setH 3 y7 y27 h26) fun y29 h30 =>
thn (fieldAtH 2 s2) fun y31 =>
thn (loadH none h30 y31) fun y32 =>
thn (buildR [(0, 1), (1, 1)] [(iD 0), (iD 0)] [(0, y6), (1, y28)]) fun y33 =>
thnH (rowH 39 2 1 [(iD 0), (iD 0)] [(0, y33)] h30) fun y34 h35 =>
thnH (appendH 39 2 y32 y34 h35) fun y36 h37 =>
thn (fieldAtH 2 s2) fun y38 =>
thnH (setH 1 y38 y36 h37) fun y39 h40 =>
thn (loadH (some 3) h40 y7) fun y41 =>
thnH (setH 3 s6 y41 h40) fun y42 h43 =>
thn (binK .int .add s8 (iD 1)) fun y44 =>
some (.normal, [s0, s1, s2, s3, s4, s5, s6, s7, y44], h43))
(thn (fieldAtH 2 s2) fun y45 =>
thn (loadH none h22 y45) fun y46 =>
thn (buildR [(0, 1), (1, 1)] [(iD 0), (iD 0)] [(0, y6), (1, y18)]) fun y47 =>
thnH (rowH 39 2 1 [(iD 0), (iD 0)] [(0, y47)] h22) fun y48 h49 =>
thnH (appendH 39 2 y46 y48 h49) fun y50 h51 =>
thn (fieldAtH 2 s2) fun y52 =>
thnH (setH 1 y52 y50 h51) fun y53 h54 =>
thn (loadH (some 3) h54 y7) fun y55 =>
thnH (setH 3 s6 y55 h54) fun y56 h57 =>
thn (binK .int .add s8 (iD 1)) fun y58 =>
some (.normal, [s0, s1, s2, s3, s4, s5, s6, s7, y58], h57)))
(thnH (liftF F_numbered [y6] h12) fun y59 h60 =>
thn (binK .int .eql y59 (iD 2)) fun y61 =>
condK y61
(thn (loadH (some 3) h60 y7) fun y62 =>
thnH (liftF F_Ask [y62, (iD 3)] h60) fun y63 h64 =>
thn (extractD y63 0) fun y65 =>
thn (extractD y63 1) fun y66 =>
thnH (setH 3 y7 y65 h64) fun y67 h68 =>
thn (fieldAtH 2 s2) fun y69 =>
thn (loadH none h68 y69) fun y70 =>
thn (buildR [(0, 1), (1, 1)] [(iD 0), (iD 0)] [(0, y6), (1, y66)]) fun y71 =>
thnH (rowH 39 2 1 [(iD 0), (iD 0)] [(0, y71)] h68) fun y72 h73 =>
thnH (appendH 39 2 y70 y72 h73) fun y74 h75 =>
thn (fieldAtH 2 s2) fun y76 =>
thnH (setH 1 y76 y74 h75) fun y77 h78 =>
thn (loadH (some 3) h78 y7) fun y79 =>
thnH (setH 3 s6 y79 h78) fun y80 h81 =>
thn (binK .int .add s8 (iD 1)) fun y82 =>
some (.normal, [s0, s1, s2, s3, s4, s5, s6, s7, y82], h81))
(thn (fieldAtH 2 s2) fun y83 =>
thn (loadH none h60 y83) fun y84 =>
thn (buildR [(0, 1), (1, 1)] [(iD 0), (iD 0)] [(0, y6), (1, (iD 0))]) fun y85 =>
thnH (rowH 39 2 1 [(iD 0), (iD 0)] [(0, y85)] h60) fun y86 h87 =>
thnH (appendH 39 2 y84 y86 h87) fun y88 h89 =>
thn (fieldAtH 2 s2) fun y90 =>
thnH (setH 1 y90 y88 h89) fun y91 h92 =>
thn (loadH (some 3) h92 y7) fun y93 =>
thnH (setH 3 s6 y93 h92) fun y94 h95 =>
thn (binK .int .add s8 (iD 1)) fun y96 =>
some (.normal, [s0, s1, s2, s3, s4, s5, s6, s7, y96], h95))))
(some ((.exit 2), [s0, s1, s2, s3, s4, s5, s6, s7, s8], h)))
(some ((.exit 2), [s0, s1, s2, s3, s4, s5, s6, s7, s8], h))) := by kernel_rfl

end Go.Proofs.Ytbnmkdlmalobaaa
end

section
namespace Go.Proofs.Ytbnmkdlmalobaaa
open Go.RowKit
set_option linter.unusedVariables false
set_option linter.unusedSimpArgs false

def intsC (l : List Int) : List D := l.map fun n => iD n
def nodesC (l : List Nd) : List D := (l.map nodeD).flatten
theorem intsC_len (l : List Int) : (intsC l).length = l.length := by simp [intsC]
theorem nodesC_len (l : List Nd) : (nodesC l).length = l.length * 2 := by
  induction l with
  | nil => rfl
  | cons x r ih => simp only [nodesC, List.map_cons, List.flatten_cons, List.length_append, List.length_cons, nodeD] at ih ⊢; simp at ih ⊢; omega
theorem intsC_app (a b : List Int) : intsC (a ++ b) = intsC a ++ intsC b := by simp [intsC]
theorem nodesC_app (a b : List Nd) : nodesC (a ++ b) = nodesC a ++ nodesC b := by simp [nodesC]
theorem intsC_ok (l : List Int) : (intsC l).all cellOk = true := by
  induction l with
  | nil => rfl
  | cons x r ih => simp only [intsC, List.map_cons, List.all_cons] at ih ⊢; rw [ih]; rfl
theorem nodesC_ok (l : List Nd) : (nodesC l).all cellOk = true := by
  induction l with
  | nil => rfl
  | cons x r ih => simp only [nodesC, List.map_cons, List.flatten_cons, List.all_append] at ih ⊢; rw [ih]; rfl
theorem mapM_intsC (H : Heap) (n : Nat) (l : List Int) : (intsC l).mapM (derefN H n) = some (intsC l) := by
  induction l with
  | nil => rfl
  | cons x r ih =>
    have e : intsC (x :: r) = iD x :: intsC r := rfl
    rw [e, List.mapM_cons, derefN_pure H n _ rfl, ih]; rfl
theorem mapM_nodesC (H : Heap) (n : Nat) (l : List Nd) : (nodesC l).mapM (derefN H n) = some (nodesC l) := by
  induction l with
  | nil => rfl
  | cons x r ih =>
    have e : nodesC (x :: r) = iD x.1 :: iD x.2 :: nodesC r := rfl
    rw [e, List.mapM_cons, List.mapM_cons, derefN_pure H n _ rfl, derefN_pure H n _ rfl, ih]; rfl
theorem chunks_intsC (l : List Int) : chunks 1 l.length (intsC l) = l.map oneI := by
  induction l with
  | nil => rfl
  | cons x r ih =>
    have e : intsC (x :: r) = iD x :: intsC r := rfl
    rw [e, List.length_cons, chunks, List.map_cons]
    simp only [List.take_succ_cons, List.take_zero, List.drop_succ_cons, List.drop_zero, ih, oneI]
theorem chunks_nodesC (l : List Nd) : chunks 2 l.length (nodesC l) = l.map nodeD := by
  induction l with
  | nil => rfl
  | cons x r ih =>
    have e : nodesC (x :: r) = iD x.1 :: iD x.2 :: nodesC r := rfl
    rw [e, List.length_cons, chunks, List.map_cons]
    simp only [List.take_succ_cons, List.take_zero, List.drop_succ_cons, List.drop_zero, ih, nodeD]
theorem Buf.ints {e : TypeId} {H : Heap} {B : Nat} {d : D} {l : List Int} (h : Buf e 1 H B d l.length (intsC l)) (n : Nat) : ∃ d', derefN H (n + 1) d = some d' ∧ asInts d' = some l := by
  rcases h with ⟨rfl, h1, _⟩ | ⟨r, h1, rfl, h3, h4⟩
  · have : l = [] := List.length_eq_zero_iff.1 h1
    subst this
    exact ⟨_, derefN_pure H (n + 1) _ rfl, rfl⟩
  · refine ⟨intsD l, ?_, asInts_intsD l⟩
    simp only [derefN, h3]
    rw [if_pos (by rw [intsC_len]; omega), List.take_of_length_le (by rw [intsC_len]; omega), mapM_intsC, Option.map_some, chunks_intsC]; rfl
theorem Buf.nodes {e : TypeId} {H : Heap} {B : Nat} {d : D} {l : List Nd} (h : Buf e 2 H B d l.length (nodesC l)) (n : Nat) : ∃ d', derefN H (n + 1) d = some d' ∧ asNodes d' = some l := by
  rcases h with ⟨rfl, h1, _⟩ | ⟨r, h1, rfl, h3, h4⟩
  · have : l = [] := List.length_eq_zero_iff.1 h1
    subst this
    exact ⟨_, derefN_pure H (n + 1) _ rfl, rfl⟩
  · refine ⟨nodesD l, ?_, asNodes_nodesD l⟩
    simp only [derefN, h3]
    rw [if_pos (by rw [nodesC_len]; omega), List.take_of_length_le (by rw [nodesC_len]; omega), mapM_nodesC, Option.map_some, chunks_nodesC]; rfl
theorem Buf.eqB {e : TypeId} {sz : Nat} {H : Heap} {B : Nat} {d : D} {n : Nat} {cs : List D} (h : Buf e sz H B d n cs) : Go.Proofs.Ytbnmkdlmalobaaa.eqB d d = true := by
  rcases h with ⟨rfl, _, _⟩ | ⟨_, _, rfl, _, _⟩ <;> simp
/-- A program whose lists lie in rows, by value. -/
theorem deref_prog {e1 e2 : TypeId} {H : Heap} {B1 B2 : Nat} {d1 d2 : D} {a : Int} {vs : List Int} {b : List Nd} (h1 : Buf e1 1 H B1 d1 vs.length (intsC vs)) (h2 : Buf e2 2 H B2 d2 b.length (nodesC b)) (n : Nat) :
    ∃ d', derefN H (n + 2) (.agg [iD a, d1, d2]) = some d' ∧ asProg d' = some ⟨a, vs, b⟩ := by
  obtain ⟨d1', q1, q2⟩ := h1.ints n
  obtain ⟨d2', q3, q4⟩ := h2.nodes n
  refine ⟨.agg [iD a, d1', d2'], ?_, ?_⟩
  · show (List.mapM (derefN H (n + 1)) [iD a, d1, d2]).map D.agg = _
    simp only [List.mapM_cons, List.mapM_nil, derefN_pure H (n + 1) (iD a) rfl, q1, q3]
    rfl
  · simp [asProg, asProgC, asInt, q2, q4]
/-- A function of a program, over rows. -/
theorem lift_prog {e1 e2 : TypeId} {H : Heap} {B1 B2 : Nat} {d1 d2 : D} {a : Int} {vs : List Int} {b : List Nd} (h1 : Buf e1 1 H B1 d1 vs.length (intsC vs)) (h2 : Buf e2 2 H B2 d2 b.length (nodesC b)) (g : Pg → Option D) {r : D} (hg : g ⟨a, vs, b⟩ = some r) (hf : flatD r = true) :
    liftF (F1 progT g) [.agg [iD a, d1, d2]] H = some (r, H) := by
  obtain ⟨d', q1, q2⟩ := deref_prog (a := a) h1 h2 7
  have hd : asProg d' = some ⟨a, vs, b⟩ → F1 progT g [d'] = some r := fun h => by
    show (asProg d').bind g = _
    rw [h, Option.bind_some, hg]
  cases hp : pureL [.agg [iD a, d1, d2]] with
  | true =>
    rw [liftF_pure _ _ _ hp]
    have hp' : pureD (.agg [iD a, d1, d2]) = true := by simpa [pureL] using hp
    rw [derefN_pure H 9 _ hp'] at q1
    cases q1
    rw [hd q2]; rfl
  | false =>
    have hm : [D.agg [iD a, d1, d2]].mapM (derefN H 9) = some [d'] := by
      simp only [List.mapM_cons, List.mapM_nil, q1]; rfl
    rw [liftF_obj _ _ _ _ hp hm, hd q2]
    simp [hf]
/-- A program and what is wrong, given back. -/
theorem out_prog {e1 e2 : TypeId} {H : Heap} {B1 B2 : Nat} {d1 d2 : D} {a : Int} {vs : List Int} {b : List Nd} (h1 : Buf e1 1 H B1 d1 vs.length (intsC vs)) (h2 : Buf e2 2 H B2 d2 b.length (nodesC b)) (e : Int) :
    ∃ d', outD (some (.tup [.agg [iD a, d1, d2], iD e], H)) = some d' ∧ Imp d' (.tup [progD ⟨a, vs, b⟩, iD e]) := by
  obtain ⟨d', q1, q2⟩ := deref_prog (a := a) h1 h2 6
  refine ⟨.tup [d', iD e], ?_, Imp.tup (.cons (progT.ok _ _ q2) (.cons (Imp.refl _) .nil))⟩
  have q1' : derefN H 8 (.agg [iD a, d1, d2]) = some d' := q1
  show (List.mapM (derefN H 8) [.agg [iD a, d1, d2], iD e]).map D.tup = _
  simp only [List.mapM_cons, List.mapM_nil, q1', derefN_pure H 8 (iD e) rfl]
  rfl
end Go.Proofs.Ytbnmkdlmalobaaa
end
