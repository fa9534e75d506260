/-
  Parts joined into one text: T13a, Sh13b, T13b, Sh13c, T13c, T13d, Sh13d, AppOne, T13e, Sh13e, T13f, Sh13f. No condition.
-/
import Derived.Test.YtalehbmgbjiigaaFn
import Derived.Test.YtalehbmgbjiigaaFp

section
namespace Go.Proofs.Ytalehbmgbjiigaa
open Go.RowKit
set_option linter.unusedVariables false
set_option linter.unusedSimpArgs false
set_option maxRecDepth 100000

def F_isNaN : List D → Option D := F1 intT fun _ => some (bD false)
theorem C_isNaN : CallOk Try.prog 107 F_isNaN := call1 (kp := kp_cmp_isNaN_int_) T12f_ok mixed Try.func107 (by kernel_rfl) (by decide) fun a d h => by
  cases h
  refine ⟨0, _, ?_, Imp.refl _⟩
  show outD (textK _ _ _ _ _ [iD a] []) = _
  rw [sh_cmp_isNaN_int_]
  simp
theorem isNaN_pure (a : Int) (H : Heap) : liftF F_isNaN [iD a] H = some (bD false, H) := by
  rw [liftF_pure _ _ _ rfl]
  have : F_isNaN [iD a] = _ := f1_enc (A := intT) _ a
  rw [this]; rfl
def G_len64 (P : Program) : List D → Heap → Option (D × Heap) := textG P (T12f P) [] 0 163
theorem C_len64 : HCallOk Try.prog 163 (G_len64 Try.prog) := hcall_G T12f_ok mixed Try.func163 (by kernel_rfl) (by decide)
def G_Compact (P : Program) : List D → Heap → Option (D × Heap) := textG P (T12f P) kp_slices_Compact___int_int_ 1001 133
theorem G_Compact_eq (ds : List D) (H : Heap) : G_Compact Try.prog ds H = textK Try.prog (T12f Try.prog) kp_slices_Compact___int_int_ 1001 Try.f133 ds H := textG_eq Try.func133 ds H
theorem C_Compact : HCallOk Try.prog 133 (G_Compact Try.prog) := hcall_G T12f_ok mixed Try.func133 (by kernel_rfl) (by decide)
theorem idx_tail (id o n i : Nat) (h : i < n) : idxH 1 (.ht id o n) (iD i) = some (.hp id (o + i)) := by simp [idxH, h]
theorem clear_own {H : Heap} {id : Nat} {t : TypeId} {c : List Int} (h : H[id]? = some (.cells t 1 (intsC c))) (o n : Nat) (hn : o + n ≤ c.length) : ∃ z, clearH 1 [iD 0] (.ht id o n) H = some (.v undef, H.set id (.cells t 1 (intsC (c.take o ++ z)))) := by
  refine ⟨List.replicate n 0 ++ c.drop (o + n), ?_⟩
  have hc : (intsC c).length = c.length := intsC_len c
  simp only [clearH, htOf, Option.bind_some, h]
  rw [if_pos ⟨trivial, rfl, by simp [hc]; omega, rfl⟩]
  congr 3
  simp [intsC, List.map_take, List.map_drop]
theorem clear_own0 {H : Heap} {id : Nat} {t : TypeId} {c : List Int} (h : H[id]? = some (.cells t 1 (intsC c))) (n : Nat) (hn : n ≤ c.length) : ∃ z, clearH 1 [iD 0] (.hs id n) H = some (.v undef, H.set id (.cells t 1 (intsC z))) := by
  refine ⟨List.replicate n 0 ++ c.drop n, ?_⟩
  have hc : (intsC c).length = c.length := intsC_len c
  simp only [clearH, htOf, Option.bind_some, h]
  rw [if_pos ⟨trivial, rfl, by simp [hc]; omega, rfl⟩]
  congr 3
  simp [intsC, List.map_take, List.map_drop]
theorem cut_from (id n k : Nat) (h0 : 0 < k) (h : k ≤ n) : cutH 1 (.hs id n) (some (iD k)) none = some (.ht id k (n - k)) := by
  simp [cutH, lowD, highD, h]; omega
theorem cut_from0 (id n : Nat) : cutH 1 (.hs id n) (some (iD 0)) none = some (.hs id n) := by
  simp [cutH, lowD, highD]
theorem cut_to (id n k : Nat) (h : k ≤ n) : cutH 1 (.hs id n) none (some (iD k)) = some (.hs id k) := by
  simp [cutH, lowD, highD, h]

/-- The second part: what is not like the one ahead is put behind the others. -/
theorem compact_move (id n k0 : Nat) (t : TypeId) (l : List Int) (H0 : Heap) (X : D) (hid : ∃ o, H0[id]? = some o) (hl : l.length = n) (hn : n ≤ 1000) (hk0 : 0 < k0) (hk : k0 < n) (hd : dedV l k0 = l.take k0) (he : l.getD k0 0 = l.getD (k0 - 1) 0) :
    ∃ (k : Nat) (c : List Int), iterS (stepF Try.prog (T12f Try.prog) kp_slices_Compact___int_int_ 1001 Try.f133 1) 1001 [.hs id n, X, iD k0, .ht id k0 (n - k0), iD 1] (H0.set id (.cells t 1 (intsC l))) =
      some (.exit 2, [.hs id n, X, iD k, .ht id k0 (n - k0), iD ((n - k0 : Nat) : Int)], H0.set id (.cells t 1 (intsC c))) ∧ c.length = n ∧ c.take k = dedV l n ∧ 0 < k ∧ k ≤ n := by
  have key : ∀ (m j : Nat) (k : Nat) (c : List Int) (f : Nat), j + m = n - k0 → 1 ≤ j → m < f → c.length = n → c.take k = dedV l (k0 + j) → k0 ≤ k → k < k0 + j → (∀ p, k0 + j - 1 ≤ p → c.getD p 0 = l.getD p 0) →
      ∃ (k' : Nat) (c' : List Int), iterS (stepF Try.prog (T12f Try.prog) kp_slices_Compact___int_int_ 1001 Try.f133 1) f [.hs id n, X, iD k, .ht id k0 (n - k0), iD j] (H0.set id (.cells t 1 (intsC c))) =
      some (.exit 2, [.hs id n, X, iD k', .ht id k0 (n - k0), iD ((n - k0 : Nat) : Int)], H0.set id (.cells t 1 (intsC c'))) ∧ c'.length = n ∧ c'.take k' = dedV l n ∧ 0 < k' ∧ k' ≤ n := by
    intro m
    induction m with
    | zero =>
      intro j k c f hj h1 hf hc ht hk1 hk2 hp
      obtain ⟨f, rfl⟩ : ∃ x, f = x + 1 := ⟨f - 1, by omega⟩
      obtain rfl : j = n - k0 := by omega
      refine ⟨k, c, iterS_exit ?_, hc, by rw [ht, show k0 + (n - k0) = n by omega], by omega, by omega⟩
      rw [st_slices_Compact___int_int__1]
      simp
    | succ m ih =>
      intro j k c f hj h1 hf hc ht hk1 hk2 hp
      obtain ⟨f, rfl⟩ : ∃ x, f = x + 1 := ⟨f - 1, by omega⟩
      have hg : (H0.set id (.cells t 1 (intsC c)))[id]? = some (.cells t 1 (intsC c)) := own_set hid
      have i1 := idx_tail id k0 (n - k0) j (by omega)
      have i2 := idx_tail id k0 (n - k0) (j - 1) (by omega)
      have i3 := idx_own id n k (by omega)
      have l1 := load_own hg (k0 + j) (by omega)
      have l2 := load_own hg (k0 + (j - 1)) (by omega)
      have e1 := intD_sub (j : Int) 1 (by omega) (by omega)
      have e2 := intD_add (j : Int) 1 (by omega) (by omega)
      have e3 := intD_add (k : Int) 1 (by omega) (by omega)
      have c1 : ((j : Nat) : Int) - 1 = ((j - 1 : Nat) : Int) := by omega
      have c2 : ((j : Nat) : Int) + 1 = ((j + 1 : Nat) : Int) := by omega
      have c3 : ((k : Nat) : Int) + 1 = ((k + 1 : Nat) : Int) := by omega
      rw [c1] at e1
      rw [c2] at e2
      rw [c3] at e3
      have hlt : (j : Int) < ((n - k0 : Nat) : Int) := by omega
      have hdl : dedV l (k0 + (j + 1)) = dedS (dedV l (k0 + j)) (l.getD (k0 + j) 0) := dedV_succ l (k0 + j) (by omega)
      have hla : (dedV l (k0 + j)).getLast? = some (l.getD (k0 + (j - 1)) 0) := by
        have := dedV_last l (k0 + (j - 1)) (by omega)
        rwa [show k0 + (j - 1) + 1 = k0 + j by omega] at this
      rw [hp (k0 + j) (by omega)] at l1
      rw [hp (k0 + (j - 1)) (by omega)] at l2
      by_cases hx : l.getD (k0 + j) 0 = l.getD (k0 + (j - 1)) 0
      · obtain ⟨k', c', q1, q2⟩ := ih (j + 1) k c f (by omega) (by omega) (by omega) hc (by rw [hdl, ht]; unfold dedS; rw [if_pos (by rw [hla, hx])]) (by omega) (by omega) (fun p hp' => hp p (by omega))
        refine ⟨k', c', ?_, q2⟩
        rw [iterS_go]
        · exact q1
        · rw [st_slices_Compact___int_int__1]
          simp only [lenH_ht, thn_some, binK_lss, hlt, decide_true, condK_bool, if_true, i1, l1, binK_sub, e1, i2, l2, binK_neq, hx, bne_self_eq_false, Bool.false_eq_true, if_false, binK_int, e2]
      · have st := set_own hg k (by omega) (l.getD (k0 + j) 0)
        rw [List.set_set] at st
        obtain ⟨k', c', q1, q2⟩ := ih (j + 1) (k + 1) (c.set k (l.getD (k0 + j) 0)) f (by omega) (by omega) (by omega) (by simpa using hc)
          (by rw [hdl, take_set_succ _ _ _ (by omega), ht]; unfold dedS; rw [if_neg (by rw [hla]; intro e; exact hx (Option.some.inj e).symm)]) (by omega) (by omega) (fun p hp' => by rw [getD_set_other _ _ _ _ (by omega)]; exact hp p (by omega))
        refine ⟨k', c', ?_, q2⟩
        rw [iterS_go]
        · exact q1
        · rw [st_slices_Compact___int_int__1]
          have hb : (l.getD (k0 + j) 0 != l.getD (k0 + (j - 1)) 0) = true := bne_iff_ne.2 hx
          simp only [lenH_ht, thn_some, binK_lss, hlt, decide_true, condK_bool, if_true, i1, l1, binK_sub, e1, i2, l2, binK_neq, hb, i3, st, thnH_some, binK_int, e2, e3]
  refine key (n - k0 - 1) 1 k0 l 1001 (by omega) (by omega) (by omega) hl ?_ (Nat.le_refl _) (by omega) (fun p _ => rfl)
  have := dedV_succ l k0 (by omega)
  rw [this, hd]
  unfold dedS
  rw [if_pos]
  have hla := dedV_last l (k0 - 1) (by omega)
  rw [show k0 - 1 + 1 = k0 by omega, hd] at hla
  rw [hla, he]

/-- What is left of a row. -/
theorem compact_ok (id n : Nat) (t : TypeId) (l : List Int) (H : Heap) (hid : H[id]? = some (.cells t 1 (intsC l))) (hl : l.length = n) (hn2 : 2 ≤ n) (hn : n ≤ 1000) :
    ∃ (c : List Int), G_Compact Try.prog [.hs id n] H = some (.hs id (dedV l n).length, H.set id (.cells t 1 (intsC c))) ∧ c.take (dedV l n).length = dedV l n := by
  rw [G_Compact_eq, sh_slices_Compact___int_int_]
  have key : ∀ (m k f : Nat), k + m = n → 1 ≤ k → m < f → dedV l k = l.take k → (∃ (c : List Int), iterS (stepF Try.prog (T12f Try.prog) kp_slices_Compact___int_int_ 1001 Try.f133 0) f [.hs id n, .v (.slice none 0 0), iD k, .undef, .undef] H =
      some (.exit 0, [.hs id n, .v (.slice none 0 0), iD n, .undef, .undef], H) ∧ dedV l n = l) ∨
      (∃ (c : List Int) (s0 s2 s3 s4 : D), iterS (stepF Try.prog (T12f Try.prog) kp_slices_Compact___int_int_ 1001 Try.f133 0) f [.hs id n, .v (.slice none 0 0), iD k, .undef, .undef] H =
      some (.ret, [s0, .hs id (dedV l n).length, s2, s3, s4], H.set id (.cells t 1 (intsC c))) ∧ c.take (dedV l n).length = dedV l n) := by
    intro m
    induction m with
    | zero =>
      intro k f hk h1 hf hd
      obtain ⟨f, rfl⟩ : ∃ x, f = x + 1 := ⟨f - 1, by omega⟩
      obtain rfl : k = n := by omega
      refine .inl ⟨[], iterS_exit ?_, by rw [hd, ← hl, List.take_length]⟩
      rw [st_slices_Compact___int_int__0]
      simp
    | succ m ih =>
      intro k f hk h1 hf hd
      obtain ⟨f, rfl⟩ : ∃ x, f = x + 1 := ⟨f - 1, by omega⟩
      have i1 := idx_own id n k (by omega)
      have i2 := idx_own id n (k - 1) (by omega)
      have l1 := load_own hid k (by omega)
      have l2 := load_own hid (k - 1) (by omega)
      have e1 := intD_sub (k : Int) 1 (by omega) (by omega)
      have e2 := intD_add (k : Int) 1 (by omega) (by omega)
      have c1 : ((k : Nat) : Int) - 1 = ((k - 1 : Nat) : Int) := by omega
      have c2 : ((k : Nat) : Int) + 1 = ((k + 1 : Nat) : Int) := by omega
      rw [c1] at e1
      rw [c2] at e2
      have hlt : (k : Int) < (n : Int) := by omega
      by_cases hx : l.getD k 0 = l.getD (k - 1) 0
      · right
        obtain ⟨k', c, q1, q2, q3, q4, q5⟩ := compact_move id n k t l H (.v (.slice none 0 0)) ⟨_, hid⟩ hl hn (by omega) (by omega) hd hx
        rw [set_self hid] at q1
        have q1L : loopF Try.prog (T12f Try.prog) kp_slices_Compact___int_int_ 1001 Try.f133 1 [.hs id n, .v (.slice none 0 0), iD k, .ht id k (n - k), iD 1] H = _ := q1
        have hkl : (dedV l n).length = k' := by rw [← q3, List.length_take]; omega
        have hg : (H.set id (.cells t 1 (intsC c)))[id]? = some (.cells t 1 (intsC c)) := own_set ⟨_, hid⟩
        obtain ⟨z, hz⟩ := clear_own hg k' (n - k') (by omega)
        rw [List.set_set] at hz
        have f1 := cut_from id n k (by omega) (by omega)
        have f2 := cut_from id n k' (by omega) (by omega)
        have f3 := cut_to id n k' (by omega)
        refine ⟨c.take k' ++ z, .hs id n, iD k', .ht id k (n - k), iD ((n - k : Nat) : Int), ?_, ?_⟩
        · refine iterS_ret ?_
          rw [st_slices_Compact___int_int__0]
          simp only [lenH_hs, thn_some, binK_lss, hlt, decide_true, condK_bool, if_true, i1, l1, binK_sub, e1, i2, l2, binK_eql, hx, beq_self_eq_true, f1, q1L, leaveK_exit, condN_same, List.getD_cons_zero, List.getD_cons_succ, f2, hz, thnH_some, f3, hkl]
        · rw [hkl, List.take_append_of_le_length (by simp; omega), List.take_take, Nat.min_self, q3]
      · have h2 : dedV l (k + 1) = l.take (k + 1) := by
          rw [dedV_succ l k (by omega), hd, List.take_succ_eq_append_getElem (by omega)]
          have hla := dedV_last l (k - 1) (by omega)
          rw [show k - 1 + 1 = k by omega, hd] at hla
          unfold dedS
          rw [if_neg (by rw [hla]; intro e; exact hx (Option.some.inj e).symm), getD_in _ _ _ (by omega : k < l.length)]
        have hgo : stepF Try.prog (T12f Try.prog) kp_slices_Compact___int_int_ 1001 Try.f133 0 [.hs id n, .v (.slice none 0 0), iD k, .undef, .undef] H = some (.normal, [.hs id n, .v (.slice none 0 0), iD ((k + 1 : Nat) : Int), .undef, .undef], H) := by
          rw [st_slices_Compact___int_int__0]
          have hb : (l.getD k 0 == l.getD (k - 1) 0) = false := by rw [beq_eq_false_iff_ne]; exact hx
          simp only [lenH_hs, thn_some, binK_lss, hlt, decide_true, condK_bool, if_true, i1, l1, binK_sub, e1, i2, l2, binK_eql, hb, Bool.false_eq_true, if_false, binK_int, e2]
        rw [iterS_go hgo]
        exact ih (k + 1) f (by omega) (by omega) (by omega) h2
  have hlt : ¬ (n : Int) < 2 := by omega
  rcases key (n - 1) 1 1001 (by omega) (by omega) (by omega) (by
    rw [dedV_succ l 0 (by omega), dedV_zero, List.take_succ_eq_append_getElem (by omega), getD_in _ _ _ (by omega : 0 < l.length)]; simp [dedS]) with ⟨c, q1, q2⟩ | ⟨c, s0, s2, s3, s4, q1, q2⟩
  · refine ⟨l, ?_, by rw [q2, List.take_length]⟩
    have q1' : loopF Try.prog (T12f Try.prog) kp_slices_Compact___int_int_ 1001 Try.f133 0 [.hs id n, .v (.slice none 0 0), iD 1, .undef, .undef] H = _ := q1
    simp only [lenH_hs, thn_some, binK_lss, hlt, decide_false, condK_bool, Bool.false_eq_true, if_false, q1', leaveK_exit, condN_same, List.getD_cons_zero, q2, hl, set_self hid]
  · refine ⟨c, ?_, q2⟩
    have q1' : loopF Try.prog (T12f Try.prog) kp_slices_Compact___int_int_ 1001 Try.f133 0 [.hs id n, .v (.slice none 0 0), iD 1, .undef, .undef] H = _ := q1
    simp only [lenH_hs, thn_some, binK_lss, hlt, decide_false, condK_bool, Bool.false_eq_true, if_false, q1', leaveK_ret, List.getD_cons_zero, List.getD_cons_succ]

/- Whether a number is the one that is not wanted. -/
def G_onceC (P : Program) : List D → Heap → Option (D × Heap) := textG P (T12f P) kp_catalog_once_int__1 0 135
theorem G_onceC_eq (ds : List D) (H : Heap) : G_onceC Try.prog ds H = textK Try.prog (T12f Try.prog) kp_catalog_once_int__1 0 Try.f135 ds H := textG_eq Try.func135 ds H
theorem C_onceC : HCallOk Try.prog 135 (G_onceC Try.prog) := hcall_G T12f_ok mixed Try.func135 (by kernel_rfl) (by decide)
theorem onceC_ok (x but : Int) (b : Nat) (t : TypeId) (H : Heap) (hb : H[b]? = some (.cells t 1 [iD but])) : G_onceC Try.prog [iD x, .hp b 0] H = some (bD (decide (x = but)), H) := by
  rw [G_onceC_eq, sh_catalog_once_int__1]
  have l1 := load_cell0 H b _ _ _ _ hb
  simp only [l1, thn_some, binK_eql]
  rfl
def fs13a (P : Program) : List Entry := (107, true, liftF F_isNaN) :: (163, false, G_len64 P) :: (133, false, G_Compact P) :: (135, false, G_onceC P) :: (36, true, liftN F_Part) :: fs12f P
theorem fs13a_ok : ∀ p ∈ fs13a Try.prog, EntryOk Try.prog p := entries_cons (entry_lift C_isNaN) <| entries_cons (entry_obj C_len64) <| entries_cons (entry_obj C_Compact) <| entries_cons (entry_obj C_onceC) <| entries_cons (entry_new N_Part) <| fs12f_ok
def T13a (P : Program) : Tab := ⟨fs13a P, noYl⟩
theorem T13a_ok : TabOk Try.prog (T13a Try.prog) := tabOk_of fs13a_ok
end Go.Proofs.Ytalehbmgbjiigaa
end

section
namespace Go.Proofs.Ytalehbmgbjiigaa
open Go.RowKit
set_option linter.unusedVariables false
set_option maxRecDepth 100000

def kp_cmp_Less_int_ : List Nat := []
theorem sh_cmp_Less_int_ (n : Nat) (x0 x1 : D) (h : Heap) : textK Try.prog (T13a Try.prog) kp_cmp_Less_int_ n Try.f159 [x0, x1] h =
(thnH (liftF F_isNaN [x0] h) fun y0 h1 =>
condK y0
(thnH (liftF F_isNaN [x1] h1) fun y2 h3 =>
thn (notD y2) fun y4 =>
condK y4
(some ((bD true), h3))
(thn (binK .int .lss x0 x1) fun y5 =>
some (y5, h3)))
(thn (binK .int .lss x0 x1) fun y6 =>
some (y6, h1))) := by kernel_rfl

def kp_slices_IndexFunc___int_int_ : List Nat := [0, 1, 4, 7, 8]
theorem sh_slices_IndexFunc___int_int_ (n : Nat) (x0 x1 : D) (h : Heap) : textK Try.prog (T13a Try.prog) kp_slices_IndexFunc___int_int_ n Try.f94 [x0, x1] h =
(thn (lenH .sl x0) fun y0 =>
leaveK (loopF Try.prog (T13a Try.prog) kp_slices_IndexFunc___int_int_ n Try.f94 0 [x0, x1, (iD 0), y0, (iD 0)] h) (fun j1 s2 h3 =>
condN j1 0
(some ((iD (-1)), h3))
(none)) (fun s2 h3 =>
some ((s2.getD 2 .undef), h3))) := by kernel_rfl

theorem st_slices_IndexFunc___int_int__0 (n : Nat) (s0 s1 s2 s3 s4 : D) (h : Heap) : stepF Try.prog (T13a Try.prog) kp_slices_IndexFunc___int_int_ n Try.f94 0 [s0, s1, s2, s3, s4] h =
(thn (binK .int .lss s4 s3) fun y0 =>
condK y0
(thn (idxH 1 s0 s4) fun y1 =>
thn (loadH none h y1) fun y2 =>
thnH (callClo (T13a Try.prog) s1 [y2] h) fun y3 h4 =>
condK y3
(some (.ret, [s0, s1, s4, s3, s4], h4))
(thn (binK .int .add s4 (iD 1)) fun y5 =>
some (.normal, [s0, s1, s2, s3, y5], h4)))
(some ((.exit 0), [s0, s1, s2, s3, s4], h))) := by kernel_rfl

end Go.Proofs.Ytalehbmgbjiigaa
end

section
namespace Go.Proofs.Ytalehbmgbjiigaa
open Go.RowKit
set_option linter.unusedVariables false
set_option linter.unusedSimpArgs false
set_option maxRecDepth 100000

def F_cmpLess : List D → Option D := F2 intT intT fun a b => some (bD (decide (a < b)))
theorem C_cmpLess : CallOk Try.prog 159 F_cmpLess := call2 (kp := kp_cmp_Less_int_) T13a_ok mixed Try.func159 (by kernel_rfl) (by decide) fun a b d h => by
  cases h
  refine ⟨0, _, ?_, Imp.refl _⟩
  show outD (textK _ _ _ _ _ [iD a, iD b] []) = _
  rw [sh_cmp_Less_int_]
  simp [isNaN_pure]
theorem less_pure13 (a b : Int) (H : Heap) : liftF F_cmpLess [iD a, iD b] H = some (bD (decide (a < b)), H) := by
  rw [liftF_pure _ _ _ rfl]
  have : F_cmpLess [iD a, iD b] = _ := f2_enc (A := intT) (B := intT) _ a b
  rw [this]; rfl
def G_len (P : Program) : List D → Heap → Option (D × Heap) := textG P (T13a P) [] 0 148
theorem C_len : HCallOk Try.prog 148 (G_len Try.prog) := hcall_G T13a_ok mixed Try.func148 (by kernel_rfl) (by decide)
theorem len_two (H : Heap) : G_len Try.prog [.v (.int .u64 2)] H = some (iD 2, H) := by kernel_rfl
theorem len_five (H : Heap) : G_len Try.prog [.v (.int .u64 5)] H = some (iD 3, H) := by kernel_rfl
def onceCl (b : Nat) : D := .clo (.func 135) [] [.hp b 0]
theorem onceC_a (x : Int) (b : Nat) (H : Heap) : callClo (T13a Try.prog) (onceCl b) [iD x] H = G_onceC Try.prog [iD x, .hp b 0] H := rfl
def G_idxF13 (P : Program) : List D → Heap → Option (D × Heap) := textG P (T13a P) kp_slices_IndexFunc___int_int_ 1001 94
theorem G_idxF13_eq (ds : List D) (H : Heap) : G_idxF13 Try.prog ds H = textK Try.prog (T13a Try.prog) kp_slices_IndexFunc___int_int_ 1001 Try.f94 ds H := textG_eq Try.func94 ds H
theorem C_idxF13 : HCallOk Try.prog 94 (G_idxF13 Try.prog) := hcall_G T13a_ok mixed Try.func94 (by kernel_rfl) (by decide)
/-- The first one that is as it should not be. -/
theorem idxF13_ok (id n b : Nat) (t tb : TypeId) (c : List Int) (but : Int) (H : Heap) (hid : H[id]? = some (.cells t 1 (intsC c))) (hb : H[b]? = some (.cells tb 1 [iD but])) (hn : n ≤ c.length) (hn1 : n ≤ 1000) :
    (G_idxF13 Try.prog [.hs id n, onceCl b] H = some (iD (-1), H) ∧ ∀ p, p < n → c.getD p 0 ≠ but) ∨
    ∃ i, i < n ∧ G_idxF13 Try.prog [.hs id n, onceCl b] H = some (iD i, H) ∧ c.getD i 0 = but ∧ ∀ p, p < i → c.getD p 0 ≠ but := by
  rw [G_idxF13_eq, sh_slices_IndexFunc___int_int_]
  have hs := loopF_scan (P := Try.prog) (T := T13a Try.prog) (kp := kp_slices_IndexFunc___int_int_) (fn := Try.f94) (li := 0) (fun i => [.hs id n, onceCl b, iD 0, iD n, iD i]) H n (fun i => !decide (c.getD i 0 = but))
    (fun i => (.ret, [.hs id n, onceCl b, iD i, iD n, iD i], H)) (.exit 0, [.hs id n, onceCl b, iD 0, iD n, iD n], H)
    (fun i => by intro e; cases e) (by intro e; cases e) 0 1001 (Nat.zero_le _) (by omega)
    (fun i _ hi hp => by
      have e1 := intD_add (i : Int) 1 (by omega) (by omega)
      have h4 : (i : Int) < n := by omega
      have i1 := idx_own id n i hi
      have l1 := load_own hid i (by omega)
      have o1 := onceC_ok (c.getD i 0) but b tb H hb
      rw [Bool.not_eq_true', decide_eq_false_iff_not] at hp
      have hd : decide (c.getD i 0 = but) = false := by rw [decide_eq_false_iff_not]; exact hp
      rw [st_slices_IndexFunc___int_int__0]
      simp only [binK_lss, h4, decide_true, thn_some, condK_bool, if_true, i1, l1, onceC_a, o1, thnH_some, hd, Bool.false_eq_true, if_false, binK_int, e1]
      rfl)
    (fun i _ hi hp => by
      have h4 : (i : Int) < n := by omega
      have i1 := idx_own id n i hi
      have l1 := load_own hid i (by omega)
      have o1 := onceC_ok (c.getD i 0) but b tb H hb
      rw [Bool.not_eq_false', decide_eq_true_eq] at hp
      have hd : decide (c.getD i 0 = but) = true := by rw [decide_eq_true_eq]; exact hp
      rw [st_slices_IndexFunc___int_int__0]
      simp only [binK_lss, h4, decide_true, thn_some, condK_bool, if_true, i1, l1, onceC_a, o1, thnH_some, hd])
    (by rw [st_slices_IndexFunc___int_int__0]; simp)
  rcases hs with ⟨q1, q2⟩ | ⟨i, q0, q1, q2, q3, q4⟩
  · refine .inl ⟨?_, fun p hp => ?_⟩
    · simp only [cast0] at q2
      simp only [lenH_hs, thn_some, q2, leaveK_exit, condN_same]
    · have := q1 p (Nat.zero_le _) hp
      simpa using this
  · refine .inr ⟨i, q1, ?_, ?_, fun p hp => ?_⟩
    · simp only [cast0] at q4
      simp only [lenH_hs, thn_some, q4, leaveK_ret, List.getD_cons_zero, List.getD_cons_succ]
    · simpa using q2
    · have := q3 p (Nat.zero_le _) hp
      simpa using this
def fs13b (P : Program) : List Entry := (159, true, liftF F_cmpLess) :: (148, false, G_len P) :: (94, false, G_idxF13 P) :: fs13a P
theorem fs13b_ok : ∀ p ∈ fs13b Try.prog, EntryOk Try.prog p := entries_cons (entry_lift C_cmpLess) <| entries_cons (entry_obj C_len) <| entries_cons (entry_obj C_idxF13) <| fs13a_ok
def T13b (P : Program) : Tab := ⟨fs13b P, noYl⟩
theorem T13b_ok : TabOk Try.prog (T13b Try.prog) := tabOk_of fs13b_ok
end Go.Proofs.Ytalehbmgbjiigaa
end

section
namespace Go.Proofs.Ytalehbmgbjiigaa
open Go.RowKit
set_option linter.unusedVariables false
set_option maxRecDepth 100000

def kp_slices_insertionSortOrdered_int_ : List Nat := [0, 1, 2, 6, 7]
theorem sh_slices_insertionSortOrdered_int_ (n : Nat) (x0 x1 x2 : D) (h : Heap) : textK Try.prog (T13b Try.prog) kp_slices_insertionSortOrdered_int_ n Try.f153 [x0, x1, x2] h =
(thn (binK .int .add x1 (iD 1)) fun y0 =>
leaveK (loopF Try.prog (T13b Try.prog) kp_slices_insertionSortOrdered_int_ n Try.f153 0 [x0, x1, x2, y0, .undef] h) (fun j1 s2 h3 =>
condN j1 0
(some (.tup [], h3))
(none)) (fun s2 h3 =>
some (.tup [], h3))) := by kernel_rfl

theorem st_slices_insertionSortOrdered_int__0 (n : Nat) (s0 s1 s2 s3 s4 : D) (h : Heap) : stepF Try.prog (T13b Try.prog) kp_slices_insertionSortOrdered_int_ n Try.f153 0 [s0, s1, s2, s3, s4] h =
(thn (binK .int .lss s3 s2) fun y0 =>
condK y0
(leaveK (loopF Try.prog (T13b Try.prog) kp_slices_insertionSortOrdered_int_ n Try.f153 1 [s0, s1, s2, s3, s3] h) (fun j1 s2 h3 =>
condN j1 2
(thn (binK .int .add (s2.getD 3 .undef) (iD 1)) fun y4 =>
some (.normal, [(s2.getD 0 .undef), (s2.getD 1 .undef), (s2.getD 2 .undef), y4, (s2.getD 4 .undef)], h3))
(condN j1 1
(thn (binK .int .add (s2.getD 3 .undef) (iD 1)) fun y5 =>
some (.normal, [(s2.getD 0 .undef), (s2.getD 1 .undef), (s2.getD 2 .undef), y5, (s2.getD 4 .undef)], h3))
(some ((.exit j1), [(s2.getD 0 .undef), (s2.getD 1 .undef), (s2.getD 2 .undef), (s2.getD 3 .undef), (s2.getD 4 .undef)], h3)))) (fun s2 h3 =>
some (.ret, [(s2.getD 0 .undef), (s2.getD 1 .undef), (s2.getD 2 .undef), (s2.getD 3 .undef), (s2.getD 4 .undef)], h3)))
(some ((.exit 0), [s0, s1, s2, s3, s4], h))) := by kernel_rfl

theorem st_slices_insertionSortOrdered_int__1 (n : Nat) (s0 s1 s2 s3 s4 : D) (h : Heap) : stepF Try.prog (T13b Try.prog) kp_slices_insertionSortOrdered_int_ n Try.f153 1 [s0, s1, s2, s3, s4] h =
(thn (binK .int .gtr s4 s1) fun y0 =>
condK y0
(thn (idxH 1 s0 s4) fun y1 =>
thn (loadH none h y1) fun y2 =>
thn (binK .int .sub s4 (iD 1)) fun y3 =>
thn (idxH 1 s0 y3) fun y4 =>
thn (loadH none h y4) fun y5 =>
thnH (liftF F_cmpLess [y2, y5] h) fun y6 h7 =>
condK y6
(thn (binK .int .sub s4 (iD 1)) fun y8 =>
thn (binK .int .sub s4 (iD 1)) fun y9 =>
thn (idxH 1 s0 y9) fun y10 =>
thn (loadH none h7 y10) fun y11 =>
thn (idxH 1 s0 s4) fun y12 =>
thn (loadH none h7 y12) fun y13 =>
thn (idxH 1 s0 s4) fun y14 =>
thnH (setH 1 y14 y11 h7) fun y15 h16 =>
thn (idxH 1 s0 y8) fun y17 =>
thnH (setH 1 y17 y13 h16) fun y18 h19 =>
thn (binK .int .sub s4 (iD 1)) fun y20 =>
some (.normal, [s0, s1, s2, s3, y20], h19))
(some ((.exit 2), [s0, s1, s2, s3, s4], h7)))
(some ((.exit 2), [s0, s1, s2, s3, s4], h))) := by kernel_rfl

def kp_slices_DeleteFunc___int_int_ : List Nat := [0, 1, 5, 6]
theorem sh_slices_DeleteFunc___int_int_ (n : Nat) (x0 x1 : D) (h : Heap) : textK Try.prog (T13b Try.prog) kp_slices_DeleteFunc___int_int_ n Try.f134 [x0, x1] h =
(thnH ((G_idxF13 Try.prog) [x0, x1] h) fun y0 h1 =>
thn (binK .int .eql y0 (iD (-1))) fun y2 =>
condK y2
(some (x0, h1))
(thn (binK .int .add y0 (iD 1)) fun y3 =>
leaveK (loopF Try.prog (T13b Try.prog) kp_slices_DeleteFunc___int_int_ n Try.f134 0 [x0, x1, y0, y3] h1) (fun j4 s5 h6 =>
condN j4 0
(thn (cutH 1 (s5.getD 0 .undef) (some (s5.getD 2 .undef)) none) fun y7 =>
thnH (clearH 1 [(iD 0)] y7 h6) fun y8 h9 =>
thn (cutH 1 (s5.getD 0 .undef) none (some (s5.getD 2 .undef))) fun y10 =>
some (y10, h9))
(none)) (fun s5 h6 =>
some (.undef, h6)))) := by kernel_rfl

theorem st_slices_DeleteFunc___int_int__0 (n : Nat) (s0 s1 s2 s3 : D) (h : Heap) : stepF Try.prog (T13b Try.prog) kp_slices_DeleteFunc___int_int_ n Try.f134 0 [s0, s1, s2, s3] h =
(thn (lenH .sl s0) fun y0 =>
thn (binK .int .lss s3 y0) fun y1 =>
condK y1
(thn (idxH 1 s0 s3) fun y2 =>
thn (loadH none h y2) fun y3 =>
thnH (callClo (T13b Try.prog) s1 [y3] h) fun y4 h5 =>
thn (notD y4) fun y6 =>
condK y6
(thn (idxH 1 s0 s2) fun y7 =>
thnH (setH 1 y7 y3 h5) fun y8 h9 =>
thn (binK .int .add s2 (iD 1)) fun y10 =>
thn (binK .int .add s3 (iD 1)) fun y11 =>
some (.normal, [s0, s1, y10, y11], h9))
(thn (binK .int .add s3 (iD 1)) fun y12 =>
some (.normal, [s0, s1, s2, y12], h5)))
(some ((.exit 0), [s0, s1, s2, s3], h))) := by kernel_rfl

end Go.Proofs.Ytalehbmgbjiigaa
end

section
namespace Go.Proofs.Ytalehbmgbjiigaa
open Go.RowKit
set_option linter.unusedVariables false
set_option linter.unusedSimpArgs false
set_option maxRecDepth 100000

def G_isort (P : Program) : List D → Heap → Option (D × Heap) := textG P (T13b P) kp_slices_insertionSortOrdered_int_ 1001 153
theorem G_isort_eq (ds : List D) (H : Heap) : G_isort Try.prog ds H = textK Try.prog (T13b Try.prog) kp_slices_insertionSortOrdered_int_ 1001 Try.f153 ds H := textG_eq Try.func153 ds H
theorem C_isort : HCallOk Try.prog 153 (G_isort Try.prog) := hcall_G T13b_ok mixed Try.func153 (by kernel_rfl) (by decide)

/-- One of a row is put where it belongs. -/
theorem isort_inner (id n i : Nat) (t : TypeId) (H0 : Heap) (hid : ∃ o, H0[id]? = some o) (hi : i < n) (hn : n ≤ 1000) : ∀ (j : Nat) (l : List Int) (f : Nat), j < f → j ≤ i → l.length = n → Near l i j →
    ∃ (l' : List Int) (j' : Nat), iterS (stepF Try.prog (T13b Try.prog) kp_slices_insertionSortOrdered_int_ 1001 Try.f153 1) f [.hs id n, iD 0, iD n, iD i, iD j] (H0.set id (.cells t 1 (intsC l))) =
      some (.exit 2, [.hs id n, iD 0, iD n, iD i, iD j'], H0.set id (.cells t 1 (intsC l'))) ∧ l'.length = n ∧ Rise l' (i + 1) ∧ ∀ x, x ∈ l' ↔ x ∈ l := by
  intro j
  induction j with
  | zero =>
    intro l f hf hji hl hN
    obtain ⟨f, rfl⟩ : ∃ x, f = x + 1 := ⟨f - 1, by omega⟩
    refine ⟨l, 0, iterS_exit ?_, hl, near_end hN (by omega) (.inl rfl), fun x => Iff.rfl⟩
    rw [st_slices_insertionSortOrdered_int__1]
    simp
  | succ j ih =>
    intro l f hf hji hl hN
    obtain ⟨f, rfl⟩ : ∃ x, f = x + 1 := ⟨f - 1, by omega⟩
    have hg : (H0.set id (.cells t 1 (intsC l)))[id]? = some (.cells t 1 (intsC l)) := own_set hid
    have i1 := idx_own id n (j + 1) (by omega)
    have i2 := idx_own id n j (by omega)
    have l1 := load_own hg (j + 1) (by omega)
    have l2 := load_own hg j (by omega)
    have e1 := intD_sub ((j + 1 : Nat) : Int) 1 (by omega) (by omega)
    have c1 : ((j + 1 : Nat) : Int) - 1 = ((j : Nat) : Int) := by omega
    rw [c1] at e1
    have hgt : (0 : Int) < ((j + 1 : Nat) : Int) := by omega
    by_cases hx : l.getD (j + 1) 0 < l.getD j 0
    · have s1 := set_own hg (j + 1) (by omega) (l.getD j 0)
      rw [List.set_set] at s1
      have hg2 : (H0.set id (.cells t 1 (intsC (l.set (j + 1) (l.getD j 0)))))[id]? = some (.cells t 1 (intsC (l.set (j + 1) (l.getD j 0)))) := own_set hid
      have s2 := set_own hg2 j (by simp; omega) (l.getD (j + 1) 0)
      rw [List.set_set] at s2
      obtain ⟨l', j', q1, q2, q3, q4⟩ := ih (swp l j) f (by omega) (by omega) (by rw [swp_len]; exact hl) (near_swp (by omega) (by omega) hN hx)
      refine ⟨l', j', ?_, q2, q3, fun x => (q4 x).trans (swp_mem l j (by omega) x)⟩
      rw [iterS_go]
      · exact q1
      · rw [st_slices_insertionSortOrdered_int__1]
        simp only [binK_gtr, hgt, decide_true, thn_some, condK_bool, if_true, i1, l1, binK_sub, e1, i2, l2, less_pure13, thnH_some, hx, s1, s2]
        rfl
    · refine ⟨l, j + 1, iterS_exit ?_, hl, near_end hN hji (.inr (by simpa using Int.not_lt.1 hx)), fun x => Iff.rfl⟩
      rw [st_slices_insertionSortOrdered_int__1]
      simp only [binK_gtr, hgt, decide_true, thn_some, condK_bool, if_true, i1, l1, binK_sub, e1, i2, l2, less_pure13, thnH_some, hx, decide_false, Bool.false_eq_true, if_false]
/-- A short row is sorted. -/
theorem isort_ok (id n : Nat) (t : TypeId) (l : List Int) (H : Heap) (hid : H[id]? = some (.cells t 1 (intsC l))) (hl : l.length = n) (h1 : 1 ≤ n) (hn : n ≤ 1000) :
    ∃ s : List Int, G_isort Try.prog [.hs id n, iD 0, iD n] H = some (.tup [], H.set id (.cells t 1 (intsC s))) ∧ s.length = n ∧ Rise s n ∧ ∀ x, x ∈ s ↔ x ∈ l := by
  rw [G_isort_eq, sh_slices_insertionSortOrdered_int_]
  have key : ∀ (m i : Nat) (s : List Int) (u : D) (f : Nat), i + m = n → 1 ≤ i → m < f → s.length = n → Rise s i → (∀ x, x ∈ s ↔ x ∈ l) →
      ∃ (s' : List Int) (u' : D), iterS (stepF Try.prog (T13b Try.prog) kp_slices_insertionSortOrdered_int_ 1001 Try.f153 0) f [.hs id n, iD 0, iD n, iD i, u] (H.set id (.cells t 1 (intsC s))) =
      some (.exit 0, [.hs id n, iD 0, iD n, iD n, u'], H.set id (.cells t 1 (intsC s'))) ∧ s'.length = n ∧ Rise s' n ∧ ∀ x, x ∈ s' ↔ x ∈ l := by
    intro m
    induction m with
    | zero =>
      intro i s u f hi h1 hf hs hR hm
      obtain ⟨f, rfl⟩ : ∃ x, f = x + 1 := ⟨f - 1, by omega⟩
      obtain rfl : i = n := by omega
      refine ⟨s, u, iterS_exit ?_, hs, hR, hm⟩
      rw [st_slices_insertionSortOrdered_int__0]
      simp
    | succ m ih =>
      intro i s u f hi h1 hf hs hR hm
      obtain ⟨f, rfl⟩ : ∃ x, f = x + 1 := ⟨f - 1, by omega⟩
      have e1 := intD_add (i : Int) 1 (by omega) (by omega)
      have c1 : ((i : Nat) : Int) + 1 = ((i + 1 : Nat) : Int) := by omega
      rw [c1] at e1
      have hlt : (i : Int) < (n : Int) := by omega
      obtain ⟨l', j', q1, q2, q3, q4⟩ := isort_inner id n i t H ⟨_, hid⟩ (by omega) hn i s 1001 (by omega) (Nat.le_refl _) hs (near_start hR)
      have q1' : loopF Try.prog (T13b Try.prog) kp_slices_insertionSortOrdered_int_ 1001 Try.f153 1 [.hs id n, iD 0, iD n, iD i, iD i] (H.set id (.cells t 1 (intsC s))) = _ := q1
      obtain ⟨s', u', z1, z2⟩ := ih (i + 1) l' (iD j') f (by omega) (by omega) (by omega) q2 q3 (fun x => (q4 x).trans (hm x))
      refine ⟨s', u', ?_, z2⟩
      rw [iterS_go]
      · exact z1
      · rw [st_slices_insertionSortOrdered_int__0]
        simp only [binK_lss, hlt, decide_true, thn_some, condK_bool, if_true, q1', leaveK_exit, condN_same, List.getD_cons_zero, List.getD_cons_succ, binK_int, e1]
  have e0 := intD_add (0 : Int) 1 (by omega) (by omega)
  obtain ⟨s', u', z1, z2, z3, z4⟩ := key (n - 1) 1 l .undef 1001 (by omega) (Nat.le_refl _) (by omega) hl (fun p q h1 h2 => by omega) (fun x => Iff.rfl)
  rw [set_self hid] at z1
  have z1' : loopF Try.prog (T13b Try.prog) kp_slices_insertionSortOrdered_int_ 1001 Try.f153 0 [.hs id n, iD 0, iD n, iD 1, .undef] H = _ := z1
  refine ⟨s', ?_, z2, z3, z4⟩
  simp only [binK_int, e0, thn_some]
  show leaveK (loopF Try.prog (T13b Try.prog) kp_slices_insertionSortOrdered_int_ 1001 Try.f153 0 [.hs id n, iD 0, iD n, iD 1, .undef] H) _ _ = _
  rw [z1']
  simp only [leaveK_exit, condN_same]

def G_DelF (P : Program) : List D → Heap → Option (D × Heap) := textG P (T13b P) kp_slices_DeleteFunc___int_int_ 1001 134
theorem G_DelF_eq (ds : List D) (H : Heap) : G_DelF Try.prog ds H = textK Try.prog (T13b Try.prog) kp_slices_DeleteFunc___int_int_ 1001 Try.f134 ds H := textG_eq Try.func134 ds H
theorem C_DelF : HCallOk Try.prog 134 (G_DelF Try.prog) := hcall_G T13b_ok mixed Try.func134 (by kernel_rfl) (by decide)
theorem onceC_b (x : Int) (b : Nat) (H : Heap) : callClo (T13b Try.prog) (onceCl b) [iD x] H = G_onceC Try.prog [iD x, .hp b 0] H := rfl
theorem filter_take_succ (l : List Int) (k : Nat) (p : Int → Bool) (h : k < l.length) : (l.take (k + 1)).filter p = if p (l.getD k 0) = true then (l.take k).filter p ++ [l.getD k 0] else (l.take k).filter p := by
  rw [List.take_succ_eq_append_getElem h, List.filter_append, getD_in _ _ _ h]
  by_cases hp : p l[k] = true <;> simp [hp]
/-- What is not wanted is left out. -/
theorem delF_ok (id n b : Nat) (t tb : TypeId) (c : List Int) (but : Int) (H : Heap) (hid : H[id]? = some (.cells t 1 (intsC c))) (hb : H[b]? = some (.cells tb 1 [iD but])) (hne : b ≠ id) (hn : n ≤ c.length) (hn1 : n ≤ 1000) :
    ∃ c' : List Int, G_DelF Try.prog [.hs id n, onceCl b] H = some (.hs id ((c.take n).filter fun x => decide (x ≠ but)).length, H.set id (.cells t 1 (intsC c'))) ∧ c'.take ((c.take n).filter fun x => decide (x ≠ but)).length = (c.take n).filter fun x => decide (x ≠ but) := by
  rw [G_DelF_eq, sh_slices_DeleteFunc___int_int_]
  rcases idxF13_ok id n b t tb c but H hid hb hn hn1 with ⟨q1, q2⟩ | ⟨i, q0, q1, q2, q3⟩
  · have hf : ((c.take n).filter fun x => decide (x ≠ but)) = c.take n := by
      rw [List.filter_eq_self]
      intro x hx
      obtain ⟨p, hp, e⟩ := (mem_getD _ _).1 hx
      have hp' : p < n := by simp at hp; omega
      have := q2 p hp'
      have e2 : (c.take n).getD p 0 = c.getD p 0 := by
        rw [List.getD_eq_getElem?_getD, List.getElem?_take_of_lt hp', ← List.getD_eq_getElem?_getD]
      rw [← e, e2]; simpa using this
    refine ⟨c, ?_, ?_⟩
    · rw [hf, set_self hid, q1]
      have hl : (c.take n).length = n := by simp; omega
      simp only [thnH_some, binK_eql, thn_some, beq_self_eq_true, condK_bool, if_true, hl]
    · rw [hf]
      have hl : (c.take n).length = n := by simp; omega
      rw [hl]
  · have hstart : ((c.take (i + 1)).filter fun x => decide (x ≠ but)) = c.take i := by
      rw [filter_take_succ _ _ _ (by omega), q2]
      simp only [ne_eq, not_true_eq_false, decide_false, Bool.false_eq_true, if_false]
      rw [List.filter_eq_self]
      intro x hx
      obtain ⟨p, hp, e⟩ := (mem_getD _ _).1 hx
      have hp' : p < i := by simp at hp; omega
      have := q3 p hp'
      have e2 : (c.take i).getD p 0 = c.getD p 0 := by
        rw [List.getD_eq_getElem?_getD, List.getElem?_take_of_lt hp', ← List.getD_eq_getElem?_getD]
      rw [← e, e2]; simpa using this
    have key : ∀ (m j k : Nat) (x : List Int) (f : Nat), j + m = n → i + 1 ≤ j → m < f → k < j → x.length = c.length → x.take k = ((c.take j).filter fun x => decide (x ≠ but)) → (∀ p, j ≤ p → x.getD p 0 = c.getD p 0) →
        ∃ (k' : Nat) (x' : List Int), iterS (stepF Try.prog (T13b Try.prog) kp_slices_DeleteFunc___int_int_ 1001 Try.f134 0) f [.hs id n, onceCl b, iD k, iD j] (H.set id (.cells t 1 (intsC x))) =
          some (.exit 0, [.hs id n, onceCl b, iD k', iD n], H.set id (.cells t 1 (intsC x'))) ∧ k' < n ∧ x'.length = c.length ∧ x'.take k' = ((c.take n).filter fun x => decide (x ≠ but)) := by
      intro m
      induction m with
      | zero =>
        intro j k x f hj hi hf hk hx ht hp
        obtain ⟨f, rfl⟩ : ∃ z, f = z + 1 := ⟨f - 1, by omega⟩
        obtain rfl : j = n := by omega
        refine ⟨k, x, iterS_exit ?_, hk, hx, ht⟩
        rw [st_slices_DeleteFunc___int_int__0]
        simp
      | succ m ih =>
        intro j k x f hj hi hf hk hx ht hp
        obtain ⟨f, rfl⟩ : ∃ z, f = z + 1 := ⟨f - 1, by omega⟩
        have hg : (H.set id (.cells t 1 (intsC x)))[id]? = some (.cells t 1 (intsC x)) := own_set ⟨_, hid⟩
        have hgb : (H.set id (.cells t 1 (intsC x)))[b]? = some (.cells tb 1 [iD but]) := by rw [List.getElem?_set_ne (Ne.symm hne)]; exact hb
        have i1 := idx_own id n j (by omega)
        have i2 := idx_own id n k (by omega)
        have l1 := load_own hg j (by omega)
        rw [hp j (Nat.le_refl _)] at l1
        have o1 := onceC_ok (c.getD j 0) but b tb _ hgb
        have e1 := intD_add (j : Int) 1 (by omega) (by omega)
        have e2 := intD_add (k : Int) 1 (by omega) (by omega)
        have c1 : ((j : Nat) : Int) + 1 = ((j + 1 : Nat) : Int) := by omega
        have c2 : ((k : Nat) : Int) + 1 = ((k + 1 : Nat) : Int) := by omega
        rw [c1] at e1
        rw [c2] at e2
        have hlt : (j : Int) < (n : Int) := by omega
        have hft := filter_take_succ c j (fun x => decide (x ≠ but)) (by omega)
        by_cases hy : c.getD j 0 = but
        · have hd : decide (c.getD j 0 = but) = true := decide_eq_true hy
          have hd2 : ¬ (decide (c.getD j 0 ≠ but) = true) := fun h => (of_decide_eq_true h) hy
          rw [if_neg hd2] at hft
          obtain ⟨k', x', z1, z2⟩ := ih (j + 1) k x f (by omega) (by omega) (by omega) (by omega) hx (by rw [hft]; exact ht) (fun p h => hp p (by omega))
          refine ⟨k', x', ?_, z2⟩
          rw [iterS_go]
          · exact z1
          · rw [st_slices_DeleteFunc___int_int__0]
            simp only [lenH_hs, thn_some, binK_lss, hlt, decide_true, condK_bool, if_true, i1, l1, onceC_b, o1, thnH_some, notD_bool, hd, Bool.not_true, Bool.false_eq_true, if_false, binK_int, e1]
        · have hd : decide (c.getD j 0 = but) = false := decide_eq_false hy
          have hd2 : decide (c.getD j 0 ≠ but) = true := decide_eq_true hy
          rw [if_pos hd2] at hft
          have st := set_own hg k (by omega) (c.getD j 0)
          rw [List.set_set] at st
          obtain ⟨k', x', z1, z2⟩ := ih (j + 1) (k + 1) (x.set k (c.getD j 0)) f (by omega) (by omega) (by omega) (by omega) (by simpa using hx) (by rw [hft, take_set_succ _ _ _ (by omega), ht]) (fun p h => by rw [getD_set_other _ _ _ _ (by omega)]; exact hp p (by omega))
          refine ⟨k', x', ?_, z2⟩
          rw [iterS_go]
          · exact z1
          · rw [st_slices_DeleteFunc___int_int__0]
            simp only [lenH_hs, thn_some, binK_lss, hlt, decide_true, condK_bool, if_true, i1, l1, onceC_b, o1, thnH_some, notD_bool, hd, Bool.not_false, i2, st, binK_int, e1, e2]
    obtain ⟨k', x', z1, z2, z3, z4⟩ := key (n - (i + 1)) (i + 1) i c 1001 (by omega) (Nat.le_refl _) (by omega) (by omega) rfl hstart.symm (fun p _ => rfl)
    rw [set_self hid] at z1
    have z1' : loopF Try.prog (T13b Try.prog) kp_slices_DeleteFunc___int_int_ 1001 Try.f134 0 [.hs id n, onceCl b, iD i, iD ((i + 1 : Nat) : Int)] H = _ := z1
    have e1 := intD_add (i : Int) 1 (by omega) (by omega)
    have c1 : ((i : Nat) : Int) + 1 = ((i + 1 : Nat) : Int) := by omega
    rw [c1] at e1
    have hkl : ((c.take n).filter fun x => decide (x ≠ but)).length = k' := by rw [← z4, List.length_take]; omega
    have hne1 : ((i : Int) == -1) = false := by rw [beq_eq_false_iff_ne]; omega
    have hg : (H.set id (.cells t 1 (intsC x')))[id]? = some (.cells t 1 (intsC x')) := own_set ⟨_, hid⟩
    have f3 := cut_to id n k' (by omega)
    rw [hkl]
    by_cases h0 : k' = 0
    · subst h0
      obtain ⟨z, hz⟩ := clear_own0 hg n (by omega)
      rw [List.set_set] at hz
      have f2 := cut_from0 id n
      refine ⟨z, ?_, by rw [← z4]; simp⟩
      simp only [q1, thnH_some, binK_eql, thn_some, hne1, condK_bool, Bool.false_eq_true, if_false, binK_int, e1, z1', leaveK_exit, condN_same, List.getD_cons_zero, List.getD_cons_succ, cast0, f2, hz]
      simp only [cast0] at f3
      simp only [f3, thn_some]
    · obtain ⟨z, hz⟩ := clear_own hg k' (n - k') (by omega)
      rw [List.set_set] at hz
      have f2 := cut_from id n k' (by omega) (by omega)
      refine ⟨x'.take k' ++ z, ?_, by rw [List.take_append_of_le_length (by simp; omega), List.take_take, Nat.min_self, z4]⟩
      simp only [q1, thnH_some, binK_eql, thn_some, hne1, condK_bool, Bool.false_eq_true, if_false, binK_int, e1, z1', leaveK_exit, condN_same, List.getD_cons_zero, List.getD_cons_succ, f2, hz, f3]
def fs13c (P : Program) : List Entry := (153, false, G_isort P) :: (134, false, G_DelF P) :: fs13b P
theorem fs13c_ok : ∀ p ∈ fs13c Try.prog, EntryOk Try.prog p := entries_cons (entry_obj C_isort) <| entries_cons (entry_obj C_DelF) <| fs13b_ok
def T13c (P : Program) : Tab := ⟨fs13c P, noYl⟩
theorem T13c_ok : TabOk Try.prog (T13c Try.prog) := tabOk_of fs13c_ok
end Go.Proofs.Ytalehbmgbjiigaa
end

section
namespace Go.Proofs.Ytalehbmgbjiigaa
open Go.RowKit
set_option linter.unusedVariables false
set_option linter.unusedSimpArgs false
set_option maxRecDepth 100000

def kp_pdq : List Nat := [0, 1, 2, 3, 8, 9]
def G_pdq (P : Program) : List D → Heap → Option (D × Heap) := textG P (T13c P) kp_pdq 2 147
theorem C_pdq : HCallOk Try.prog 147 (G_pdq Try.prog) := hcall_G T13c_ok mixed Try.func147 (by kernel_rfl) (by decide)
theorem G_pdq_eq (ds : List D) (H : Heap) : G_pdq Try.prog ds H = textK Try.prog (T13c Try.prog) kp_pdq 2 Try.f147 ds H := textG_eq Try.func147 ds H
theorem sh_pdq (n : Nat) (x0 x1 x2 x3 : D) (h : Heap) : textK Try.prog (T13c Try.prog) kp_pdq n Try.f147 [x0, x1, x2, x3] h =
(leaveK (loopF Try.prog (T13c Try.prog) kp_pdq n Try.f147 0 [x0, x1, x2, x3, (bD true), (bD true)] h) (fun j0 s1 h2 =>
condN j0 0
(some (.tup [], h2))
(none)) (fun s1 h2 =>
some (.tup [], h2))) := by kernel_rfl
theorem st_two (n id : Nat) (h : Heap) : stepF Try.prog (T13c Try.prog) kp_pdq n Try.f147 0 [.hs id 2, iD 0, iD 2, iD 2, bD true, bD true] h =
  thnH (G_isort Try.prog [.hs id 2, iD 0, iD 2] h) fun _ h3 => some (.ret, [.hs id 2, iD 0, iD 2, iD 2, bD true, bD true], h3) := by kernel_rfl
theorem st_five (n id : Nat) (h : Heap) : stepF Try.prog (T13c Try.prog) kp_pdq n Try.f147 0 [.hs id 5, iD 0, iD 5, iD 3, bD true, bD true] h =
  thnH (G_isort Try.prog [.hs id 5, iD 0, iD 5] h) fun _ h3 => some (.ret, [.hs id 5, iD 0, iD 5, iD 3, bD true, bD true], h3) := by kernel_rfl
theorem pdq_of {d0 d1 d2 d3 : D} {H H' : Heap} {s : List D} (h : stepF Try.prog (T13c Try.prog) kp_pdq 2 Try.f147 0 [d0, d1, d2, d3, bD true, bD true] H = some (.ret, s, H')) : G_pdq Try.prog [d0, d1, d2, d3] H = some (.tup [], H') := by
  rw [G_pdq_eq, sh_pdq]
  have q : loopF Try.prog (T13c Try.prog) kp_pdq 2 Try.f147 0 [d0, d1, d2, d3, bD true, bD true] H = some (.ret, s, H') := iterS_ret h
  rw [q, leaveK_ret]
def fs13d0 (P : Program) : List Entry := (147, false, G_pdq P) :: fs13c P
theorem fs13d0_ok : ∀ p ∈ fs13d0 Try.prog, EntryOk Try.prog p := entries_cons (entry_obj C_pdq) <| fs13c_ok
def T13d0 (P : Program) : Tab := ⟨fs13d0 P, noYl⟩
theorem T13d0_ok : TabOk Try.prog (T13d0 Try.prog) := tabOk_of fs13d0_ok
def G_Sort (P : Program) : List D → Heap → Option (D × Heap) := textG P (T13d0 P) [] 0 132
theorem C_Sort : HCallOk Try.prog 132 (G_Sort Try.prog) := hcall_G T13d0_ok mixed Try.func132 (by kernel_rfl) (by decide)
theorem sort_two (id : Nat) (H : Heap) : G_Sort Try.prog [.hs id 2] H = thnH (G_pdq Try.prog [.hs id 2, iD 0, iD 2, iD 2] H) fun _ h => some (.tup [], h) := by kernel_rfl
theorem sort_five (id : Nat) (H : Heap) : G_Sort Try.prog [.hs id 5] H = thnH (G_pdq Try.prog [.hs id 5, iD 0, iD 5, iD 3] H) fun _ h => some (.tup [], h) := by kernel_rfl
/-- A row of two, or of five, is sorted. -/
theorem sort_ok (id n : Nat) (hn : n = 2 ∨ n = 5) (t : TypeId) (l : List Int) (H : Heap) (hid : H[id]? = some (.cells t 1 (intsC l))) (hl : l.length = n) :
    ∃ s : List Int, G_Sort Try.prog [.hs id n] H = some (.tup [], H.set id (.cells t 1 (intsC s))) ∧ s.length = n ∧ Rise s n ∧ ∀ x, x ∈ s ↔ x ∈ l := by
  obtain ⟨s, q1, q2, q3, q4⟩ := isort_ok id n t l H hid hl (by omega) (by omega)
  refine ⟨s, ?_, q2, q3, q4⟩
  rcases hn with rfl | rfl
  · have q1' : G_isort Try.prog [.hs id 2, iD 0, iD 2] H = _ := q1
    have q2' := st_two 2 id H
    rw [q1', thnH_some] at q2'
    have := sort_two id H
    rw [this, pdq_of q2']; rfl
  · have q1' : G_isort Try.prog [.hs id 5, iD 0, iD 5] H = _ := q1
    have q2' := st_five 2 id H
    rw [q1', thnH_some] at q2'
    have := sort_five id H
    rw [this, pdq_of q2']; rfl
def fs13d (P : Program) : List Entry := (132, false, G_Sort P) :: fs13d0 P
theorem fs13d_ok : ∀ p ∈ fs13d Try.prog, EntryOk Try.prog p := entries_cons (entry_obj C_Sort) <| fs13d0_ok
def T13d (P : Program) : Tab := ⟨fs13d P, noYl⟩
theorem T13d_ok : TabOk Try.prog (T13d Try.prog) := tabOk_of fs13d_ok
end Go.Proofs.Ytalehbmgbjiigaa
end

section
namespace Go.Proofs.Ytalehbmgbjiigaa
open Go.RowKit
set_option linter.unusedVariables false
set_option maxRecDepth 100000

def kp_catalog_once_int_ : List Nat := []
theorem sh_catalog_once_int_ (n : Nat) (x0 x1 : D) (h : Heap) : textK Try.prog (T13d Try.prog) kp_catalog_once_int_ n Try.f111 [x0, x1] h =
(thnH (boxH 3 x0 h) fun y0 h1 =>
thnH ((G_Sort Try.prog) [x1] h1) fun y2 h3 =>
thnH ((G_Compact Try.prog) [x1] h3) fun y4 h5 =>
thnH ((G_DelF Try.prog) [y4, (.clo (.func 135) [] [y0])] h5) fun y6 h7 =>
some (y6, h7)) := by kernel_rfl

def kp_catalog_lists : List Nat := []
theorem sh_catalog_lists (n : Nat) (x0 : D) (h : Heap) : textK Try.prog (T13d Try.prog) kp_catalog_lists n Try.f74 [x0] h =
(thnH (boxH 23 x0 h) fun y0 h1 =>
some ((.clo (.func 108) [] [y0]), h1)) := by kernel_rfl

end Go.Proofs.Ytalehbmgbjiigaa
end

section
namespace Go.Proofs.Ytalehbmgbjiigaa
open Go.RowKit
set_option linter.unusedVariables false
set_option linter.unusedSimpArgs false

theorem app_one {t : TypeId} {sz : Nat} {H : Heap} {B : Nat} {d : D} {n : Nat} {cs new : List D} (h : Buf t sz H B d n cs) (hsz : 0 < sz) (hn : new.length = sz) (hok : new.all cellOk = true) (hb : cs.length + new.length ≤ 4000000) (hB : B ≤ H.length) :
    ∃ d' H', appendH t sz d (.hs H.length 1) (H ++ [.cells t sz new]) = some (d', H') ∧ Buf t sz H' B d' (n + 1) (cs ++ new) ∧ Kp B H H' ∧ H.length ≤ H'.length ∧ (∀ k, k < H.length → (∀ q, d ≠ .hs k q) → H'[k]? = H[k]?) ∧ (∀ k q, k < H.length → d ≠ .hs k q → (∀ q, d ≠ .hs k q) → d' ≠ .hs k q) := by
  obtain ⟨d', H', h1, h2, h3, h4, h5⟩ := app_buf (m := 1) (h.app [.cells t sz new]) hsz (by rw [hn]; omega) hok hb (by simp; omega)
  refine ⟨d', H', ?_, h2, (Kp.app B H _ hB).trans h3, ?_, fun k hk hd => ?_, fun k q hk _ hd => ?_⟩
  · unfold appendH
    have : srcH sz (H ++ [.cells t sz new]) (.hs H.length 1) = some new := by
      simp only [srcH, List.getElem?_concat_length]
      rw [if_pos ⟨trivial, by omega⟩, List.take_of_length_le (by omega)]
    rw [this]
    exact h1
  · have := h3.1; simp at this; omega
  · rw [h4 k (by simp; omega) hd, List.getElem?_append_left hk]
  · rcases h5 with rfl | ⟨q', rfl⟩
    · exact hd q
    · intro e
      cases e
      simp at hk
      omega
theorem row_int (t : TypeId) (x : Int) (H : Heap) : rowH t 1 1 [iD 0] [(0, iD x)] H = some (.hs H.length 1, H ++ [.cells t 1 [iD x]]) := rfl
/-- Numbers, by value or in a row of the call's own that lies at B or behind. -/
def Numb (B : Nat) (H : Heap) (d : D) (ns : List Int) : Prop :=
  d = intsD ns ∨ ∃ (id : Nat) (t : TypeId) (c : List Int), B ≤ id ∧ d = .hs id ns.length ∧ H[id]? = some (.cells t 1 (intsC c)) ∧ c.take ns.length = ns
theorem Numb.len {B : Nat} {H : Heap} {d : D} {ns : List Int} (h : Numb B H d ns) : lenH .sl d = some (iD ns.length) := by
  rcases h with rfl | ⟨id, t, c, h1, rfl, h2, h3⟩
  · exact lenH_ints ns
  · rfl
theorem Numb.get {B : Nat} {H : Heap} {d : D} {ns : List Int} (h : Numb B H d ns) (i : Nat) (hi : i < ns.length) : ∃ p, idxH 1 d (iD i) = some p ∧ loadH none H p = some (iD (ns.getD i 0)) := by
  rcases h with rfl | ⟨id, t, c, h1, rfl, h2, h3⟩
  · refine ⟨_, idx_intsN ns i hi, ?_⟩
    rw [getD_in _ _ _ hi]; rfl
  · have hc : ns.length ≤ c.length := by
      have := congrArg List.length h3
      simp at this; omega
    refine ⟨_, idx_own id _ i hi, ?_⟩
    rw [load_own h2 i (by omega)]
    have : ns.getD i 0 = (c.take ns.length).getD i 0 := by rw [h3]
    rw [this, List.getD_eq_getElem?_getD, List.getD_eq_getElem?_getD, List.getElem?_take_of_lt hi]
theorem Numb.keep {B : Nat} {H H' : Heap} {d : D} {ns : List Int} (h : Numb B H d ns) (k : ∀ r, B ≤ r → r < H.length → H'[r]? = H[r]?) : Numb B H' d ns := by
  rcases h with h | ⟨id, t, c, h1, h2, h3, h4⟩
  · exact .inl h
  · exact .inr ⟨id, t, c, h1, h2, (k id h1 (List.getElem?_eq_some_iff.1 h3).1).trans h3, h4⟩
theorem Numb.mono {B C : Nat} {H : Heap} {d : D} {ns : List Int} (h : Numb B H d ns) (hc : C ≤ B) : Numb C H d ns := by
  rcases h with h | ⟨id, t, c, h1, h2⟩
  · exact .inl h
  · exact .inr ⟨id, t, c, by omega, h2⟩
theorem Numb.keep2 {B : Nat} {H H' : Heap} {d : D} {ns : List Int} (h : Numb B H d ns) (k : ∀ r m, d = .hs r m → B ≤ r → r < H.length → H'[r]? = H[r]?) : Numb B H' d ns := by
  rcases h with h | ⟨id, t, c, h1, h2, h3, h4⟩
  · exact .inl h
  · exact .inr ⟨id, t, c, h1, h2, (k id _ h2 h1 (List.getElem?_eq_some_iff.1 h3).1).trans h3, h4⟩
theorem Numb.lt {B : Nat} {H : Heap} {k m : Nat} {ns : List Int} (h : Numb B H (.hs k m) ns) : B ≤ k ∧ k < H.length := by
  rcases h with h | ⟨id, t, c, h1, h2, h3, h4⟩
  · cases h
  · cases h2
    exact ⟨h1, (List.getElem?_eq_some_iff.1 h3).1⟩
theorem map_take_succ (ns : List Int) (i : Nat) (hi : i < ns.length) (op : Int) : (ns.take (i + 1)).map (fun n => (op, n)) = (ns.take i).map (fun n => (op, n)) ++ [(op, ns.getD i 0)] := by
  rw [List.take_succ_eq_append_getElem hi, List.map_append, getD_in _ _ _ hi]; rfl
end Go.Proofs.Ytalehbmgbjiigaa
end

section
namespace Go.Proofs.Ytalehbmgbjiigaa
open Go.RowKit
set_option linter.unusedVariables false
set_option linter.unusedSimpArgs false
set_option maxRecDepth 100000

def rowP (lo : Int) (j : Nat) (but : Int) : List Int := ((List.range j).map fun i : Nat => lo + (i : Int)).filter fun n => decide (n ≠ but)
theorem rowP_succ (lo : Int) (j : Nat) (but : Int) : rowP lo (j + 1) but = if lo + (j : Int) = but then rowP lo j but else rowP lo j but ++ [lo + (j : Int)] := by
  unfold rowP
  rw [List.range_succ, List.map_append, List.filter_append]
  by_cases h : lo + (j : Int) = but <;> simp [h]
theorem rowP_len (lo : Int) (j : Nat) (but : Int) : (rowP lo j but).length ≤ j := by
  unfold rowP
  refine Nat.le_trans (List.length_filter_le _ _) ?_
  simp
def F_row : List D → Option D := F3 intT intT intT fun lo hi but => if 0 ≤ lo ∧ hi ≤ 100 then some (intsD (rowV lo hi but)) else none
theorem C_row : CallOk Try.prog 110 F_row := call3 (kp := kp_catalog_row) T12f_ok mixed Try.func110 (by kernel_rfl) (by decide) fun lo hi but d h => by
  split at h
  case isFalse => cases h
  rename_i hb
  cases h
  have key := loopF_invS (P := Try.prog) (T := T12f Try.prog) (kp := kp_catalog_row) (fn := Try.f110) (li := 0)
    (fun j s H => ∃ d, s = [iD hi, iD but, d, iD (lo + (j : Int))] ∧ Buf 3 1 H 0 d (rowP lo j but).length (intsC (rowP lo j but)))
    (fun r => ∃ s H d, r = (.exit 0, s, H) ∧ s.getD 2 .undef = d ∧ Buf 3 1 H 0 d (rowV lo hi but).length (intsC (rowV lo hi but))) (hi - lo + 1).toNat 102
    (fun j s H hj hI => by
      obtain ⟨d, rfl, hd⟩ := hI
      have hle : lo + (j : Int) ≤ hi := by omega
      have e1 := intD_add (lo + (j : Int)) 1 (by omega) (by omega)
      have c1 : lo + (j : Int) + 1 = lo + ((j + 1 : Nat) : Int) := by omega
      rw [c1] at e1
      have hl := rowP_len lo j but
      rw [st_catalog_row_0]
      by_cases hx : lo + (j : Int) = but
      · refine ⟨[iD hi, iD but, d, iD (lo + ((j + 1 : Nat) : Int))], H, ?_, d, rfl, ?_⟩
        · have hb2 : (lo + (j : Int) != but) = false := by rw [hx]; exact bne_self_eq_false _
          simp only [binK_leq, hle, decide_true, thn_some, condK_bool, if_true, binK_neq, hb2, Bool.false_eq_true, if_false, binK_int, e1]
        · rw [rowP_succ, if_pos hx]; exact hd
      · obtain ⟨d', H', a1, a2, a3⟩ := app_one (new := [iD (lo + (j : Int))]) hd (by omega) rfl rfl (by rw [intsC_len]; simp; omega) (Nat.zero_le _)
        refine ⟨[iD hi, iD but, d', iD (lo + ((j + 1 : Nat) : Int))], H', ?_, d', rfl, ?_⟩
        · have hb2 : (lo + (j : Int) != but) = true := bne_iff_ne.2 hx
          simp only [binK_leq, hle, decide_true, thn_some, condK_bool, if_true, binK_neq, hb2, row_int, thnH_some, a1, binK_int, e1]
        · rw [rowP_succ, if_neg hx, intsC_app, List.length_append]; exact a2)
    (fun s H hI => by
      obtain ⟨d, rfl, hd⟩ := hI
      rw [st_catalog_row_0]
      have hle : ¬ (lo + (((hi - lo + 1).toNat : Nat) : Int) ≤ hi) := by omega
      refine ⟨(.exit 0, [iD hi, iD but, d, iD (lo + (((hi - lo + 1).toNat : Nat) : Int))], H), ?_, (by intro e; cases e), _, _, d, rfl, rfl, hd⟩
      simp only [binK_leq, hle, decide_false, thn_some, condK_bool, Bool.false_eq_true, if_false])
    (by omega) (s := [iD hi, iD but, .v (.slice none 0 0), iD lo]) (H := []) ⟨_, by simp, Buf.nil _ _ _ _⟩
  obtain ⟨r, k1, s, H, d, rfl, k2, k3⟩ := key
  obtain ⟨d', q1, q2⟩ := k3.ints 8
  refine ⟨102, d', ?_, imp_ints q2⟩
  show outD (textK _ _ _ _ _ [iD lo, iD hi, iD but] []) = _
  rw [sh_catalog_row, k1]
  simp only [leaveK_exit, condN_same, k2]
  exact q1
theorem row_pure (lo hi but : Int) (h : 0 ≤ lo ∧ hi ≤ 100) (H : Heap) : liftF F_row [iD lo, iD hi, iD but] H = some (intsD (rowV lo hi but), H) := by
  rw [liftF_pure _ _ _ rfl]
  have : F_row [iD lo, iD hi, iD but] = _ := f3_enc (A := intT) (B := intT) (C := intT) _ lo hi but
  rw [this, if_pos h]; rfl

def G_once (P : Program) : List D → Heap → Option (D × Heap) := textG P (T13d P) kp_catalog_once_int_ 0 111
theorem G_once_eq (ds : List D) (H : Heap) : G_once Try.prog ds H = textK Try.prog (T13d Try.prog) kp_catalog_once_int_ 0 Try.f111 ds H := textG_eq Try.func111 ds H
theorem C_once : HCallOk Try.prog 111 (G_once Try.prog) := hcall_G T13d_ok mixed Try.func111 (by kernel_rfl) (by decide)
/-- Numbers, each once, but for one. -/
theorem once_ok (id n : Nat) (hn : n = 2 ∨ n = 5) (but : Int) (t : TypeId) (l : List Int) (H : Heap) (hid : H[id]? = some (.cells t 1 (intsC l))) (hl : l.length = n) :
    ∃ H', G_once Try.prog [iD but, .hs id n] H = some (.hs id (onceV but l).length, H') ∧ H'.length = H.length + 1 ∧ (∃ c : List Int, H'[id]? = some (.cells t 1 (intsC c)) ∧ c.take (onceV but l).length = onceV but l) ∧ ∀ k, k < H.length → k ≠ id → H'[k]? = H[k]? := by
  have hlt : id < H.length := (List.getElem?_eq_some_iff.1 hid).1
  have hid1 : (H ++ [HO.cells 3 1 [iD but]])[id]? = some (.cells t 1 (intsC l)) := by rw [List.getElem?_append_left hlt]; exact hid
  have hb1 : (H ++ [HO.cells 3 1 [iD but]])[H.length]? = some (.cells 3 1 [iD but]) := by simp
  have hlen1 : (H ++ [HO.cells 3 1 [iD but]]).length = H.length + 1 := by simp
  have hk1 : ∀ k, k < H.length → (H ++ [HO.cells 3 1 [iD but]])[k]? = H[k]? := fun k hk => List.getElem?_append_left hk
  have hbox : boxH 3 (iD but) H = some (.hp H.length 0, H ++ [HO.cells 3 1 [iD but]]) := rfl
  generalize H ++ [HO.cells 3 1 [iD but]] = H1 at *
  obtain ⟨s, p1, p2, p3, p4⟩ := sort_ok id n hn t l H1 hid1 hl
  have hid2 : (H1.set id (.cells t 1 (intsC s)))[id]? = some (.cells t 1 (intsC s)) := own_set ⟨_, hid1⟩
  obtain ⟨c, q1, q2⟩ := compact_ok id n t s _ hid2 p2 (by omega) (by omega)
  rw [List.set_set] at q1
  have hded : dedV s n = sortV l := by
    have := dedV_sort l s (by rw [p2]; exact p3) p4
    rwa [p2] at this
  rw [hded] at q1 q2
  have hkc : (sortV l).length ≤ c.length := by
    have := congrArg List.length q2
    simp at this; omega
  have hkn : (sortV l).length ≤ n := by rw [← hded]; exact dedV_len s n (by omega)
  have hid3 : (H1.set id (.cells t 1 (intsC c)))[id]? = some (.cells t 1 (intsC c)) := own_set ⟨_, hid1⟩
  have hb3 : (H1.set id (.cells t 1 (intsC c)))[H.length]? = some (.cells 3 1 [iD but]) := by rw [List.getElem?_set_ne (by omega)]; exact hb1
  obtain ⟨c', r1, r2⟩ := delF_ok id (sortV l).length H.length t 3 c but _ hid3 hb3 (by omega) hkc (by omega)
  rw [List.set_set, q2] at r1
  rw [q2] at r2
  refine ⟨H1.set id (.cells t 1 (intsC c')), ?_, by simpa using hlen1, ⟨c', own_set ⟨_, hid1⟩, r2⟩, fun k hk hne => by rw [List.getElem?_set_ne (by omega)]; exact hk1 k hk⟩
  rw [G_once_eq, sh_catalog_once_int_]
  have r1' : G_DelF Try.prog [.hs id (sortV l).length, .clo (.func 135) [] [.hp H.length 0]] (H1.set id (.cells t 1 (intsC c))) = _ := r1
  simp only [hbox, thnH_some, p1, q1, r1']
  rfl
def G_lists (P : Program) : List D → Heap → Option (D × Heap) := textG P (T13d P) kp_catalog_lists 0 74
theorem G_lists_eq (ds : List D) (H : Heap) : G_lists Try.prog ds H = textK Try.prog (T13d Try.prog) kp_catalog_lists 0 Try.f74 ds H := textG_eq Try.func74 ds H
theorem C_lists : HCallOk Try.prog 74 (G_lists Try.prog) := hcall_G T13d_ok mixed Try.func74 (by kernel_rfl) (by decide)
def fs13e (P : Program) : List Entry := (110, true, liftF F_row) :: (111, false, G_once P) :: (74, false, G_lists P) :: fs13d P
theorem fs13e_ok : ∀ p ∈ fs13e Try.prog, EntryOk Try.prog p := entries_cons (entry_lift C_row) <| entries_cons (entry_obj C_once) <| entries_cons (entry_obj C_lists) <| fs13d_ok
def T13e (P : Program) : Tab := ⟨fs13e P, noYl⟩
theorem T13e_ok : TabOk Try.prog (T13e Try.prog) := tabOk_of fs13e_ok
end Go.Proofs.Ytalehbmgbjiigaa
end

section
namespace Go.Proofs.Ytalehbmgbjiigaa
open Go.RowKit
set_option linter.unusedVariables false
set_option maxRecDepth 100000

def kp_catalog_answers : List Nat := []
theorem sh_catalog_answers (n : Nat) (x0 : D) (h : Heap) : textK Try.prog (T13e Try.prog) kp_catalog_answers n Try.f112 [x0] h =
(thnH (boxH 46 x0 h) fun y0 h1 =>
thn (fieldAtH 0 y0) fun y2 =>
thn (loadH none h1 y2) fun y3 =>
thn (binK .int .eql y3 (iD 1)) fun y4 =>
condK y4
(thn (fieldAtH 1 y0) fun y5 =>
thn (loadH none h1 y5) fun y6 =>
thnH (rowH 3 1 2 [(iD 0)] [(0, (iD 0)), (1, (iD 1))] h1) fun y7 h8 =>
thnH ((G_once Try.prog) [y6, y7] h8) fun y9 h10 =>
some (y9, h10))
(thnH (rowH 3 1 2 [(iD 0)] [(0, (iD 0)), (1, (iD 1))] h1) fun y11 h12 =>
some (y11, h12))) := by kernel_rfl

end Go.Proofs.Ytalehbmgbjiigaa
end

section
namespace Go.Proofs.Ytalehbmgbjiigaa
open Go.RowKit
set_option linter.unusedVariables false
set_option linter.unusedSimpArgs false
set_option maxRecDepth 100000

def G_answers (P : Program) : List D → Heap → Option (D × Heap) := textG P (T13e P) kp_catalog_answers 0 112
theorem G_answers_eq (ds : List D) (H : Heap) : G_answers Try.prog ds H = textK Try.prog (T13e Try.prog) kp_catalog_answers 0 Try.f112 ds H := textG_eq Try.func112 ds H
theorem C_answers : HCallOk Try.prog 112 (G_answers Try.prog) := hcall_G T13e_ok mixed Try.func112 (by kernel_rfl) (by decide)
theorem row_two (t : TypeId) (a b : Int) (H : Heap) : rowH t 1 2 [iD 0] [(0, iD a), (1, iD b)] H = some (.hs H.length 2, H ++ [.cells t 1 (intsC [a, b])]) := rfl
theorem row_five (t : TypeId) (a b c d e : Int) (H : Heap) : rowH t 1 5 [iD 0] [(0, iD a), (1, iD b), (2, iD c), (3, iD d), (4, iD e)] H = some (.hs H.length 5, H ++ [.cells t 1 (intsC [a, b, c, d, e])]) := rfl
/-- What is left of a new row of numbers. -/
theorem once_new (n : Nat) (hn : n = 2 ∨ n = 5) (but : Int) (t : TypeId) (l : List Int) (H : Heap) (hl : l.length = n) :
    ∃ H', G_once Try.prog [iD but, .hs H.length n] (H ++ [.cells t 1 (intsC l)]) = some (.hs H.length (onceV but l).length, H') ∧ Numb H.length H' (.hs H.length (onceV but l).length) (onceV but l) ∧ Kp H.length H H' ∧ H.length < H'.length := by
  obtain ⟨H', q1, q2, ⟨c, q3, q4⟩, q5⟩ := once_ok H.length n hn but t l (H ++ [.cells t 1 (intsC l)]) (by simp) hl
  simp only [List.length_append, List.length_singleton] at q2
  refine ⟨H', q1, .inr ⟨H.length, t, c, Nat.le_refl _, rfl, q3, q4⟩, ⟨by omega, fun k hk => ?_⟩, by omega⟩
  rw [q5 k (by simp; omega) (by omega), List.getElem?_append_left hk]
theorem answers_ok (y : Nd) (H : Heap) : ∃ d H', G_answers Try.prog [.agg (nodeD y)] H = some (d, H') ∧ Numb H.length H' d (answersV y) ∧ Kp H.length H H' ∧ H.length ≤ H'.length := by
  rw [G_answers_eq, sh_catalog_answers]
  have hbox : boxH 46 (.agg (nodeD y)) H = some (.hp H.length 0, H ++ [.cells 46 2 [iD y.1, iD y.2]]) := box_node _ y H
  have hk1 : Kp H.length H (H ++ [.cells 46 2 [iD y.1, iD y.2]]) := Kp.app _ _ _ (Nat.le_refl _)
  have hg : (H ++ [HO.cells 46 2 [iD y.1, iD y.2]])[H.length]? = some (.cells 46 2 [iD y.1, iD y.2]) := by simp
  have hl1 : (H ++ [HO.cells 46 2 [iD y.1, iD y.2]]).length = H.length + 1 := by simp
  generalize H ++ [HO.cells 46 2 [iD y.1, iD y.2]] = H1 at *
  have l0 : loadH none H1 (.hp H.length 0) = some (iD y.1) := load_cell0 _ _ _ _ _ _ hg
  have l1 : loadH none H1 (.hp H.length 1) = some (iD y.2) := load_cellN _ _ _ _ _ _ _ hg rfl
  have f0 : fieldAtH 0 (.hp H.length 0) = some (.hp H.length 0) := rfl
  have f1 : fieldAtH 1 (.hp H.length 0) = some (.hp H.length 1) := rfl
  by_cases h : y.1 = 1
  · obtain ⟨H', q1, q2, q3, q4⟩ := once_new 2 (.inl rfl) y.2 3 [0, 1] H1 rfl
    have hv : answersV y = onceV y.2 [0, 1] := by unfold answersV; rw [if_pos h]
    have hb : (y.1 == 1) = true := by rw [h]; rfl
    refine ⟨_, H', ?_, by rw [hv]; exact q2.mono (by omega), hk1.trans (q3.mono (by omega)), by omega⟩
    simp only [hbox, thnH_some, f0, f1, thn_some, l0, l1, binK_eql, hb, condK_bool, if_true, row_two, q1]
  · have hv : answersV y = [0, 1] := by unfold answersV; rw [if_neg h]
    have hb : (y.1 == 1) = false := by rw [beq_eq_false_iff_ne]; exact h
    refine ⟨.hs H1.length 2, H1 ++ [.cells 3 1 (intsC [0, 1])], ?_, ?_, hk1.trans (Kp.app _ H1 [.cells 3 1 (intsC [0, 1])] (by omega)), by simp; omega⟩
    · simp only [hbox, thnH_some, f0, thn_some, l0, binK_eql, hb, condK_bool, Bool.false_eq_true, if_false, row_two]
    · rw [hv]
      exact .inr ⟨H1.length, 3, [0, 1], by omega, rfl, by simp, rfl⟩
def fs13f (P : Program) : List Entry := (112, false, G_answers P) :: fs13e P
theorem fs13f_ok : ∀ p ∈ fs13f Try.prog, EntryOk Try.prog p := entries_cons (entry_obj C_answers) <| fs13e_ok
def T13y (P : Program) (Y : Nat → List D → Heap → Option (D × Heap)) : Tab := ⟨fs13f P, Y⟩
theorem T13y_ok (Y : Nat → List D → Heap → Option (D × Heap)) (hY : YOk Try.prog Y) : TabOk Try.prog (T13y Try.prog Y) := ⟨fs13f_ok, hY⟩
end Go.Proofs.Ytalehbmgbjiigaa
end

section
namespace Go.Proofs.Ytalehbmgbjiigaa
open Go.RowKit
set_option linter.unusedVariables false
set_option maxRecDepth 100000
variable (Y : Nat → List D → Heap → Option (D × Heap))

def kp_catalog_lists_1_1 : List Nat := []
theorem sh_catalog_lists_1_1 (n : Nat) (x0 x1 x2 x3 : D) (h : Heap) : textK Try.prog (T13y Try.prog Y) kp_catalog_lists_1_1 n Try.f109 [x0, x1, x2, x3] h =
(thn (loadH none h x2) fun y0 =>
condK y0
(thn (loadH none h x3) fun y1 =>
thnH (callClo (T13y Try.prog Y) y1 [x0, x1] h) fun y2 h3 =>
thnH (setH 1 x2 y2 h3) fun y4 h5 =>
some (.tup [], h5))
(some (.tup [], h))) := by kernel_rfl

end Go.Proofs.Ytalehbmgbjiigaa
end
