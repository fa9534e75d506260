/-
  Parts joined into one text: T13c, T13d, Sh13d, AppOne, T13e, Sh13e, T13f, Sh13f, T13g, HDenLR, Sh13h, T13h, Sh09a, C09a, T09a, Sh09b. No condition.
-/
import Derived.Test.YtinnbafplhcnpaaGreatGf
import Derived.Test.YtinnbafplhcnpaaGreatGh
import Derived.Test.YtinnbafplhcnpaaGreatGi
import Derived.Test.YtinnbafplhcnpaaGreatGj

section
namespace Go.Proofs.YtinnbafplhcnpaaGreat
open Go.RowKit
set_option linter.unusedVariables false
set_option linter.unusedSimpArgs false
set_option maxRecDepth 100000

def G_isort (P : Program) : List D → Heap → Option (D × Heap) := textG P (T13b P) kp_slices_insertionSortOrdered_int_ 1001 140
theorem G_isort_eq (ds : List D) (H : Heap) : G_isort Tryz.prog ds H = textK Tryz.prog (T13b Tryz.prog) kp_slices_insertionSortOrdered_int_ 1001 Tryz.f140 ds H := textG_eq Tryz.func140 ds H
theorem C_isort : HCallOk Tryz.prog 140 (G_isort Tryz.prog) := hcall_G T13b_ok mixed Tryz.func140 (by kernel_rfl) (by decide)

/-- One of a row is put where it belongs. -/
theorem isort_inner (id n i : Nat) (t : TypeId) (H0 : Heap) (hid : ∃ o, H0[id]? = some o) (hi : i < n) (hn : n ≤ 1000) : ∀ (j : Nat) (l : List Int) (f : Nat), j < f → j ≤ i → l.length = n → Near l i j →
    ∃ (l' : List Int) (j' : Nat), iterS (stepF Tryz.prog (T13b Tryz.prog) kp_slices_insertionSortOrdered_int_ 1001 Tryz.f140 1) f [.hs id n, iD 0, iD n, iD i, iD j] (H0.set id (.cells t 1 (intsC l))) =
      some (.exit 2, [.hs id n, iD 0, iD n, iD i, iD j'], H0.set id (.cells t 1 (intsC l'))) ∧ l'.length = n ∧ Rise l' (i + 1) ∧ ∀ x, x ∈ l' ↔ x ∈ l := by
  intro j
  induction j with
  | zero =>
    intro l f hf hji hl hN
    obtain ⟨f, rfl⟩ : ∃ x, f = x + 1 := ⟨f - 1, by omega⟩
    refine ⟨l, 0, iterS_exit ?_, hl, near_end hN (by omega) (.inl rfl), fun x => Iff.rfl⟩
    rw [st_slices_insertionSortOrdered_int__1]
    simp
  | succ j ih =>
    intro l f hf hji hl hN
    obtain ⟨f, rfl⟩ : ∃ x, f = x + 1 := ⟨f - 1, by omega⟩
    have hg : (H0.set id (.cells t 1 (intsC l)))[id]? = some (.cells t 1 (intsC l)) := own_set hid
    have i1 := idx_own id n (j + 1) (by omega)
    have i2 := idx_own id n j (by omega)
    have l1 := load_own hg (j + 1) (by omega)
    have l2 := load_own hg j (by omega)
    have e1 := intD_sub ((j + 1 : Nat) : Int) 1 (by omega) (by omega)
    have c1 : ((j + 1 : Nat) : Int) - 1 = ((j : Nat) : Int) := by omega
    rw [c1] at e1
    have hgt : (0 : Int) < ((j + 1 : Nat) : Int) := by omega
    by_cases hx : l.getD (j + 1) 0 < l.getD j 0
    · have s1 := set_own hg (j + 1) (by omega) (l.getD j 0)
      rw [List.set_set] at s1
      have hg2 : (H0.set id (.cells t 1 (intsC (l.set (j + 1) (l.getD j 0)))))[id]? = some (.cells t 1 (intsC (l.set (j + 1) (l.getD j 0)))) := own_set hid
      have s2 := set_own hg2 j (by simp; omega) (l.getD (j + 1) 0)
      rw [List.set_set] at s2
      obtain ⟨l', j', q1, q2, q3, q4⟩ := ih (swp l j) f (by omega) (by omega) (by rw [swp_len]; exact hl) (near_swp (by omega) (by omega) hN hx)
      refine ⟨l', j', ?_, q2, q3, fun x => (q4 x).trans (swp_mem l j (by omega) x)⟩
      rw [iterS_go]
      · exact q1
      · rw [st_slices_insertionSortOrdered_int__1]
        simp only [binK_gtr, hgt, decide_true, thn_some, condK_bool, if_true, i1, l1, binK_sub, e1, i2, l2, less_pure13, thnH_some, hx, s1, s2]
        rfl
    · refine ⟨l, j + 1, iterS_exit ?_, hl, near_end hN hji (.inr (by simpa using Int.not_lt.1 hx)), fun x => Iff.rfl⟩
      rw [st_slices_insertionSortOrdered_int__1]
      simp only [binK_gtr, hgt, decide_true, thn_some, condK_bool, if_true, i1, l1, binK_sub, e1, i2, l2, less_pure13, thnH_some, hx, decide_false, Bool.false_eq_true, if_false]
/-- A short row is sorted. -/
theorem isort_ok (id n : Nat) (t : TypeId) (l : List Int) (H : Heap) (hid : H[id]? = some (.cells t 1 (intsC l))) (hl : l.length = n) (h1 : 1 ≤ n) (hn : n ≤ 1000) :
    ∃ s : List Int, G_isort Tryz.prog [.hs id n, iD 0, iD n] H = some (.tup [], H.set id (.cells t 1 (intsC s))) ∧ s.length = n ∧ Rise s n ∧ ∀ x, x ∈ s ↔ x ∈ l := by
  rw [G_isort_eq, sh_slices_insertionSortOrdered_int_]
  have key : ∀ (m i : Nat) (s : List Int) (u : D) (f : Nat), i + m = n → 1 ≤ i → m < f → s.length = n → Rise s i → (∀ x, x ∈ s ↔ x ∈ l) →
      ∃ (s' : List Int) (u' : D), iterS (stepF Tryz.prog (T13b Tryz.prog) kp_slices_insertionSortOrdered_int_ 1001 Tryz.f140 0) f [.hs id n, iD 0, iD n, iD i, u] (H.set id (.cells t 1 (intsC s))) =
      some (.exit 0, [.hs id n, iD 0, iD n, iD n, u'], H.set id (.cells t 1 (intsC s'))) ∧ s'.length = n ∧ Rise s' n ∧ ∀ x, x ∈ s' ↔ x ∈ l := by
    intro m
    induction m with
    | zero =>
      intro i s u f hi h1 hf hs hR hm
      obtain ⟨f, rfl⟩ : ∃ x, f = x + 1 := ⟨f - 1, by omega⟩
      obtain rfl : i = n := by omega
      refine ⟨s, u, iterS_exit ?_, hs, hR, hm⟩
      rw [st_slices_insertionSortOrdered_int__0]
      simp
    | succ m ih =>
      intro i s u f hi h1 hf hs hR hm
      obtain ⟨f, rfl⟩ : ∃ x, f = x + 1 := ⟨f - 1, by omega⟩
      have e1 := intD_add (i : Int) 1 (by omega) (by omega)
      have c1 : ((i : Nat) : Int) + 1 = ((i + 1 : Nat) : Int) := by omega
      rw [c1] at e1
      have hlt : (i : Int) < (n : Int) := by omega
      obtain ⟨l', j', q1, q2, q3, q4⟩ := isort_inner id n i t H ⟨_, hid⟩ (by omega) hn i s 1001 (by omega) (Nat.le_refl _) hs (near_start hR)
      have q1' : loopF Tryz.prog (T13b Tryz.prog) kp_slices_insertionSortOrdered_int_ 1001 Tryz.f140 1 [.hs id n, iD 0, iD n, iD i, iD i] (H.set id (.cells t 1 (intsC s))) = _ := q1
      obtain ⟨s', u', z1, z2⟩ := ih (i + 1) l' (iD j') f (by omega) (by omega) (by omega) q2 q3 (fun x => (q4 x).trans (hm x))
      refine ⟨s', u', ?_, z2⟩
      rw [iterS_go]
      · exact z1
      · rw [st_slices_insertionSortOrdered_int__0]
        simp only [binK_lss, hlt, decide_true, thn_some, condK_bool, if_true, q1', leaveK_exit, condN_same, List.getD_cons_zero, List.getD_cons_succ, binK_int, e1]
  have e0 := intD_add (0 : Int) 1 (by omega) (by omega)
  obtain ⟨s', u', z1, z2, z3, z4⟩ := key (n - 1) 1 l .undef 1001 (by omega) (Nat.le_refl _) (by omega) hl (fun p q h1 h2 => by omega) (fun x => Iff.rfl)
  rw [set_self hid] at z1
  have z1' : loopF Tryz.prog (T13b Tryz.prog) kp_slices_insertionSortOrdered_int_ 1001 Tryz.f140 0 [.hs id n, iD 0, iD n, iD 1, .undef] H = _ := z1
  refine ⟨s', ?_, z2, z3, z4⟩
  simp only [binK_int, e0, thn_some]
  show leaveK (loopF Tryz.prog (T13b Tryz.prog) kp_slices_insertionSortOrdered_int_ 1001 Tryz.f140 0 [.hs id n, iD 0, iD n, iD 1, .undef] H) _ _ = _
  rw [z1']
  simp only [leaveK_exit, condN_same]

def G_DelF (P : Program) : List D → Heap → Option (D × Heap) := textG P (T13b P) kp_slices_DeleteFunc___int_int_ 1001 118
theorem G_DelF_eq (ds : List D) (H : Heap) : G_DelF Tryz.prog ds H = textK Tryz.prog (T13b Tryz.prog) kp_slices_DeleteFunc___int_int_ 1001 Tryz.f118 ds H := textG_eq Tryz.func118 ds H
theorem C_DelF : HCallOk Tryz.prog 118 (G_DelF Tryz.prog) := hcall_G T13b_ok mixed Tryz.func118 (by kernel_rfl) (by decide)
theorem onceC_b (x : Int) (b : Nat) (H : Heap) : callClo (T13b Tryz.prog) (onceCl b) [iD x] H = G_onceC Tryz.prog [iD x, .hp b 0] H := rfl
theorem filter_take_succ (l : List Int) (k : Nat) (p : Int → Bool) (h : k < l.length) : (l.take (k + 1)).filter p = if p (l.getD k 0) = true then (l.take k).filter p ++ [l.getD k 0] else (l.take k).filter p := by
  rw [List.take_succ_eq_append_getElem h, List.filter_append, getD_in _ _ _ h]
  by_cases hp : p l[k] = true <;> simp [hp]
/-- What is not wanted is left out. -/
theorem delF_ok (id n b : Nat) (t tb : TypeId) (c : List Int) (but : Int) (H : Heap) (hid : H[id]? = some (.cells t 1 (intsC c))) (hb : H[b]? = some (.cells tb 1 [iD but])) (hne : b ≠ id) (hn : n ≤ c.length) (hn1 : n ≤ 1000) :
    ∃ c' : List Int, G_DelF Tryz.prog [.hs id n, onceCl b] H = some (.hs id ((c.take n).filter fun x => decide (x ≠ but)).length, H.set id (.cells t 1 (intsC c'))) ∧ c'.take ((c.take n).filter fun x => decide (x ≠ but)).length = (c.take n).filter fun x => decide (x ≠ but) := by
  rw [G_DelF_eq, sh_slices_DeleteFunc___int_int_]
  rcases idxF13_ok id n b t tb c but H hid hb hn hn1 with ⟨q1, q2⟩ | ⟨i, q0, q1, q2, q3⟩
  · have hf : ((c.take n).filter fun x => decide (x ≠ but)) = c.take n := by
      rw [List.filter_eq_self]
      intro x hx
      obtain ⟨p, hp, e⟩ := (mem_getD _ _).1 hx
      have hp' : p < n := by simp at hp; omega
      have := q2 p hp'
      have e2 : (c.take n).getD p 0 = c.getD p 0 := by
        rw [List.getD_eq_getElem?_getD, List.getElem?_take_of_lt hp', ← List.getD_eq_getElem?_getD]
      rw [← e, e2]; simpa using this
    refine ⟨c, ?_, ?_⟩
    · rw [hf, set_self hid, q1]
      have hl : (c.take n).length = n := by simp; omega
      simp only [thnH_some, binK_eql, thn_some, beq_self_eq_true, condK_bool, if_true, hl]
    · rw [hf]
      have hl : (c.take n).length = n := by simp; omega
      rw [hl]
  · have hstart : ((c.take (i + 1)).filter fun x => decide (x ≠ but)) = c.take i := by
      rw [filter_take_succ _ _ _ (by omega), q2]
      simp only [ne_eq, not_true_eq_false, decide_false, Bool.false_eq_true, if_false]
      rw [List.filter_eq_self]
      intro x hx
      obtain ⟨p, hp, e⟩ := (mem_getD _ _).1 hx
      have hp' : p < i := by simp at hp; omega
      have := q3 p hp'
      have e2 : (c.take i).getD p 0 = c.getD p 0 := by
        rw [List.getD_eq_getElem?_getD, List.getElem?_take_of_lt hp', ← List.getD_eq_getElem?_getD]
      rw [← e, e2]; simpa using this
    have key : ∀ (m j k : Nat) (x : List Int) (f : Nat), j + m = n → i + 1 ≤ j → m < f → k < j → x.length = c.length → x.take k = ((c.take j).filter fun x => decide (x ≠ but)) → (∀ p, j ≤ p → x.getD p 0 = c.getD p 0) →
        ∃ (k' : Nat) (x' : List Int), iterS (stepF Tryz.prog (T13b Tryz.prog) kp_slices_DeleteFunc___int_int_ 1001 Tryz.f118 0) f [.hs id n, onceCl b, iD k, iD j] (H.set id (.cells t 1 (intsC x))) =
          some (.exit 0, [.hs id n, onceCl b, iD k', iD n], H.set id (.cells t 1 (intsC x'))) ∧ k' < n ∧ x'.length = c.length ∧ x'.take k' = ((c.take n).filter fun x => decide (x ≠ but)) := by
      intro m
      induction m with
      | zero =>
        intro j k x f hj hi hf hk hx ht hp
        obtain ⟨f, rfl⟩ : ∃ z, f = z + 1 := ⟨f - 1, by omega⟩
        obtain rfl : j = n := by omega
        refine ⟨k, x, iterS_exit ?_, hk, hx, ht⟩
        rw [st_slices_DeleteFunc___int_int__0]
        simp
      | succ m ih =>
        intro j k x f hj hi hf hk hx ht hp
        obtain ⟨f, rfl⟩ : ∃ z, f = z + 1 := ⟨f - 1, by omega⟩
        have hg : (H.set id (.cells t 1 (intsC x)))[id]? = some (.cells t 1 (intsC x)) := own_set ⟨_, hid⟩
        have hgb : (H.set id (.cells t 1 (intsC x)))[b]? = some (.cells tb 1 [iD but]) := by rw [List.getElem?_set_ne (Ne.symm hne)]; exact hb
        have i1 := idx_own id n j (by omega)
        have i2 := idx_own id n k (by omega)
        have l1 := load_own hg j (by omega)
        rw [hp j (Nat.le_refl _)] at l1
        have o1 := onceC_ok (c.getD j 0) but b tb _ hgb
        have e1 := intD_add (j : Int) 1 (by omega) (by omega)
        have e2 := intD_add (k : Int) 1 (by omega) (by omega)
        have c1 : ((j : Nat) : Int) + 1 = ((j + 1 : Nat) : Int) := by omega
        have c2 : ((k : Nat) : Int) + 1 = ((k + 1 : Nat) : Int) := by omega
        rw [c1] at e1
        rw [c2] at e2
        have hlt : (j : Int) < (n : Int) := by omega
        have hft := filter_take_succ c j (fun x => decide (x ≠ but)) (by omega)
        by_cases hy : c.getD j 0 = but
        · have hd : decide (c.getD j 0 = but) = true := decide_eq_true hy
          have hd2 : ¬ (decide (c.getD j 0 ≠ but) = true) := fun h => (of_decide_eq_true h) hy
          rw [if_neg hd2] at hft
          obtain ⟨k', x', z1, z2⟩ := ih (j + 1) k x f (by omega) (by omega) (by omega) (by omega) hx (by rw [hft]; exact ht) (fun p h => hp p (by omega))
          refine ⟨k', x', ?_, z2⟩
          rw [iterS_go]
          · exact z1
          · rw [st_slices_DeleteFunc___int_int__0]
            simp only [lenH_hs, thn_some, binK_lss, hlt, decide_true, condK_bool, if_true, i1, l1, onceC_b, o1, thnH_some, notD_bool, hd, Bool.not_true, Bool.false_eq_true, if_false, binK_int, e1]
        · have hd : decide (c.getD j 0 = but) = false := decide_eq_false hy
          have hd2 : decide (c.getD j 0 ≠ but) = true := decide_eq_true hy
          rw [if_pos hd2] at hft
          have st := set_own hg k (by omega) (c.getD j 0)
          rw [List.set_set] at st
          obtain ⟨k', x', z1, z2⟩ := ih (j + 1) (k + 1) (x.set k (c.getD j 0)) f (by omega) (by omega) (by omega) (by omega) (by simpa using hx) (by rw [hft, take_set_succ _ _ _ (by omega), ht]) (fun p h => by rw [getD_set_other _ _ _ _ (by omega)]; exact hp p (by omega))
          refine ⟨k', x', ?_, z2⟩
          rw [iterS_go]
          · exact z1
          · rw [st_slices_DeleteFunc___int_int__0]
            simp only [lenH_hs, thn_some, binK_lss, hlt, decide_true, condK_bool, if_true, i1, l1, onceC_b, o1, thnH_some, notD_bool, hd, Bool.not_false, i2, st, binK_int, e1, e2]
    obtain ⟨k', x', z1, z2, z3, z4⟩ := key (n - (i + 1)) (i + 1) i c 1001 (by omega) (Nat.le_refl _) (by omega) (by omega) rfl hstart.symm (fun p _ => rfl)
    rw [set_self hid] at z1
    have z1' : loopF Tryz.prog (T13b Tryz.prog) kp_slices_DeleteFunc___int_int_ 1001 Tryz.f118 0 [.hs id n, onceCl b, iD i, iD ((i + 1 : Nat) : Int)] H = _ := z1
    have e1 := intD_add (i : Int) 1 (by omega) (by omega)
    have c1 : ((i : Nat) : Int) + 1 = ((i + 1 : Nat) : Int) := by omega
    rw [c1] at e1
    have hkl : ((c.take n).filter fun x => decide (x ≠ but)).length = k' := by rw [← z4, List.length_take]; omega
    have hne1 : ((i : Int) == -1) = false := by rw [beq_eq_false_iff_ne]; omega
    have hg : (H.set id (.cells t 1 (intsC x')))[id]? = some (.cells t 1 (intsC x')) := own_set ⟨_, hid⟩
    have f3 := cut_to id n k' (by omega)
    rw [hkl]
    by_cases h0 : k' = 0
    · subst h0
      obtain ⟨z, hz⟩ := clear_own0 hg n (by omega)
      rw [List.set_set] at hz
      have f2 := cut_from0 id n
      refine ⟨z, ?_, by rw [← z4]; simp⟩
      simp only [q1, thnH_some, binK_eql, thn_some, hne1, condK_bool, Bool.false_eq_true, if_false, binK_int, e1, z1', leaveK_exit, condN_same, List.getD_cons_zero, List.getD_cons_succ, cast0, f2, hz]
      simp only [cast0] at f3
      simp only [f3, thn_some]
    · obtain ⟨z, hz⟩ := clear_own hg k' (n - k') (by omega)
      rw [List.set_set] at hz
      have f2 := cut_from id n k' (by omega) (by omega)
      refine ⟨x'.take k' ++ z, ?_, by rw [List.take_append_of_le_length (by simp; omega), List.take_take, Nat.min_self, z4]⟩
      simp only [q1, thnH_some, binK_eql, thn_some, hne1, condK_bool, Bool.false_eq_true, if_false, binK_int, e1, z1', leaveK_exit, condN_same, List.getD_cons_zero, List.getD_cons_succ, f2, hz, f3]
def fs13c (P : Program) : List Entry := (140, false, G_isort P) :: (118, false, G_DelF P) :: fs13b P
theorem fs13c_ok : ∀ p ∈ fs13c Tryz.prog, EntryOk Tryz.prog p := entries_cons (entry_obj C_isort) <| entries_cons (entry_obj C_DelF) <| fs13b_ok
def T13c (P : Program) : Tab := ⟨fs13c P, noYl⟩
theorem T13c_ok : TabOk Tryz.prog (T13c Tryz.prog) := tabOk_of fs13c_ok
end Go.Proofs.YtinnbafplhcnpaaGreat
end

section
namespace Go.Proofs.YtinnbafplhcnpaaGreat
open Go.RowKit
set_option linter.unusedVariables false
set_option linter.unusedSimpArgs false
set_option maxRecDepth 100000

def kp_pdq : List Nat := [0, 1, 2, 3, 8, 9]
def G_pdq (P : Program) : List D → Heap → Option (D × Heap) := textG P (T13c P) kp_pdq 2 131
theorem C_pdq : HCallOk Tryz.prog 131 (G_pdq Tryz.prog) := hcall_G T13c_ok mixed Tryz.func131 (by kernel_rfl) (by decide)
theorem G_pdq_eq (ds : List D) (H : Heap) : G_pdq Tryz.prog ds H = textK Tryz.prog (T13c Tryz.prog) kp_pdq 2 Tryz.f131 ds H := textG_eq Tryz.func131 ds H
theorem sh_pdq (n : Nat) (x0 x1 x2 x3 : D) (h : Heap) : textK Tryz.prog (T13c Tryz.prog) kp_pdq n Tryz.f131 [x0, x1, x2, x3] h =
(leaveK (loopF Tryz.prog (T13c Tryz.prog) kp_pdq n Tryz.f131 0 [x0, x1, x2, x3, (bD true), (bD true)] h) (fun j0 s1 h2 =>
condN j0 0
(some (.tup [], h2))
(none)) (fun s1 h2 =>
some (.tup [], h2))) := by kernel_rfl
theorem st_two (n id : Nat) (h : Heap) : stepF Tryz.prog (T13c Tryz.prog) kp_pdq n Tryz.f131 0 [.hs id 2, iD 0, iD 2, iD 2, bD true, bD true] h =
  thnH (G_isort Tryz.prog [.hs id 2, iD 0, iD 2] h) fun _ h3 => some (.ret, [.hs id 2, iD 0, iD 2, iD 2, bD true, bD true], h3) := by kernel_rfl
theorem st_five (n id : Nat) (h : Heap) : stepF Tryz.prog (T13c Tryz.prog) kp_pdq n Tryz.f131 0 [.hs id 5, iD 0, iD 5, iD 3, bD true, bD true] h =
  thnH (G_isort Tryz.prog [.hs id 5, iD 0, iD 5] h) fun _ h3 => some (.ret, [.hs id 5, iD 0, iD 5, iD 3, bD true, bD true], h3) := by kernel_rfl
theorem pdq_of {d0 d1 d2 d3 : D} {H H' : Heap} {s : List D} (h : stepF Tryz.prog (T13c Tryz.prog) kp_pdq 2 Tryz.f131 0 [d0, d1, d2, d3, bD true, bD true] H = some (.ret, s, H')) : G_pdq Tryz.prog [d0, d1, d2, d3] H = some (.tup [], H') := by
  rw [G_pdq_eq, sh_pdq]
  have q : loopF Tryz.prog (T13c Tryz.prog) kp_pdq 2 Tryz.f131 0 [d0, d1, d2, d3, bD true, bD true] H = some (.ret, s, H') := iterS_ret h
  rw [q, leaveK_ret]
def fs13d0 (P : Program) : List Entry := (131, false, G_pdq P) :: fs13c P
theorem fs13d0_ok : ∀ p ∈ fs13d0 Tryz.prog, EntryOk Tryz.prog p := entries_cons (entry_obj C_pdq) <| fs13c_ok
def T13d0 (P : Program) : Tab := ⟨fs13d0 P, noYl⟩
theorem T13d0_ok : TabOk Tryz.prog (T13d0 Tryz.prog) := tabOk_of fs13d0_ok
def G_Sort (P : Program) : List D → Heap → Option (D × Heap) := textG P (T13d0 P) [] 0 116
theorem C_Sort : HCallOk Tryz.prog 116 (G_Sort Tryz.prog) := hcall_G T13d0_ok mixed Tryz.func116 (by kernel_rfl) (by decide)
theorem sort_two (id : Nat) (H : Heap) : G_Sort Tryz.prog [.hs id 2] H = thnH (G_pdq Tryz.prog [.hs id 2, iD 0, iD 2, iD 2] H) fun _ h => some (.tup [], h) := by kernel_rfl
theorem sort_five (id : Nat) (H : Heap) : G_Sort Tryz.prog [.hs id 5] H = thnH (G_pdq Tryz.prog [.hs id 5, iD 0, iD 5, iD 3] H) fun _ h => some (.tup [], h) := by kernel_rfl
/-- A row of two, or of five, is sorted. -/
theorem sort_ok (id n : Nat) (hn : n = 2 ∨ n = 5) (t : TypeId) (l : List Int) (H : Heap) (hid : H[id]? = some (.cells t 1 (intsC l))) (hl : l.length = n) :
    ∃ s : List Int, G_Sort Tryz.prog [.hs id n] H = some (.tup [], H.set id (.cells t 1 (intsC s))) ∧ s.length = n ∧ Rise s n ∧ ∀ x, x ∈ s ↔ x ∈ l := by
  obtain ⟨s, q1, q2, q3, q4⟩ := isort_ok id n t l H hid hl (by omega) (by omega)
  refine ⟨s, ?_, q2, q3, q4⟩
  rcases hn with rfl | rfl
  · have q1' : G_isort Tryz.prog [.hs id 2, iD 0, iD 2] H = _ := q1
    have q2' := st_two 2 id H
    rw [q1', thnH_some] at q2'
    have := sort_two id H
    rw [this, pdq_of q2']; rfl
  · have q1' : G_isort Tryz.prog [.hs id 5, iD 0, iD 5] H = _ := q1
    have q2' := st_five 2 id H
    rw [q1', thnH_some] at q2'
    have := sort_five id H
    rw [this, pdq_of q2']; rfl
def fs13d (P : Program) : List Entry := (116, false, G_Sort P) :: fs13d0 P
theorem fs13d_ok : ∀ p ∈ fs13d Tryz.prog, EntryOk Tryz.prog p := entries_cons (entry_obj C_Sort) <| fs13d0_ok
def T13d (P : Program) : Tab := ⟨fs13d P, noYl⟩
theorem T13d_ok : TabOk Tryz.prog (T13d Tryz.prog) := tabOk_of fs13d_ok
end Go.Proofs.YtinnbafplhcnpaaGreat
end

section
namespace Go.Proofs.YtinnbafplhcnpaaGreat
open Go.RowKit
set_option linter.unusedVariables false
set_option maxRecDepth 100000

def kp_catalog_once_int_ : List Nat := []
theorem sh_catalog_once_int_ (n : Nat) (x0 x1 : D) (h : Heap) : textK Tryz.prog (T13d Tryz.prog) kp_catalog_once_int_ n Tryz.f86 [x0, x1] h =
(thnH (boxH 3 x0 h) fun y0 h1 =>
thnH ((G_Sort Tryz.prog) [x1] h1) fun y2 h3 =>
thnH ((G_Compact Tryz.prog) [x1] h3) fun y4 h5 =>
thnH ((G_DelF Tryz.prog) [y4, (.clo (.func 119) [] [y0])] h5) fun y6 h7 =>
some (y6, h7)) := by kernel_rfl

def kp_catalog_lists : List Nat := []
theorem sh_catalog_lists (n : Nat) (x0 : D) (h : Heap) : textK Tryz.prog (T13d Tryz.prog) kp_catalog_lists n Tryz.f43 [x0] h =
(thnH (boxH 23 x0 h) fun y0 h1 =>
some ((.clo (.func 83) [] [y0]), h1)) := by kernel_rfl

end Go.Proofs.YtinnbafplhcnpaaGreat
end

section
namespace Go.Proofs.YtinnbafplhcnpaaGreat
open Go.RowKit
set_option linter.unusedVariables false
set_option linter.unusedSimpArgs false

theorem app_one {t : TypeId} {sz : Nat} {H : Heap} {B : Nat} {d : D} {n : Nat} {cs new : List D} (h : Buf t sz H B d n cs) (hsz : 0 < sz) (hn : new.length = sz) (hok : new.all cellOk = true) (hb : cs.length + new.length ≤ 4000000) (hB : B ≤ H.length) :
    ∃ d' H', appendH t sz d (.hs H.length 1) (H ++ [.cells t sz new]) = some (d', H') ∧ Buf t sz H' B d' (n + 1) (cs ++ new) ∧ Kp B H H' ∧ H.length ≤ H'.length ∧ (∀ k, k < H.length → (∀ q, d ≠ .hs k q) → H'[k]? = H[k]?) ∧ (∀ k q, k < H.length → d ≠ .hs k q → (∀ q, d ≠ .hs k q) → d' ≠ .hs k q) := by
  obtain ⟨d', H', h1, h2, h3, h4, h5⟩ := app_buf (m := 1) (h.app [.cells t sz new]) hsz (by rw [hn]; omega) hok hb (by simp; omega)
  refine ⟨d', H', ?_, h2, (Kp.app B H _ hB).trans h3, ?_, fun k hk hd => ?_, fun k q hk _ hd => ?_⟩
  · unfold appendH
    have : srcH sz (H ++ [.cells t sz new]) (.hs H.length 1) = some new := by
      simp only [srcH, List.getElem?_concat_length]
      rw [if_pos ⟨trivial, by omega⟩, List.take_of_length_le (by omega)]
    rw [this]
    exact h1
  · have := h3.1; simp at this; omega
  · rw [h4 k (by simp; omega) hd, List.getElem?_append_left hk]
  · rcases h5 with rfl | ⟨q', rfl⟩
    · exact hd q
    · intro e
      cases e
      simp at hk
      omega
theorem row_int (t : TypeId) (x : Int) (H : Heap) : rowH t 1 1 [iD 0] [(0, iD x)] H = some (.hs H.length 1, H ++ [.cells t 1 [iD x]]) := rfl
/-- Numbers, by value or in a row of the call's own that lies at B or behind. -/
def Numb (B : Nat) (H : Heap) (d : D) (ns : List Int) : Prop :=
  d = intsD ns ∨ ∃ (id : Nat) (t : TypeId) (c : List Int), B ≤ id ∧ d = .hs id ns.length ∧ H[id]? = some (.cells t 1 (intsC c)) ∧ c.take ns.length = ns
theorem Numb.len {B : Nat} {H : Heap} {d : D} {ns : List Int} (h : Numb B H d ns) : lenH .sl d = some (iD ns.length) := by
  rcases h with rfl | ⟨id, t, c, h1, rfl, h2, h3⟩
  · exact lenH_ints ns
  · rfl
theorem Numb.get {B : Nat} {H : Heap} {d : D} {ns : List Int} (h : Numb B H d ns) (i : Nat) (hi : i < ns.length) : ∃ p, idxH 1 d (iD i) = some p ∧ loadH none H p = some (iD (ns.getD i 0)) := by
  rcases h with rfl | ⟨id, t, c, h1, rfl, h2, h3⟩
  · refine ⟨_, idx_intsN ns i hi, ?_⟩
    rw [getD_in _ _ _ hi]; rfl
  · have hc : ns.length ≤ c.length := by
      have := congrArg List.length h3
      simp at this; omega
    refine ⟨_, idx_own id _ i hi, ?_⟩
    rw [load_own h2 i (by omega)]
    have : ns.getD i 0 = (c.take ns.length).getD i 0 := by rw [h3]
    rw [this, List.getD_eq_getElem?_getD, List.getD_eq_getElem?_getD, List.getElem?_take_of_lt hi]
theorem Numb.keep {B : Nat} {H H' : Heap} {d : D} {ns : List Int} (h : Numb B H d ns) (k : ∀ r, B ≤ r → r < H.length → H'[r]? = H[r]?) : Numb B H' d ns := by
  rcases h with h | ⟨id, t, c, h1, h2, h3, h4⟩
  · exact .inl h
  · exact .inr ⟨id, t, c, h1, h2, (k id h1 (List.getElem?_eq_some_iff.1 h3).1).trans h3, h4⟩
theorem Numb.mono {B C : Nat} {H : Heap} {d : D} {ns : List Int} (h : Numb B H d ns) (hc : C ≤ B) : Numb C H d ns := by
  rcases h with h | ⟨id, t, c, h1, h2⟩
  · exact .inl h
  · exact .inr ⟨id, t, c, by omega, h2⟩
theorem Numb.keep2 {B : Nat} {H H' : Heap} {d : D} {ns : List Int} (h : Numb B H d ns) (k : ∀ r m, d = .hs r m → B ≤ r → r < H.length → H'[r]? = H[r]?) : Numb B H' d ns := by
  rcases h with h | ⟨id, t, c, h1, h2, h3, h4⟩
  · exact .inl h
  · exact .inr ⟨id, t, c, h1, h2, (k id _ h2 h1 (List.getElem?_eq_some_iff.1 h3).1).trans h3, h4⟩
theorem Numb.lt {B : Nat} {H : Heap} {k m : Nat} {ns : List Int} (h : Numb B H (.hs k m) ns) : B ≤ k ∧ k < H.length := by
  rcases h with h | ⟨id, t, c, h1, h2, h3, h4⟩
  · cases h
  · cases h2
    exact ⟨h1, (List.getElem?_eq_some_iff.1 h3).1⟩
theorem map_take_succ (ns : List Int) (i : Nat) (hi : i < ns.length) (op : Int) : (ns.take (i + 1)).map (fun n => (op, n)) = (ns.take i).map (fun n => (op, n)) ++ [(op, ns.getD i 0)] := by
  rw [List.take_succ_eq_append_getElem hi, List.map_append, getD_in _ _ _ hi]; rfl
end Go.Proofs.YtinnbafplhcnpaaGreat
end

section
namespace Go.Proofs.YtinnbafplhcnpaaGreat
open Go.RowKit
set_option linter.unusedVariables false
set_option linter.unusedSimpArgs false
set_option maxRecDepth 100000

def rowP (lo : Int) (j : Nat) (but : Int) : List Int := ((List.range j).map fun i : Nat => lo + (i : Int)).filter fun n => decide (n ≠ but)
theorem rowP_succ (lo : Int) (j : Nat) (but : Int) : rowP lo (j + 1) but = if lo + (j : Int) = but then rowP lo j but else rowP lo j but ++ [lo + (j : Int)] := by
  unfold rowP
  rw [List.range_succ, List.map_append, List.filter_append]
  by_cases h : lo + (j : Int) = but <;> simp [h]
theorem rowP_len (lo : Int) (j : Nat) (but : Int) : (rowP lo j but).length ≤ j := by
  unfold rowP
  refine Nat.le_trans (List.length_filter_le _ _) ?_
  simp
def F_row : List D → Option D := F3 intT intT intT fun lo hi but => if 0 ≤ lo ∧ hi ≤ 100 then some (intsD (rowV lo hi but)) else none
theorem C_row : CallOk Tryz.prog 85 F_row := call3 (kp := kp_catalog_row) T12f_ok mixed Tryz.func85 (by kernel_rfl) (by decide) fun lo hi but d h => by
  split at h
  case isFalse => cases h
  rename_i hb
  cases h
  have key := loopF_invS (P := Tryz.prog) (T := T12f Tryz.prog) (kp := kp_catalog_row) (fn := Tryz.f85) (li := 0)
    (fun j s H => ∃ d, s = [iD hi, iD but, d, iD (lo + (j : Int))] ∧ Buf 3 1 H 0 d (rowP lo j but).length (intsC (rowP lo j but)))
    (fun r => ∃ s H d, r = (.exit 0, s, H) ∧ s.getD 2 .undef = d ∧ Buf 3 1 H 0 d (rowV lo hi but).length (intsC (rowV lo hi but))) (hi - lo + 1).toNat 102
    (fun j s H hj hI => by
      obtain ⟨d, rfl, hd⟩ := hI
      have hle : lo + (j : Int) ≤ hi := by omega
      have e1 := intD_add (lo + (j : Int)) 1 (by omega) (by omega)
      have c1 : lo + (j : Int) + 1 = lo + ((j + 1 : Nat) : Int) := by omega
      rw [c1] at e1
      have hl := rowP_len lo j but
      rw [st_catalog_row_0]
      by_cases hx : lo + (j : Int) = but
      · refine ⟨[iD hi, iD but, d, iD (lo + ((j + 1 : Nat) : Int))], H, ?_, d, rfl, ?_⟩
        · have hb2 : (lo + (j : Int) != but) = false := by rw [hx]; exact bne_self_eq_false _
          simp only [binK_leq, hle, decide_true, thn_some, condK_bool, if_true, binK_neq, hb2, Bool.false_eq_true, if_false, binK_int, e1]
        · rw [rowP_succ, if_pos hx]; exact hd
      · obtain ⟨d', H', a1, a2, a3⟩ := app_one (new := [iD (lo + (j : Int))]) hd (by omega) rfl rfl (by rw [intsC_len]; simp; omega) (Nat.zero_le _)
        refine ⟨[iD hi, iD but, d', iD (lo + ((j + 1 : Nat) : Int))], H', ?_, d', rfl, ?_⟩
        · have hb2 : (lo + (j : Int) != but) = true := bne_iff_ne.2 hx
          simp only [binK_leq, hle, decide_true, thn_some, condK_bool, if_true, binK_neq, hb2, row_int, thnH_some, a1, binK_int, e1]
        · rw [rowP_succ, if_neg hx, intsC_app, List.length_append]; exact a2)
    (fun s H hI => by
      obtain ⟨d, rfl, hd⟩ := hI
      rw [st_catalog_row_0]
      have hle : ¬ (lo + (((hi - lo + 1).toNat : Nat) : Int) ≤ hi) := by omega
      refine ⟨(.exit 0, [iD hi, iD but, d, iD (lo + (((hi - lo + 1).toNat : Nat) : Int))], H), ?_, (by intro e; cases e), _, _, d, rfl, rfl, hd⟩
      simp only [binK_leq, hle, decide_false, thn_some, condK_bool, Bool.false_eq_true, if_false])
    (by omega) (s := [iD hi, iD but, .v (.slice none 0 0), iD lo]) (H := []) ⟨_, by simp, Buf.nil _ _ _ _⟩
  obtain ⟨r, k1, s, H, d, rfl, k2, k3⟩ := key
  obtain ⟨d', q1, q2⟩ := k3.ints 8
  refine ⟨102, d', ?_, imp_ints q2⟩
  show outD (textK _ _ _ _ _ [iD lo, iD hi, iD but] []) = _
  rw [sh_catalog_row, k1]
  simp only [leaveK_exit, condN_same, k2]
  exact q1
theorem row_pure (lo hi but : Int) (h : 0 ≤ lo ∧ hi ≤ 100) (H : Heap) : liftF F_row [iD lo, iD hi, iD but] H = some (intsD (rowV lo hi but), H) := by
  rw [liftF_pure _ _ _ rfl]
  have : F_row [iD lo, iD hi, iD but] = _ := f3_enc (A := intT) (B := intT) (C := intT) _ lo hi but
  rw [this, if_pos h]; rfl

def G_once (P : Program) : List D → Heap → Option (D × Heap) := textG P (T13d P) kp_catalog_once_int_ 0 86
theorem G_once_eq (ds : List D) (H : Heap) : G_once Tryz.prog ds H = textK Tryz.prog (T13d Tryz.prog) kp_catalog_once_int_ 0 Tryz.f86 ds H := textG_eq Tryz.func86 ds H
theorem C_once : HCallOk Tryz.prog 86 (G_once Tryz.prog) := hcall_G T13d_ok mixed Tryz.func86 (by kernel_rfl) (by decide)
/-- Numbers, each once, but for one. -/
theorem once_ok (id n : Nat) (hn : n = 2 ∨ n = 5) (but : Int) (t : TypeId) (l : List Int) (H : Heap) (hid : H[id]? = some (.cells t 1 (intsC l))) (hl : l.length = n) :
    ∃ H', G_once Tryz.prog [iD but, .hs id n] H = some (.hs id (onceV but l).length, H') ∧ H'.length = H.length + 1 ∧ (∃ c : List Int, H'[id]? = some (.cells t 1 (intsC c)) ∧ c.take (onceV but l).length = onceV but l) ∧ ∀ k, k < H.length → k ≠ id → H'[k]? = H[k]? := by
  have hlt : id < H.length := (List.getElem?_eq_some_iff.1 hid).1
  have hid1 : (H ++ [HO.cells 3 1 [iD but]])[id]? = some (.cells t 1 (intsC l)) := by rw [List.getElem?_append_left hlt]; exact hid
  have hb1 : (H ++ [HO.cells 3 1 [iD but]])[H.length]? = some (.cells 3 1 [iD but]) := by simp
  have hlen1 : (H ++ [HO.cells 3 1 [iD but]]).length = H.length + 1 := by simp
  have hk1 : ∀ k, k < H.length → (H ++ [HO.cells 3 1 [iD but]])[k]? = H[k]? := fun k hk => List.getElem?_append_left hk
  have hbox : boxH 3 (iD but) H = some (.hp H.length 0, H ++ [HO.cells 3 1 [iD but]]) := rfl
  generalize H ++ [HO.cells 3 1 [iD but]] = H1 at *
  obtain ⟨s, p1, p2, p3, p4⟩ := sort_ok id n hn t l H1 hid1 hl
  have hid2 : (H1.set id (.cells t 1 (intsC s)))[id]? = some (.cells t 1 (intsC s)) := own_set ⟨_, hid1⟩
  obtain ⟨c, q1, q2⟩ := compact_ok id n t s _ hid2 p2 (by omega) (by omega)
  rw [List.set_set] at q1
  have hded : dedV s n = sortV l := by
    have := dedV_sort l s (by rw [p2]; exact p3) p4
    rwa [p2] at this
  rw [hded] at q1 q2
  have hkc : (sortV l).length ≤ c.length := by
    have := congrArg List.length q2
    simp at this; omega
  have hkn : (sortV l).length ≤ n := by rw [← hded]; exact dedV_len s n (by omega)
  have hid3 : (H1.set id (.cells t 1 (intsC c)))[id]? = some (.cells t 1 (intsC c)) := own_set ⟨_, hid1⟩
  have hb3 : (H1.set id (.cells t 1 (intsC c)))[H.length]? = some (.cells 3 1 [iD but]) := by rw [List.getElem?_set_ne (by omega)]; exact hb1
  obtain ⟨c', r1, r2⟩ := delF_ok id (sortV l).length H.length t 3 c but _ hid3 hb3 (by omega) hkc (by omega)
  rw [List.set_set, q2] at r1
  rw [q2] at r2
  refine ⟨H1.set id (.cells t 1 (intsC c')), ?_, by simpa using hlen1, ⟨c', own_set ⟨_, hid1⟩, r2⟩, fun k hk hne => by rw [List.getElem?_set_ne (by omega)]; exact hk1 k hk⟩
  rw [G_once_eq, sh_catalog_once_int_]
  have r1' : G_DelF Tryz.prog [.hs id (sortV l).length, .clo (.func 119) [] [.hp H.length 0]] (H1.set id (.cells t 1 (intsC c))) = _ := r1
  simp only [hbox, thnH_some, p1, q1, r1']
  rfl
def G_lists (P : Program) : List D → Heap → Option (D × Heap) := textG P (T13d P) kp_catalog_lists 0 43
theorem G_lists_eq (ds : List D) (H : Heap) : G_lists Tryz.prog ds H = textK Tryz.prog (T13d Tryz.prog) kp_catalog_lists 0 Tryz.f43 ds H := textG_eq Tryz.func43 ds H
theorem C_lists : HCallOk Tryz.prog 43 (G_lists Tryz.prog) := hcall_G T13d_ok mixed Tryz.func43 (by kernel_rfl) (by decide)
def fs13e (P : Program) : List Entry := (85, true, liftF F_row) :: (86, false, G_once P) :: (43, false, G_lists P) :: fs13d P
theorem fs13e_ok : ∀ p ∈ fs13e Tryz.prog, EntryOk Tryz.prog p := entries_cons (entry_lift C_row) <| entries_cons (entry_obj C_once) <| entries_cons (entry_obj C_lists) <| fs13d_ok
def T13e (P : Program) : Tab := ⟨fs13e P, noYl⟩
theorem T13e_ok : TabOk Tryz.prog (T13e Tryz.prog) := tabOk_of fs13e_ok
end Go.Proofs.YtinnbafplhcnpaaGreat
end

section
namespace Go.Proofs.YtinnbafplhcnpaaGreat
open Go.RowKit
set_option linter.unusedVariables false
set_option maxRecDepth 100000

def kp_catalog_answers : List Nat := []
theorem sh_catalog_answers (n : Nat) (x0 : D) (h : Heap) : textK Tryz.prog (T13e Tryz.prog) kp_catalog_answers n Tryz.f87 [x0] h =
(thnH (boxH 54 x0 h) fun y0 h1 =>
thn (fieldAtH 0 y0) fun y2 =>
thn (loadH none h1 y2) fun y3 =>
thn (binK .int .eql y3 (iD 1)) fun y4 =>
condK y4
(thn (fieldAtH 1 y0) fun y5 =>
thn (loadH none h1 y5) fun y6 =>
thnH (rowH 3 1 2 [(iD 0)] [(0, (iD 0)), (1, (iD 1))] h1) fun y7 h8 =>
thnH ((G_once Tryz.prog) [y6, y7] h8) fun y9 h10 =>
some (y9, h10))
(thnH (rowH 3 1 2 [(iD 0)] [(0, (iD 0)), (1, (iD 1))] h1) fun y11 h12 =>
some (y11, h12))) := by kernel_rfl

end Go.Proofs.YtinnbafplhcnpaaGreat
end

section
namespace Go.Proofs.YtinnbafplhcnpaaGreat
open Go.RowKit
set_option linter.unusedVariables false
set_option linter.unusedSimpArgs false
set_option maxRecDepth 100000

def G_answers (P : Program) : List D → Heap → Option (D × Heap) := textG P (T13e P) kp_catalog_answers 0 87
theorem G_answers_eq (ds : List D) (H : Heap) : G_answers Tryz.prog ds H = textK Tryz.prog (T13e Tryz.prog) kp_catalog_answers 0 Tryz.f87 ds H := textG_eq Tryz.func87 ds H
theorem C_answers : HCallOk Tryz.prog 87 (G_answers Tryz.prog) := hcall_G T13e_ok mixed Tryz.func87 (by kernel_rfl) (by decide)
theorem row_two (t : TypeId) (a b : Int) (H : Heap) : rowH t 1 2 [iD 0] [(0, iD a), (1, iD b)] H = some (.hs H.length 2, H ++ [.cells t 1 (intsC [a, b])]) := rfl
theorem row_five (t : TypeId) (a b c d e : Int) (H : Heap) : rowH t 1 5 [iD 0] [(0, iD a), (1, iD b), (2, iD c), (3, iD d), (4, iD e)] H = some (.hs H.length 5, H ++ [.cells t 1 (intsC [a, b, c, d, e])]) := rfl
/-- What is left of a new row of numbers. -/
theorem once_new (n : Nat) (hn : n = 2 ∨ n = 5) (but : Int) (t : TypeId) (l : List Int) (H : Heap) (hl : l.length = n) :
    ∃ H', G_once Tryz.prog [iD but, .hs H.length n] (H ++ [.cells t 1 (intsC l)]) = some (.hs H.length (onceV but l).length, H') ∧ Numb H.length H' (.hs H.length (onceV but l).length) (onceV but l) ∧ Kp H.length H H' ∧ H.length < H'.length := by
  obtain ⟨H', q1, q2, ⟨c, q3, q4⟩, q5⟩ := once_ok H.length n hn but t l (H ++ [.cells t 1 (intsC l)]) (by simp) hl
  simp only [List.length_append, List.length_singleton] at q2
  refine ⟨H', q1, .inr ⟨H.length, t, c, Nat.le_refl _, rfl, q3, q4⟩, ⟨by omega, fun k hk => ?_⟩, by omega⟩
  rw [q5 k (by simp; omega) (by omega), List.getElem?_append_left hk]
theorem answers_ok (y : Nd) (H : Heap) : ∃ d H', G_answers Tryz.prog [.agg (nodeD y)] H = some (d, H') ∧ Numb H.length H' d (answersV y) ∧ Kp H.length H H' ∧ H.length ≤ H'.length := by
  rw [G_answers_eq, sh_catalog_answers]
  have hbox : boxH 54 (.agg (nodeD y)) H = some (.hp H.length 0, H ++ [.cells 54 2 [iD y.1, iD y.2]]) := box_node _ y H
  have hk1 : Kp H.length H (H ++ [.cells 54 2 [iD y.1, iD y.2]]) := Kp.app _ _ _ (Nat.le_refl _)
  have hg : (H ++ [HO.cells 54 2 [iD y.1, iD y.2]])[H.length]? = some (.cells 54 2 [iD y.1, iD y.2]) := by simp
  have hl1 : (H ++ [HO.cells 54 2 [iD y.1, iD y.2]]).length = H.length + 1 := by simp
  generalize H ++ [HO.cells 54 2 [iD y.1, iD y.2]] = H1 at *
  have l0 : loadH none H1 (.hp H.length 0) = some (iD y.1) := load_cell0 _ _ _ _ _ _ hg
  have l1 : loadH none H1 (.hp H.length 1) = some (iD y.2) := load_cellN _ _ _ _ _ _ _ hg rfl
  have f0 : fieldAtH 0 (.hp H.length 0) = some (.hp H.length 0) := rfl
  have f1 : fieldAtH 1 (.hp H.length 0) = some (.hp H.length 1) := rfl
  by_cases h : y.1 = 1
  · obtain ⟨H', q1, q2, q3, q4⟩ := once_new 2 (.inl rfl) y.2 3 [0, 1] H1 rfl
    have hv : answersV y = onceV y.2 [0, 1] := by unfold answersV; rw [if_pos h]
    have hb : (y.1 == 1) = true := by rw [h]; rfl
    refine ⟨_, H', ?_, by rw [hv]; exact q2.mono (by omega), hk1.trans (q3.mono (by omega)), by omega⟩
    simp only [hbox, thnH_some, f0, f1, thn_some, l0, l1, binK_eql, hb, condK_bool, if_true, row_two, q1]
  · have hv : answersV y = [0, 1] := by unfold answersV; rw [if_neg h]
    have hb : (y.1 == 1) = false := by rw [beq_eq_false_iff_ne]; exact h
    refine ⟨.hs H1.length 2, H1 ++ [.cells 3 1 (intsC [0, 1])], ?_, ?_, hk1.trans (Kp.app _ H1 [.cells 3 1 (intsC [0, 1])] (by omega)), by simp; omega⟩
    · simp only [hbox, thnH_some, f0, thn_some, l0, binK_eql, hb, condK_bool, Bool.false_eq_true, if_false, row_two]
    · rw [hv]
      exact .inr ⟨H1.length, 3, [0, 1], by omega, rfl, by simp, rfl⟩
def fs13f (P : Program) : List Entry := (87, false, G_answers P) :: fs13e P
theorem fs13f_ok : ∀ p ∈ fs13f Tryz.prog, EntryOk Tryz.prog p := entries_cons (entry_obj C_answers) <| fs13e_ok
def T13y (P : Program) (Y : Nat → List D → Heap → Option (D × Heap)) : Tab := ⟨fs13f P, Y⟩
theorem T13y_ok (Y : Nat → List D → Heap → Option (D × Heap)) (hY : YOk Tryz.prog Y) : TabOk Tryz.prog (T13y Tryz.prog Y) := ⟨fs13f_ok, hY⟩
end Go.Proofs.YtinnbafplhcnpaaGreat
end

section
namespace Go.Proofs.YtinnbafplhcnpaaGreat
open Go.RowKit
set_option linter.unusedVariables false
set_option maxRecDepth 100000
variable (Y : Nat → List D → Heap → Option (D × Heap))

def kp_catalog_lists_1_1 : List Nat := []
theorem sh_catalog_lists_1_1 (n : Nat) (x0 x1 x2 x3 : D) (h : Heap) : textK Tryz.prog (T13y Tryz.prog Y) kp_catalog_lists_1_1 n Tryz.f84 [x0, x1, x2, x3] h =
(thn (loadH none h x2) fun y0 =>
condK y0
(thn (loadH none h x3) fun y1 =>
thnH (callClo (T13y Tryz.prog Y) y1 [x0, x1] h) fun y2 h3 =>
thnH (setH 1 x2 y2 h3) fun y4 h5 =>
some (.tup [], h5))
(some (.tup [], h))) := by kernel_rfl

end Go.Proofs.YtinnbafplhcnpaaGreat
end

section
namespace Go.Proofs.YtinnbafplhcnpaaGreat
open Go.RowKit
set_option linter.unusedVariables false
set_option linter.unusedSimpArgs false
set_option maxRecDepth 100000

abbrev Yl13 := Nat → List D → Heap → Option (D × Heap)
def G_lists11 (P : Program) (Y : Yl13) : List D → Heap → Option (D × Heap) := textG P (T13y P Y) kp_catalog_lists_1_1 0 84
theorem G_lists11_eq (Y : Yl13) (ds : List D) (H : Heap) : G_lists11 Tryz.prog Y ds H = textK Tryz.prog (T13y Tryz.prog Y) kp_catalog_lists_1_1 0 Tryz.f84 ds H := textG_eq Tryz.func84 ds H
theorem C_lists11 (Y : Yl13) (hY : YOk Tryz.prog Y) : HCallOk Tryz.prog 84 (G_lists11 Tryz.prog Y) := hcall_G (T13y_ok Y hY) mixed Tryz.func84 (by kernel_rfl) (by decide)
def T13z (P : Program) (Y : Yl13) : Tab := ⟨(84, false, G_lists11 P Y) :: fs13f P, Y⟩
theorem T13z_ok (Y : Yl13) (hY : YOk Tryz.prog Y) : TabOk Tryz.prog (T13z Tryz.prog Y) := ⟨entries_cons (entry_obj (C_lists11 Y hY)) fs13f_ok, hY⟩
/-- Something is told. -/
def tellT (P : Program) (Y : Yl13) (y9 y0 op n : D) (h : Heap) : Option (D × Heap) := callClo (T13z P Y) (.clo (.func 84) [] [y9, y0]) [op, n] h
/-- What is told last. -/
def lists3 (P : Program) (Y : Yl13) (x1 y0 y5 y9 : D) (h : Heap) : Option (D × Heap) :=
  thn (fieldAtH 0 y5) fun a =>
  thn (loadH none h a) fun t =>
  thn (binK .int .eql t (iD 23)) fun c =>
  condK c
  (thnH (rowH 3 1 1 [(iD 0)] [(0, (iD 0))] h) fun r h1 =>
  thnH (tellT P Y y9 y0 (iD 6) r h1) fun _ h2 =>
  some (.tup [], h2))
  (thn (binK .int .eql t (iD 24)) fun c2 =>
  condK c2
  (thnH (rowH 3 1 1 [(iD 0)] [(0, (iD 0))] h) fun r h1 =>
  thnH (tellT P Y y9 y0 (iD 6) r h1) fun _ h2 =>
  some (.tup [], h2))
  (thn (binK .int .eql t (iD 25)) fun c3 =>
  condK c3
  (thn (loadH none h x1) fun y =>
  thn (idxH 2 y (iD 1)) fun e =>
  thn (loadH (some 2) h e) fun k =>
  thnH (G_answers P [k] h) fun n h1 =>
  thnH (tellT P Y y9 y0 (iD 7) n h1) fun _ h2 =>
  some (.tup [], h2))
  (some (.tup [], h))))
def tell5 (P : Program) (Y : Yl13) (x1 y0 y5 y9 : D) (h : Heap) : Option (D × Heap) :=
  thnH (rowH 3 1 1 [(iD 0)] [(0, (iD 0))] h) fun r h1 =>
  thnH (tellT P Y y9 y0 (iD 5) r h1) fun _ h2 =>
  lists3 P Y x1 y0 y5 y9 h2
def lists2 (P : Program) (Y : Yl13) (x1 y0 y5 y9 : D) (h : Heap) : Option (D × Heap) :=
  thn (fieldAtH 0 y5) fun a =>
  thn (loadH none h a) fun t =>
  thn (binK .int .eql t (iD 21)) fun c =>
  condK c
  (tell5 P Y x1 y0 y5 y9 h)
  (thn (binK .int .eql t (iD 22)) fun c =>
  condK c
  (tell5 P Y x1 y0 y5 y9 h)
  (thn (binK .int .eql t (iD 23)) fun c =>
  condK c
  (tell5 P Y x1 y0 y5 y9 h)
  (thn (binK .int .eql t (iD 24)) fun c =>
  condK c
  (tell5 P Y x1 y0 y5 y9 h)
  (thn (binK .int .eql t (iD 25)) fun c =>
  condK c
  (tell5 P Y x1 y0 y5 y9 h)
  (lists3 P Y x1 y0 y5 y9 h)))))
/-- An operator of a row is told, and what comes behind. -/
def tellRow (P : Program) (Y : Yl13) (lo hi op : Int) (x1 y0 y5 y9 t : D) (h : Heap) : Option (D × Heap) :=
  thnH (liftF F_row [(iD lo), (iD hi), t] h) fun r h1 =>
  thnH (tellT P Y y9 y0 (iD op) r h1) fun _ h2 =>
  lists2 P Y x1 y0 y5 y9 h2
def listsE (P : Program) (Y : Yl13) (x1 y0 y5 y9 t : D) (h : Heap) : Option (D × Heap) :=
  thn (binK .int .eql t (iD 2)) fun c =>
  condK c
  (thn (fieldAtH 1 y5) fun a =>
  thn (loadH none h a) fun n =>
  thn (binK .int .sub (iD 1) n) fun m =>
  thnH (rowH 3 1 1 [(iD 0)] [(0, m)] h) fun r h1 =>
  thnH (tellT P Y y9 y0 (iD 4) r h1) fun _ h2 =>
  lists2 P Y x1 y0 y5 y9 h2)
  (lists2 P Y x1 y0 y5 y9 h)
def listsD (P : Program) (Y : Yl13) (x1 y0 y5 y9 t : D) (h : Heap) : Option (D × Heap) :=
  thn (binK .int .eql t (iD 1)) fun c =>
  condK c
  (thn (fieldAtH 1 y5) fun a =>
  thn (loadH none h a) fun n =>
  thn (fieldAtH 1 y5) fun a2 =>
  thn (loadH none h a2) fun n2 =>
  thn (binK .int .add n2 (iD 1)) fun u =>
  thn (fieldAtH 1 y5) fun a3 =>
  thn (loadH none h a3) fun n3 =>
  thn (binK .int .sub n3 (iD 1)) fun v =>
  thnH (rowH 3 1 5 [(iD 0)] [(0, (iD 0)), (1, (iD 1)), (2, (iD (-1))), (3, u), (4, v)] h) fun r h1 =>
  thnH ((G_once P) [n, r] h1) fun q h2 =>
  thnH (tellT P Y y9 y0 (iD 4) q h2) fun _ h3 =>
  lists2 P Y x1 y0 y5 y9 h3)
  (listsE P Y x1 y0 y5 y9 t h)
def listsC (P : Program) (Y : Yl13) (x1 y0 y5 y9 t : D) (h : Heap) : Option (D × Heap) :=
  thn (binK .int .eql t (iD 18)) fun c =>
  condK c
  (tellRow P Y 18 19 3 x1 y0 y5 y9 t h)
  (thn (binK .int .eql t (iD 19)) fun c =>
  condK c
  (tellRow P Y 18 19 3 x1 y0 y5 y9 t h)
  (listsD P Y x1 y0 y5 y9 t h))
def listsB (P : Program) (Y : Yl13) (x1 y0 y5 y9 t : D) (h : Heap) : Option (D × Heap) :=
  thn (binK .int .geq t (iD 12)) fun c =>
  condK c
  (thn (binK .int .leq t (iD 17)) fun c =>
  condK c
  (tellRow P Y 12 17 2 x1 y0 y5 y9 t h)
  (listsC P Y x1 y0 y5 y9 t h))
  (listsC P Y x1 y0 y5 y9 t h)
def listsA (P : Program) (Y : Yl13) (x1 y0 y5 y9 t : D) (h : Heap) : Option (D × Heap) :=
  thn (binK .int .geq t (iD 7)) fun c =>
  condK c
  (thn (binK .int .leq t (iD 11)) fun c =>
  condK c
  (tellRow P Y 7 11 1 x1 y0 y5 y9 t h)
  (listsB P Y x1 y0 y5 y9 t h))
  (listsB P Y x1 y0 y5 y9 t h)
variable (Y : Yl13)
theorem sh_catalog_lists_1 (n : Nat) (x0 x1 : D) (h : Heap) : textK Tryz.prog (T13z Tryz.prog Y) [] n Tryz.f83 [x0, x1] h =
(thnH (boxH 106 x0 h) fun y0 h1 =>
thn (loadH none h1 x1) fun y2 =>
thn (idxH 2 y2 (iD 0)) fun y3 =>
thn (loadH (some 2) h1 y3) fun y4 =>
thnH (allocH 54 [(iD 0), (iD 0)] h1) fun y5 h6 =>
thnH (setH 2 y5 y4 h6) fun y7 h8 =>
thnH (allocH 4 [(bD false)] h8) fun y9 h10 =>
thnH (setH 1 y9 (bD true) h10) fun y11 h12 =>
thn (fieldAtH 0 y5) fun y13 =>
thn (loadH none h12 y13) fun y14 =>
listsA Tryz.prog Y x1 y0 y5 y9 y14 h12) := by kernel_rfl
def G_lists1 (P : Program) (Y : Yl13) : List D → Heap → Option (D × Heap) := textG P (T13z P Y) [] 0 83
theorem G_lists1_eq (ds : List D) (H : Heap) : G_lists1 Tryz.prog Y ds H = textK Tryz.prog (T13z Tryz.prog Y) [] 0 Tryz.f83 ds H := textG_eq Tryz.func83 ds H
theorem C_lists1 (hY : YOk Tryz.prog Y) : HCallOk Tryz.prog 83 (G_lists1 Tryz.prog Y) := hcall_G (T13z_ok Y hY) mixed Tryz.func83 (by kernel_rfl) (by decide)
def T13h (P : Program) (Y : Yl13) : Tab := ⟨(83, false, G_lists1 P Y) :: fs13f P, Y⟩
theorem T13h_ok (Y : Yl13) (hY : YOk Tryz.prog Y) : TabOk Tryz.prog (T13h Tryz.prog Y) := ⟨entries_cons (entry_obj (C_lists1 Y hY)) fs13f_ok, hY⟩
end Go.Proofs.YtinnbafplhcnpaaGreat
end

section
namespace Go.Proofs.YtinnbafplhcnpaaGreat
open Go.RowKit
set_option linter.unusedVariables false

/-- The i-th loop within the rounds of the r-th loop over a function, over what is kept. -/
def loopR (P : Program) (T : Tab) (kp : List Nat) (n : Nat) (fn : Func) (r i : Nat) (s : List D) (H : Heap) : Option (Lv × List D × Heap) :=
  iterS (stepS P T kp n fn.ntmps ((loopsOf (rangeB fn r)).getD i .skip)) n s H
def stepR (P : Program) (T : Tab) (kp : List Nat) (n : Nat) (fn : Func) (r i : Nat) (s : List D) (H : Heap) : Option (Lv × List D × Heap) :=
  stepS P T kp n fn.ntmps ((loopsOf (rangeB fn r)).getD i .skip) s H
/-- k rounds that keep an invariant of the slots and the objects, and a last one. -/
theorem iterS_inv {step : List D → Heap → Option (Lv × List D × Heap)} (Inv : Nat → List D → Heap → Prop) (Q : Lv × List D × Heap → Prop) (k n : Nat)
    (hstep : ∀ j s H, j < k → Inv j s H → ∃ s' H', step s H = some (.normal, s', H') ∧ Inv (j + 1) s' H') (hend : ∀ s H, Inv k s H → ∃ r, step s H = some r ∧ r.1 ≠ .normal ∧ Q r) (hn : k < n) {s : List D} {H : Heap} (h : Inv 0 s H) :
    ∃ r, iterS step n s H = some r ∧ Q r := by
  have key : ∀ (m i : Nat) (s : List D) (H : Heap), i + m = k → Inv i s H → ∀ q, m < q → ∃ r, iterS step q s H = some r ∧ Q r := by
    intro m
    induction m with
    | zero =>
      intro i s H hi hI q hq
      obtain ⟨q, rfl⟩ : ∃ x, q = x + 1 := ⟨q - 1, by omega⟩
      obtain rfl : i = k := by omega
      obtain ⟨⟨lv, s', H'⟩, h1, h2, h3⟩ := hend s H hI
      refine ⟨_, ?_, h3⟩
      simp only [iterS, h1]
      cases lv with
      | normal => exact absurd rfl h2
      | _ => rfl
    | succ m ih =>
      intro i s H hi hI q hq
      obtain ⟨q, rfl⟩ : ∃ x, q = x + 1 := ⟨q - 1, by omega⟩
      obtain ⟨s', H', h1, h2⟩ := hstep i s H (by omega) hI
      rw [iterS_go h1]
      exact ih (i + 1) s' H' (by omega) h2 q (by omega)
  exact key k 0 s H (by omega) h n hn
end Go.Proofs.YtinnbafplhcnpaaGreat
end

section
namespace Go.Proofs.YtinnbafplhcnpaaGreat
open Go.RowKit
set_option linter.unusedVariables false
set_option maxRecDepth 100000
variable (Y : Nat → List D → Heap → Option (D × Heap))

def kp_catalog_Choices : List Nat := [5, 7, 21, 22, 23]
theorem sh_catalog_Choices (n : Nat) (x0 x1 : D) (h : Heap) : textK Tryz.prog (T13h Tryz.prog Y) kp_catalog_Choices n Tryz.f20 [x0, x1] h =
(thnH (allocH 28 [(.v (.slice none 0 0))] h) fun y0 h1 =>
thnH (liftN F_Part [x0, x1] h1) fun y2 h3 =>
thn (lenH .sl y2) fun y4 =>
thn (binK .int .gtr y4 (iD 0)) fun y5 =>
condK y5
(thnH ((G_lists Tryz.prog) [y2] h3) fun y6 h7 =>
leaveR3 (rangeS (T13h Tryz.prog Y) y6 [19, 20] (rangeA Tryz.f20 0) (rangeB Tryz.f20 0) 35 kp_catalog_Choices [y0, .undef, .undef, .undef, .undef] h7) (fun h9 =>
thn (loadH none h9 y0) fun y10 =>
some (y10, h9)) (fun l8 h9 =>
condN l8 0
(thn (loadH none h9 y0) fun y11 =>
some (y11, h9))
(none)) (fun h9 =>
some ((.v (.slice none 0 0)), h9)))
(thn (loadH none h3 y0) fun y12 =>
some (y12, h3))) := by kernel_rfl

theorem rd_catalog_Choices_0 (n id : Nat) (s0 s1 s2 s3 s4 : D) (a0 a1 : D) (h : Heap) : roundB Tryz.prog (T13h Tryz.prog Y) n id [19, 20] (rangeA Tryz.f20 0) (rangeB Tryz.f20 0) 35 kp_catalog_Choices [s0, s1, s2, s3, s4] [a0, a1] h =
(busyK id h fun h0 =>
thn (lenH .sl a1) fun y1 =>
leaveK (loopR Tryz.prog (T13h Tryz.prog Y) kp_catalog_Choices n Tryz.f20 0 0 [s0, a0, a1, y1, (iD 0)] h0) (fun j2 s3 h4 =>
condN j2 2
(endR id .normal h4)
(condN j2 1
(endR id .normal h4)
(endR id (.exit j2) h4))) (fun s3 h4 =>
endR id .ret h4)) := by kernel_rfl

theorem sr_catalog_Choices_0_0 (n : Nat) (s0 s1 s2 s3 s4 : D) (h : Heap) : stepR Tryz.prog (T13h Tryz.prog Y) kp_catalog_Choices n Tryz.f20 0 0 [s0, s1, s2, s3, s4] h =
(thn (binK .int .lss s4 s3) fun y0 =>
condK y0
(thn (idxH 1 s2 s4) fun y1 =>
thn (loadH none h y1) fun y2 =>
thn (loadH none h s0) fun y3 =>
thn (buildR [(0, 1), (1, 1), (2, 1)] [(.v (.slice none 0 0)), (iD 0), (iD 0)] [(1, s1), (2, y2)]) fun y4 =>
thnH (rowH 34 3 1 [(.v (.slice none 0 0)), (iD 0), (iD 0)] [(0, y4)] h) fun y5 h6 =>
thnH (appendH 34 3 y3 y5 h6) fun y7 h8 =>
thnH (setH 1 s0 y7 h8) fun y9 h10 =>
thn (binK .int .add s4 (iD 1)) fun y11 =>
some (.normal, [s0, s1, s2, s3, y11], h10))
(some ((.exit 2), [s0, s1, s2, s3, s4], h))) := by kernel_rfl

end Go.Proofs.YtinnbafplhcnpaaGreat
end

section
namespace Go.Proofs.YtinnbafplhcnpaaGreat
open Go.RowKit
set_option linter.unusedVariables false
set_option linter.unusedSimpArgs false
set_option maxRecDepth 100000

def Y13 (P : Program) : Yl13 := Yn P (T13h P) 8 1
theorem Y13_ok : YOk Tryz.prog (Y13 Tryz.prog) := Yn_ok T13h_ok mixed 8 1
def loopC (fn : Func) (st : LS) : HO := .loop st [19, 20] (rangeA fn 0) (rangeB fn 0) 35 kp_catalog_Choices [.hp 0 0, .undef, .undef, .undef, .undef]
def outC (out : List (Int × Int)) : List D := (out.map fun e => [D.v (.slice none 0 0), iD e.1, iD e.2]).flatten
theorem outC_len (out : List (Int × Int)) : (outC out).length = out.length * 3 := by
  induction out with
  | nil => rfl
  | cons x r ih => simp only [outC, List.map_cons, List.flatten_cons, List.length_append, List.length_cons] at ih ⊢; simp at ih ⊢; omega
theorem outC_app (a b : List (Int × Int)) : outC (a ++ b) = outC a ++ outC b := by simp [outC]
structure ChInv (l : List Nd) (x : Nd) (H : Heap) (out : List (Int × Int)) : Prop where
  len : 6 ≤ H.length
  box : ∃ d, H[0]? = some (.cells 28 1 [d]) ∧ Buf 34 3 H 6 d out.length (outC out)
  row : H[1]? = some (.cells 23 1 [nodesD l])
  loop : H[2]? = some (loopC Tryz.f20 .ready)
  yld : H[3]? = some (.cells 106 1 [.yld 2])
  node : H[4]? = some (.cells 54 2 [iD x.1, iD x.2])
  more : H[5]? = some (.cells 4 1 [bD true])
theorem build_del (a b : Int) : buildR [(0, 1), (1, 1), (2, 1)] [.v (.slice none 0 0), iD 0, iD 0] [(1, iD a), (2, iD b)] = some (.agg [.v (.slice none 0 0), iD a, iD b]) := rfl
theorem row_del (t : TypeId) (a b : Int) (H : Heap) : rowH t 3 1 [.v (.slice none 0 0), iD 0, iD 0] [(0, .agg [.v (.slice none 0 0), iD a, iD b])] H = some (.hs H.length 1, H ++ [.cells t 3 [.v (.slice none 0 0), iD a, iD b]]) := rfl

/-- A round: numbers of an operator are gathered. -/
theorem ch_round (l : List Nd) (x : Nd) (H : Heap) (out : List (Int × Int)) (op : Int) (dn : D) (ns : List Int) (B : Nat) (h : ChInv l x H out) (hn : Numb B H dn ns) (hns : ns.length ≤ 6) (hout : out.length ≤ 100)
    (hsep : ∀ d k q, H[0]? = some (.cells 28 1 [d]) → d = .hs k q → k < B) (hB : 6 ≤ B) :
    ∃ H', Y13 Tryz.prog 2 [iD op, dn] H = some (bD true, H') ∧ ChInv l x H' (out ++ ns.map fun n => (op, n)) := by
  obtain ⟨h0, ⟨d, h1, h2⟩, h3, h4, h5, h6, h7⟩ := h
  have hY : Y13 Tryz.prog 2 [iD op, dn] H = roundK Tryz.prog (T13h Tryz.prog noYl) 8 2 [iD op, dn] H := rfl
  have hk : roundK Tryz.prog (T13h Tryz.prog noYl) 8 2 [iD op, dn] H = roundB Tryz.prog (T13h Tryz.prog noYl) 8 2 [19, 20] (rangeA Tryz.f20 0) (rangeB Tryz.f20 0) 35 kp_catalog_Choices [.hp 0 0, .undef, .undef, .undef, .undef] [iD op, dn] H := by
    unfold roundK
    rw [h4]
    simp only [loopC]
    rw [if_pos]
    refine ⟨rfl, ?_, ?_, ?_, ?_⟩ <;> kernel_rfl
  rw [hY, hk, rd_catalog_Choices_0]
  have hb : busyK (α := D × Heap) 2 H = fun k => k (H.set 2 (loopC Tryz.f20 .busy)) := by
    funext k
    unfold busyK
    rw [h4]
    rfl
  rw [hb]
  have g : ∀ k, k ≠ 2 → (H.set 2 (loopC Tryz.f20 .busy))[k]? = H[k]? := fun k hk => List.getElem?_set_ne (Ne.symm hk)
  have g2 : (H.set 2 (loopC Tryz.f20 .busy))[2]? = some (loopC Tryz.f20 .busy) := List.getElem?_set_self (by omega)
  have gl : (H.set 2 (loopC Tryz.f20 .busy)).length = H.length := by simp
  have gb : Buf 34 3 (H.set 2 (loopC Tryz.f20 .busy)) 6 d out.length (outC out) := h2.set 2 _ (by omega)
  generalize H.set 2 (loopC Tryz.f20 .busy) = H0 at *
  have hlen := hn.len
  have key := iterS_inv (step := stepR Tryz.prog (T13h Tryz.prog noYl) kp_catalog_Choices 8 Tryz.f20 0 0)
    (fun i s Hi => s = [.hp 0 0, iD op, dn, iD ns.length, iD i] ∧ 6 ≤ Hi.length ∧ (∃ d, Hi[0]? = some (.cells 28 1 [d]) ∧ Buf 34 3 Hi 6 d (out.length + i) (outC (out ++ (ns.take i).map fun n => (op, n))) ∧ ∀ k m q, dn = .hs k m → d ≠ .hs k q) ∧ (∀ k, 1 ≤ k → k < 6 → Hi[k]? = H0[k]?) ∧ Numb B Hi dn ns)
    (fun r => ∃ s Hi, r = (.exit 2, s, Hi) ∧ 6 ≤ Hi.length ∧ (∃ d, Hi[0]? = some (.cells 28 1 [d]) ∧ Buf 34 3 Hi 6 d (out.length + ns.length) (outC (out ++ ns.map fun n => (op, n)))) ∧ (∀ k, 1 ≤ k → k < 6 → Hi[k]? = H0[k]?)) ns.length 8
    (fun i s Hi hi hI => by
      obtain ⟨rfl, k1, ⟨d, k2, k3, k4⟩, k5, k6⟩ := hI
      have hlt : (i : Int) < (ns.length : Int) := by omega
      obtain ⟨p, p1, p2⟩ := k6.get i hi
      have l0 := load_cell0 Hi 0 _ _ _ _ k2
      have e1 := intD_add (i : Int) 1 (by omega) (by omega)
      have c1 : ((i : Nat) : Int) + 1 = ((i + 1 : Nat) : Int) := by omega
      rw [c1] at e1
      have hol := outC_len (out ++ (ns.take i).map fun n => (op, n))
      obtain ⟨d', H1, a1, a2, a3, a4, a5, a6⟩ := app_one (new := [D.v (.slice none 0 0), iD op, iD (ns.getD i 0)]) k3 (by omega) rfl rfl (by rw [hol]; simp; omega) k1
      have q0 : H1[0]? = some (.cells 28 1 [d]) := by rw [a3.2 0 (by omega)]; exact k2
      have st := set_cellN H1 0 0 _ _ _ d' q0 (by simp) a2.cells a2.ok
      refine ⟨_, H1.set 0 (.cells 28 1 [d']), ?_, rfl, by simp; omega, ⟨d', List.getElem?_set_self (by omega), ?_, fun k m q e => ?_⟩, fun k hk1 hk6 => ?_, ?_⟩
      · rw [sr_catalog_Choices_0_0]
        simp only [binK_lss, hlt, decide_true, thn_some, condK_bool, if_true, p1, p2, l0, build_del, row_del, thnH_some, a1, st, binK_int, e1, List.set_cons_zero]
      · rw [map_take_succ ns i hi, ← List.append_assoc, outC_app]
        exact a2.set 0 _ (by omega)
      · have hl := (e ▸ k6).lt
        exact a6 k q hl.2 (k4 k m q e) (fun q' => k4 k m q' e)
      · rw [List.getElem?_set_ne (by omega), a3.2 k hk6, k5 k hk1 hk6]
      · exact k6.keep2 fun r m e hr1 hr2 => by
          rw [List.getElem?_set_ne (by omega)]
          exact a5 r hr2 (fun q => k4 r m q e))
    (fun s Hi hI => by
      obtain ⟨rfl, k1, ⟨d, k2, k3, k4⟩, k5, k6⟩ := hI
      rw [List.take_length] at k3
      refine ⟨(.exit 2, [.hp 0 0, iD op, dn, iD ns.length, iD ns.length], Hi), ?_, (by intro e; cases e), _, Hi, rfl, k1, ⟨d, k2, k3⟩, k5⟩
      rw [sr_catalog_Choices_0_0]
      have hlt : ¬ ((ns.length : Int) < (ns.length : Int)) := by omega
      simp only [binK_lss, hlt, decide_false, thn_some, condK_bool, Bool.false_eq_true, if_false])
    (by omega) (s := [.hp 0 0, iD op, dn, iD ns.length, iD 0]) (H := H0)
    ⟨rfl, by omega, ⟨d, by rw [g 0 (by omega)]; exact h1, by simpa using gb, fun k m q e e2 => by
      have := hsep d k q h1 e2
      have hl := (e ▸ hn).lt
      omega⟩, fun _ _ _ => rfl, hn.keep2 fun r m e hr1 hr2 => g r (by omega)⟩
  obtain ⟨r, r1, s, Hi, rfl, k1, ⟨d', k2, k3⟩, k5⟩ := key
  have r1' : loopR Tryz.prog (T13h Tryz.prog noYl) kp_catalog_Choices 8 Tryz.f20 0 0 [.hp 0 0, iD op, dn, iD ns.length, iD 0] H0 = _ := r1
  have c2 : Hi[2]? = some (loopC Tryz.f20 .busy) := by rw [k5 2 (by omega) (by omega)]; exact g2
  have q : ∀ k, k ≠ 2 → (Hi.set 2 (loopC Tryz.f20 .ready))[k]? = Hi[k]? := fun k hk => List.getElem?_set_ne (Ne.symm hk)
  refine ⟨Hi.set 2 (loopC Tryz.f20 .ready), ?_, by simpa using k1, ⟨d', by rw [q 0 (by omega)]; exact k2, ?_⟩, ?_, ?_, ?_, ?_, ?_⟩
  · simp only [hlen, thn_some, r1', leaveK_exit, condN_same]
    unfold endR
    rw [c2]
    rfl
  · rw [List.length_append, List.length_map]; exact k3.set 2 _ (by omega)
  · rw [q 1 (by omega), k5 1 (by omega) (by omega), g 1 (by omega)]; exact h3
  · exact List.getElem?_set_self (by omega)
  · rw [q 3 (by omega), k5 3 (by omega) (by omega), g 3 (by omega)]; exact h5
  · rw [q 4 (by omega), k5 4 (by omega) (by omega), g 4 (by omega)]; exact h6
  · rw [q 5 (by omega), k5 5 (by omega) (by omega), g 5 (by omega)]; exact h7
theorem ChInv.kp {l : List Nd} {x : Nd} {H H' : Heap} {out : List (Int × Int)} (h : ChInv l x H out) (k : Kp H.length H H') : ChInv l x H' out := by
  obtain ⟨h0, ⟨d, h1, h2⟩, h3, h4, h5, h6, h7⟩ := h
  refine ⟨Nat.le_trans h0 k.1, ⟨d, by rw [k.2 0 (by omega)]; exact h1, h2.keep fun r m e => k.2 r ?_⟩, by rw [k.2 1 (by omega)]; exact h3, by rw [k.2 2 (by omega)]; exact h4, by rw [k.2 3 (by omega)]; exact h5, by rw [k.2 4 (by omega)]; exact h6, by rw [k.2 5 (by omega)]; exact h7⟩
  subst e
  exact h2.lt.2
/-- Numbers of an operator are told, and gathered. -/
theorem tell_ok (l : List Nd) (x : Nd) (H H1 : Heap) (out : List (Int × Int)) (op : Int) (dn : D) (ns : List Int) (h : ChInv l x H out) (k : Kp H.length H H1) (hn : Numb H.length H1 dn ns) (hns : ns.length ≤ 6) (hout : out.length ≤ 100) :
    ∃ H', tellT Tryz.prog (Y13 Tryz.prog) (.hp 5 0) (.hp 3 0) (iD op) dn H1 = some (.tup [], H') ∧ ChInv l x H' (out ++ ns.map fun n => (op, n)) := by
  have h' := h.kp k
  obtain ⟨H', q1, q2⟩ := ch_round l x H1 out op dn ns H.length h' hn hns hout (fun d r q e1 e2 => by
    obtain ⟨d2, b1, b2⟩ := h.box
    rw [k.2 0 (by have := h.len; omega), b1] at e1
    cases e1
    subst e2
    exact b2.lt.2) h.len
  refine ⟨H', ?_, q2⟩
  have e0 : tellT Tryz.prog (Y13 Tryz.prog) (.hp 5 0) (.hp 3 0) (iD op) dn H1 = G_lists11 Tryz.prog (Y13 Tryz.prog) [iD op, dn, .hp 5 0, .hp 3 0] H1 := rfl
  have l5 := load_cell0 H1 5 _ _ _ _ h'.more
  have l3 := load_cell0 H1 3 _ _ _ _ h'.yld
  have e1 : callClo (T13y Tryz.prog (Y13 Tryz.prog)) (.yld 2) [iD op, dn] H1 = some (bD true, H') := q1
  have st := set_cellN H' 5 0 _ _ _ (bD true) q2.more (by simp) rfl rfl
  have ss : H'.set 5 (.cells 4 1 [bD true]) = H' := set_self q2.more
  rw [e0, G_lists11_eq, sh_catalog_lists_1_1]
  simp only [l5, thn_some, condK_bool, if_true, l3, e1, thnH_some, st, List.set_cons_zero, ss]
end Go.Proofs.YtinnbafplhcnpaaGreat
end

section
namespace Go.Proofs.YtinnbafplhcnpaaGreat
open Go.RowKit
set_option linter.unusedVariables false
set_option maxRecDepth 100000

def kp_kinds_Size : List Nat := []
theorem sh_kinds_Size (n : Nat) (x0 : D) (h : Heap) : textK Tryz.prog T08 kp_kinds_Size n Tryz.f81 [x0] h =
(thn (binK .int .geq x0 (iD 2)) fun y0 =>
condK y0
(thn (binK .int .leq x0 (iD 9)) fun y1 =>
condK y1
(thn (binK .int .sub x0 (iD 1)) fun y2 =>
some (y2, h))
(some ((iD 0), h)))
(some ((iD 0), h))) := by kernel_rfl

def kp_offshootref09_Size : List Nat := []
theorem sh_offshootref09_Size (n : Nat) (x0 : D) (h : Heap) : textK Tryz.prog T08 kp_offshootref09_Size n Tryz.f102 [x0] h =
(thn (binK .int .lss x0 (iD 2)) fun y0 =>
condK y0
(some ((iD 0), h))
(thn (binK .int .gtr x0 (iD 9)) fun y1 =>
condK y1
(some ((iD 0), h))
(thn (binK .int .sub x0 (iD 1)) fun y2 =>
some (y2, h)))) := by kernel_rfl

def kp_offshootref09_typed : List Nat := []
theorem sh_offshootref09_typed (n : Nat) (x0 x1 : D) (h : Heap) : textK Tryz.prog T08 kp_offshootref09_typed n Tryz.f100 [x0, x1] h =
(thnH (boxH 25 x0 h) fun y0 h1 =>
thn (binK .int .lss x1 (iD 0)) fun y2 =>
condK y2
(some ((iD (-1)), h1))
(thn (fieldAtH 1 y0) fun y3 =>
thn (loadH none h1 y3) fun y4 =>
thn (lenH .sl y4) fun y5 =>
thn (binK .int .geq x1 y5) fun y6 =>
condK y6
(some ((iD (-1)), h1))
(thn (fieldAtH 1 y0) fun y7 =>
thn (loadH none h1 y7) fun y8 =>
thn (idxH 1 y8 x1) fun y9 =>
thn (loadH none h1 y9) fun y10 =>
some (y10, h1)))) := by kernel_rfl

def kp_offshootref09_kind : List Nat := []
theorem sh_offshootref09_kind (n : Nat) (x0 x1 : D) (h : Heap) : textK Tryz.prog T08 kp_offshootref09_kind n Tryz.f101 [x0, x1] h =
(condK x0
(some (x1, h))
(some ((iD (-1)), h))) := by kernel_rfl

def kp_offshootref09_Few : List Nat := []
theorem sh_offshootref09_Few (n : Nat) (x0 : D) (h : Heap) : textK Tryz.prog T08 kp_offshootref09_Few n Tryz.f11 [x0] h =
(thnH (boxH 25 x0 h) fun y0 h1 =>
thn (fieldAtH 2 y0) fun y2 =>
thn (loadH none h1 y2) fun y3 =>
thn (lenH .sl y3) fun y4 =>
thn (binK .int .leq y4 (iD 60)) fun y5 =>
condK y5
(thn (fieldAtH 1 y0) fun y6 =>
thn (loadH none h1 y6) fun y7 =>
thn (lenH .sl y7) fun y8 =>
thn (binK .int .leq y8 (iD 20)) fun y9 =>
some (y9, h1))
(some ((bD false), h1))) := by kernel_rfl

def kp_bits_Mul64 : List Nat := []
theorem sh_bits_Mul64 (n : Nat) (x0 x1 : D) (h : Heap) : textK Tryz.prog T08 kp_bits_Mul64 n Tryz.f152 [x0, x1] h =
(thn (binK .int .and x0 (.v (.int .u64 4294967295))) fun y0 =>
thn (binK .int .shr x0 (.v (.int .u64 32))) fun y1 =>
thn (binK .int .and x1 (.v (.int .u64 4294967295))) fun y2 =>
thn (binK .int .shr x1 (.v (.int .u64 32))) fun y3 =>
thn (binK .int .mul y0 y2) fun y4 =>
thn (binK .int .mul y1 y2) fun y5 =>
thn (binK .int .shr y4 (.v (.int .u64 32))) fun y6 =>
thn (binK .int .add y5 y6) fun y7 =>
thn (binK .int .and y7 (.v (.int .u64 4294967295))) fun y8 =>
thn (binK .int .shr y7 (.v (.int .u64 32))) fun y9 =>
thn (binK .int .mul y0 y3) fun y10 =>
thn (binK .int .add y8 y10) fun y11 =>
thn (binK .int .mul y1 y3) fun y12 =>
thn (binK .int .add y12 y9) fun y13 =>
thn (binK .int .shr y11 (.v (.int .u64 32))) fun y14 =>
thn (binK .int .add y13 y14) fun y15 =>
thn (binK .int .mul x0 x1) fun y16 =>
some (.tup [y15, y16], h)) := by kernel_rfl

def kp_offshootref09_blocks : List Nat := [0, 1, 2, 3, 6, 7]
theorem sh_offshootref09_blocks (n : Nat) (x0 x1 x2 : D) (h : Heap) : textK Tryz.prog T08 kp_offshootref09_blocks n Tryz.f104 [x0, x1, x2] h =
(thnH (boxH 25 x0 h) fun y0 h1 =>
leaveK (loopF Tryz.prog T08 kp_offshootref09_blocks n Tryz.f104 0 [x0, x1, x2, y0, (bD false), x2] h1) (fun j2 s3 h4 =>
condN j2 0
(some ((bD true), h4))
(none)) (fun s3 h4 =>
some ((s3.getD 4 .undef), h4))) := by kernel_rfl

theorem st_offshootref09_blocks_0 (n : Nat) (s0 s1 s2 s3 s4 s5 : D) (h : Heap) : stepF Tryz.prog T08 kp_offshootref09_blocks n Tryz.f104 0 [s0, s1, s2, s3, s4, s5] h =
(thn (lenH .sl s1) fun y0 =>
thn (binK .int .lss s5 y0) fun y1 =>
condK y1
(thn (fieldAtH 2 s3) fun y2 =>
thn (loadH none h y2) fun y3 =>
thn (idxH 1 s1 s5) fun y4 =>
thn (loadH none h y4) fun y5 =>
thn (idxH 2 y3 y5) fun y6 =>
thn (fieldAtH 0 y6) fun y7 =>
thn (loadH none h y7) fun y8 =>
thn (binK .int .neq y8 (iD 20)) fun y9 =>
condK y9
(some (.ret, [s0, s1, s2, s3, (bD false), s5], h))
(thn (binK .int .add s5 (iD 1)) fun y10 =>
some (.normal, [s0, s1, s2, s3, s4, y10], h)))
(some ((.exit 0), [s0, s1, s2, s3, s4, s5], h))) := by kernel_rfl

end Go.Proofs.YtinnbafplhcnpaaGreat
end

section
namespace Go.Proofs.YtinnbafplhcnpaaGreat
open Go.RowKit
set_option linter.unusedVariables false
set_option linter.unusedSimpArgs false


/-- How many numbers an array has. -/
def sizeV (t : Int) : Int := if 2 ≤ t ∧ t ≤ 9 then t - 1 else 0
def F_Size : List D → Option D := F1 intT fun t => some (iD (sizeV t))
theorem C_Size : CallOk Tryz.prog 81 F_Size := call1 (kp := kp_kinds_Size) T08_ok mixed Tryz.func81 (by kernel_rfl) (by decide) fun t d h => by
  cases h
  refine ⟨0, _, ?_, Imp.refl _⟩
  show outD (textK _ _ _ _ _ [iD t] []) = _
  rw [sh_kinds_Size]
  unfold sizeV
  by_cases h1 : 2 ≤ t <;> by_cases h2 : t ≤ 9 <;> simp (disch := omega) [h1, h2, intD_sub]
theorem C_RefSize : CallOk Tryz.prog 102 F_Size := call1 (kp := kp_offshootref09_Size) T08_ok mixed Tryz.func102 (by kernel_rfl) (by decide) fun t d h => by
  cases h
  refine ⟨0, _, ?_, Imp.refl _⟩
  show outD (textK _ _ _ _ _ [iD t] []) = _
  rw [sh_offshootref09_Size]
  unfold sizeV
  by_cases h1 : t < 2
  · simp [h1, Int.not_le.2 h1]
  · by_cases h2 : 9 < t
    · simp [h1, h2, Int.not_le.2 h2]
    · simp (disch := omega) [h1, h2, intD_sub, Int.not_lt.1 h1, Int.not_lt.1 h2]

/-- A variable's type; -1: there is none. -/
def typedV (vs : List Int) (v : Int) : Int := if v < 0 then -1 else vs.getD v.toNat (-1)
def F_typed : List D → Option D := F2 progT intT fun p v => some (iD (typedV p.vars v))
theorem C_typed : CallOk Tryz.prog 100 F_typed := call2 (kp := kp_offshootref09_typed) T08_ok mixed Tryz.func100 (by kernel_rfl) (by decide) fun p v d h => by
  cases h
  refine ⟨0, _, ?_, Imp.refl _⟩
  show outD (textK _ _ _ _ _ [progD p, iD v] []) = _
  rw [sh_offshootref09_typed]
  unfold typedV
  by_cases h1 : v < 0
  · simp [h1]
  · by_cases h2 : (p.vars.length : Int) ≤ v
    · have : p.vars[v.toNat]? = none := List.getElem?_eq_none (by omega)
      simp [h1, h2, this]
    · have h3 : v.toNat < p.vars.length := by omega
      simp [h1, h2, idx_ints _ _ (Int.not_lt.1 h1) h3, h3]

def F_kind : List D → Option D := F2 boolT intT fun b k => some (iD (if b then k else -1))
theorem C_kind : CallOk Tryz.prog 101 F_kind := call2 (kp := kp_offshootref09_kind) T08_ok mixed Tryz.func101 (by kernel_rfl) (by decide) fun b k d h => by
  cases h
  refine ⟨0, _, ?_, Imp.refl _⟩
  show outD (textK _ _ _ _ _ [bD b, iD k] []) = _
  rw [sh_offshootref09_kind]
  cases b <;> simp

/-- A program's lists are no longer than any bound that matters. -/
abbrev Pg.fits (p : Pg) : Prop := p.vars.length ≤ 3000000 ∧ p.body.length ≤ 3000000
def fewV (p : Pg) : Bool := decide (p.body.length ≤ 60) && decide (p.vars.length ≤ 20)
def F_Few : List D → Option D := F1 progT fun p => some (bD (fewV p))
theorem C_Few : CallOk Tryz.prog 11 F_Few := call1 (kp := kp_offshootref09_Few) T08_ok mixed Tryz.func11 (by kernel_rfl) (by decide) fun p d h => by
  cases h
  refine ⟨0, _, ?_, Imp.refl _⟩
  show outD (textK _ _ _ _ _ [progD p] []) = _
  rw [sh_offshootref09_Few]
  unfold fewV
  by_cases h1 : (p.body.length : Int) ≤ 60
  · have h1' : p.body.length ≤ 60 := by omega
    by_cases h2 : (p.vars.length : Int) ≤ 20
    · have h2' : p.vars.length ≤ 20 := by omega
      simp [h1, h2, h1', h2']
    · have h2' : ¬ p.vars.length ≤ 20 := by omega
      simp [h1, h2, h1', h2']
  · have h1' : ¬ p.body.length ≤ 60 := by omega
    simp [h1, h1']

end Go.Proofs.YtinnbafplhcnpaaGreat
end

section
namespace Go.Proofs.YtinnbafplhcnpaaGreat
open Go.RowKit
set_option linter.unusedVariables false
set_option linter.unusedSimpArgs false

/-- The product of one and a number. -/
def F_Mul : List D → Option D
  | [.v (.int .u64 1), .v (.int .u64 k)] => if 0 ≤ k ∧ k < 4294967296 then some (.tup [.v (.int .u64 0), .v (.int .u64 k)]) else none
  | _ => none
theorem u64_wrap (k : Int) (h0 : 0 ≤ k) (h : k < 18446744073709551616) : IntKind.u64.wrap k = k := by
  unfold IntKind.wrap
  simp [IntKind.signed, IntKind.bits]
  omega
theorem and_low (k : Int) (h0 : 0 ≤ k) (h : k < 4294967296) : intD .and .u64 k 4294967295 = some (.v (.int .u64 k)) := by
  obtain ⟨m, rfl⟩ := Int.eq_ofNat_of_zero_le h0
  have hm : m < 4294967296 := by omega
  have : (BitVec.ofInt IntKind.u64.bits (m : Int) &&& BitVec.ofInt IntKind.u64.bits 4294967295).toNat = m := by
    rw [BitVec.toNat_and]
    have h1 : (BitVec.ofInt IntKind.u64.bits (m : Int)).toNat = m := by
      simp [IntKind.bits]; omega
    have h2 : (BitVec.ofInt IntKind.u64.bits 4294967295).toNat = 2 ^ 32 - 1 := by rfl
    rw [h1, h2, Nat.and_two_pow_sub_one_eq_mod]
    omega
  simp only [intD, this]
  rw [u64_wrap _ (by omega) (by omega)]
theorem shr_low (k : Int) (h0 : 0 ≤ k) (h : k < 4294967296) : binK .int .shr (.v (.int .u64 k)) (.v (.int .u64 32)) = some (.v (.int .u64 0)) := by
  have : k.fdiv 4294967296 = 0 := by
    rw [Int.fdiv_eq_ediv_of_nonneg _ (by omega)]
    exact Int.ediv_eq_zero_of_lt h0 h
  simp [binK, shiftD, IntKind.bits, this]
theorem C_Mul64 : CallOk Tryz.prog 152 F_Mul := by
  refine call_text (kp := kp_bits_Mul64) T08_ok mixed Tryz.func152 (by kernel_rfl) (by decide) fun ds d h => ⟨0, ?_⟩
  unfold F_Mul at h
  split at h
  case h_2 => cases h
  rename_i k
  split at h
  case isFalse => cases h
  rename_i hk
  cases h
  rw [sh_bits_Mul64]
  have e1 := and_low 1 (by omega) (by omega)
  have e2 := shr_low 1 (by omega) (by omega)
  have e3 := and_low k hk.1 hk.2
  have e4 := shr_low k hk.1 hk.2
  have e5 := and_low 0 (by omega) (by omega)
  have e6 := shr_low 0 (by omega) (by omega)
  have e7 : intD .mul .u64 1 k = some (.v (.int .u64 k)) := by simp only [intD, Int.one_mul]; rw [u64_wrap _ hk.1 (by omega)]
  have e8 : intD .mul .u64 0 k = some (.v (.int .u64 0)) := by simp only [intD, Int.zero_mul]; rfl
  have e9 : intD .add .u64 0 0 = some (.v (.int .u64 0)) := rfl
  have e10 : intD .mul .u64 1 0 = some (.v (.int .u64 0)) := rfl
  have e11 : intD .mul .u64 0 0 = some (.v (.int .u64 0)) := rfl
  simp [e1, e2, e3, e4, e5, e6, e7, e8, e9, e10, e11]

def blkV (l : List Nd) (ks : List Int) (from_ : Nat) : Bool := (ks.drop from_).all fun k => decide ((l.getD k.toNat (0, 0)).1 = 20)
/-- Are kids blocks, from one on? -/
def F_blocks : List D → Option D := F3 progT intsT intT fun p ks i => if 0 ≤ i ∧ ks.length ≤ 3000000 ∧ (∀ k ∈ ks, 0 ≤ k ∧ k.toNat < p.body.length) then some (bD (blkV p.body ks i.toNat)) else none
theorem C_blocks : CallOk Tryz.prog 104 F_blocks := call3 (kp := kp_offshootref09_blocks) T08_ok mixed Tryz.func104 (by kernel_rfl) (by decide) fun p ks i d h => by
  split at h
  case isFalse => cases h
  rename_i hf
  obtain ⟨h0, hl, hk⟩ := hf
  cases h
  obtain ⟨i, rfl⟩ := Int.eq_ofNat_of_zero_le h0
  refine ⟨ks.length + 1, _, ?_, Imp.refl _⟩
  show outD (textK _ _ _ _ _ [progD p, intsD ks, iD i] []) = _
  rw [sh_offshootref09_blocks]
  have key : ∀ (m j : Nat), j + m = max ks.length j → ∀ n, m < n → ∃ s lv, (lv = .exit 0 ∧ blkV p.body ks j = true ∨ lv = .ret ∧ blkV p.body ks j = false ∧ s.getD 4 .undef = bD false) ∧
      iterS (stepF Tryz.prog T08 kp_offshootref09_blocks (ks.length + 1) Tryz.f104 0) n [progD p, intsD ks, iD i, .hp 0 0, bD false, iD j] (pgH 25 p) = some (lv, s, pgH 25 p) := by
    intro m
    induction m with
    | zero =>
      intro j hj n hn
      obtain ⟨n, rfl⟩ : ∃ m, n = m + 1 := ⟨n - 1, by omega⟩
      have hjl : ks.length ≤ j := by omega
      refine ⟨_, .exit 0, .inl ⟨rfl, ?_⟩, iterS_exit (s' := [progD p, intsD ks, iD i, .hp 0 0, bD false, iD j]) ?_⟩
      · simp [blkV, List.drop_of_length_le hjl]
      · rw [st_offshootref09_blocks_0]
        have : ¬ (j : Int) < ks.length := by omega
        simp [this]
    | succ m ih =>
      intro j hj n hn
      obtain ⟨n, rfl⟩ : ∃ m, n = m + 1 := ⟨n - 1, by omega⟩
      have hjl : j < ks.length := by omega
      have h1 : (j : Int) < ks.length := by omega
      have e1 := intD_add (j : Int) 1 (by omega) (by omega)
      obtain ⟨k0, k1⟩ := hk ks[j] (List.getElem_mem hjl)
      have hblk : blkV p.body ks j = (decide ((p.body[ks[j].toNat]).1 = 20) && blkV p.body ks (j + 1)) := by
        simp only [blkV]
        rw [List.drop_eq_getElem_cons hjl, List.all_cons]
        congr 1
        simp [k1]
      by_cases he : (p.body[ks[j].toNat]).1 = 20
      · rw [iterS_go (s' := [progD p, intsD ks, iD i, .hp 0 0, bD false, iD ((j + 1 : Nat) : Int)]) (H' := pgH 25 p)]
        · obtain ⟨s, lv, q1, q2⟩ := ih (j + 1) (by omega) n (by omega)
          exact ⟨s, lv, by simpa [hblk, he] using q1, q2⟩
        · rw [st_offshootref09_blocks_0]
          simp [pgH, h1, idx_intsN _ _ hjl, idx_nodes _ _ k0 k1, he, e1]
      · refine ⟨_, .ret, .inr ⟨rfl, by simp [hblk, he], rfl⟩, iterS_ret (s' := [progD p, intsD ks, iD i, .hp 0 0, bD false, iD j]) ?_⟩
        rw [st_offshootref09_blocks_0]
        simp [pgH, h1, idx_intsN _ _ hjl, idx_nodes _ _ k0 k1, he]
  obtain ⟨s, lv, hs, hkk⟩ := key (max ks.length i - i) i (by omega) (ks.length + 1) (by omega)
  have hk' : loopF Tryz.prog T08 kp_offshootref09_blocks (ks.length + 1) Tryz.f104 0 [progD p, intsD ks, iD i, .hp 0 0, bD false, iD i] (pgH 25 p) = some (lv, s, pgH 25 p) := hkk
  simp only [box_prog, List.length_nil, List.nil_append, thnH_some]
  unfold pgH at hk'
  rw [hk']
  rcases hs with ⟨rfl, he⟩ | ⟨rfl, he, hg⟩
  · simp [he]
  · simp only [leaveK_ret, hg]
    simp [he]

/-- A rule: kids of kinds, and the own one; one that asks a variable that is no array; one that asks an array; none. -/
inductive RuleT where
  | plain (ks : List Int) (is : Int)
  | array (ks : List Int) (is : Int)
  | scalar (set : Bool)
  | none
  deriving DecidableEq, Inhabited
def RuleT.enc : RuleT → D
  | .plain ks is => .ifc 117 (.agg [intsD ks, iD is])
  | .array ks is => .ifc 121 (.agg [intsD ks, iD is])
  | .scalar b => .ifc 119 (.agg [bD b])
  | .none => .v .nilIface
def RuleT.dec : D → Option RuleT
  | .ifc t (.agg [ks, .v (.int .i64 is)]) => if t = 117 then (asInts ks).map (RuleT.plain · is) else if t = 121 then (asInts ks).map (RuleT.array · is) else Option.none
  | .ifc t (.agg [.v (.bool b)]) => if t = 119 then some (.scalar b) else Option.none
  | .v .nilIface => some .none
  | _ => Option.none
def ruleT : Dec RuleT := ⟨RuleT.enc, RuleT.dec, fun r => by cases r <;> simp [RuleT.enc, RuleT.dec], fun d r h => by
  unfold RuleT.dec at h
  split at h
  · split at h
    · rename_i he
      obtain ⟨ks, hk, rfl⟩ := Option.map_eq_some_iff.1 h
      subst he
      exact Imp.ifc (Imp.agg (.cons (imp_ints hk) (ImpL.refl _)))
    · split at h
      · rename_i he
        obtain ⟨ks, hk, rfl⟩ := Option.map_eq_some_iff.1 h
        subst he
        exact Imp.ifc (Imp.agg (.cons (imp_ints hk) (ImpL.refl _)))
      · cases h
  · split at h
    · rename_i he
      cases h
      subst he
      exact Imp.refl _
    · cases h
  · cases h; exact Imp.refl _
  · cases h⟩
def ruleKs : List Int := [1, 2, 3, 21, 4, 22, 5, 6, 18, 19, 23, 24, 25, 26, 7, 8, 9, 10, 11, 12, 13, 14, 15, 16, 17]
def ruleRs : List RuleT := [.plain [] 0, .plain [] 1, .scalar false, .scalar true, .array [0] 0, .array [0, 0] 2, .plain [0] 0, .plain [1] 1, .plain [1, 1] 1, .plain [1, 1] 1, .plain [1, 2, 2] 2, .plain [1, 2] 2, .plain [0] 2, .plain [] 2,
  .plain [0, 0] 0, .plain [0, 0] 0, .plain [0, 0] 0, .plain [0, 0] 0, .plain [0, 0] 0, .plain [0, 0] 1, .plain [0, 0] 1, .plain [0, 0] 1, .plain [0, 0] 1, .plain [0, 0] 1, .plain [0, 0] 1]
/-- The rules of all tags, as a map. -/
def rulesD : D := .mv ruleKs (ruleRs.map RuleT.enc)
def isRules : D → Option Unit
  | .mv ks vs => if ks = ruleKs ∧ vs.mapM RuleT.dec = some ruleRs then some () else Option.none
  | _ => Option.none
theorem imp_rules {d : D} (h : isRules d = some ()) : Imp d rulesD := by
  unfold isRules at h
  split at h
  · split at h
    · rename_i hc
      obtain ⟨rfl, h2⟩ := hc
      exact Imp.mv (impL_mapM ruleT _ _ h2)
    · cases h
  · cases h
def F_rules : List D → Option D := F0 (some rulesD)
theorem rules_text : (outD (textK Tryz.prog T08 [0, 1, 2, 3] 20 Tryz.f53 [] [])).bind isRules = some () := by kernel_rfl
theorem C_rules : CallOk Tryz.prog 53 F_rules := call0 (kp := [0, 1, 2, 3]) T08_ok mixed Tryz.func53 (by kernel_rfl) (by decide) fun d h => by
  cases h
  obtain ⟨d', h1, h2⟩ := Option.bind_eq_some_iff.1 rules_text
  exact ⟨20, d', h1, imp_rules h2⟩

def fs09a : List Entry := (81, true, liftF F_Size) :: (102, true, liftF F_Size) :: (100, true, liftF F_typed) :: (101, true, liftF F_kind) :: (11, true, liftF F_Few) :: (152, true, liftF F_Mul) :: (104, true, liftF F_blocks) :: (53, true, liftF F_rules) :: fs08
theorem fs09a_ok : ∀ p ∈ fs09a, EntryOk Tryz.prog p := entries_cons (entry_lift C_Size) <| entries_cons (entry_lift C_RefSize) <| entries_cons (entry_lift C_typed) <| entries_cons (entry_lift C_kind) <| entries_cons (entry_lift C_Few) <| entries_cons (entry_lift C_Mul64) <| entries_cons (entry_lift C_blocks) <| entries_cons (entry_lift C_rules) <| fs08_ok
def T09a : Tab := ⟨fs09a, noYl⟩
theorem T09a_ok : TabOk Tryz.prog T09a := tabOk_of fs09a_ok
end Go.Proofs.YtinnbafplhcnpaaGreat
end

section
namespace Go.Proofs.YtinnbafplhcnpaaGreat
open Go.RowKit
set_option linter.unusedVariables false
set_option maxRecDepth 100000

def kp_kinds_Vars : List Nat := [1, 2, 23, 24, 25]
theorem sh_kinds_Vars (n : Nat) (x0 : D) (h : Heap) : textK Tryz.prog T09a kp_kinds_Vars n Tryz.f41 [x0] h =
(thnH (boxH 25 x0 h) fun y0 h1 =>
thn (fieldAtH 0 y0) fun y2 =>
thn (loadH none h1 y2) fun y3 =>
thn (binK .int .lss y3 (iD 0)) fun y4 =>
condK y4
(some ((iD 14), h1))
(thn (fieldAtH 0 y0) fun y5 =>
thn (loadH none h1 y5) fun y6 =>
thn (fieldAtH 1 y0) fun y7 =>
thn (loadH none h1 y7) fun y8 =>
thn (lenH .sl y8) fun y9 =>
thn (binK .int .gtr y6 y9) fun y10 =>
condK y10
(some ((iD 14), h1))
(thn (fieldAtH 1 y0) fun y11 =>
thn (loadH none h1 y11) fun y12 =>
thn (lenH .sl y12) fun y13 =>
thn (binK .int .gtr y13 (iD 12)) fun y14 =>
condK y14
(some ((iD 14), h1))
(thn (fieldAtH 1 y0) fun y15 =>
thn (loadH none h1 y15) fun y16 =>
thn (lenH .sl y16) fun y17 =>
leaveK (loopF Tryz.prog T09a kp_kinds_Vars n Tryz.f41 0 [y0, (iD 0), y16, y17, (iD 0)] h1) (fun j18 s19 h20 =>
condN j18 0
(some ((iD 0), h20))
(none)) (fun s19 h20 =>
some ((s19.getD 1 .undef), h20)))))) := by kernel_rfl

theorem st_kinds_Vars_0 (n : Nat) (s0 s1 s2 s3 s4 : D) (h : Heap) : stepF Tryz.prog T09a kp_kinds_Vars n Tryz.f41 0 [s0, s1, s2, s3, s4] h =
(thn (binK .int .lss s4 s3) fun y0 =>
condK y0
(thn (idxH 1 s2 s4) fun y1 =>
thn (loadH none h y1) fun y2 =>
thn (binK .int .neq y2 (iD 0)) fun y3 =>
condK y3
(thn (fieldAtH 0 s0) fun y4 =>
thn (loadH none h y4) fun y5 =>
thn (binK .int .lss s4 y5) fun y6 =>
condK y6
(some (.ret, [s0, (iD 14), s2, s3, s4], h))
(thn (binK .int .neq y2 (iD 1)) fun y7 =>
condK y7
(thnH (liftF F_Size [y2] h) fun y8 h9 =>
thn (binK .int .eql y8 (iD 0)) fun y10 =>
condK y10
(some (.ret, [s0, (iD 14), s2, s3, s4], h9))
(thn (binK .int .add s4 (iD 1)) fun y11 =>
some (.normal, [s0, s1, s2, s3, y11], h9)))
(thn (binK .int .add s4 (iD 1)) fun y12 =>
some (.normal, [s0, s1, s2, s3, y12], h))))
(thn (binK .int .add s4 (iD 1)) fun y13 =>
some (.normal, [s0, s1, s2, s3, y13], h)))
(some ((.exit 0), [s0, s1, s2, s3, s4], h))) := by kernel_rfl

def kp_offshootref09_Vars : List Nat := [1, 2, 3]
theorem sh_offshootref09_Vars (n : Nat) (x0 : D) (h : Heap) : textK Tryz.prog T09a kp_offshootref09_Vars n Tryz.f58 [x0] h =
(thnH (boxH 25 x0 h) fun y0 h1 =>
thn (fieldAtH 0 y0) fun y2 =>
thn (loadH none h1 y2) fun y3 =>
thn (binK .int .lss y3 (iD 0)) fun y4 =>
condK y4
(some ((iD 14), h1))
(thn (fieldAtH 0 y0) fun y5 =>
thn (loadH none h1 y5) fun y6 =>
thn (fieldAtH 1 y0) fun y7 =>
thn (loadH none h1 y7) fun y8 =>
thn (lenH .sl y8) fun y9 =>
thn (binK .int .gtr y6 y9) fun y10 =>
condK y10
(some ((iD 14), h1))
(thn (fieldAtH 1 y0) fun y11 =>
thn (loadH none h1 y11) fun y12 =>
thn (lenH .sl y12) fun y13 =>
thn (binK .int .gtr y13 (iD 12)) fun y14 =>
condK y14
(some ((iD 14), h1))
(leaveK (loopF Tryz.prog T09a kp_offshootref09_Vars n Tryz.f58 0 [y0, (iD 0), (iD 0)] h1) (fun j15 s16 h17 =>
condN j15 0
(some ((iD 0), h17))
(none)) (fun s16 h17 =>
some ((s16.getD 1 .undef), h17)))))) := by kernel_rfl

theorem st_offshootref09_Vars_0 (n : Nat) (s0 s1 s2 : D) (h : Heap) : stepF Tryz.prog T09a kp_offshootref09_Vars n Tryz.f58 0 [s0, s1, s2] h =
(thn (fieldAtH 1 s0) fun y0 =>
thn (loadH none h y0) fun y1 =>
thn (lenH .sl y1) fun y2 =>
thn (binK .int .lss s2 y2) fun y3 =>
condK y3
(thn (fieldAtH 1 s0) fun y4 =>
thn (loadH none h y4) fun y5 =>
thn (idxH 1 y5 s2) fun y6 =>
thn (loadH none h y6) fun y7 =>
thn (binK .int .lss y7 (iD 0)) fun y8 =>
condK y8
(some (.ret, [s0, (iD 14), s2], h))
(thn (fieldAtH 1 s0) fun y9 =>
thn (loadH none h y9) fun y10 =>
thn (idxH 1 y10 s2) fun y11 =>
thn (loadH none h y11) fun y12 =>
thn (binK .int .gtr y12 (iD 9)) fun y13 =>
condK y13
(some (.ret, [s0, (iD 14), s2], h))
(thn (fieldAtH 0 s0) fun y14 =>
thn (loadH none h y14) fun y15 =>
thn (binK .int .lss s2 y15) fun y16 =>
condK y16
(thn (fieldAtH 1 s0) fun y17 =>
thn (loadH none h y17) fun y18 =>
thn (idxH 1 y18 s2) fun y19 =>
thn (loadH none h y19) fun y20 =>
thn (binK .int .neq y20 (iD 0)) fun y21 =>
condK y21
(some (.ret, [s0, (iD 14), s2], h))
(thn (binK .int .add s2 (iD 1)) fun y22 =>
some (.normal, [s0, s1, y22], h)))
(thn (binK .int .add s2 (iD 1)) fun y23 =>
some (.normal, [s0, s1, y23], h)))))
(some ((.exit 0), [s0, s1, s2], h))) := by kernel_rfl

def kp_bits_Mul : List Nat := []
theorem sh_bits_Mul (n : Nat) (x0 x1 : D) (h : Heap) : textK Tryz.prog T09a kp_bits_Mul n Tryz.f134 [x0, x1] h =
(thnH (liftF F_Mul [x0, x1] h) fun y0 h1 =>
thn (extractD y0 0) fun y2 =>
thn (extractD y0 1) fun y3 =>
some (.tup [y2, y3], h1)) := by kernel_rfl

def kp_kinds_plain__kind : List Nat := []
theorem sh_kinds_plain__kind (n : Nat) (x0 x1 x2 : D) (h : Heap) : textK Tryz.prog T09a kp_kinds_plain__kind n Tryz.f191 [x0, x1, x2] h =
(thnH (boxH 117 x0 h) fun y0 h1 =>
thnH (boxH 25 x1 h1) fun y2 h3 =>
thnH (boxH 54 x2 h3) fun y4 h5 =>
thn (fieldAtH 1 y0) fun y6 =>
thn (loadH none h5 y6) fun y7 =>
some (y7, h5)) := by kernel_rfl

def kp_kinds_scalar__kind : List Nat := []
theorem sh_kinds_scalar__kind (n : Nat) (x0 x1 x2 : D) (h : Heap) : textK Tryz.prog T09a kp_kinds_scalar__kind n Tryz.f192 [x0, x1, x2] h =
(thnH (boxH 119 x0 h) fun y0 h1 =>
thnH (boxH 25 x1 h1) fun y2 h3 =>
thnH (boxH 54 x2 h3) fun y4 h5 =>
thn (fieldAtH 1 y4) fun y6 =>
thn (loadH none h5 y6) fun y7 =>
thn (fieldAtH 1 y2) fun y8 =>
thn (loadH none h5 y8) fun y9 =>
thn (lenH .sl y9) fun y10 =>
thn (binK .int .geq y7 y10) fun y11 =>
condK y11
(some ((iD (-1)), h5))
(thn (fieldAtH 1 y2) fun y12 =>
thn (loadH none h5 y12) fun y13 =>
thn (fieldAtH 1 y4) fun y14 =>
thn (loadH none h5 y14) fun y15 =>
thn (idxH 1 y13 y15) fun y16 =>
thn (loadH none h5 y16) fun y17 =>
thn (binK .int .neq y17 (iD 0)) fun y18 =>
condK y18
(thn (fieldAtH 1 y2) fun y19 =>
thn (loadH none h5 y19) fun y20 =>
thn (fieldAtH 1 y4) fun y21 =>
thn (loadH none h5 y21) fun y22 =>
thn (idxH 1 y20 y22) fun y23 =>
thn (loadH none h5 y23) fun y24 =>
thn (binK .int .neq y24 (iD 1)) fun y25 =>
condK y25
(some ((iD (-1)), h5))
(thn (fieldAtH 0 y0) fun y26 =>
thn (loadH none h5 y26) fun y27 =>
condK y27
(some ((iD 2), h5))
(thn (fieldAtH 1 y2) fun y28 =>
thn (loadH none h5 y28) fun y29 =>
thn (fieldAtH 1 y4) fun y30 =>
thn (loadH none h5 y30) fun y31 =>
thn (idxH 1 y29 y31) fun y32 =>
thn (loadH none h5 y32) fun y33 =>
some (y33, h5))))
(thn (fieldAtH 0 y0) fun y34 =>
thn (loadH none h5 y34) fun y35 =>
condK y35
(some ((iD 2), h5))
(thn (fieldAtH 1 y2) fun y36 =>
thn (loadH none h5 y36) fun y37 =>
thn (fieldAtH 1 y4) fun y38 =>
thn (loadH none h5 y38) fun y39 =>
thn (idxH 1 y37 y39) fun y40 =>
thn (loadH none h5 y40) fun y41 =>
some (y41, h5))))) := by kernel_rfl

def kp_kinds_array__kind : List Nat := []
theorem sh_kinds_array__kind (n : Nat) (x0 x1 x2 : D) (h : Heap) : textK Tryz.prog T09a kp_kinds_array__kind n Tryz.f193 [x0, x1, x2] h =
(thnH (boxH 121 x0 h) fun y0 h1 =>
thnH (boxH 25 x1 h1) fun y2 h3 =>
thnH (boxH 54 x2 h3) fun y4 h5 =>
thn (fieldAtH 1 y4) fun y6 =>
thn (loadH none h5 y6) fun y7 =>
thn (fieldAtH 1 y2) fun y8 =>
thn (loadH none h5 y8) fun y9 =>
thn (lenH .sl y9) fun y10 =>
thn (binK .int .geq y7 y10) fun y11 =>
condK y11
(some ((iD (-1)), h5))
(thn (fieldAtH 1 y2) fun y12 =>
thn (loadH none h5 y12) fun y13 =>
thn (fieldAtH 1 y4) fun y14 =>
thn (loadH none h5 y14) fun y15 =>
thn (idxH 1 y13 y15) fun y16 =>
thn (loadH none h5 y16) fun y17 =>
thnH (liftF F_Size [y17] h5) fun y18 h19 =>
thn (binK .int .eql y18 (iD 0)) fun y20 =>
condK y20
(some ((iD (-1)), h19))
(thn (fieldAtH 0 y0) fun y21 =>
thn (fieldAtH 1 y21) fun y22 =>
thn (loadH none h19 y22) fun y23 =>
some (y23, h19)))) := by kernel_rfl

end Go.Proofs.YtinnbafplhcnpaaGreat
end
