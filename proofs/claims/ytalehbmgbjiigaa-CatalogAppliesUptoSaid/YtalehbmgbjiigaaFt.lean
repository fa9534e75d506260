/-
  Parts joined into one text: KindBelow, Kind20, DepRepl, ShL09, Pure9, Law09, Law09b, DeltTyped, CatLaw. No condition.
-/
import Derived.Test.YtalehbmgbjiigaaFj
import Derived.Test.YtalehbmgbjiigaaFm
import Derived.Test.YtalehbmgbjiigaaFn
import Derived.Test.YtalehbmgbjiigaaFp
import Derived.Test.YtalehbmgbjiigaaFr
import Derived.Test.YtalehbmgbjiigaaFs

section
namespace Go.Proofs.Ytalehbmgbjiigaa
open Go.RowKit
set_option linter.unusedVariables false
set_option linter.unusedSimpArgs false

/-- A rule asks for kinds and tells one. -/
def goodR : RuleT → Bool
  | .plain ks is => decide (0 ≤ is ∧ is ≤ 2) && ks.all fun k => decide (0 ≤ k)
  | .array ks is => decide (0 ≤ is ∧ is ≤ 2) && ks.all fun k => decide (0 ≤ k)
  | _ => true
theorem findR_mem : ∀ (ks : List Int) (rs : List RuleT) (k : Int) (v : RuleT), findR ks rs k = some v → v ∈ rs
  | [], rs, k, v, h => by cases rs <;> cases h
  | a :: r, [], k, v, h => by cases h
  | a :: r, b :: s, k, v, h => by
    simp only [findR] at h
    split at h
    · cases h; exact List.mem_cons_self ..
    · exact List.mem_cons_of_mem _ (findR_mem r s k v h)
theorem ruleOf_good (t : Int) : goodR (ruleOf t) = true := by
  unfold ruleOf
  cases h : findR ruleKs ruleRs t with
  | none => rfl
  | some v =>
    have hm := findR_mem _ _ _ _ h
    have : ∀ v ∈ ruleRs, goodR v = true := by decide
    exact this v hm
theorem typedV_in {vs : List Int} {n : Int} (h : 0 ≤ typedV vs n) : 0 ≤ n ∧ n.toNat < vs.length ∧ typedV vs n = vs.getD n.toNat 0 := by
  unfold typedV at h ⊢
  split at h
  · omega
  · rename_i hn
    rw [if_neg hn]
    by_cases hl : n.toNat < vs.length
    · exact ⟨by omega, hl, by rw [getD_in _ _ _ hl, getD_in _ _ _ hl]⟩
    · rw [List.getD_eq_getElem?_getD, List.getElem?_eq_none (by omega)] at h; simp at h
theorem rule_range (vs : List Int) (n : Int) (r : RuleT) (h : goodR r = true) (hn : ruleKind vs n r ≠ -1) : 0 ≤ ruleKind vs n r ∧ ruleKind vs n r ≤ 2 := by
  cases r with
  | plain ks is => simp [goodR] at h; exact h.1
  | array ks is =>
    simp [goodR] at h
    simp only [ruleKind, arrayKindV] at hn ⊢
    split
    · rename_i hz; rw [if_pos hz] at hn; omega
    · exact h.1
  | scalar b =>
    simp only [ruleKind, scalarKindV] at hn ⊢
    split
    · split <;> omega
    · rename_i hz; rw [if_neg hz] at hn; omega
  | none => simp [ruleKind]
theorem ask_pos (vs : List Int) (x : Nd) (n : Nat) (r : RuleT) (h : goodR r = true) (hn : ruleKind vs x.2 r ≠ -1) : ∀ k ∈ askV vs x n r, 0 ≤ k := by
  cases r with
  | plain ks is => simp [goodR] at h; simpa [askV] using h.2
  | array ks is => simp [goodR] at h; simpa [askV] using h.2
  | none => intro k hk; simp [askV] at hk; omega
  | scalar b =>
    cases b with
    | false => simp [askV]
    | true =>
      simp only [ruleKind, scalarKindV] at hn
      split at hn
      · rename_i hz
        obtain ⟨a, b, c⟩ := typedV_in (vs := vs) (n := x.2) (by omega)
        intro k hk
        simp only [askV] at hk
        rw [if_pos b] at hk
        simp only [List.mem_singleton] at hk
        rw [hk, ← c]; omega
      · exact absurd rfl hn
theorem step_facts (vs : List Int) (x : Nd) (kk tt : List Int) (h : stepV vs x kk tt ≠ -1) : ruleKind vs x.2 (ruleOf x.1) ≠ -1 ∧ (0 ≤ stepV vs x kk tt ∧ stepV vs x kk tt ≤ 2) ∧ ∀ k ∈ kk, 0 ≤ k := by
  unfold stepV at h ⊢
  split at h
  · exact absurd rfl h
  · rename_i h1
    rw [if_neg h1]
    split at h
    · rename_i h2
      rw [if_pos h2]
      refine ⟨h, rule_range _ _ _ (ruleOf_good _) h, fun k hk => ?_⟩
      obtain ⟨j, hj, rfl⟩ := List.getElem_of_mem hk
      simp only [List.all_eq_true, List.mem_range] at h2
      have := h2 j hj
      simp only [Bool.and_eq_true, decide_eq_true_eq] at this
      have hl : (askV vs x kk.length (ruleOf x.1)).length = kk.length := by
        rcases Nat.decEq (askV vs x kk.length (ruleOf x.1)).length kk.length with h | h
        · exact absurd (.inr h) h1
        · exact h
      have t := this.1
      rw [getD_in _ _ _ hj, getD_in _ _ _ (by omega)] at t
      rw [t]
      exact ask_pos vs x kk.length _ (ruleOf_good _) h _ (List.getElem_mem _)
    · exact absurd rfl h
theorem kv_end (vs : List Int) (l : List Nd) (i : Int) (h : kv vs l i ≠ -1) : 0 ≤ endv l i := by
  rcases endv_bound l i with e | e
  · exact absurd (kv_no vs l i (by omega)) h
  · exact e
/-- A place behind a node's own, before its end, is in a kid of its. -/
theorem kid_at (l : List Nd) (i : Nat) (h : 0 ≤ endv l i) (x : Nat) (h1 : i < x) (h2 : (x : Int) < endv l i) : ∃ j, ∃ hj : j < (kidsv l i).length, (kidsv l i)[j] ≤ x ∧ (x : Int) < endv l (kidsv l i)[j] := by
  have hk : ∀ j, j ≤ (arAt l i).toNat → kth l (i + 1) j ≤ x ∨ ∃ c, c < j ∧ kth l (i + 1) c ≤ x ∧ (x : Int) < kth l (i + 1) (c + 1) := by
    intro j
    induction j with
    | zero => intro _; left; simp only [kth]; omega
    | succ j ih =>
      intro hj
      rcases ih (by omega) with e | ⟨c, e1, e2, e3⟩
      · by_cases hx : kth l (i + 1) (j + 1) ≤ x
        · exact .inl hx
        · exact .inr ⟨j, by omega, e, by omega⟩
      · exact .inr ⟨c, by omega, e2, e3⟩
  rcases hk _ (Nat.le_refl _) with e | ⟨c, e1, e2, e3⟩
  · rw [kth_last l i h] at e; omega
  · have hj : c < (kidsv l i).length := by rw [kidsv_eq _ _ h, upto_length]; exact e1
    have he : (kidsv l i)[c] = kth l (i + 1) c := by simp only [kidsv_eq _ _ h, upto, List.getElem_map, List.getElem_range]
    exact ⟨c, hj, by rw [he]; exact e2, by rw [he, (kth_end l i h c e1).2]; exact e3⟩
/-- What is below a node that has a kind, has one. -/
theorem kind_below (vs : List Int) (l : List Nd) : ∀ (n i : Nat), l.length ≤ i + n → kv vs l i ≠ -1 → ∀ x : Nat, i ≤ x → (x : Int) < endv l i → 0 ≤ kv vs l x ∧ kv vs l x ≤ 2
  | 0, i, hn, h, x, h1, h2 => by have := (endv_in l i (kv_end vs l i h)).2; omega
  | n + 1, i, hn, h, x, h1, h2 => by
    have hE := kv_end vs l i h
    have hs := kv_step vs l i hE
    rw [hs] at h
    obtain ⟨f1, f2, f3⟩ := step_facts _ _ _ _ h
    by_cases hx : x = i
    · subst hx; rw [hs]; exact f2
    · obtain ⟨j, hj, g1, g2⟩ := kid_at l i hE x (by omega) h2
      have hf := kid_facts l i j hj
      have hk : 0 ≤ kv vs l (kidsv l i)[j] := f3 _ (List.mem_map.2 ⟨_, List.getElem_mem _, rfl⟩)
      obtain ⟨a, ha⟩ := Int.eq_ofNat_of_zero_le (show 0 ≤ (kidsv l i)[j] by omega)
      rw [ha] at hf hk g1 g2
      have hk' : kv vs l a ≠ -1 := by
        intro e
        have : kv vs l ((a : Nat) : Int) = -1 := e
        omega
      exact kind_below vs l n a (by omega) hk' x (by omega) g2

theorem typedV_more (vs : List Int) (t n : Int) (h : 0 ≤ typedV vs n) : typedV (vs ++ [t]) n = typedV vs n := by
  obtain ⟨a, b, c⟩ := typedV_in h
  unfold typedV
  rw [if_neg (by omega), if_neg (by omega), List.getD, List.getD, List.getElem?_append_left b]
theorem sizeV_typed {vs : List Int} {n : Int} (h : sizeV (typedV vs n) ≠ 0) : 0 ≤ typedV vs n := by
  unfold sizeV at h
  split at h
  · omega
  · exact absurd rfl h
theorem rule_more (vs : List Int) (t : Int) (x : Nd) (n : Nat) (r : RuleT) (h : ruleKind vs x.2 r ≠ -1) : ruleKind (vs ++ [t]) x.2 r = ruleKind vs x.2 r ∧ askV (vs ++ [t]) x n r = askV vs x n r := by
  cases r with
  | plain ks is => exact ⟨rfl, rfl⟩
  | none => exact ⟨rfl, rfl⟩
  | array ks is =>
    simp only [ruleKind, arrayKindV] at h ⊢
    split at h
    · exact absurd rfl h
    · rename_i hz
      rw [typedV_more vs t x.2 (sizeV_typed hz)]
      exact ⟨rfl, rfl⟩
  | scalar b =>
    simp only [ruleKind, scalarKindV] at h ⊢
    split at h
    · rename_i hz
      have hp : 0 ≤ typedV vs x.2 := by omega
      rw [typedV_more vs t x.2 hp]
      refine ⟨rfl, ?_⟩
      obtain ⟨c1, c2, c3⟩ := typedV_in hp
      cases b with
      | false => rfl
      | true =>
        simp only [askV]
        rw [if_pos c2, if_pos (by simp; omega), List.getD, List.getD, List.getElem?_append_left c2]
    · exact absurd rfl h
/-- A variable more, and a node that has a kind keeps it. -/
theorem kind_more (vs : List Int) (t : Int) (l : List Nd) : ∀ (n i : Nat), l.length ≤ i + n → kv vs l i ≠ -1 → kv (vs ++ [t]) l i = kv vs l i
  | 0, i, hn, h => by have := (endv_in l i (kv_end vs l i h)).2; omega
  | n + 1, i, hn, h => by
    have hE := kv_end vs l i h
    have hs := kv_step vs l i hE
    rw [hs] at h
    obtain ⟨f1, f2, f3⟩ := step_facts _ _ _ _ h
    have hk : (kidsv l i).map (kv (vs ++ [t]) l) = (kidsv l i).map (kv vs l) := by
      refine List.map_congr_left fun y hy => ?_
      obtain ⟨j, hj, rfl⟩ := List.getElem_of_mem hy
      have hf := kid_facts l i j hj
      have hk : 0 ≤ kv vs l (kidsv l i)[j] := f3 _ (List.mem_map.2 ⟨_, List.getElem_mem _, rfl⟩)
      obtain ⟨a, ha⟩ := Int.eq_ofNat_of_zero_le (show 0 ≤ (kidsv l i)[j] by omega)
      rw [ha] at hf hk ⊢
      exact kind_more vs t l n a (by omega) (by intro e; have : kv vs l ((a : Nat) : Int) = -1 := e; omega)
    rw [hs, kv_step _ _ _ hE, hk]
    obtain ⟨r1, r2⟩ := rule_more vs t (nodeAt l i) ((kidsv l i).map (kv vs l)).length (ruleOf (nodeAt l i).1) f1
    simp only [stepV]
    rw [r1, r2]
end Go.Proofs.Ytalehbmgbjiigaa
end

section
namespace Go.Proofs.Ytalehbmgbjiigaa
open Go.RowKit
set_option linter.unusedVariables false
set_option linter.unusedSimpArgs false

/-- Both tags are a block's, or none is. -/
def sm20 (a b : Int) : Prop := a = 20 ↔ b = 20
theorem sm20_refl (a : Int) : sm20 a a := Iff.rfl
theorem sm20_symm {a b : Int} (h : sm20 a b) : sm20 b a := h.symm
theorem stepV_sm20 (vs : List Int) (x : Nd) (kk kk' tt tt' : List Int) (h1 : kk = kk') (h2 : kk.length = tt.length) (h3 : ∀ j, j < tt.length → sm20 (tt.getD j 0) (tt'.getD j 0)) : stepV vs x kk tt = stepV vs x kk' tt' := by
  subst h1
  unfold stepV
  have : (List.range kk.length).all (fun j => decide (kk.getD j 0 = (askV vs x kk.length (ruleOf x.1)).getD j 0) && !(inner x.1 && decide (0 < j) && !decide (tt.getD j 0 = 20))) = (List.range kk.length).all (fun j => decide (kk.getD j 0 = (askV vs x kk.length (ruleOf x.1)).getD j 0) && !(inner x.1 && decide (0 < j) && !decide (tt'.getD j 0 = 20))) := by
    refine all_congr _ _ _ fun j hj => ?_
    have : decide (tt.getD j 0 = 20) = decide (tt'.getD j 0 = 20) := decide_eq_decide.2 (h3 j (by omega))
    rw [this]
  rw [this]
/-- Nodes alike, or with kids alike, have a kind. -/
theorem kind_sim20 (vs : List Int) (l l' : List Nd) (R : Nat → Nat → Prop)
    (hR : ∀ i i', R i i' → (kv vs l i = kv vs l' i' ∧ sm20 (nodeAt l i).1 (nodeAt l' i').1) ∨
      (0 ≤ endv l i ∧ 0 ≤ endv l' i' ∧ nodeAt l i = nodeAt l' i' ∧ (kidsv l i).length = (kidsv l' i').length ∧ ∀ j (h : j < (kidsv l i).length) (h' : j < (kidsv l' i').length), ∃ a b : Nat, (kidsv l i)[j] = a ∧ (kidsv l' i')[j] = b ∧ R a b)) :
    ∀ (n i i' : Nat), l.length ≤ i + n → R i i' → kv vs l i = kv vs l' i' ∧ sm20 (nodeAt l i).1 (nodeAt l' i').1
  | 0, i, i', hn, h => by
    rcases hR i i' h with h | ⟨h1, _⟩
    · exact h
    · have := (endv_in l i h1).2; omega
  | n + 1, i, i', hn, h => by
    rcases hR i i' h with h | ⟨h1, h2, h3, h4, h5⟩
    · exact h
    · have hk : ∀ j (hj : j < (kidsv l i).length) (hj' : j < (kidsv l' i').length), kv vs l (kidsv l i)[j] = kv vs l' (kidsv l' i')[j] ∧ sm20 (nodeAt l (kidsv l i)[j]).1 (nodeAt l' (kidsv l' i')[j]).1 := fun j hj hj' => by
        obtain ⟨a, b, ea, eb, hab⟩ := h5 j hj hj'
        have hf := kid_facts l i j hj
        rw [ea, eb]
        rw [ea] at hf
        exact kind_sim20 vs l l' R hR n a b (by omega) hab
      refine ⟨?_, by rw [h3]; exact sm20_refl _⟩
      rw [kv_step _ _ _ h1, kv_step _ _ _ h2, h3]
      refine stepV_sm20 vs _ _ _ _ _ ?_ ?_ ?_
      · exact List.ext_getElem (by simpa using h4) fun j a b => by simpa using (hk j (by simpa using a) (by simpa using b)).1
      · simp
      · intro j hj
        have hj1 : j < (kidsv l i).length := by simpa using hj
        have hj2 : j < (kidsv l' i').length := by omega
        rw [getD_in _ _ _ (by simpa using hj1), getD_in _ _ _ (by simpa using hj2)]
        simp only [List.getElem_map]
        exact (hk j hj1 hj2).2

section
variable {l r : List Nd} {k : Nat}
theorem r1_step20 (vs : List Int) (hE : 0 ≤ endv l k) (hr : endv r 0 = r.length) (hk : kv vs r 0 = kv vs l k) (ht : sm20 (nodeAt r 0).1 (nodeAt l k).1) (i i' : Nat) (h : R1 l k r i i') :
    (kv vs l i = kv vs (replV l k r) i' ∧ sm20 (nodeAt l i).1 (nodeAt (replV l k r) i').1) ∨
      (0 ≤ endv l i ∧ 0 ≤ endv (replV l k r) i' ∧ nodeAt l i = nodeAt (replV l k r) i' ∧ (kidsv l i).length = (kidsv (replV l k r) i').length ∧ ∀ j (h : j < (kidsv l i).length) (h' : j < (kidsv (replV l k r) i').length), ∃ a b : Nat, (kidsv l i)[j] = a ∧ (kidsv (replV l k r) i')[j] = b ∧ R1 l k r a b) := by
  rcases h with h | ⟨h1, rfl, h2⟩
  · obtain ⟨a, b, c, d, e⟩ := seg_kids h
    refine .inr ⟨a, b, c, d, fun j h h' => ?_⟩
    obtain ⟨x, y, e1, e2, e3⟩ := e j h h'
    exact ⟨x, y, e1, e2, .inl e3⟩
  · by_cases hik : i' = k
    · subst hik
      have : kv vs r 0 = kv vs (replV l i' r) i' ∧ (nodeAt r 0).1 = (nodeAt (replV l i' r) i').1 := kind_seg vs (repl_seg_at hE hr)
      exact .inl ⟨by rw [← this.1]; exact hk.symm, by rw [← this.2]; exact sm20_symm ht⟩
    · have hgtk := endv_gt l k hE
      have hi : i' < k := by omega
      have h0 : 0 ≤ endv l i' := by omega
      obtain ⟨_, hab⟩ := repl_above hE hr i' hi (by omega)
      have h0' : 0 ≤ endv (replV l k r) i' := by omega
      have hil : i' < l.length := by have := (endv_in l i' h0).2; simpa using this
      have hil' : i' < (replV l k r).length := by have := (endv_in _ i' h0').2; simpa using this
      have hn : nodeAt l i' = nodeAt (replV l k r) i' := by simp [nodeAt, List.getD, repl_before hE i' hi]
      have har : arAt l i' = arAt (replV l k r) i' := by rw [ar_node _ _ hil, ar_node _ _ hil', hn]
      have hone : ∀ a b : Nat, ((a ≤ k ∧ b = a) ∨ (endv l k ≤ a ∧ (b : Int) + endv l k = a + k + r.length)) → 0 ≤ endv l a → R1 l k r a b ∧ ∃ a' b' : Nat, endv l a = a' ∧ endv (replV l k r) b = b' ∧ ((a' ≤ k ∧ b' = a') ∨ (endv l k ≤ a' ∧ (b' : Int) + endv l k = a' + k + r.length)) := by
        intro a b hP ha
        obtain ⟨c, hc, hce⟩ := endv_get l a ha
        rcases hP with ⟨p1, rfl⟩ | ⟨p1, p2⟩
        · by_cases hbk : b = k
          · subst hbk
            refine ⟨.inr ⟨by omega, rfl, by omega⟩, b + c, b + r.length, hce, repl_end hE hr, .inr ⟨by omega, by omega⟩⟩
          · by_cases hlow : endv l b ≤ k
            · have hseg := repl_seg_before (r := r) hE b ha hlow
              obtain ⟨m, hm, hs⟩ := hseg
              exact ⟨.inl ⟨m, hm, hs⟩, b + m, b + m, hm, endv_shift hm hs, .inl ⟨by omega, rfl⟩⟩
            · obtain ⟨q1, q2⟩ := repl_above (r := r) hE hr b (by omega) (by omega)
              obtain ⟨d, hd⟩ := Int.eq_ofNat_of_zero_le (show 0 ≤ endv (replV l k r) b by omega)
              exact ⟨.inr ⟨by omega, rfl, q1⟩, b + c, d, hce, hd, .inr ⟨by omega, by omega⟩⟩
        · have hseg := repl_seg_behind (r := r) hE a b ha p1 p2
          obtain ⟨m, hm, hs⟩ := hseg
          exact ⟨.inl ⟨m, hm, hs⟩, a + m, b + m, hm, endv_shift hm hs, .inr ⟨by omega, by omega⟩⟩
      have hkk : ∀ j, j ≤ (arAt l i').toNat → ∃ a b : Nat, kth l (i' + 1) j = a ∧ kth (replV l k r) (i' + 1) j = b ∧ ((a ≤ k ∧ b = a) ∨ (endv l k ≤ a ∧ (b : Int) + endv l k = a + k + r.length)) := by
        intro j
        induction j with
        | zero => exact fun _ => ⟨i' + 1, i' + 1, by simp [kth], by simp [kth], .inl ⟨by omega, rfl⟩⟩
        | succ j ih =>
          intro hj
          obtain ⟨a, b, e1, e2, hP⟩ := ih (by omega)
          obtain ⟨g1, g2, g3, g4⟩ := kth_range l i' h0 j (by omega)
          rw [e1] at g3
          obtain ⟨_, a', b', f1, f2, f3⟩ := hone a b hP g3
          simp only [kth]
          exact ⟨a', b', by rw [e1, f1], by rw [e2, f2], f3⟩
      refine .inr ⟨h0, h0', hn, ?_, fun j hj hj' => ?_⟩
      · rw [kidsv_eq _ _ h0, kidsv_eq _ _ h0', upto_length, upto_length, har]
      · have hj2 : j < (arAt l i').toNat := by rwa [kidsv_eq _ _ h0, upto_length] at hj
        obtain ⟨a, b, e1, e2, hP⟩ := hkk j (by omega)
        obtain ⟨g1, g2, g3, g4⟩ := kth_range l i' h0 j hj2
        rw [e1] at g3
        refine ⟨a, b, ?_, ?_, (hone a b hP g3).1⟩
        · simp only [kidsv_eq _ _ h0, upto, List.getElem_map, List.getElem_range, e1]
        · simp only [kidsv_eq _ _ h0', upto, List.getElem_map, List.getElem_range, e2]
/-- With a part of the same kind and tag instead, the whole's kind stays. -/
theorem kind_repl20 (vs : List Int) (hl : endv l 0 = l.length) (hE : 0 ≤ endv l k) (hr : endv r 0 = r.length) (hk : kv vs r 0 = kv vs l k) (ht : sm20 (nodeAt r 0).1 (nodeAt l k).1) :
    kv vs l 0 = kv vs (replV l k r) 0 ∧ sm20 (nodeAt l 0).1 (nodeAt (replV l k r) 0).1 := by
  have := kind_sim20 vs l (replV l k r) (R1 l k r) (fun i i' h => r1_step20 vs hE hr hk ht i i' h) l.length 0 0 (by omega) (.inr ⟨by omega, rfl, by
    have := endv_le l k
    rw [show ((0 : Nat) : Int) = 0 from rfl, hl]; exact this⟩)
  exact this
end
end Go.Proofs.Ytalehbmgbjiigaa
end

section
namespace Go.Proofs.Ytalehbmgbjiigaa
open Go.RowKit
set_option linter.unusedVariables false
set_option linter.unusedSimpArgs false

section
variable {l r : List Nd} {k : Nat}
theorem r1_kids (hE : 0 ≤ endv l k) (hr : endv r 0 = r.length) (i i' : Nat) (h : R1 l k r i i') :
    (i = k ∧ i' = k) ∨
      (0 ≤ endv l i ∧ 0 ≤ endv (replV l k r) i' ∧ nodeAt l i = nodeAt (replV l k r) i' ∧ (kidsv l i).length = (kidsv (replV l k r) i').length ∧ ∀ j (h : j < (kidsv l i).length) (h' : j < (kidsv (replV l k r) i').length), ∃ a b : Nat, (kidsv l i)[j] = a ∧ (kidsv (replV l k r) i')[j] = b ∧ R1 l k r a b) := by
  rcases h with h | ⟨h1, rfl, h2⟩
  · obtain ⟨a, b, c, d, e⟩ := seg_kids h
    refine .inr ⟨a, b, c, d, fun j h h' => ?_⟩
    obtain ⟨x, y, e1, e2, e3⟩ := e j h h'
    exact ⟨x, y, e1, e2, .inl e3⟩
  · by_cases hik : i' = k
    · exact .inl ⟨hik, hik⟩
    · have hgtk := endv_gt l k hE
      have hi : i' < k := by omega
      have h0 : 0 ≤ endv l i' := by omega
      obtain ⟨_, hab⟩ := repl_above hE hr i' hi (by omega)
      have h0' : 0 ≤ endv (replV l k r) i' := by omega
      have hil : i' < l.length := by have := (endv_in l i' h0).2; simpa using this
      have hil' : i' < (replV l k r).length := by have := (endv_in _ i' h0').2; simpa using this
      have hn : nodeAt l i' = nodeAt (replV l k r) i' := by simp [nodeAt, List.getD, repl_before hE i' hi]
      have har : arAt l i' = arAt (replV l k r) i' := by rw [ar_node _ _ hil, ar_node _ _ hil', hn]
      have hone : ∀ a b : Nat, ((a ≤ k ∧ b = a) ∨ (endv l k ≤ a ∧ (b : Int) + endv l k = a + k + r.length)) → 0 ≤ endv l a → R1 l k r a b ∧ ∃ a' b' : Nat, endv l a = a' ∧ endv (replV l k r) b = b' ∧ ((a' ≤ k ∧ b' = a') ∨ (endv l k ≤ a' ∧ (b' : Int) + endv l k = a' + k + r.length)) := by
        intro a b hP ha
        obtain ⟨c, hc, hce⟩ := endv_get l a ha
        rcases hP with ⟨p1, rfl⟩ | ⟨p1, p2⟩
        · by_cases hbk : b = k
          · subst hbk
            refine ⟨.inr ⟨by omega, rfl, by omega⟩, b + c, b + r.length, hce, repl_end hE hr, .inr ⟨by omega, by omega⟩⟩
          · by_cases hlow : endv l b ≤ k
            · have hseg := repl_seg_before (r := r) hE b ha hlow
              obtain ⟨m, hm, hs⟩ := hseg
              exact ⟨.inl ⟨m, hm, hs⟩, b + m, b + m, hm, endv_shift hm hs, .inl ⟨by omega, rfl⟩⟩
            · obtain ⟨q1, q2⟩ := repl_above (r := r) hE hr b (by omega) (by omega)
              obtain ⟨d, hd⟩ := Int.eq_ofNat_of_zero_le (show 0 ≤ endv (replV l k r) b by omega)
              exact ⟨.inr ⟨by omega, rfl, q1⟩, b + c, d, hce, hd, .inr ⟨by omega, by omega⟩⟩
        · have hseg := repl_seg_behind (r := r) hE a b ha p1 p2
          obtain ⟨m, hm, hs⟩ := hseg
          exact ⟨.inl ⟨m, hm, hs⟩, a + m, b + m, hm, endv_shift hm hs, .inr ⟨by omega, by omega⟩⟩
      have hkk : ∀ j, j ≤ (arAt l i').toNat → ∃ a b : Nat, kth l (i' + 1) j = a ∧ kth (replV l k r) (i' + 1) j = b ∧ ((a ≤ k ∧ b = a) ∨ (endv l k ≤ a ∧ (b : Int) + endv l k = a + k + r.length)) := by
        intro j
        induction j with
        | zero => exact fun _ => ⟨i' + 1, i' + 1, by simp [kth], by simp [kth], .inl ⟨by omega, rfl⟩⟩
        | succ j ih =>
          intro hj
          obtain ⟨a, b, e1, e2, hP⟩ := ih (by omega)
          obtain ⟨g1, g2, g3, g4⟩ := kth_range l i' h0 j (by omega)
          rw [e1] at g3
          obtain ⟨_, a', b', f1, f2, f3⟩ := hone a b hP g3
          simp only [kth]
          exact ⟨a', b', by rw [e1, f1], by rw [e2, f2], f3⟩
      refine .inr ⟨h0, h0', hn, ?_, fun j hj hj' => ?_⟩
      · rw [kidsv_eq _ _ h0, kidsv_eq _ _ h0', upto_length, upto_length, har]
      · have hj2 : j < (arAt l i').toNat := by rwa [kidsv_eq _ _ h0, upto_length] at hj
        obtain ⟨a, b, e1, e2, hP⟩ := hkk j (by omega)
        obtain ⟨g1, g2, g3, g4⟩ := kth_range l i' h0 j hj2
        rw [e1] at g3
        refine ⟨a, b, ?_, ?_, (hone a b hP g3).1⟩
        · simp only [kidsv_eq _ _ h0, upto, List.getElem_map, List.getElem_range, e1]
        · simp only [kidsv_eq _ _ h0', upto, List.getElem_map, List.getElem_range, e2]

theorem fold_max_le (f g : Int → Int) : ∀ (ks ks' : List Int) (m m' : Int), ks.length = ks'.length → m' ≤ m → (∀ j (h : j < ks.length) (h' : j < ks'.length), g ks'[j] ≤ f ks[j]) → ks'.foldl (fun a x => max a (g x)) m' ≤ ks.foldl (fun a x => max a (f x)) m
  | [], [], m, m', _, hm, _ => hm
  | [], y :: s, m, m', h, _, _ => by cases h
  | x :: r, [], m, m', h, _, _ => by cases h
  | x :: r, y :: s, m, m', h, hm, hh => by
    simp only [List.foldl_cons]
    refine fold_max_le f g r s _ _ (by simpa using h) ?_ fun j h1 h2 => by
      have := hh (j + 1) (by simp only [List.length_cons]; omega) (by simp only [List.length_cons]; omega)
      simp only [List.getElem_cons_succ] at this
      exact this
    have := hh 0 (by simp) (by simp)
    simp only [List.getElem_cons_zero] at this
    omega
/-- No deeper, if each kid is no deeper. -/
theorem dep_sim (l l' : List Nd) (R : Nat → Nat → Prop)
    (hR : ∀ i i', R i i' → (∀ f f', l.length ≤ i + f → depV f' l' i' ≤ depV f l i) ∨
      (0 ≤ endv l i ∧ 0 ≤ endv l' i' ∧ (kidsv l i).length = (kidsv l' i').length ∧ ∀ j (h : j < (kidsv l i).length) (h' : j < (kidsv l' i').length), ∃ a b : Nat, (kidsv l i)[j] = a ∧ (kidsv l' i')[j] = b ∧ R a b)) :
    ∀ (f f' i i' : Nat), l.length ≤ i + f → R i i' → depV f' l' i' ≤ depV f l i
  | f, 0, i, i', hn, h => (depV_bound f l i).1
  | 0, f' + 1, i, i', hn, h => by
    rcases hR i i' h with h | ⟨h1, _⟩
    · exact h 0 (f' + 1) hn
    · have := (endv_in l i h1).2; omega
  | f + 1, f' + 1, i, i', hn, h => by
    rcases hR i i' h with h | ⟨h1, h2, h4, h5⟩
    · exact h (f + 1) (f' + 1) hn
    · simp only [depV]
      rw [if_neg (by omega), if_neg (by omega)]
      have := fold_max_le (depV f l) (depV f' l') (kidsv l i) (kidsv l' i') 0 0 h4 (Int.le_refl _) fun j hj hj' => by
        obtain ⟨a, b, ea, eb, hab⟩ := h5 j hj hj'
        have hf := kid_facts l i j hj
        rw [ea] at hf
        rw [ea, eb]
        exact dep_sim l l' R hR f f' a b (by omega) hab
      omega
/-- One node without kids instead of a part. -/
theorem dep_repl (y : Nd) (hy : ar y = 0) (hE : 0 ≤ endv l k) (f f' : Nat) (hl : endv l 0 = l.length) (hf : l.length ≤ f) : depV f' (replV l k [y]) 0 ≤ depV f l 0 := by
  have hr : endv [y] 0 = ([y] : List Nd).length := by
    refine whole_of ?_
    rw [show (1 : Nat) = 0 + 1 from rfl, scan_cons, if_neg (by omega), hy]
    rfl
  have hkl : k < l.length := by have := (endv_in l k hE).2; simpa using this
  have key : ∀ f f', l.length ≤ k + f → depV f' (replV l k [y]) k ≤ depV f l k := by
    intro f f' hf
    have hend := repl_end (r := [y]) hE hr
    obtain ⟨q, rfl⟩ : ∃ q, f = q + 1 := ⟨f - 1, by omega⟩
    have h1 : 1 ≤ depV (q + 1) l k := by
      rw [depV_yes _ _ _ hE]
      have := (depTo_bound q l (kidsv l k)).1
      omega
    cases f' with
    | zero =>
      show (0 : Int) ≤ depV (q + 1) l k
      omega
    | succ f' =>
      have har : arAt (replV l k [y]) k = 0 := by
        have hl' : k < (replV l k [y]).length := by
          have := (endv_in (replV l k [y]) k (by rw [hend]; omega)).2
          simpa using this
        rw [arAt_in _ _ hl']
        have : (replV l k [y])[k]? = some y := by
          rw [replV, if_neg (by omega), List.append_assoc, List.getElem?_append_right (by simp; omega)]
          simp only [Int.toNat_natCast, List.length_take, show min k l.length = k from by omega, Nat.sub_self]
          rfl
        rw [(List.getElem?_eq_some_iff.1 this).2, hy]
      have hk : kidsv (replV l k [y]) k = [] := by
        rw [kidsv_eq _ _ (by rw [hend]; omega), har]; rfl
      have e : depV (f' + 1) (replV l k [y]) k = 1 := by
        simp only [depV]
        rw [if_neg (by rw [hend]; omega), hk]
        rfl
      rw [e]
      exact h1
  refine dep_sim l (replV l k [y]) (R1 l k [y]) (fun i i' h => ?_) f f' 0 0 (by omega) (.inr ⟨by omega, rfl, by
    have := endv_le l k
    rw [show ((0 : Nat) : Int) = 0 from rfl, hl]; exact this⟩)
  rcases r1_kids hE hr i i' h with ⟨e1, e2⟩ | ⟨a, b, c, d, e⟩
  · rw [e1, e2]; exact .inl key
  · exact .inr ⟨a, b, d, e⟩
end
end Go.Proofs.Ytalehbmgbjiigaa
end

section
namespace Go.Proofs.Ytalehbmgbjiigaa
open Go.RowKit
set_option linter.unusedVariables false
set_option maxRecDepth 100000

def kp_offshootlaw09_KindsChecks : List Nat := []
def kp_offshootlaw09_KindsOf : List Nat := []
def kp_offshootlaw09_KindsBelow : List Nat := [1, 2, 4, 5, 7, 8, 9]
def kp_offshootlaw09_KindsPart : List Nat := []
def kp_offshootlaw09_KindsReplaced : List Nat := []
end Go.Proofs.Ytalehbmgbjiigaa
end

section
namespace Go.Proofs.Ytalehbmgbjiigaa
open Go.RowKit
set_option linter.unusedVariables false
set_option linter.unusedSimpArgs false

theorem few_pure (p : Pg) (H : Heap) : liftF F_Few [progD p] H = some (bD (fewV p), H) := by
  rw [liftF_pure _ _ _ rfl]
  have : F_Few [progD p] = _ := f1_enc (A := progT) _ p
  rw [this]; rfl
theorem same9_pure (p q : Pg) (hp : p.fits) (hq : q.fits) (H : Heap) : liftF F_Same9 [progD p, progD q] H = some (bD (decide (p = q)), H) := by
  rw [liftF_pure _ _ _ rfl]
  have : F_Same9 [progD p, progD q] = _ := f2_enc (A := progT) (B := progT) _ p q
  rw [this, if_pos ⟨hp, hq⟩]; rfl
theorem few_fits {p : Pg} (h : fewV p = true) : p.body.length ≤ 60 ∧ p.vars.length ≤ 20 ∧ p.fits ∧ p.body.length ≤ 3000000 := by
  simp only [fewV, Bool.and_eq_true, decide_eq_true_eq] at h
  exact ⟨h.1, h.2, ⟨by omega, by omega⟩, by omega⟩

@[simp] theorem cells_prog (p : Pg) : cellsD (progD p) = some [iD p.params, intsD p.vars, nodesD p.body] := rfl
end Go.Proofs.Ytalehbmgbjiigaa
end

section
namespace Go.Proofs.Ytalehbmgbjiigaa
open Go.RowKit
set_option linter.unusedVariables false
set_option linter.unusedSimpArgs false

theorem true_pure (H : Heap) : liftF F_true [] H = some (bD true, H) := by rw [liftF_pure _ _ _ rfl]; rfl
theorem check9_pure (p : Pg) (h : p.body.length ≤ 3000000) (H : Heap) : liftF F_Check9 [progD p] H = some (iD (chk9 p), H) := by
  rw [liftF_pure _ _ _ rfl]
  have : F_Check9 [progD p] = _ := f1_enc (A := progT) _ p
  rw [this, if_pos h]; rfl
end Go.Proofs.Ytalehbmgbjiigaa
end

section
namespace Go.Proofs.Ytalehbmgbjiigaa
open Go.RowKit
set_option linter.unusedVariables false
set_option linter.unusedSimpArgs false

theorem part_pure (l : List Nd) (i : Int) (h : l.length ≤ 3000000) (H : Heap) : liftF F_Part [nodesD l, iD i] H = some (nodesD (partV l i), H) := by
  rw [liftF_pure _ _ _ rfl]; simp [F_Part, h]
theorem replace_pure (l r : List Nd) (i : Int) (h : l.length ≤ 3000000) (h' : r.length ≤ 3000000) (H : Heap) : liftF F_Replace [nodesD l, iD i, nodesD r] H = some (nodesD (replV l i r), H) := by
  rw [liftF_pure _ _ _ rfl]; simp [F_Replace, h, h']
theorem depth_pure (l : List Nd) (i : Int) (h : l.length ≤ 3000000) (H : Heap) : liftF F_Depth [nodesD l, iD i] H = some (iD (depV l.length l i), H) := by
  rw [liftF_pure _ _ _ rfl]; simp [F_Depth, h]
theorem knd_kv (p : Pg) (i : Int) : knd p i = kv p.vars p.body i := rfl
theorem part_len (l : List Nd) (i : Int) : (partV l i).length ≤ l.length := by
  unfold partV
  split
  · simp
  · simp; omega
theorem chk9_ok {p : Pg} (h : chk9 p = 0) : checkV p.body = 0 ∧ varsV p = 0 ∧ (nodeAt p.body 0).1 = 20 ∧ knd p 0 = 2 := by
  unfold chk9 at h
  by_cases h1 : checkV p.body = 0
  · rw [if_neg (by simp [h1])] at h
    by_cases h2 : varsV p = 0
    · rw [if_neg (by simp [h2])] at h
      split at h
      · cases h
      · rename_i h3
        rw [not_or] at h3
        exact ⟨h1, h2, Decidable.not_not.1 h3.1, Decidable.not_not.1 h3.2⟩
    · rw [if_pos h2] at h; exact absurd h h2
  · rw [if_pos h1] at h; exact absurd h h1
theorem check_whole {l : List Nd} (h : checkV l = 0) : endv l 0 = l.length := by
  unfold checkV at h
  split at h
  · cases h
  split at h
  · cases h
  split at h
  · cases h
  split at h
  · cases h
  · rename_i h4; exact Decidable.not_not.1 h4
theorem scan_good : ∀ (l : List Nd) (a : Nat), scan a l = some l.length → ∀ x ∈ l, 0 ≤ ar x
  | [], a, h => by simp
  | x :: r, 0, h => by rw [scan_zero] at h; simp at h
  | x :: r, a + 1, h => by
    rw [scan_cons] at h
    split at h
    · cases h
    · rename_i hx
      obtain ⟨c, hc, e⟩ := Option.map_eq_some_iff.1 h
      have hc' : scan (a + (ar x).toNat) r = some r.length := by rw [hc]; simp at e; rw [e]
      intro y hy
      rcases List.mem_cons.1 hy with rfl | hy
      · omega
      · exact scan_good r _ hc' y hy
theorem whole_fine {l : List Nd} (h : endv l 0 = l.length) : hasBad l = false := by
  have := scan_good l 1 (whole_scan h)
  unfold hasBad
  simpa using this
theorem whole_check {l : List Nd} (h : endv l 0 = l.length) (hl : l.length ≤ 200) : checkV l = 0 ∨ (checkV l = 13 ∧ 30 < depV l.length l 0) := by
  have h0 := whole_pos h
  unfold checkV
  rw [if_neg (by omega), if_neg (by omega), if_neg (by simp [whole_fine h]), if_neg (by simp [h])]
  split
  · rename_i hd; exact .inr ⟨rfl, hd⟩
  · exact .inl rfl
theorem chk9_repl {p : Pg} {k : Nat} {r : List Nd} (h : chk9 p = 0) (hk : k < p.body.length) (hl : p.body.length ≤ 60) (hr : endv r 0 = r.length) (hrl : r.length ≤ 60) (e1 : knd ⟨p.params, p.vars, r⟩ 0 = knd p k) (e2 : (nodeAt r 0).1 = (nodeAt p.body k).1) :
    knd ⟨p.params, p.vars, replV p.body k r⟩ 0 = 2 ∧ (replV p.body k r).length ≤ 120 ∧ (chk9 ⟨p.params, p.vars, replV p.body k r⟩ = 0 ∨ (chk9 ⟨p.params, p.vars, replV p.body k r⟩ = 13 ∧ 30 < depV (replV p.body k r).length (replV p.body k r) 0)) := by
  obtain ⟨c1, c2, c3, c4⟩ := chk9_ok h
  have hw := check_whole c1
  rw [knd_kv] at c4
  have hE : 0 ≤ endv p.body k := by
    have hne : kv p.vars p.body ((0 : Nat) : Int) ≠ -1 := by intro e; have : kv p.vars p.body 0 = -1 := e; omega
    have := (kind_below p.vars p.body p.body.length 0 (by omega) hne k (by omega) (by rw [show ((0 : Nat) : Int) = 0 from rfl, hw]; omega)).1
    exact kv_end p.vars p.body k (by omega)
  rw [knd_kv, knd_kv] at e1
  obtain ⟨g1, g2⟩ := kind_repl p.vars hw hE hr e1 e2
  have hlen := repl_len (r := r) hE
  have hww := repl_whole hw hE hr
  have hk2 : knd ⟨p.params, p.vars, replV p.body k r⟩ 0 = 2 := by rw [knd_kv]; exact g1.symm.trans c4
  have hl2 : (replV p.body k r).length ≤ 120 := by omega
  refine ⟨hk2, hl2, ?_⟩
  have hv : varsV ⟨p.params, p.vars, replV p.body k r⟩ = 0 := c2
  unfold chk9
  rcases whole_check hww (by omega) with hc | ⟨hc, hd⟩
  · refine .inl ?_
    rw [if_neg (by simp [hc]), if_neg (by simp [hv]), if_neg]
    rw [not_or]
    exact ⟨Decidable.not_not.2 (g2.symm.trans c3), Decidable.not_not.2 hk2⟩
  · refine .inr ⟨?_, hd⟩
    rw [if_pos (by simp [hc])]
    exact hc

theorem build2 (vs : List Int) (b : List Nd) : buildR [(0, 1), (1, 1), (2, 1)] [iD 0, .v (.slice none 0 0), .v (.slice none 0 0)] [(1, intsD vs), (2, nodesD b)] = some (progD ⟨0, vs, b⟩) := rfl
theorem build3 (a : Int) (vs : List Int) (b : List Nd) : buildR [(0, 1), (1, 1), (2, 1)] [iD 0, .v (.slice none 0 0), .v (.slice none 0 0)] [(0, iD a), (1, intsD vs), (2, nodesD b)] = some (progD ⟨a, vs, b⟩) := rfl

end Go.Proofs.Ytalehbmgbjiigaa
end

section
namespace Go.Proofs.Ytalehbmgbjiigaa
open Go.RowKit
set_option linter.unusedVariables false
set_option linter.unusedSimpArgs false

theorem kv_alike (vs : List Int) (l l' : List Nd) (h : Alike l l') (hn : ∀ i : Nat, i < l.length → ∀ kk tt, stepV vs (nodeAt l i) kk tt = stepV vs (nodeAt l' i) kk tt) (ht : ∀ i : Nat, i < l.length → sm20 (nodeAt l i).1 (nodeAt l' i).1) : ∀ (n i : Nat), l.length ≤ i + n → kv vs l i = kv vs l' i
  | 0, i, hi => by
    have e : endv l i < 0 := by
      rcases endv_bound l i with h | h
      · omega
      · have := (endv_in l i h).2; omega
    rw [kv_no _ _ _ e, kv_no _ _ _ (by rw [← endv_alike h]; exact e)]
  | n + 1, i, hi => by
    by_cases e : endv l i < 0
    · rw [kv_no _ _ _ e, kv_no _ _ _ (by rw [← endv_alike h]; exact e)]
    · have h0 : 0 ≤ endv l i := by omega
      have h0' : 0 ≤ endv l' i := by rw [← endv_alike h]; exact h0
      have hil : i < l.length := by have := (endv_in l i h0).2; simpa using this
      rw [kv_step _ _ _ h0, kv_step _ _ _ h0', hn i hil, ← kidsv_alike h]
      have kid : ∀ j (hj : j < (kidsv l i).length), ∃ a : Nat, (kidsv l i)[j] = a ∧ i < a ∧ a < l.length := fun j hj => by
        have hf := kid_facts l i j hj
        obtain ⟨a, ha⟩ := Int.eq_ofNat_of_zero_le (show 0 ≤ (kidsv l i)[j] by omega)
        rw [ha] at hf
        exact ⟨a, ha, by omega, by have := hf.2.2.2; simpa using this⟩
      refine stepV_sm20 vs _ _ _ _ _ ?_ (by simp) ?_
      · refine List.map_congr_left fun x hx => ?_
        obtain ⟨j, hj, rfl⟩ := List.getElem_of_mem hx
        obtain ⟨a, ha, h1, h2⟩ := kid j hj
        rw [ha]
        exact kv_alike vs l l' h hn ht n a (by omega)
      · intro j hj
        have hj1 : j < (kidsv l i).length := by simpa using hj
        rw [getD_in _ _ _ (by simpa using hj1), getD_in _ _ _ (by simpa using hj1)]
        simp only [List.getElem_map]
        obtain ⟨a, ha, h1, h2⟩ := kid j hj1
        rw [ha]
        exact ht a h2
theorem stepV_row (vs : List Int) (x y : Nd) (ks : List Int) (is : Int) (h1 : ruleOf x.1 = .plain ks is) (h2 : ruleOf y.1 = .plain ks is) (hi : inner x.1 = inner y.1) (kk tt : List Int) : stepV vs x kk tt = stepV vs y kk tt := by
  unfold stepV
  simp only [h1, h2, hi, ruleKind, askV]
theorem rule_arith {t : Int} (h1 : 7 ≤ t) (h2 : t ≤ 11) : ruleOf t = .plain [0, 0] 0 ∧ inner t = false := by
  have : t = 7 ∨ t = 8 ∨ t = 9 ∨ t = 10 ∨ t = 11 := by omega
  rcases this with rfl | rfl | rfl | rfl | rfl <;> decide
theorem rule_rel {t : Int} (h1 : 12 ≤ t) (h2 : t ≤ 17) : ruleOf t = .plain [0, 0] 1 ∧ inner t = false := by
  have : t = 12 ∨ t = 13 ∨ t = 14 ∨ t = 15 ∨ t = 16 ∨ t = 17 := by omega
  rcases this with rfl | rfl | rfl | rfl | rfl | rfl <;> decide
theorem rule_logic {t : Int} (h1 : 18 ≤ t) (h2 : t ≤ 19) : ruleOf t = .plain [1, 1] 1 ∧ inner t = false := by
  have : t = 18 ∨ t = 19 := by omega
  rcases this with rfl | rfl <;> decide
/-- The changed node is told like the elder one. -/
theorem same_rule {x y : Nd} {op n : Int} (h : mayV x op n) (h4 : op ≤ 4) (hy : (op ≤ 3 ∧ y = (n, x.2)) ∨ (op = 4 ∧ y = (x.1, n))) (vs kk tt : List Int) : stepV vs x kk tt = stepV vs y kk tt ∧ sm20 x.1 y.1 := by
  have hne : ∀ {a b : Int}, a ≠ 20 → b ≠ 20 → sm20 a b := fun ha hb => ⟨fun e => absurd e ha, fun e => absurd e hb⟩
  rcases h with h | h | h | h | h | h | h
  · rcases hy with ⟨_, rfl⟩ | ⟨e, _⟩
    · have a := rule_arith h.2.1 h.2.2.1
      have b := rule_arith h.2.2.2.1 h.2.2.2.2
      exact ⟨stepV_row vs x (n, x.2) _ _ a.1 b.1 (by rw [a.2, b.2]) kk tt, hne (by omega) (by show n ≠ 20; omega)⟩
    · omega
  · rcases hy with ⟨_, rfl⟩ | ⟨e, _⟩
    · have a := rule_rel h.2.1 h.2.2.1
      have b := rule_rel h.2.2.2.1 h.2.2.2.2
      exact ⟨stepV_row vs x (n, x.2) _ _ a.1 b.1 (by rw [a.2, b.2]) kk tt, hne (by omega) (by show n ≠ 20; omega)⟩
    · omega
  · rcases hy with ⟨_, rfl⟩ | ⟨e, _⟩
    · have a := rule_logic h.2.1 h.2.2.1
      have b := rule_logic h.2.2.2.1 h.2.2.2.2
      exact ⟨stepV_row vs x (n, x.2) _ _ a.1 b.1 (by rw [a.2, b.2]) kk tt, hne (by omega) (by show n ≠ 20; omega)⟩
    · omega
  · rcases hy with ⟨e, _⟩ | ⟨_, rfl⟩
    · omega
    · refine ⟨?_, sm20_refl _⟩
      rcases h.2 with e | ⟨e, _⟩
      · exact stepV_row vs x (x.1, n) [] 0 (by rw [e]; decide) (by simp only [e]; decide) rfl kk tt
      · exact stepV_row vs x (x.1, n) [] 1 (by rw [e]; decide) (by simp only [e]; decide) rfl kk tt
  · omega
  · omega
  · omega
/-- A node's kind is what its rule tells, if it has one. -/
theorem kv_rule (vs : List Int) (l : List Nd) (k : Nat) (h : kv vs l k ≠ -1) : kv vs l k = ruleKind vs (nodeAt l k).2 (ruleOf (nodeAt l k).1) ∧
    ∀ j, j < (kidsv l k).length → ((kidsv l k).map (kv vs l)).getD j 0 = (askV vs (nodeAt l k) (kidsv l k).length (ruleOf (nodeAt l k).1)).getD j 0 := by
  have hE := kv_end vs l k h
  have hs := kv_step vs l k hE
  rw [hs] at h ⊢
  unfold stepV at h ⊢
  simp only [List.length_map] at h ⊢
  split at h
  · exact absurd rfl h
  · rename_i h1
    rw [if_neg h1]
    split at h
    · rename_i h2
      rw [if_pos h2]
      refine ⟨rfl, fun j hj => ?_⟩
      have := List.all_eq_true.1 h2 j (by simpa using hj)
      simp only [Bool.and_eq_true, decide_eq_true_eq] at this
      exact this.1
    · exact absurd rfl h
theorem stmt_kind {vs : List Int} {t m : Int} (ht : t = 21 ∨ t = 22 ∨ t = 23 ∨ t = 24 ∨ t = 25) (h : ruleKind vs m (ruleOf t) ≠ -1) : ruleKind vs m (ruleOf t) = 2 := by
  rcases ht with rfl | rfl | rfl | rfl | rfl
  · have e : ruleOf 21 = .scalar true := by decide
    rw [e] at h ⊢
    simp only [ruleKind, scalarKindV] at h ⊢
    split at h
    · rename_i h1; rw [if_pos h1]; rfl
    · exact absurd rfl h
  · have e : ruleOf 22 = .array [0, 0] 2 := by decide
    rw [e] at h ⊢
    simp only [ruleKind, arrayKindV] at h ⊢
    split at h
    · exact absurd rfl h
    · rename_i h1; rw [if_neg h1]
  · rw [show ruleOf 23 = .plain [1, 2, 2] 2 from by decide]; rfl
  · rw [show ruleOf 24 = .plain [1, 2] 2 from by decide]; rfl
  · rw [show ruleOf 25 = .plain [0] 2 from by decide]; rfl
theorem kv_one (vs : List Int) {y : Nd} (hy : ar y = 0) (is : Int) (hr : ruleOf y.1 = .plain [] is) : kv vs [y] 0 = is := by
  have hw := whole_one hy
  have h0 : 0 ≤ endv [y] ((0 : Nat) : Int) := by
    rw [show ((0 : Nat) : Int) = 0 from rfl, hw]; simp
  have := kv_step vs [y] 0 h0
  have hk : kidsv [y] ((0 : Nat) : Int) = [] := by
    rw [kidsv_eq _ _ h0, arAt_in _ _ (by simp)]
    simp only [List.getElem_cons_zero, hy]
    rfl
  have hn : nodeAt [y] ((0 : Nat) : Int) = y := rfl
  rw [show (0 : Int) = ((0 : Nat) : Int) from rfl, this, hk, hn]
  unfold stepV
  simp only [List.map_nil, List.length_nil, hr, askV, ruleKind]
  split
  · rename_i h; simp at h; exact h.symm
  · simp
/-- The first kid has the kind that is asked for. -/
theorem kid_kind (vs : List Int) (l : List Nd) (k : Nat) (h : kv vs l k ≠ -1) (ha : 0 < arAt l k) (c : Int) (ks : List Int) (is : Int) (hr : ruleOf (nodeAt l k).1 = .plain (c :: ks) is) : kv vs l ((k + 1 : Nat) : Int) = c := by
  have hE := kv_end vs l k h
  have hkl : 0 < (kidsv l k).length := by rw [kidsv_eq _ _ hE, upto_length]; omega
  have := (kv_rule vs l k h).2 0 hkl
  rw [hr, getD_in _ _ _ (by simpa using hkl)] at this
  simp only [List.getElem_map, askV, List.getD_cons_zero] at this
  have h0 : (kidsv l k)[0] = ((k + 1 : Nat) : Int) := by
    simp only [kidsv_eq _ _ hE, upto, List.getElem_map, List.getElem_range]
    simp [kth]
  rw [h0] at this
  exact this
theorem not20 {vs : List Int} {l : List Nd} {k : Nat} {c : Int} (h : kv vs l k = c) (hc : c = 0 ∨ c = 1) : (nodeAt l k).1 ≠ 20 := by
  intro e
  have hne : kv vs l k ≠ -1 := by omega
  have := (kv_rule vs l k hne).1
  rw [e, show ruleOf 20 = .none from by decide] at this
  simp only [ruleKind] at this
  omega
theorem kv_not (vs : List Int) (l : List Nd) (q : Nat) (hq : 0 ≤ endv l q) (h : kv vs l q = 1) : kv vs ((6, 0) :: partV l q) 0 = 1 := by
  have hp := part_whole hq
  have hw : endv ((6, 0) :: partV l q) 0 = ((6, 0) :: partV l q).length := by
    refine whole_of ?_
    rw [show (1 : Nat) = 0 + 1 from rfl, scan_cons, if_neg (by rw [ar_not]; omega), ar_not]
    show (scan 1 _).map _ = _
    rw [whole_scan hp]; simp
  have h0 : 0 ≤ endv ((6, 0) :: partV l q) ((0 : Nat) : Int) := by
    rw [show ((0 : Nat) : Int) = 0 from rfl, hw]; omega
  have hk : kidsv ((6, 0) :: partV l q) ((0 : Nat) : Int) = [((1 : Nat) : Int)] := by
    rw [kidsv_eq _ _ h0, arAt_in _ _ (by simp)]
    simp only [List.getElem_cons_zero, ar_not]
    rfl
  have hkid : kv vs ((6, 0) :: partV l q) ((1 : Nat) : Int) = 1 := by
    have hs : R0 (partV l q) ((6, 0) :: partV l q) 0 1 := by
      refine ⟨(partV l q).length, by rw [show ((0 : Nat) : Int) = 0 from rfl, hp]; omega, fun x hx => ?_⟩
      rw [Nat.zero_add, Nat.add_comm 1 x, List.getElem?_cons_succ]
    have := (kind_seg vs hs).1
    rw [← this]
    have := kind_part vs l q hq
    rw [show ((0 : Nat) : Int) = 0 from rfl, this]
    exact h
  have := kv_step vs ((6, 0) :: partV l q) 0 h0
  have hn : nodeAt ((6, 0) :: partV l q) ((0 : Nat) : Int) = (6, 0) := rfl
  show kv vs ((6, 0) :: partV l q) ((0 : Nat) : Int) = 1
  rw [this, hk, hn]
  unfold stepV
  have hr : ruleOf (6, (0 : Int)).1 = .plain [1] 1 := by show ruleOf 6 = _; decide
  have hkid2 : kv vs ((6, 0) :: partV l q) 1 = 1 := hkid
  simp [hr, hkid2, askV, ruleKind, inner]
/-- The whole's kind stays, and so does that of a node that is no further behind. -/
theorem repl_kinds (vs : List Int) {l r : List Nd} {q : Nat} (hl : endv l 0 = l.length) (hE : 0 ≤ endv l q) (hr : endv r 0 = r.length) (hk : kv vs r 0 = kv vs l q) (ht : sm20 (nodeAt r 0).1 (nodeAt l q).1) (k : Nat) (hkq : k ≤ q) (hend : endv l q ≤ endv l k) :
    kv vs l k = kv vs (replV l q r) k := (kind_sim20 vs l (replV l q r) (R1 l q r) (fun i i' h => r1_step20 vs hE hr hk ht i i' h) l.length k k (by omega) (.inr ⟨hkq, rfl, hend⟩)).1
theorem delta_typed {p : Pg} {k : Nat} {x : Nd} {op n : Int} (h : chk9 p = 0) (hb : p.body.length ≤ 60) (hE : 0 ≤ endv p.body k) (hx : p.body[k]? = some x) (hm : mayV x op n) :
    knd ⟨p.params, p.vars, changedV p.body k x op n⟩ 0 = 2 ∧ knd ⟨p.params, p.vars, changedV p.body k x op n⟩ k = knd p k ∧ (chk9 ⟨p.params, p.vars, changedV p.body k x op n⟩ = 0 ∨ (chk9 ⟨p.params, p.vars, changedV p.body k x op n⟩ = 13 ∧ op = 6)) := by
  obtain ⟨c1, c2, c3, c4⟩ := chk9_ok h
  have hw := check_whole c1
  have hdep : depV p.body.length p.body 0 ≤ 30 := by
    unfold checkV at c1
    split at c1
    · cases c1
    split at c1
    · cases c1
    split at c1
    · cases c1
    split at c1
    · cases c1
    split at c1
    · cases c1
    · omega
  obtain ⟨hk, hxe⟩ := List.getElem?_eq_some_iff.1 hx
  obtain ⟨_, har0, har⟩ := at_ar hE
  rw [hxe] at har0 har
  have hnx : nodeAt p.body k = x := nodeAt_get hx
  have hk0 : k ≠ 0 := by
    rintro rfl
    rw [show ((0 : Nat) : Int) = 0 from rfl] at hnx
    rw [hnx] at c3
    rcases hm with h | h | h | h | h | h | h <;> omega
  obtain ⟨d1, d2, d3, d4⟩ := changed_else hw hE x hx hm
  -- kinds of what is below
  have hkk : ∀ y : Nat, y < p.body.length → 0 ≤ kv p.vars p.body y ∧ kv p.vars p.body y ≤ 2 := fun y hy => by
    rw [knd_kv] at c4
    have hne : kv p.vars p.body ((0 : Nat) : Int) ≠ -1 := by intro e; have : kv p.vars p.body 0 = -1 := e; omega
    exact kind_below p.vars p.body p.body.length 0 (by omega) hne y (by omega) (by rw [show ((0 : Nat) : Int) = 0 from rfl, hw]; omega)
  have key : kv p.vars (changedV p.body k x op n) 0 = kv p.vars p.body 0 ∧ kv p.vars (changedV p.body k x op n) k = kv p.vars p.body k ∧ (depV (changedV p.body k x op n).length (changedV p.body k x op n) 0 ≤ depV p.body.length p.body 0 ∨ op = 6) := by
    by_cases h4 : op ≤ 4
    · obtain ⟨y, h1, h2, h3⟩ := changed_set hE x hx hm h4
      have ha := changed_alike hE x hx hm h4
      have hnode : ∀ i : Nat, i < p.body.length → (i = k ∧ nodeAt p.body i = x ∧ nodeAt (changedV p.body k x op n) i = y) ∨ nodeAt p.body i = nodeAt (changedV p.body k x op n) i := fun i hi => by
        by_cases e : i = k
        · subst e
          refine .inl ⟨rfl, hnx, nodeAt_get ?_⟩
          rw [h1, List.getElem?_set_self hk]
        · right
          unfold nodeAt
          rw [h1, List.getD_eq_getElem?_getD, List.getD_eq_getElem?_getD, List.getElem?_set_ne (by simp; omega)]
      have hkv := kv_alike p.vars p.body (changedV p.body k x op n) ha (fun i hi kk tt => by
        rcases hnode i hi with ⟨_, e1, e2⟩ | e
        · rw [e1, e2]; exact (same_rule hm h4 h3 p.vars kk tt).1
        · rw [e]) (fun i hi => by
        rcases hnode i hi with ⟨_, e1, e2⟩ | e
        · rw [e1, e2]; exact (same_rule hm h4 h3 p.vars [] []).2
        · rw [e]; exact sm20_refl _) p.body.length
      refine ⟨(hkv 0 (by omega)).symm, (hkv k (by omega)).symm, .inl ?_⟩
      rw [← ha.len, ← depV_alike ha]
      exact Int.le_refl _
    · have hgt := endv_gt p.body k hE
      have root : ∀ (q : Nat) (r : List Nd), 0 ≤ endv p.body q → q ≤ p.body.length → endv r 0 = r.length → kv p.vars r 0 = kv p.vars p.body q → sm20 (nodeAt r 0).1 (nodeAt p.body q).1 → kv p.vars (replV p.body q r) 0 = kv p.vars p.body 0 := fun q r a b c d e => by
        have hle := endv_le p.body q
        exact (repl_kinds p.vars hw a c d e 0 (by omega) (by rw [show ((0 : Nat) : Int) = 0 from rfl, hw]; exact hle)).symm
      have hcase : op = 5 ∨ (op = 6 ∧ (x.1 = 23 ∨ x.1 = 24)) ∨ (op = 7 ∧ x.1 = 25) := by
        rcases hm with h | h | h | h | h | h | h
        · omega
        · omega
        · omega
        · omega
        · exact .inl h.1
        · exact .inr (.inl ⟨h.1, h.2.1⟩)
        · exact .inr (.inr h)
      have hkne : kv p.vars p.body k ≠ -1 := by have := hkk k hk; omega
      rcases hcase with ho | ⟨ho, ht⟩ | ⟨ho, ht⟩
      · have hxt : x.1 = 21 ∨ x.1 = 22 ∨ x.1 = 23 ∨ x.1 = 24 ∨ x.1 = 25 := by
          rcases hm with h | h | h | h | h | h | h
          · omega
          · omega
          · omega
          · omega
          · exact h.2.1
          · omega
          · omega
        have e : changedV p.body k x op n = replV p.body k [(26, 0)] := by
          unfold changedV
          rw [if_neg (by omega), if_neg (by omega), if_pos ho]
        have hr := kv_rule p.vars p.body k hkne
        rw [hnx] at hr
        have hk2 : kv p.vars p.body k = 2 := by rw [hr.1]; exact stmt_kind hxt (by rw [← hr.1]; exact hkne)
        have hone := kv_one p.vars (y := (26, 0)) ar_skip 2 (by decide)
        have hs : sm20 (nodeAt [(26, 0)] 0).1 (nodeAt p.body k).1 := by
          rw [hnx]
          exact ⟨fun e => by exact absurd e (by decide), fun e => by omega⟩
        rw [e]
        exact ⟨root k _ hE (by omega) (whole_one ar_skip) (by rw [hone, hk2]) hs, (repl_kinds p.vars hw hE (whole_one ar_skip) (by rw [hone, hk2]) hs k (Nat.le_refl _) (Int.le_refl _)).symm, .inl (dep_repl (26, 0) ar_skip hE _ _ hw (Nat.le_refl _))⟩
      · have ha : 0 < arAt p.body k := by
          rw [har]
          obtain ⟨t, m⟩ := x
          simp only at ht har0
          rcases ht with rfl | rfl
          · rw [ar_if har0]; omega
          · rw [ar_while har0]; omega
        obtain ⟨f1, f2, f3⟩ := first_kid hE ha
        have e : changedV p.body k x op n = replV p.body ((k + 1 : Nat) : Int) ((6, 0) :: partV p.body ((k + 1 : Nat) : Int)) := by
          unfold changedV
          rw [if_neg (by omega), if_neg (by omega), if_neg (by omega), if_pos ho]
          exact ins_repl f1
        have hk1 : kv p.vars p.body ((k + 1 : Nat) : Int) = 1 := by
          rcases ht with ht | ht
          · exact kid_kind p.vars p.body k hkne ha 1 [2, 2] 2 (by rw [hnx, ht]; decide)
          · exact kid_kind p.vars p.body k hkne ha 1 [2] 2 (by rw [hnx, ht]; decide)
        have hn := kv_not p.vars p.body (k + 1) f1 hk1
        have hs : sm20 (nodeAt ((6, 0) :: partV p.body ((k + 1 : Nat) : Int)) 0).1 (nodeAt p.body ((k + 1 : Nat) : Int)).1 := by
          have := not20 hk1 (.inr rfl)
          exact ⟨fun e => by exact absurd e (by show ¬ (6 : Int) = 20; decide), fun e => absurd e this⟩
        rw [e]
        exact ⟨root (k + 1) _ f1 (by omega) (ins_whole f1) (by rw [hn, hk1]) hs, (repl_kinds p.vars hw f1 (ins_whole f1) (by rw [hn, hk1]) hs k (by omega) f2).symm, .inr ho⟩
      · have ha : arAt p.body k = 1 := by
          rw [har]
          obtain ⟨t, m⟩ := x
          simp only at ht har0
          subst ht
          exact ar_ret har0
        obtain ⟨f1, f2, f3⟩ := first_kid hE (by omega)
        have e : changedV p.body k x op n = replV p.body ((k + 1 : Nat) : Int) [(1, n)] := by
          unfold changedV
          rw [if_neg (by omega), if_neg (by omega), if_neg (by omega), if_neg (by omega)]
        have hk1 : kv p.vars p.body ((k + 1 : Nat) : Int) = 0 := kid_kind p.vars p.body k hkne (by omega) 0 [] 2 (by rw [hnx, ht]; decide)
        have hone := kv_one p.vars (y := (1, n)) (ar_int n) 0 (by show ruleOf 1 = _; decide)
        have hs : sm20 (nodeAt [(1, n)] 0).1 (nodeAt p.body ((k + 1 : Nat) : Int)).1 := by
          have := not20 hk1 (.inl rfl)
          exact ⟨fun e => by exact absurd e (by show ¬ (1 : Int) = 20; decide), fun e => absurd e this⟩
        rw [e]
        exact ⟨root (k + 1) _ f1 (by omega) (whole_one (ar_int n)) (by rw [hone, hk1]) hs, (repl_kinds p.vars hw f1 (whole_one (ar_int n)) (by rw [hone, hk1]) hs k (by omega) f2).symm, .inl (dep_repl (1, n) (ar_int n) f1 _ _ hw (Nat.le_refl _))⟩
  obtain ⟨k1, k2, k3⟩ := key
  have hk2 : knd ⟨p.params, p.vars, changedV p.body k x op n⟩ 0 = 2 := by rw [knd_kv]; simp only; rw [k1]; exact c4
  have hn0 : nodeAt (changedV p.body k x op n) 0 = nodeAt p.body 0 := by
    unfold nodeAt
    rw [List.getD_eq_getElem?_getD, List.getD_eq_getElem?_getD, show (0 : Int).toNat = 0 from rfl, d3 0 (by omega)]
  have hv : varsV ⟨p.params, p.vars, changedV p.body k x op n⟩ = 0 := c2
  refine ⟨hk2, by rw [knd_kv, knd_kv]; exact k2, ?_⟩
  unfold chk9
  rcases whole_check d1 (by omega) with hc | ⟨hc, hd⟩
  · refine .inl ?_
    rw [if_neg (by simp [hc]), if_neg (by simp [hv]), if_neg]
    rw [not_or]
    exact ⟨Decidable.not_not.2 (by simp only; rw [hn0]; exact c3), Decidable.not_not.2 hk2⟩
  · rcases k3 with k3 | k3
    · omega
    · refine .inr ⟨?_, k3⟩
      rw [if_pos (by simp [hc])]
      exact hc
end Go.Proofs.Ytalehbmgbjiigaa
end

section
namespace Go.Proofs.Ytalehbmgbjiigaa
open Go.RowKit
set_option linter.unusedVariables false
set_option linter.unusedSimpArgs false

def choicesV (l : List Nd) (i : Int) : List (Int × Int) := if endv l i < 0 then [] else choiceV (nodeAt l i) (nodeAt l (i + 1))
/-- Is there such a choice? -/
def isC (l : List Nd) (i op n : Int) : Prop := 0 ≤ endv l i ∧ isN (nodeAt l i) (nodeAt l (i + 1)) op n
instance (l : List Nd) (i op n : Int) : Decidable (isC l i op n) := by unfold isC; infer_instance
theorem choices_is (l : List Nd) (i op n : Int) : (op, n) ∈ choicesV l i ↔ isC l i op n := by
  unfold choicesV isC
  split
  · simp; omega
  · rw [choice_is]; exact ⟨fun h => ⟨by omega, h⟩, fun h => h.2⟩
theorem choices_sorted (l : List Nd) (i : Int) : (choicesV l i).Pairwise lexR := by
  unfold choicesV
  split
  · simp
  · exact choice_sorted _ _
theorem choices_short (l : List Nd) (i : Int) : (choicesV l i).length ≤ 5 := by
  unfold choicesV
  split
  · simp
  · exact nums_short _ _
/-- The next node counts at a Return alone. -/
theorem choice_next (x y z : Nd) (h : x.1 = 25 → y = z) : choiceV x y = choiceV x z := by
  by_cases e : x.1 = 25
  · rw [h e]
  · unfold choiceV numsV
    rw [if_neg e, if_neg e]
theorem part_get (l : List Nd) (k : Nat) (hE : 0 ≤ endv l k) (j : Nat) (hj : ((k + j : Nat) : Int) < endv l k) : (partV l k)[j]? = l[k + j]? := by
  have hle := endv_le l k
  rw [partV, if_neg (by omega)]
  simp only [Int.toNat_natCast]
  rw [List.getElem?_drop, List.getElem?_take_of_lt (by omega)]
theorem nodeAt_part (l : List Nd) (k : Nat) (hE : 0 ≤ endv l k) (j : Nat) (hj : ((k + j : Nat) : Int) < endv l k) : nodeAt (partV l k) j = nodeAt l ((k + j : Nat) : Int) := by
  unfold nodeAt
  rw [Int.toNat_natCast, Int.toNat_natCast, List.getD_eq_getElem?_getD, List.getD_eq_getElem?_getD, part_get l k hE j hj]
theorem choices_part (l : List Nd) (i : Int) : choicesV (partV l i) 0 = choicesV l i := by
  by_cases hE : endv l i < 0
  · have e : partV l i = [] := by rw [partV, if_pos hE]
    unfold choicesV
    rw [if_pos hE, e, if_pos (by decide)]
  · have h0 : 0 ≤ endv l i := by omega
    obtain ⟨k, rfl⟩ := Int.eq_ofNat_of_zero_le (endv_in l i h0).1
    have hgt := endv_gt l k h0
    have hw := part_whole h0
    have hn := nodeAt_part l k h0 0 (by omega)
    unfold choicesV
    rw [if_neg (by rw [hw]; omega), if_neg hE]
    rw [show ((0 : Nat) : Int) = 0 from rfl] at hn
    rw [hn, Nat.add_zero]
    refine choice_next _ _ _ fun h25 => ?_
    obtain ⟨f1, f2, f3⟩ := ret_kid l k h0 h25
    have hg := endv_gt l _ f1
    have := nodeAt_part l k h0 1 (by omega)
    rw [show (0 : Int) + 1 = ((1 : Nat) : Int) from rfl, this]
    rfl
theorem is_may (l : List Nd) (k : Nat) (op n : Int) (h : isC l k op n) : mayV (nodeAt l k) op n ∧ 1 ≤ op ∧ op ≤ 7 := by
  obtain ⟨hE, h⟩ := h
  obtain ⟨hk, h0, _⟩ := at_ar hE
  rw [nodeAt_in l k hk] at h ⊢
  generalize l[k] = x at *
  rcases h with h | h | h | h | h | h | h
  · exact ⟨.inl ⟨h.1, h.2.1, h.2.2.1, h.2.2.2.1, h.2.2.2.2.1⟩, by omega, by omega⟩
  · exact ⟨.inr (.inl ⟨h.1, h.2.1, h.2.2.1, h.2.2.2.1, h.2.2.2.2.1⟩), by omega, by omega⟩
  · exact ⟨.inr (.inr (.inl ⟨h.1, h.2.1, h.2.2.1, h.2.2.2.1, h.2.2.2.2.1⟩)), by omega, by omega⟩
  · refine ⟨.inr (.inr (.inr (.inl ⟨h.1, ?_⟩))), by omega, by omega⟩
    rcases h.2 with h2 | h2
    · exact .inl h2.1
    · right
      obtain ⟨t, m⟩ := x
      simp only at h2 h0 ⊢
      obtain ⟨rfl, h2⟩ := h2
      have hb : 0 ≤ m ∧ m ≤ 1 := by
        unfold ar at h0
        rw [if_neg (show ¬ ((2 : Int) = 1) from by decide)] at h0
        have : lim 2 m = (1, 0) := rfl
        simp only [this] at h0
        split at h0 <;> omega
      have e1 : w64 (1 - 0) = 1 := by decide
      have e2 : w64 (1 - 1) = 0 := by decide
      have : m = 0 ∨ m = 1 := by omega
      rcases this with rfl | rfl
      · rw [e1] at h2; exact ⟨rfl, by omega, by omega⟩
      · rw [e2] at h2; exact ⟨rfl, by omega, by omega⟩
  · exact ⟨.inr (.inr (.inr (.inr (.inl h)))), by omega, by omega⟩
  · exact ⟨.inr (.inr (.inr (.inr (.inr (.inl h))))), by omega, by omega⟩
  · exact ⟨.inr (.inr (.inr (.inr (.inr (.inr ⟨h.1, h.2.1⟩))))), by omega, by omega⟩
theorem bool_num {l : List Nd} {k : Nat} (hE : 0 ≤ endv l k) (h : (nodeAt l k).1 = 2) : 0 ≤ (nodeAt l k).2 ∧ (nodeAt l k).2 ≤ 1 := by
  obtain ⟨hk, h0, _⟩ := at_ar hE
  rw [nodeAt_in l k hk] at h ⊢
  generalize l[k] = x at *
  obtain ⟨t, m⟩ := x
  simp only at h h0 ⊢
  subst h
  unfold ar at h0
  rw [if_neg (show ¬ ((2 : Int) = 1) from by decide)] at h0
  have : lim 2 m = (1, 0) := rfl
  simp only [this] at h0
  split at h0 <;> omega
/-- What a choice makes is another list. -/
theorem choice_other (l : List Nd) (k : Nat) (op n : Int) (h : isC l k op n) : changedV l k (nodeAt l k) op n ≠ l := by
  have hm := (is_may l k op n h).1
  obtain ⟨hE, h⟩ := h
  obtain ⟨hk, h0, har⟩ := at_ar hE
  have hx : l[k]? = some (nodeAt l k) := by rw [nodeAt_in l k hk]; exact List.getElem?_eq_getElem hk
  have hgt := endv_gt l k hE
  intro e
  by_cases h4 : op ≤ 4
  · obtain ⟨y, h1, h2, h3⟩ := changed_set hE _ hx hm h4
    have hy : (changedV l k (nodeAt l k) op n)[k]? = some y := by rw [h1, List.getElem?_set_self hk]
    rw [e, hx] at hy
    have hyx : nodeAt l k = y := by simpa using hy
    rcases h with h | h | h | h | h | h | h
    · rcases h3 with ⟨_, rfl⟩ | ⟨o, _⟩
      · have := congrArg Prod.fst hyx; simp only at this; omega
      · omega
    · rcases h3 with ⟨_, rfl⟩ | ⟨o, _⟩
      · have := congrArg Prod.fst hyx; simp only at this; omega
      · omega
    · rcases h3 with ⟨_, rfl⟩ | ⟨o, _⟩
      · have := congrArg Prod.fst hyx; simp only at this; omega
      · omega
    · rcases h3 with ⟨o, _⟩ | ⟨_, rfl⟩
      · omega
      · have := congrArg Prod.snd hyx
        simp only at this
        rcases h.2 with h5 | h5
        · exact h5.2.2 this.symm
        · have hb := bool_num hE h5.1
          have e1 : w64 (1 - 0) = 1 := by decide
          have e2 : w64 (1 - 1) = 0 := by decide
          have : (nodeAt l k).2 = 0 ∨ (nodeAt l k).2 = 1 := by omega
          rcases this with e | e
          · rw [e, e1] at h5; omega
          · rw [e, e2] at h5; omega
    · omega
    · omega
    · omega
  · have hkr : ∀ (q : Nat) (r : List Nd), 0 ≤ endv l q → replV l q r = l → ∀ j (hj : j < r.length), l[q + j]? = r[j]? := by
      intro q r hq e' j hj
      have hql : q < l.length := by have := (endv_in l q hq).2; simpa using this
      have this : (replV l q r)[q + j]? = l[q + j]? := by rw [e']
      rw [← this, replV, if_neg (by omega), List.append_assoc, List.getElem?_append_right (by simp; omega)]
      simp only [Int.toNat_natCast, List.length_take]
      rw [List.getElem?_append_left (by omega)]
      congr 1
      omega
    have ho : (op = 5 ∧ (nodeAt l k).1 ≠ 26) ∨ (op = 6) ∨ (op = 7 ∧ (nodeAt l k).1 = 25 ∧ nodeAt l (k + 1) ≠ (1, n)) := by
      rcases h with h | h | h | h | h | h | h
      · omega
      · omega
      · omega
      · omega
      · exact .inl ⟨h.1, by omega⟩
      · exact .inr (.inl h.1)
      · exact .inr (.inr ⟨h.1, h.2.1, h.2.2.2⟩)
    rcases ho with ⟨ho, h26⟩ | ho | ⟨ho, ht, hne⟩
    · unfold changedV at e
      rw [if_neg (by omega), if_neg (by omega), if_pos ho] at e
      have := hkr k _ hE e 0 (by simp)
      rw [Nat.add_zero, hx] at this
      have e2 : nodeAt l k = (26, 0) := by simpa using this
      rw [e2] at h26
      exact h26 rfl
    · unfold changedV at e
      rw [if_neg (by omega), if_neg (by omega), if_neg (by omega), if_pos ho] at e
      have := congrArg List.length e
      simp at this
      omega
    · obtain ⟨f1, f2, f3⟩ := ret_kid l k hE ht
      unfold changedV at e
      rw [if_neg (by omega), if_neg (by omega), if_neg (by omega), if_neg (by omega)] at e
      have := hkr (k + 1) _ f1 e 0 (by simp)
      rw [Nat.add_zero] at this
      apply hne
      have e2 := nodeAt_get (k := k + 1) this
      exact e2
/-- What changes a node's tag is a choice the other way round. -/
theorem choice_back (l : List Nd) (k : Nat) (op n : Int) (h : isC l k op n) (h3 : op ≤ 3) : (nodeAt (changedV l k (nodeAt l k) op n) k).1 = n ∧ isC (changedV l k (nodeAt l k) op n) k op (nodeAt l k).1 ∧ ¬ isC (changedV l k (nodeAt l k) op n) k op n := by
  have hm := (is_may l k op n h).1
  obtain ⟨hE, h⟩ := h
  obtain ⟨hk, h0, har⟩ := at_ar hE
  have hx : l[k]? = some (nodeAt l k) := by rw [nodeAt_in l k hk]; exact List.getElem?_eq_getElem hk
  obtain ⟨y, h1, h2, h4⟩ := changed_set hE _ hx hm (by omega)
  have ha := changed_alike hE _ hx hm (by omega)
  have hy : nodeAt (changedV l k (nodeAt l k) op n) k = y := nodeAt_get (by rw [h1, List.getElem?_set_self hk])
  have hE' : 0 ≤ endv (changedV l k (nodeAt l k) op n) k := by rw [← endv_alike ha]; exact hE
  rcases h4 with ⟨_, rfl⟩ | ⟨o, _⟩
  · rw [hy]
    refine ⟨rfl, ⟨hE', ?_⟩, fun hh => ?_⟩
    · rw [hy]
      rcases h with h | h | h | h | h | h | h
      · exact .inl ⟨h.1, h.2.2.2.1, h.2.2.2.2.1, h.2.1, h.2.2.1, fun e => h.2.2.2.2.2 e.symm⟩
      · exact .inr (.inl ⟨h.1, h.2.2.2.1, h.2.2.2.2.1, h.2.1, h.2.2.1, fun e => h.2.2.2.2.2 e.symm⟩)
      · exact .inr (.inr (.inl ⟨h.1, h.2.2.2.1, h.2.2.2.2.1, h.2.1, h.2.2.1, fun e => h.2.2.2.2.2 e.symm⟩))
      · omega
      · omega
      · omega
      · omega
    · obtain ⟨_, hh⟩ := hh
      rw [hy] at hh
      rcases hh with h | h | h | h | h | h | h
      · exact h.2.2.2.2.2 rfl
      · exact h.2.2.2.2.2 rfl
      · exact h.2.2.2.2.2 rfl
      · omega
      · omega
      · omega
      · omega
  · omega
theorem part_pos {l : List Nd} {i : Int} (h : 0 ≤ endv l i) : endv (partV l i) 0 = (partV l i).length ∧ 0 < (partV l i).length := by
  obtain ⟨k, rfl⟩ := Int.eq_ofNat_of_zero_le (endv_in l i h).1
  have hw := part_whole h
  refine ⟨hw, ?_⟩
  have hgt := endv_gt (partV l k) 0 (by rw [hw]; omega)
  rw [hw] at hgt
  omega
end Go.Proofs.Ytalehbmgbjiigaa
end
