import Derived.Test.YtinnbafplhcnpaaGreatHj
import Derived.Test.YtinnbafplhcnpaaGreatHk
import Derived.Test.YtinnbafplhcnpaaGreatHl
import Derived.Test.YtinnbafplhcnpaaGreatHm
import Derived.Test.YtinnbafplhcnpaaGreatHp
section
namespace Go.Proofs.YtinnbafplhcnpaaGreat
open Go.RowKit
set_option linter.unusedVariables false
set_option linter.unusedSimpArgs false
end Go.Proofs.YtinnbafplhcnpaaGreat
end
section
namespace Go.Proofs.YtinnbafplhcnpaaGreat
open Go.RowKit
set_option linter.unusedVariables false
set_option linter.unusedSimpArgs false
theorem Qey (p : Pg) (i : Int) : knd p i = kv p.vars p.body i := rfl
theorem Qde {p : Pg} (h : chk9 p = 0) : Jch p.body = 0 /\ Joc p = 0 /\ (nodeAt p.body 0).1 = 20 /\ knd p 0 = 2 := by
  unfold chk9 at h
  by_cases h1 : Jch p.body = 0
  · rw [if_neg (by simp [h1])] at h
    by_cases h2 : Joc p = 0
    · rw [if_neg (by simp [h2])] at h
      split at h
      · cases h
      · rename_i h3
        rw [not_or] at h3
        exact ⟨h1, h2, Decidable.not_not.1 h3.1, Decidable.not_not.1 h3.2⟩
    · rw [if_pos h2] at h; exact absurd h h2
  · rw [if_pos h1] at h; exact absurd h h1
theorem Jty {l : List Nd} (h : Jch l = 0) : endv l 0 = l.length := by
  unfold Jch at h
  split at h
  · cases h
  split at h
  · cases h
  split at h
  · cases h
  split at h
  · cases h
  · rename_i h4; exact Decidable.not_not.1 h4
theorem Jy0 : ∀ (l : List Nd) (a : Nat), scan a l = some l.length -> ∀ x ∈ l, 0 <= ar x
  | [], a, h => by simp
  | x :: r, 0, h => by rw [Jd5] at h; simp at h
  | x :: r, a + 1, h => by
    rw [Jc6] at h
    split at h
    · cases h
    · rename_i hx
      obtain ⟨c, hc, e⟩ := Option.map_eq_some_iff.1 h
      have hc' : scan (a + (ar x).toNat) r = some r.length := by rw [hc]; simp at e; rw [e]
      intro y hy
      rcases List.mem_cons.1 hy with rfl | hy
      · omega
      · exact Jy0 r _ hc' y hy
theorem Qf4 {l : List Nd} (h : endv l 0 = l.length) : Jf0 l = false := by
  have := Jy0 l 1 (Je7 h)
  unfold Jf0
  simpa using this
theorem Qbp {l : List Nd} (h : endv l 0 = l.length) (hl : l.length <= 200) : Jch l = 0 \/ (Jch l = 13 /\ 30 < depV l.length l 0) := by
  have h0 := Qil h
  unfold Jch
  rw [if_neg (by omega), if_neg (by omega), if_neg (by simp [Qf4 h]), if_neg (by simp [h])]
  split
  · rename_i hd; exact .inr ⟨rfl, hd⟩
  · exact .inl rfl
end Go.Proofs.YtinnbafplhcnpaaGreat
end
section
namespace Go.Proofs.YtinnbafplhcnpaaGreat
open Go.RowKit
set_option linter.unusedVariables false
set_option linter.unusedSimpArgs false
theorem Qex (vs : List Int) (l l' : List Nd) (h : Alike l l') (hn : ∀ i : Nat, i < l.length -> ∀ kk tt, Jku vs (nodeAt l i) kk tt = Jku vs (nodeAt l' i) kk tt) (ht : ∀ i : Nat, i < l.length -> sm20 (nodeAt l i).1 (nodeAt l' i).1) : ∀ (n i : Nat), l.length <= i + n -> kv vs l i = kv vs l' i
  | 0, i, hi => by
    have e : endv l i < 0 := by
      rcases Jdo l i with h | h
      · omega
      · have := (Ja2 l i h).2; omega
    rw [Qj6 _ _ _ e, Qj6 _ _ _ (by rw [<- Jg5 h]; exact e)]
  | n + 1, i, hi => by
    by_cases e : endv l i < 0
    · rw [Qj6 _ _ _ e, Qj6 _ _ _ (by rw [<- Jg5 h]; exact e)]
    · have h0 : 0 <= endv l i := by omega
      have h0' : 0 <= endv l' i := by rw [<- Jg5 h]; exact h0
      have hil : i < l.length := by have := (Ja2 l i h0).2; simpa using this
      rw [Jjw _ _ _ h0, Jjw _ _ _ h0', hn i hil, <- Jtd h]
      have kid : ∀ j (hj : j < (Jab l i).length), ∃ a : Nat, (Jab l i)[j] = a /\ i < a /\ a < l.length := fun j hj => by
        have hf := Jbc l i j hj
        obtain ⟨a, ha⟩ := Int.eq_ofNat_of_zero_le (show 0 <= (Jab l i)[j] by omega)
        rw [ha] at hf
        exact ⟨a, ha, by omega, by have := hf.2.2.2; simpa using this⟩
      refine Ju7 vs _ _ _ _ _ ?_ (by simp) ?_
      · refine List.map_congr_left fun x hx => ?_
        obtain ⟨j, hj, rfl⟩ := List.getElem_of_mem hx
        obtain ⟨a, ha, h1, h2⟩ := kid j hj
        rw [ha]
        exact Qex vs l l' h hn ht n a (by omega)
      · intro j hj
        have hj1 : j < (Jab l i).length := by simpa using hj
        rw [getD_in _ _ _ (by simpa using hj1), getD_in _ _ _ (by simpa using hj1)]
        simp only [List.getElem_map]
        obtain ⟨a, ha, h1, h2⟩ := kid j hj1
        rw [ha]
        exact ht a h2
theorem Jlu (vs : List Int) (x y : Nd) (ks : List Int) (is : Int) (h1 : Jb6 x.1 = .plain ks is) (h2 : Jb6 y.1 = .plain ks is) (hi : inner x.1 = inner y.1) (kk tt : List Int) : Jku vs x kk tt = Jku vs y kk tt := by
  unfold Jku
  simp only [h1, h2, hi, Jau, askV]
theorem Jvb {t : Int} (h1 : 7 <= t) (h2 : t <= 11) : Jb6 t = .plain [0, 0] 0 /\ inner t = false := by
  have : t = 7 \/ t = 8 \/ t = 9 \/ t = 10 \/ t = 11 := by omega
  rcases this with rfl | rfl | rfl | rfl | rfl <;> decide
theorem Qed {t : Int} (h1 : 12 <= t) (h2 : t <= 17) : Jb6 t = .plain [0, 0] 1 /\ inner t = false := by
  have : t = 12 \/ t = 13 \/ t = 14 \/ t = 15 \/ t = 16 \/ t = 17 := by omega
  rcases this with rfl | rfl | rfl | rfl | rfl | rfl <;> decide
theorem Jva {t : Int} (h1 : 18 <= t) (h2 : t <= 19) : Jb6 t = .plain [1, 1] 1 /\ inner t = false := by
  have : t = 18 \/ t = 19 := by omega
  rcases this with rfl | rfl <;> decide
theorem Jy1 {x y : Nd} {op n : Int} (h : mayV x op n) (h4 : op <= 4) (hy : (op <= 3 /\ y = (n, x.2)) \/ (op = 4 /\ y = (x.1, n))) (vs kk tt : List Int) : Jku vs x kk tt = Jku vs y kk tt /\ sm20 x.1 y.1 := by
  have hne : ∀ {a b : Int}, a ≠ 20 -> b ≠ 20 -> sm20 a b := fun ha hb => ⟨fun e => absurd e ha, fun e => absurd e hb⟩
  rcases h with h | h | h | h | h | h | h
  · rcases hy with ⟨_, rfl⟩ | ⟨e, _⟩
    · have a := Jvb h.2.1 h.2.2.1
      have b := Jvb h.2.2.2.1 h.2.2.2.2
      exact ⟨Jlu vs x (n, x.2) _ _ a.1 b.1 (by rw [a.2, b.2]) kk tt, hne (by omega) (by show n ≠ 20; omega)⟩
    · omega
  · rcases hy with ⟨_, rfl⟩ | ⟨e, _⟩
    · have a := Qed h.2.1 h.2.2.1
      have b := Qed h.2.2.2.1 h.2.2.2.2
      exact ⟨Jlu vs x (n, x.2) _ _ a.1 b.1 (by rw [a.2, b.2]) kk tt, hne (by omega) (by show n ≠ 20; omega)⟩
    · omega
  · rcases hy with ⟨_, rfl⟩ | ⟨e, _⟩
    · have a := Jva h.2.1 h.2.2.1
      have b := Jva h.2.2.2.1 h.2.2.2.2
      exact ⟨Jlu vs x (n, x.2) _ _ a.1 b.1 (by rw [a.2, b.2]) kk tt, hne (by omega) (by show n ≠ 20; omega)⟩
    · omega
  · rcases hy with ⟨e, _⟩ | ⟨_, rfl⟩
    · omega
    · refine ⟨?_, Jsk _⟩
      rcases h.2 with e | ⟨e, _⟩
      · exact Jlu vs x (x.1, n) [] 0 (by rw [e]; decide) (by simp only [e]; decide) rfl kk tt
      · exact Jlu vs x (x.1, n) [] 1 (by rw [e]; decide) (by simp only [e]; decide) rfl kk tt
  · omega
  · omega
  · omega
theorem Qcv     (vs : List Int) (l : List Nd) (k : Nat) (h : kv vs l k ≠ -1) : kv vs l k = Jau      vs (nodeAt l k).2 (Jb6    (nodeAt l k).1) ∧
    ∀ j, j < (Jab l k).length -> ((Jab l k).map (kv vs l)).getD j 0 = (askV vs (nodeAt l k) (Jab l k).length (Jb6 (nodeAt l k).1)).getD j 0 := by
  have hE := Qew vs l k h
  have hs := Jjw vs l k hE
  rw [hs] at h ⊢
  unfold Jku at h ⊢
  simp only [List.length_map] at h ⊢
  split at h
  · exact absurd rfl h
  · rename_i h1
    rw [if_neg h1]
    split at h
    · rename_i h2
      rw [if_pos h2]
      refine ⟨rfl, fun j hj => ?_⟩
      have := List.all_eq_true.1 h2 j (by simpa using hj)
      simp only [Bool.and_eq_true, decide_eq_true_eq] at this
      exact this.1
    · exact absurd rfl h
theorem Qir {vs : List Int} {t m : Int} (ht : t = 21 \/ t = 22 \/ t = 23 \/ t = 24 \/ t = 25) (h : Jau vs m (Jb6 t) ≠ -1) : Jau vs m (Jb6 t) = 2 := by
  rcases ht with rfl | rfl | rfl | rfl | rfl
  · have e : Jb6 21 = .scalar true := by decide
    rw [e] at h ⊢
    simp only [Jau, Jcv] at h ⊢
    split at h
    · rename_i h1; rw [if_pos h1]; rfl
    · exact absurd rfl h
  · have e : Jb6 22 = .array [0, 0] 2 := by decide
    rw [e] at h ⊢
    simp only [Jau, Jeo] at h ⊢
    split at h
    · exact absurd rfl h
    · rename_i h1; rw [if_neg h1]
  · rw [show Jb6 23 = .plain [1, 2, 2] 2 from by decide]; rfl
  · rw [show Jb6 24 = .plain [1, 2] 2 from by decide]; rfl
  · rw [show Jb6 25 = .plain [0] 2 from by decide]; rfl
theorem Qqc (vs : List Int) {y : Nd} (hy : ar y = 0) (is : Int) (hr : Jb6 y.1 = .plain [] is) : kv vs [y] 0 = is := by
  have hw := Jil hy
  have h0 : 0 <= endv [y] ((0 : Nat) : Int) := by
    rw [show ((0 : Nat) : Int) = 0 from rfl, hw]; simp
  have := Jjw vs [y] 0 h0
  have hk : Jab [y] ((0 : Nat) : Int) = [] := by
    rw [Jcb _ _ h0, Jb1 _ _ (by simp)]
    simp only [List.getElem_cons_zero, hy]
    rfl
  have hn : nodeAt [y] ((0 : Nat) : Int) = y := rfl
  rw [show (0 : Int) = ((0 : Nat) : Int) from rfl, this, hk, hn]
  unfold Jku
  simp only [List.map_nil, List.length_nil, hr, askV, Jau]
  split
  · rename_i h; simp at h; exact h.symm
  · simp
theorem Jxg (vs : List Int) (l : List Nd) (k : Nat) (h : kv vs l k ≠ -1) (ha : 0 < arAt l k) (c : Int) (ks : List Int) (is : Int) (hr : Jb6 (nodeAt l k).1 = .plain (c :: ks) is) : kv vs l ((k + 1 : Nat) : Int) = c := by
  have hE := Qew vs l k h
  have hkl : 0 < (Jab l k).length := by rw [Jcb _ _ hE, upto_length]; omega
  have := (Qcv vs l k h).2 0 hkl
  rw [hr, getD_in _ _ _ (by simpa using hkl)] at this
  simp only [List.getElem_map, askV, List.getD_cons_zero] at this
  have h0 : (Jab l k)[0] = ((k + 1 : Nat) : Int) := by
    simp only [Jcb _ _ hE, upto, List.getElem_map, List.getElem_range]
    simp [kth]
  rw [h0] at this
  exact this
theorem not20 {vs : List Int} {l : List Nd} {k : Nat} {c : Int} (h : kv vs l k = c) (hc : c = 0 \/ c = 1) : (nodeAt l k).1 ≠ 20 := by
  intro e
  have hne : kv vs l k ≠ -1 := by omega
  have := (Qcv vs l k hne).1
  rw [e, show Jb6 20 = .none from by decide] at this
  simp only [Jau] at this
  omega
theorem kv_not (vs : List Int) (l : List Nd) (q : Nat) (hq : 0 <= endv l q) (h : kv vs l q = 1) : kv vs ((6, 0) :: Jcq l q) 0 = 1 := by
  have hp := Jm7 hq
  have hw : endv ((6, 0) :: Jcq l q) 0 = ((6, 0) :: Jcq l q).length := by
    refine Jm2 ?_
    rw [show (1 : Nat) = 0 + 1 from rfl, Jc6, if_neg (by rw [Qa1]; omega), Qa1]
    show (scan 1 _).map _ = _
    rw [Je7 hp]; simp
  have h0 : 0 <= endv ((6, 0) :: Jcq l q) ((0 : Nat) : Int) := by
    rw [show ((0 : Nat) : Int) = 0 from rfl, hw]; omega
  have hk : Jab ((6, 0) :: Jcq l q) ((0 : Nat) : Int) = [((1 : Nat) : Int)] := by
    rw [Jcb _ _ h0, Jb1 _ _ (by simp)]
    simp only [List.getElem_cons_zero, Qa1]
    rfl
  have hkid : kv vs ((6, 0) :: Jcq l q) ((1 : Nat) : Int) = 1 := by
    have hs : R0 (Jcq l q) ((6, 0) :: Jcq l q) 0 1 := by
      refine ⟨(Jcq l q).length, by rw [show ((0 : Nat) : Int) = 0 from rfl, hp]; omega, fun x hx => ?_⟩
      rw [Nat.zero_add, Nat.add_comm 1 x, List.getElem?_cons_succ]
    have := (Jxf vs hs).1
    rw [<- this]
    have := Qj7 vs l q hq
    rw [show ((0 : Nat) : Int) = 0 from rfl, this]
    exact h
  have := Jjw vs ((6, 0) :: Jcq l q) 0 h0
  have hn : nodeAt ((6, 0) :: Jcq l q) ((0 : Nat) : Int) = (6, 0) := rfl
  show kv vs ((6, 0) :: Jcq l q) ((0 : Nat) : Int) = 1
  rw [this, hk, hn]
  unfold Jku
  have hr : Jb6 (6, (0 : Int)).1 = .plain [1] 1 := by show Jb6 6 = _; decide
  have hkid2 : kv vs ((6, 0) :: Jcq l q) 1 = 1 := hkid
  simp [hr, hkid2, askV, Jau, inner]
theorem Jm4        (vs : List Int) {l r : List Nd} {q : Nat} (hl : endv l 0 = l.length) (hE : 0 ≤ endv l q) (hr : endv r 0 = r.length) (hk : kv vs r 0 = kv vs l q) (ht : sm20 (nodeAt r 0).1 (nodeAt l q).1) (k : Nat) (hkq : k ≤ q) (hend : endv l q ≤ endv l k) :
    kv vs l k = kv vs (Jbx l q r) k := (Jvn vs l (Jbx l q r) (R1 l q r) (fun i i' h => Qjd vs hE hr hk ht i i' h) l.length k k (by omega) (.inr ⟨hkq, rfl, hend⟩)).1
theorem Qc9         {p : Pg} {k : Nat} {x : Nd} {op n : Int} (h : chk9 p = 0) (hb : p.body.length ≤ 60) (hE : 0 ≤ endv p.body k) (hx : p.body[k]? = some x) (hm : mayV x op n) :
    knd ⟨p.params, p.vars, Jaw p.body k x op n⟩ 0 = 2 /\ knd ⟨p.params, p.vars, Jaw p.body k x op n⟩ k = knd p k /\ (chk9 ⟨p.params, p.vars, Jaw p.body k x op n⟩ = 0 \/ (chk9 ⟨p.params, p.vars, Jaw p.body k x op n⟩ = 13 /\ op = 6)) := by
  obtain ⟨c1, c2, c3, c4⟩ := Qde h
  have hw := Jty c1
  have hdep : depV p.body.length p.body 0 <= 30 := by
    unfold Jch at c1
    split at c1
    · cases c1
    split at c1
    · cases c1
    split at c1
    · cases c1
    split at c1
    · cases c1
    split at c1
    · cases c1
    · omega
  obtain ⟨hk, hxe⟩ := List.getElem?_eq_some_iff.1 hx
  obtain ⟨_, har0, har⟩ := Jyc hE
  rw [hxe] at har0 har
  have hnx : nodeAt p.body k = x := Jm9 hx
  have hk0 : k ≠ 0 := by
    rintro rfl
    rw [show ((0 : Nat) : Int) = 0 from rfl] at hnx
    rw [hnx] at c3
    rcases hm with h | h | h | h | h | h | h <;> omega
  obtain ⟨d1, d2, d3, d4⟩ := Jmr hw hE x hx hm
  -- kinds of what is below
  have hkk : ∀ y : Nat, y < p.body.length -> 0 <= kv p.vars p.body y /\ kv p.vars p.body y <= 2 := fun y hy => by
    rw [Qey] at c4
    have hne : kv p.vars p.body ((0 : Nat) : Int) ≠ -1 := by intro e; have : kv p.vars p.body 0 = -1 := e; omega
    exact Jvo p.vars p.body p.body.length 0 (by omega) hne y (by omega) (by rw [show ((0 : Nat) : Int) = 0 from rfl, hw]; omega)
  have key : kv p.vars (Jaw p.body k x op n) 0 = kv p.vars p.body 0 /\ kv p.vars (Jaw p.body k x op n) k = kv p.vars p.body k /\ (depV (Jaw p.body k x op n).length (Jaw p.body k x op n) 0 <= depV p.body.length p.body 0 \/ op = 6) := by
    by_cases h4 : op <= 4
    · obtain ⟨y, h1, h2, h3⟩ := Jg6 hE x hx hm h4
      have ha := Jpp hE x hx hm h4
      have hnode : ∀ i : Nat, i < p.body.length -> (i = k /\ nodeAt p.body i = x /\ nodeAt (Jaw p.body k x op n) i = y) \/ nodeAt p.body i = nodeAt (Jaw p.body k x op n) i := fun i hi => by
        by_cases e : i = k
        · subst e
          refine .inl ⟨rfl, hnx, Jm9 ?_⟩
          rw [h1, List.getElem?_set_self hk]
        · right
          unfold nodeAt
          rw [h1, List.getD_eq_getElem?_getD, List.getD_eq_getElem?_getD, List.getElem?_set_ne (by simp; omega)]
      have hkv := Qex p.vars p.body (Jaw p.body k x op n) ha (fun i hi kk tt => by
        rcases hnode i hi with ⟨_, e1, e2⟩ | e
        · rw [e1, e2]; exact (Jy1 hm h4 h3 p.vars kk tt).1
        · rw [e]) (fun i hi => by
        rcases hnode i hi with ⟨_, e1, e2⟩ | e
        · rw [e1, e2]; exact (Jy1 hm h4 h3 p.vars [] []).2
        · rw [e]; exact Jsk       _) p.body.length
      refine ⟨(hkv 0 (by omega)).symm, (hkv k (by omega)).symm, .inl ?_⟩
      rw [<- ha.len, <- Jvz ha]
      exact Int.le_refl _
    · have hgt := Jd2 p.body k hE
      have root : ∀ (q : Nat) (r : List Nd), 0 <= endv p.body q -> q <= p.body.length -> endv r 0 = r.length -> kv p.vars r 0 = kv p.vars p.body q -> sm20 (nodeAt r 0).1 (nodeAt p.body q).1 -> kv p.vars (Jbx p.body q r) 0 = kv p.vars p.body 0 := fun q r a b c d e => by
        have hle := Jgl p.body q
        exact (Jm4 p.vars hw a c d e 0 (by omega) (by rw [show ((0 : Nat) : Int) = 0 from rfl, hw]; exact hle)).symm
      have hcase : op = 5 \/ (op = 6 /\ (x.1 = 23 \/ x.1 = 24)) \/ (op = 7 /\ x.1 = 25) := by
        rcases hm with h | h | h | h | h | h | h
        · omega
        · omega
        · omega
        · omega
        · exact .inl h.1
        · exact .inr (.inl ⟨h.1, h.2.1⟩)
        · exact .inr (.inr h)
      have hkne : kv p.vars p.body k ≠ -1 := by have := hkk k hk; omega
      rcases hcase with ho | ⟨ho, ht⟩ | ⟨ho, ht⟩
      · have hxt : x.1 = 21 ∨ x.1 = 22 ∨ x.1 = 23 ∨ x.1 = 24 ∨ x.1 = 25 := by
          rcases hm with h | h | h | h | h | h | h
          · omega
          · omega
          · omega
          · omega
          · exact h.2.1
          · omega
          · omega
        have e : Jaw p.body k x op n = Jbx p.body k [(26, 0)] := by
          unfold Jaw
          rw [if_neg (by omega), if_neg (by omega), if_pos ho]
        have hr := Qcv p.vars p.body k hkne
        rw [hnx] at hr
        have hk2 : kv p.vars p.body k = 2 := by rw [hr.1]; exact Qir hxt (by rw [<- hr.1]; exact hkne)
        have hone := Qqc p.vars (y := (26, 0)) Jt5 2 (by decide)
        have hs : sm20 (nodeAt [(26, 0)] 0).1 (nodeAt p.body k).1 := by
          rw [hnx]
          exact ⟨fun e => by exact absurd e (by decide), fun e => by omega⟩
        rw [e]
        exact ⟨root k _ hE (by omega) (Jil Jt5) (by rw [hone, hk2]) hs, (Jm4 p.vars hw hE (Jil Jt5) (by rw [hone, hk2]) hs k (Nat.le_refl _) (Int.le_refl _)).symm, .inl (Qfq (26, 0) Jt5 hE _ _ hw (Nat.le_refl _))⟩
      · have ha : 0 < arAt p.body k := by
          rw [har]
          obtain ⟨t, m⟩ := x
          simp only at ht har0
          rcases ht with rfl | rfl
          · rw [Qs0 har0]; omega
          · rw [Jyd har0]; omega
        obtain ⟨f1, f2, f3⟩ := Jkh hE ha
        have e : Jaw p.body k x op n = Jbx p.body ((k + 1 : Nat) : Int) ((6, 0) :: Jcq p.body ((k + 1 : Nat) : Int)) := by
          unfold Jaw
          rw [if_neg (by omega), if_neg (by omega), if_neg (by omega), if_pos ho]
          exact Qe3 f1
        have hk1 : kv p.vars p.body ((k + 1 : Nat) : Int) = 1 := by
          rcases ht with ht | ht
          · exact Jxg p.vars p.body k hkne ha 1 [2, 2] 2 (by rw [hnx, ht]; decide)
          · exact Jxg p.vars p.body k hkne ha 1 [2] 2 (by rw [hnx, ht]; decide)
        have hn := kv_not p.vars p.body (k + 1) f1 hk1
        have hs : sm20 (nodeAt ((6, 0) :: Jcq p.body ((k + 1 : Nat) : Int)) 0).1 (nodeAt p.body ((k + 1 : Nat) : Int)).1 := by
          have := not20 hk1 (.inr rfl)
          exact ⟨fun e => by exact absurd e (by show ¬ (6 : Int) = 20; decide), fun e => absurd e this⟩
        rw [e]
        exact ⟨root (k + 1) _ f1 (by omega) (Jti f1) (by rw [hn, hk1]) hs, (Jm4 p.vars hw f1 (Jti f1) (by rw [hn, hk1]) hs k (by omega) f2).symm, .inr ho⟩
      · have ha : arAt p.body k = 1 := by
          rw [har]
          obtain ⟨t, m⟩ := x
          simp only at ht har0
          subst ht
          exact Qlk har0
        obtain ⟨f1, f2, f3⟩ := Jkh hE (by omega)
        have e : Jaw p.body k x op n = Jbx p.body ((k + 1 : Nat) : Int) [(1, n)] := by
          unfold Jaw
          rw [if_neg (by omega), if_neg (by omega), if_neg (by omega), if_neg (by omega)]
        have hk1 : kv p.vars p.body ((k + 1 : Nat) : Int) = 0 := Jxg p.vars p.body k hkne (by omega) 0 [] 2 (by rw [hnx, ht]; decide)
        have hone := Qqc p.vars (y := (1, n)) (Jt6 n) 0 (by show Jb6 1 = _; decide)
        have hs : sm20 (nodeAt [(1, n)] 0).1 (nodeAt p.body ((k + 1 : Nat) : Int)).1 := by
          have := not20 hk1 (.inl rfl)
          exact ⟨fun e => by exact absurd e (by show ¬ (1 : Int) = 20; decide), fun e => absurd e this⟩
        rw [e]
        exact ⟨root (k + 1) _ f1 (by omega) (Jil (Jt6 n)) (by rw [hone, hk1]) hs, (Jm4 p.vars hw f1 (Jil (Jt6 n)) (by rw [hone, hk1]) hs k (by omega) f2).symm, .inl (Qfq (1, n) (Jt6 n) f1 _ _ hw (Nat.le_refl _))⟩
  obtain ⟨k1, k2, k3⟩ := key
  have hk2 : knd ⟨p.params, p.vars, Jaw p.body k x op n⟩ 0 = 2 := by rw [Qey]; simp only; rw [k1]; exact c4
  have hn0 : nodeAt (Jaw p.body k x op n) 0 = nodeAt p.body 0 := by
    unfold nodeAt
    rw [List.getD_eq_getElem?_getD, List.getD_eq_getElem?_getD, show (0 : Int).toNat = 0 from rfl, d3 0 (by omega)]
  have hv : Joc ⟨p.params, p.vars, Jaw p.body k x op n⟩ = 0 := c2
  refine ⟨hk2, by rw [Qey, Qey]; exact k2, ?_⟩
  unfold chk9
  rcases Qbp d1 (by omega) with hc | ⟨hc, hd⟩
  · refine .inl ?_
    rw [if_neg (by simp [hc]), if_neg (by simp [hv]), if_neg]
    rw [not_or]
    exact ⟨Decidable.not_not.2 (by simp only; rw [hn0]; exact c3), Decidable.not_not.2 hk2⟩
  · rcases k3 with k3 | k3
    · omega
    · refine .inr ⟨?_, k3⟩
      rw [if_pos (by simp [hc])]
      exact hc
end Go.Proofs.YtinnbafplhcnpaaGreat
end
section
namespace Go.Proofs.YtinnbafplhcnpaaGreat
open Go.RowKit
set_option linter.unusedVariables false
set_option linter.unusedSimpArgs false
def Jdd (l : List Nd) (i : Int) : List (Int × Int) := if endv l i < 0 then [] else Jgm (nodeAt l i) (nodeAt l (i + 1))
def isC (l : List Nd) (i op n : Int) : Prop := 0 <= endv l i /\ isN (nodeAt l i) (nodeAt l (i + 1)) op n
instance (l : List Nd) (i op n : Int) : Decidable (isC l i op n) := by unfold isC; infer_instance
theorem Jv1 (l : List Nd) (i op n : Int) : (op, n) ∈ Jdd l i ↔ isC l i op n := by
  unfold Jdd isC
  split
  · simp; omega
  · rw [Qk9]; exact ⟨fun h => ⟨by omega, h⟩, fun h => h.2⟩
theorem Juz (l : List Nd) (i : Int) : (Jdd l i).Pairwise lexR := by
  unfold Jdd
  split
  · simp
  · exact Jx5 _ _
theorem Jlb (l : List Nd) (i : Int) : (Jdd l i).length <= 5 := by
  unfold Jdd
  split
  · simp
  · exact Qg5 _ _
theorem Qdd (x y z : Nd) (h : x.1 = 25 -> y = z) : Jgm x y = Jgm x z := by
  by_cases e : x.1 = 25
  · rw [h e]
  · unfold Jgm Jzg
    rw [if_neg e, if_neg e]
theorem Qnp (l : List Nd) (k : Nat) (hE : 0 <= endv l k) (j : Nat) (hj : ((k + j : Nat) : Int) < endv l k) : (Jcq l k)[j]? = l[k + j]? := by
  have hle := Jgl l k
  rw [Jcq, if_neg (by omega)]
  simp only [Int.toNat_natCast]
  rw [List.getElem?_drop, List.getElem?_take_of_lt (by omega)]
theorem Js6 (l : List Nd) (k : Nat) (hE : 0 <= endv l k) (j : Nat) (hj : ((k + j : Nat) : Int) < endv l k) : nodeAt (Jcq l k) j = nodeAt l ((k + j : Nat) : Int) := by
  unfold nodeAt
  rw [Int.toNat_natCast, Int.toNat_natCast, List.getD_eq_getElem?_getD, List.getD_eq_getElem?_getD, Qnp l k hE j hj]
theorem Qas (l : List Nd) (i : Int) : Jdd (Jcq l i) 0 = Jdd l i := by
  by_cases hE : endv l i < 0
  · have e : Jcq l i = [] := by rw [Jcq, if_pos hE]
    unfold Jdd
    rw [if_pos hE, e, if_pos (by decide)]
  · have h0 : 0 <= endv l i := by omega
    obtain ⟨k, rfl⟩ := Int.eq_ofNat_of_zero_le (Ja2 l i h0).1
    have hgt := Jd2 l k h0
    have hw := Jm7 h0
    have hn := Js6 l k h0 0 (by omega)
    unfold Jdd
    rw [if_neg (by rw [hw]; omega), if_neg hE]
    rw [show ((0 : Nat) : Int) = 0 from rfl] at hn
    rw [hn, Nat.add_zero]
    refine Qdd _ _ _ fun h25 => ?_
    obtain ⟨f1, f2, f3⟩ := Jqb l k h0 h25
    have hg := Jd2 l _ f1
    have := Js6 l k h0 1 (by omega)
    rw [show (0 : Int) + 1 = ((1 : Nat) : Int) from rfl, this]
    rfl
theorem Jvq (l : List Nd) (k : Nat) (op n : Int) (h : isC l k op n) : mayV (nodeAt l k) op n /\ 1 <= op /\ op <= 7 := by
  obtain ⟨hE, h⟩ := h
  obtain ⟨hk, h0, _⟩ := Jyc hE
  rw [Jc7 l k hk] at h ⊢
  generalize l[k] = x at *
  rcases h with h | h | h | h | h | h | h
  · exact ⟨.inl ⟨h.1, h.2.1, h.2.2.1, h.2.2.2.1, h.2.2.2.2.1⟩, by omega, by omega⟩
  · exact ⟨.inr (.inl ⟨h.1, h.2.1, h.2.2.1, h.2.2.2.1, h.2.2.2.2.1⟩), by omega, by omega⟩
  · exact ⟨.inr (.inr (.inl ⟨h.1, h.2.1, h.2.2.1, h.2.2.2.1, h.2.2.2.2.1⟩)), by omega, by omega⟩
  · refine ⟨.inr (.inr (.inr (.inl ⟨h.1, ?_⟩))), by omega, by omega⟩
    rcases h.2 with h2 | h2
    · exact .inl h2.1
    · right
      obtain ⟨t, m⟩ := x
      simp only at h2 h0 ⊢
      obtain ⟨rfl, h2⟩ := h2
      have hb : 0 <= m /\ m <= 1 := by
        unfold ar at h0
        rw [if_neg (show ¬ ((2 : Int) = 1) from by decide)] at h0
        have : lim 2 m = (1, 0) := rfl
        simp only [this] at h0
        split at h0 <;> omega
      have e1 : w64 (1 - 0) = 1 := by decide
      have e2 : w64 (1 - 1) = 0 := by decide
      have : m = 0 \/ m = 1 := by omega
      rcases this with rfl | rfl
      · rw [e1] at h2; exact ⟨rfl, by omega, by omega⟩
      · rw [e2] at h2; exact ⟨rfl, by omega, by omega⟩
  · exact ⟨.inr (.inr (.inr (.inr (.inl h)))), by omega, by omega⟩
  · exact ⟨.inr (.inr (.inr (.inr (.inr (.inl h))))), by omega, by omega⟩
  · exact ⟨.inr (.inr (.inr (.inr (.inr (.inr ⟨h.1, h.2.1⟩))))), by omega, by omega⟩
theorem Qpb {l : List Nd} {k : Nat} (hE : 0 <= endv l k) (h : (nodeAt l k).1 = 2) : 0 <= (nodeAt l k).2 /\ (nodeAt l k).2 <= 1 := by
  obtain ⟨hk, h0, _⟩ := Jyc hE
  rw [Jc7 l k hk] at h ⊢
  generalize l[k] = x at *
  obtain ⟨t, m⟩ := x
  simp only at h h0 ⊢
  subst h
  unfold ar at h0
  rw [if_neg (show ¬ ((2 : Int) = 1) from by decide)] at h0
  have : lim 2 m = (1, 0) := rfl
  simp only [this] at h0
  split at h0 <;> omega
theorem Jrh (l : List Nd) (k : Nat) (op n : Int) (h : isC l k op n) : Jaw l k (nodeAt l k) op n ≠ l := by
  have hm := (Jvq l k op n h).1
  obtain ⟨hE, h⟩ := h
  obtain ⟨hk, h0, har⟩ := Jyc hE
  have hx : l[k]? = some (nodeAt l k) := by rw [Jc7 l k hk]; exact List.getElem?_eq_getElem hk
  have hgt := Jd2 l k hE
  intro e
  by_cases h4 : op <= 4
  · obtain ⟨y, h1, h2, h3⟩ := Jg6 hE _ hx hm h4
    have hy : (Jaw l k (nodeAt l k) op n)[k]? = some y := by rw [h1, List.getElem?_set_self hk]
    rw [e, hx] at hy
    have hyx : nodeAt l k = y := by simpa using hy
    rcases h with h | h | h | h | h | h | h
    · rcases h3 with ⟨_, rfl⟩ | ⟨o, _⟩
      · have := congrArg Prod.fst hyx; simp only at this; omega
      · omega
    · rcases h3 with ⟨_, rfl⟩ | ⟨o, _⟩
      · have := congrArg Prod.fst hyx; simp only at this; omega
      · omega
    · rcases h3 with ⟨_, rfl⟩ | ⟨o, _⟩
      · have := congrArg Prod.fst hyx; simp only at this; omega
      · omega
    · rcases h3 with ⟨o, _⟩ | ⟨_, rfl⟩
      · omega
      · have := congrArg Prod.snd hyx
        simp only at this
        rcases h.2 with h5 | h5
        · exact h5.2.2 this.symm
        · have hb := Qpb hE h5.1
          have e1 : w64 (1 - 0) = 1 := by decide
          have e2 : w64 (1 - 1) = 0 := by decide
          have : (nodeAt l k).2 = 0 \/ (nodeAt l k).2 = 1 := by omega
          rcases this with e | e
          · rw [e, e1] at h5; omega
          · rw [e, e2] at h5; omega
    · omega
    · omega
    · omega
  · have hkr : ∀ (q : Nat) (r : List Nd), 0 ≤ endv l q → Jbx   l q r = l → ∀ j (hj : j < r.length), l[q + j]? = r[j]? := by
      intro q r hq e' j hj
      have hql : q < l.length := by have := (Ja2 l q hq).2; simpa using this
      have this : (Jbx l q r)[q + j]? = l[q + j]? := by rw [e']
      rw [<- this, Jbx, if_neg (by omega), List.append_assoc, List.getElem?_append_right (by simp; omega)]
      simp only [Int.toNat_natCast, List.length_take]
      rw [List.getElem?_append_left (by omega)]
      congr 1
      omega
    have ho : (op = 5 /\ (nodeAt l k).1 ≠ 26) \/ (op = 6) \/ (op = 7 /\ (nodeAt l k).1 = 25 /\ nodeAt l (k + 1) ≠ (1, n)) := by
      rcases h with h | h | h | h | h | h | h
      · omega
      · omega
      · omega
      · omega
      · exact .inl ⟨h.1, by omega⟩
      · exact .inr (.inl h.1)
      · exact .inr (.inr ⟨h.1, h.2.1, h.2.2.2⟩)
    rcases ho with ⟨ho, h26⟩ | ho | ⟨ho, ht, hne⟩
    · unfold Jaw at e
      rw [if_neg (by omega), if_neg (by omega), if_pos ho] at e
      have := hkr k _ hE e 0 (by simp)
      rw [Nat.add_zero, hx] at this
      have e2 : nodeAt l k = (26, 0) := by simpa using this
      rw [e2] at h26
      exact h26 rfl
    · unfold Jaw at e
      rw [if_neg (by omega), if_neg (by omega), if_neg (by omega), if_pos ho] at e
      have := congrArg List.length e
      simp at this
      omega
    · obtain ⟨f1, f2, f3⟩ := Jqb l k hE ht
      unfold Jaw at e
      rw [if_neg (by omega), if_neg (by omega), if_neg (by omega), if_neg (by omega)] at e
      have := hkr (k + 1) _ f1 e 0 (by simp)
      rw [Nat.add_zero] at this
      apply hne
      have e2 := Jm9 (k := k + 1) this
      exact e2
theorem Qem {l : List Nd} {i : Int} (h : 0 <= endv l i) : endv (Jcq l i) 0 = (Jcq l i).length /\ 0 < (Jcq l i).length := by
  obtain ⟨k, rfl⟩ := Int.eq_ofNat_of_zero_le (Ja2 l i h).1
  have hw := Jm7 h
  refine ⟨hw, ?_⟩
  have hgt := Jd2 (Jcq l k) 0 (by rw [hw]; omega)
  rw [hw] at hgt
  omega
end Go.Proofs.YtinnbafplhcnpaaGreat
end
section
namespace Go.Proofs.YtinnbafplhcnpaaGreat
open Go.RowKit
set_option linter.unusedVariables false
set_option linter.unusedSimpArgs false
set_option maxRecDepth 100000
theorem Qd9 (a : Int) : ∀ l : List Int, (sins a l).length <= l.length + 1
  | [] => by simp [sins]
  | x :: r => by
    have := Qd9 a r
    simp only [sins]
    split
    · simp
    · split <;> simp <;> omega
theorem Qiv (l : List Int) : (Jin l).length <= l.length := by
  induction l with
  | nil => simp [Jin]
  | cons a r ih =>
    have : Jin (a :: r) = sins a (Jin r) := rfl
    rw [this]
    have := Qd9 a (Jin r)
    simp; omega
theorem Jze (but : Int) (l : List Int) : (Jma but l).length <= l.length := Nat.le_trans (List.length_filter_le _ _) (Qiv l)
theorem Qng (lo hi but : Int) (h : hi - lo <= 5) : (rowV lo hi but).length <= 6 := Nat.le_trans (Qee lo (hi - lo + 1).toNat but) (by omega)
theorem Qa4 (y : Nd) : (Jdy y).length <= 2 := by
  unfold Jdy
  split
  · exact Jze _ _
  · simp
def fl (L : List (Int × List Int)) : List (Int × Int) := L.flatMap fun e => e.2.map fun n => (e.1, n)
def pA (x : Nd) : List (Int × List Int) :=
  if 7 <= x.1 /\ x.1 <= 11 then [(1, rowV 7 11 x.1)] else if 12 <= x.1 /\ x.1 <= 17 then [(2, rowV 12 17 x.1)] else if x.1 = 18 \/ x.1 = 19 then [(3, rowV 18 19 x.1)]
    else if x.1 = 1 then [(4, Jma x.2 [0, 1, -1, w64 (x.2 + 1), w64 (x.2 - 1)])] else if x.1 = 2 then [(4, [w64 (1 - x.2)])] else []
def pB (x : Nd) : List (Int × List Int) := if x.1 = 21 \/ x.1 = 22 \/ x.1 = 23 \/ x.1 = 24 \/ x.1 = 25 then [(5, [0])] else []
def pC (x y : Nd) : List (Int × List Int) := if x.1 = 23 \/ x.1 = 24 then [(6, [0])] else if x.1 = 25 then [(7, Jdy y)] else []
theorem Qat (x y : Nd) : Jgm x y = fl (pA x) ++ (fl (pB x) ++ fl (pC x y)) := by
  unfold Jgm fl
  rw [<- List.flatMap_append, <- List.flatMap_append]
  rfl
theorem Jtn (op : Int) (ns : List Int) : fl [(op, ns)] = ns.map fun n => (op, n) := by simp [fl]
theorem Jo0 (t : TypeId) (a : Int) (H : Heap) : rowH t 1 1 [iD 0] [(0, iD a)] H = some (.hs H.length 1, H ++ [.cells t 1 (Jbg [a])]) := rfl
theorem Jw5 (t : TypeId) (ns : List Int) (H : Heap) : Numb H.length (H ++ [.cells t 1 (Jbg ns)]) (.hs H.length ns.length) ns := .inr ⟨H.length, t, ns, Nat.le_refl _, rfl, by simp, List.take_length⟩
theorem Jzp       (l : List Nd) (x : Nd) (H : Heap) (out : List (Int × Int)) (h : ChInv l x H out) (hk : x.1 = 25 → 1 < l.length) (hout : out.length ≤ 90) :
    ∃ H', Qev Tryz.prog (Y13 Tryz.prog) (.hp 1 0) (.hp 3 0) (.hp 4 0) (.hp 5 0) H = some (.tup [], H') /\ ChInv l x H' (out ++ fl (pC x (nodeAt l 1))) := by
  have f0 : Jaa 0 (.hp 4 0) = some (.hp 4 0) := rfl
  have l0 := Jd7 H 4 _ _ _ _ h.node
  have l1 := Jd7 H 1 _ _ _ _ h.row
  have hone := Jp4 l x H (H ++ [.cells 3 1 (Jbg [0])]) out 6 (.hs H.length 1) [0] h (Kp.app _ _ _ (Nat.le_refl _)) (Jw5 3 [0] H) (by simp) (by omega)
  obtain ⟨H6, u1, u2⟩ := hone
  unfold Qev pC
  by_cases h23 : x.1 = 23
  · have b1 : (x.1 == 23) = true := by rw [h23]; rfl
    refine ⟨H6, ?_, by rw [if_pos (.inl h23), Jtn]; exact u2⟩
    simp only [f0, Jaj, l0, Jbk, b1, Jai, if_true, Jo0, Jan, u1]
  · have b1 : (x.1 == 23) = false := by rw [beq_eq_false_iff_ne]; exact h23
    by_cases h24 : x.1 = 24
    · have b2 : (x.1 == 24) = true := by rw [h24]; rfl
      refine ⟨H6, ?_, by rw [if_pos (.inr h24), Jtn]; exact u2⟩
      simp only [f0, Jaj, l0, Jbk, b1, b2, Jai, Bool.false_eq_true, if_false, if_true, Jo0, Jan, u1]
    · have b2 : (x.1 == 24) = false := by rw [beq_eq_false_iff_ne]; exact h24
      rw [if_neg (by omega)]
      by_cases h25 : x.1 = 25
      · have b3 : (x.1 == 25) = true := by rw [h25]; rfl
        have hl := hk h25
        have i1 : idxH 2 (Jaf l) (iD 1) = some (.ptr (Jax l[1])) := Jav l 1 hl
        have hx : nodeAt l 1 = l[1] := Jc7 l 1 hl
        have l2 : Jad (some 2) H (.ptr (Jax l[1])) = some (.agg (Jax l[1])) := rfl
        obtain ⟨d, H1, a1, a2, a3, a4⟩ := Qh6 l[1] H
        have hal := Qa4 l[1]
        obtain ⟨H7, v1, v2⟩ := Jp4 l x H H1 out 7 d (Jdy l[1]) h a3 a2 (by omega) (by omega)
        refine ⟨H7, ?_, by rw [if_pos h25, Jtn, hx]; exact v2⟩
        simp only [f0, Jaj, l0, Jbk, b1, b2, b3, Jai, Bool.false_eq_true, if_false, if_true, l1, i1, l2, a1, Jan, v1]
      · have b3 : (x.1 == 25) = false := by rw [beq_eq_false_iff_ne]; exact h25
        refine ⟨H, ?_, by rw [if_neg h25]; simpa [fl] using h⟩
        simp only [f0, Jaj, l0, Jbk, b1, b2, b3, Jai, Bool.false_eq_true, if_false]
theorem Qm0      (l : List Nd) (x : Nd) (H : Heap) (out : List (Int × Int)) (h : ChInv l x H out) (hk : x.1 = 25 → 1 < l.length) (hout : out.length ≤ 80) :
    ∃ H', Qbr Tryz.prog (Y13 Tryz.prog) (.hp 1 0) (.hp 3 0) (.hp 4 0) (.hp 5 0) H = some (.tup [], H') /\ ChInv l x H' (out ++ (fl [(5, [0])] ++ fl (pC x (nodeAt l 1)))) := by
  obtain ⟨H6, u1, u2⟩ := Jp4 l x H (H ++ [.cells 3 1 (Jbg [0])]) out 5 (.hs H.length 1) [0] h (Kp.app _ _ _ (Nat.le_refl _)) (Jw5 3 [0] H) (by simp) (by omega)
  obtain ⟨H7, v1, v2⟩ := Jzp l x H6 _ u2 hk (by simp; omega)
  refine ⟨H7, ?_, by rw [Jtn, <- List.append_assoc]; exact v2⟩
  unfold Qbr
  simp only [Jo0, Jan, u1, v1]
theorem Jo8       (l : List Nd) (x : Nd) (H : Heap) (out : List (Int × Int)) (h : ChInv l x H out) (hk : x.1 = 25 → 1 < l.length) (hout : out.length ≤ 80) :
    ∃ H', Jvl Tryz.prog (Y13 Tryz.prog) (.hp 1 0) (.hp 3 0) (.hp 4 0) (.hp 5 0) H = some (.tup [], H') /\ ChInv l x H' (out ++ (fl (pB x) ++ fl (pC x (nodeAt l 1)))) := by
  have f0 : Jaa 0 (.hp 4 0) = some (.hp 4 0) := rfl
  have l0 := Jd7 H 4 _ _ _ _ h.node
  unfold Jvl
  by_cases hx : x.1 = 21 \/ x.1 = 22 \/ x.1 = 23 \/ x.1 = 24 \/ x.1 = 25
  · obtain ⟨H', q1, q2⟩ := Qm0 l x H out h hk hout
    refine ⟨H', ?_, by unfold pB; rw [if_pos hx]; exact q2⟩
    rcases hx with e | e | e | e | e <;> rw [e] at l0 <;> simp only [f0, Jaj, l0, Jbk, Jai] <;> exact q1
  · obtain ⟨H', q1, q2⟩ := Jzp l x H out h hk (by omega)
    refine ⟨H', ?_, by unfold pB; rw [if_neg hx]; simpa [fl] using q2⟩
    have b : ∀ t : Int, t = 21 \/ t = 22 \/ t = 23 \/ t = 24 \/ t = 25 -> (x.1 == t) = false := fun t ht => by rw [beq_eq_false_iff_ne]; omega
    simp only [f0, Jaj, l0, Jbk, Jai, b 21 (by omega), b 22 (by omega), b 23 (by omega), b 24 (by omega), b 25 (by omega), Bool.false_eq_true, if_false, q1]
theorem Jp5        (l : List Nd) (x : Nd) (H : Heap) (lo hi op : Int) (h : ChInv l x H []) (hk : x.1 = 25 → 1 < l.length) (hb : 0 ≤ lo ∧ hi ≤ 100) (hr : hi - lo ≤ 5) :
    ∃ H', Jp6 Tryz.prog (Y13 Tryz.prog) lo hi op (.hp 1 0) (.hp 3 0) (.hp 4 0) (.hp 5 0) (iD x.1) H = some (.tup [], H') /\ ChInv l x H' (fl [(op, rowV lo hi x.1)] ++ (fl (pB x) ++ fl (pC x (nodeAt l 1)))) := by
  have hrl := Qng lo hi x.1 hr
  obtain ⟨H6, u1, u2⟩ := Jp4 l x H H [] op (Jag (rowV lo hi x.1)) (rowV lo hi x.1) h (Kp.refl _ _) (.inl rfl) hrl (by simp)
  obtain ⟨H7, v1, v2⟩ := Jo8 l x H6 _ u2 hk (by simp; omega)
  refine ⟨H7, ?_, by rw [Jtn]; simpa using v2⟩
  unfold Jp6
  simp only [Qnd _ _ _ hb, Jan, u1, v1]
theorem Qjz       (l : List Nd) (x : Nd) (H : Heap) (h : ChInv l x H []) (hk : x.1 = 25 → 1 < l.length) :
    ∃ H', Qj0 Tryz.prog (Y13 Tryz.prog) (.hp 1 0) (.hp 3 0) (.hp 4 0) (.hp 5 0) (iD x.1) H = some (.tup [], H') /\ ChInv l x H' (fl (if x.1 = 2 then [(4, [w64 (1 - x.2)])] else []) ++ (fl (pB x) ++ fl (pC x (nodeAt l 1)))) := by
  have f1 : Jaa 1 (.hp 4 0) = some (.hp 4 1) := rfl
  have l1 : Jad none H (.hp 4 1) = some (iD x.2) := Jcr _ _ _ _ _ _ _ h.node rfl
  unfold Qj0
  by_cases h2 : x.1 = 2
  · have b : (x.1 == 2) = true := by rw [h2]; rfl
    have e : intD .sub .i64 1 x.2 = some (iD (w64 (1 - x.2))) := rfl
    obtain ⟨H6, u1, u2⟩ := Jp4 l x H (H ++ [.cells 3 1 (Jbg [w64 (1 - x.2)])]) [] 4 (.hs H.length 1) [w64 (1 - x.2)] h (Kp.app _ _ _ (Nat.le_refl _)) (Jw5 3 [w64 (1 - x.2)] H) (by simp) (by simp)
    obtain ⟨H7, v1, v2⟩ := Jo8 l x H6 _ u2 hk (by simp)
    refine ⟨H7, ?_, by rw [if_pos h2, Jtn]; simpa using v2⟩
    simp only [Jbk, b, Jaj, Jai, if_true, f1, l1, Jfq, e, Jo0, Jan, u1, v1]
  · have b : (x.1 == 2) = false := by rw [beq_eq_false_iff_ne]; exact h2
    obtain ⟨H7, v1, v2⟩ := Jo8 l x H [] h hk (by simp)
    refine ⟨H7, ?_, by rw [if_neg h2]; simpa [fl] using v2⟩
    simp only [Jbk, b, Jaj, Jai, Bool.false_eq_true, if_false, v1]
theorem Qj1       (l : List Nd) (x : Nd) (H : Heap) (h : ChInv l x H []) (hk : x.1 = 25 → 1 < l.length) :
    ∃ H', Qj2 Tryz.prog (Y13 Tryz.prog) (.hp 1 0) (.hp 3 0) (.hp 4 0) (.hp 5 0) (iD x.1) H = some (.tup [], H') /\ ChInv l x H' (fl (if x.1 = 1 then [(4, Jma x.2 [0, 1, -1, w64 (x.2 + 1), w64 (x.2 - 1)])] else if x.1 = 2 then [(4, [w64 (1 - x.2)])] else []) ++ (fl (pB x) ++ fl (pC x (nodeAt l 1)))) := by
  have f1 : Jaa 1 (.hp 4 0) = some (.hp 4 1) := rfl
  have l1 : Jad none H (.hp 4 1) = some (iD x.2) := Jcr _ _ _ _ _ _ _ h.node rfl
  unfold Qj2
  by_cases h2 : x.1 = 1
  · have b : (x.1 == 1) = true := by rw [h2]; rfl
    have e : intD .sub .i64 x.2 1 = some (iD (w64 (x.2 - 1))) := rfl
    have e2 : intD .add .i64 x.2 1 = some (iD (w64 (x.2 + 1))) := rfl
    obtain ⟨H1, a1, a2, a3, a4⟩ := Qeo 5 (.inr rfl) x.2 3 [0, 1, -1, w64 (x.2 + 1), w64 (x.2 - 1)] H rfl
    have hol := Jze x.2 [0, 1, -1, w64 (x.2 + 1), w64 (x.2 - 1)]
    simp only [List.length_cons, List.length_nil] at hol
    obtain ⟨H6, u1, u2⟩ := Jp4 l x H H1 [] 4 _ _ h a3 a2 (by omega) (by simp)
    obtain ⟨H7, v1, v2⟩ := Jo8 l x H6 _ u2 hk (by simp; omega)
    refine ⟨H7, ?_, by rw [if_pos h2, Jtn]; simpa using v2⟩
    simp only [Jbk, b, Jaj, Jai, if_true, f1, l1, Jfq, Jcs, e, e2, Qne, Jan, a1, u1, v1]
  · have b : (x.1 == 1) = false := by rw [beq_eq_false_iff_ne]; exact h2
    obtain ⟨H7, v1, v2⟩ := Qjz l x H h hk
    refine ⟨H7, ?_, by rw [if_neg h2]; exact v2⟩
    simp only [Jbk, b, Jaj, Jai, Bool.false_eq_true, if_false, v1]
theorem Qj3       (l : List Nd) (x : Nd) (H : Heap) (h : ChInv l x H []) (hk : x.1 = 25 → 1 < l.length) :
    ∃ H', Jzo Tryz.prog (Y13 Tryz.prog) (.hp 1 0) (.hp 3 0) (.hp 4 0) (.hp 5 0) (iD x.1) H = some (.tup [], H') /\ ChInv l x H' (Jgm x (nodeAt l 1)) := by
  rw [Qat]
  by_cases hA : 7 <= x.1 /\ x.1 <= 11
  · obtain ⟨H7, v1, v2⟩ := Jp5 l x H 7 11 1 h hk (by omega) (by omega)
    refine ⟨H7, ?_, by unfold pA; rw [if_pos hA]; exact v2⟩
    unfold Jzo
    simp only [Jc3, Jhd, hA.1, hA.2, decide_true, Jaj, Jai, if_true, v1]
  have eA : Jzo Tryz.prog (Y13 Tryz.prog) (.hp 1 0) (.hp 3 0) (.hp 4 0) (.hp 5 0) (iD x.1) H = Jvk Tryz.prog (Y13 Tryz.prog) (.hp 1 0) (.hp 3 0) (.hp 4 0) (.hp 5 0) (iD x.1) H := by
    unfold Jzo
    by_cases h7 : 7 <= x.1
    · have h11 : ¬ x.1 <= 11 := fun e => hA ⟨h7, e⟩
      simp only [Jc3, Jhd, h7, h11, decide_true, decide_false, Jaj, Jai, if_true, Bool.false_eq_true, if_false]
    · simp only [Jc3, h7, decide_false, Jaj, Jai, Bool.false_eq_true, if_false]
  rw [eA]
  by_cases hB : 12 <= x.1 /\ x.1 <= 17
  · obtain ⟨H7, v1, v2⟩ := Jp5 l x H 12 17 2 h hk (by omega) (by omega)
    refine ⟨H7, ?_, by unfold pA; rw [if_neg hA, if_pos hB]; exact v2⟩
    unfold Jvk
    simp only [Jc3, Jhd, hB.1, hB.2, decide_true, Jaj, Jai, if_true, v1]
  have eB : Jvk Tryz.prog (Y13 Tryz.prog) (.hp 1 0) (.hp 3 0) (.hp 4 0) (.hp 5 0) (iD x.1) H = Jzn Tryz.prog (Y13 Tryz.prog) (.hp 1 0) (.hp 3 0) (.hp 4 0) (.hp 5 0) (iD x.1) H := by
    unfold Jvk
    by_cases h7 : 12 <= x.1
    · have h11 : ¬ x.1 <= 17 := fun e => hB ⟨h7, e⟩
      simp only [Jc3, Jhd, h7, h11, decide_true, decide_false, Jaj, Jai, if_true, Bool.false_eq_true, if_false]
    · simp only [Jc3, h7, decide_false, Jaj, Jai, Bool.false_eq_true, if_false]
  rw [eB]
  by_cases hC : x.1 = 18 \/ x.1 = 19
  · obtain ⟨H7, v1, v2⟩ := Jp5 l x H 18 19 3 h hk (by omega) (by omega)
    refine ⟨H7, ?_, by unfold pA; rw [if_neg hA, if_neg hB, if_pos hC]; exact v2⟩
    unfold Jzn
    by_cases h18 : x.1 = 18
    · have b : (x.1 == 18) = true := by rw [h18]; rfl
      simp only [Jbk, b, Jaj, Jai, if_true, v1]
    · have b : (x.1 == 18) = false := by rw [beq_eq_false_iff_ne]; exact h18
      have b2 : (x.1 == 19) = true := by rw [hC.resolve_left h18]; rfl
      simp only [Jbk, b, b2, Jaj, Jai, Bool.false_eq_true, if_false, if_true, v1]
  obtain ⟨H7, v1, v2⟩ := Qj1 l x H h hk
  refine ⟨H7, ?_, by unfold pA; rw [if_neg hA, if_neg hB, if_neg hC]; exact v2⟩
  unfold Jzn
  have b : (x.1 == 18) = false := by rw [beq_eq_false_iff_ne]; omega
  have b2 : (x.1 == 19) = false := by rw [beq_eq_false_iff_ne]; omega
  simp only [Jbk, b, b2, Jaj, Jai, Bool.false_eq_true, if_false, v1]
end Go.Proofs.YtinnbafplhcnpaaGreat
end
section
namespace Go.Proofs.YtinnbafplhcnpaaGreat
open Go.RowKit
set_option linter.unusedVariables false
set_option linter.unusedSimpArgs false
def dlsD (L : List Dl) : D := .sl 3 (L.map dlC)
def Qpc : D -> Option (List Dl)
  | .sl _ els => els.mapM Jt3
  | .v (.slice none 0 0) => some []
  | _ => none
@[simp] theorem Qlj (d : Dl) : Jt3 (dlC d) = some d := by simp [dlC, Jt3]
@[simp] theorem Qh2 (L : List Dl) : Qpc (dlsD L) = some L := mapM_map dlC Jt3 (fun x => Qlj x) L
inductive ImpE : List (List D) -> List (List D) -> Prop
  | nil : ImpE [] []
  | cons {a b : List D} {r s : List (List D)} (h : ImpL a b) (k : ImpE r s) : ImpE (a :: r) (b :: s)
theorem ImpL.len : ∀ {a b : List D}, ImpL a b -> a.length = b.length
  | _, _, .nil => rfl
  | _, _, .cons _ k => by simp [ImpL.len k]
theorem ImpE.len : ∀ {a b : List (List D)}, ImpE a b -> a.length = b.length
  | _, _, .nil => rfl
  | _, _, .cons _ k => by simp [ImpE.len k]
theorem Jz3 {S : Nat -> Prop} {L : List (Nat × Nat)} {w : World} {b : Nat} : ∀ {cs ds : List D} {o : Nat}, ImpL cs ds -> RepC S L w b o cs -> RepC S L w b o ds
  | _, _, o, .nil, h => h
  | _, _, o, .cons h k, q => by
    simp only [RepC] at q ⊢
    obtain ⟨⟨x, q1, q2⟩, q3⟩ := q
    exact ⟨⟨x, q1, h _ _ _ _ q2⟩, Jz3 k q3⟩
theorem Qe4 {S : Nat -> Prop} {L : List (Nat × Nat)} {w : World} {b sz : Nat} : ∀ {cs ds : List (List D)} {o : Nat}, ImpE cs ds -> RepR S L w b o sz cs -> RepR S L w b o sz ds
  | _, _, o, .nil, h => h
  | _, _, o, .cons h k, q => by
    simp only [RepR] at q ⊢
    obtain ⟨q1, q2, q3⟩ := q
    exact ⟨by rw [<- h.len]; exact q1, Jz3 h q2, Qe4 k q3⟩
theorem Imp.slE (s sz : Nat) {els els' : List (List D)} (h : ImpE els els') (hs : ∀ e ∈ els, e.length = s -> s = sz) : Imp (.sl s els) (.sl sz els') := by
  intro S L w x hx
  have h1 := Imp.sl s sz els hs S L w x hx
  simp only [Rep] at h1 ⊢
  rcases h1 with ⟨h1, h2⟩ | ⟨b, o, cap, h1, h2, h3, h4, h5⟩
  · subst h1
    cases h
    exact .inl ⟨rfl, h2⟩
  · rw [h.len] at h1 h2 h3
    exact .inr ⟨b, o, cap, h1, h2, h3, h4, Qe4 h h5⟩
theorem Jz5 : ∀ (els : List (List D)) (L : List Dl), els.mapM Jt3 = some L -> ImpE els (L.map dlC) /\ ∀ e ∈ els, e.length = 3
  | [], L, h => by simp at h; subst h; exact ⟨.nil, fun e he => by cases he⟩
  | e :: r, L, h => by
    simp only [List.mapM_cons, Option.pure_def, Option.bind_eq_bind] at h
    cases h1 : Jt3 e with
    | none => rw [h1] at h; cases h
    | some a =>
      cases h2 : r.mapM Jt3 with
      | none => rw [h1, h2] at h; cases h
      | some t =>
        rw [h1, h2] at h
        cases h
        obtain ⟨k1, k2⟩ := Jz5 r t h2
        have hi := Qkg h1
        refine ⟨.cons hi k1, fun x hx => ?_⟩
        rcases List.mem_cons.1 hx with rfl | hx
        · rw [hi.len]; rfl
        · exact k2 x hx
theorem Qrw {d : D} {L : List Dl} (h : Qpc d = some L) : Imp d (dlsD L) := by
  unfold Qpc at h
  split at h
  · rename_i s els
    obtain ⟨k1, k2⟩ := Jz5 els L h
    exact Imp.slE s 3 k1 fun e he hl => by rw [<- hl, k2 e he]
  · cases h; exact Imp.nil 3
  · cases h
def dlsT : Dec (List Dl) := ⟨dlsD, Qpc, Qh2, fun d a h => Qrw h⟩
@[simp] theorem pure_dls (L : List Dl) : Jd6 (dlsD L) = true := rfl
@[simp] theorem cellOk_dls (L : List Dl) : Jcc (dlsD L) = true := rfl
@[simp] theorem Jdv (L : List Dl) : lenH .sl (dlsD L) = some (iD L.length) := by simp [lenH, lenK, dlsD]
@[simp] theorem elsD_dlsD (L : List Dl) : elsD 3 (dlsD L) = some (L.map dlC) := by simp [elsD, dlsD]
theorem Jol (L : List Dl) (i : Nat) (h : i < L.length) : idxH 3 (dlsD L) (iD i) = some (.ptr (dlC L[i])) := by
  have : idxH 3 (dlsD L) (iD i) = idxD 3 (dlsD L) (iD i) := rfl
  rw [this]; simp [idxD, h]
theorem Js8 (H : Heap) (d : Dl) : Jad (some 3) H (.ptr (dlC d)) = some (dlD d) := rfl
theorem Jwx      {B : Nat} {S : Nat → Prop} {L : List (Nat × Nat)} {w : World} {H : Heap} (hr : HRel B S L w H) {e : TypeId} {sz n : Nat} {cs : List D} {els : List (List D)} {d : D} (hsz : 0 < sz) (hb : Buf e sz H 0 d n cs) (hn : els.length = n) (hl : ∀ e ∈ els, e.length = sz)
    (himp : ∀ xs, RepA S L w xs cs -> RepA (fun k => B <= k /\ k < w.heap.size) [] w xs els.flatten) {v : Value} (hv : Rep S L w v d) : Rep (fun k => B <= k /\ k < w.heap.size) [] w v (.sl sz els) := by
  rcases hb with ⟨rfl, h1, _⟩ | ⟨r, h1, rfl, h3, h4⟩
  · have : els = [] := List.length_eq_zero_iff.1 (by omega)
    subst this
    simp only [Rep] at hv
    subst hv
    simp only [Rep]
    exact .inl ⟨trivial, none, 0, rfl, fun _ => rfl⟩
  · simp only [Rep] at hv
    obtain ⟨b, c, hL, hnc, rfl⟩ := hv
    obtain ⟨arr, g1, g2, g3, g4, g5⟩ := Jdt hr h3 hL
    obtain ⟨k1, k2, k3⟩ := hr.lt h3 hL
    by_cases hz : els = []
    · subst hz
      simp only [List.length_nil] at hn
      subst hn
      simp only [Rep]
      exact .inl ⟨trivial, _, c, rfl, fun e => by cases e⟩
    · have hpos : 0 < els.length := by
        cases els with
        | nil => exact absurd rfl hz
        | cons x r => simp
      simp only [Rep]
      refine .inr ⟨b, 0, c, by rw [hn], hpos, by omega, ⟨k1, k2⟩, ?_⟩
      refine RepR.of hl ?_
      refine RepC.of (himp _ g5) fun j x hj => ?_
      rw [Nat.zero_add, cell_of_heap g1]
      have hlt := (List.getElem?_eq_some_iff.1 hj).1
      rw [List.getElem?_take_of_lt (by simp at hlt; omega)] at hj
      simpa using hj
theorem Qny      {P : Program} {f : FuncId} {G : List D → Heap → Option (D × Heap)} {F : List D → Option D} (hG : HCallOk P f G)
    (h : ∀ ds d, F ds = some d -> ∃ (sz n : Nat) (cs : List D) (els : List (List D)) (ds' : List D) (d' : D) (H' : Heap) (e : TypeId), d = .sl sz els /\ ImpL ds ds' /\ G ds' [] = some (d', H') /\ Buf e sz H' 0 d' n cs /\ 0 < sz /\ els.length = n /\ (∀ e ∈ els, e.length = sz) /\
      ∀ (S S2 : Nat → Prop) (L : List (Nat × Nat)) (w : World) (xs : List Value), RepA S L w xs cs → RepA S2 [] w xs els.flatten) : CallNew P f F := by
  refine ⟨hG.body, fun ds d hF S vs w hS hv => ?_⟩
  obtain ⟨sz, n, cs, els, ds', d', H', e, rfl, hi, hg, hb, h1, h2, h3, h4⟩ := h ds d hF
  refine (hG.calls ds' [] d' H' hg w.heap.size S [] vs w (Jph S w hS) (hi.rep hv)).mono ?_
  rintro e w' ⟨v, S', L', rfl, k1, k2, k3⟩
  exact ⟨v, rfl, Jwx k2 h1 hb h2 h3 (fun xs hx => h4 S' _ L' w' xs hx) k1, k3.below⟩
end Go.Proofs.YtinnbafplhcnpaaGreat
end
section
namespace Go.Proofs.YtinnbafplhcnpaaGreat
open Go.RowKit
set_option linter.unusedVariables false
set_option linter.unusedSimpArgs false
set_option maxRecDepth 100000
def mkD (e : Int × Int) : Dl := ⟨[], e.1, e.2⟩
def Jdx (l : List Nd) (i : Int) : List Dl := (Jdd l i).map mkD
theorem Qei {S S2 : Nat -> Prop} {L : List (Nat × Nat)} {w : World} : ∀ (out : List (Int × Int)) (xs : List Value), RepA S L w xs (outC out) -> RepA S2 [] w xs ((out.map mkD).map dlC).flatten
  | [], xs, h => by simpa only [outC, List.map_nil, List.flatten_nil, RepA] using h
  | x :: r, xs, h => by
    have e : outC (x :: r) = .v (.slice none 0 0) :: iD x.1 :: iD x.2 :: outC r := rfl
    have e2 : (((x :: r).map mkD).map dlC).flatten = Jag [] :: iD x.1 :: iD x.2 :: ((r.map mkD).map dlC).flatten := rfl
    rw [e] at h
    rw [e2]
    simp only [RepA, Rep] at h ⊢
    obtain ⟨a, t, h1, h2, b, u, h3, h4, c, v, h5, h6, h7⟩ := h
    refine ⟨a, t, h1, ?_, b, u, h3, h4, c, v, h5, h6, Qei r v h7⟩
    simp only [Jag, List.map_nil, Rep]
    exact .inl ⟨trivial, none, 0, h2, fun _ => rfl⟩
def Jui (P : Program) : List D -> Heap -> Option (D × Heap) := Jgr P (T13h P (Y13 P)) Jbh 0 20
theorem Qbf (ds : List D) (H : Heap) : Jui Tryz.prog ds H = Jap Tryz.prog (T13h Tryz.prog (Y13 Tryz.prog)) Jbh 0 Tryz.f20 ds H := Jct Tryz.func20 ds H
theorem Qih : HCallOk Tryz.prog 20 (Jui Tryz.prog) := Jdf (Qlr (Y13 Tryz.prog) Y13_ok) mixed Tryz.func20 (by kernel_rfl) (by decide)
theorem Qg1 (l : List Nd) (i : Int) (h : l.length <= 3000000) (H : Heap) : Jc8 Jn9 [Jaf l, iD i] H = some (Jaf (Jcq l i), H) := by
  rw [Jkb _ _ _ rfl]; simp [Jn9, h]
theorem Jx4 (l : List Nd) (i : Int) : Jdd l i = if (Jcq l i).length = 0 then [] else Jgm (nodeAt (Jcq l i) 0) (nodeAt (Jcq l i) 1) := by
  by_cases hE : 0 <= endv l i
  · obtain ⟨h1, h2⟩ := Qem hE
    rw [if_neg (by omega), <- Qas l i]
    unfold Jdd
    rw [if_neg (by omega)]
    rfl
  · have hp : Jcq l i = [] := by unfold Jcq; rw [if_pos (by omega)]
    rw [hp]
    unfold Jdd
    rw [if_pos (by omega)]
    rfl
theorem Qaq (l : List Nd) (i : Int) (h : l.length <= 3000000) : ∃ d H', Jui Tryz.prog [Jaf l, iD i] [] = some (d, H') /\ Buf 34 3 H' 0 d (Jdd l i).length (outC (Jdd l i)) := by
  rw [Qbf, Joy, Jx4]
  have hp := Qg1 l i h [.cells 28 1 [.v (.slice none 0 0)]]
  have e1 : Jaz 28 [.v (.slice none 0 0)] [] = some (.hp 0 0, [.cells 28 1 [.v (.slice none 0 0)]]) := rfl
  have hpos : 0 <= endv l i -> endv (Jcq l i) 0 = (Jcq l i).length := fun hE => (Qem hE).1
  have hneg : endv l i < 0 -> Jcq l i = [] := fun hE => by unfold Jcq; rw [if_pos hE]
  by_cases h0 : (Jcq l i).length = 0
  · rw [if_pos h0]
    refine ⟨.v (.slice none 0 0), [.cells 28 1 [.v (.slice none 0 0)]], ?_, Buf.nil _ _ _ _⟩
    have hgt : ¬ (0 : Int) < ((Jcq l i).length : Int) := by omega
    have l0 : Jad none [.cells 28 1 [.v (.slice none 0 0)]] (.hp 0 0) = some (.v (.slice none 0 0)) := rfl
    simp only [e1, Jan, hp, Jkc, Jaj, Jfr, hgt, decide_false, Jai, Bool.false_eq_true, if_false, l0]
  · rw [if_neg h0]
    have hE : 0 <= endv l i := by
      rcases Int.lt_or_le (endv l i) 0 with hh | hh
      · exact absurd (by rw [hneg hh]; rfl) h0
      · exact hh
    have hw := hpos hE
    generalize Jcq l i = l1 at *
    have hlt : 0 < l1.length := by omega
    have hgt : (0 : Int) < (l1.length : Int) := by omega
    have hx0 : nodeAt l1 0 = l1[0] := Jc7 l1 0 hlt
    have hkid : (nodeAt l1 0).1 = 25 -> 1 < l1.length := fun e => by
      have := Jqb l1 0 (by show 0 <= endv l1 0; omega) e
      omega
    have e2 : Juf Tryz.prog [Jaf l1] [.cells 28 1 [.v (.slice none 0 0)]] = some (.clo (.func 83) [] [.hp 1 0], [.cells 28 1 [.v (.slice none 0 0)], .cells 23 1 [Jaf l1]]) := by
      rw [Qh9, Jru]
      rfl
    have hinv : ChInv l1 (nodeAt l1 0) [.cells 28 1 [.v (.slice none 0 0)], .cells 23 1 [Jaf l1], Jk6 Tryz.f20 .ready, .cells 106 1 [.yld 2], .cells 54 2 [iD (nodeAt l1 0).1, iD (nodeAt l1 0).2], .cells 4 1 [bD true]] [] :=
      ⟨by simp, ⟨_, rfl, Buf.nil _ _ _ _⟩, rfl, rfl, rfl, rfl, rfl⟩
    obtain ⟨H', v1, v2⟩ := Qj3 l1 (nodeAt l1 0) _ hinv hkid
    have e3 : Jpv Tryz.prog (Y13 Tryz.prog) [.yld 2, .hp 1 0] [.cells 28 1 [.v (.slice none 0 0)], .cells 23 1 [Jaf l1], Jk6 Tryz.f20 .ready] = some (.tup [], H') := by
      rw [Qdr, Jow]
      have i0 : idxH 2 (Jaf l1) (iD 0) = some (.ptr (Jax l1[0])) := Jav l1 0 hlt
      have b1 : boxH 106 (.yld 2) [.cells 28 1 [.v (.slice none 0 0)], .cells 23 1 [Jaf l1], Jk6 Tryz.f20 .ready] = some (.hp 3 0, [.cells 28 1 [.v (.slice none 0 0)], .cells 23 1 [Jaf l1], Jk6 Tryz.f20 .ready, .cells 106 1 [.yld 2]]) := rfl
      have l1' : Jad none [.cells 28 1 [.v (.slice none 0 0)], .cells 23 1 [Jaf l1], Jk6 Tryz.f20 .ready, .cells 106 1 [.yld 2]] (.hp 1 0) = some (Jaf l1) := rfl
      have l2' : Jad (some 2) [.cells 28 1 [.v (.slice none 0 0)], .cells 23 1 [Jaf l1], Jk6 Tryz.f20 .ready, .cells 106 1 [.yld 2]] (.ptr (Jax l1[0])) = some (.agg (Jax l1[0])) := rfl
      rw [hx0] at v1
      simp only [b1, Jan, l1', Jaj, i0, l2']
      exact v1
    obtain ⟨h0', ⟨d, q1, q2⟩, q3, q4, q5, q6, q7⟩ := v2
    have e4 : rangeS (T13h Tryz.prog (Y13 Tryz.prog)) (.clo (.func 83) [] [.hp 1 0]) [19, 20] (Jli Tryz.f20 0) (Jje Tryz.f20 0) 35 Jbh [.hp 0 0, .undef, .undef, .undef, .undef] [.cells 28 1 [.v (.slice none 0 0)], .cells 23 1 [Jaf l1]] = some (.normal, H'.set 2 .dead) := by
      have e5 : rangeS (T13h Tryz.prog (Y13 Tryz.prog)) (.clo (.func 83) [] [.hp 1 0]) [19, 20] (Jli Tryz.f20 0) (Jje Tryz.f20 0) 35 Jbh [.hp 0 0, .undef, .undef, .undef, .undef] [.cells 28 1 [.v (.slice none 0 0)], .cells 23 1 [Jaf l1]] =
        Qhi (Jpv Tryz.prog (Y13 Tryz.prog) [.yld 2, .hp 1 0] [.cells 28 1 [.v (.slice none 0 0)], .cells 23 1 [Jaf l1], Jk6 Tryz.f20 .ready]) 2 := rfl
      rw [e5, e3]
      unfold Qhi
      simp only [q4]
      rfl
    have w1 : (H'.set 2 HO.dead)[0]? = some (.cells 28 1 [d]) := by rw [List.getElem?_set_ne (by omega)]; exact q1
    have l2 := Jd7 _ 0 _ _ _ _ w1
    refine ⟨d, H'.set 2 .dead, ?_, ?_⟩
    · simp only [e1, Jan, hp, Jkc, Jaj, Jfr, hgt, decide_true, Jai, if_true, e2, e4, Jn1, l2]
    · rcases q2.set 2 .dead (by omega) with q | ⟨r, r1, r2⟩
      · exact .inl q
      · exact .inr ⟨r, Nat.zero_le _, r2⟩
def Jks : List D -> Option D := F2 nodesT intT fun l i => if l.length <= 3000000 then some (dlsD (Jdx l i)) else none
theorem Qlx : CallNew Tryz.prog 20 Jks := Qny Qih fun ds d hF => by
  unfold Jks F2 at hF
  split at hF
  · obtain ⟨l, hl, hF⟩ := Option.bind_eq_some_iff.1 hF
    obtain ⟨i, hi, hF⟩ := Option.bind_eq_some_iff.1 hF
    simp only at hF
    split at hF
    case isFalse => cases hF
    rename_i hb
    cases hF
    obtain ⟨d', H', q1, q2⟩ := Qaq l i hb
    exact ⟨3, _, _, (Jdx l i).map dlC, [Jaf l, iD i], d', H', _, rfl, .cons (nodesT.ok _ _ hl) (.cons (intT.ok _ _ hi) .nil), q1, q2, by omega, by simp [Jdx], fun e he => by obtain ⟨x, _, rfl⟩ := List.mem_map.1 he; rfl, fun S S2 L w xs hx => Qei _ xs hx⟩
  · cases hF
theorem Qar (l : List Nd) (i : Int) (h : l.length <= 3000000) (H : Heap) : Jc8 Jks [Jaf l, iD i] H = some (dlsD (Jdx l i), H) := by
  rw [Jkb _ _ _ rfl]
  have : Jks [Jaf l, iD i] = _ := Jht (A := nodesT) (B := intT) _ l i
  rw [this, if_pos h]; rfl
def Qr1 (P : Program) : List Entry := (20, true, Jc8 Jks) :: Qop P
theorem Qe6 : ∀ p ∈ Qr1 Tryz.prog, Jbu Tryz.prog p := Jac (Jgk Qlx) <| Jxl
def T13j (P : Program) : Tab := ⟨Qr1 P, noYl⟩
theorem Qte : TabOk Tryz.prog (T13j Tryz.prog) := Jb4 Qe6
end Go.Proofs.YtinnbafplhcnpaaGreat
end
section
namespace Go.Proofs.YtinnbafplhcnpaaGreat
open Go.RowKit
set_option linter.unusedVariables false
set_option maxRecDepth 100000
def Jiz : List Nat := []
theorem Joi (n : Nat) (x0 x1 x2 x3 : D) (h : Heap) : Jap Tryz.prog (T13j Tryz.prog) Jiz n Tryz.f63 [x0, x1, x2, x3] h =
(thnH (Jae Jgq [x0, x1] h) fun y0 h1 =>
thn (binK .int .lss y0 (iD 0)) fun y2 =>
Jah y2
(some ((bD false), h1))
(thn (idxH 2 x0 x1) fun y3 =>
thn (Jad (some 2) h1 y3) fun y4 =>
thnH (Jaz 54 [(iD 0), (iD 0)] h1) fun y5 h6 =>
thnH (setH 2 y5 y4 h6) fun y7 h8 =>
thn (Jaa 0 y5) fun y9 =>
thn (Jad none h8 y9) fun y10 =>
thn (binK .int .eql x2 (iD 1)) fun y11 =>
Jah y11
(thn (binK .int .geq y10 (iD 7)) fun y12 =>
Jah y12
(thn (binK .int .leq y10 (iD 11)) fun y13 =>
Jah y13
(thn (binK .int .geq x3 (iD 7)) fun y14 =>
Jah y14
(thn (binK .int .leq x3 (iD 11)) fun y15 =>
Jah y15
(thn (binK .int .neq x3 y10) fun y16 =>
some (y16, h8))
(some ((bD false), h8)))
(some ((bD false), h8)))
(some ((bD false), h8)))
(some ((bD false), h8)))
(thn (binK .int .eql x2 (iD 2)) fun y17 =>
Jah y17
(thn (binK .int .geq y10 (iD 12)) fun y18 =>
Jah y18
(thn (binK .int .leq y10 (iD 17)) fun y19 =>
Jah y19
(thn (binK .int .geq x3 (iD 12)) fun y20 =>
Jah y20
(thn (binK .int .leq x3 (iD 17)) fun y21 =>
Jah y21
(thn (binK .int .neq x3 y10) fun y22 =>
some (y22, h8))
(some ((bD false), h8)))
(some ((bD false), h8)))
(some ((bD false), h8)))
(some ((bD false), h8)))
(thn (binK .int .eql x2 (iD 3)) fun y23 =>
Jah y23
(thn (binK .int .geq y10 (iD 18)) fun y24 =>
Jah y24
(thn (binK .int .leq y10 (iD 19)) fun y25 =>
Jah y25
(thn (binK .int .geq x3 (iD 18)) fun y26 =>
Jah y26
(thn (binK .int .leq x3 (iD 19)) fun y27 =>
Jah y27
(thn (binK .int .neq x3 y10) fun y28 =>
some (y28, h8))
(some ((bD false), h8)))
(some ((bD false), h8)))
(some ((bD false), h8)))
(some ((bD false), h8)))
(thn (binK .int .eql x2 (iD 4)) fun y29 =>
Jah y29
(thn (binK .int .eql x3 (iD 0)) fun y30 =>
Jah y30
(thn (binK .int .eql y10 (iD 1)) fun y31 =>
Jah y31
(thn (Jaa 1 y5) fun y32 =>
thn (Jad none h8 y32) fun y33 =>
thn (binK .int .neq x3 y33) fun y34 =>
Jah y34
(some ((bD true), h8))
(thn (binK .int .eql y10 (iD 2)) fun y35 =>
Jah y35
(thn (Jaa 1 y5) fun y36 =>
thn (Jad none h8 y36) fun y37 =>
thn (binK .int .sub (iD 1) y37) fun y38 =>
thn (binK .int .eql x3 y38) fun y39 =>
some (y39, h8))
(some ((bD false), h8))))
(thn (binK .int .eql y10 (iD 2)) fun y40 =>
Jah y40
(thn (Jaa 1 y5) fun y41 =>
thn (Jad none h8 y41) fun y42 =>
thn (binK .int .sub (iD 1) y42) fun y43 =>
thn (binK .int .eql x3 y43) fun y44 =>
some (y44, h8))
(some ((bD false), h8))))
(thn (binK .int .eql x3 (iD 1)) fun y45 =>
Jah y45
(thn (binK .int .eql y10 (iD 1)) fun y46 =>
Jah y46
(thn (Jaa 1 y5) fun y47 =>
thn (Jad none h8 y47) fun y48 =>
thn (binK .int .neq x3 y48) fun y49 =>
Jah y49
(some ((bD true), h8))
(thn (binK .int .eql y10 (iD 2)) fun y50 =>
Jah y50
(thn (Jaa 1 y5) fun y51 =>
thn (Jad none h8 y51) fun y52 =>
thn (binK .int .sub (iD 1) y52) fun y53 =>
thn (binK .int .eql x3 y53) fun y54 =>
some (y54, h8))
(some ((bD false), h8))))
(thn (binK .int .eql y10 (iD 2)) fun y55 =>
Jah y55
(thn (Jaa 1 y5) fun y56 =>
thn (Jad none h8 y56) fun y57 =>
thn (binK .int .sub (iD 1) y57) fun y58 =>
thn (binK .int .eql x3 y58) fun y59 =>
some (y59, h8))
(some ((bD false), h8))))
(thn (binK .int .eql x3 (iD (-1))) fun y60 =>
Jah y60
(thn (binK .int .eql y10 (iD 1)) fun y61 =>
Jah y61
(thn (Jaa 1 y5) fun y62 =>
thn (Jad none h8 y62) fun y63 =>
thn (binK .int .neq x3 y63) fun y64 =>
Jah y64
(some ((bD true), h8))
(thn (binK .int .eql y10 (iD 2)) fun y65 =>
Jah y65
(thn (Jaa 1 y5) fun y66 =>
thn (Jad none h8 y66) fun y67 =>
thn (binK .int .sub (iD 1) y67) fun y68 =>
thn (binK .int .eql x3 y68) fun y69 =>
some (y69, h8))
(some ((bD false), h8))))
(thn (binK .int .eql y10 (iD 2)) fun y70 =>
Jah y70
(thn (Jaa 1 y5) fun y71 =>
thn (Jad none h8 y71) fun y72 =>
thn (binK .int .sub (iD 1) y72) fun y73 =>
thn (binK .int .eql x3 y73) fun y74 =>
some (y74, h8))
(some ((bD false), h8))))
(thn (Jaa 1 y5) fun y75 =>
thn (Jad none h8 y75) fun y76 =>
thn (binK .int .add y76 (iD 1)) fun y77 =>
thn (binK .int .eql x3 y77) fun y78 =>
Jah y78
(thn (binK .int .eql y10 (iD 1)) fun y79 =>
Jah y79
(thn (Jaa 1 y5) fun y80 =>
thn (Jad none h8 y80) fun y81 =>
thn (binK .int .neq x3 y81) fun y82 =>
Jah y82
(some ((bD true), h8))
(thn (binK .int .eql y10 (iD 2)) fun y83 =>
Jah y83
(thn (Jaa 1 y5) fun y84 =>
thn (Jad none h8 y84) fun y85 =>
thn (binK .int .sub (iD 1) y85) fun y86 =>
thn (binK .int .eql x3 y86) fun y87 =>
some (y87, h8))
(some ((bD false), h8))))
(thn (binK .int .eql y10 (iD 2)) fun y88 =>
Jah y88
(thn (Jaa 1 y5) fun y89 =>
thn (Jad none h8 y89) fun y90 =>
thn (binK .int .sub (iD 1) y90) fun y91 =>
thn (binK .int .eql x3 y91) fun y92 =>
some (y92, h8))
(some ((bD false), h8))))
(thn (Jaa 1 y5) fun y93 =>
thn (Jad none h8 y93) fun y94 =>
thn (binK .int .sub y94 (iD 1)) fun y95 =>
thn (binK .int .eql x3 y95) fun y96 =>
thn (binK .int .eql y10 (iD 1)) fun y97 =>
Jah y97
(Jah y96
(thn (Jaa 1 y5) fun y98 =>
thn (Jad none h8 y98) fun y99 =>
thn (binK .int .neq x3 y99) fun y100 =>
Jah y100
(some ((bD true), h8))
(thn (binK .int .eql y10 (iD 2)) fun y101 =>
Jah y101
(thn (Jaa 1 y5) fun y102 =>
thn (Jad none h8 y102) fun y103 =>
thn (binK .int .sub (iD 1) y103) fun y104 =>
thn (binK .int .eql x3 y104) fun y105 =>
some (y105, h8))
(some ((bD false), h8))))
(thn (binK .int .eql y10 (iD 2)) fun y106 =>
Jah y106
(thn (Jaa 1 y5) fun y107 =>
thn (Jad none h8 y107) fun y108 =>
thn (binK .int .sub (iD 1) y108) fun y109 =>
thn (binK .int .eql x3 y109) fun y110 =>
some (y110, h8))
(some ((bD false), h8))))
(thn (binK .int .eql y10 (iD 2)) fun y111 =>
Jah y111
(thn (Jaa 1 y5) fun y112 =>
thn (Jad none h8 y112) fun y113 =>
thn (binK .int .sub (iD 1) y113) fun y114 =>
thn (binK .int .eql x3 y114) fun y115 =>
some (y115, h8))
(some ((bD false), h8))))))))
(thn (binK .int .eql x2 (iD 5)) fun y116 =>
Jah y116
(thn (binK .int .eql y10 (iD 21)) fun y117 =>
Jah y117
(thn (binK .int .eql x3 (iD 0)) fun y118 =>
some (y118, h8))
(thn (binK .int .eql y10 (iD 22)) fun y119 =>
Jah y119
(thn (binK .int .eql x3 (iD 0)) fun y120 =>
some (y120, h8))
(thn (binK .int .eql y10 (iD 23)) fun y121 =>
Jah y121
(thn (binK .int .eql x3 (iD 0)) fun y122 =>
some (y122, h8))
(thn (binK .int .eql y10 (iD 24)) fun y123 =>
Jah y123
(thn (binK .int .eql x3 (iD 0)) fun y124 =>
some (y124, h8))
(thn (binK .int .eql y10 (iD 25)) fun y125 =>
Jah y125
(thn (binK .int .eql x3 (iD 0)) fun y126 =>
some (y126, h8))
(some ((bD false), h8)))))))
(thn (binK .int .eql x2 (iD 6)) fun y127 =>
Jah y127
(thn (binK .int .eql y10 (iD 23)) fun y128 =>
Jah y128
(thn (binK .int .eql x3 (iD 0)) fun y129 =>
some (y129, h8))
(thn (binK .int .eql y10 (iD 24)) fun y130 =>
Jah y130
(thn (binK .int .eql x3 (iD 0)) fun y131 =>
some (y131, h8))
(some ((bD false), h8))))
(thn (binK .int .eql x2 (iD 7)) fun y132 =>
Jah y132
(thn (binK .int .eql y10 (iD 25)) fun y133 =>
Jah y133
(thn (binK .int .eql x3 (iD 0)) fun y134 =>
Jah y134
(thn (binK .int .add x1 (iD 1)) fun y135 =>
thn (idxH 2 x0 y135) fun y136 =>
thn (Jad (some 2) h8 y136) fun y137 =>
thn (Jbv [(0, 1), (1, 1)] [(iD 0), (iD 0)] [(0, (iD 1)), (1, x3)]) fun y138 =>
thn (binK (.ints 2) .neq y137 y138) fun y139 =>
some (y139, h8))
(thn (binK .int .eql x3 (iD 1)) fun y140 =>
Jah y140
(thn (binK .int .add x1 (iD 1)) fun y141 =>
thn (idxH 2 x0 y141) fun y142 =>
thn (Jad (some 2) h8 y142) fun y143 =>
thn (Jbv [(0, 1), (1, 1)] [(iD 0), (iD 0)] [(0, (iD 1)), (1, x3)]) fun y144 =>
thn (binK (.ints 2) .neq y143 y144) fun y145 =>
some (y145, h8))
(some ((bD false), h8))))
(some ((bD false), h8)))
(some ((bD false), h8)))))))))) := by kernel_rfl
end Go.Proofs.YtinnbafplhcnpaaGreat
end
section
namespace Go.Proofs.YtinnbafplhcnpaaGreat
open Go.RowKit
set_option linter.unusedVariables false
set_option linter.unusedSimpArgs false
set_option maxRecDepth 100000
theorem bD_iff {p : Prop} [Decidable p] {b : Bool} (h : b = true ↔ p) : bD b = bD (decide p) := by
  congr 2
  rw [Bool.eq_iff_iff, h]; simp
theorem isN4 (t m : Int) (y : Nd) (n : Int) : isN (t, m) y 4 n ↔ (t = 1 /\ (n = 0 \/ n = 1 \/ n = -1 \/ n = w64 (m + 1) \/ n = w64 (m - 1)) /\ n ≠ m) \/ (t = 2 /\ n = w64 (1 - m)) := by simp [isN, and_assoc]
theorem isN5 (t m : Int) (y : Nd) (n : Int) : isN (t, m) y 5 n ↔ (t = 21 \/ t = 22 \/ t = 23 \/ t = 24 \/ t = 25) /\ n = 0 := by simp [isN]
theorem isN6 (t m : Int) (y : Nd) (n : Int) : isN (t, m) y 6 n ↔ (t = 23 \/ t = 24) /\ n = 0 := by simp [isN]
theorem isN7 (t m : Int) (y : Nd) (n : Int) : isN (t, m) y 7 n ↔ t = 25 /\ (n = 0 \/ n = 1) /\ y ≠ (1, n) := by simp [isN]
theorem isNo (x y : Nd) (op n : Int) (h : ¬ (1 <= op /\ op <= 7)) : ¬ isN x y op n := by
  unfold isN
  rintro (h1 | h1 | h1 | h1 | h1 | h1 | h1) <;> obtain ⟨e, _⟩ := h1 <;> omega
instance (l : List Nd) (i op n : Int) : Decidable (isC l i op n) := by unfold isC; infer_instance
def Jp3 : List D -> Option D := F4 nodesT intT intT intT fun l i op n => if l.length <= 3000000 then some (bD (decide (isC l i op n))) else none
set_option maxHeartbeats 4000000 in
theorem Qp5 : CallOk Tryz.prog 63 Jp3 := call4 (kp := Jiz) Qte mixed Tryz.func63 (by kernel_rfl) (by decide) fun l i op n d h => by
  split at h
  case isFalse => cases h
  rename_i hb
  cases h
  refine ⟨0, _, ?_, Imp.refl _⟩
  show outD (Jap _ _ _ _ _ [Jaf l, iD i, iD op, iD n] []) = _
  rw [Joi]
  have hend := Jk1 l i [] hb
  by_cases hE : endv l i < 0
  · have hn : ¬ isC l i op n := fun h => by have := h.1; omega
    simp only [hend, Jan, Jbd, hE, decide_true, Jaj, Jai, if_true, decide_eq_false hn]
    rfl
  have hE0 : 0 <= endv l i := by omega
  obtain ⟨k, rfl⟩ := Int.eq_ofNat_of_zero_le (Ja2 l i hE0).1
  have hk := (Jyc hE0).choose
  have hx : nodeAt l k = l[k] := Jc7 l k hk
  have i0 := Jav l k hk
  have hC : isC l k op n ↔ isN (nodeAt l k) (nodeAt l ((k : Int) + 1)) op n := ⟨fun h => h.2, fun h => ⟨hE0, h⟩⟩
  rw [<- hx] at i0
  have hkid : (nodeAt l k).1 = 25 -> idxH 2 (Jaf l) (iD ((k + 1 : Nat) : Int)) = some (.ptr (Jax (nodeAt l ((k : Int) + 1)))) := fun e => by
    obtain ⟨_, _, h3⟩ := Jqb l k hE0 e
    have := Jav l (k + 1) h3
    rw [this]
    have hy : nodeAt l ((k + 1 : Nat) : Int) = l[k + 1] := Jc7 l (k + 1) h3
    have e2 : ((k : Int) + 1) = ((k + 1 : Nat) : Int) := by omega
    rw [e2, hy]
  have hki : (nodeAt l k).1 = 25 -> intD .add .i64 (k : Int) 1 = some (iD ((k + 1 : Nat) : Int)) := fun e => by
    rw [Jb0 (k : Int) 1 (by omega) (by omega)]
    congr 3
  generalize nodeAt l ((k : Int) + 1) = y at *
  generalize nodeAt l k = x at *
  clear hx hk
  obtain ⟨t, m⟩ := x
  have a0 : Jaz 54 [iD 0, iD 0] [] = some (.hp 0 0, [.cells 54 2 [iD 0, iD 0]]) := rfl
  have s0 : setH 2 (.hp 0 0) (.agg (Jax (t, m))) [.cells 54 2 [iD 0, iD 0]] = some (.v undef, [.cells 54 2 [iD t, iD m]]) := rfl
  have l0 : Jad none [.cells 54 2 [iD t, iD m]] (.hp 0 0) = some (iD t) := rfl
  have l1 : Jad none [.cells 54 2 [iD t, iD m]] (.hp 0 1) = some (iD m) := rfl
  have lp : ∀ H z, Jad (some 2) H (.ptr (Jax z)) = some (.agg (Jax z)) := fun _ _ => rfl
  have f0 : Jaa 0 (.hp 0 0) = some (.hp 0 0) := rfl
  have f1 : Jaa 1 (.hp 0 0) = some (.hp 0 1) := rfl
  have eP : intD .add .i64 m 1 = some (iD (w64 (m + 1))) := rfl
  have eM : intD .sub .i64 m 1 = some (iD (w64 (m - 1))) := rfl
  have eO : intD .sub .i64 1 m = some (iD (w64 (1 - m))) := rfl
  have bu : Jbv [(0, 1), (1, 1)] [iD 0, iD 0] [(0, iD 1), (1, iD n)] = some (.agg (Jax (1, n))) := rfl
  have ho : ∀ b : Bool, outD (some (bD b, [HO.cells 54 2 [iD t, iD m]])) = some (bD b) := fun b => rfl
  simp only [hend, Jan, Jbd, hE, decide_false, Jaj, Jai, Bool.false_eq_true, if_false, i0, lp, a0, s0, f0, l0, Jbk]
  have key : ∀ b : Bool, (b = true ↔ isC l k op n) -> outD (some (bD b, [HO.cells 54 2 [iD t, iD m]])) = some (bD (decide (isC l k op n))) := fun b hb => by rw [ho, bD_iff hb]
  by_cases o1 : op = 1
  · subst o1
    simp only [show ((1 : Int) == 1) = true from rfl, if_true, Jc3, Jhd, Jb8, Jaj, Jai]
    by_cases a1 : 7 <= t <;> by_cases a2 : t <= 11 <;> by_cases a3 : 7 <= n <;> by_cases a4 : n <= 11 <;> simp only [a1, a2, a3, a4, decide_true, decide_false, if_true, if_false, Bool.false_eq_true] <;> refine key _ ?_ <;> rw [hC] <;> simp [isN] <;> omega
  by_cases o2 : op = 2
  · subst o2
    simp only [show ((2 : Int) == 1) = false from rfl, show ((2 : Int) == 2) = true from rfl, if_true, if_false, Bool.false_eq_true, Jc3, Jhd, Jb8, Jaj, Jai]
    by_cases a1 : 12 <= t <;> by_cases a2 : t <= 17 <;> by_cases a3 : 12 <= n <;> by_cases a4 : n <= 17 <;> simp only [a1, a2, a3, a4, decide_true, decide_false, if_true, if_false, Bool.false_eq_true] <;> refine key _ ?_ <;> rw [hC] <;> simp [isN] <;> omega
  by_cases o3 : op = 3
  · subst o3
    simp only [show ((3 : Int) == 1) = false from rfl, show ((3 : Int) == 2) = false from rfl, show ((3 : Int) == 3) = true from rfl, if_true, if_false, Bool.false_eq_true, Jc3, Jhd, Jb8, Jaj, Jai]
    by_cases a1 : 18 <= t <;> by_cases a2 : t <= 19 <;> by_cases a3 : 18 <= n <;> by_cases a4 : n <= 19 <;> simp only [a1, a2, a3, a4, decide_true, decide_false, if_true, if_false, Bool.false_eq_true] <;> refine key _ ?_ <;> rw [hC] <;> simp [isN] <;> omega
  have q1 : (op == 1) = false := by rw [beq_eq_false_iff_ne]; exact o1
  have q2 : (op == 2) = false := by rw [beq_eq_false_iff_ne]; exact o2
  have q3 : (op == 3) = false := by rw [beq_eq_false_iff_ne]; exact o3
  simp only [q1, q2, q3, Bool.false_eq_true, if_false]
  by_cases o4 : op = 4
  · have q4 : (op == 4) = true := by rw [o4]; rfl
    simp only [q4, if_true, f1, l1, Jaj, Jb8, Jfq, Jcs, eP, eM, eO, Jbk, Jai]
    have fin : ∀ b : Bool, b = (((n == 0) || (n == 1) || (n == -1) || (n == w64 (m + 1)) || (n == w64 (m - 1))) && (t == 1) && (n != m) || (t == 2) && (n == w64 (1 - m))) -> outD (some (bD b, [HO.cells 54 2 [iD t, iD m]])) = some (bD (decide (isC l k op n))) := fun b e => by
      refine key b ?_
      rw [hC, o4, e]
      rw [isN4]
      simp only [Bool.or_eq_true, Bool.and_eq_true, beq_iff_eq, bne_iff_ne]
      omega
    generalize e1 : (n == 0) = b1 at *
    generalize e2 : (n == 1) = b2 at *
    generalize e3 : (n == -1) = b3 at *
    generalize e4 : (n == w64 (m + 1)) = b4 at *
    generalize e5 : (n == w64 (m - 1)) = b5 at *
    generalize e6 : (t == 1) = b6 at *
    generalize e7 : (t == 2) = b7 at *
    generalize e8 : (n != m) = b8 at *
    generalize e9 : (n == w64 (1 - m)) = b9 at *
    clear key hC ho
    cases b6 <;> cases b7 <;> cases b8 <;> cases b1 <;> cases b2 <;> cases b3 <;> cases b4 <;> cases b5 <;> simp only [if_true, if_false, Bool.false_eq_true] <;> exact fin _ (by cases b9 <;> rfl)
  have q4 : (op == 4) = false := by rw [beq_eq_false_iff_ne]; exact o4
  simp only [q4, Bool.false_eq_true, if_false]
  by_cases o5 : op = 5
  · have q5 : (op == 5) = true := by rw [o5]; rfl
    simp only [q5, if_true, Jbk, Jaj, Jai]
    by_cases ht : t = 21 \/ t = 22 \/ t = 23 \/ t = 24 \/ t = 25
    · have fin := key (n == 0) (by rw [hC, o5, isN5, beq_iff_eq]; exact ⟨fun h => ⟨ht, h⟩, fun h => h.2⟩)
      rcases ht with rfl | rfl | rfl | rfl | rfl <;> simpa using fin
    · have fin := key false (by rw [hC, o5, isN5]; exact ⟨fun h => (by cases h), fun h => absurd h.1 ht⟩)
      have b : ∀ z : Int, z = 21 \/ z = 22 \/ z = 23 \/ z = 24 \/ z = 25 -> (t == z) = false := fun z hz => by rw [beq_eq_false_iff_ne]; omega
      simp only [b 21 (by omega), b 22 (by omega), b 23 (by omega), b 24 (by omega), b 25 (by omega), Bool.false_eq_true, if_false]
      exact fin
  have q5 : (op == 5) = false := by rw [beq_eq_false_iff_ne]; exact o5
  simp only [q5, Bool.false_eq_true, if_false]
  by_cases o6 : op = 6
  · have q6 : (op == 6) = true := by rw [o6]; rfl
    simp only [q6, if_true, Jbk, Jaj, Jai]
    by_cases ht : t = 23 \/ t = 24
    · have fin := key (n == 0) (by rw [hC, o6, isN6, beq_iff_eq]; exact ⟨fun h => ⟨ht, h⟩, fun h => h.2⟩)
      rcases ht with rfl | rfl <;> simpa using fin
    · have fin := key false (by rw [hC, o6, isN6]; exact ⟨fun h => (by cases h), fun h => absurd h.1 ht⟩)
      have b : ∀ z : Int, z = 23 \/ z = 24 -> (t == z) = false := fun z hz => by rw [beq_eq_false_iff_ne]; omega
      simp only [b 23 (by omega), b 24 (by omega), Bool.false_eq_true, if_false]
      exact fin
  have q6 : (op == 6) = false := by rw [beq_eq_false_iff_ne]; exact o6
  simp only [q6, Bool.false_eq_true, if_false]
  by_cases o7 : op = 7
  · have q7 : (op == 7) = true := by rw [o7]; rfl
    simp only [q7, if_true, Jbk, Jaj, Jai]
    by_cases ht : t = 25
    · have hkid' := hkid ht
      have hki' := hki ht
      have b25 : (t == 25) = true := by rw [ht]; rfl
      have fin := key (!decide (y = (1, n)) && ((n == 0) || (n == 1))) (by
        rw [hC, o7, isN7]
        simp only [Bool.and_eq_true, Bool.or_eq_true, beq_iff_eq, Bool.not_eq_true', decide_eq_false_iff_not]
        exact ⟨fun h => ⟨ht, h.2, h.1⟩, fun h => ⟨h.2.2, h.2.1⟩⟩)
      simp only [b25, if_true, Jcs, hki', Jaj, hkid', lp, bu, Qa0]
      generalize e1 : (n == 0) = b1 at *
      generalize e2 : (n == 1) = b2 at *
      cases b1 <;> cases b2 <;> simpa using fin
    · have b25 : (t == 25) = false := by rw [beq_eq_false_iff_ne]; exact ht
      have fin := key false (by rw [hC, o7, isN7]; exact ⟨fun h => (by cases h), fun h => absurd h.1 ht⟩)
      simp only [b25, Bool.false_eq_true, if_false]
      exact fin
  have q7 : (op == 7) = false := by rw [beq_eq_false_iff_ne]; exact o7
  simp only [q7, Jaj, Jai, Bool.false_eq_true, if_false]
  exact key false (by rw [hC]; exact ⟨fun h => (by cases h), fun h => absurd h (isNo _ _ _ _ (by omega))⟩)
theorem Qda (l : List Nd) (i op n : Int) (h : l.length <= 3000000) (H : Heap) : Jae Jp3 [Jaf l, iD i, iD op, iD n] H = some (bD (decide (isC l i op n)), H) := by
  rw [Jar _ _ _ rfl]
  have : Jp3 [Jaf l, iD i, iD op, iD n] = _ := Qkw (A := nodesT) (B := intT) (C := intT) (E := intT) _ l i op n
  rw [this, if_pos h]; rfl
def fs13k (P : Program) : List Entry := (63, true, Jae Jp3) :: Qr1 P
theorem Qom : ∀ p ∈ fs13k Tryz.prog, Jbu Tryz.prog p := Jac (Jal Qp5) <| Qe6
end Go.Proofs.YtinnbafplhcnpaaGreat
end
section
namespace Go.Proofs.YtinnbafplhcnpaaGreat
open Go.RowKit
set_option linter.unusedVariables false
set_option maxRecDepth 100000
end Go.Proofs.YtinnbafplhcnpaaGreat
end
section
namespace Go.Proofs.YtinnbafplhcnpaaGreat
open Go.RowKit
set_option linter.unusedVariables false
set_option linter.unusedSimpArgs false
def Up (l : List Int) : Prop := ∀ p q, p < q -> q < l.length -> l.getD p 0 < l.getD q 0
theorem Qs3     {t : TypeId} {H : Heap} {B : Nat} {d x : D} {l new : List Int} (h : Buf t 1 H B d l.length (Jbg   l)) (hs : srcH 1 H x = some (Jbg   new)) (hb : l.length + new.length ≤ 1000000) (hB : B ≤ H.length) :
    ∃ d' H', Jd3 t 1 d x H = some (d', H') /\ Buf t 1 H' B d' (l ++ new).length (Jbg (l ++ new)) /\ Kp B H H' /\ H.length <= H'.length /\ (∀ k, k < H.length -> (∀ q, d ≠ .hs k q) -> H'[k]? = H[k]?) /\ (∀ k q, k < H.length -> (∀ q, d ≠ .hs k q) -> d' ≠ .hs k q) := by
  obtain ⟨d', H', h1, h2, h3, h4, h5⟩ := Qdl (m := new.length) h (by omega) (by rw [Jgj]; omega) (Qoa new) (by rw [Jgj, Jgj]; omega) hB
  refine ⟨d', H', by unfold Jd3; rw [hs]; exact h1, by rw [List.length_append, Jz0]; exact h2, h3, h3.1, h4, fun k q hk hd => ?_⟩
  rcases h5 with rfl | ⟨q', rfl⟩
  · exact hd q
  · intro e
    cases e
    omega
end Go.Proofs.YtinnbafplhcnpaaGreat
end
section
namespace Go.Proofs.YtinnbafplhcnpaaGreat
open Go.RowKit
set_option linter.unusedVariables false
set_option linter.unusedSimpArgs false
set_option maxRecDepth 100000
def fs13l (P : Program) : List Entry := fs13k P
theorem Qol : ∀ p ∈ fs13l Tryz.prog, Jbu Tryz.prog p := Qom
end Go.Proofs.YtinnbafplhcnpaaGreat
end
section
namespace Go.Proofs.YtinnbafplhcnpaaGreat
open Go.RowKit
set_option linter.unusedVariables false
set_option maxRecDepth 100000
end Go.Proofs.YtinnbafplhcnpaaGreat
end
section
namespace Go.Proofs.YtinnbafplhcnpaaGreat
open Go.RowKit
set_option linter.unusedVariables false
set_option linter.unusedSimpArgs false
set_option maxRecDepth 100000
def fs13m (P : Program) : List Entry := fs13l P
theorem Qok : ∀ p ∈ fs13m Tryz.prog, Jbu Tryz.prog p := Qol
end Go.Proofs.YtinnbafplhcnpaaGreat
end
section
namespace Go.Proofs.YtinnbafplhcnpaaGreat
open Go.RowKit
set_option linter.unusedVariables false
set_option maxRecDepth 100000
end Go.Proofs.YtinnbafplhcnpaaGreat
end
section
namespace Go.Proofs.YtinnbafplhcnpaaGreat
open Go.RowKit
set_option linter.unusedVariables false
set_option linter.unusedSimpArgs false
set_option maxRecDepth 100000
def fs13n (P : Program) : List Entry := (42, true, Jc8 Jn9) :: fs13m P
theorem Qoj : ∀ p ∈ fs13n Tryz.prog, Jbu Tryz.prog p := Jac (Jgk Qqp) <| Qok
end Go.Proofs.YtinnbafplhcnpaaGreat
end
