import Derived.Test.YtinnbafplhcnpaaGreatHf
import Derived.Test.YtinnbafplhcnpaaGreatHh
import Derived.Test.YtinnbafplhcnpaaGreatHj
import Derived.Test.YtinnbafplhcnpaaGreatHl
section
namespace Go.Proofs.YtinnbafplhcnpaaGreat
open Go.RowKit
set_option linter.unusedVariables false
set_option maxRecDepth 100000
def Jaq : List Nat := [0, 1, 2, 6, 7]
theorem Jft (n : Nat) (x0 x1 x2 : D) (h : Heap) : Jap Tryz.prog (T13b Tryz.prog) Jaq n Tryz.f140 [x0, x1, x2] h =
(thn (binK .int .add x1 (iD 1)) fun y0 =>
Jdl (Jds Tryz.prog (T13b Tryz.prog) Jaq n Tryz.f140 0 [x0, x1, x2, y0, .undef] h) (fun j1 s2 h3 =>
Jew j1 0
(some (.tup [], h3))
(none)) (fun s2 h3 =>
some (.tup [], h3))) := by kernel_rfl
theorem Jdg (n : Nat) (s0 s1 s2 s3 s4 : D) (h : Heap) : Jdu Tryz.prog (T13b Tryz.prog) Jaq n Tryz.f140 0 [s0, s1, s2, s3, s4] h =
(thn (binK .int .lss s3 s2) fun y0 =>
Jah y0
(Jdl (Jds Tryz.prog (T13b Tryz.prog) Jaq n Tryz.f140 1 [s0, s1, s2, s3, s3] h) (fun j1 s2 h3 =>
Jew j1 2
(thn (binK .int .add (s2.getD 3 .undef) (iD 1)) fun y4 =>
some (.normal, [(s2.getD 0 .undef), (s2.getD 1 .undef), (s2.getD 2 .undef), y4, (s2.getD 4 .undef)], h3))
(Jew j1 1
(thn (binK .int .add (s2.getD 3 .undef) (iD 1)) fun y5 =>
some (.normal, [(s2.getD 0 .undef), (s2.getD 1 .undef), (s2.getD 2 .undef), y5, (s2.getD 4 .undef)], h3))
(some ((.exit j1), [(s2.getD 0 .undef), (s2.getD 1 .undef), (s2.getD 2 .undef), (s2.getD 3 .undef), (s2.getD 4 .undef)], h3)))) (fun s2 h3 =>
some (.ret, [(s2.getD 0 .undef), (s2.getD 1 .undef), (s2.getD 2 .undef), (s2.getD 3 .undef), (s2.getD 4 .undef)], h3)))
(some ((.exit 0), [s0, s1, s2, s3, s4], h))) := by kernel_rfl
theorem Jci (n : Nat) (s0 s1 s2 s3 s4 : D) (h : Heap) : Jdu Tryz.prog (T13b Tryz.prog) Jaq n Tryz.f140 1 [s0, s1, s2, s3, s4] h =
(thn (binK .int .gtr s4 s1) fun y0 =>
Jah y0
(thn (idxH 1 s0 s4) fun y1 =>
thn (Jad none h y1) fun y2 =>
thn (binK .int .sub s4 (iD 1)) fun y3 =>
thn (idxH 1 s0 y3) fun y4 =>
thn (Jad none h y4) fun y5 =>
thnH (Jae Jmy [y2, y5] h) fun y6 h7 =>
Jah y6
(thn (binK .int .sub s4 (iD 1)) fun y8 =>
thn (binK .int .sub s4 (iD 1)) fun y9 =>
thn (idxH 1 s0 y9) fun y10 =>
thn (Jad none h7 y10) fun y11 =>
thn (idxH 1 s0 s4) fun y12 =>
thn (Jad none h7 y12) fun y13 =>
thn (idxH 1 s0 s4) fun y14 =>
thnH (setH 1 y14 y11 h7) fun y15 h16 =>
thn (idxH 1 s0 y8) fun y17 =>
thnH (setH 1 y17 y13 h16) fun y18 h19 =>
thn (binK .int .sub s4 (iD 1)) fun y20 =>
some (.normal, [s0, s1, s2, s3, y20], h19))
(some ((.exit 2), [s0, s1, s2, s3, s4], h7)))
(some ((.exit 2), [s0, s1, s2, s3, s4], h))) := by kernel_rfl
def Jba : List Nat := [0, 1, 5, 6]
theorem Jgz (n : Nat) (x0 x1 : D) (h : Heap) : Jap Tryz.prog (T13b Tryz.prog) Jba n Tryz.f118 [x0, x1] h =
(thnH ((Jne Tryz.prog) [x0, x1] h) fun y0 h1 =>
thn (binK .int .eql y0 (iD (-1))) fun y2 =>
Jah y2
(some (x0, h1))
(thn (binK .int .add y0 (iD 1)) fun y3 =>
Jdl (Jds Tryz.prog (T13b Tryz.prog) Jba n Tryz.f118 0 [x0, x1, y0, y3] h1) (fun j4 s5 h6 =>
Jew j4 0
(thn (cutH 1 (s5.getD 0 .undef) (some (s5.getD 2 .undef)) none) fun y7 =>
thnH (Jpn 1 [(iD 0)] y7 h6) fun y8 h9 =>
thn (cutH 1 (s5.getD 0 .undef) none (some (s5.getD 2 .undef))) fun y10 =>
some (y10, h9))
(none)) (fun s5 h6 =>
some (.undef, h6)))) := by kernel_rfl
theorem Jcu (n : Nat) (s0 s1 s2 s3 : D) (h : Heap) : Jdu Tryz.prog (T13b Tryz.prog) Jba n Tryz.f118 0 [s0, s1, s2, s3] h =
(thn (lenH .sl s0) fun y0 =>
thn (binK .int .lss s3 y0) fun y1 =>
Jah y1
(thn (idxH 1 s0 s3) fun y2 =>
thn (Jad none h y2) fun y3 =>
thnH (Jdq (T13b Tryz.prog) s1 [y3] h) fun y4 h5 =>
thn (notD y4) fun y6 =>
Jah y6
(thn (idxH 1 s0 s2) fun y7 =>
thnH (setH 1 y7 y3 h5) fun y8 h9 =>
thn (binK .int .add s2 (iD 1)) fun y10 =>
thn (binK .int .add s3 (iD 1)) fun y11 =>
some (.normal, [s0, s1, y10, y11], h9))
(thn (binK .int .add s3 (iD 1)) fun y12 =>
some (.normal, [s0, s1, s2, y12], h5)))
(some ((.exit 0), [s0, s1, s2, s3], h))) := by kernel_rfl
end Go.Proofs.YtinnbafplhcnpaaGreat
end
section
namespace Go.Proofs.YtinnbafplhcnpaaGreat
open Go.RowKit
set_option linter.unusedVariables false
set_option linter.unusedSimpArgs false
set_option maxRecDepth 100000
def Jmv (P : Program) : List D -> Heap -> Option (D × Heap) := Jgr P (T13b P) Jaq 1001 140
theorem Qia (ds : List D) (H : Heap) : Jmv Tryz.prog ds H = Jap Tryz.prog (T13b Tryz.prog) Jaq 1001 Tryz.f140 ds H := Jct Tryz.func140 ds H
theorem Qtw : HCallOk Tryz.prog 140 (Jmv Tryz.prog) := Jdf Qlt mixed Tryz.func140 (by kernel_rfl) (by decide)
theorem Qcw         (id n i : Nat) (t : TypeId) (H0 : Heap) (hid : ∃ o, H0[id]? = some o) (hi : i < n) (hn : n ≤ 1000) : ∀ (j : Nat) (l : List Int) (f : Nat), j < f → j ≤ i → l.length = n → Near l i j →
    ∃ (l' : List Int) (j' : Nat), Jez (Jdu Tryz.prog (T13b Tryz.prog) Jaq 1001 Tryz.f140 1) f [.hs id n, iD 0, iD n, iD i, iD j] (H0.set id (.cells t 1 (Jbg l))) =
      some (.exit 2, [.hs id n, iD 0, iD n, iD i, iD j'], H0.set id (.cells t 1 (Jbg l'))) /\ l'.length = n /\ Rise l' (i + 1) /\ ∀ x, x ∈ l' ↔ x ∈ l := by
  intro j
  induction j with
  | zero =>
    intro l f hf hji hl hN
    obtain ⟨f, rfl⟩ : ∃ x, f = x + 1 := ⟨f - 1, by omega⟩
    refine ⟨l, 0, Jdn ?_, hl, Qer hN (by omega) (.inl rfl), fun x => Iff.rfl⟩
    rw [Jci]
    simp
  | succ j ih =>
    intro l f hf hji hl hN
    obtain ⟨f, rfl⟩ : ∃ x, f = x + 1 := ⟨f - 1, by omega⟩
    have hg : (H0.set id (.cells t 1 (Jbg l)))[id]? = some (.cells t 1 (Jbg l)) := Jk5 hid
    have i1 := Jjy id n (j + 1) (by omega)
    have i2 := Jjy id n j (by omega)
    have l1 := Jg9 hg (j + 1) (by omega)
    have l2 := Jg9 hg j (by omega)
    have e1 := Jnb ((j + 1 : Nat) : Int) 1 (by omega) (by omega)
    have c1 : ((j + 1 : Nat) : Int) - 1 = ((j : Nat) : Int) := by omega
    rw [c1] at e1
    have hgt : (0 : Int) < ((j + 1 : Nat) : Int) := by omega
    by_cases hx : l.getD (j + 1) 0 < l.getD j 0
    · have s1 := Jwt hg (j + 1) (by omega) (l.getD j 0)
      rw [List.set_set] at s1
      have hg2 : (H0.set id (.cells t 1 (Jbg (l.set (j + 1) (l.getD j 0)))))[id]? = some (.cells t 1 (Jbg (l.set (j + 1) (l.getD j 0)))) := Jk5 hid
      have s2 := Jwt hg2 j (by simp; omega) (l.getD (j + 1) 0)
      rw [List.set_set] at s2
      obtain ⟨l', j', q1, q2, q3, q4⟩ := ih (swp l j) f (by omega) (by omega) (by rw [Qip]; exact hl) (Qn1 (by omega) (by omega) hN hx)
      refine ⟨l', j', ?_, q2, q3, fun x => (q4 x).trans (Qqt l j (by omega) x)⟩
      rw [Jei]
      · exact q1
      · rw [Jci]
        simp only [Jfr, hgt, decide_true, Jaj, Jai, if_true, i1, l1, Jfq, e1, i2, l2, Js9, Jan, hx, s1, s2]
        rfl
    · refine ⟨l, j + 1, Jdn ?_, hl, Qer hN hji (.inr (by simpa using Int.not_lt.1 hx)), fun x => Iff.rfl⟩
      rw [Jci]
      simp only [Jfr, hgt, decide_true, Jaj, Jai, if_true, i1, l1, Jfq, e1, i2, l2, Js9, Jan, hx, decide_false, Bool.false_eq_true, if_false]
theorem Qn9      (id n : Nat) (t : TypeId) (l : List Int) (H : Heap) (hid : H[id]? = some (.cells t 1 (Jbg   l))) (hl : l.length = n) (h1 : 1 ≤ n) (hn : n ≤ 1000) :
    ∃ s : List Int, Jmv Tryz.prog [.hs id n, iD 0, iD n] H = some (.tup [], H.set id (.cells t 1 (Jbg s))) /\ s.length = n /\ Rise s n /\ ∀ x, x ∈ s ↔ x ∈ l := by
  rw [Qia, Jft]
  have key : ∀ (m i : Nat) (s : List Int) (u : D) (f : Nat), i + m = n → 1 ≤ i → m < f → s.length = n → Rise s i → (∀ x, x ∈ s ↔ x ∈ l) →
      ∃ (s' : List Int) (u' : D), Jez (Jdu Tryz.prog (T13b Tryz.prog) Jaq 1001 Tryz.f140 0) f [.hs id n, iD 0, iD n, iD i, u] (H.set id (.cells t 1 (Jbg s))) =
      some (.exit 0, [.hs id n, iD 0, iD n, iD n, u'], H.set id (.cells t 1 (Jbg s'))) /\ s'.length = n /\ Rise s' n /\ ∀ x, x ∈ s' ↔ x ∈ l := by
    intro m
    induction m with
    | zero =>
      intro i s u f hi h1 hf hs hR hm
      obtain ⟨f, rfl⟩ : ∃ x, f = x + 1 := ⟨f - 1, by omega⟩
      obtain rfl : i = n := by omega
      refine ⟨s, u, Jdn ?_, hs, hR, hm⟩
      rw [Jdg]
      simp
    | succ m ih =>
      intro i s u f hi h1 hf hs hR hm
      obtain ⟨f, rfl⟩ : ∃ x, f = x + 1 := ⟨f - 1, by omega⟩
      have e1 := Jb0 (i : Int) 1 (by omega) (by omega)
      have c1 : ((i : Nat) : Int) + 1 = ((i + 1 : Nat) : Int) := by omega
      rw [c1] at e1
      have hlt : (i : Int) < (n : Int) := by omega
      obtain ⟨l', j', q1, q2, q3, q4⟩ := Qcw id n i t H ⟨_, hid⟩ (by omega) hn i s 1001 (by omega) (Nat.le_refl _) hs (Qha hR)
      have q1' : Jds Tryz.prog (T13b Tryz.prog) Jaq 1001 Tryz.f140 1 [.hs id n, iD 0, iD n, iD i, iD i] (H.set id (.cells t 1 (Jbg s))) = _ := q1
      obtain ⟨s', u', z1, z2⟩ := ih (i + 1) l' (iD j') f (by omega) (by omega) (by omega) q2 q3 (fun x => (q4 x).trans (hm x))
      refine ⟨s', u', ?_, z2⟩
      rw [Jei]
      · exact z1
      · rw [Jdg]
        simp only [Jbd, hlt, decide_true, Jaj, Jai, if_true, q1', Jcd, Jcz, List.getD_cons_zero, List.getD_cons_succ, Jcs, e1]
  have e0 := Jb0 (0 : Int) 1 (by omega) (by omega)
  obtain ⟨s', u', z1, z2, z3, z4⟩ := key (n - 1) 1 l .undef 1001 (by omega) (Nat.le_refl _) (by omega) hl (fun p q h1 h2 => by omega) (fun x => Iff.rfl)
  rw [set_self hid] at z1
  have z1' : Jds Tryz.prog (T13b Tryz.prog) Jaq 1001 Tryz.f140 0 [.hs id n, iD 0, iD n, iD 1, .undef] H = _ := z1
  refine ⟨s', ?_, z2, z3, z4⟩
  simp only [Jcs, e0, Jaj]
  show Jdl (Jds Tryz.prog (T13b Tryz.prog) Jaq 1001 Tryz.f140 0 [.hs id n, iD 0, iD n, iD 1, .undef] H) _ _ = _
  rw [z1']
  simp only [Jcd, Jcz]
def Jv9 (P : Program) : List D -> Heap -> Option (D × Heap) := Jgr P (T13b P) Jba 1001 118
theorem Ql8 (ds : List D) (H : Heap) : Jv9 Tryz.prog ds H = Jap Tryz.prog (T13b Tryz.prog) Jba 1001 Tryz.f118 ds H := Jct Tryz.func118 ds H
theorem C_DelF : HCallOk Tryz.prog 118 (Jv9 Tryz.prog) := Jdf Qlt mixed Tryz.func118 (by kernel_rfl) (by decide)
theorem Qjj (x : Int) (b : Nat) (H : Heap) : Jdq (T13b Tryz.prog) (Jmb b) [iD x] H = Jq2 Tryz.prog [iD x, .hp b 0] H := rfl
theorem Jlm (l : List Int) (k : Nat) (p : Int -> Bool) (h : k < l.length) : (l.take (k + 1)).filter p = if p (l.getD k 0) = true then (l.take k).filter p ++ [l.getD k 0] else (l.take k).filter p := by
  rw [List.take_succ_eq_append_getElem h, List.filter_append, getD_in _ _ _ h]
  by_cases hp : p l[k] = true <;> simp [hp]
theorem Qsm     (id n b : Nat) (t tb : TypeId) (c : List Int) (but : Int) (H : Heap) (hid : H[id]? = some (.cells t 1 (Jbg   c))) (hb : H[b]? = some (.cells tb 1 [iD but])) (hne : b ≠ id) (hn : n ≤ c.length) (hn1 : n ≤ 1000) :
    ∃ c' : List Int, Jv9 Tryz.prog [.hs id n, Jmb b] H = some (.hs id ((c.take n).filter fun x => decide (x ≠ but)).length, H.set id (.cells t 1 (Jbg c'))) /\ c'.take ((c.take n).filter fun x => decide (x ≠ but)).length = (c.take n).filter fun x => decide (x ≠ but) := by
  rw [Ql8, Jgz]
  rcases Qkh id n b t tb c but H hid hb hn hn1 with ⟨q1, q2⟩ | ⟨i, q0, q1, q2, q3⟩
  · have hf : ((c.take n).filter fun x => decide (x ≠ but)) = c.take n := by
      rw [List.filter_eq_self]
      intro x hx
      obtain ⟨p, hp, e⟩ := (Jr1 _ _).1 hx
      have hp' : p < n := by simp at hp; omega
      have := q2 p hp'
      have e2 : (c.take n).getD p 0 = c.getD p 0 := by
        rw [List.getD_eq_getElem?_getD, List.getElem?_take_of_lt hp', <- List.getD_eq_getElem?_getD]
      rw [<- e, e2]; simpa using this
    refine ⟨c, ?_, ?_⟩
    · rw [hf, set_self hid, q1]
      have hl : (c.take n).length = n := by simp; omega
      simp only [Jan, Jbk, Jaj, beq_self_eq_true, Jai, if_true, hl]
    · rw [hf]
      have hl : (c.take n).length = n := by simp; omega
      rw [hl]
  · have hstart : ((c.take (i + 1)).filter fun x => decide (x ≠ but)) = c.take i := by
      rw [Jlm _ _ _ (by omega), q2]
      simp only [ne_eq, not_true_eq_false, decide_false, Bool.false_eq_true, if_false]
      rw [List.filter_eq_self]
      intro x hx
      obtain ⟨p, hp, e⟩ := (Jr1 _ _).1 hx
      have hp' : p < i := by simp at hp; omega
      have := q3 p hp'
      have e2 : (c.take i).getD p 0 = c.getD p 0 := by
        rw [List.getD_eq_getElem?_getD, List.getElem?_take_of_lt hp', <- List.getD_eq_getElem?_getD]
      rw [<- e, e2]; simpa using this
    have key : ∀ (m j k : Nat) (x : List Int) (f : Nat), j + m = n → i + 1 ≤ j → m < f → k < j → x.length = c.length → x.take k = ((c.take j).filter fun x => decide (x ≠ but)) → (∀ p, j ≤ p → x.getD p 0 = c.getD p 0) →
        ∃ (k' : Nat) (x' : List Int), Jez (Jdu Tryz.prog (T13b Tryz.prog) Jba 1001 Tryz.f118 0) f [.hs id n, Jmb b, iD k, iD j] (H.set id (.cells t 1 (Jbg x))) =
          some (.exit 0, [.hs id n, Jmb b, iD k', iD n], H.set id (.cells t 1 (Jbg x'))) /\ k' < n /\ x'.length = c.length /\ x'.take k' = ((c.take n).filter fun x => decide (x ≠ but)) := by
      intro m
      induction m with
      | zero =>
        intro j k x f hj hi hf hk hx ht hp
        obtain ⟨f, rfl⟩ : ∃ z, f = z + 1 := ⟨f - 1, by omega⟩
        obtain rfl : j = n := by omega
        refine ⟨k, x, Jdn ?_, hk, hx, ht⟩
        rw [Jcu]
        simp
      | succ m ih =>
        intro j k x f hj hi hf hk hx ht hp
        obtain ⟨f, rfl⟩ : ∃ z, f = z + 1 := ⟨f - 1, by omega⟩
        have hg : (H.set id (.cells t 1 (Jbg x)))[id]? = some (.cells t 1 (Jbg x)) := Jk5 ⟨_, hid⟩
        have hgb : (H.set id (.cells t 1 (Jbg x)))[b]? = some (.cells tb 1 [iD but]) := by rw [List.getElem?_set_ne (Ne.symm hne)]; exact hb
        have i1 := Jjy id n j (by omega)
        have i2 := Jjy id n k (by omega)
        have l1 := Jg9 hg j (by omega)
        rw [hp j (Nat.le_refl _)] at l1
        have o1 := Jw2 (c.getD j 0) but b tb _ hgb
        have e1 := Jb0 (j : Int) 1 (by omega) (by omega)
        have e2 := Jb0 (k : Int) 1 (by omega) (by omega)
        have c1 : ((j : Nat) : Int) + 1 = ((j + 1 : Nat) : Int) := by omega
        have c2 : ((k : Nat) : Int) + 1 = ((k + 1 : Nat) : Int) := by omega
        rw [c1] at e1
        rw [c2] at e2
        have hlt : (j : Int) < (n : Int) := by omega
        have hft := Jlm c j (fun x => decide (x ≠ but)) (by omega)
        by_cases hy : c.getD j 0 = but
        · have hd : decide (c.getD j 0 = but) = true := decide_eq_true hy
          have hd2 : ¬ (decide (c.getD j 0 ≠ but) = true) := fun h => (of_decide_eq_true h) hy
          rw [if_neg hd2] at hft
          obtain ⟨k', x', z1, z2⟩ := ih (j + 1) k x f (by omega) (by omega) (by omega) (by omega) hx (by rw [hft]; exact ht) (fun p h => hp p (by omega))
          refine ⟨k', x', ?_, z2⟩
          rw [Jei]
          · exact z1
          · rw [Jcu]
            simp only [Jjv, Jaj, Jbd, hlt, decide_true, Jai, if_true, i1, l1, Qjj, o1, Jan, Jca, hd, Bool.not_true, Bool.false_eq_true, if_false, Jcs, e1]
        · have hd : decide (c.getD j 0 = but) = false := decide_eq_false hy
          have hd2 : decide (c.getD j 0 ≠ but) = true := decide_eq_true hy
          rw [if_pos hd2] at hft
          have st := Jwt hg k (by omega) (c.getD j 0)
          rw [List.set_set] at st
          obtain ⟨k', x', z1, z2⟩ := ih (j + 1) (k + 1) (x.set k (c.getD j 0)) f (by omega) (by omega) (by omega) (by omega) (by simpa using hx) (by rw [hft, Jot _ _ _ (by omega), ht]) (fun p h => by rw [Jhb _ _ _ _ (by omega)]; exact hp p (by omega))
          refine ⟨k', x', ?_, z2⟩
          rw [Jei]
          · exact z1
          · rw [Jcu]
            simp only [Jjv, Jaj, Jbd, hlt, decide_true, Jai, if_true, i1, l1, Qjj, o1, Jan, Jca, hd, Bool.not_false, i2, st, Jcs, e1, e2]
    obtain ⟨k', x', z1, z2, z3, z4⟩ := key (n - (i + 1)) (i + 1) i c 1001 (by omega) (Nat.le_refl _) (by omega) (by omega) rfl hstart.symm (fun p _ => rfl)
    rw [set_self hid] at z1
    have z1' : Jds Tryz.prog (T13b Tryz.prog) Jba 1001 Tryz.f118 0 [.hs id n, Jmb b, iD i, iD ((i + 1 : Nat) : Int)] H = _ := z1
    have e1 := Jb0 (i : Int) 1 (by omega) (by omega)
    have c1 : ((i : Nat) : Int) + 1 = ((i + 1 : Nat) : Int) := by omega
    rw [c1] at e1
    have hkl : ((c.take n).filter fun x => decide (x ≠ but)).length = k' := by rw [<- z4, List.length_take]; omega
    have hne1 : ((i : Int) == -1) = false := by rw [beq_eq_false_iff_ne]; omega
    have hg : (H.set id (.cells t 1 (Jbg x')))[id]? = some (.cells t 1 (Jbg x')) := Jk5 ⟨_, hid⟩
    have f3 := Qqi id n k' (by omega)
    rw [hkl]
    by_cases h0 : k' = 0
    · subst h0
      obtain ⟨z, hz⟩ := Qhw hg n (by omega)
      rw [List.set_set] at hz
      have f2 := Qk3 id n
      refine ⟨z, ?_, by rw [<- z4]; simp⟩
      simp only [q1, Jan, Jbk, Jaj, hne1, Jai, Bool.false_eq_true, if_false, Jcs, e1, z1', Jcd, Jcz, List.getD_cons_zero, List.getD_cons_succ, Jld, f2, hz]
      simp only [Jld] at f3
      simp only [f3, Jaj]
    · obtain ⟨z, hz⟩ := Qao hg k' (n - k') (by omega)
      rw [List.set_set] at hz
      have f2 := Jx0 id n k' (by omega) (by omega)
      refine ⟨x'.take k' ++ z, ?_, by rw [List.take_append_of_le_length (by simp; omega), List.take_take, Nat.min_self, z4]⟩
      simp only [q1, Jan, Jbk, Jaj, hne1, Jai, Bool.false_eq_true, if_false, Jcs, e1, z1', Jcd, Jcz, List.getD_cons_zero, List.getD_cons_succ, f2, hz, f3]
def Qr4 (P : Program) : List Entry := (140, false, Jmv P) :: (118, false, Jv9 P) :: Qr5 P
theorem Qe9 : ∀ p ∈ Qr4 Tryz.prog, Jbu Tryz.prog p := Jac (Jcg Qtw) <| Jac (Jcg C_DelF) <| Qfa
def T13c (P : Program) : Tab := ⟨Qr4 P, noYl⟩
theorem Qtg : TabOk Tryz.prog (T13c Tryz.prog) := Jb4 Qe9
end Go.Proofs.YtinnbafplhcnpaaGreat
end
section
namespace Go.Proofs.YtinnbafplhcnpaaGreat
open Go.RowKit
set_option linter.unusedVariables false
set_option linter.unusedSimpArgs false
set_option maxRecDepth 100000
def Jre : List Nat := [0, 1, 2, 3, 8, 9]
def Qh7 (P : Program) : List D -> Heap -> Option (D × Heap) := Jgr P (T13c P) Jre 2 131
theorem C_pdq : HCallOk Tryz.prog 131 (Qh7 Tryz.prog) := Jdf Qtg mixed Tryz.func131 (by kernel_rfl) (by decide)
theorem Qpp (ds : List D) (H : Heap) : Qh7 Tryz.prog ds H = Jap Tryz.prog (T13c Tryz.prog) Jre 2 Tryz.f131 ds H := Jct Tryz.func131 ds H
theorem sh_pdq (n : Nat) (x0 x1 x2 x3 : D) (h : Heap) : Jap Tryz.prog (T13c Tryz.prog) Jre n Tryz.f131 [x0, x1, x2, x3] h =
(Jdl (Jds Tryz.prog (T13c Tryz.prog) Jre n Tryz.f131 0 [x0, x1, x2, x3, (bD true), (bD true)] h) (fun j0 s1 h2 =>
Jew j0 0
(some (.tup [], h2))
(none)) (fun s1 h2 =>
some (.tup [], h2))) := by kernel_rfl
theorem st_two (n id : Nat) (h : Heap) : Jdu Tryz.prog (T13c Tryz.prog) Jre n Tryz.f131 0 [.hs id 2, iD 0, iD 2, iD 2, bD true, bD true] h =
  thnH (Jmv Tryz.prog [.hs id 2, iD 0, iD 2] h) fun _ h3 => some (.ret, [.hs id 2, iD 0, iD 2, iD 2, bD true, bD true], h3) := by kernel_rfl
theorem Qqv (n id : Nat) (h : Heap) : Jdu Tryz.prog (T13c Tryz.prog) Jre n Tryz.f131 0 [.hs id 5, iD 0, iD 5, iD 3, bD true, bD true] h =
  thnH (Jmv Tryz.prog [.hs id 5, iD 0, iD 5] h) fun _ h3 => some (.ret, [.hs id 5, iD 0, iD 5, iD 3, bD true, bD true], h3) := by kernel_rfl
theorem Qp7 {d0 d1 d2 d3 : D} {H H' : Heap} {s : List D} (h : Jdu Tryz.prog (T13c Tryz.prog) Jre 2 Tryz.f131 0 [d0, d1, d2, d3, bD true, bD true] H = some (.ret, s, H')) : Qh7 Tryz.prog [d0, d1, d2, d3] H = some (.tup [], H') := by
  rw [Qpp, sh_pdq]
  have q : Jds Tryz.prog (T13c Tryz.prog) Jre 2 Tryz.f131 0 [d0, d1, d2, d3, bD true, bD true] H = some (.ret, s, H') := Jpf h
  rw [q, Jig]
def Qko (P : Program) : List Entry := (131, false, Qh7 P) :: Qr4 P
theorem Qaa : ∀ p ∈ Qko Tryz.prog, Jbu Tryz.prog p := Jac (Jcg C_pdq) <| Qe9
def T13d0 (P : Program) : Tab := ⟨Qko P, noYl⟩
theorem Qph : TabOk Tryz.prog (T13d0 Tryz.prog) := Jb4 Qaa
def Jv8 (P : Program) : List D -> Heap -> Option (D × Heap) := Jgr P (T13d0 P) [] 0 116
theorem C_Sort : HCallOk Tryz.prog 116 (Jv8 Tryz.prog) := Jdf Qph mixed Tryz.func116 (by kernel_rfl) (by decide)
theorem Qm7 (id : Nat) (H : Heap) : Jv8 Tryz.prog [.hs id 2] H = thnH (Qh7 Tryz.prog [.hs id 2, iD 0, iD 2, iD 2] H) fun _ h => some (.tup [], h) := by kernel_rfl
theorem Qiu (id : Nat) (H : Heap) : Jv8 Tryz.prog [.hs id 5] H = thnH (Qh7 Tryz.prog [.hs id 5, iD 0, iD 5, iD 3] H) fun _ h => some (.tup [], h) := by kernel_rfl
theorem Qqw     (id n : Nat) (hn : n = 2 ∨ n = 5) (t : TypeId) (l : List Int) (H : Heap) (hid : H[id]? = some (.cells t 1 (Jbg   l))) (hl : l.length = n) :
    ∃ s : List Int, Jv8 Tryz.prog [.hs id n] H = some (.tup [], H.set id (.cells t 1 (Jbg s))) /\ s.length = n /\ Rise s n /\ ∀ x, x ∈ s ↔ x ∈ l := by
  obtain ⟨s, q1, q2, q3, q4⟩ := Qn9 id n t l H hid hl (by omega) (by omega)
  refine ⟨s, ?_, q2, q3, q4⟩
  rcases hn with rfl | rfl
  · have q1' : Jmv Tryz.prog [.hs id 2, iD 0, iD 2] H = _ := q1
    have q2' := st_two 2 id H
    rw [q1', Jan] at q2'
    have := Qm7 id H
    rw [this, Qp7 q2']; rfl
  · have q1' : Jmv Tryz.prog [.hs id 5, iD 0, iD 5] H = _ := q1
    have q2' := Qqv 2 id H
    rw [q1', Jan] at q2'
    have := Qiu id H
    rw [this, Qp7 q2']; rfl
def Qr3 (P : Program) : List Entry := (116, false, Jv8 P) :: Qko P
theorem Qe8 : ∀ p ∈ Qr3 Tryz.prog, Jbu Tryz.prog p := Jac (Jcg C_Sort) <| Qaa
def T13d (P : Program) : Tab := ⟨Qr3 P, noYl⟩
theorem Qls : TabOk Tryz.prog (T13d Tryz.prog) := Jb4 Qe8
end Go.Proofs.YtinnbafplhcnpaaGreat
end
section
namespace Go.Proofs.YtinnbafplhcnpaaGreat
open Go.RowKit
set_option linter.unusedVariables false
set_option maxRecDepth 100000
def Jfg : List Nat := []
theorem Jns (n : Nat) (x0 x1 : D) (h : Heap) : Jap Tryz.prog (T13d Tryz.prog) Jfg n Tryz.f86 [x0, x1] h =
(thnH (boxH 3 x0 h) fun y0 h1 =>
thnH ((Jv8 Tryz.prog) [x1] h1) fun y2 h3 =>
thnH ((Jmx Tryz.prog) [x1] h3) fun y4 h5 =>
thnH ((Jv9 Tryz.prog) [y4, (.clo (.func 119) [] [y0])] h5) fun y6 h7 =>
some (y6, h7)) := by kernel_rfl
def Jhx : List Nat := []
theorem Jru (n : Nat) (x0 : D) (h : Heap) : Jap Tryz.prog (T13d Tryz.prog) Jhx n Tryz.f43 [x0] h =
(thnH (boxH 23 x0 h) fun y0 h1 =>
some ((.clo (.func 83) [] [y0]), h1)) := by kernel_rfl
end Go.Proofs.YtinnbafplhcnpaaGreat
end
section
namespace Go.Proofs.YtinnbafplhcnpaaGreat
open Go.RowKit
set_option linter.unusedVariables false
set_option linter.unusedSimpArgs false
theorem Qdk     {t : TypeId} {sz : Nat} {H : Heap} {B : Nat} {d : D} {n : Nat} {cs new : List D} (h : Buf t sz H B d n cs) (hsz : 0 < sz) (hn : new.length = sz) (hok : new.all Jcc    = true) (hb : cs.length + new.length ≤ 4000000) (hB : B ≤ H.length) :
    ∃ d' H', Jd3 t sz d (.hs H.length 1) (H ++ [.cells t sz new]) = some (d', H') /\ Buf t sz H' B d' (n + 1) (cs ++ new) /\ Kp B H H' /\ H.length <= H'.length /\ (∀ k, k < H.length -> (∀ q, d ≠ .hs k q) -> H'[k]? = H[k]?) /\ (∀ k q, k < H.length -> d ≠ .hs k q -> (∀ q, d ≠ .hs k q) -> d' ≠ .hs k q) := by
  obtain ⟨d', H', h1, h2, h3, h4, h5⟩ := Qdl (m := 1) (h.app [.cells t sz new]) hsz (by rw [hn]; omega) hok hb (by simp; omega)
  refine ⟨d', H', ?_, h2, (Kp.app B H _ hB).trans h3, ?_, fun k hk hd => ?_, fun k q hk _ hd => ?_⟩
  · unfold Jd3
    have : srcH sz (H ++ [.cells t sz new]) (.hs H.length 1) = some new := by
      simp only [srcH, List.getElem?_concat_length]
      rw [if_pos ⟨trivial, by omega⟩, List.take_of_length_le (by omega)]
    rw [this]
    exact h1
  · have := h3.1; simp at this; omega
  · rw [h4 k (by simp; omega) hd, List.getElem?_append_left hk]
  · rcases h5 with rfl | ⟨q', rfl⟩
    · exact hd q
    · intro e
      cases e
      simp at hk
      omega
theorem Qqz (t : TypeId) (x : Int) (H : Heap) : rowH t 1 1 [iD 0] [(0, iD x)] H = some (.hs H.length 1, H ++ [.cells t 1 [iD x]]) := rfl
def Numb (B : Nat) (H : Heap) (d : D) (ns : List Int) : Prop :=
  d = Jag ns \/ ∃ (id : Nat) (t : TypeId) (c : List Int), B <= id /\ d = .hs id ns.length /\ H[id]? = some (.cells t 1 (Jbg c)) /\ c.take ns.length = ns
theorem Numb.len {B : Nat} {H : Heap} {d : D} {ns : List Int} (h : Numb B H d ns) : lenH .sl d = some (iD ns.length) := by
  rcases h with rfl | ⟨id, t, c, h1, rfl, h2, h3⟩
  · exact Jmf ns
  · rfl
theorem Numb.get {B : Nat} {H : Heap} {d : D} {ns : List Int} (h : Numb B H d ns) (i : Nat) (hi : i < ns.length) : ∃ p, idxH 1 d (iD i) = some p /\ Jad none H p = some (iD (ns.getD i 0)) := by
  rcases h with rfl | ⟨id, t, c, h1, rfl, h2, h3⟩
  · refine ⟨_, Jay ns i hi, ?_⟩
    rw [getD_in _ _ _ hi]; rfl
  · have hc : ns.length ≤ c.length := by
      have := congrArg List.length h3
      simp at this; omega
    refine ⟨_, Jjy id _ i hi, ?_⟩
    rw [Jg9 h2 i (by omega)]
    have : ns.getD i 0 = (c.take ns.length).getD i 0 := by rw [h3]
    rw [this, List.getD_eq_getElem?_getD, List.getD_eq_getElem?_getD, List.getElem?_take_of_lt hi]
theorem Numb.keep {B : Nat} {H H' : Heap} {d : D} {ns : List Int} (h : Numb B H d ns) (k : ∀ r, B <= r -> r < H.length -> H'[r]? = H[r]?) : Numb B H' d ns := by
  rcases h with h | ⟨id, t, c, h1, h2, h3, h4⟩
  · exact .inl h
  · exact .inr ⟨id, t, c, h1, h2, (k id h1 (List.getElem?_eq_some_iff.1 h3).1).trans h3, h4⟩
theorem Numb.mono {B C : Nat} {H : Heap} {d : D} {ns : List Int} (h : Numb B H d ns) (hc : C <= B) : Numb C H d ns := by
  rcases h with h | ⟨id, t, c, h1, h2⟩
  · exact .inl h
  · exact .inr ⟨id, t, c, by omega, h2⟩
theorem Numb.keep2 {B : Nat} {H H' : Heap} {d : D} {ns : List Int} (h : Numb B H d ns) (k : ∀ r m, d = .hs r m -> B <= r -> r < H.length -> H'[r]? = H[r]?) : Numb B H' d ns := by
  rcases h with h | ⟨id, t, c, h1, h2, h3, h4⟩
  · exact .inl h
  · exact .inr ⟨id, t, c, h1, h2, (k id _ h2 h1 (List.getElem?_eq_some_iff.1 h3).1).trans h3, h4⟩
theorem Numb.lt {B : Nat} {H : Heap} {k m : Nat} {ns : List Int} (h : Numb B H (.hs k m) ns) : B <= k /\ k < H.length := by
  rcases h with h | ⟨id, t, c, h1, h2, h3, h4⟩
  · cases h
  · cases h2
    exact ⟨h1, (List.getElem?_eq_some_iff.1 h3).1⟩
theorem Jxc (ns : List Int) (i : Nat) (hi : i < ns.length) (op : Int) : (ns.take (i + 1)).map (fun n => (op, n)) = (ns.take i).map (fun n => (op, n)) ++ [(op, ns.getD i 0)] := by
  rw [List.take_succ_eq_append_getElem hi, List.map_append, getD_in _ _ _ hi]; rfl
end Go.Proofs.YtinnbafplhcnpaaGreat
end
section
namespace Go.Proofs.YtinnbafplhcnpaaGreat
open Go.RowKit
set_option linter.unusedVariables false
set_option linter.unusedSimpArgs false
set_option maxRecDepth 100000
def rowP (lo : Int) (j : Nat) (but : Int) : List Int := ((List.range j).map fun i : Nat => lo + (i : Int)).filter fun n => decide (n ≠ but)
theorem Jy2 (lo : Int) (j : Nat) (but : Int) : rowP lo (j + 1) but = if lo + (j : Int) = but then rowP lo j but else rowP lo j but ++ [lo + (j : Int)] := by
  unfold rowP
  rw [List.range_succ, List.map_append, List.filter_append]
  by_cases h : lo + (j : Int) = but <;> simp [h]
theorem Qee (lo : Int) (j : Nat) (but : Int) : (rowP lo j but).length <= j := by
  unfold rowP
  refine Nat.le_trans (List.length_filter_le _ _) ?_
  simp
def Ql9 : List D -> Option D := F3 intT intT intT fun lo hi but => if 0 <= lo /\ hi <= 100 then some (Jag (rowV lo hi but)) else none
theorem C_row : CallOk Tryz.prog 85 Ql9 := Qax (kp := Jfm) Jt9 mixed Tryz.func85 (by kernel_rfl) (by decide) fun lo hi but d h => by
  split at h
  case isFalse => cases h
  rename_i hb
  cases h
  have key := Jif (P := Tryz.prog) (T := T12f Tryz.prog) (kp := Jfm) (fn := Tryz.f85) (li := 0)
    (fun j s H => ∃ d, s = [iD hi, iD but, d, iD (lo + (j : Int))] /\ Buf 3 1 H 0 d (rowP lo j but).length (Jbg (rowP lo j but)))
    (fun r => ∃ s H d, r = (.exit 0, s, H) /\ s.getD 2 .undef = d /\ Buf 3 1 H 0 d (rowV lo hi but).length (Jbg (rowV lo hi but))) (hi - lo + 1).toNat 102
    (fun j s H hj hI => by
      obtain ⟨d, rfl, hd⟩ := hI
      have hle : lo + (j : Int) <= hi := by omega
      have e1 := Jb0 (lo + (j : Int)) 1 (by omega) (by omega)
      have c1 : lo + (j : Int) + 1 = lo + ((j + 1 : Nat) : Int) := by omega
      rw [c1] at e1
      have hl := Qee lo j but
      rw [Jlg]
      by_cases hx : lo + (j : Int) = but
      · refine ⟨[iD hi, iD but, d, iD (lo + ((j + 1 : Nat) : Int))], H, ?_, d, rfl, ?_⟩
        · have hb2 : (lo + (j : Int) != but) = false := by rw [hx]; exact bne_self_eq_false _
          simp only [Jhd, hle, decide_true, Jaj, Jai, if_true, Jb8, hb2, Bool.false_eq_true, if_false, Jcs, e1]
        · rw [Jy2, if_pos hx]; exact hd
      · obtain ⟨d', H', a1, a2, a3⟩ := Qdk (new := [iD (lo + (j : Int))]) hd (by omega) rfl rfl (by rw [Jgj]; simp; omega) (Nat.zero_le _)
        refine ⟨[iD hi, iD but, d', iD (lo + ((j + 1 : Nat) : Int))], H', ?_, d', rfl, ?_⟩
        · have hb2 : (lo + (j : Int) != but) = true := bne_iff_ne.2 hx
          simp only [Jhd, hle, decide_true, Jaj, Jai, if_true, Jb8, hb2, Qqz, Jan, a1, Jcs, e1]
        · rw [Jy2      , if_neg hx, Jz0      , List.length_append]; exact a2)
    (fun s H hI => by
      obtain ⟨d, rfl, hd⟩ := hI
      rw [Jlg]
      have hle : ¬ (lo + (((hi - lo + 1).toNat : Nat) : Int) <= hi) := by omega
      refine ⟨(.exit 0, [iD hi, iD but, d, iD (lo + (((hi - lo + 1).toNat : Nat) : Int))], H), ?_, (by intro e; cases e), _, _, d, rfl, rfl, hd⟩
      simp only [Jhd     , hle, decide_false, Jaj     , Jai       , Bool.false_eq_true, if_false])
    (by omega) (s := [iD hi, iD but, .v (.slice none 0 0), iD lo]) (H := []) ⟨_, by simp, Buf.nil _ _ _ _⟩
  obtain ⟨r, k1, s, H, d, rfl, k2, k3⟩ := key
  obtain ⟨d', q1, q2⟩ := k3.ints 8
  refine ⟨102, d', ?_, Jid q2⟩
  show outD (Jap _ _ _ _ _ [iD lo, iD hi, iD but] []) = _
  rw [Jut, k1]
  simp only [Jcd, Jcz, k2]
  exact q1
theorem Qnd (lo hi but : Int) (h : 0 <= lo /\ hi <= 100) (H : Heap) : Jae Ql9 [iD lo, iD hi, iD but] H = some (Jag (rowV lo hi but), H) := by
  rw [Jar _ _ _ rfl]
  have : Ql9 [iD lo, iD hi, iD but] = _ := Jrf (A := intT) (B := intT) (C := intT) _ lo hi but
  rw [this, if_pos h]; rfl
def Jue (P : Program) : List D -> Heap -> Option (D × Heap) := Jgr P (T13d P) Jfg 0 86
theorem Ql1 (ds : List D) (H : Heap) : Jue Tryz.prog ds H = Jap Tryz.prog (T13d Tryz.prog) Jfg 0 Tryz.f86 ds H := Jct Tryz.func86 ds H
theorem C_once : HCallOk Tryz.prog 86 (Jue Tryz.prog) := Jdf Qls mixed Tryz.func86 (by kernel_rfl) (by decide)
theorem Qrf     (id n : Nat) (hn : n = 2 ∨ n = 5) (but : Int) (t : TypeId) (l : List Int) (H : Heap) (hid : H[id]? = some (.cells t 1 (Jbg   l))) (hl : l.length = n) :
    ∃ H', Jue Tryz.prog [iD but, .hs id n] H = some (.hs id (Jma but l).length, H') /\ H'.length = H.length + 1 /\ (∃ c : List Int, H'[id]? = some (.cells t 1 (Jbg c)) /\ c.take (Jma but l).length = Jma but l) /\ ∀ k, k < H.length -> k ≠ id -> H'[k]? = H[k]? := by
  have hlt : id < H.length := (List.getElem?_eq_some_iff.1 hid).1
  have hid1 : (H ++ [HO.cells 3 1 [iD but]])[id]? = some (.cells t 1 (Jbg l)) := by rw [List.getElem?_append_left hlt]; exact hid
  have hb1 : (H ++ [HO.cells 3 1 [iD but]])[H.length]? = some (.cells 3 1 [iD but]) := by simp
  have hlen1 : (H ++ [HO.cells 3 1 [iD but]]).length = H.length + 1 := by simp
  have hk1 : ∀ k, k < H.length -> (H ++ [HO.cells 3 1 [iD but]])[k]? = H[k]? := fun k hk => List.getElem?_append_left hk
  have hbox : boxH 3 (iD but) H = some (.hp H.length 0, H ++ [HO.cells 3 1 [iD but]]) := rfl
  generalize H ++ [HO.cells 3 1 [iD but]] = H1 at *
  obtain ⟨s, p1, p2, p3, p4⟩ := Qqw id n hn t l H1 hid1 hl
  have hid2 : (H1.set id (.cells t 1 (Jbg s)))[id]? = some (.cells t 1 (Jbg s)) := Jk5 ⟨_, hid1⟩
  obtain ⟨c, q1, q2⟩ := Qhs id n t s _ hid2 p2 (by omega) (by omega)
  rw [List.set_set] at q1
  have hded : dedV s n = Jin l := by
    have := Qk1 l s (by rw [p2]; exact p3) p4
    rwa [p2] at this
  rw [hded] at q1 q2
  have hkc : (Jin l).length <= c.length := by
    have := congrArg List.length q2
    simp at this; omega
  have hkn : (Jin l).length <= n := by rw [<- hded]; exact Qfr s n (by omega)
  have hid3 : (H1.set id (.cells t 1 (Jbg c)))[id]? = some (.cells t 1 (Jbg c)) := Jk5 ⟨_, hid1⟩
  have hb3 : (H1.set id (.cells t 1 (Jbg c)))[H.length]? = some (.cells 3 1 [iD but]) := by rw [List.getElem?_set_ne (by omega)]; exact hb1
  obtain ⟨c', r1, r2⟩ := Qsm id (Jin l).length H.length t 3 c but _ hid3 hb3 (by omega) hkc (by omega)
  rw [List.set_set, q2] at r1
  rw [q2] at r2
  refine ⟨H1.set id (.cells t 1 (Jbg c')), ?_, by simpa using hlen1, ⟨c', Jk5 ⟨_, hid1⟩, r2⟩, fun k hk hne => by rw [List.getElem?_set_ne (by omega)]; exact hk1 k hk⟩
  rw [Ql1, Jns]
  have r1' : Jv9 Tryz.prog [.hs id (Jin l).length, .clo (.func 119) [] [.hp H.length 0]] (H1.set id (.cells t 1 (Jbg c))) = _ := r1
  simp only [hbox, Jan, p1, q1, r1']
  rfl
def Juf (P : Program) : List D -> Heap -> Option (D × Heap) := Jgr P (T13d P) Jhx 0 43
theorem Qh9 (ds : List D) (H : Heap) : Juf Tryz.prog ds H = Jap Tryz.prog (T13d Tryz.prog) Jhx 0 Tryz.f43 ds H := Jct Tryz.func43 ds H
theorem Qtu : HCallOk Tryz.prog 43 (Juf Tryz.prog) := Jdf Qls mixed Tryz.func43 (by kernel_rfl) (by decide)
def Qr2 (P : Program) : List Entry := (85, true, Jae Ql9) :: (86, false, Jue P) :: (43, false, Juf P) :: Qr3 P
theorem Qe7 : ∀ p ∈ Qr2 Tryz.prog, Jbu Tryz.prog p := Jac (Jal C_row) <| Jac (Jcg C_once) <| Jac (Jcg Qtu) <| Qe8
def T13e (P : Program) : Tab := ⟨Qr2 P, noYl⟩
theorem Qtf : TabOk Tryz.prog (T13e Tryz.prog) := Jb4 Qe7
end Go.Proofs.YtinnbafplhcnpaaGreat
end
section
namespace Go.Proofs.YtinnbafplhcnpaaGreat
open Go.RowKit
set_option linter.unusedVariables false
set_option maxRecDepth 100000
def Jgi : List Nat := []
theorem Jox (n : Nat) (x0 : D) (h : Heap) : Jap Tryz.prog (T13e Tryz.prog) Jgi n Tryz.f87 [x0] h =
(thnH (boxH 54 x0 h) fun y0 h1 =>
thn (Jaa 0 y0) fun y2 =>
thn (Jad none h1 y2) fun y3 =>
thn (binK .int .eql y3 (iD 1)) fun y4 =>
Jah y4
(thn (Jaa 1 y0) fun y5 =>
thn (Jad none h1 y5) fun y6 =>
thnH (rowH 3 1 2 [(iD 0)] [(0, (iD 0)), (1, (iD 1))] h1) fun y7 h8 =>
thnH ((Jue Tryz.prog) [y6, y7] h8) fun y9 h10 =>
some (y9, h10))
(thnH (rowH 3 1 2 [(iD 0)] [(0, (iD 0)), (1, (iD 1))] h1) fun y11 h12 =>
some (y11, h12))) := by kernel_rfl
end Go.Proofs.YtinnbafplhcnpaaGreat
end
section
namespace Go.Proofs.YtinnbafplhcnpaaGreat
open Go.RowKit
set_option linter.unusedVariables false
set_option linter.unusedSimpArgs false
set_option maxRecDepth 100000
def Jmw (P : Program) : List D -> Heap -> Option (D × Heap) := Jgr P (T13e P) Jgi 0 87
theorem Qbd (ds : List D) (H : Heap) : Jmw Tryz.prog ds H = Jap Tryz.prog (T13e Tryz.prog) Jgi 0 Tryz.f87 ds H := Jct Tryz.func87 ds H
theorem Qmi : HCallOk Tryz.prog 87 (Jmw Tryz.prog) := Jdf Qtf mixed Tryz.func87 (by kernel_rfl) (by decide)
theorem Qi4 (t : TypeId) (a b : Int) (H : Heap) : rowH t 1 2 [iD 0] [(0, iD a), (1, iD b)] H = some (.hs H.length 2, H ++ [.cells t 1 (Jbg [a, b])]) := rfl
theorem Qne (t : TypeId) (a b c d e : Int) (H : Heap) : rowH t 1 5 [iD 0] [(0, iD a), (1, iD b), (2, iD c), (3, iD d), (4, iD e)] H = some (.hs H.length 5, H ++ [.cells t 1 (Jbg [a, b, c, d, e])]) := rfl
theorem Qeo      (n : Nat) (hn : n = 2 ∨ n = 5) (but : Int) (t : TypeId) (l : List Int) (H : Heap) (hl : l.length = n) :
    ∃ H', Jue Tryz.prog [iD but, .hs H.length n] (H ++ [.cells t 1 (Jbg l)]) = some (.hs H.length (Jma but l).length, H') /\ Numb H.length H' (.hs H.length (Jma but l).length) (Jma but l) /\ Kp H.length H H' /\ H.length < H'.length := by
  obtain ⟨H', q1, q2, ⟨c, q3, q4⟩, q5⟩ := Qrf H.length n hn but t l (H ++ [.cells t 1 (Jbg l)]) (by simp) hl
  simp only [List.length_append, List.length_singleton] at q2
  refine ⟨H', q1, .inr ⟨H.length, t, c, Nat.le_refl _, rfl, q3, q4⟩, ⟨by omega, fun k hk => ?_⟩, by omega⟩
  rw [q5 k (by simp; omega) (by omega), List.getElem?_append_left hk]
theorem Qh6 (y : Nd) (H : Heap) : ∃ d H', Jmw Tryz.prog [.agg (Jax y)] H = some (d, H') /\ Numb H.length H' d (Jdy y) /\ Kp H.length H H' /\ H.length <= H'.length := by
  rw [Qbd, Jox]
  have hbox : boxH 54 (.agg (Jax y)) H = some (.hp H.length 0, H ++ [.cells 54 2 [iD y.1, iD y.2]]) := Qpa _ y H
  have hk1 : Kp H.length H (H ++ [.cells 54 2 [iD y.1, iD y.2]]) := Kp.app _ _ _ (Nat.le_refl _)
  have hg : (H ++ [HO.cells 54 2 [iD y.1, iD y.2]])[H.length]? = some (.cells 54 2 [iD y.1, iD y.2]) := by simp
  have hl1 : (H ++ [HO.cells 54 2 [iD y.1, iD y.2]]).length = H.length + 1 := by simp
  generalize H ++ [HO.cells 54 2 [iD y.1, iD y.2]] = H1 at *
  have l0 : Jad none H1 (.hp H.length 0) = some (iD y.1) := Jd7 _ _ _ _ _ _ hg
  have l1 : Jad none H1 (.hp H.length 1) = some (iD y.2) := Jcr _ _ _ _ _ _ _ hg rfl
  have f0 : Jaa 0 (.hp H.length 0) = some (.hp H.length 0) := rfl
  have f1 : Jaa 1 (.hp H.length 0) = some (.hp H.length 1) := rfl
  by_cases h : y.1 = 1
  · obtain ⟨H', q1, q2, q3, q4⟩ := Qeo 2 (.inl rfl) y.2 3 [0, 1] H1 rfl
    have hv : Jdy y = Jma y.2 [0, 1] := by unfold Jdy; rw [if_pos h]
    have hb : (y.1 == 1) = true := by rw [h]; rfl
    refine ⟨_, H', ?_, by rw [hv]; exact q2.mono (by omega), hk1.trans (q3.mono (by omega)), by omega⟩
    simp only [hbox, Jan, f0, f1, Jaj, l0, l1, Jbk, hb, Jai, if_true, Qi4, q1]
  · have hv : Jdy y = [0, 1] := by unfold Jdy; rw [if_neg h]
    have hb : (y.1 == 1) = false := by rw [beq_eq_false_iff_ne]; exact h
    refine ⟨.hs H1.length 2, H1 ++ [.cells 3 1 (Jbg [0, 1])], ?_, ?_, hk1.trans (Kp.app _ H1 [.cells 3 1 (Jbg [0, 1])] (by omega)), by simp; omega⟩
    · simp only [hbox, Jan, f0, Jaj, l0, Jbk, hb, Jai, Bool.false_eq_true, if_false, Qi4]
    · rw [hv]
      exact .inr ⟨H1.length, 3, [0, 1], by omega, rfl, by simp, rfl⟩
def Qon (P : Program) : List Entry := (87, false, Jmw P) :: Qr2 P
theorem Jxk : ∀ p ∈ Qon Tryz.prog, Jbu Tryz.prog p := Jac (Jcg Qmi) <| Qe7
def T13y (P : Program) (Y : Nat -> List D -> Heap -> Option (D × Heap)) : Tab := ⟨Qon P, Y⟩
theorem Qtd (Y : Nat -> List D -> Heap -> Option (D × Heap)) (hY : YOk Tryz.prog Y) : TabOk Tryz.prog (T13y Tryz.prog Y) := ⟨Jxk, hY⟩
end Go.Proofs.YtinnbafplhcnpaaGreat
end
section
namespace Go.Proofs.YtinnbafplhcnpaaGreat
open Go.RowKit
set_option linter.unusedVariables false
set_option maxRecDepth 100000
variable (Y : Nat -> List D -> Heap -> Option (D × Heap))
def Jfh : List Nat := []
theorem Jnt (n : Nat) (x0 x1 x2 x3 : D) (h : Heap) : Jap Tryz.prog (T13y Tryz.prog Y) Jfh n Tryz.f84 [x0, x1, x2, x3] h =
(thn (Jad none h x2) fun y0 =>
Jah y0
(thn (Jad none h x3) fun y1 =>
thnH (Jdq (T13y Tryz.prog Y) y1 [x0, x1] h) fun y2 h3 =>
thnH (setH 1 x2 y2 h3) fun y4 h5 =>
some (.tup [], h5))
(some (.tup [], h))) := by kernel_rfl
end Go.Proofs.YtinnbafplhcnpaaGreat
end
section
namespace Go.Proofs.YtinnbafplhcnpaaGreat
open Go.RowKit
set_option linter.unusedVariables false
set_option linter.unusedSimpArgs false
set_option maxRecDepth 100000
abbrev Yl13 := Nat -> List D -> Heap -> Option (D × Heap)
def Jpu (P : Program) (Y : Yl13) : List D -> Heap -> Option (D × Heap) := Jgr P (T13y P Y) Jfh 0 84
theorem Qbb (Y : Yl13) (ds : List D) (H : Heap) : Jpu Tryz.prog Y ds H = Jap Tryz.prog (T13y Tryz.prog Y) Jfh 0 Tryz.f84 ds H := Jct Tryz.func84 ds H
theorem Qme (Y : Yl13) (hY : YOk Tryz.prog Y) : HCallOk Tryz.prog 84 (Jpu Tryz.prog Y) := Jdf (Qtd Y hY) mixed Tryz.func84 (by kernel_rfl) (by decide)
def T13z (P : Program) (Y : Yl13) : Tab := ⟨(84, false, Jpu P Y) :: Qon P, Y⟩
theorem Qtc (Y : Yl13) (hY : YOk Tryz.prog Y) : TabOk Tryz.prog (T13z Tryz.prog Y) := ⟨Jac (Jcg (Qme Y hY)) Jxk, hY⟩
def Jwj (P : Program) (Y : Yl13) (y9 y0 op n : D) (h : Heap) : Option (D × Heap) := Jdq (T13z P Y) (.clo (.func 84) [] [y9, y0]) [op, n] h
def Qev (P : Program) (Y : Yl13) (x1 y0 y5 y9 : D) (h : Heap) : Option (D × Heap) :=
  thn (Jaa 0 y5) fun a =>
  thn (Jad none h a) fun t =>
  thn (binK .int .eql t (iD 23)) fun c =>
  Jah c
  (thnH (rowH 3 1 1 [(iD 0)] [(0, (iD 0))] h) fun r h1 =>
  thnH (Jwj P Y y9 y0 (iD 6) r h1) fun _ h2 =>
  some (.tup [], h2))
  (thn (binK .int .eql t (iD 24)) fun c2 =>
  Jah c2
  (thnH (rowH 3 1 1 [(iD 0)] [(0, (iD 0))] h) fun r h1 =>
  thnH (Jwj P Y y9 y0 (iD 6) r h1) fun _ h2 =>
  some (.tup [], h2))
  (thn (binK .int .eql t (iD 25)) fun c3 =>
  Jah c3
  (thn (Jad none h x1) fun y =>
  thn (idxH 2 y (iD 1)) fun e =>
  thn (Jad (some 2) h e) fun k =>
  thnH (Jmw P [k] h) fun n h1 =>
  thnH (Jwj P Y y9 y0 (iD 7) n h1) fun _ h2 =>
  some (.tup [], h2))
  (some (.tup [], h))))
def Qbr (P : Program) (Y : Yl13) (x1 y0 y5 y9 : D) (h : Heap) : Option (D × Heap) :=
  thnH (rowH 3 1 1 [(iD 0)] [(0, (iD 0))] h) fun r h1 =>
  thnH (Jwj P Y y9 y0 (iD 5) r h1) fun _ h2 =>
  Qev P Y x1 y0 y5 y9 h2
def Jvl (P : Program) (Y : Yl13) (x1 y0 y5 y9 : D) (h : Heap) : Option (D × Heap) :=
  thn (Jaa 0 y5) fun a =>
  thn (Jad none h a) fun t =>
  thn (binK .int .eql t (iD 21)) fun c =>
  Jah c
  (Qbr P Y x1 y0 y5 y9 h)
  (thn (binK .int .eql t (iD 22)) fun c =>
  Jah c
  (Qbr P Y x1 y0 y5 y9 h)
  (thn (binK .int .eql t (iD 23)) fun c =>
  Jah c
  (Qbr P Y x1 y0 y5 y9 h)
  (thn (binK .int .eql t (iD 24)) fun c =>
  Jah c
  (Qbr P Y x1 y0 y5 y9 h)
  (thn (binK .int .eql t (iD 25)) fun c =>
  Jah c
  (Qbr P Y x1 y0 y5 y9 h)
  (Qev    P Y x1 y0 y5 y9 h)))))
def Jp6 (P : Program) (Y : Yl13) (lo hi op : Int) (x1 y0 y5 y9 t : D) (h : Heap) : Option (D × Heap) :=
  thnH (Jae Ql9 [(iD lo), (iD hi), t] h) fun r h1 =>
  thnH (Jwj P Y y9 y0 (iD op) r h1) fun _ h2 =>
  Jvl P Y x1 y0 y5 y9 h2
def Qj0 (P : Program) (Y : Yl13) (x1 y0 y5 y9 t : D) (h : Heap) : Option (D × Heap) :=
  thn (binK .int .eql t (iD 2)) fun c =>
  Jah c
  (thn (Jaa 1 y5) fun a =>
  thn (Jad none h a) fun n =>
  thn (binK .int .sub (iD 1) n) fun m =>
  thnH (rowH 3 1 1 [(iD 0)] [(0, m)] h) fun r h1 =>
  thnH (Jwj P Y y9 y0 (iD 4) r h1) fun _ h2 =>
  Jvl    P Y x1 y0 y5 y9 h2)
  (Jvl P Y x1 y0 y5 y9 h)
def Qj2 (P : Program) (Y : Yl13) (x1 y0 y5 y9 t : D) (h : Heap) : Option (D × Heap) :=
  thn (binK .int .eql t (iD 1)) fun c =>
  Jah c
  (thn (Jaa 1 y5) fun a =>
  thn (Jad none h a) fun n =>
  thn (Jaa 1 y5) fun a2 =>
  thn (Jad none h a2) fun n2 =>
  thn (binK .int .add n2 (iD 1)) fun u =>
  thn (Jaa 1 y5) fun a3 =>
  thn (Jad none h a3) fun n3 =>
  thn (binK .int .sub n3 (iD 1)) fun v =>
  thnH (rowH 3 1 5 [(iD 0)] [(0, (iD 0)), (1, (iD 1)), (2, (iD (-1))), (3, u), (4, v)] h) fun r h1 =>
  thnH ((Jue P) [n, r] h1) fun q h2 =>
  thnH (Jwj P Y y9 y0 (iD 4) q h2) fun _ h3 =>
  Jvl    P Y x1 y0 y5 y9 h3)
  (Qj0 P Y x1 y0 y5 y9 t h)
def Jzn (P : Program) (Y : Yl13) (x1 y0 y5 y9 t : D) (h : Heap) : Option (D × Heap) :=
  thn (binK .int .eql t (iD 18)) fun c =>
  Jah c
  (Jp6 P Y 18 19 3 x1 y0 y5 y9 t h)
  (thn (binK .int .eql t (iD 19)) fun c =>
  Jah c
  (Jp6 P Y 18 19 3 x1 y0 y5 y9 t h)
  (Qj2    P Y x1 y0 y5 y9 t h))
def Jvk (P : Program) (Y : Yl13) (x1 y0 y5 y9 t : D) (h : Heap) : Option (D × Heap) :=
  thn (binK .int .geq t (iD 12)) fun c =>
  Jah c
  (thn (binK .int .leq t (iD 17)) fun c =>
  Jah c
  (Jp6 P Y 12 17 2 x1 y0 y5 y9 t h)
  (Jzn    P Y x1 y0 y5 y9 t h))
  (Jzn P Y x1 y0 y5 y9 t h)
def Jzo (P : Program) (Y : Yl13) (x1 y0 y5 y9 t : D) (h : Heap) : Option (D × Heap) :=
  thn (binK .int .geq t (iD 7)) fun c =>
  Jah c
  (thn (binK .int .leq t (iD 11)) fun c =>
  Jah c
  (Jp6 P Y 7 11 1 x1 y0 y5 y9 t h)
  (Jvk    P Y x1 y0 y5 y9 t h))
  (Jvk P Y x1 y0 y5 y9 t h)
variable (Y : Yl13)
theorem Jow (n : Nat) (x0 x1 : D) (h : Heap) : Jap Tryz.prog (T13z Tryz.prog Y) [] n Tryz.f83 [x0, x1] h =
(thnH (boxH 106 x0 h) fun y0 h1 =>
thn (Jad none h1 x1) fun y2 =>
thn (idxH 2 y2 (iD 0)) fun y3 =>
thn (Jad (some 2) h1 y3) fun y4 =>
thnH (Jaz 54 [(iD 0), (iD 0)] h1) fun y5 h6 =>
thnH (setH 2 y5 y4 h6) fun y7 h8 =>
thnH (Jaz 4 [(bD false)] h8) fun y9 h10 =>
thnH (setH 1 y9 (bD true) h10) fun y11 h12 =>
thn (Jaa 0 y5) fun y13 =>
thn (Jad none h12 y13) fun y14 =>
Jzo    Tryz.prog Y x1 y0 y5 y9 y14 h12) := by kernel_rfl
def Jpv (P : Program) (Y : Yl13) : List D -> Heap -> Option (D × Heap) := Jgr P (T13z P Y) [] 0 83
theorem Qdr (ds : List D) (H : Heap) : Jpv Tryz.prog Y ds H = Jap Tryz.prog (T13z Tryz.prog Y) [] 0 Tryz.f83 ds H := Jct Tryz.func83 ds H
theorem Qpv (hY : YOk Tryz.prog Y) : HCallOk Tryz.prog 83 (Jpv Tryz.prog Y) := Jdf (Qtc Y hY) mixed Tryz.func83 (by kernel_rfl) (by decide)
def T13h (P : Program) (Y : Yl13) : Tab := ⟨(83, false, Jpv P Y) :: Qon P, Y⟩
theorem Qlr (Y : Yl13) (hY : YOk Tryz.prog Y) : TabOk Tryz.prog (T13h Tryz.prog Y) := ⟨Jac (Jcg (Qpv Y hY)) Jxk, hY⟩
end Go.Proofs.YtinnbafplhcnpaaGreat
end
section
namespace Go.Proofs.YtinnbafplhcnpaaGreat
open Go.RowKit
set_option linter.unusedVariables false
def loopR (P : Program) (T : Tab) (kp : List Nat) (n : Nat) (fn : Func) (r i : Nat) (s : List D) (H : Heap) : Option (Lv × List D × Heap) :=
  Jez (stepS P T kp n fn.ntmps ((Jju (Jje fn r)).getD i .skip)) n s H
def stepR (P : Program) (T : Tab) (kp : List Nat) (n : Nat) (fn : Func) (r i : Nat) (s : List D) (H : Heap) : Option (Lv × List D × Heap) :=
  stepS P T kp n fn.ntmps ((Jju (Jje fn r)).getD i .skip) s H
theorem Qkc       {step : List D → Heap → Option (Lv × List D × Heap)} (Inv : Nat → List D → Heap → Prop) (Q : Lv × List D × Heap → Prop) (k n : Nat)
    (hstep : ∀ j s H, j < k -> Inv j s H -> ∃ s' H', step s H = some (.normal, s', H') /\ Inv (j + 1) s' H') (hend : ∀ s H, Inv k s H -> ∃ r, step s H = some r /\ r.1 ≠ .normal /\ Q r) (hn : k < n) {s : List D} {H : Heap} (h : Inv 0 s H) :
    ∃ r, Jez step n s H = some r /\ Q r := by
  have key : ∀ (m i : Nat) (s : List D) (H : Heap), i + m = k -> Inv i s H -> ∀ q, m < q -> ∃ r, Jez step q s H = some r /\ Q r := by
    intro m
    induction m with
    | zero =>
      intro i s H hi hI q hq
      obtain ⟨q, rfl⟩ : ∃ x, q = x + 1 := ⟨q - 1, by omega⟩
      obtain rfl : i = k := by omega
      obtain ⟨⟨lv, s', H'⟩, h1, h2, h3⟩ := hend s H hI
      refine ⟨_, ?_, h3⟩
      simp only [Jez, h1]
      cases lv with
      | normal => exact absurd rfl h2
      | _ => rfl
    | succ m ih =>
      intro i s H hi hI q hq
      obtain ⟨q, rfl⟩ : ∃ x, q = x + 1 := ⟨q - 1, by omega⟩
      obtain ⟨s', H', h1, h2⟩ := hstep i s H (by omega) hI
      rw [Jei h1]
      exact ih (i + 1) s' H' (by omega) h2 q (by omega)
  exact key k 0 s H (by omega) h n hn
end Go.Proofs.YtinnbafplhcnpaaGreat
end
section
namespace Go.Proofs.YtinnbafplhcnpaaGreat
open Go.RowKit
set_option linter.unusedVariables false
set_option maxRecDepth 100000
variable (Y : Nat -> List D -> Heap -> Option (D × Heap))
def Jbh : List Nat := [5, 7, 21, 22, 23]
theorem Joy (n : Nat) (x0 x1 : D) (h : Heap) : Jap Tryz.prog (T13h Tryz.prog Y) Jbh n Tryz.f20 [x0, x1] h =
(thnH (Jaz 28 [(.v (.slice none 0 0))] h) fun y0 h1 =>
thnH (Jc8 Jn9 [x0, x1] h1) fun y2 h3 =>
thn (lenH .sl y2) fun y4 =>
thn (binK .int .gtr y4 (iD 0)) fun y5 =>
Jah y5
(thnH ((Juf Tryz.prog) [y2] h3) fun y6 h7 =>
Jmh (rangeS (T13h Tryz.prog Y) y6 [19, 20] (Jli Tryz.f20 0) (Jje Tryz.f20 0) 35 Jbh [y0, .undef, .undef, .undef, .undef] h7) (fun h9 =>
thn (Jad none h9 y0) fun y10 =>
some (y10, h9)) (fun l8 h9 =>
Jew l8 0
(thn (Jad none h9 y0) fun y11 =>
some (y11, h9))
(none)) (fun h9 =>
some ((.v (.slice none 0 0)), h9)))
(thn (Jad none h3 y0) fun y12 =>
some (y12, h3))) := by kernel_rfl
theorem Jnu (n id : Nat) (s0 s1 s2 s3 s4 : D) (a0 a1 : D) (h : Heap) : Jvd Tryz.prog (T13h Tryz.prog Y) n id [19, 20] (Jli Tryz.f20 0) (Jje Tryz.f20 0) 35 Jbh [s0, s1, s2, s3, s4] [a0, a1] h =
(Jx7 id h fun h0 =>
thn (lenH .sl a1) fun y1 =>
Jdl (loopR Tryz.prog (T13h Tryz.prog Y) Jbh n Tryz.f20 0 0 [s0, a0, a1, y1, (iD 0)] h0) (fun j2 s3 h4 =>
Jew j2 2
(endR id .normal h4)
(Jew j2 1
(endR id .normal h4)
(endR id (.exit j2) h4))) (fun s3 h4 =>
endR id .ret h4)) := by kernel_rfl
theorem Jgt (n : Nat) (s0 s1 s2 s3 s4 : D) (h : Heap) : stepR Tryz.prog (T13h Tryz.prog Y) Jbh n Tryz.f20 0 0 [s0, s1, s2, s3, s4] h =
(thn (binK .int .lss s4 s3) fun y0 =>
Jah y0
(thn (idxH 1 s2 s4) fun y1 =>
thn (Jad none h y1) fun y2 =>
thn (Jad none h s0) fun y3 =>
thn (Jbv [(0, 1), (1, 1), (2, 1)] [(.v (.slice none 0 0)), (iD 0), (iD 0)] [(1, s1), (2, y2)]) fun y4 =>
thnH (rowH 34 3 1 [(.v (.slice none 0 0)), (iD 0), (iD 0)] [(0, y4)] h) fun y5 h6 =>
thnH (Jd3 34 3 y3 y5 h6) fun y7 h8 =>
thnH (setH 1 s0 y7 h8) fun y9 h10 =>
thn (binK .int .add s4 (iD 1)) fun y11 =>
some (.normal, [s0, s1, s2, s3, y11], h10))
(some ((.exit 2), [s0, s1, s2, s3, s4], h))) := by kernel_rfl
end Go.Proofs.YtinnbafplhcnpaaGreat
end
section
namespace Go.Proofs.YtinnbafplhcnpaaGreat
open Go.RowKit
set_option linter.unusedVariables false
set_option linter.unusedSimpArgs false
set_option maxRecDepth 100000
def Y13 (P : Program) : Yl13 := Yn P (T13h P) 8 1
theorem Y13_ok : YOk Tryz.prog (Y13 Tryz.prog) := Qs6 Qlr mixed 8 1
def Jk6 (fn : Func) (st : LS) : HO := .loop st [19, 20] (Jli fn 0) (Jje fn 0) 35 Jbh [.hp 0 0, .undef, .undef, .undef, .undef]
def outC (out : List (Int × Int)) : List D := (out.map fun e => [D.v (.slice none 0 0), iD e.1, iD e.2]).flatten
theorem Qnr (out : List (Int × Int)) : (outC out).length = out.length * 3 := by
  induction out with
  | nil => rfl
  | cons x r ih => simp only [outC, List.map_cons, List.flatten_cons, List.length_append, List.length_cons] at ih ⊢; simp at ih ⊢; omega
theorem Qns (a b : List (Int × Int)) : outC (a ++ b) = outC a ++ outC b := by simp [outC]
structure ChInv (l : List Nd) (x : Nd) (H : Heap) (out : List (Int × Int)) : Prop where
  len : 6 <= H.length
  box : ∃ d, H[0]? = some (.cells 28 1 [d]) /\ Buf 34 3 H 6 d out.length (outC out)
  row : H[1]? = some (.cells 23 1 [Jaf l])
  loop : H[2]? = some (Jk6 Tryz.f20 .ready)
  yld : H[3]? = some (.cells 106 1 [.yld 2])
  node : H[4]? = some (.cells 54 2 [iD x.1, iD x.2])
  more : H[5]? = some (.cells 4 1 [bD true])
theorem Qlf (a b : Int) : Jbv [(0, 1), (1, 1), (2, 1)] [.v (.slice none 0 0), iD 0, iD 0] [(1, iD a), (2, iD b)] = some (.agg [.v (.slice none 0 0), iD a, iD b]) := rfl
theorem Qq0 (t : TypeId) (a b : Int) (H : Heap) : rowH t 3 1 [.v (.slice none 0 0), iD 0, iD 0] [(0, .agg [.v (.slice none 0 0), iD a, iD b])] H = some (.hs H.length 1, H ++ [.cells t 3 [.v (.slice none 0 0), iD a, iD b]]) := rfl
theorem Qo6      (l : List Nd) (x : Nd) (H : Heap) (out : List (Int × Int)) (op : Int) (dn : D) (ns : List Int) (B : Nat) (h : ChInv l x H out) (hn : Numb B H dn ns) (hns : ns.length ≤ 6) (hout : out.length ≤ 100)
    (hsep : ∀ d k q, H[0]? = some (.cells 28 1 [d]) -> d = .hs k q -> k < B) (hB : 6 <= B) :
    ∃ H', Y13 Tryz.prog 2 [iD op, dn] H = some (bD true, H') /\ ChInv l x H' (out ++ ns.map fun n => (op, n)) := by
  obtain ⟨h0, ⟨d, h1, h2⟩, h3, h4, h5, h6, h7⟩ := h
  have hY : Y13 Tryz.prog 2 [iD op, dn] H = Jo2 Tryz.prog (T13h Tryz.prog noYl) 8 2 [iD op, dn] H := rfl
  have hk : Jo2 Tryz.prog (T13h Tryz.prog noYl) 8 2 [iD op, dn] H = Jvd Tryz.prog (T13h Tryz.prog noYl) 8 2 [19, 20] (Jli Tryz.f20 0) (Jje Tryz.f20 0) 35 Jbh [.hp 0 0, .undef, .undef, .undef, .undef] [iD op, dn] H := by
    unfold Jo2
    rw [h4]
    simp only [Jk6]
    rw [if_pos]
    refine ⟨rfl, ?_, ?_, ?_, ?_⟩ <;> kernel_rfl
  rw [hY, hk, Jnu]
  have hb : Jx7 (α := D × Heap) 2 H = fun k => k (H.set 2 (Jk6 Tryz.f20 .busy)) := by
    funext k
    unfold Jx7
    rw [h4]
    rfl
  rw [hb]
  have g : ∀ k, k ≠ 2 -> (H.set 2 (Jk6 Tryz.f20 .busy))[k]? = H[k]? := fun k hk => List.getElem?_set_ne (Ne.symm hk)
  have g2 : (H.set 2 (Jk6 Tryz.f20 .busy))[2]? = some (Jk6 Tryz.f20 .busy) := List.getElem?_set_self (by omega)
  have gl : (H.set 2 (Jk6 Tryz.f20 .busy)).length = H.length := by simp
  have gb : Buf 34 3 (H.set 2 (Jk6 Tryz.f20 .busy)) 6 d out.length (outC out) := h2.set 2 _ (by omega)
  generalize H.set 2 (Jk6 Tryz.f20 .busy) = H0 at *
  have hlen := hn.len
  have key := Qkc (step := stepR Tryz.prog (T13h Tryz.prog noYl) Jbh 8 Tryz.f20 0 0)
    (fun i s Hi => s = [.hp 0 0, iD op, dn, iD ns.length, iD i] /\ 6 <= Hi.length /\ (∃ d, Hi[0]? = some (.cells 28 1 [d]) /\ Buf 34 3 Hi 6 d (out.length + i) (outC (out ++ (ns.take i).map fun n => (op, n))) /\ ∀ k m q, dn = .hs k m -> d ≠ .hs k q) /\ (∀ k, 1 <= k -> k < 6 -> Hi[k]? = H0[k]?) /\ Numb B Hi dn ns)
    (fun r => ∃ s Hi, r = (.exit 2, s, Hi) /\ 6 <= Hi.length /\ (∃ d, Hi[0]? = some (.cells 28 1 [d]) /\ Buf 34 3 Hi 6 d (out.length + ns.length) (outC (out ++ ns.map fun n => (op, n)))) /\ (∀ k, 1 <= k -> k < 6 -> Hi[k]? = H0[k]?)) ns.length 8
    (fun i s Hi hi hI => by
      obtain ⟨rfl, k1, ⟨d, k2, k3, k4⟩, k5, k6⟩ := hI
      have hlt : (i : Int) < (ns.length : Int) := by omega
      obtain ⟨p, p1, p2⟩ := k6.get i hi
      have l0 := Jd7 Hi 0 _ _ _ _ k2
      have e1 := Jb0 (i : Int) 1 (by omega) (by omega)
      have c1 : ((i : Nat) : Int) + 1 = ((i + 1 : Nat) : Int) := by omega
      rw [c1] at e1
      have hol := Qnr (out ++ (ns.take i).map fun n => (op, n))
      obtain ⟨d', H1, a1, a2, a3, a4, a5, a6⟩ := Qdk (new := [D.v (.slice none 0 0), iD op, iD (ns.getD i 0)]) k3 (by omega) rfl rfl (by rw [hol]; simp; omega) k1
      have q0 : H1[0]? = some (.cells 28 1 [d]) := by rw [a3.2 0 (by omega)]; exact k2
      have st := Jl5 H1 0 0 _ _ _ d' q0 (by simp) a2.cells a2.ok
      refine ⟨_, H1.set 0 (.cells 28 1 [d']), ?_, rfl, by simp; omega, ⟨d', List.getElem?_set_self (by omega), ?_, fun k m q e => ?_⟩, fun k hk1 hk6 => ?_, ?_⟩
      · rw [Jgt]
        simp only [Jbd, hlt, decide_true, Jaj, Jai, if_true, p1, p2, l0, Qlf, Qq0, Jan, a1, st, Jcs, e1, List.set_cons_zero]
      · rw [Jxc ns i hi, <- List.append_assoc, Qns]
        exact a2.set 0 _ (by omega)
      · have hl := (e ▸ k6).lt
        exact a6 k q hl.2 (k4 k m q e) (fun q' => k4 k m q' e)
      · rw [List.getElem?_set_ne (by omega), a3.2 k hk6, k5 k hk1 hk6]
      · exact k6.keep2 fun r m e hr1 hr2 => by
          rw [List.getElem?_set_ne (by omega)]
          exact a5 r hr2 (fun q => k4 r m q e))
    (fun s Hi hI => by
      obtain ⟨rfl, k1, ⟨d, k2, k3, k4⟩, k5, k6⟩ := hI
      rw [List.take_length] at k3
      refine ⟨(.exit 2, [.hp 0 0, iD op, dn, iD ns.length, iD ns.length], Hi), ?_, (by intro e; cases e), _, Hi, rfl, k1, ⟨d, k2, k3⟩, k5⟩
      rw [Jgt]
      have hlt : ¬ ((ns.length : Int) < (ns.length : Int)) := by omega
      simp only [Jbd     , hlt, decide_false, Jaj     , Jai       , Bool.false_eq_true, if_false])
    (by omega) (s := [.hp 0 0, iD op, dn, iD ns.length, iD 0]) (H := H0)
    ⟨rfl, by omega, ⟨d, by rw [g 0 (by omega)]; exact h1, by simpa using gb, fun k m q e e2 => by
      have := hsep d k q h1 e2
      have hl := (e ▸ hn).lt
      omega⟩, fun _ _ _ => rfl, hn.keep2 fun r m e hr1 hr2 => g r (by omega)⟩
  obtain ⟨r, r1, s, Hi, rfl, k1, ⟨d', k2, k3⟩, k5⟩ := key
  have r1' : loopR Tryz.prog (T13h Tryz.prog noYl) Jbh 8 Tryz.f20 0 0 [.hp 0 0, iD op, dn, iD ns.length, iD 0] H0 = _ := r1
  have c2 : Hi[2]? = some (Jk6 Tryz.f20 .busy) := by rw [k5 2 (by omega) (by omega)]; exact g2
  have q : ∀ k, k ≠ 2 -> (Hi.set 2 (Jk6 Tryz.f20 .ready))[k]? = Hi[k]? := fun k hk => List.getElem?_set_ne (Ne.symm hk)
  refine ⟨Hi.set 2 (Jk6 Tryz.f20 .ready), ?_, by simpa using k1, ⟨d', by rw [q 0 (by omega)]; exact k2, ?_⟩, ?_, ?_, ?_, ?_, ?_⟩
  · simp only [hlen, Jaj, r1', Jcd, Jcz]
    unfold endR
    rw [c2]
    rfl
  · rw [List.length_append, List.length_map]; exact k3.set 2 _ (by omega)
  · rw [q 1 (by omega), k5 1 (by omega) (by omega), g 1 (by omega)]; exact h3
  · exact List.getElem?_set_self (by omega)
  · rw [q 3 (by omega), k5 3 (by omega) (by omega), g 3 (by omega)]; exact h5
  · rw [q 4 (by omega), k5 4 (by omega) (by omega), g 4 (by omega)]; exact h6
  · rw [q 5 (by omega), k5 5 (by omega) (by omega), g 5 (by omega)]; exact h7
theorem ChInv.kp {l : List Nd} {x : Nd} {H H' : Heap} {out : List (Int × Int)} (h : ChInv l x H out) (k : Kp H.length H H') : ChInv l x H' out := by
  obtain ⟨h0, ⟨d, h1, h2⟩, h3, h4, h5, h6, h7⟩ := h
  refine ⟨Nat.le_trans h0 k.1, ⟨d, by rw [k.2 0 (by omega)]; exact h1, h2.keep fun r m e => k.2 r ?_⟩, by rw [k.2 1 (by omega)]; exact h3, by rw [k.2 2 (by omega)]; exact h4, by rw [k.2 3 (by omega)]; exact h5, by rw [k.2 4 (by omega)]; exact h6, by rw [k.2 5 (by omega)]; exact h7⟩
  subst e
  exact h2.lt.2
theorem Jp4     (l : List Nd) (x : Nd) (H H1 : Heap) (out : List (Int × Int)) (op : Int) (dn : D) (ns : List Int) (h : ChInv l x H out) (k : Kp H.length H H1) (hn : Numb H.length H1 dn ns) (hns : ns.length ≤ 6) (hout : out.length ≤ 100) :
    ∃ H', Jwj Tryz.prog (Y13 Tryz.prog) (.hp 5 0) (.hp 3 0) (iD op) dn H1 = some (.tup [], H') /\ ChInv l x H' (out ++ ns.map fun n => (op, n)) := by
  have h' := h.kp k
  obtain ⟨H', q1, q2⟩ := Qo6 l x H1 out op dn ns H.length h' hn hns hout (fun d r q e1 e2 => by
    obtain ⟨d2, b1, b2⟩ := h.box
    rw [k.2 0 (by have := h.len; omega), b1] at e1
    cases e1
    subst e2
    exact b2.lt.2) h.len
  refine ⟨H', ?_, q2⟩
  have e0 : Jwj Tryz.prog (Y13 Tryz.prog) (.hp 5 0) (.hp 3 0) (iD op) dn H1 = Jpu Tryz.prog (Y13 Tryz.prog) [iD op, dn, .hp 5 0, .hp 3 0] H1 := rfl
  have l5 := Jd7 H1 5 _ _ _ _ h'.more
  have l3 := Jd7 H1 3 _ _ _ _ h'.yld
  have e1 : Jdq (T13y Tryz.prog (Y13 Tryz.prog)) (.yld 2) [iD op, dn] H1 = some (bD true, H') := q1
  have st := Jl5 H' 5 0 _ _ _ (bD true) q2.more (by simp) rfl rfl
  have ss : H'.set 5 (.cells 4 1 [bD true]) = H' := set_self q2.more
  rw [e0, Qbb, Jnt]
  simp only [l5, Jaj, Jai, if_true, l3, e1, Jan, st, List.set_cons_zero, ss]
end Go.Proofs.YtinnbafplhcnpaaGreat
end
section
namespace Go.Proofs.YtinnbafplhcnpaaGreat
open Go.RowKit
set_option linter.unusedVariables false
set_option maxRecDepth 100000
def Jpa : List Nat := []
theorem Jwq (n : Nat) (x0 : D) (h : Heap) : Jap Tryz.prog T08 Jpa n Tryz.f81 [x0] h =
(thn (binK .int .geq x0 (iD 2)) fun y0 =>
Jah y0
(thn (binK .int .leq x0 (iD 9)) fun y1 =>
Jah y1
(thn (binK .int .sub x0 (iD 1)) fun y2 =>
some (y2, h))
(some ((iD 0), h)))
(some ((iD 0), h))) := by kernel_rfl
def Jhm : List Nat := []
theorem Jl0 (n : Nat) (x0 : D) (h : Heap) : Jap Tryz.prog T08 Jhm n Tryz.f102 [x0] h =
(thn (binK .int .lss x0 (iD 2)) fun y0 =>
Jah y0
(some ((iD 0), h))
(thn (binK .int .gtr x0 (iD 9)) fun y1 =>
Jah y1
(some ((iD 0), h))
(thn (binK .int .sub x0 (iD 1)) fun y2 =>
some (y2, h)))) := by kernel_rfl
def Jgv : List Nat := []
theorem Jlp (n : Nat) (x0 x1 : D) (h : Heap) : Jap Tryz.prog T08 Jgv n Tryz.f100 [x0, x1] h =
(thnH (boxH 25 x0 h) fun y0 h1 =>
thn (binK .int .lss x1 (iD 0)) fun y2 =>
Jah y2
(some ((iD (-1)), h1))
(thn (Jaa 1 y0) fun y3 =>
thn (Jad none h1 y3) fun y4 =>
thn (lenH .sl y4) fun y5 =>
thn (binK .int .geq x1 y5) fun y6 =>
Jah y6
(some ((iD (-1)), h1))
(thn (Jaa 1 y0) fun y7 =>
thn (Jad none h1 y7) fun y8 =>
thn (idxH 1 y8 x1) fun y9 =>
thn (Jad none h1 y9) fun y10 =>
some (y10, h1)))) := by kernel_rfl
def Jhl : List Nat := []
theorem Jly (n : Nat) (x0 x1 : D) (h : Heap) : Jap Tryz.prog T08 Jhl n Tryz.f101 [x0, x1] h =
(Jah x0
(some (x1, h))
(some ((iD (-1)), h))) := by kernel_rfl
def Jhn : List Nat := []
theorem Jl1 (n : Nat) (x0 x1 : D) (h : Heap) : Jap Tryz.prog T08 Jhn n Tryz.f18 [x0, x1] h =
(thnH (boxH 25 x0 h) fun y0 h1 =>
thnH (boxH 25 x1 h1) fun y2 h3 =>
thn (Jaa 1 y0) fun y4 =>
thn (Jad none h3 y4) fun y5 =>
thn (Jaa 1 y2) fun y6 =>
thn (Jad none h3 y6) fun y7 =>
thnH (Jae Jkq [y5, y7] h3) fun y8 h9 =>
thn (Jaa 2 y0) fun y10 =>
thn (Jad none h9 y10) fun y11 =>
thn (Jaa 2 y2) fun y12 =>
thn (Jad none h9 y12) fun y13 =>
thnH (Jae Jko [y11, y13] h9) fun y14 h15 =>
Jah y8
(Jah y14
(thn (Jaa 0 y0) fun y16 =>
thn (Jad none h15 y16) fun y17 =>
thn (Jaa 0 y2) fun y18 =>
thn (Jad none h15 y18) fun y19 =>
thn (binK .int .eql y17 y19) fun y20 =>
some (y20, h15))
(some ((bD false), h15)))
(some ((bD false), h15))) := by kernel_rfl
def Jh2 : List Nat := []
theorem Jnm (n : Nat) (x0 : D) (h : Heap) : Jap Tryz.prog T08 Jh2 n Tryz.f11 [x0] h =
(thnH (boxH 25 x0 h) fun y0 h1 =>
thn (Jaa 2 y0) fun y2 =>
thn (Jad none h1 y2) fun y3 =>
thn (lenH .sl y3) fun y4 =>
thn (binK .int .leq y4 (iD 60)) fun y5 =>
Jah y5
(thn (Jaa 1 y0) fun y6 =>
thn (Jad none h1 y6) fun y7 =>
thn (lenH .sl y7) fun y8 =>
thn (binK .int .leq y8 (iD 20)) fun y9 =>
some (y9, h1))
(some ((bD false), h1))) := by kernel_rfl
def Jb2 : List Nat := [0, 1, 4, 5, 12, 13]
theorem Ji8 (n : Nat) (x0 x1 : D) (h : Heap) : Jap Tryz.prog T08 Jb2 n Tryz.f51 [x0, x1] h =
(thn (lenH .sl x0) fun y0 =>
thn (lenH .sl x1) fun y1 =>
thn (binK .int .neq y0 y1) fun y2 =>
Jah y2
(some ((bD false), h))
(thn (lenH .sl x0) fun y3 =>
Jdl (Jds Tryz.prog T08 Jb2 n Tryz.f51 0 [x0, x1, (bD false), .undef, y3, (iD 0)] h) (fun j4 s5 h6 =>
Jew j4 0
(some ((bD true), h6))
(none)) (fun s5 h6 =>
some ((s5.getD 2 .undef), h6)))) := by kernel_rfl
theorem Jdj (n : Nat) (s0 s1 s2 s3 s4 s5 : D) (h : Heap) : Jdu Tryz.prog T08 Jb2 n Tryz.f51 0 [s0, s1, s2, s3, s4, s5] h =
(thn (binK .int .lss s5 s4) fun y0 =>
Jah y0
(thn (idxH 1 s0 s5) fun y1 =>
thn (Jad none h y1) fun y2 =>
thn (idxH 1 s1 s5) fun y3 =>
thn (Jad none h y3) fun y4 =>
thn (binK .int .neq y2 y4) fun y5 =>
Jah y5
(some (.ret, [s0, s1, (bD false), s5, s4, s5], h))
(thn (binK .int .add s5 (iD 1)) fun y6 =>
some (.normal, [s0, s1, s2, s5, s4, y6], h)))
(some ((.exit 0), [s0, s1, s2, s3, s4, s5], h))) := by kernel_rfl
def Jpc : List Nat := []
theorem Jws (n : Nat) (x0 x1 : D) (h : Heap) : Jap Tryz.prog T08 Jpc n Tryz.f152 [x0, x1] h =
(thn (binK .int .and x0 (.v (.int .u64 4294967295))) fun y0 =>
thn (binK .int .shr x0 (.v (.int .u64 32))) fun y1 =>
thn (binK .int .and x1 (.v (.int .u64 4294967295))) fun y2 =>
thn (binK .int .shr x1 (.v (.int .u64 32))) fun y3 =>
thn (binK .int .mul y0 y2) fun y4 =>
thn (binK .int .mul y1 y2) fun y5 =>
thn (binK .int .shr y4 (.v (.int .u64 32))) fun y6 =>
thn (binK .int .add y5 y6) fun y7 =>
thn (binK .int .and y7 (.v (.int .u64 4294967295))) fun y8 =>
thn (binK .int .shr y7 (.v (.int .u64 32))) fun y9 =>
thn (binK .int .mul y0 y3) fun y10 =>
thn (binK .int .add y8 y10) fun y11 =>
thn (binK .int .mul y1 y3) fun y12 =>
thn (binK .int .add y12 y9) fun y13 =>
thn (binK .int .shr y11 (.v (.int .u64 32))) fun y14 =>
thn (binK .int .add y13 y14) fun y15 =>
thn (binK .int .mul x0 x1) fun y16 =>
some (.tup [y15, y16], h)) := by kernel_rfl
def Jcf : List Nat := [0, 1, 2, 3, 6, 7]
theorem Jkx (n : Nat) (x0 x1 x2 : D) (h : Heap) : Jap Tryz.prog T08 Jcf n Tryz.f104 [x0, x1, x2] h =
(thnH (boxH 25 x0 h) fun y0 h1 =>
Jdl (Jds Tryz.prog T08 Jcf n Tryz.f104 0 [x0, x1, x2, y0, (bD false), x2] h1) (fun j2 s3 h4 =>
Jew j2 0
(some ((bD true), h4))
(none)) (fun s3 h4 =>
some ((s3.getD 4 .undef), h4))) := by kernel_rfl
theorem Jd0 (n : Nat) (s0 s1 s2 s3 s4 s5 : D) (h : Heap) : Jdu Tryz.prog T08 Jcf n Tryz.f104 0 [s0, s1, s2, s3, s4, s5] h =
(thn (lenH .sl s1) fun y0 =>
thn (binK .int .lss s5 y0) fun y1 =>
Jah y1
(thn (Jaa 2 s3) fun y2 =>
thn (Jad none h y2) fun y3 =>
thn (idxH 1 s1 s5) fun y4 =>
thn (Jad none h y4) fun y5 =>
thn (idxH 2 y3 y5) fun y6 =>
thn (Jaa 0 y6) fun y7 =>
thn (Jad none h y7) fun y8 =>
thn (binK .int .neq y8 (iD 20)) fun y9 =>
Jah y9
(some (.ret, [s0, s1, s2, s3, (bD false), s5], h))
(thn (binK .int .add s5 (iD 1)) fun y10 =>
some (.normal, [s0, s1, s2, s3, s4, y10], h)))
(some ((.exit 0), [s0, s1, s2, s3, s4, s5], h))) := by kernel_rfl
end Go.Proofs.YtinnbafplhcnpaaGreat
end
section
namespace Go.Proofs.YtinnbafplhcnpaaGreat
open Go.RowKit
set_option linter.unusedVariables false
set_option linter.unusedSimpArgs false
def Jnj (t : Int) : Int := if 2 <= t /\ t <= 9 then t - 1 else 0
def Jp0 : List D -> Option D := F1 intT fun t => some (iD (Jnj t))
theorem C_Size : CallOk Tryz.prog 81 Jp0 := Jms (kp := Jpa) Jn8 mixed Tryz.func81 (by kernel_rfl) (by decide) fun t d h => by
  cases h
  refine ⟨0, _, ?_, Imp.refl _⟩
  show outD (Jap _ _ _ _ _ [iD t] []) = _
  rw [Jwq]
  unfold Jnj
  by_cases h1 : 2 <= t <;> by_cases h2 : t <= 9 <;> simp (disch := omega) [h1, h2, Jnb]
theorem Qmn : CallOk Tryz.prog 102 Jp0 := Jms (kp := Jhm) Jn8 mixed Tryz.func102 (by kernel_rfl) (by decide) fun t d h => by
  cases h
  refine ⟨0, _, ?_, Imp.refl _⟩
  show outD (Jap _ _ _ _ _ [iD t] []) = _
  rw [Jl0]
  unfold Jnj
  by_cases h1 : t < 2
  · simp [h1, Int.not_le.2 h1]
  · by_cases h2 : 9 < t
    · simp [h1, h2, Int.not_le.2 h2]
    · simp (disch := omega) [h1, h2, Jnb, Int.not_lt.1 h1, Int.not_lt.1 h2]
def Jfd (vs : List Int) (v : Int) : Int := if v < 0 then -1 else vs.getD v.toNat (-1)
def Juj : List D -> Option D := F2 progT intT fun p v => some (iD (Jfd p.vars v))
theorem Qtp : CallOk Tryz.prog 100 Juj := Jlf (kp := Jgv) Jn8 mixed Tryz.func100 (by kernel_rfl) (by decide) fun p v d h => by
  cases h
  refine ⟨0, _, ?_, Imp.refl _⟩
  show outD (Jap _ _ _ _ _ [Jak p, iD v] []) = _
  rw [Jlp]
  unfold Jfd
  by_cases h1 : v < 0
  · simp [h1]
  · by_cases h2 : (p.vars.length : Int) <= v
    · have : p.vars[v.toNat]? = none := List.getElem?_eq_none (by omega)
      simp [h1, h2, this]
    · have h3 : v.toNat < p.vars.length := by omega
      simp [h1, h2, Jk8 _ _ (Int.not_lt.1 h1) h3, h3]
def Jdm : List D -> Option D := F2 boolT intT fun b k => some (iD (if b then k else -1))
theorem C_kind : CallOk Tryz.prog 101 Jdm := Jlf (kp := Jhl) Jn8 mixed Tryz.func101 (by kernel_rfl) (by decide) fun b k d h => by
  cases h
  refine ⟨0, _, ?_, Imp.refl _⟩
  show outD (Jap _ _ _ _ _ [bD b, iD k] []) = _
  rw [Jly]
  cases b <;> simp
theorem Jy7 (a b : List Int) (H : Heap) (ha : a.length <= 3000000) (hb : b.length <= 3000000) : Jae Jkq [Jag a, Jag b] H = some (bD (decide (a = b)), H) := by
  rw [Jar _ _ _ rfl]; simp [Jkq, ha, hb]
theorem Jy6 (a b : List Nd) (H : Heap) (ha : a.length <= 3000000) (hb : b.length <= 3000000) : Jae Jko [Jaf a, Jaf b] H = some (bD (decide (a = b)), H) := by
  rw [Jar _ _ _ rfl]; simp [Jko, ha, hb]
theorem Jtp (a b : List Nd) (H : Heap) (ha : a.length <= 3000000) (hb : b.length <= 3000000) : Jae Jf3 [Jaf a, Jaf b] H = some (bD (decide (a = b)), H) := by
  rw [Jar _ _ _ rfl]; simp [Jf3, ha, hb]
abbrev Pg.fits (p : Pg) : Prop := p.vars.length <= 3000000 /\ p.body.length <= 3000000
theorem pg_eq (p q : Pg) : p = q ↔ p.params = q.params /\ p.vars = q.vars /\ p.body = q.body := by
  obtain ⟨a, b, c⟩ := p
  obtain ⟨d, e, f⟩ := q
  simp
def Jhy : List D -> Option D := F2 progT progT fun p q => if p.fits /\ q.fits then some (bD (decide (p = q))) else none
theorem Jwd : CallOk Tryz.prog 18 Jhy := Jlf (kp := Jhn) Jn8 mixed Tryz.func18 (by kernel_rfl) (by decide) fun p q d h => by
  split at h
  case isFalse => cases h
  rename_i hf
  cases h
  refine ⟨0, _, ?_, Imp.refl _⟩
  show outD (Jap _ _ _ _ _ [Jak p, Jak q] []) = _
  rw [Jl1]
  simp only [pg_eq p q]
  by_cases h1 : p.vars = q.vars <;> by_cases h2 : p.body = q.body <;> by_cases h3 : p.params = q.params <;> simp [Jy7, Jy6, hf.1.1, hf.1.2, hf.2.1, hf.2.2, h1, h2, h3]
def fewV (p : Pg) : Bool := decide (p.body.length <= 60) && decide (p.vars.length <= 20)
def Qbh : List D -> Option D := F1 progT fun p => some (bD (fewV p))
theorem C_Few : CallOk Tryz.prog 11 Qbh := Jms (kp := Jh2) Jn8 mixed Tryz.func11 (by kernel_rfl) (by decide) fun p d h => by
  cases h
  refine ⟨0, _, ?_, Imp.refl _⟩
  show outD (Jap _ _ _ _ _ [Jak p] []) = _
  rw [Jnm]
  unfold fewV
  by_cases h1 : (p.body.length : Int) <= 60
  · have h1' : p.body.length <= 60 := by omega
    by_cases h2 : (p.vars.length : Int) <= 20
    · have h2' : p.vars.length <= 20 := by omega
      simp [h1, h2, h1', h2']
    · have h2' : ¬ p.vars.length <= 20 := by omega
      simp [h1, h2, h1', h2']
  · have h1' : ¬ p.body.length <= 60 := by omega
    simp [h1, h1']
def Ji7 : List D -> Option D := F2 intsT intsT fun a b => if a.length <= 3000000 /\ b.length <= 3000000 then some (bD (decide (a = b))) else none
theorem Qd2 : CallOk Tryz.prog 51 Ji7 := Jlf (kp := Jb2) Jn8 mixed Tryz.func51 (by kernel_rfl) (by decide) fun a b d h => by
  split at h
  case isFalse => cases h
  rename_i hf
  cases h
  refine ⟨a.length + 1, _, ?_, Imp.refl _⟩
  show outD (Jap _ _ _ _ _ [Jag a, Jag b] []) = _
  rw [Ji8]
  by_cases hl : a.length = b.length
  case neg =>
    have h1 : ¬ ((a.length : Int) = b.length) := by omega
    have h2 : a ≠ b := fun e => hl (by rw [e])
    simp [h1, h2]
  -- the first place where they part
  have key : ∀ (m i : Nat) (s3 : D), i + m = a.length → a.take i = b.take i → ∀ n, m < n → ∃ s lv, (lv = .exit 0 ∧ a = b ∨ lv = .ret ∧ a ≠ b ∧ s.getD 2 .undef = bD false) ∧
      Jez (Jdu Tryz.prog T08 Jb2 (a.length + 1) Tryz.f51 0) n [Jag a, Jag b, bD false, s3, iD a.length, iD i] [] = some (lv, s, []) := by
    intro m
    induction m with
    | zero =>
      intro i s3 hi ht n hn
      obtain ⟨n, rfl⟩ : ∃ m, n = m + 1 := ⟨n - 1, by omega⟩
      have hia : i = a.length := by omega
      refine ⟨_, .exit 0, .inl ⟨rfl, ?_⟩, Jdn (s' := [Jag a, Jag b, bD false, s3, iD a.length, iD i]) ?_⟩
      · rw [hia, List.take_length, hl, List.take_length] at ht; exact ht
      · rw [Jdj]
        simp [hia]
    | succ m ih =>
      intro i s3 hi ht n hn
      obtain ⟨n, rfl⟩ : ∃ m, n = m + 1 := ⟨n - 1, by omega⟩
      have hia : i < a.length := by omega
      have hib : i < b.length := by omega
      have h1 : (i : Int) < a.length := by omega
      by_cases he : a[i] = b[i]
      · rw [Jei (s' := [Jag a, Jag b, bD false, iD i, iD a.length, iD ((i + 1 : Nat) : Int)]) (H' := [])]
        · exact ih (i + 1) _ (by omega) (take_same ht hia hib he) n (by omega)
        · rw [Jdj]
          simp (disch := omega) [h1, Jay _ _ hia, Jay _ _ hib, he, Jb0]
      · refine ⟨[Jag a, Jag b, bD false, iD i, iD a.length, iD i], .ret, .inr ⟨rfl, fun e => he (by simp [e]), rfl⟩, Jpf ?_⟩
        rw [Jdj]
        simp (disch := omega) [h1, Jay _ _ hia, Jay _ _ hib, he]
  obtain ⟨s, lv, hs, hk⟩ := key a.length 0 .undef (by omega) rfl (a.length + 1) (by omega)
  have hk' : Jds Tryz.prog T08 Jb2 (a.length + 1) Tryz.f51 0 [Jag a, Jag b, bD false, .undef, iD a.length, iD 0] [] = some (lv, s, []) := hk
  have h1 : ((a.length : Int) = b.length) := by omega
  rcases hs with ⟨rfl, he⟩ | ⟨rfl, he, hg⟩
  · simp only [Jmf, Jaj, hk', Jcd]
    simp [h1, he]
  · simp only [Jmf, Jaj, hk', Jig, hg]
    simp [h1, he]
end Go.Proofs.YtinnbafplhcnpaaGreat
end
