import Derived.Test.YtinnbafplhcnpaaGreatHn
section
namespace Go.Proofs.YtinnbafplhcnpaaGreat
open Go.RowKit
set_option linter.unusedVariables false
set_option linter.unusedSimpArgs false
theorem ar_tag (x : Nd) (h : 0 <= ar x) : 1 <= x.1 /\ x.1 <= 26 := by
  unfold ar at h
  split at h
  · omega
  · split at h
    · omega
    · rename_i h1 h2
      unfold lim at h2
      repeat' split at h2
      all_goals (try (simp only at h2)); omega
theorem Jbq (l : List Nd) (k : Nat) (h : 0 <= endv l k) (hk : k < l.length) : (Jab l k).length = (ar l[k]).toNat := by
  rw [Jcb l k h, upto_length, Jb1 l k hk]
theorem Qln (n : Nat) (f g : Nat -> Bool) : ((List.range n).all fun j => f j && g j) = ((List.range n).all f && (List.range n).all g) := by
  induction n with
  | zero => rfl
  | succ n ih =>
    simp only [List.range_succ, List.all_append, ih]
    simp only [List.all_cons, List.all_nil, Bool.and_true]
    cases (List.range n).all f <;> cases (List.range n).all g <;> cases f n <;> cases g n <;> rfl
theorem Jcl      (m : Nat) (p : Pg) (k : Nat) (h : 0 ≤ endv p.body k) (hk : k < p.body.length) (r : RuleT) (hr : Jb6    p.body[k].1 = r) : Jcp   (m + 1) p.vars p.body k =
    if Jau p.vars p.body[k].2 r = -1 then -1 else
    if allV m p (Jab p.body k) (askV p.vars p.body[k] (Jab p.body k).length r) && (!inner p.body[k].1 || blkV p.body (Jab p.body k) 1) then Jau p.vars p.body[k].2 r else -1 := by
  have hna : nodeAt p.body k = p.body[k] := by unfold nodeAt; rw [Int.toNat_natCast, getD_in _ _ _ hk]
  rw [Jcp, if_neg (by omega)]
  simp only [hna, hr]
  generalize Jau p.vars p.body[k].2 r = is
  generalize askV p.vars p.body[k] (Jab p.body k).length r = w
  generalize Jab p.body k = ks
  by_cases his : is = -1
  · simp [his]
  · by_cases hl : w.length = ks.length
    · rw [if_neg (by simp [his, hl]), if_neg his, Qln]
      have hb : ((List.range ks.length).all fun j => !(inner p.body[k].1 && decide (0 < j) && !decide ((nodeAt p.body (ks.getD j 0)).1 = 20))) = (!inner p.body[k].1 || blkV p.body ks 1) := by
        cases hi : inner p.body[k].1 with
        | false => simp
        | true =>
          simp only [Bool.true_and, Bool.not_true, Bool.false_or]
          rw [Bool.eq_iff_iff]
          simp only [List.all_eq_true, List.mem_range, blkV, Bool.not_eq_true', Bool.and_eq_false_iff, decide_eq_false_iff_not, Bool.not_eq_false', decide_eq_true_eq]
          constructor
          · intro q y hy
            obtain ⟨j, hj, e⟩ := List.getElem_of_mem hy
            simp only [List.length_drop] at hj
            rw [List.getElem_drop] at e
            rcases q (1 + j) (by omega) with q | q
            · omega
            · have hj' : 1 + j < ks.length := by omega
              rw [getD_in _ _ _ hj', e] at q; exact q
          · intro q j hj
            by_cases h0 : 0 < j
            · right
              rw [getD_in _ _ _ hj]
              show (p.body.getD (ks[j]).toNat (0, 0)).1 = 20
              refine q _ ?_
              have : j = 1 + (j - 1) := by omega
              rw [List.mem_iff_getElem]
              refine ⟨j - 1, by simp; omega, ?_⟩
              rw [List.getElem_drop]
              congr 1
              omega
            · exact .inl h0
      rw [hb]
      simp [allV, hl]
    · rw [if_pos (.inr hl), if_neg his]
      have : allV m p ks w = false := by simp [allV, show ¬ ks.length = w.length from fun e => hl e.symm]
      simp [this]
theorem row1 (t : TypeId) (a : Int) (H : Heap) : rowH t 1 1 [iD 0] [(0, iD a)] H = some (.hs H.length 1, H ++ [.cells t 1 [iD a]]) := rfl
theorem row2 (t : TypeId) (a b : Int) (H : Heap) : rowH t 1 2 [iD 0] [(0, iD a), (1, iD b)] H = some (.hs H.length 2, H ++ [.cells t 1 [iD a, iD b]]) := rfl
theorem row3 (t : TypeId) (a b c : Int) (H : Heap) : rowH t 1 3 [iD 0] [(0, iD a), (1, iD b), (2, iD c)] H = some (.hs H.length 3, H ++ [.cells t 1 [iD a, iD b, iD c]]) := rfl
section
variable (m : Nat) (p : Pg) (ks : List Int) (hp : p.body.length <= 3000000) (hks : ks.length <= 3000000) (hm : 0 < m) (hk : ∀ k ∈ ks, p.body.length < k.toNat + m)
include hp hks hm hk
theorem Jda (H : Heap) (id : Nat) (t : TypeId) (l : List Int) (h : H[id]? = some (.cells t 1 (l.map iD))) : Jae (Jbi m) [Jak p, Jag ks, .hs id l.length] H = some (bD (allV m p ks l), H) := by
  have hd : [Jak p, Jag ks, .hs id l.length].mapM (Jbs H 9) = some [Jak p, Jag ks, Jag l] := by
    simp only [List.mapM_cons, List.mapM_nil, Jbt H 9 (Jak p) rfl, Jbt H 9 (Jag ks) rfl, Jvy H 8 id t l h]
    rfl
  rw [Jo9 _ _ _ _ rfl hd]
  have : Jbi m [Jak p, Jag ks, Jag l] = _ := Jrf (A := progT) (B := intsT) (C := intsT) _ p ks l
  rw [this, if_pos ⟨hp, hks, hm, hk⟩]
  rfl
end
theorem Ja5 (b : Bool) (k : Int) (H : Heap) : Jae Jdm [bD b, iD k] H = some (iD (if b then k else -1), H) := by rw [Jar _ _ _ rfl]; rfl
theorem Ja4 (p : Pg) (v : Int) (H : Heap) : Jae Juj [Jak p, iD v] H = some (iD (Jfd p.vars v), H) := by
  rw [Jar _ _ _ rfl]
  have : Juj [Jak p, iD v] = _ := Jht (A := progT) (B := intT) _ p v
  rw [this]; rfl
theorem Ja9 (l : List Nd) (i : Int) (h : l.length <= 3000000) (H : Heap) : Jae Jgq [Jaf l, iD i] H = some (iD (endv l i), H) := by
  rw [Jar _ _ _ rfl]; simp [Jgq, h]
theorem Qfm (l : List Nd) (i : Int) (h : l.length <= 3000000) (H : Heap) : Jae Qic [Jaf l, iD i] H = some (iD (endv l i), H) := by
  rw [Jar _ _ _ rfl]; simp [Qic, h]
theorem Ja1 (l : List Nd) (i : Int) (h : l.length <= 3000000) (H : Heap) : Jae Jkp [Jaf l, iD i] H = some (Jag (Jab l i), H) := by
  rw [Jar _ _ _ rfl]; simp [Jkp, h]
theorem Jbf (p : Pg) (ks : List Int) (h1 : ks.length <= 3000000) (h2 : ∀ k ∈ ks, 0 <= k /\ k.toNat < p.body.length) (H : Heap) : Jae Jni [Jak p, Jag ks, iD 1] H = some (bD (blkV p.body ks 1), H) := by
  rw [Jar _ _ _ rfl]
  have : Jni [Jak p, Jag ks, iD 1] = _ := Jrf (A := progT) (B := intsT) (C := intT) _ p ks 1
  rw [this, if_pos ⟨by omega, h1, h2⟩]; rfl
theorem Jm6 (m : Nat) (p : Pg) (i : Int) (hp : p.body.length <= 3000000) (hm : 0 < m) (hi : endv p.body i < 0 \/ p.body.length < i.toNat + m) (H : Heap) : Jae (Jj0 m) [Jak p, iD i] H = some (iD (Jcp m p.vars p.body i), H) := by
  rw [Jar _ _ _ rfl]
  have : Jj0 m [Jak p, iD i] = _ := Jht (A := progT) (B := intT) _ p i
  rw [this, if_pos ⟨hp, hm, hi⟩]; rfl
theorem C_all (m : Nat) (hC : CallOk Tryz.prog 59 (Jj0 m)) : CallOk Tryz.prog 103 (Jbi m) := by
  have hT : TabOk Tryz.prog (T09g m) := Jb4 (Jac (Jal hC) Jr8)
  refine Qax (kp := Jdh) hT mixed Tryz.func103 (by kernel_rfl) (by decide) fun p ks w d h => ?_
  split at h
  case isFalse => cases h
  rename_i hc
  obtain ⟨hp, hks, hm, hk⟩ := hc
  cases h
  refine ⟨ks.length + 1, _, ?_, Imp.refl _⟩
  show outD (Jap _ _ _ _ _ [Jak p, Jag ks, Jag w] []) = _
  rw [Jnl]
  by_cases hl : ks.length = w.length
  case neg =>
    have : ¬ ((ks.length : Int) = w.length) := by omega
    simp [allV, hl, this]
  have load3 : Jad (some 3) (pgH 25 p) (.hp 0 0) = some (Jak p) := rfl
  have hs := Jfv (P := Tryz.prog) (T := T09g m) (kp := Jdh) (fn := Tryz.f103) (li := 0) (fun j => [Jag ks, Jag w, .hp 0 0, bD false, iD j]) (pgH 25 p) ks.length (fun j => decide (Jcp m p.vars p.body (ks.getD j 0) = w.getD j 0))
    (fun j => (.ret, [Jag ks, Jag w, .hp 0 0, bD false, iD j], pgH 25 p)) (.exit 0, [Jag ks, Jag w, .hp 0 0, bD false, iD ks.length], pgH 25 p) (fun i => by intro e; cases e) (by intro e; cases e) 0 (ks.length + 1) (Nat.zero_le _) (by omega)
    (fun j _ hj hp' => by
      have hw : j < w.length := by omega
      have e1 := Jb0 (j : Int) 1 (by omega) (by omega)
      have h1 : (j : Int) < ks.length := by omega
      have h2 := Jm6 m p ks[j] hp hm (.inr (hk _ (List.getElem_mem hj))) (pgH 25 p)
      rw [getD_in _ _ _ hj, getD_in _ _ _ hw, decide_eq_true_eq] at hp'
      rw [Jeq]
      simp [-Jha     , h1, load3, Jay       _ _ hj, Jay       _ _ hw, h2, hp', e1])
    (fun j _ hj hp' => by
      have hw : j < w.length := by omega
      have h1 : (j : Int) < ks.length := by omega
      have h2 := Jm6 m p ks[j] hp hm (.inr (hk _ (List.getElem_mem hj))) (pgH 25 p)
      rw [getD_in _ _ _ hj, getD_in _ _ _ hw, decide_eq_false_iff_not] at hp'
      rw [Jeq]
      simp [-Jha     , h1, load3, Jay       _ _ hj, Jay       _ _ hw, h2, hp'])
    (by rw [Jeq]; simp)
  have h1 : ((ks.length : Int) = w.length) := by omega
  rcases hs with ⟨q1, q2⟩ | ⟨i, _, q1, q2, q3, q4⟩
  · have hall : (List.range ks.length).all (fun j => decide (Jcp   m p.vars p.body (ks.getD j 0) = w.getD j 0)) = true := by
      rw [List.all_eq_true]; intro i hi; exact q1 i (Nat.zero_le _) (by simpa using hi)
    simp only [pgH, Jld] at q2
    rw [allV, hall]
    simp [h1, hl, q2]
    rw [h1] at q2
    simp [hl] at q2
    simp [q2]
  · have hall : (List.range ks.length).all (fun j => decide (Jcp   m p.vars p.body (ks.getD j 0) = w.getD j 0)) = false := by
      rw [Bool.eq_false_iff]; intro e; rw [List.all_eq_true] at e
      have := e i (by simpa using q1)
      rw [q2] at this; cases this
    simp only [pgH, Jld] at q4
    rw [allV, hall]
    simp [h1, hl] at q4 ⊢
    simp [q4]
end Go.Proofs.YtinnbafplhcnpaaGreat
end
section
namespace Go.Proofs.YtinnbafplhcnpaaGreat
open Go.RowKit
set_option linter.unusedVariables false
set_option linter.unusedSimpArgs false
set_option maxHeartbeats 1000000
theorem Jyr (t : Int) (h : ¬ Jnj t = 0) : 0 < Jnj t := by unfold Jnj at h ⊢; split at h <;> simp_all; omega
theorem Jcm      (m : Nat) (p : Pg) (o : HO) (ks : List Int) (hp : p.body.length ≤ 3000000) (hm : 0 < m) (hks : ks.length ≤ 200) (hk : ∀ k ∈ ks, p.body.length < k.toNat + m) (N : Nat) (hN : ks.length < N) :
    ((∀ i, 0 <= i -> i < ks.length -> decide (Jcp m p.vars p.body (ks.getD i 0) = 2) = true) /\ Jds Tryz.prog (T09f m) Jam N Tryz.f59 0 [.hp 0 0, iD 0, Jag ks, iD ((0 : Nat) : Int)] [.cells 25 3 [iD p.params, Jag p.vars, Jaf p.body], o] = some (.exit 1, [.hp 0 0, iD 0, Jag ks, iD ks.length], [.cells 25 3 [iD p.params, Jag p.vars, Jaf p.body], o])) \/
    ∃ i, 0 <= i /\ i < ks.length /\ decide (Jcp m p.vars p.body (ks.getD i 0) = 2) = false /\ (∀ j, 0 <= j -> j < i -> decide (Jcp m p.vars p.body (ks.getD j 0) = 2) = true) /\ Jds Tryz.prog (T09f m) Jam N Tryz.f59 0 [.hp 0 0, iD 0, Jag ks, iD ((0 : Nat) : Int)] [.cells 25 3 [iD p.params, Jag p.vars, Jaf p.body], o] = some (.ret, [.hp 0 0, iD (-1), Jag ks, iD i], [.cells 25 3 [iD p.params, Jag p.vars, Jaf p.body], o]) := by
  refine Jfv (fun j => [.hp 0 0, iD 0, Jag ks, iD j]) _ ks.length (fun i => decide (Jcp m p.vars p.body (ks.getD i 0) = 2)) (fun i => (.ret, [.hp 0 0, iD (-1), Jag ks, iD i], _)) _ (fun i => by intro e; cases e) (by intro e; cases e) 0 N (Nat.zero_le _) (by omega) ?_ ?_ ?_
  · intro j _ hj hq
    have e1 := Jb0 (j : Int) 1 (by omega) (by omega)
    have h1 : (j : Int) < ks.length := by omega
    have h2 := Jm6 m p ks[j] hp hm (.inr (hk _ (List.getElem_mem hj))) [.cells 25 3 [iD p.params, Jag p.vars, Jaf p.body], o]
    rw [getD_in _ _ _ hj, decide_eq_true_eq] at hq
    have ep : D.agg [iD p.params, Jag p.vars, Jaf p.body] = Jak p := rfl
    rw [Je2]
    simp [h1, Jay _ _ hj, h2, hq, e1, ep]
  · intro j _ hj hq
    have h1 : (j : Int) < ks.length := by omega
    have h2 := Jm6 m p ks[j] hp hm (.inr (hk _ (List.getElem_mem hj))) [.cells 25 3 [iD p.params, Jag p.vars, Jaf p.body], o]
    rw [getD_in _ _ _ hj, decide_eq_false_iff_not] at hq
    have ep : D.agg [iD p.params, Jag p.vars, Jaf p.body] = Jak p := rfl
    rw [Je2]
    simp [h1, Jay _ _ hj, h2, hq, ep]
  · rw [Je2]
    simp
end Go.Proofs.YtinnbafplhcnpaaGreat
end
section
namespace Go.Proofs.YtinnbafplhcnpaaGreat
open Go.RowKit
set_option linter.unusedVariables false
set_option linter.unusedSimpArgs false
set_option maxHeartbeats 1000000
theorem Qgw (m : Nat) (p : Pg) (k : Nat) (hp : p.body.length <= 3000000) (hm : 0 < m) (hE : 0 <= endv p.body k) (hk : k < p.body.length) (hkm : ∀ j ∈ Jab p.body k, p.body.length < j.toNat + m) (htg : p.body[k].1 = 1) : ∃ H, Jap Tryz.prog (T09f m) Jam ((Jab p.body k).length + 1) Tryz.f59 [Jak p, iD k] [] = some (iD (Jcp (m + 1) p.vars p.body k), H) := by
  rw [Jao]
  have hE' : ¬ endv p.body k < 0 := by omega
  have har : 0 <= ar p.body[k] := by have := Jck p.body k hE; rwa [Jb1 _ _ hk] at this
  have hcount := Jbq p.body k hE hk
  rw [show p.body[k] = (p.body[k].1, p.body[k].2) from rfl] at har hcount
  have hkl := Jbn p.body k
  have hkind := Jcl m p k hE hk
  have hend := Ja9 p.body k hp
  have hkids := Ja1 p.body k hp
  have ea : ∀ o : HO, Jaz 54 [iD 0, iD 0] [o] = some (.hp 1 0, [o, .cells 54 2 [iD 0, iD 0]]) := fun o => rfl
  have es : ∀ o : HO, setH 2 (.hp 1 0) (.agg (Jax p.body[k])) [o, .cells 54 2 [iD 0, iD 0]] = some (.v undef, [o, .cells 54 2 [iD p.body[k].1, iD p.body[k].2]]) := fun o => rfl
  have ep : D.agg [iD p.params, Jag p.vars, Jaf p.body] = Jak p := rfl
  have hkid : ∀ j ∈ Jab p.body k, 0 <= j /\ j.toNat < p.body.length := fun j hj => by
    obtain ⟨c, hc, e⟩ := List.getElem_of_mem hj
    have := Jbc p.body k c hc
    rw [e] at this
    exact ⟨by omega, this.2.2.2⟩
  have hall := Jda m p (Jab p.body k) hp (by omega) hm hkm
  have hblk := Jbf p (Jab p.body k) (by omega) hkid
  have hloop := Jcm m p (.cells 54 2 [iD p.body[k].1, iD p.body[k].2]) (Jab p.body k) hp hm hkl hkm ((Jab p.body k).length + 1) (by omega)
  have hti : ∀ t, p.body[k].1 = t -> inner p.body[k].1 = inner t := fun t e => by rw [e]
  rw [htg] at *
  generalize hnn : p.body[k].2 = nn at *
  have a1 : ∀ (o1 o2 : HO) (a : Int), Jae (Jbi m) [Jak p, Jag (Jab p.body k), .hs 2 1] [o1, o2, .cells 3 1 [iD a]] = some (bD (allV m p (Jab p.body k) [a]), [o1, o2, .cells 3 1 [iD a]]) := fun o1 o2 a => hall _ 2 3 [a] rfl
  have a2 : ∀ (o1 o2 : HO) (a b : Int), Jae (Jbi m) [Jak p, Jag (Jab p.body k), .hs 2 2] [o1, o2, .cells 3 1 [iD a, iD b]] = some (bD (allV m p (Jab p.body k) [a, b]), [o1, o2, .cells 3 1 [iD a, iD b]]) := fun o1 o2 a b => hall _ 2 3 [a, b] rfl
  have a3 : ∀ (o1 o2 : HO) (a b c : Int), Jae (Jbi m) [Jak p, Jag (Jab p.body k), .hs 2 3] [o1, o2, .cells 3 1 [iD a, iD b, iD c]] = some (bD (allV m p (Jab p.body k) [a, b, c]), [o1, o2, .cells 3 1 [iD a, iD b, iD c]]) := fun o1 o2 a b c => hall _ 2 3 [a, b, c] rfl
  · skip
    have hq := hkind (.plain [] 0) rfl
    have hnil : Jab p.body k = [] := by
      have h0 : ar (1, nn) <= 0 := by unfold ar lim; simp; try (split <;> omega)
      apply List.eq_nil_of_length_eq_zero; omega
    rw [hnil] at hq
    exact ⟨_, by simp [Jav _ _ hk, hend, hE', ea, es, hkids, ep, Ja4, Ja8, Ja5, row1, row2, row3, a1, a2, a3, hblk, hq, Jau, askV, inner, allV]; rfl⟩
theorem Qgv (m : Nat) (p : Pg) (k : Nat) (hp : p.body.length <= 3000000) (hm : 0 < m) (hE : 0 <= endv p.body k) (hk : k < p.body.length) (hkm : ∀ j ∈ Jab p.body k, p.body.length < j.toNat + m) (htg : p.body[k].1 = 2) : ∃ H, Jap Tryz.prog (T09f m) Jam ((Jab p.body k).length + 1) Tryz.f59 [Jak p, iD k] [] = some (iD (Jcp (m + 1) p.vars p.body k), H) := by
  rw [Jao]
  have hE' : ¬ endv p.body k < 0 := by omega
  have har : 0 <= ar p.body[k] := by have := Jck p.body k hE; rwa [Jb1 _ _ hk] at this
  have hcount := Jbq p.body k hE hk
  rw [show p.body[k] = (p.body[k].1, p.body[k].2) from rfl] at har hcount
  have hkl := Jbn p.body k
  have hkind := Jcl m p k hE hk
  have hend := Ja9 p.body k hp
  have hkids := Ja1 p.body k hp
  have ea : ∀ o : HO, Jaz 54 [iD 0, iD 0] [o] = some (.hp 1 0, [o, .cells 54 2 [iD 0, iD 0]]) := fun o => rfl
  have es : ∀ o : HO, setH 2 (.hp 1 0) (.agg (Jax p.body[k])) [o, .cells 54 2 [iD 0, iD 0]] = some (.v undef, [o, .cells 54 2 [iD p.body[k].1, iD p.body[k].2]]) := fun o => rfl
  have ep : D.agg [iD p.params, Jag p.vars, Jaf p.body] = Jak p := rfl
  have hkid : ∀ j ∈ Jab p.body k, 0 <= j /\ j.toNat < p.body.length := fun j hj => by
    obtain ⟨c, hc, e⟩ := List.getElem_of_mem hj
    have := Jbc p.body k c hc
    rw [e] at this
    exact ⟨by omega, this.2.2.2⟩
  have hall := Jda m p (Jab p.body k) hp (by omega) hm hkm
  have hblk := Jbf p (Jab p.body k) (by omega) hkid
  have hloop := Jcm m p (.cells 54 2 [iD p.body[k].1, iD p.body[k].2]) (Jab p.body k) hp hm hkl hkm ((Jab p.body k).length + 1) (by omega)
  have hti : ∀ t, p.body[k].1 = t -> inner p.body[k].1 = inner t := fun t e => by rw [e]
  rw [htg] at *
  generalize hnn : p.body[k].2 = nn at *
  have a1 : ∀ (o1 o2 : HO) (a : Int), Jae (Jbi m) [Jak p, Jag (Jab p.body k), .hs 2 1] [o1, o2, .cells 3 1 [iD a]] = some (bD (allV m p (Jab p.body k) [a]), [o1, o2, .cells 3 1 [iD a]]) := fun o1 o2 a => hall _ 2 3 [a] rfl
  have a2 : ∀ (o1 o2 : HO) (a b : Int), Jae (Jbi m) [Jak p, Jag (Jab p.body k), .hs 2 2] [o1, o2, .cells 3 1 [iD a, iD b]] = some (bD (allV m p (Jab p.body k) [a, b]), [o1, o2, .cells 3 1 [iD a, iD b]]) := fun o1 o2 a b => hall _ 2 3 [a, b] rfl
  have a3 : ∀ (o1 o2 : HO) (a b c : Int), Jae (Jbi m) [Jak p, Jag (Jab p.body k), .hs 2 3] [o1, o2, .cells 3 1 [iD a, iD b, iD c]] = some (bD (allV m p (Jab p.body k) [a, b, c]), [o1, o2, .cells 3 1 [iD a, iD b, iD c]]) := fun o1 o2 a b c => hall _ 2 3 [a, b, c] rfl
  · skip
    have hq := hkind (.plain [] 1) rfl
    have hnil : Jab p.body k = [] := by
      have h0 : ar (2, nn) <= 0 := by unfold ar lim; simp; try (split <;> omega)
      apply List.eq_nil_of_length_eq_zero; omega
    rw [hnil] at hq
    exact ⟨_, by simp [Jav _ _ hk, hend, hE', ea, es, hkids, ep, Ja4, Ja8, Ja5, row1, row2, row3, a1, a2, a3, hblk, hq, Jau, askV, inner, allV]; rfl⟩
theorem Qgu (m : Nat) (p : Pg) (k : Nat) (hp : p.body.length <= 3000000) (hm : 0 < m) (hE : 0 <= endv p.body k) (hk : k < p.body.length) (hkm : ∀ j ∈ Jab p.body k, p.body.length < j.toNat + m) (htg : p.body[k].1 = 3) : ∃ H, Jap Tryz.prog (T09f m) Jam ((Jab p.body k).length + 1) Tryz.f59 [Jak p, iD k] [] = some (iD (Jcp (m + 1) p.vars p.body k), H) := by
  rw [Jao]
  have hE' : ¬ endv p.body k < 0 := by omega
  have har : 0 <= ar p.body[k] := by have := Jck p.body k hE; rwa [Jb1 _ _ hk] at this
  have hcount := Jbq p.body k hE hk
  rw [show p.body[k] = (p.body[k].1, p.body[k].2) from rfl] at har hcount
  have hkl := Jbn p.body k
  have hkind := Jcl m p k hE hk
  have hend := Ja9 p.body k hp
  have hkids := Ja1 p.body k hp
  have ea : ∀ o : HO, Jaz 54 [iD 0, iD 0] [o] = some (.hp 1 0, [o, .cells 54 2 [iD 0, iD 0]]) := fun o => rfl
  have es : ∀ o : HO, setH 2 (.hp 1 0) (.agg (Jax p.body[k])) [o, .cells 54 2 [iD 0, iD 0]] = some (.v undef, [o, .cells 54 2 [iD p.body[k].1, iD p.body[k].2]]) := fun o => rfl
  have ep : D.agg [iD p.params, Jag p.vars, Jaf p.body] = Jak p := rfl
  have hkid : ∀ j ∈ Jab p.body k, 0 <= j /\ j.toNat < p.body.length := fun j hj => by
    obtain ⟨c, hc, e⟩ := List.getElem_of_mem hj
    have := Jbc p.body k c hc
    rw [e] at this
    exact ⟨by omega, this.2.2.2⟩
  have hall := Jda m p (Jab p.body k) hp (by omega) hm hkm
  have hblk := Jbf p (Jab p.body k) (by omega) hkid
  have hloop := Jcm m p (.cells 54 2 [iD p.body[k].1, iD p.body[k].2]) (Jab p.body k) hp hm hkl hkm ((Jab p.body k).length + 1) (by omega)
  have hti : ∀ t, p.body[k].1 = t -> inner p.body[k].1 = inner t := fun t e => by rw [e]
  rw [htg] at *
  generalize hnn : p.body[k].2 = nn at *
  have a1 : ∀ (o1 o2 : HO) (a : Int), Jae (Jbi m) [Jak p, Jag (Jab p.body k), .hs 2 1] [o1, o2, .cells 3 1 [iD a]] = some (bD (allV m p (Jab p.body k) [a]), [o1, o2, .cells 3 1 [iD a]]) := fun o1 o2 a => hall _ 2 3 [a] rfl
  have a2 : ∀ (o1 o2 : HO) (a b : Int), Jae (Jbi m) [Jak p, Jag (Jab p.body k), .hs 2 2] [o1, o2, .cells 3 1 [iD a, iD b]] = some (bD (allV m p (Jab p.body k) [a, b]), [o1, o2, .cells 3 1 [iD a, iD b]]) := fun o1 o2 a b => hall _ 2 3 [a, b] rfl
  have a3 : ∀ (o1 o2 : HO) (a b c : Int), Jae (Jbi m) [Jak p, Jag (Jab p.body k), .hs 2 3] [o1, o2, .cells 3 1 [iD a, iD b, iD c]] = some (bD (allV m p (Jab p.body k) [a, b, c]), [o1, o2, .cells 3 1 [iD a, iD b, iD c]]) := fun o1 o2 a b c => hall _ 2 3 [a, b, c] rfl
  · skip
    have hq := hkind (.scalar false) rfl
    have hnil : Jab p.body k = [] := by
      have h0 : ar (3, nn) <= 0 := by unfold ar lim; simp; try (split <;> omega)
      apply List.eq_nil_of_length_eq_zero; omega
    rw [hnil] at hq
    by_cases h0 : Jfd p.vars nn = 0
    · exact ⟨_, by simp [Jav _ _ hk, hend, hE', ea, es, hkids, ep, Ja4, Ja8, Ja5, row1, row2, row3, a1, a2, a3, hblk, hq, Jau, Jcv, askV, inner, allV, h0, hnn]; rfl⟩
    · by_cases h1 : Jfd p.vars nn = 1
      · exact ⟨_, by simp [Jav _ _ hk, hend, hE', ea, es, hkids, ep, Ja4, Ja8, Ja5, row1, row2, row3, a1, a2, a3, hblk, hq, Jau, Jcv, askV, inner, allV, h0, h1, hnn]; rfl⟩
      · exact ⟨_, by simp [Jav _ _ hk, hend, hE', ea, es, hkids, ep, Ja4, Ja8, Ja5, row1, row2, row3, a1, a2, a3, hblk, hq, Jau, Jcv, askV, inner, allV, h0, h1, hnn]; rfl⟩
theorem Qgt (m : Nat) (p : Pg) (k : Nat) (hp : p.body.length <= 3000000) (hm : 0 < m) (hE : 0 <= endv p.body k) (hk : k < p.body.length) (hkm : ∀ j ∈ Jab p.body k, p.body.length < j.toNat + m) (htg : p.body[k].1 = 4) : ∃ H, Jap Tryz.prog (T09f m) Jam ((Jab p.body k).length + 1) Tryz.f59 [Jak p, iD k] [] = some (iD (Jcp (m + 1) p.vars p.body k), H) := by
  rw [Jao]
  have hE' : ¬ endv p.body k < 0 := by omega
  have har : 0 <= ar p.body[k] := by have := Jck p.body k hE; rwa [Jb1 _ _ hk] at this
  have hcount := Jbq p.body k hE hk
  rw [show p.body[k] = (p.body[k].1, p.body[k].2) from rfl] at har hcount
  have hkl := Jbn p.body k
  have hkind := Jcl m p k hE hk
  have hend := Ja9 p.body k hp
  have hkids := Ja1 p.body k hp
  have ea : ∀ o : HO, Jaz 54 [iD 0, iD 0] [o] = some (.hp 1 0, [o, .cells 54 2 [iD 0, iD 0]]) := fun o => rfl
  have es : ∀ o : HO, setH 2 (.hp 1 0) (.agg (Jax p.body[k])) [o, .cells 54 2 [iD 0, iD 0]] = some (.v undef, [o, .cells 54 2 [iD p.body[k].1, iD p.body[k].2]]) := fun o => rfl
  have ep : D.agg [iD p.params, Jag p.vars, Jaf p.body] = Jak p := rfl
  have hkid : ∀ j ∈ Jab p.body k, 0 <= j /\ j.toNat < p.body.length := fun j hj => by
    obtain ⟨c, hc, e⟩ := List.getElem_of_mem hj
    have := Jbc p.body k c hc
    rw [e] at this
    exact ⟨by omega, this.2.2.2⟩
  have hall := Jda m p (Jab p.body k) hp (by omega) hm hkm
  have hblk := Jbf p (Jab p.body k) (by omega) hkid
  have hloop := Jcm m p (.cells 54 2 [iD p.body[k].1, iD p.body[k].2]) (Jab p.body k) hp hm hkl hkm ((Jab p.body k).length + 1) (by omega)
  have hti : ∀ t, p.body[k].1 = t -> inner p.body[k].1 = inner t := fun t e => by rw [e]
  rw [htg] at *
  generalize hnn : p.body[k].2 = nn at *
  have a1 : ∀ (o1 o2 : HO) (a : Int), Jae (Jbi m) [Jak p, Jag (Jab p.body k), .hs 2 1] [o1, o2, .cells 3 1 [iD a]] = some (bD (allV m p (Jab p.body k) [a]), [o1, o2, .cells 3 1 [iD a]]) := fun o1 o2 a => hall _ 2 3 [a] rfl
  have a2 : ∀ (o1 o2 : HO) (a b : Int), Jae (Jbi m) [Jak p, Jag (Jab p.body k), .hs 2 2] [o1, o2, .cells 3 1 [iD a, iD b]] = some (bD (allV m p (Jab p.body k) [a, b]), [o1, o2, .cells 3 1 [iD a, iD b]]) := fun o1 o2 a b => hall _ 2 3 [a, b] rfl
  have a3 : ∀ (o1 o2 : HO) (a b c : Int), Jae (Jbi m) [Jak p, Jag (Jab p.body k), .hs 2 3] [o1, o2, .cells 3 1 [iD a, iD b, iD c]] = some (bD (allV m p (Jab p.body k) [a, b, c]), [o1, o2, .cells 3 1 [iD a, iD b, iD c]]) := fun o1 o2 a b c => hall _ 2 3 [a, b, c] rfl
  · skip
    have hq := hkind (.array [0] 0) rfl
    by_cases hs : Jnj (Jfd p.vars nn) = 0
    · exact ⟨_, by simp [Jav _ _ hk, hend, hE', ea, es, hkids, ep, Ja4, Ja8, Ja5, row1, row2, row3, a1, a2, a3, hblk, hq, Jau, Jeo, hs, hnn]; rfl⟩
    · have hs2 := Jyr _ hs
      cases hv : allV m p (Jab p.body k) [0] <;> exact ⟨_, by simp [Jav _ _ hk, hend, hE', ea, es, hkids, ep, Ja4, Ja8, Ja5, row1, row2, row3, a1, a2, a3, hblk, hq, Jau, Jeo, askV, inner, hs, hs2, hv, hnn]; rfl⟩
theorem Qgs (m : Nat) (p : Pg) (k : Nat) (hp : p.body.length <= 3000000) (hm : 0 < m) (hE : 0 <= endv p.body k) (hk : k < p.body.length) (hkm : ∀ j ∈ Jab p.body k, p.body.length < j.toNat + m) (htg : p.body[k].1 = 5) : ∃ H, Jap Tryz.prog (T09f m) Jam ((Jab p.body k).length + 1) Tryz.f59 [Jak p, iD k] [] = some (iD (Jcp (m + 1) p.vars p.body k), H) := by
  rw [Jao]
  have hE' : ¬ endv p.body k < 0 := by omega
  have har : 0 <= ar p.body[k] := by have := Jck p.body k hE; rwa [Jb1 _ _ hk] at this
  have hcount := Jbq p.body k hE hk
  rw [show p.body[k] = (p.body[k].1, p.body[k].2) from rfl] at har hcount
  have hkl := Jbn p.body k
  have hkind := Jcl m p k hE hk
  have hend := Ja9 p.body k hp
  have hkids := Ja1 p.body k hp
  have ea : ∀ o : HO, Jaz 54 [iD 0, iD 0] [o] = some (.hp 1 0, [o, .cells 54 2 [iD 0, iD 0]]) := fun o => rfl
  have es : ∀ o : HO, setH 2 (.hp 1 0) (.agg (Jax p.body[k])) [o, .cells 54 2 [iD 0, iD 0]] = some (.v undef, [o, .cells 54 2 [iD p.body[k].1, iD p.body[k].2]]) := fun o => rfl
  have ep : D.agg [iD p.params, Jag p.vars, Jaf p.body] = Jak p := rfl
  have hkid : ∀ j ∈ Jab p.body k, 0 <= j /\ j.toNat < p.body.length := fun j hj => by
    obtain ⟨c, hc, e⟩ := List.getElem_of_mem hj
    have := Jbc p.body k c hc
    rw [e] at this
    exact ⟨by omega, this.2.2.2⟩
  have hall := Jda m p (Jab p.body k) hp (by omega) hm hkm
  have hblk := Jbf p (Jab p.body k) (by omega) hkid
  have hloop := Jcm m p (.cells 54 2 [iD p.body[k].1, iD p.body[k].2]) (Jab p.body k) hp hm hkl hkm ((Jab p.body k).length + 1) (by omega)
  have hti : ∀ t, p.body[k].1 = t -> inner p.body[k].1 = inner t := fun t e => by rw [e]
  rw [htg] at *
  generalize hnn : p.body[k].2 = nn at *
  have a1 : ∀ (o1 o2 : HO) (a : Int), Jae (Jbi m) [Jak p, Jag (Jab p.body k), .hs 2 1] [o1, o2, .cells 3 1 [iD a]] = some (bD (allV m p (Jab p.body k) [a]), [o1, o2, .cells 3 1 [iD a]]) := fun o1 o2 a => hall _ 2 3 [a] rfl
  have a2 : ∀ (o1 o2 : HO) (a b : Int), Jae (Jbi m) [Jak p, Jag (Jab p.body k), .hs 2 2] [o1, o2, .cells 3 1 [iD a, iD b]] = some (bD (allV m p (Jab p.body k) [a, b]), [o1, o2, .cells 3 1 [iD a, iD b]]) := fun o1 o2 a b => hall _ 2 3 [a, b] rfl
  have a3 : ∀ (o1 o2 : HO) (a b c : Int), Jae (Jbi m) [Jak p, Jag (Jab p.body k), .hs 2 3] [o1, o2, .cells 3 1 [iD a, iD b, iD c]] = some (bD (allV m p (Jab p.body k) [a, b, c]), [o1, o2, .cells 3 1 [iD a, iD b, iD c]]) := fun o1 o2 a b c => hall _ 2 3 [a, b, c] rfl
  · skip
    have hq := hkind (.plain [0] 0) rfl
    cases hv : allV m p (Jab p.body k) [0] <;> exact ⟨_, by simp [Jav _ _ hk, hend, hE', ea, es, hkids, ep, Ja4, Ja8, Ja5, row1, row2, row3, a1, a2, a3, hblk, hq, Jau, askV, inner, hv]; rfl⟩
theorem Qgr (m : Nat) (p : Pg) (k : Nat) (hp : p.body.length <= 3000000) (hm : 0 < m) (hE : 0 <= endv p.body k) (hk : k < p.body.length) (hkm : ∀ j ∈ Jab p.body k, p.body.length < j.toNat + m) (htg : p.body[k].1 = 6) : ∃ H, Jap Tryz.prog (T09f m) Jam ((Jab p.body k).length + 1) Tryz.f59 [Jak p, iD k] [] = some (iD (Jcp (m + 1) p.vars p.body k), H) := by
  rw [Jao]
  have hE' : ¬ endv p.body k < 0 := by omega
  have har : 0 <= ar p.body[k] := by have := Jck p.body k hE; rwa [Jb1 _ _ hk] at this
  have hcount := Jbq p.body k hE hk
  rw [show p.body[k] = (p.body[k].1, p.body[k].2) from rfl] at har hcount
  have hkl := Jbn p.body k
  have hkind := Jcl m p k hE hk
  have hend := Ja9 p.body k hp
  have hkids := Ja1 p.body k hp
  have ea : ∀ o : HO, Jaz 54 [iD 0, iD 0] [o] = some (.hp 1 0, [o, .cells 54 2 [iD 0, iD 0]]) := fun o => rfl
  have es : ∀ o : HO, setH 2 (.hp 1 0) (.agg (Jax p.body[k])) [o, .cells 54 2 [iD 0, iD 0]] = some (.v undef, [o, .cells 54 2 [iD p.body[k].1, iD p.body[k].2]]) := fun o => rfl
  have ep : D.agg [iD p.params, Jag p.vars, Jaf p.body] = Jak p := rfl
  have hkid : ∀ j ∈ Jab p.body k, 0 <= j /\ j.toNat < p.body.length := fun j hj => by
    obtain ⟨c, hc, e⟩ := List.getElem_of_mem hj
    have := Jbc p.body k c hc
    rw [e] at this
    exact ⟨by omega, this.2.2.2⟩
  have hall := Jda m p (Jab p.body k) hp (by omega) hm hkm
  have hblk := Jbf p (Jab p.body k) (by omega) hkid
  have hloop := Jcm m p (.cells 54 2 [iD p.body[k].1, iD p.body[k].2]) (Jab p.body k) hp hm hkl hkm ((Jab p.body k).length + 1) (by omega)
  have hti : ∀ t, p.body[k].1 = t -> inner p.body[k].1 = inner t := fun t e => by rw [e]
  rw [htg] at *
  generalize hnn : p.body[k].2 = nn at *
  have a1 : ∀ (o1 o2 : HO) (a : Int), Jae (Jbi m) [Jak p, Jag (Jab p.body k), .hs 2 1] [o1, o2, .cells 3 1 [iD a]] = some (bD (allV m p (Jab p.body k) [a]), [o1, o2, .cells 3 1 [iD a]]) := fun o1 o2 a => hall _ 2 3 [a] rfl
  have a2 : ∀ (o1 o2 : HO) (a b : Int), Jae (Jbi m) [Jak p, Jag (Jab p.body k), .hs 2 2] [o1, o2, .cells 3 1 [iD a, iD b]] = some (bD (allV m p (Jab p.body k) [a, b]), [o1, o2, .cells 3 1 [iD a, iD b]]) := fun o1 o2 a b => hall _ 2 3 [a, b] rfl
  have a3 : ∀ (o1 o2 : HO) (a b c : Int), Jae (Jbi m) [Jak p, Jag (Jab p.body k), .hs 2 3] [o1, o2, .cells 3 1 [iD a, iD b, iD c]] = some (bD (allV m p (Jab p.body k) [a, b, c]), [o1, o2, .cells 3 1 [iD a, iD b, iD c]]) := fun o1 o2 a b c => hall _ 2 3 [a, b, c] rfl
  · skip
    have hq := hkind (.plain [1] 1) rfl
    cases hv : allV m p (Jab p.body k) [1] <;> exact ⟨_, by simp [Jav _ _ hk, hend, hE', ea, es, hkids, ep, Ja4, Ja8, Ja5, row1, row2, row3, a1, a2, a3, hblk, hq, Jau, askV, inner, hv]; rfl⟩
theorem Qgq (m : Nat) (p : Pg) (k : Nat) (hp : p.body.length <= 3000000) (hm : 0 < m) (hE : 0 <= endv p.body k) (hk : k < p.body.length) (hkm : ∀ j ∈ Jab p.body k, p.body.length < j.toNat + m) (htg : p.body[k].1 = 7) : ∃ H, Jap Tryz.prog (T09f m) Jam ((Jab p.body k).length + 1) Tryz.f59 [Jak p, iD k] [] = some (iD (Jcp (m + 1) p.vars p.body k), H) := by
  rw [Jao]
  have hE' : ¬ endv p.body k < 0 := by omega
  have har : 0 <= ar p.body[k] := by have := Jck p.body k hE; rwa [Jb1 _ _ hk] at this
  have hcount := Jbq p.body k hE hk
  rw [show p.body[k] = (p.body[k].1, p.body[k].2) from rfl] at har hcount
  have hkl := Jbn p.body k
  have hkind := Jcl m p k hE hk
  have hend := Ja9 p.body k hp
  have hkids := Ja1 p.body k hp
  have ea : ∀ o : HO, Jaz 54 [iD 0, iD 0] [o] = some (.hp 1 0, [o, .cells 54 2 [iD 0, iD 0]]) := fun o => rfl
  have es : ∀ o : HO, setH 2 (.hp 1 0) (.agg (Jax p.body[k])) [o, .cells 54 2 [iD 0, iD 0]] = some (.v undef, [o, .cells 54 2 [iD p.body[k].1, iD p.body[k].2]]) := fun o => rfl
  have ep : D.agg [iD p.params, Jag p.vars, Jaf p.body] = Jak p := rfl
  have hkid : ∀ j ∈ Jab p.body k, 0 <= j /\ j.toNat < p.body.length := fun j hj => by
    obtain ⟨c, hc, e⟩ := List.getElem_of_mem hj
    have := Jbc p.body k c hc
    rw [e] at this
    exact ⟨by omega, this.2.2.2⟩
  have hall := Jda m p (Jab p.body k) hp (by omega) hm hkm
  have hblk := Jbf p (Jab p.body k) (by omega) hkid
  have hloop := Jcm m p (.cells 54 2 [iD p.body[k].1, iD p.body[k].2]) (Jab p.body k) hp hm hkl hkm ((Jab p.body k).length + 1) (by omega)
  have hti : ∀ t, p.body[k].1 = t -> inner p.body[k].1 = inner t := fun t e => by rw [e]
  rw [htg] at *
  generalize hnn : p.body[k].2 = nn at *
  have a1 : ∀ (o1 o2 : HO) (a : Int), Jae (Jbi m) [Jak p, Jag (Jab p.body k), .hs 2 1] [o1, o2, .cells 3 1 [iD a]] = some (bD (allV m p (Jab p.body k) [a]), [o1, o2, .cells 3 1 [iD a]]) := fun o1 o2 a => hall _ 2 3 [a] rfl
  have a2 : ∀ (o1 o2 : HO) (a b : Int), Jae (Jbi m) [Jak p, Jag (Jab p.body k), .hs 2 2] [o1, o2, .cells 3 1 [iD a, iD b]] = some (bD (allV m p (Jab p.body k) [a, b]), [o1, o2, .cells 3 1 [iD a, iD b]]) := fun o1 o2 a b => hall _ 2 3 [a, b] rfl
  have a3 : ∀ (o1 o2 : HO) (a b c : Int), Jae (Jbi m) [Jak p, Jag (Jab p.body k), .hs 2 3] [o1, o2, .cells 3 1 [iD a, iD b, iD c]] = some (bD (allV m p (Jab p.body k) [a, b, c]), [o1, o2, .cells 3 1 [iD a, iD b, iD c]]) := fun o1 o2 a b c => hall _ 2 3 [a, b, c] rfl
  · skip
    have hq := hkind (.plain [0, 0] 0) rfl
    cases hv : allV m p (Jab p.body k) [0, 0] <;> exact ⟨_, by simp [Jav _ _ hk, hend, hE', ea, es, hkids, ep, Ja4, Ja8, Ja5, row1, row2, row3, a1, a2, a3, hblk, hq, Jau, askV, inner, hv]; rfl⟩
theorem Qgp (m : Nat) (p : Pg) (k : Nat) (hp : p.body.length <= 3000000) (hm : 0 < m) (hE : 0 <= endv p.body k) (hk : k < p.body.length) (hkm : ∀ j ∈ Jab p.body k, p.body.length < j.toNat + m) (htg : p.body[k].1 = 8) : ∃ H, Jap Tryz.prog (T09f m) Jam ((Jab p.body k).length + 1) Tryz.f59 [Jak p, iD k] [] = some (iD (Jcp (m + 1) p.vars p.body k), H) := by
  rw [Jao]
  have hE' : ¬ endv p.body k < 0 := by omega
  have har : 0 <= ar p.body[k] := by have := Jck p.body k hE; rwa [Jb1 _ _ hk] at this
  have hcount := Jbq p.body k hE hk
  rw [show p.body[k] = (p.body[k].1, p.body[k].2) from rfl] at har hcount
  have hkl := Jbn p.body k
  have hkind := Jcl m p k hE hk
  have hend := Ja9 p.body k hp
  have hkids := Ja1 p.body k hp
  have ea : ∀ o : HO, Jaz 54 [iD 0, iD 0] [o] = some (.hp 1 0, [o, .cells 54 2 [iD 0, iD 0]]) := fun o => rfl
  have es : ∀ o : HO, setH 2 (.hp 1 0) (.agg (Jax p.body[k])) [o, .cells 54 2 [iD 0, iD 0]] = some (.v undef, [o, .cells 54 2 [iD p.body[k].1, iD p.body[k].2]]) := fun o => rfl
  have ep : D.agg [iD p.params, Jag p.vars, Jaf p.body] = Jak p := rfl
  have hkid : ∀ j ∈ Jab p.body k, 0 <= j /\ j.toNat < p.body.length := fun j hj => by
    obtain ⟨c, hc, e⟩ := List.getElem_of_mem hj
    have := Jbc p.body k c hc
    rw [e] at this
    exact ⟨by omega, this.2.2.2⟩
  have hall := Jda m p (Jab p.body k) hp (by omega) hm hkm
  have hblk := Jbf p (Jab p.body k) (by omega) hkid
  have hloop := Jcm m p (.cells 54 2 [iD p.body[k].1, iD p.body[k].2]) (Jab p.body k) hp hm hkl hkm ((Jab p.body k).length + 1) (by omega)
  have hti : ∀ t, p.body[k].1 = t -> inner p.body[k].1 = inner t := fun t e => by rw [e]
  rw [htg] at *
  generalize hnn : p.body[k].2 = nn at *
  have a1 : ∀ (o1 o2 : HO) (a : Int), Jae (Jbi m) [Jak p, Jag (Jab p.body k), .hs 2 1] [o1, o2, .cells 3 1 [iD a]] = some (bD (allV m p (Jab p.body k) [a]), [o1, o2, .cells 3 1 [iD a]]) := fun o1 o2 a => hall _ 2 3 [a] rfl
  have a2 : ∀ (o1 o2 : HO) (a b : Int), Jae (Jbi m) [Jak p, Jag (Jab p.body k), .hs 2 2] [o1, o2, .cells 3 1 [iD a, iD b]] = some (bD (allV m p (Jab p.body k) [a, b]), [o1, o2, .cells 3 1 [iD a, iD b]]) := fun o1 o2 a b => hall _ 2 3 [a, b] rfl
  have a3 : ∀ (o1 o2 : HO) (a b c : Int), Jae (Jbi m) [Jak p, Jag (Jab p.body k), .hs 2 3] [o1, o2, .cells 3 1 [iD a, iD b, iD c]] = some (bD (allV m p (Jab p.body k) [a, b, c]), [o1, o2, .cells 3 1 [iD a, iD b, iD c]]) := fun o1 o2 a b c => hall _ 2 3 [a, b, c] rfl
  · skip
    have hq := hkind (.plain [0, 0] 0) rfl
    cases hv : allV m p (Jab p.body k) [0, 0] <;> exact ⟨_, by simp [Jav _ _ hk, hend, hE', ea, es, hkids, ep, Ja4, Ja8, Ja5, row1, row2, row3, a1, a2, a3, hblk, hq, Jau, askV, inner, hv]; rfl⟩
theorem Qgo (m : Nat) (p : Pg) (k : Nat) (hp : p.body.length <= 3000000) (hm : 0 < m) (hE : 0 <= endv p.body k) (hk : k < p.body.length) (hkm : ∀ j ∈ Jab p.body k, p.body.length < j.toNat + m) (htg : p.body[k].1 = 9) : ∃ H, Jap Tryz.prog (T09f m) Jam ((Jab p.body k).length + 1) Tryz.f59 [Jak p, iD k] [] = some (iD (Jcp (m + 1) p.vars p.body k), H) := by
  rw [Jao]
  have hE' : ¬ endv p.body k < 0 := by omega
  have har : 0 <= ar p.body[k] := by have := Jck p.body k hE; rwa [Jb1 _ _ hk] at this
  have hcount := Jbq p.body k hE hk
  rw [show p.body[k] = (p.body[k].1, p.body[k].2) from rfl] at har hcount
  have hkl := Jbn p.body k
  have hkind := Jcl m p k hE hk
  have hend := Ja9 p.body k hp
  have hkids := Ja1 p.body k hp
  have ea : ∀ o : HO, Jaz 54 [iD 0, iD 0] [o] = some (.hp 1 0, [o, .cells 54 2 [iD 0, iD 0]]) := fun o => rfl
  have es : ∀ o : HO, setH 2 (.hp 1 0) (.agg (Jax p.body[k])) [o, .cells 54 2 [iD 0, iD 0]] = some (.v undef, [o, .cells 54 2 [iD p.body[k].1, iD p.body[k].2]]) := fun o => rfl
  have ep : D.agg [iD p.params, Jag p.vars, Jaf p.body] = Jak p := rfl
  have hkid : ∀ j ∈ Jab p.body k, 0 <= j /\ j.toNat < p.body.length := fun j hj => by
    obtain ⟨c, hc, e⟩ := List.getElem_of_mem hj
    have := Jbc p.body k c hc
    rw [e] at this
    exact ⟨by omega, this.2.2.2⟩
  have hall := Jda m p (Jab p.body k) hp (by omega) hm hkm
  have hblk := Jbf p (Jab p.body k) (by omega) hkid
  have hloop := Jcm m p (.cells 54 2 [iD p.body[k].1, iD p.body[k].2]) (Jab p.body k) hp hm hkl hkm ((Jab p.body k).length + 1) (by omega)
  have hti : ∀ t, p.body[k].1 = t -> inner p.body[k].1 = inner t := fun t e => by rw [e]
  rw [htg] at *
  generalize hnn : p.body[k].2 = nn at *
  have a1 : ∀ (o1 o2 : HO) (a : Int), Jae (Jbi m) [Jak p, Jag (Jab p.body k), .hs 2 1] [o1, o2, .cells 3 1 [iD a]] = some (bD (allV m p (Jab p.body k) [a]), [o1, o2, .cells 3 1 [iD a]]) := fun o1 o2 a => hall _ 2 3 [a] rfl
  have a2 : ∀ (o1 o2 : HO) (a b : Int), Jae (Jbi m) [Jak p, Jag (Jab p.body k), .hs 2 2] [o1, o2, .cells 3 1 [iD a, iD b]] = some (bD (allV m p (Jab p.body k) [a, b]), [o1, o2, .cells 3 1 [iD a, iD b]]) := fun o1 o2 a b => hall _ 2 3 [a, b] rfl
  have a3 : ∀ (o1 o2 : HO) (a b c : Int), Jae (Jbi m) [Jak p, Jag (Jab p.body k), .hs 2 3] [o1, o2, .cells 3 1 [iD a, iD b, iD c]] = some (bD (allV m p (Jab p.body k) [a, b, c]), [o1, o2, .cells 3 1 [iD a, iD b, iD c]]) := fun o1 o2 a b c => hall _ 2 3 [a, b, c] rfl
  · skip
    have hq := hkind (.plain [0, 0] 0) rfl
    cases hv : allV m p (Jab p.body k) [0, 0] <;> exact ⟨_, by simp [Jav _ _ hk, hend, hE', ea, es, hkids, ep, Ja4, Ja8, Ja5, row1, row2, row3, a1, a2, a3, hblk, hq, Jau, askV, inner, hv]; rfl⟩
theorem Qcn (m : Nat) (p : Pg) (k : Nat) (hp : p.body.length <= 3000000) (hm : 0 < m) (hE : 0 <= endv p.body k) (hk : k < p.body.length) (hkm : ∀ j ∈ Jab p.body k, p.body.length < j.toNat + m) (htg : p.body[k].1 = 10) : ∃ H, Jap Tryz.prog (T09f m) Jam ((Jab p.body k).length + 1) Tryz.f59 [Jak p, iD k] [] = some (iD (Jcp (m + 1) p.vars p.body k), H) := by
  rw [Jao]
  have hE' : ¬ endv p.body k < 0 := by omega
  have har : 0 <= ar p.body[k] := by have := Jck p.body k hE; rwa [Jb1 _ _ hk] at this
  have hcount := Jbq p.body k hE hk
  rw [show p.body[k] = (p.body[k].1, p.body[k].2) from rfl] at har hcount
  have hkl := Jbn p.body k
  have hkind := Jcl m p k hE hk
  have hend := Ja9 p.body k hp
  have hkids := Ja1 p.body k hp
  have ea : ∀ o : HO, Jaz 54 [iD 0, iD 0] [o] = some (.hp 1 0, [o, .cells 54 2 [iD 0, iD 0]]) := fun o => rfl
  have es : ∀ o : HO, setH 2 (.hp 1 0) (.agg (Jax p.body[k])) [o, .cells 54 2 [iD 0, iD 0]] = some (.v undef, [o, .cells 54 2 [iD p.body[k].1, iD p.body[k].2]]) := fun o => rfl
  have ep : D.agg [iD p.params, Jag p.vars, Jaf p.body] = Jak p := rfl
  have hkid : ∀ j ∈ Jab p.body k, 0 <= j /\ j.toNat < p.body.length := fun j hj => by
    obtain ⟨c, hc, e⟩ := List.getElem_of_mem hj
    have := Jbc p.body k c hc
    rw [e] at this
    exact ⟨by omega, this.2.2.2⟩
  have hall := Jda m p (Jab p.body k) hp (by omega) hm hkm
  have hblk := Jbf p (Jab p.body k) (by omega) hkid
  have hloop := Jcm m p (.cells 54 2 [iD p.body[k].1, iD p.body[k].2]) (Jab p.body k) hp hm hkl hkm ((Jab p.body k).length + 1) (by omega)
  have hti : ∀ t, p.body[k].1 = t -> inner p.body[k].1 = inner t := fun t e => by rw [e]
  rw [htg] at *
  generalize hnn : p.body[k].2 = nn at *
  have a1 : ∀ (o1 o2 : HO) (a : Int), Jae (Jbi m) [Jak p, Jag (Jab p.body k), .hs 2 1] [o1, o2, .cells 3 1 [iD a]] = some (bD (allV m p (Jab p.body k) [a]), [o1, o2, .cells 3 1 [iD a]]) := fun o1 o2 a => hall _ 2 3 [a] rfl
  have a2 : ∀ (o1 o2 : HO) (a b : Int), Jae (Jbi m) [Jak p, Jag (Jab p.body k), .hs 2 2] [o1, o2, .cells 3 1 [iD a, iD b]] = some (bD (allV m p (Jab p.body k) [a, b]), [o1, o2, .cells 3 1 [iD a, iD b]]) := fun o1 o2 a b => hall _ 2 3 [a, b] rfl
  have a3 : ∀ (o1 o2 : HO) (a b c : Int), Jae (Jbi m) [Jak p, Jag (Jab p.body k), .hs 2 3] [o1, o2, .cells 3 1 [iD a, iD b, iD c]] = some (bD (allV m p (Jab p.body k) [a, b, c]), [o1, o2, .cells 3 1 [iD a, iD b, iD c]]) := fun o1 o2 a b c => hall _ 2 3 [a, b, c] rfl
  · skip
    have hq := hkind (.plain [0, 0] 0) rfl
    cases hv : allV m p (Jab p.body k) [0, 0] <;> exact ⟨_, by simp [Jav _ _ hk, hend, hE', ea, es, hkids, ep, Ja4, Ja8, Ja5, row1, row2, row3, a1, a2, a3, hblk, hq, Jau, askV, inner, hv]; rfl⟩
theorem Qcm (m : Nat) (p : Pg) (k : Nat) (hp : p.body.length <= 3000000) (hm : 0 < m) (hE : 0 <= endv p.body k) (hk : k < p.body.length) (hkm : ∀ j ∈ Jab p.body k, p.body.length < j.toNat + m) (htg : p.body[k].1 = 11) : ∃ H, Jap Tryz.prog (T09f m) Jam ((Jab p.body k).length + 1) Tryz.f59 [Jak p, iD k] [] = some (iD (Jcp (m + 1) p.vars p.body k), H) := by
  rw [Jao]
  have hE' : ¬ endv p.body k < 0 := by omega
  have har : 0 <= ar p.body[k] := by have := Jck p.body k hE; rwa [Jb1 _ _ hk] at this
  have hcount := Jbq p.body k hE hk
  rw [show p.body[k] = (p.body[k].1, p.body[k].2) from rfl] at har hcount
  have hkl := Jbn p.body k
  have hkind := Jcl m p k hE hk
  have hend := Ja9 p.body k hp
  have hkids := Ja1 p.body k hp
  have ea : ∀ o : HO, Jaz 54 [iD 0, iD 0] [o] = some (.hp 1 0, [o, .cells 54 2 [iD 0, iD 0]]) := fun o => rfl
  have es : ∀ o : HO, setH 2 (.hp 1 0) (.agg (Jax p.body[k])) [o, .cells 54 2 [iD 0, iD 0]] = some (.v undef, [o, .cells 54 2 [iD p.body[k].1, iD p.body[k].2]]) := fun o => rfl
  have ep : D.agg [iD p.params, Jag p.vars, Jaf p.body] = Jak p := rfl
  have hkid : ∀ j ∈ Jab p.body k, 0 <= j /\ j.toNat < p.body.length := fun j hj => by
    obtain ⟨c, hc, e⟩ := List.getElem_of_mem hj
    have := Jbc p.body k c hc
    rw [e] at this
    exact ⟨by omega, this.2.2.2⟩
  have hall := Jda m p (Jab p.body k) hp (by omega) hm hkm
  have hblk := Jbf p (Jab p.body k) (by omega) hkid
  have hloop := Jcm m p (.cells 54 2 [iD p.body[k].1, iD p.body[k].2]) (Jab p.body k) hp hm hkl hkm ((Jab p.body k).length + 1) (by omega)
  have hti : ∀ t, p.body[k].1 = t -> inner p.body[k].1 = inner t := fun t e => by rw [e]
  rw [htg] at *
  generalize hnn : p.body[k].2 = nn at *
  have a1 : ∀ (o1 o2 : HO) (a : Int), Jae (Jbi m) [Jak p, Jag (Jab p.body k), .hs 2 1] [o1, o2, .cells 3 1 [iD a]] = some (bD (allV m p (Jab p.body k) [a]), [o1, o2, .cells 3 1 [iD a]]) := fun o1 o2 a => hall _ 2 3 [a] rfl
  have a2 : ∀ (o1 o2 : HO) (a b : Int), Jae (Jbi m) [Jak p, Jag (Jab p.body k), .hs 2 2] [o1, o2, .cells 3 1 [iD a, iD b]] = some (bD (allV m p (Jab p.body k) [a, b]), [o1, o2, .cells 3 1 [iD a, iD b]]) := fun o1 o2 a b => hall _ 2 3 [a, b] rfl
  have a3 : ∀ (o1 o2 : HO) (a b c : Int), Jae (Jbi m) [Jak p, Jag (Jab p.body k), .hs 2 3] [o1, o2, .cells 3 1 [iD a, iD b, iD c]] = some (bD (allV m p (Jab p.body k) [a, b, c]), [o1, o2, .cells 3 1 [iD a, iD b, iD c]]) := fun o1 o2 a b c => hall _ 2 3 [a, b, c] rfl
  · skip
    have hq := hkind (.plain [0, 0] 0) rfl
    cases hv : allV m p (Jab p.body k) [0, 0] <;> exact ⟨_, by simp [Jav _ _ hk, hend, hE', ea, es, hkids, ep, Ja4, Ja8, Ja5, row1, row2, row3, a1, a2, a3, hblk, hq, Jau, askV, inner, hv]; rfl⟩
theorem Qcl (m : Nat) (p : Pg) (k : Nat) (hp : p.body.length <= 3000000) (hm : 0 < m) (hE : 0 <= endv p.body k) (hk : k < p.body.length) (hkm : ∀ j ∈ Jab p.body k, p.body.length < j.toNat + m) (htg : p.body[k].1 = 12) : ∃ H, Jap Tryz.prog (T09f m) Jam ((Jab p.body k).length + 1) Tryz.f59 [Jak p, iD k] [] = some (iD (Jcp (m + 1) p.vars p.body k), H) := by
  rw [Jao]
  have hE' : ¬ endv p.body k < 0 := by omega
  have har : 0 <= ar p.body[k] := by have := Jck p.body k hE; rwa [Jb1 _ _ hk] at this
  have hcount := Jbq p.body k hE hk
  rw [show p.body[k] = (p.body[k].1, p.body[k].2) from rfl] at har hcount
  have hkl := Jbn p.body k
  have hkind := Jcl m p k hE hk
  have hend := Ja9 p.body k hp
  have hkids := Ja1 p.body k hp
  have ea : ∀ o : HO, Jaz 54 [iD 0, iD 0] [o] = some (.hp 1 0, [o, .cells 54 2 [iD 0, iD 0]]) := fun o => rfl
  have es : ∀ o : HO, setH 2 (.hp 1 0) (.agg (Jax p.body[k])) [o, .cells 54 2 [iD 0, iD 0]] = some (.v undef, [o, .cells 54 2 [iD p.body[k].1, iD p.body[k].2]]) := fun o => rfl
  have ep : D.agg [iD p.params, Jag p.vars, Jaf p.body] = Jak p := rfl
  have hkid : ∀ j ∈ Jab p.body k, 0 <= j /\ j.toNat < p.body.length := fun j hj => by
    obtain ⟨c, hc, e⟩ := List.getElem_of_mem hj
    have := Jbc p.body k c hc
    rw [e] at this
    exact ⟨by omega, this.2.2.2⟩
  have hall := Jda m p (Jab p.body k) hp (by omega) hm hkm
  have hblk := Jbf p (Jab p.body k) (by omega) hkid
  have hloop := Jcm m p (.cells 54 2 [iD p.body[k].1, iD p.body[k].2]) (Jab p.body k) hp hm hkl hkm ((Jab p.body k).length + 1) (by omega)
  have hti : ∀ t, p.body[k].1 = t -> inner p.body[k].1 = inner t := fun t e => by rw [e]
  rw [htg] at *
  generalize hnn : p.body[k].2 = nn at *
  have a1 : ∀ (o1 o2 : HO) (a : Int), Jae (Jbi m) [Jak p, Jag (Jab p.body k), .hs 2 1] [o1, o2, .cells 3 1 [iD a]] = some (bD (allV m p (Jab p.body k) [a]), [o1, o2, .cells 3 1 [iD a]]) := fun o1 o2 a => hall _ 2 3 [a] rfl
  have a2 : ∀ (o1 o2 : HO) (a b : Int), Jae (Jbi m) [Jak p, Jag (Jab p.body k), .hs 2 2] [o1, o2, .cells 3 1 [iD a, iD b]] = some (bD (allV m p (Jab p.body k) [a, b]), [o1, o2, .cells 3 1 [iD a, iD b]]) := fun o1 o2 a b => hall _ 2 3 [a, b] rfl
  have a3 : ∀ (o1 o2 : HO) (a b c : Int), Jae (Jbi m) [Jak p, Jag (Jab p.body k), .hs 2 3] [o1, o2, .cells 3 1 [iD a, iD b, iD c]] = some (bD (allV m p (Jab p.body k) [a, b, c]), [o1, o2, .cells 3 1 [iD a, iD b, iD c]]) := fun o1 o2 a b c => hall _ 2 3 [a, b, c] rfl
  · skip
    have hq := hkind (.plain [0, 0] 1) rfl
    cases hv : allV m p (Jab p.body k) [0, 0] <;> exact ⟨_, by simp [Jav _ _ hk, hend, hE', ea, es, hkids, ep, Ja4, Ja8, Ja5, row1, row2, row3, a1, a2, a3, hblk, hq, Jau, askV, inner, hv]; rfl⟩
theorem Qck (m : Nat) (p : Pg) (k : Nat) (hp : p.body.length <= 3000000) (hm : 0 < m) (hE : 0 <= endv p.body k) (hk : k < p.body.length) (hkm : ∀ j ∈ Jab p.body k, p.body.length < j.toNat + m) (htg : p.body[k].1 = 13) : ∃ H, Jap Tryz.prog (T09f m) Jam ((Jab p.body k).length + 1) Tryz.f59 [Jak p, iD k] [] = some (iD (Jcp (m + 1) p.vars p.body k), H) := by
  rw [Jao]
  have hE' : ¬ endv p.body k < 0 := by omega
  have har : 0 <= ar p.body[k] := by have := Jck p.body k hE; rwa [Jb1 _ _ hk] at this
  have hcount := Jbq p.body k hE hk
  rw [show p.body[k] = (p.body[k].1, p.body[k].2) from rfl] at har hcount
  have hkl := Jbn p.body k
  have hkind := Jcl m p k hE hk
  have hend := Ja9 p.body k hp
  have hkids := Ja1 p.body k hp
  have ea : ∀ o : HO, Jaz 54 [iD 0, iD 0] [o] = some (.hp 1 0, [o, .cells 54 2 [iD 0, iD 0]]) := fun o => rfl
  have es : ∀ o : HO, setH 2 (.hp 1 0) (.agg (Jax p.body[k])) [o, .cells 54 2 [iD 0, iD 0]] = some (.v undef, [o, .cells 54 2 [iD p.body[k].1, iD p.body[k].2]]) := fun o => rfl
  have ep : D.agg [iD p.params, Jag p.vars, Jaf p.body] = Jak p := rfl
  have hkid : ∀ j ∈ Jab p.body k, 0 <= j /\ j.toNat < p.body.length := fun j hj => by
    obtain ⟨c, hc, e⟩ := List.getElem_of_mem hj
    have := Jbc p.body k c hc
    rw [e] at this
    exact ⟨by omega, this.2.2.2⟩
  have hall := Jda m p (Jab p.body k) hp (by omega) hm hkm
  have hblk := Jbf p (Jab p.body k) (by omega) hkid
  have hloop := Jcm m p (.cells 54 2 [iD p.body[k].1, iD p.body[k].2]) (Jab p.body k) hp hm hkl hkm ((Jab p.body k).length + 1) (by omega)
  have hti : ∀ t, p.body[k].1 = t -> inner p.body[k].1 = inner t := fun t e => by rw [e]
  rw [htg] at *
  generalize hnn : p.body[k].2 = nn at *
  have a1 : ∀ (o1 o2 : HO) (a : Int), Jae (Jbi m) [Jak p, Jag (Jab p.body k), .hs 2 1] [o1, o2, .cells 3 1 [iD a]] = some (bD (allV m p (Jab p.body k) [a]), [o1, o2, .cells 3 1 [iD a]]) := fun o1 o2 a => hall _ 2 3 [a] rfl
  have a2 : ∀ (o1 o2 : HO) (a b : Int), Jae (Jbi m) [Jak p, Jag (Jab p.body k), .hs 2 2] [o1, o2, .cells 3 1 [iD a, iD b]] = some (bD (allV m p (Jab p.body k) [a, b]), [o1, o2, .cells 3 1 [iD a, iD b]]) := fun o1 o2 a b => hall _ 2 3 [a, b] rfl
  have a3 : ∀ (o1 o2 : HO) (a b c : Int), Jae (Jbi m) [Jak p, Jag (Jab p.body k), .hs 2 3] [o1, o2, .cells 3 1 [iD a, iD b, iD c]] = some (bD (allV m p (Jab p.body k) [a, b, c]), [o1, o2, .cells 3 1 [iD a, iD b, iD c]]) := fun o1 o2 a b c => hall _ 2 3 [a, b, c] rfl
  · skip
    have hq := hkind (.plain [0, 0] 1) rfl
    cases hv : allV m p (Jab p.body k) [0, 0] <;> exact ⟨_, by simp [Jav _ _ hk, hend, hE', ea, es, hkids, ep, Ja4, Ja8, Ja5, row1, row2, row3, a1, a2, a3, hblk, hq, Jau, askV, inner, hv]; rfl⟩
theorem Qcj (m : Nat) (p : Pg) (k : Nat) (hp : p.body.length <= 3000000) (hm : 0 < m) (hE : 0 <= endv p.body k) (hk : k < p.body.length) (hkm : ∀ j ∈ Jab p.body k, p.body.length < j.toNat + m) (htg : p.body[k].1 = 14) : ∃ H, Jap Tryz.prog (T09f m) Jam ((Jab p.body k).length + 1) Tryz.f59 [Jak p, iD k] [] = some (iD (Jcp (m + 1) p.vars p.body k), H) := by
  rw [Jao]
  have hE' : ¬ endv p.body k < 0 := by omega
  have har : 0 <= ar p.body[k] := by have := Jck p.body k hE; rwa [Jb1 _ _ hk] at this
  have hcount := Jbq p.body k hE hk
  rw [show p.body[k] = (p.body[k].1, p.body[k].2) from rfl] at har hcount
  have hkl := Jbn p.body k
  have hkind := Jcl m p k hE hk
  have hend := Ja9 p.body k hp
  have hkids := Ja1 p.body k hp
  have ea : ∀ o : HO, Jaz 54 [iD 0, iD 0] [o] = some (.hp 1 0, [o, .cells 54 2 [iD 0, iD 0]]) := fun o => rfl
  have es : ∀ o : HO, setH 2 (.hp 1 0) (.agg (Jax p.body[k])) [o, .cells 54 2 [iD 0, iD 0]] = some (.v undef, [o, .cells 54 2 [iD p.body[k].1, iD p.body[k].2]]) := fun o => rfl
  have ep : D.agg [iD p.params, Jag p.vars, Jaf p.body] = Jak p := rfl
  have hkid : ∀ j ∈ Jab p.body k, 0 <= j /\ j.toNat < p.body.length := fun j hj => by
    obtain ⟨c, hc, e⟩ := List.getElem_of_mem hj
    have := Jbc p.body k c hc
    rw [e] at this
    exact ⟨by omega, this.2.2.2⟩
  have hall := Jda m p (Jab p.body k) hp (by omega) hm hkm
  have hblk := Jbf p (Jab p.body k) (by omega) hkid
  have hloop := Jcm m p (.cells 54 2 [iD p.body[k].1, iD p.body[k].2]) (Jab p.body k) hp hm hkl hkm ((Jab p.body k).length + 1) (by omega)
  have hti : ∀ t, p.body[k].1 = t -> inner p.body[k].1 = inner t := fun t e => by rw [e]
  rw [htg] at *
  generalize hnn : p.body[k].2 = nn at *
  have a1 : ∀ (o1 o2 : HO) (a : Int), Jae (Jbi m) [Jak p, Jag (Jab p.body k), .hs 2 1] [o1, o2, .cells 3 1 [iD a]] = some (bD (allV m p (Jab p.body k) [a]), [o1, o2, .cells 3 1 [iD a]]) := fun o1 o2 a => hall _ 2 3 [a] rfl
  have a2 : ∀ (o1 o2 : HO) (a b : Int), Jae (Jbi m) [Jak p, Jag (Jab p.body k), .hs 2 2] [o1, o2, .cells 3 1 [iD a, iD b]] = some (bD (allV m p (Jab p.body k) [a, b]), [o1, o2, .cells 3 1 [iD a, iD b]]) := fun o1 o2 a b => hall _ 2 3 [a, b] rfl
  have a3 : ∀ (o1 o2 : HO) (a b c : Int), Jae (Jbi m) [Jak p, Jag (Jab p.body k), .hs 2 3] [o1, o2, .cells 3 1 [iD a, iD b, iD c]] = some (bD (allV m p (Jab p.body k) [a, b, c]), [o1, o2, .cells 3 1 [iD a, iD b, iD c]]) := fun o1 o2 a b c => hall _ 2 3 [a, b, c] rfl
  · skip
    have hq := hkind (.plain [0, 0] 1) rfl
    cases hv : allV m p (Jab p.body k) [0, 0] <;> exact ⟨_, by simp [Jav _ _ hk, hend, hE', ea, es, hkids, ep, Ja4, Ja8, Ja5, row1, row2, row3, a1, a2, a3, hblk, hq, Jau, askV, inner, hv]; rfl⟩
end Go.Proofs.YtinnbafplhcnpaaGreat
end
