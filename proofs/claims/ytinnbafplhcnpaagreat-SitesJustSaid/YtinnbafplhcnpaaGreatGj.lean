/-
  Parts joined into one text: CmpD, PathLaw, ApplyV, Neg, T12c, Sh12c, T12d, Sh12d, T12e, Sh12e, T12f, Sh13a, SortV, Cat, DedV, T13a, Sh13b, T13b, Sh13c. No condition.
-/
import Derived.WalkSpells
import Derived.Lib.SliceRun
import Derived.Test.YtinnbafplhcnpaaGreatGf
import Derived.Test.YtinnbafplhcnpaaGreatGi

section
namespace Go.Proofs.YtinnbafplhcnpaaGreat
open Go.RowKit
set_option linter.unusedVariables false
set_option linter.unusedSimpArgs false

theorem cmpI_zero (x y : Int) : cmpI x y = 0 ↔ x = y := by
  unfold cmpI
  split
  · omega
  · split <;> omega
theorem cmpI_swap (x y : Int) : cmpI y x = - cmpI x y := by
  unfold cmpI
  rcases Int.lt_trichotomy x y with h | h | h
  · rw [if_pos h, if_neg (by omega), if_pos h]; rfl
  · rw [if_neg (by omega), if_neg (by omega), if_neg (by omega), if_neg (by omega)]; rfl
  · rw [if_pos h, if_neg (by omega), if_pos h]
theorem cmpI_lt (x y : Int) : cmpI x y < 0 ↔ x < y := by
  unfold cmpI
  split
  · omega
  · split <;> omega
theorem cmpI_gt (x y : Int) : 0 < cmpI x y ↔ y < x := by
  unfold cmpI
  split
  · omega
  · split <;> omega
/-- How two deltas stand. -/
def cmpDl (a b : Dl) : Int := if cmpL a.path b.path ≠ 0 then cmpL a.path b.path else if cmpI a.op b.op ≠ 0 then cmpI a.op b.op else cmpI a.n b.n
theorem cmpDl_zero (a b : Dl) : cmpDl a b = 0 ↔ a = b := by
  unfold cmpDl
  have h1 := cmpL_zero a.path b.path
  have h2 := cmpI_zero a.op b.op
  have h3 := cmpI_zero a.n b.n
  obtain ⟨p, o, n⟩ := a
  obtain ⟨q, u, m⟩ := b
  simp only [Dl.mk.injEq] at *
  split
  · rename_i h; exact ⟨fun e => absurd e h, fun e => absurd (h1.2 e.1) h⟩
  · rename_i h
    have h := Classical.not_not.1 h
    split
    · rename_i h'; exact ⟨fun e => absurd e h', fun e => absurd (h2.2 e.2.1) h'⟩
    · rename_i h'
      have h' := Classical.not_not.1 h'
      exact ⟨fun e => ⟨h1.1 h, h2.1 h', h3.1 e⟩, fun e => h3.2 e.2.2⟩
theorem cmpDl_swap (a b : Dl) : cmpDl b a = - cmpDl a b := by
  unfold cmpDl
  rw [cmpL_swap a.path b.path, cmpI_swap a.op b.op, cmpI_swap a.n b.n]
  generalize cmpL a.path b.path = x
  generalize cmpI a.op b.op = y
  generalize cmpI a.n b.n = z
  by_cases h : x = 0
  · subst h
    by_cases h' : y = 0
    · subst h'; simp
    · simp [h']
  · simp [h]
theorem cmpDl_trans (a b c : Dl) (h1 : cmpDl a b ≤ 0) (h2 : cmpDl b c ≤ 0) : cmpDl a c ≤ 0 := by
  have t1 := cmpL_trans a.path b.path c.path
  have t2 := cmpL_trans c.path a.path b.path
  have t3 := cmpL_trans b.path c.path a.path
  have s1 := cmpL_swap a.path b.path
  have s2 := cmpL_swap b.path c.path
  have s3 := cmpL_swap a.path c.path
  have z1 := cmpL_zero a.path b.path
  have z2 := cmpL_zero b.path c.path
  have z3 := cmpL_zero a.path c.path
  have i1 := cmpI_lt a.op b.op
  have i2 := cmpI_lt b.op c.op
  have i3 := cmpI_lt a.op c.op
  have j1 := cmpI_gt a.op b.op
  have j2 := cmpI_gt b.op c.op
  have j3 := cmpI_gt a.op c.op
  have k1 := cmpI_lt a.n b.n
  have k2 := cmpI_lt b.n c.n
  have k3 := cmpI_gt a.n c.n
  have k4 := cmpI_gt a.n b.n
  have k5 := cmpI_gt b.n c.n
  unfold cmpDl at *
  by_cases e3 : cmpL a.path c.path = 0
  · rw [if_neg (by omega)]
    have e := z3.1 e3
    rw [e] at h1 t2 s1
    rw [← e] at h2
    by_cases e1 : cmpL a.path b.path = 0
    · have e2 : cmpL b.path c.path = 0 := by rw [z2, ← z1.1 e1]; exact e
      rw [← e, if_neg (by omega)] at h1
      rw [e, if_neg (by omega)] at h2
      split at h1 <;> split at h2 <;> split <;> omega
    · exfalso
      rw [← e, if_pos e1] at h1
      have : cmpL b.path a.path ≠ 0 := by rw [e]; intro h; apply e1; rw [z1, e]; exact (z2.1 h).symm
      rw [if_pos this] at h2
      rw [e] at this h1 h2
      omega
  · rw [if_pos e3]
    apply t1
    · split at h1 <;> omega
    · split at h2 <;> omega
theorem cmpDl_lt_trans (a b c : Dl) (h1 : cmpDl a b < 0) (h2 : cmpDl b c < 0) : cmpDl a c < 0 := by
  have h := cmpDl_trans a b c (by omega) (by omega)
  rcases Int.lt_or_eq_of_le h with h | h
  · exact h
  · rw [cmpDl_zero] at h
    subst h
    rw [cmpDl_swap] at h2
    omega
theorem cmpDl_path {a b : Dl} (h : cmpL a.path b.path < 0) : cmpDl a b < 0 := by
  unfold cmpDl
  rw [if_pos (by omega)]
  exact h
end Go.Proofs.YtinnbafplhcnpaaGreat
end

section
namespace Go.Proofs.YtinnbafplhcnpaaGreat

/-- The numbers from a on, ahead of b. -/
def seg (a b : Int) : List Int := (List.range (b - a).toNat).map (fun j : Nat => a + (j : Int))
theorem seg_self (a : Int) : seg a a = [] := by simp [seg]
theorem mem_seg (a b x : Int) : x ∈ seg a b ↔ a ≤ x ∧ x < b := by
  simp only [seg, List.mem_map, List.mem_range]
  constructor
  · rintro ⟨j, hj, rfl⟩; omega
  · rintro ⟨h1, h2⟩; exact ⟨(x - a).toNat, by omega, by omega⟩
theorem seg_append (a b c : Int) (h1 : a ≤ b) (h2 : b ≤ c) : seg a b ++ seg b c = seg a c := by
  unfold seg
  rw [show (c - a).toNat = (b - a).toNat + (c - b).toNat from by omega, List.range_add, List.map_append, List.map_map]
  congr 1
  apply List.map_congr_left
  intro j _
  simp only [Function.comp]
  omega
theorem seg_cons (a b : Int) (h : a < b) : a :: seg (a + 1) b = seg a b := by
  rw [← seg_append a (a + 1) b (by omega) (by omega)]
  have : seg a (a + 1) = [a] := by
    unfold seg
    rw [show (a + 1 - a).toNat = 1 from by omega]
    simp
  rw [this]; rfl
theorem seg_sorted (a b : Int) : (seg a b).Pairwise (· < ·) := by
  unfold seg
  rw [List.pairwise_map]
  exact (List.pairwise_lt_range).imp (fun h => by omega)

theorem kidsv_get (l : List Nd) (k : Nat) (h : 0 ≤ endv l k) (c : Nat) (hc : c < (kidsv l k).length) : (kidsv l k)[c] = kth l (k + 1) c ∧ c < (arAt l k).toNat := by
  have e := kidsv_eq l k h
  have hl : (kidsv l k).length = (arAt l k).toNat := by rw [e, upto_length]
  refine ⟨?_, by omega⟩
  have : (kidsv l k)[c] = (upto (kth l (k + 1)) (arAt l k).toNat)[c]'(by rw [upto_length]; omega) := by
    congr 1
  rw [this]
  simp [upto]
theorem kidsv_length (l : List Nd) (k : Nat) (h : 0 ≤ endv l k) : (kidsv l k).length = (arAt l k).toNat := by rw [kidsv_eq l k h, upto_length]

/-- The nodes come in order. -/
theorem pathsV_places (l : List Nd) : ∀ (f : Nat) (i : Int) (own : List Int), 0 ≤ endv l i → (l.length : Int) < i + f → (pathsV f l i own).map (·.1) = seg i (endv l i)
  | 0, i, own, h, hf => by
    obtain ⟨h0, h1⟩ := endv_in l i h
    omega
  | f + 1, i, own, h, hf => by
    obtain ⟨h0, h1⟩ := endv_in l i h
    obtain ⟨k, rfl⟩ := Int.eq_ofNat_of_zero_le h0
    have key : ∀ c, c ≤ (kidsv l k).length → (pathsTo f l k own c).map (·.1) = seg (k + 1) (kth l (k + 1) c) := by
      intro c
      induction c with
      | zero => intro _; rw [pathsTo_zero]; show [] = seg _ (k + 1); rw [seg_self]
      | succ c ih =>
        intro hc
        have hc' : c < (kidsv l k).length := by omega
        obtain ⟨e, hca⟩ := kidsv_get l k h c hc'
        have hr := kth_range l k h c hca
        have he := kth_end l k h c hca
        rw [pathsTo_succ f l k own c hc', List.map_append, ih (by omega), e, pathsV_places l f _ _ hr.2.2.1 (by omega), he.2]
        exact seg_append _ _ _ (by have := kth_mono l k h 0 c (by omega); have h3 : kth l (k + 1) 0 = k + 1 := rfl; rw [Nat.zero_add] at this; omega) (by omega)
    rw [← pathsTo_all, List.map_cons, key _ (Nat.le_refl _), kidsv_length l k h, kth_last l k h]
    exact seg_cons _ _ (by have := endv_gt l k h; omega)

/-- Each path leads to its node. -/
theorem pathsV_down (l : List Nd) : ∀ (f : Nat) (i : Int) (own : List Int) (x : Int × List Int), x ∈ pathsV f l i own → ∃ q, x.2 = own ++ q ∧ downV l i q = x.1
  | 0, i, own, x, h => by
    obtain rfl : x = (i, own) := by simpa [pathsV] using h
    exact ⟨[], by simp, rfl⟩
  | f + 1, i, own, x, h => by
    rw [pathsV, List.mem_cons] at h
    rcases h with rfl | h
    · exact ⟨[], by simp, rfl⟩
    · obtain ⟨⟨y, c⟩, hy, hx⟩ := List.mem_flatMap.1 h
      rw [List.mem_zipIdx_iff_getElem?] at hy
      obtain ⟨hc, hyc⟩ := List.getElem?_eq_some_iff.1 hy
      obtain ⟨q, hq, hd⟩ := pathsV_down l f _ _ _ hx
      refine ⟨(c : Int) :: q, by rw [hq]; simp, ?_⟩
      rw [downV_in l i c q c rfl hc]
      simp only at hyc hd
      rw [hyc]; exact hd

/-- Where a path leads is one of the nodes. -/
theorem down_pathsV (l : List Nd) : ∀ (f : Nat) (q : List Int) (i : Int) (own : List Int), (l.length : Int) < i + f → 0 ≤ i → 0 ≤ downV l i q → (downV l i q, own ++ q) ∈ pathsV f l i own
  | f, [], i, own, _, _, _ => by
    rw [List.append_nil]
    show (i, own) ∈ _
    cases f with
    | zero => simp [pathsV]
    | succ f => rw [pathsV]; exact List.mem_cons_self ..
  | 0, n :: r, i, own, hf, hi, hd => by
    exfalso
    have : kidsv l i = [] := kidsv_no l i (by rcases endv_bound l i with h1 | h1; · omega
                                              · have := (endv_in l i h1).2; omega)
    rw [downV_out l i n r (by rw [this]; simp)] at hd
    omega
  | f + 1, n :: r, i, own, hf, hi, hd => by
    by_cases h : 0 ≤ n ∧ n.toNat < (kidsv l i).length
    · obtain ⟨j, rfl⟩ := Int.eq_ofNat_of_zero_le h.1
      have hj : j < (kidsv l i).length := by simpa using h.2
      have hk := kidsv_fact l i j hj
      rw [downV_in l i j r j rfl hj] at hd ⊢
      rw [pathsV, List.mem_cons]
      right
      refine List.mem_flatMap.2 ⟨((kidsv l i)[j], j), ?_, ?_⟩
      · rw [List.mem_zipIdx_iff_getElem?]; simp [hj]
      · have := down_pathsV l f r (kidsv l i)[j] (own ++ [(j : Int)]) (by omega) (by omega) hd
        rw [List.append_assoc] at this
        exact this
    · rw [downV_out l i n r h] at hd; omega

theorem downV_append (l : List Nd) : ∀ (p q : List Int) (i : Int), 0 ≤ i → 0 ≤ downV l i p → downV l i (p ++ q) = downV l (downV l i p) q
  | [], q, i, _, _ => rfl
  | n :: r, q, i, hi, hd => by
    by_cases h : 0 ≤ n ∧ n.toNat < (kidsv l i).length
    · obtain ⟨j, rfl⟩ := Int.eq_ofNat_of_zero_le h.1
      have hj : j < (kidsv l i).length := by simpa using h.2
      have hk := kidsv_fact l i j hj
      rw [List.cons_append, downV_in l i j _ j rfl hj] 
      rw [downV_in l i j _ j rfl hj] at hd ⊢
      exact downV_append l r q _ (by omega) hd
    · rw [downV_out l i n r h] at hd; omega
/-- Where a path leads from a node is below it. -/
theorem downV_range (l : List Nd) : ∀ (q : List Int) (i : Int), 0 ≤ endv l i → 0 ≤ downV l i q → i ≤ downV l i q ∧ downV l i q < endv l i ∧ 0 ≤ endv l (downV l i q)
  | [], i, h, _ => ⟨Int.le_refl _, endv_gt l i h, h⟩
  | n :: r, i, h, hd => by
    by_cases hn : 0 ≤ n ∧ n.toNat < (kidsv l i).length
    · obtain ⟨j, rfl⟩ := Int.eq_ofNat_of_zero_le hn.1
      have hj : j < (kidsv l i).length := by simpa using hn.2
      obtain ⟨h0, _⟩ := endv_in l i h
      obtain ⟨k, rfl⟩ := Int.eq_ofNat_of_zero_le h0
      obtain ⟨e, hja⟩ := kidsv_get l k h j hj
      have hr := kth_range l k h j hja
      rw [downV_in l k j r j rfl hj] at hd ⊢
      rw [e] at hd ⊢
      have := downV_range l r _ hr.2.2.1 hd
      omega
    · rw [downV_out l i n r hn] at hd; omega

theorem find_unique {L : List (Int × List Int)} (hL : (L.map (·.1)).Pairwise (· < ·)) {i : Int} {p : List Int} (h : (i, p) ∈ L) : L.find? (fun x => x.1 == i) = some (i, p) := by
  induction L with
  | nil => cases h
  | cons x r ih =>
    rw [List.map_cons, List.pairwise_cons] at hL
    rcases List.mem_cons.1 h with rfl | h
    · simp
    · have := hL.1 i (List.mem_map.2 ⟨_, h, rfl⟩)
      have hne : (x.1 == i) = false := by simp; omega
      rw [List.find?_cons, hne]
      exact ih hL.2 h

section whole
variable {l : List Nd} (hw : endv l 0 = l.length)
include hw
theorem ofv_iff (i : Int) (p : List Int) : ofv l i = some p ↔ (i, p) ∈ pathsV (l.length + 1) l 0 [] := by
  have hp := pathsV_places l (l.length + 1) 0 [] (by omega) (by omega)
  have hs : ((pathsV (l.length + 1) l 0 []).map (·.1)).Pairwise (· < ·) := by rw [hp]; exact seg_sorted _ _
  rw [ofv, if_pos hw]
  constructor
  · intro h
    obtain ⟨x, hx, rfl⟩ := Option.map_eq_some_iff.1 h
    have h1 := List.mem_of_find?_eq_some hx
    have h2 := List.find?_some hx
    have h3 : x.1 = i := by simpa using h2
    subst h3
    exact h1
  · intro h
    rw [find_unique hs h]; rfl
theorem ofv_down {i : Int} {p : List Int} (h : ofv l i = some p) : downV l 0 p = i := by
  obtain ⟨q, hq, hd⟩ := pathsV_down l _ _ _ _ ((ofv_iff hw i p).1 h)
  have : p = q := by simpa using hq
  rw [this]; exact hd
theorem down_ofv {i : Int} {p : List Int} (hi : 0 ≤ i) (h : downV l 0 p = i) : ofv l i = some p := by
  rw [ofv_iff hw]
  have := down_pathsV l (l.length + 1) p 0 [] (by omega) (by omega) (by omega)
  rwa [h, List.nil_append] at this
theorem ofv_some_iff (i : Int) : (ofv l i).isSome ↔ 0 ≤ i ∧ i < l.length := by
  have hp := pathsV_places l (l.length + 1) 0 [] (by omega) (by omega)
  rw [hw] at hp
  constructor
  · intro h
    obtain ⟨p, hp2⟩ := Option.isSome_iff_exists.1 h
    have hm := (ofv_iff hw i p).1 hp2
    have : i ∈ seg 0 l.length := by rw [← hp]; exact List.mem_map.2 ⟨_, hm, rfl⟩
    rw [mem_seg] at this
    omega
  · intro h
    have : i ∈ seg 0 l.length := by rw [mem_seg]; omega
    rw [← hp] at this
    obtain ⟨x, hx, rfl⟩ := List.mem_map.1 this
    rw [(ofv_iff hw x.1 x.2).2 hx]; rfl
/-- A kid's path. -/
theorem ofv_kid {i : Int} {p : List Int} (h : ofv l i = some p) (n : Nat) (hn : n < (kidsv l i).length) : ofv l (kidsv l i)[n] = some (p ++ [(n : Int)]) := by
  have hf := kidsv_fact l i n hn
  refine down_ofv hw (by omega) ?_
  have hd := ofv_down hw h
  rw [downV_append l p [(n : Int)] 0 (by omega) (by omega), hd, downV_in l i n [] n rfl hn]
  rfl
/-- Each node but the first one is a kid of one ahead of it. -/
theorem ofv_parent {i : Int} (h : 0 < i) (hi : i < l.length) : ∃ (j : Nat) (n : Nat), (j : Int) < i ∧ ∃ hn : n < (kidsv l j).length, (kidsv l j)[n] = i := by
  obtain ⟨p, hp⟩ := Option.isSome_iff_exists.1 ((ofv_some_iff hw i).2 ⟨by omega, hi⟩)
  have hd := ofv_down hw hp
  rcases List.eq_nil_or_concat p with rfl | ⟨q, n, rfl⟩
  · have : downV l 0 [] = 0 := rfl
    omega
  · have hd' : downV l 0 (q ++ [n]) = i := by simpa using hd
    have hq : 0 ≤ downV l 0 q := by
      rcases Int.lt_or_le (downV l 0 q) 0 with hlt | hle
      · exfalso
        have : ∀ (q : List Int) (k : Int), downV l k q < 0 → 0 ≤ k → downV l k (q ++ [n]) = -1 := by
          intro q
          induction q with
          | nil => intro k h1 h2; have : downV l k [] = k := rfl; omega
          | cons m r ih =>
            intro k h1 h2
            by_cases hm : 0 ≤ m ∧ m.toNat < (kidsv l k).length
            · obtain ⟨j, rfl⟩ := Int.eq_ofNat_of_zero_le hm.1
              have hj : j < (kidsv l k).length := by simpa using hm.2
              have hk := kidsv_fact l k j hj
              rw [List.cons_append, downV_in l k j _ j rfl hj]
              rw [downV_in l k j _ j rfl hj] at h1
              exact ih _ h1 (by omega)
            · rw [List.cons_append, downV_out l k m _ hm]
        have := this q 0 hlt (by omega)
        omega
      · exact hle
    rw [downV_append l q [n] 0 (by omega) hq] at hd'
    obtain ⟨j, hj⟩ := Int.eq_ofNat_of_zero_le hq
    rw [hj] at hd'
    by_cases hm : 0 ≤ n ∧ n.toNat < (kidsv l j).length
    · obtain ⟨c, rfl⟩ := Int.eq_ofNat_of_zero_le hm.1
      have hc : c < (kidsv l j).length := by simpa using hm.2
      have hk := kidsv_fact l j c hc
      rw [downV_in l j c [] c rfl hc] at hd'
      have hd2 : (kidsv l j)[c] = i := hd'
      exact ⟨j, c, by omega, hc, hd2⟩
    · rw [downV_out l j n [] hm] at hd'; omega
end whole

end Go.Proofs.YtinnbafplhcnpaaGreat
end

section
namespace Go.Proofs.YtinnbafplhcnpaaGreat
open Go.RowKit
set_option linter.unusedVariables false
set_option linter.unusedSimpArgs false

theorem nodeAt_get {l : List Nd} {k : Nat} {x : Nd} (h : l[k]? = some x) : nodeAt l k = x := by
  obtain ⟨hk, e⟩ := List.getElem?_eq_some_iff.1 h
  unfold nodeAt
  rw [Int.toNat_natCast, getD_in _ _ _ hk, e]
theorem nodeAt_in (l : List Nd) (k : Nat) (hk : k < l.length) : nodeAt l k = l[k] := nodeAt_get (List.getElem?_eq_getElem hk)
/-- A Return has one kid. -/
theorem ret_kid (l : List Nd) (k : Nat) (hE : 0 ≤ endv l k) (h : (nodeAt l k).1 = 25) : 0 ≤ endv l ((k + 1 : Nat) : Int) ∧ endv l ((k + 1 : Nat) : Int) = endv l k ∧ k + 1 < l.length := by
  obtain ⟨hk, h0, har⟩ := at_ar hE
  rw [nodeAt_in l k hk] at h
  have ha : arAt l k = 1 := by
    rw [har]
    generalize l[k] = x at *
    obtain ⟨t, m⟩ := x
    simp only at h h0
    subst h
    exact ar_ret h0
  obtain ⟨f1, f2, f3⟩ := first_kid hE (by omega)
  exact ⟨f1, kid_one hE ha, f3⟩
end Go.Proofs.YtinnbafplhcnpaaGreat
end

section
namespace Go.Proofs.YtinnbafplhcnpaaGreat
open Go.RowKit Go.Shelf
set_option linter.unusedVariables false
set_option linter.unusedSimpArgs false
attribute [local go_sem] Oper.semAt_some

end Go.Proofs.YtinnbafplhcnpaaGreat
end

section
namespace Go.Proofs.YtinnbafplhcnpaaGreat
open Go.RowKit
set_option linter.unusedVariables false
set_option linter.unusedSimpArgs false

theorem row_three (t : TypeId) (a b c : Int) (H : Heap) : rowH t 1 3 [iD 0] [(0, iD a), (1, iD b), (2, iD c)] H = some (.hs H.length 3, H ++ [.cells t 1 [iD a, iD b, iD c]]) := rfl
theorem cmpOr_row (o1 o2 : HO) (t : TypeId) (a b c : Int) : liftF F_cmpOr [.hs 2 3] [o1, o2, .cells t 1 [iD a, iD b, iD c]] = some (iD (orV [a, b, c]), [o1, o2, .cells t 1 [iD a, iD b, iD c]]) := by
  have hd : [D.hs 2 3].mapM (derefN [o1, o2, .cells t 1 [iD a, iD b, iD c]] 9) = some [intsD [a, b, c]] := rfl
  rw [liftF_obj _ _ _ _ rfl hd]
  have : F_cmpOr [intsD [a, b, c]] = _ := f1_enc (A := intsT) _ [a, b, c]
  rw [this, if_pos (by simp)]
  rfl
theorem orV_cmp (a b : Dl) : orV [cmpL a.path b.path, cmpI a.op b.op, cmpI a.n b.n] = cmpDl a b := by
  unfold cmpDl
  simp only [orV]
  split
  · rfl
  · split
    · rfl
    · split
      · rfl
      · rename_i h; exact (Decidable.not_not.1 h).symm
def F_DCompare : List D → Option D := F2 dlT dlT fun a b => if a.path.length ≤ 3000000 ∧ b.path.length ≤ 3000000 then some (iD (cmpDl a b)) else none
theorem C_DCompare : CallOk Tryz.prog 47 F_DCompare := call2 (kp := kp_delta_Compare) T12b_ok mixed Tryz.func47 (by kernel_rfl) (by decide) fun a b d h => by
  split at h
  case isFalse => cases h
  rename_i hl
  cases h
  refine ⟨0, _, ?_, Imp.refl _⟩
  show outD (textK _ _ _ _ _ [dlD a, dlD b] []) = _
  rw [sh_delta_Compare, ← orV_cmp]
  simp [compare_pure _ _ _ hl.1 hl.2, cmpI_pure, row_three, cmpOr_row]
theorem C_RefDCompare : CallOk Tryz.prog 34 F_DCompare := call2 (kp := kp_offshootref12_Compare) T12b_ok mixed Tryz.func34 (by kernel_rfl) (by decide) fun a b d h => by
  split at h
  case isFalse => cases h
  rename_i hl
  cases h
  refine ⟨0, _, ?_, Imp.refl _⟩
  show outD (textK _ _ _ _ _ [dlD a, dlD b] []) = _
  rw [sh_offshootref12_Compare]
  unfold cmpDl
  by_cases h1 : cmpL a.path b.path = 0
  · by_cases h2 : a.op = b.op
    · have h3 : cmpI a.op b.op = 0 := (cmpI_zero _ _).2 h2
      rw [h2] at h3
      simp [refCompare_pure _ _ _ hl.1 hl.2, less_pure, h1, h2, h3]
    · have h3 : ¬ cmpI a.op b.op = 0 := fun e => h2 ((cmpI_zero _ _).1 e)
      simp [refCompare_pure _ _ _ hl.1 hl.2, less_pure, h1, h2, h3]
  · simp [refCompare_pure _ _ _ hl.1 hl.2, less_pure, h1]

theorem refEnd12_pure (l : List Nd) (i : Int) (H : Heap) (hl : l.length ≤ 3000000) : liftF F_RefEnd [nodesD l, iD i] H = some (iD (endv l i), H) := by
  rw [liftF_pure _ _ _ rfl]; simp [F_RefEnd, hl]
/- May a node, and a number, be changed so? -/
def fs12c (P : Program) : List Entry := (47, true, liftF F_DCompare) :: (34, true, liftF F_DCompare) :: fs12b P
theorem fs12c_ok : ∀ p ∈ fs12c Tryz.prog, EntryOk Tryz.prog p := entries_cons (entry_lift C_DCompare) <| entries_cons (entry_lift C_RefDCompare) <| fs12b_ok
def T12c (P : Program) : Tab := ⟨fs12c P, noYl⟩
theorem T12c_ok : TabOk Tryz.prog (T12c Tryz.prog) := tabOk_of fs12c_ok
end Go.Proofs.YtinnbafplhcnpaaGreat
end

section
namespace Go.Proofs.YtinnbafplhcnpaaGreat
open Go.RowKit
set_option linter.unusedVariables false
set_option maxRecDepth 100000

def kp_delta_Same : List Nat := []
theorem sh_delta_Same (n : Nat) (x0 x1 : D) (h : Heap) : textK Tryz.prog (T12c Tryz.prog) kp_delta_Same n Tryz.f24 [x0, x1] h =
(thnH (boxH 34 x0 h) fun y0 h1 =>
thnH (boxH 34 x1 h1) fun y2 h3 =>
thn (loadH (some 3) h3 y0) fun y4 =>
thn (loadH (some 3) h3 y2) fun y5 =>
thnH (liftF F_DCompare [y4, y5] h3) fun y6 h7 =>
thn (binK .int .eql y6 (iD 0)) fun y8 =>
some (y8, h7)) := by kernel_rfl

def kp_delta_change__answer : List Nat := []
end Go.Proofs.YtinnbafplhcnpaaGreat
end

section
namespace Go.Proofs.YtinnbafplhcnpaaGreat
open Go.RowKit
set_option linter.unusedVariables false
set_option linter.unusedSimpArgs false
set_option maxRecDepth 100000

theorem dcompare_pure (a b : Dl) (H : Heap) (ha : a.path.length ≤ 3000000) (hb : b.path.length ≤ 3000000) : liftF F_DCompare [dlD a, dlD b] H = some (iD (cmpDl a b), H) := by
  rw [liftF_pure _ _ _ rfl]
  have : F_DCompare [dlD a, dlD b] = _ := f2_enc (A := dlT) (B := dlT) _ a b
  rw [this, if_pos ⟨ha, hb⟩]; rfl
/-- How many nodes an operator is asked about. -/
abbrev Chg.fits (c : Chg) : Prop := 0 ≤ c.k ∧ c.k.toNat < c.p.body.length ∧ c.p.body.length ≤ 300000
def F_DSame : List D → Option D := F2 dlT dlT fun a b => if a.path.length ≤ 3000000 ∧ b.path.length ≤ 3000000 then some (bD (decide (a = b))) else none
theorem C_DSame : CallOk Tryz.prog 24 F_DSame := call2 (kp := kp_delta_Same) T12c_ok mixed Tryz.func24 (by kernel_rfl) (by decide) fun a b d h => by
  split at h
  case isFalse => cases h
  rename_i hl
  cases h
  refine ⟨0, _, ?_, Imp.refl _⟩
  show outD (textK _ _ _ _ _ [dlD a, dlD b] []) = _
  rw [sh_delta_Same]
  have hb : (cmpDl a b == 0) = decide (a = b) := by
    rw [Bool.eq_iff_iff]; simp [cmpDl_zero]
  simp [dl_agg, dcompare_pure _ _ _ hl.1 hl.2, hb]
theorem alloc_prog (t : TypeId) (H : Heap) : allocH t [iD 0, .v (.slice none 0 0), .v (.slice none 0 0)] H = some (.hp H.length 0, H ++ [.cells t 3 [iD 0, .v (.slice none 0 0), .v (.slice none 0 0)]]) := rfl
theorem set_three (H : Heap) (i : Nat) (t : TypeId) (a b c x y z : D) (h : H[i]? = some (.cells t 3 [a, b, c])) (hx : cellOk x = true) (hy : cellOk y = true) (hz : cellOk z = true) : setH 3 (.hp i 0) (.agg [x, y, z]) H = some (.v undef, H.set i (.cells t 3 [x, y, z])) := by
  simp [setH, storeH, h, cellsD, hx, hy, hz]
theorem build_none : buildR [(0, 1), (1, 1), (2, 1)] [iD 0, .v (.slice none 0 0), .v (.slice none 0 0)] [] = some (.agg [iD 0, .v (.slice none 0 0), .v (.slice none 0 0)]) := rfl
def fs12d (P : Program) : List Entry := (24, true, liftF F_DSame) :: fs12c P
theorem fs12d_ok : ∀ p ∈ fs12d Tryz.prog, EntryOk Tryz.prog p := entries_cons (entry_lift C_DSame) <| fs12c_ok
end Go.Proofs.YtinnbafplhcnpaaGreat
end

section
namespace Go.Proofs.YtinnbafplhcnpaaGreat
open Go.RowKit
set_option linter.unusedVariables false
set_option maxRecDepth 100000

end Go.Proofs.YtinnbafplhcnpaaGreat
end

section
namespace Go.Proofs.YtinnbafplhcnpaaGreat
open Go.RowKit
set_option linter.unusedVariables false
set_option linter.unusedSimpArgs false
set_option maxRecDepth 100000

def fs12e (P : Program) : List Entry := fs12d P
theorem fs12e_ok : ∀ p ∈ fs12e Tryz.prog, EntryOk Tryz.prog p := fs12d_ok
end Go.Proofs.YtinnbafplhcnpaaGreat
end

section
namespace Go.Proofs.YtinnbafplhcnpaaGreat
open Go.RowKit
set_option linter.unusedVariables false
set_option maxRecDepth 100000

def kp_delta_Apply : List Nat := []
end Go.Proofs.YtinnbafplhcnpaaGreat
end

section
namespace Go.Proofs.YtinnbafplhcnpaaGreat
open Go.RowKit
set_option linter.unusedVariables false
set_option linter.unusedSimpArgs false
set_option maxRecDepth 100000

/- Each operator does what is told of it. -/
def opsC : List D := [.v .nilFunc, .clo (.func 66) [] [], .clo (.func 67) [] [], .clo (.func 68) [] [], .clo (.func 69) [] [], .clo (.func 70) [] [], .clo (.func 71) [] [], .clo (.func 72) [] []]
theorem build_ops : buildA 1 [.v .nilFunc, .v .nilFunc, .v .nilFunc, .v .nilFunc, .v .nilFunc, .v .nilFunc, .v .nilFunc, .v .nilFunc] [(0, .v .nilFunc), (1, .clo (.func 66) [] []), (2, .clo (.func 67) [] []), (3, .clo (.func 68) [] []), (4, .clo (.func 69) [] []), (5, .clo (.func 70) [] []), (6, .clo (.func 71) [] []), (7, .clo (.func 72) [] [])] = some (.agg opsC) := rfl
theorem alloc_ops (t : TypeId) (H : Heap) : allocH t [.v .nilFunc, .v .nilFunc, .v .nilFunc, .v .nilFunc, .v .nilFunc, .v .nilFunc, .v .nilFunc, .v .nilFunc] H = some (.hp H.length 0, H ++ [.cells t 8 [.v .nilFunc, .v .nilFunc, .v .nilFunc, .v .nilFunc, .v .nilFunc, .v .nilFunc, .v .nilFunc, .v .nilFunc]]) := rfl
def fs12f (P : Program) : List Entry := fs12e P
theorem fs12f_ok : ∀ p ∈ fs12f Tryz.prog, EntryOk Tryz.prog p := fs12e_ok
def T12f (P : Program) : Tab := ⟨fs12f P, noYl⟩
theorem T12f_ok : TabOk Tryz.prog (T12f Tryz.prog) := tabOk_of fs12f_ok
end Go.Proofs.YtinnbafplhcnpaaGreat
end

section
namespace Go.Proofs.YtinnbafplhcnpaaGreat
open Go.RowKit
set_option linter.unusedVariables false
set_option maxRecDepth 100000

def kp_cmp_isNaN_int_ : List Nat := []
theorem sh_cmp_isNaN_int_ (n : Nat) (x0 : D) (h : Heap) : textK Tryz.prog (T12f Tryz.prog) kp_cmp_isNaN_int_ n Tryz.f89 [x0] h =
(thn (binK .int .neq x0 x0) fun y0 =>
some (y0, h)) := by kernel_rfl

def kp_slices_Compact___int_int_ : List Nat := [0, 2, 3, 4, 5]
theorem sh_slices_Compact___int_int_ (n : Nat) (x0 : D) (h : Heap) : textK Tryz.prog (T12f Tryz.prog) kp_slices_Compact___int_int_ n Tryz.f117 [x0] h =
(thn (lenH .sl x0) fun y0 =>
thn (binK .int .lss y0 (iD 2)) fun y1 =>
condK y1
(some (x0, h))
(leaveK (loopF Tryz.prog (T12f Tryz.prog) kp_slices_Compact___int_int_ n Tryz.f117 0 [x0, (.v (.slice none 0 0)), (iD 1), .undef, .undef] h) (fun j2 s3 h4 =>
condN j2 0
(some ((s3.getD 0 .undef), h4))
(none)) (fun s3 h4 =>
some ((s3.getD 1 .undef), h4)))) := by kernel_rfl

theorem st_slices_Compact___int_int__0 (n : Nat) (s0 s1 s2 s3 s4 : D) (h : Heap) : stepF Tryz.prog (T12f Tryz.prog) kp_slices_Compact___int_int_ n Tryz.f117 0 [s0, s1, s2, s3, s4] h =
(thn (lenH .sl s0) fun y0 =>
thn (binK .int .lss s2 y0) fun y1 =>
condK y1
(thn (idxH 1 s0 s2) fun y2 =>
thn (loadH none h y2) fun y3 =>
thn (binK .int .sub s2 (iD 1)) fun y4 =>
thn (idxH 1 s0 y4) fun y5 =>
thn (loadH none h y5) fun y6 =>
thn (binK .int .eql y3 y6) fun y7 =>
condK y7
(thn (cutH 1 s0 (some s2) none) fun y8 =>
leaveK (loopF Tryz.prog (T12f Tryz.prog) kp_slices_Compact___int_int_ n Tryz.f117 1 [s0, s1, s2, y8, (iD 1)] h) (fun j9 s10 h11 =>
condN j9 2
(thn (cutH 1 (s10.getD 0 .undef) (some (s10.getD 2 .undef)) none) fun y12 =>
thnH (clearH 1 [(iD 0)] y12 h11) fun y13 h14 =>
thn (cutH 1 (s10.getD 0 .undef) none (some (s10.getD 2 .undef))) fun y15 =>
some (.ret, [(s10.getD 0 .undef), y15, (s10.getD 2 .undef), (s10.getD 3 .undef), (s10.getD 4 .undef)], h14))
(condN j9 1
(thn (binK .int .add (s10.getD 2 .undef) (iD 1)) fun y16 =>
some (.normal, [(s10.getD 0 .undef), (s10.getD 1 .undef), y16, (s10.getD 3 .undef), (s10.getD 4 .undef)], h11))
(some ((.exit j9), [(s10.getD 0 .undef), (s10.getD 1 .undef), (s10.getD 2 .undef), (s10.getD 3 .undef), (s10.getD 4 .undef)], h11)))) (fun s10 h11 =>
some (.ret, [(s10.getD 0 .undef), (s10.getD 1 .undef), (s10.getD 2 .undef), (s10.getD 3 .undef), (s10.getD 4 .undef)], h11)))
(thn (binK .int .add s2 (iD 1)) fun y17 =>
some (.normal, [s0, s1, y17, s3, s4], h)))
(some ((.exit 0), [s0, s1, s2, s3, s4], h))) := by kernel_rfl

theorem st_slices_Compact___int_int__1 (n : Nat) (s0 s1 s2 s3 s4 : D) (h : Heap) : stepF Tryz.prog (T12f Tryz.prog) kp_slices_Compact___int_int_ n Tryz.f117 1 [s0, s1, s2, s3, s4] h =
(thn (lenH .sl s3) fun y0 =>
thn (binK .int .lss s4 y0) fun y1 =>
condK y1
(thn (idxH 1 s3 s4) fun y2 =>
thn (loadH none h y2) fun y3 =>
thn (binK .int .sub s4 (iD 1)) fun y4 =>
thn (idxH 1 s3 y4) fun y5 =>
thn (loadH none h y5) fun y6 =>
thn (binK .int .neq y3 y6) fun y7 =>
condK y7
(thn (idxH 1 s3 s4) fun y8 =>
thn (loadH none h y8) fun y9 =>
thn (idxH 1 s0 s2) fun y10 =>
thnH (setH 1 y10 y9 h) fun y11 h12 =>
thn (binK .int .add s2 (iD 1)) fun y13 =>
thn (binK .int .add s4 (iD 1)) fun y14 =>
some (.normal, [s0, s1, y13, s3, y14], h12))
(thn (binK .int .add s4 (iD 1)) fun y15 =>
some (.normal, [s0, s1, s2, s3, y15], h)))
(some ((.exit 2), [s0, s1, s2, s3, s4], h))) := by kernel_rfl

def kp_catalog_once_int__1 : List Nat := []
theorem sh_catalog_once_int__1 (n : Nat) (x0 x1 : D) (h : Heap) : textK Tryz.prog (T12f Tryz.prog) kp_catalog_once_int__1 n Tryz.f119 [x0, x1] h =
(thn (loadH none h x1) fun y0 =>
thn (binK .int .eql x0 y0) fun y1 =>
some (y1, h)) := by kernel_rfl

def kp_catalog_row : List Nat := [1, 2, 7, 8]
theorem sh_catalog_row (n : Nat) (x0 x1 x2 : D) (h : Heap) : textK Tryz.prog (T12f Tryz.prog) kp_catalog_row n Tryz.f85 [x0, x1, x2] h =
(leaveK (loopF Tryz.prog (T12f Tryz.prog) kp_catalog_row n Tryz.f85 0 [x1, x2, (.v (.slice none 0 0)), x0] h) (fun j0 s1 h2 =>
condN j0 0
(some ((s1.getD 2 .undef), h2))
(none)) (fun s1 h2 =>
some (.undef, h2))) := by kernel_rfl

theorem st_catalog_row_0 (n : Nat) (s0 s1 s2 s3 : D) (h : Heap) : stepF Tryz.prog (T12f Tryz.prog) kp_catalog_row n Tryz.f85 0 [s0, s1, s2, s3] h =
(thn (binK .int .leq s3 s0) fun y0 =>
condK y0
(thn (binK .int .neq s3 s1) fun y1 =>
condK y1
(thnH (rowH 3 1 1 [(iD 0)] [(0, s3)] h) fun y2 h3 =>
thnH (appendH 3 1 s2 y2 h3) fun y4 h5 =>
thn (binK .int .add s3 (iD 1)) fun y6 =>
some (.normal, [s0, s1, y4, y6], h5))
(thn (binK .int .add s3 (iD 1)) fun y7 =>
some (.normal, [s0, s1, s2, y7], h)))
(some ((.exit 0), [s0, s1, s2, s3], h))) := by kernel_rfl

end Go.Proofs.YtinnbafplhcnpaaGreat
end

section
namespace Go.Proofs.YtinnbafplhcnpaaGreat
open Go.RowKit
set_option linter.unusedVariables false
set_option linter.unusedSimpArgs false

/- Cells of a row. -/
theorem idx_own (id n i : Nat) (h : i < n) : idxH 1 (.hs id n) (iD i) = some (.hp id i) := by simp [idxH, h]
theorem load_own {H : Heap} {id : Nat} {t : TypeId} {l : List Int} (h : H[id]? = some (.cells t 1 (intsC l))) (i : Nat) (hi : i < l.length) : loadH none H (.hp id i) = some (iD (l.getD i 0)) :=
  load_cellN H id i _ _ _ _ h (by rw [getD_in _ _ _ hi]; simp [intsC, hi])
theorem set_own {H : Heap} {id : Nat} {t : TypeId} {l : List Int} (h : H[id]? = some (.cells t 1 (intsC l))) (i : Nat) (hi : i < l.length) (x : Int) : setH 1 (.hp id i) (iD x) H = some (.v undef, H.set id (.cells t 1 (intsC (l.set i x)))) := by
  have := set_cellN H id i _ _ _ (iD x) h (by rw [intsC_len]; exact hi) rfl rfl
  rw [this]
  congr 3
  simp [intsC, List.map_set]
theorem own_set {H : Heap} {id : Nat} {o : HO} (h : ∃ o', H[id]? = some o') : (H.set id o)[id]? = some o := by
  obtain ⟨o', h⟩ := h
  rw [List.getElem?_set_self (List.getElem?_eq_some_iff.1 h).1]

/- Lists, by place. -/
theorem getD_set_self (l : List Int) (i : Nat) (x : Int) (h : i < l.length) : (l.set i x).getD i 0 = x := by
  simp [List.getD_eq_getElem?_getD, h]
theorem getD_set_other (l : List Int) (i j : Nat) (x : Int) (h : i ≠ j) : (l.set i x).getD j 0 = l.getD j 0 := by
  rw [List.getD_eq_getElem?_getD, List.getElem?_set_ne h, ← List.getD_eq_getElem?_getD]
theorem mem_getD (l : List Int) (x : Int) : x ∈ l ↔ ∃ p, p < l.length ∧ l.getD p 0 = x := by
  rw [List.mem_iff_getElem]
  constructor
  · rintro ⟨p, hp, rfl⟩; exact ⟨p, hp, getD_in _ _ _ hp⟩
  · rintro ⟨p, hp, rfl⟩; exact ⟨p, hp, (getD_in _ _ _ hp).symm⟩
/-- Two things change places. -/
def swp (l : List Int) (j : Nat) : List Int := (l.set (j + 1) (l.getD j 0)).set j (l.getD (j + 1) 0)
theorem swp_len (l : List Int) (j : Nat) : (swp l j).length = l.length := by simp [swp]
theorem swp_at (l : List Int) (j p : Nat) (h : j + 1 < l.length) : (swp l j).getD p 0 = if p = j then l.getD (j + 1) 0 else if p = j + 1 then l.getD j 0 else l.getD p 0 := by
  unfold swp
  by_cases h1 : p = j
  · subst h1; rw [if_pos rfl, getD_set_self _ _ _ (by simp; omega)]
  · rw [if_neg h1, getD_set_other _ _ _ _ (Ne.symm h1)]
    by_cases h2 : p = j + 1
    · subst h2; rw [if_pos rfl, getD_set_self _ _ _ h]
    · rw [if_neg h2, getD_set_other _ _ _ _ (Ne.symm h2)]
theorem swp_mem (l : List Int) (j : Nat) (h : j + 1 < l.length) (x : Int) : x ∈ swp l j ↔ x ∈ l := by
  rw [mem_getD, mem_getD, swp_len]
  constructor
  · rintro ⟨p, hp, e⟩
    rw [swp_at _ _ _ h] at e
    split at e
    · exact ⟨j + 1, h, e⟩
    · split at e
      · exact ⟨j, by omega, e⟩
      · exact ⟨p, hp, e⟩
  · rintro ⟨p, hp, e⟩
    by_cases h1 : p = j
    · subst h1
      exact ⟨p + 1, h, by rw [swp_at _ _ _ h, if_neg (by omega), if_pos rfl]; exact e⟩
    · by_cases h2 : p = j + 1
      · subst h2
        exact ⟨j, by omega, by rw [swp_at _ _ _ h, if_pos rfl]; exact e⟩
      · exact ⟨p, hp, by rw [swp_at _ _ _ h, if_neg h1, if_neg h2]; exact e⟩
/-- The first m things rise. -/
def Rise (l : List Int) (m : Nat) : Prop := ∀ p q, p < q → q < m → l.getD p 0 ≤ l.getD q 0
/-- The first i + 1 things rise, but for what stands ahead of the one at j. -/
def Near (l : List Int) (i j : Nat) : Prop := ∀ p q, p < q → q ≤ i → q ≠ j → l.getD p 0 ≤ l.getD q 0
theorem near_start {l : List Int} {i : Nat} (h : Rise l i) : Near l i i := fun p q h1 h2 h3 => h p q h1 (by omega)
theorem near_swp {l : List Int} {i j : Nat} (hi : i < l.length) (hj : j + 1 ≤ i) (h : Near l i (j + 1)) (hlt : l.getD (j + 1) 0 < l.getD j 0) : Near (swp l j) i j := by
  intro p q h1 h2 h3
  have hl : j + 1 < l.length := by omega
  rw [swp_at _ _ _ hl, swp_at _ _ _ hl]
  rw [if_neg (show ¬ q = j from h3)]
  by_cases hq : q = j + 1
  · rw [if_pos hq]
    by_cases hp : p = j
    · rw [if_pos hp]; omega
    · rw [if_neg hp, if_neg (by omega)]
      exact h p j (by omega) (by omega) (by omega)
  · rw [if_neg hq]
    by_cases hp : p = j
    · rw [if_pos hp]; exact h (j + 1) q (by omega) h2 hq
    · rw [if_neg hp]
      by_cases hp2 : p = j + 1
      · rw [if_pos hp2]; exact h j q (by omega) h2 hq
      · rw [if_neg hp2]; exact h p q h1 h2 hq
theorem near_end {l : List Int} {i j : Nat} (h : Near l i j) (hj : j ≤ i) (he : j = 0 ∨ l.getD (j - 1) 0 ≤ l.getD j 0) : Rise l (i + 1) := by
  intro p q h1 h2
  by_cases hq : q = j
  · subst hq
    rcases he with rfl | he
    · omega
    · by_cases hp : p = q - 1
      · rw [hp]; exact he
      · exact Int.le_trans (h p (q - 1) (by omega) (by omega) (by omega)) he
  · exact h p q h1 (by omega) hq
end Go.Proofs.YtinnbafplhcnpaaGreat
end

section
namespace Go.Proofs.YtinnbafplhcnpaaGreat
open Go.RowKit
set_option linter.unusedVariables false
set_option linter.unusedSimpArgs false

/-- Lists in one order, with the same things, are the same. -/
theorem pw_unique {α : Type} (R : α → α → Prop) (irr : ∀ a, ¬ R a a) (asym : ∀ a b, R a b → ¬ R b a) : ∀ (l l' : List α), l.Pairwise R → l'.Pairwise R → (∀ a, a ∈ l ↔ a ∈ l') → l = l'
  | [], [], _, _, _ => rfl
  | [], y :: s, _, _, h => by have := (h y).2 (List.mem_cons_self ..); cases this
  | x :: r, [], _, _, h => by have := (h x).1 (List.mem_cons_self ..); cases this
  | x :: r, y :: s, h1, h2, h => by
    rw [List.pairwise_cons] at h1 h2
    have hxy : x = y := by
      have a := (h x).1 (List.mem_cons_self ..)
      have b := (h y).2 (List.mem_cons_self ..)
      rcases List.mem_cons.1 a with a | a
      · exact a
      · rcases List.mem_cons.1 b with b | b
        · exact b.symm
        · exact absurd (h2.1 x a) (asym _ _ (h1.1 y b))
    subst hxy
    congr 1
    refine pw_unique R irr asym r s h1.2 h2.2 fun a => ⟨fun ha => ?_, fun ha => ?_⟩
    · rcases List.mem_cons.1 ((h a).1 (List.mem_cons_of_mem _ ha)) with e | e
      · subst e; exact absurd (h1.1 a ha) (irr a)
      · exact e
    · rcases List.mem_cons.1 ((h a).2 (List.mem_cons_of_mem _ ha)) with e | e
      · subst e; exact absurd (h2.1 a ha) (irr a)
      · exact e
/-- A number is put in where it belongs, if it is not there. -/
def sins (a : Int) : List Int → List Int
  | [] => [a]
  | b :: r => if a < b then a :: b :: r else if a = b then b :: r else b :: sins a r
theorem mem_sins (a : Int) : ∀ (l : List Int) (x : Int), x ∈ sins a l ↔ x = a ∨ x ∈ l
  | [], x => by simp [sins]
  | b :: r, x => by
    unfold sins
    split
    · simp
    · split
      · rename_i h; subst h; simp
      · simp only [List.mem_cons, mem_sins a r x]
        constructor
        · rintro (h | h | h)
          · exact .inr (.inl h)
          · exact .inl h
          · exact .inr (.inr h)
        · rintro (h | h | h)
          · exact .inr (.inl h)
          · exact .inl h
          · exact .inr (.inr h)
theorem sins_sorted (a : Int) : ∀ (l : List Int), l.Pairwise (· < ·) → (sins a l).Pairwise (· < ·)
  | [], _ => by simp [sins]
  | b :: r, h => by
    have h' := h
    rw [List.pairwise_cons] at h
    unfold sins
    split
    · rename_i hab
      rw [List.pairwise_cons]
      refine ⟨fun y hy => ?_, h'⟩
      rcases List.mem_cons.1 hy with rfl | hy
      · exact hab
      · have := h.1 y hy; omega
    · split
      · exact h'
      · rename_i h1 h2
        rw [List.pairwise_cons]
        refine ⟨fun y hy => ?_, sins_sorted a r h.2⟩
        rcases (mem_sins a r y).1 hy with rfl | hy
        · omega
        · exact h.1 y hy
/-- Numbers in order, each once. -/
def sortV (l : List Int) : List Int := l.foldr sins []
theorem mem_sortV (l : List Int) (x : Int) : x ∈ sortV l ↔ x ∈ l := by
  induction l with
  | nil => simp [sortV]
  | cons a r ih =>
    have : sortV (a :: r) = sins a (sortV r) := rfl
    rw [this, mem_sins, ih, List.mem_cons]
theorem sortV_sorted (l : List Int) : (sortV l).Pairwise (· < ·) := by
  induction l with
  | nil => simp [sortV]
  | cons a r ih => exact sins_sorted a _ ih
/-- But for one. -/
def onceV (but : Int) (l : List Int) : List Int := (sortV l).filter fun x => decide (x ≠ but)
theorem mem_onceV (but : Int) (l : List Int) (x : Int) : x ∈ onceV but l ↔ x ∈ l ∧ x ≠ but := by
  simp [onceV, mem_sortV]
theorem onceV_sorted (but : Int) (l : List Int) : (onceV but l).Pairwise (· < ·) := (sortV_sorted l).filter _

def w64 (n : Int) : Int := IntKind.i64.wrap n
/-- May it be put in, at a node x whose next one is y? -/
def isN (x y : Nd) (op n : Int) : Prop :=
  (op = 1 ∧ 7 ≤ x.1 ∧ x.1 ≤ 11 ∧ 7 ≤ n ∧ n ≤ 11 ∧ n ≠ x.1) ∨ (op = 2 ∧ 12 ≤ x.1 ∧ x.1 ≤ 17 ∧ 12 ≤ n ∧ n ≤ 17 ∧ n ≠ x.1) ∨ (op = 3 ∧ 18 ≤ x.1 ∧ x.1 ≤ 19 ∧ 18 ≤ n ∧ n ≤ 19 ∧ n ≠ x.1) ∨
  (op = 4 ∧ ((x.1 = 1 ∧ (n = 0 ∨ n = 1 ∨ n = -1 ∨ n = w64 (x.2 + 1) ∨ n = w64 (x.2 - 1)) ∧ n ≠ x.2) ∨ (x.1 = 2 ∧ n = w64 (1 - x.2)))) ∨
  (op = 5 ∧ (x.1 = 21 ∨ x.1 = 22 ∨ x.1 = 23 ∨ x.1 = 24 ∨ x.1 = 25) ∧ n = 0) ∨ (op = 6 ∧ (x.1 = 23 ∨ x.1 = 24) ∧ n = 0) ∨ (op = 7 ∧ x.1 = 25 ∧ (n = 0 ∨ n = 1) ∧ y ≠ (1, n))
instance (x y : Nd) (op n : Int) : Decidable (isN x y op n) := by unfold isN; infer_instance
def rowV (lo hi but : Int) : List Int := ((List.range (hi - lo + 1).toNat).map fun i : Nat => lo + (i : Int)).filter fun n => decide (n ≠ but)
theorem mem_rowV (lo hi but n : Int) : n ∈ rowV lo hi but ↔ lo ≤ n ∧ n ≤ hi ∧ n ≠ but := by
  simp only [rowV, List.mem_filter, List.mem_map, List.mem_range, decide_eq_true_eq]
  constructor
  · rintro ⟨⟨i, hi, rfl⟩, h⟩; omega
  · rintro ⟨h1, h2, h3⟩; exact ⟨⟨(n - lo).toNat, by omega, by omega⟩, h3⟩
theorem rowV_sorted (lo hi but : Int) : (rowV lo hi but).Pairwise (· < ·) := by
  refine List.Pairwise.filter _ ?_
  rw [List.pairwise_map]
  exact List.pairwise_lt_range.imp fun h => by omega
def answersV (y : Nd) : List Int := if y.1 = 1 then onceV y.2 [0, 1] else [0, 1]
theorem mem_answersV (y : Nd) (n : Int) : n ∈ answersV y ↔ (n = 0 ∨ n = 1) ∧ y ≠ (1, n) := by
  obtain ⟨t, m⟩ := y
  unfold answersV
  split
  · rename_i h
    simp only at h
    subst h
    rw [mem_onceV]
    simp only [List.mem_cons, List.not_mem_nil, or_false, ne_eq, Prod.mk.injEq, true_and]
    constructor
    · rintro ⟨h1, h2⟩; exact ⟨h1, fun e => h2 e.symm⟩
    · rintro ⟨h1, h2⟩; exact ⟨h1, fun e => h2 e.symm⟩
  · rename_i h
    simp only at h
    simp only [List.mem_cons, List.not_mem_nil, or_false, ne_eq, Prod.mk.injEq]
    exact ⟨fun h1 => ⟨h1, fun e => h e.1⟩, fun h1 => h1.1⟩
theorem answersV_sorted (y : Nd) : (answersV y).Pairwise (· < ·) := by
  unfold answersV
  split
  · exact onceV_sorted _ _
  · simp
/-- The operators at a node, and their numbers. -/
def numsV (x y : Nd) : List (Int × List Int) :=
  (if 7 ≤ x.1 ∧ x.1 ≤ 11 then [(1, rowV 7 11 x.1)] else if 12 ≤ x.1 ∧ x.1 ≤ 17 then [(2, rowV 12 17 x.1)] else if x.1 = 18 ∨ x.1 = 19 then [(3, rowV 18 19 x.1)]
    else if x.1 = 1 then [(4, onceV x.2 [0, 1, -1, w64 (x.2 + 1), w64 (x.2 - 1)])] else if x.1 = 2 then [(4, [w64 (1 - x.2)])] else []) ++
  ((if x.1 = 21 ∨ x.1 = 22 ∨ x.1 = 23 ∨ x.1 = 24 ∨ x.1 = 25 then [(5, [0])] else []) ++
  (if x.1 = 23 ∨ x.1 = 24 then [(6, [0])] else if x.1 = 25 then [(7, answersV y)] else []))
def choiceV (x y : Nd) : List (Int × Int) := (numsV x y).flatMap fun e => e.2.map fun n => (e.1, n)
def lexR (a b : Int × Int) : Prop := a.1 < b.1 ∨ (a.1 = b.1 ∧ a.2 < b.2)
theorem lexR_irr (a : Int × Int) : ¬ lexR a a := by unfold lexR; omega
theorem lexR_asym (a b : Int × Int) (h : lexR a b) : ¬ lexR b a := by unfold lexR at *; omega
theorem mem_choice (x y : Nd) (op n : Int) : (op, n) ∈ choiceV x y ↔ ∃ e ∈ numsV x y, op = e.1 ∧ n ∈ e.2 := by
  simp only [choiceV, List.mem_flatMap, List.mem_map, Prod.mk.injEq]
  constructor
  · rintro ⟨e, he, m, hm, rfl, rfl⟩; exact ⟨e, he, rfl, hm⟩
  · rintro ⟨e, he, rfl, hm⟩; exact ⟨e, he, n, hm, rfl, rfl⟩
theorem flat_sorted : ∀ (L : List (Int × List Int)), (L.Pairwise fun a b => a.1 < b.1) → (∀ e ∈ L, e.2.Pairwise (· < ·)) → (L.flatMap fun e => e.2.map fun n => (e.1, n)).Pairwise lexR
  | [], _, _ => by simp
  | e :: r, h, hs => by
    rw [List.pairwise_cons] at h
    rw [List.flatMap_cons, List.pairwise_append]
    refine ⟨?_, flat_sorted r h.2 fun e he => hs e (List.mem_cons_of_mem _ he), fun a ha b hb => ?_⟩
    · rw [List.pairwise_map]
      exact (hs e (List.mem_cons_self ..)).imp fun h => .inr ⟨rfl, h⟩
    · obtain ⟨m, _, rfl⟩ := List.mem_map.1 ha
      obtain ⟨e', he', hb⟩ := List.mem_flatMap.1 hb
      obtain ⟨m', _, rfl⟩ := List.mem_map.1 hb
      exact .inl (h.1 e' he')
theorem numsV_sorted (x y : Nd) : ((numsV x y).Pairwise fun a b => a.1 < b.1) ∧ ∀ e ∈ numsV x y, e.2.Pairwise (· < ·) := by
  have r := rowV_sorted
  have a := answersV_sorted y
  have o := onceV_sorted
  unfold numsV
  repeat' split
  all_goals simp [r, a, o]
theorem choice_sorted (x y : Nd) : (choiceV x y).Pairwise lexR := flat_sorted _ (numsV_sorted x y).1 (numsV_sorted x y).2
theorem ex_nil {p : Int × List Int → Prop} : (∃ e ∈ ([] : List (Int × List Int)), p e) ↔ False := by simp
theorem ex_one {p : Int × List Int → Prop} (e : Int × List Int) : (∃ x ∈ [e], p x) ↔ p e := by simp
theorem choice_a (x : Nd) (op n : Int) : (∃ e ∈ (if 7 ≤ x.1 ∧ x.1 ≤ 11 then [(1, rowV 7 11 x.1)] else if 12 ≤ x.1 ∧ x.1 ≤ 17 then [(2, rowV 12 17 x.1)] else if x.1 = 18 ∨ x.1 = 19 then [(3, rowV 18 19 x.1)]
    else if x.1 = 1 then [(4, onceV x.2 [0, 1, -1, w64 (x.2 + 1), w64 (x.2 - 1)])] else if x.1 = 2 then [(4, [w64 (1 - x.2)])] else [] : List (Int × List Int)), op = e.1 ∧ n ∈ e.2) ↔
  (op = 1 ∧ 7 ≤ x.1 ∧ x.1 ≤ 11 ∧ 7 ≤ n ∧ n ≤ 11 ∧ n ≠ x.1) ∨ (op = 2 ∧ 12 ≤ x.1 ∧ x.1 ≤ 17 ∧ 12 ≤ n ∧ n ≤ 17 ∧ n ≠ x.1) ∨ (op = 3 ∧ 18 ≤ x.1 ∧ x.1 ≤ 19 ∧ 18 ≤ n ∧ n ≤ 19 ∧ n ≠ x.1) ∨
  (op = 4 ∧ ((x.1 = 1 ∧ (n = 0 ∨ n = 1 ∨ n = -1 ∨ n = w64 (x.2 + 1) ∨ n = w64 (x.2 - 1)) ∧ n ≠ x.2) ∨ (x.1 = 2 ∧ n = w64 (1 - x.2)))) := by
  by_cases c1 : 7 ≤ x.1 ∧ x.1 ≤ 11
  · rw [if_pos c1, ex_one, mem_rowV]
    constructor
    · rintro ⟨h1, h2⟩; exact .inl ⟨h1, c1.1, c1.2, h2⟩
    · rintro (h | h | h | h)
      · exact ⟨h.1, h.2.2.2⟩
      · omega
      · omega
      · omega
  rw [if_neg c1]
  by_cases c2 : 12 ≤ x.1 ∧ x.1 ≤ 17
  · rw [if_pos c2, ex_one, mem_rowV]
    constructor
    · rintro ⟨h1, h2⟩; exact .inr (.inl ⟨h1, c2.1, c2.2, h2⟩)
    · rintro (h | h | h | h)
      · omega
      · exact ⟨h.1, h.2.2.2⟩
      · omega
      · omega
  rw [if_neg c2]
  by_cases c3 : x.1 = 18 ∨ x.1 = 19
  · rw [if_pos c3, ex_one, mem_rowV]
    constructor
    · rintro ⟨h1, h2⟩; exact .inr (.inr (.inl ⟨h1, by omega, by omega, h2⟩))
    · rintro (h | h | h | h)
      · omega
      · omega
      · exact ⟨h.1, h.2.2.2⟩
      · omega
  rw [if_neg c3]
  by_cases c4 : x.1 = 1
  · rw [if_pos c4, ex_one, mem_onceV]
    simp only [List.mem_cons, List.not_mem_nil, or_false]
    constructor
    · rintro ⟨h1, h2⟩; exact .inr (.inr (.inr ⟨h1, .inl ⟨c4, h2⟩⟩))
    · rintro (h | h | h | h)
      · omega
      · omega
      · omega
      · rcases h.2 with h2 | h2
        · exact ⟨h.1, h2.2⟩
        · omega
  rw [if_neg c4]
  by_cases c5 : x.1 = 2
  · rw [if_pos c5, ex_one]
    simp only [List.mem_cons, List.not_mem_nil, or_false]
    constructor
    · rintro ⟨h1, h2⟩; exact .inr (.inr (.inr ⟨h1, .inr ⟨c5, h2⟩⟩))
    · rintro (h | h | h | h)
      · omega
      · omega
      · omega
      · rcases h.2 with h2 | h2
        · omega
        · exact ⟨h.1, h2.2⟩
  rw [if_neg c5, ex_nil]
  constructor
  · exact fun h => h.elim
  · rintro (h | h | h | h) <;> omega
theorem choice_b (x : Nd) (op n : Int) : (∃ e ∈ (if x.1 = 21 ∨ x.1 = 22 ∨ x.1 = 23 ∨ x.1 = 24 ∨ x.1 = 25 then [(5, [0])] else [] : List (Int × List Int)), op = e.1 ∧ n ∈ e.2) ↔ (op = 5 ∧ (x.1 = 21 ∨ x.1 = 22 ∨ x.1 = 23 ∨ x.1 = 24 ∨ x.1 = 25) ∧ n = 0) := by
  split
  · rename_i h
    rw [ex_one]
    simp only [List.mem_singleton]
    exact ⟨fun a => ⟨a.1, h, a.2⟩, fun a => ⟨a.1, a.2.2⟩⟩
  · rename_i h
    rw [ex_nil]
    exact ⟨fun a => a.elim, fun a => h a.2.1⟩
theorem choice_c (x y : Nd) (op n : Int) : (∃ e ∈ (if x.1 = 23 ∨ x.1 = 24 then [(6, [0])] else if x.1 = 25 then [(7, answersV y)] else [] : List (Int × List Int)), op = e.1 ∧ n ∈ e.2) ↔ (op = 6 ∧ (x.1 = 23 ∨ x.1 = 24) ∧ n = 0) ∨ (op = 7 ∧ x.1 = 25 ∧ (n = 0 ∨ n = 1) ∧ y ≠ (1, n)) := by
  by_cases c1 : x.1 = 23 ∨ x.1 = 24
  · rw [if_pos c1, ex_one]
    simp only [List.mem_singleton]
    exact ⟨fun a => .inl ⟨a.1, c1, a.2⟩, fun a => by
      rcases a with a | a
      · exact ⟨a.1, a.2.2⟩
      · omega⟩
  rw [if_neg c1]
  by_cases c2 : x.1 = 25
  · rw [if_pos c2, ex_one, mem_answersV]
    exact ⟨fun a => .inr ⟨a.1, c2, a.2⟩, fun a => by
      rcases a with a | a
      · omega
      · exact ⟨a.1, a.2.2⟩⟩
  rw [if_neg c2, ex_nil]
  exact ⟨fun a => a.elim, fun a => by
    rcases a with a | a
    · exact c1 a.2.1
    · exact c2 a.2.1⟩
theorem ex_app {p : Int × List Int → Prop} (a b : List (Int × List Int)) : (∃ e ∈ a ++ b, p e) ↔ (∃ e ∈ a, p e) ∨ ∃ e ∈ b, p e := by
  simp only [List.mem_append]
  constructor
  · rintro ⟨e, h | h, hp⟩
    · exact .inl ⟨e, h, hp⟩
    · exact .inr ⟨e, h, hp⟩
  · rintro (⟨e, h, hp⟩ | ⟨e, h, hp⟩)
    · exact ⟨e, .inl h, hp⟩
    · exact ⟨e, .inr h, hp⟩
theorem choice_is (x y : Nd) (op n : Int) : (op, n) ∈ choiceV x y ↔ isN x y op n := by
  rw [mem_choice]
  unfold numsV
  rw [ex_app, ex_app, choice_a, choice_b, choice_c]
  unfold isN
  simp only [or_assoc]
theorem nums_short (x y : Nd) : (choiceV x y).length ≤ 5 := by
  have hr : ∀ lo hi but : Int, lo ≤ but → but ≤ hi → (rowV lo hi but).length ≤ (hi - lo).toNat := by
    intro lo hi but h1 h2
    have : (rowV lo hi but).length < ((List.range (hi - lo + 1).toNat).map fun i : Nat => lo + (i : Int)).length := by
      unfold rowV
      rw [List.length_filter_lt_length_iff_exists]
      exact ⟨but, List.mem_map.2 ⟨(but - lo).toNat, by simp; omega, by omega⟩, by simp⟩
    simp at this
    omega
  have hs : ∀ a : Int, ∀ l : List Int, (sins a l).length ≤ l.length + 1 := by
    intro a l
    induction l with
    | nil => simp [sins]
    | cons b r ih =>
      unfold sins
      split
      · simp
      · split
        · simp
        · simp only [List.length_cons]; omega
  have hso : ∀ l : List Int, (sortV l).length ≤ l.length := by
    intro l
    induction l with
    | nil => simp [sortV]
    | cons a r ih =>
      have := hs a (sortV r)
      have e : sortV (a :: r) = sins a (sortV r) := rfl
      rw [e, List.length_cons]; omega
  have ho : ∀ (but : Int) (l : List Int), (onceV but l).length ≤ l.length := fun but l => Nat.le_trans (List.length_filter_le _ _) (hso l)
  have ha : (answersV y).length ≤ 2 := by
    unfold answersV
    split
    · exact ho _ _
    · simp
  have h1 := fun t (a : 7 ≤ t) (b : t ≤ 11) => hr 7 11 t a b
  have h2 := fun t (a : 12 ≤ t) (b : t ≤ 17) => hr 12 17 t a b
  have h3 := fun t (a : 18 ≤ t) (b : t ≤ 19) => hr 18 19 t a b
  have h4 := ho x.2 [0, 1, -1, w64 (x.2 + 1), w64 (x.2 - 1)]
  simp only [List.length_cons, List.length_nil] at h4
  unfold choiceV numsV
  by_cases c1 : 7 ≤ x.1 ∧ x.1 ≤ 11
  · have := h1 x.1 c1.1 c1.2
    rw [if_pos c1, if_neg (by omega), if_neg (by omega), if_neg (by omega)]
    simp
    omega
  by_cases c2 : 12 ≤ x.1 ∧ x.1 ≤ 17
  · have := h2 x.1 c2.1 c2.2
    rw [if_neg c1, if_pos c2, if_neg (by omega), if_neg (by omega), if_neg (by omega)]
    simp
    omega
  by_cases c3 : x.1 = 18 ∨ x.1 = 19
  · have := h3 x.1 (by omega) (by omega)
    rw [if_neg c1, if_neg c2, if_pos c3, if_neg (by omega), if_neg (by omega), if_neg (by omega)]
    simp
    omega
  by_cases c4 : x.1 = 1
  · rw [if_neg c1, if_neg c2, if_neg c3, if_pos c4, if_neg (by omega), if_neg (by omega), if_neg (by omega)]
    simp
    omega
  by_cases c5 : x.1 = 2
  · rw [if_neg c1, if_neg c2, if_neg c3, if_neg c4, if_pos c5, if_neg (by omega), if_neg (by omega), if_neg (by omega)]
    simp
  rw [if_neg c1, if_neg c2, if_neg c3, if_neg c4, if_neg c5]
  by_cases c6 : x.1 = 21 ∨ x.1 = 22 ∨ x.1 = 23 ∨ x.1 = 24 ∨ x.1 = 25
  · rw [if_pos c6]
    by_cases c7 : x.1 = 23 ∨ x.1 = 24
    · rw [if_pos c7]; simp
    · rw [if_neg c7]
      by_cases c8 : x.1 = 25
      · rw [if_pos c8]
        simp
        omega
      · rw [if_neg c8]; simp
  · rw [if_neg c6, if_neg (by omega), if_neg (by omega)]
    simp
/-- The document's way: numbers that may be, tried for each operator. -/
def triesV (x : Nd) : List Int := sortV [-1, 0, 1, w64 (x.2 - 1), w64 (x.2 + 1), 7, 8, 9, 10, 11, 12, 13, 14, 15, 16, 17, 18, 19]
def choiceQ (x y : Nd) : List (Int × Int) := ([1, 2, 3, 4, 5, 6, 7] : List Int).flatMap fun op => ((triesV x).filter fun n => decide (isN x y op n)).map fun n => (op, n)
theorem choiceQ_eq (x y : Nd) (hb : x.1 = 2 → 0 ≤ x.2 ∧ x.2 ≤ 1) : choiceQ x y = choiceV x y := by
  refine pw_unique lexR lexR_irr lexR_asym _ _ ?_ (choice_sorted x y) ?_
  · have := flat_sorted (([1, 2, 3, 4, 5, 6, 7] : List Int).map fun op => (op, (triesV x).filter fun n => decide (isN x y op n))) (by simp) (fun e he => by
      obtain ⟨op, _, rfl⟩ := List.mem_map.1 he
      exact (sortV_sorted _).filter _)
    rw [List.flatMap_map] at this
    exact this
  · rintro ⟨op, n⟩
    rw [choice_is]
    unfold choiceQ
    simp only [List.mem_flatMap, List.mem_map, List.mem_filter, Prod.mk.injEq, decide_eq_true_eq]
    constructor
    · rintro ⟨o, _, m, ⟨_, h⟩, rfl, rfl⟩; exact h
    · intro h
      refine ⟨op, ?_, n, ⟨?_, h⟩, rfl, rfl⟩
      · simp only [List.mem_cons, List.not_mem_nil, or_false]
        rcases h with h | h | h | h | h | h | h
        all_goals have := h.1
        all_goals omega
      · unfold triesV
        rw [mem_sortV]
        simp only [List.mem_cons, List.not_mem_nil, or_false]
        have e1 : w64 (1 - 0) = 1 := by decide
        have e2 : w64 (1 - 1) = 0 := by decide
        rcases h with h | h | h | h | h | h | h
        · omega
        · omega
        · omega
        · rcases h.2 with h | h
          · omega
          · have := hb h.1
            have e : x.2 = 0 ∨ x.2 = 1 := by omega
            rcases e with e | e
            · rw [e, e1] at h; omega
            · rw [e, e2] at h; omega
        · omega
        · omega
        · omega
end Go.Proofs.YtinnbafplhcnpaaGreat
end

section
namespace Go.Proofs.YtinnbafplhcnpaaGreat
open Go.RowKit
set_option linter.unusedVariables false
set_option linter.unusedSimpArgs false

theorem set_self {H : Heap} {id : Nat} {o : HO} (h : H[id]? = some o) : H.set id o = H := by
  apply List.ext_getElem?
  intro k
  by_cases hk : id = k
  · subst hk; rw [List.getElem?_set_self (List.getElem?_eq_some_iff.1 h).1, h]
  · rw [List.getElem?_set_ne hk]
/-- One more, unless it is like the last one. -/
def dedS (a : List Int) (x : Int) : List Int := if a.getLast? = some x then a else a ++ [x]
def dedV (l : List Int) (m : Nat) : List Int := (l.take m).foldl dedS []
theorem dedV_zero (l : List Int) : dedV l 0 = [] := by simp [dedV]
theorem dedV_succ (l : List Int) (m : Nat) (h : m < l.length) : dedV l (m + 1) = dedS (dedV l m) (l.getD m 0) := by
  unfold dedV
  rw [List.take_succ_eq_append_getElem h, List.foldl_append, getD_in _ _ _ h]
  rfl
theorem dedS_last (a : List Int) (x : Int) : (dedS a x).getLast? = some x := by
  unfold dedS
  split
  · assumption
  · simp
theorem dedV_last (l : List Int) (m : Nat) (h : m < l.length) : (dedV l (m + 1)).getLast? = some (l.getD m 0) := by
  rw [dedV_succ l m h]; exact dedS_last _ _
theorem dedV_len (l : List Int) : ∀ m, m ≤ l.length → (dedV l m).length ≤ m
  | 0, _ => by simp [dedV_zero]
  | m + 1, h => by
    rw [dedV_succ l m h]
    have := dedV_len l m (by omega)
    unfold dedS
    split
    · omega
    · simp; omega
theorem pw_last {l : List Int} {x : Int} (h : l.Pairwise (· < ·)) (hx : l.getLast? = some x) : ∀ y ∈ l, y ≤ x := by
  intro y hy
  obtain ⟨a, rfl⟩ : ∃ a, l = a ++ [x] := by
    rcases List.eq_nil_or_concat l with rfl | ⟨a, b, rfl⟩
    · simp at hx
    · rw [List.concat_eq_append, List.getLast?_append] at hx
      simp at hx
      subst hx
      exact ⟨a, List.concat_eq_append⟩
  rw [List.pairwise_append] at h
  simp only [List.mem_append, List.mem_singleton] at hy
  rcases hy with hy | rfl
  · have := h.2.2 y hy x (by simp); omega
  · omega
/-- In a row that rises, each is left once. -/
theorem dedV_rise (l : List Int) : ∀ m, m ≤ l.length → Rise l m → (dedV l m).Pairwise (· < ·) ∧ ∀ x, x ∈ dedV l m ↔ x ∈ l.take m
  | 0, _, _ => by simp [dedV_zero]
  | m + 1, h, hR => by
    obtain ⟨h1, h2⟩ := dedV_rise l m (by omega) fun p q a b => hR p q a (by omega)
    rw [dedV_succ l m h, List.take_succ_eq_append_getElem h]
    have hgx : l[m] = l.getD m 0 := (getD_in _ _ _ h).symm
    rw [hgx]
    unfold dedS
    by_cases he : (dedV l m).getLast? = some (l.getD m 0)
    · rw [if_pos he]
      refine ⟨h1, fun x => ?_⟩
      rw [h2, List.mem_append, List.mem_singleton]
      constructor
      · exact .inl
      · rintro (hx | rfl)
        · exact hx
        · exact (h2 _).1 (List.mem_of_getLast? he)
    · rw [if_neg he]
      refine ⟨?_, fun x => by rw [List.mem_append, List.mem_append, h2]⟩
      rw [List.pairwise_append]
      refine ⟨h1, by simp, fun y hy x hx => ?_⟩
      rw [List.mem_singleton] at hx
      subst hx
      cases m with
      | zero => simp [dedV_zero] at hy
      | succ m =>
        have hl := dedV_last l m (by omega)
        rw [hl] at he
        have a1 := pw_last h1 hl y hy
        have a2 := hR m (m + 1) (by omega) (by omega)
        have a3 : l.getD m 0 ≠ l.getD (m + 1) 0 := fun e => he (by rw [e])
        omega
/-- What rises, and holds the same, is the list in order. -/
theorem dedV_sort (l s : List Int) (hR : Rise s s.length) (hm : ∀ x, x ∈ s ↔ x ∈ l) : dedV s s.length = sortV l := by
  obtain ⟨h1, h2⟩ := dedV_rise s s.length (Nat.le_refl _) hR
  refine pw_unique (· < ·) (fun a (h : a < a) => by omega) (fun a b (h1 : a < b) (h2 : b < a) => by omega) _ _ h1 (sortV_sorted l) fun x => ?_
  rw [h2, List.take_length, hm, mem_sortV]
/-- A place is written ahead of what was not read. -/
theorem take_set_succ (c : List Int) (k : Nat) (x : Int) (h : k < c.length) : (c.set k x).take (k + 1) = c.take k ++ [x] := by
  rw [List.take_succ_eq_append_getElem (by simpa using h), List.take_set_of_le (Nat.le_refl _)]
  simp
end Go.Proofs.YtinnbafplhcnpaaGreat
end

section
namespace Go.Proofs.YtinnbafplhcnpaaGreat
open Go.RowKit
set_option linter.unusedVariables false
set_option linter.unusedSimpArgs false
set_option maxRecDepth 100000

def F_isNaN : List D → Option D := F1 intT fun _ => some (bD false)
theorem C_isNaN : CallOk Tryz.prog 89 F_isNaN := call1 (kp := kp_cmp_isNaN_int_) T12f_ok mixed Tryz.func89 (by kernel_rfl) (by decide) fun a d h => by
  cases h
  refine ⟨0, _, ?_, Imp.refl _⟩
  show outD (textK _ _ _ _ _ [iD a] []) = _
  rw [sh_cmp_isNaN_int_]
  simp
theorem isNaN_pure (a : Int) (H : Heap) : liftF F_isNaN [iD a] H = some (bD false, H) := by
  rw [liftF_pure _ _ _ rfl]
  have : F_isNaN [iD a] = _ := f1_enc (A := intT) _ a
  rw [this]; rfl
def G_len64 (P : Program) : List D → Heap → Option (D × Heap) := textG P (T12f P) [] 0 150
theorem C_len64 : HCallOk Tryz.prog 150 (G_len64 Tryz.prog) := hcall_G T12f_ok mixed Tryz.func150 (by kernel_rfl) (by decide)
def G_Compact (P : Program) : List D → Heap → Option (D × Heap) := textG P (T12f P) kp_slices_Compact___int_int_ 1001 117
theorem G_Compact_eq (ds : List D) (H : Heap) : G_Compact Tryz.prog ds H = textK Tryz.prog (T12f Tryz.prog) kp_slices_Compact___int_int_ 1001 Tryz.f117 ds H := textG_eq Tryz.func117 ds H
theorem C_Compact : HCallOk Tryz.prog 117 (G_Compact Tryz.prog) := hcall_G T12f_ok mixed Tryz.func117 (by kernel_rfl) (by decide)
theorem idx_tail (id o n i : Nat) (h : i < n) : idxH 1 (.ht id o n) (iD i) = some (.hp id (o + i)) := by simp [idxH, h]
theorem clear_own {H : Heap} {id : Nat} {t : TypeId} {c : List Int} (h : H[id]? = some (.cells t 1 (intsC c))) (o n : Nat) (hn : o + n ≤ c.length) : ∃ z, clearH 1 [iD 0] (.ht id o n) H = some (.v undef, H.set id (.cells t 1 (intsC (c.take o ++ z)))) := by
  refine ⟨List.replicate n 0 ++ c.drop (o + n), ?_⟩
  have hc : (intsC c).length = c.length := intsC_len c
  simp only [clearH, htOf, Option.bind_some, h]
  rw [if_pos ⟨trivial, rfl, by simp [hc]; omega, rfl⟩]
  congr 3
  simp [intsC, List.map_take, List.map_drop]
theorem clear_own0 {H : Heap} {id : Nat} {t : TypeId} {c : List Int} (h : H[id]? = some (.cells t 1 (intsC c))) (n : Nat) (hn : n ≤ c.length) : ∃ z, clearH 1 [iD 0] (.hs id n) H = some (.v undef, H.set id (.cells t 1 (intsC z))) := by
  refine ⟨List.replicate n 0 ++ c.drop n, ?_⟩
  have hc : (intsC c).length = c.length := intsC_len c
  simp only [clearH, htOf, Option.bind_some, h]
  rw [if_pos ⟨trivial, rfl, by simp [hc]; omega, rfl⟩]
  congr 3
  simp [intsC, List.map_take, List.map_drop]
theorem cut_from (id n k : Nat) (h0 : 0 < k) (h : k ≤ n) : cutH 1 (.hs id n) (some (iD k)) none = some (.ht id k (n - k)) := by
  simp [cutH, lowD, highD, h]; omega
theorem cut_from0 (id n : Nat) : cutH 1 (.hs id n) (some (iD 0)) none = some (.hs id n) := by
  simp [cutH, lowD, highD]
theorem cut_to (id n k : Nat) (h : k ≤ n) : cutH 1 (.hs id n) none (some (iD k)) = some (.hs id k) := by
  simp [cutH, lowD, highD, h]

/-- The second part: what is not like the one ahead is put behind the others. -/
theorem compact_move (id n k0 : Nat) (t : TypeId) (l : List Int) (H0 : Heap) (X : D) (hid : ∃ o, H0[id]? = some o) (hl : l.length = n) (hn : n ≤ 1000) (hk0 : 0 < k0) (hk : k0 < n) (hd : dedV l k0 = l.take k0) (he : l.getD k0 0 = l.getD (k0 - 1) 0) :
    ∃ (k : Nat) (c : List Int), iterS (stepF Tryz.prog (T12f Tryz.prog) kp_slices_Compact___int_int_ 1001 Tryz.f117 1) 1001 [.hs id n, X, iD k0, .ht id k0 (n - k0), iD 1] (H0.set id (.cells t 1 (intsC l))) =
      some (.exit 2, [.hs id n, X, iD k, .ht id k0 (n - k0), iD ((n - k0 : Nat) : Int)], H0.set id (.cells t 1 (intsC c))) ∧ c.length = n ∧ c.take k = dedV l n ∧ 0 < k ∧ k ≤ n := by
  have key : ∀ (m j : Nat) (k : Nat) (c : List Int) (f : Nat), j + m = n - k0 → 1 ≤ j → m < f → c.length = n → c.take k = dedV l (k0 + j) → k0 ≤ k → k < k0 + j → (∀ p, k0 + j - 1 ≤ p → c.getD p 0 = l.getD p 0) →
      ∃ (k' : Nat) (c' : List Int), iterS (stepF Tryz.prog (T12f Tryz.prog) kp_slices_Compact___int_int_ 1001 Tryz.f117 1) f [.hs id n, X, iD k, .ht id k0 (n - k0), iD j] (H0.set id (.cells t 1 (intsC c))) =
      some (.exit 2, [.hs id n, X, iD k', .ht id k0 (n - k0), iD ((n - k0 : Nat) : Int)], H0.set id (.cells t 1 (intsC c'))) ∧ c'.length = n ∧ c'.take k' = dedV l n ∧ 0 < k' ∧ k' ≤ n := by
    intro m
    induction m with
    | zero =>
      intro j k c f hj h1 hf hc ht hk1 hk2 hp
      obtain ⟨f, rfl⟩ : ∃ x, f = x + 1 := ⟨f - 1, by omega⟩
      obtain rfl : j = n - k0 := by omega
      refine ⟨k, c, iterS_exit ?_, hc, by rw [ht, show k0 + (n - k0) = n by omega], by omega, by omega⟩
      rw [st_slices_Compact___int_int__1]
      simp
    | succ m ih =>
      intro j k c f hj h1 hf hc ht hk1 hk2 hp
      obtain ⟨f, rfl⟩ : ∃ x, f = x + 1 := ⟨f - 1, by omega⟩
      have hg : (H0.set id (.cells t 1 (intsC c)))[id]? = some (.cells t 1 (intsC c)) := own_set hid
      have i1 := idx_tail id k0 (n - k0) j (by omega)
      have i2 := idx_tail id k0 (n - k0) (j - 1) (by omega)
      have i3 := idx_own id n k (by omega)
      have l1 := load_own hg (k0 + j) (by omega)
      have l2 := load_own hg (k0 + (j - 1)) (by omega)
      have e1 := intD_sub (j : Int) 1 (by omega) (by omega)
      have e2 := intD_add (j : Int) 1 (by omega) (by omega)
      have e3 := intD_add (k : Int) 1 (by omega) (by omega)
      have c1 : ((j : Nat) : Int) - 1 = ((j - 1 : Nat) : Int) := by omega
      have c2 : ((j : Nat) : Int) + 1 = ((j + 1 : Nat) : Int) := by omega
      have c3 : ((k : Nat) : Int) + 1 = ((k + 1 : Nat) : Int) := by omega
      rw [c1] at e1
      rw [c2] at e2
      rw [c3] at e3
      have hlt : (j : Int) < ((n - k0 : Nat) : Int) := by omega
      have hdl : dedV l (k0 + (j + 1)) = dedS (dedV l (k0 + j)) (l.getD (k0 + j) 0) := dedV_succ l (k0 + j) (by omega)
      have hla : (dedV l (k0 + j)).getLast? = some (l.getD (k0 + (j - 1)) 0) := by
        have := dedV_last l (k0 + (j - 1)) (by omega)
        rwa [show k0 + (j - 1) + 1 = k0 + j by omega] at this
      rw [hp (k0 + j) (by omega)] at l1
      rw [hp (k0 + (j - 1)) (by omega)] at l2
      by_cases hx : l.getD (k0 + j) 0 = l.getD (k0 + (j - 1)) 0
      · obtain ⟨k', c', q1, q2⟩ := ih (j + 1) k c f (by omega) (by omega) (by omega) hc (by rw [hdl, ht]; unfold dedS; rw [if_pos (by rw [hla, hx])]) (by omega) (by omega) (fun p hp' => hp p (by omega))
        refine ⟨k', c', ?_, q2⟩
        rw [iterS_go]
        · exact q1
        · rw [st_slices_Compact___int_int__1]
          simp only [lenH_ht, thn_some, binK_lss, hlt, decide_true, condK_bool, if_true, i1, l1, binK_sub, e1, i2, l2, binK_neq, hx, bne_self_eq_false, Bool.false_eq_true, if_false, binK_int, e2]
      · have st := set_own hg k (by omega) (l.getD (k0 + j) 0)
        rw [List.set_set] at st
        obtain ⟨k', c', q1, q2⟩ := ih (j + 1) (k + 1) (c.set k (l.getD (k0 + j) 0)) f (by omega) (by omega) (by omega) (by simpa using hc)
          (by rw [hdl, take_set_succ _ _ _ (by omega), ht]; unfold dedS; rw [if_neg (by rw [hla]; intro e; exact hx (Option.some.inj e).symm)]) (by omega) (by omega) (fun p hp' => by rw [getD_set_other _ _ _ _ (by omega)]; exact hp p (by omega))
        refine ⟨k', c', ?_, q2⟩
        rw [iterS_go]
        · exact q1
        · rw [st_slices_Compact___int_int__1]
          have hb : (l.getD (k0 + j) 0 != l.getD (k0 + (j - 1)) 0) = true := bne_iff_ne.2 hx
          simp only [lenH_ht, thn_some, binK_lss, hlt, decide_true, condK_bool, if_true, i1, l1, binK_sub, e1, i2, l2, binK_neq, hb, i3, st, thnH_some, binK_int, e2, e3]
  refine key (n - k0 - 1) 1 k0 l 1001 (by omega) (by omega) (by omega) hl ?_ (Nat.le_refl _) (by omega) (fun p _ => rfl)
  have := dedV_succ l k0 (by omega)
  rw [this, hd]
  unfold dedS
  rw [if_pos]
  have hla := dedV_last l (k0 - 1) (by omega)
  rw [show k0 - 1 + 1 = k0 by omega, hd] at hla
  rw [hla, he]

/-- What is left of a row. -/
theorem compact_ok (id n : Nat) (t : TypeId) (l : List Int) (H : Heap) (hid : H[id]? = some (.cells t 1 (intsC l))) (hl : l.length = n) (hn2 : 2 ≤ n) (hn : n ≤ 1000) :
    ∃ (c : List Int), G_Compact Tryz.prog [.hs id n] H = some (.hs id (dedV l n).length, H.set id (.cells t 1 (intsC c))) ∧ c.take (dedV l n).length = dedV l n := by
  rw [G_Compact_eq, sh_slices_Compact___int_int_]
  have key : ∀ (m k f : Nat), k + m = n → 1 ≤ k → m < f → dedV l k = l.take k → (∃ (c : List Int), iterS (stepF Tryz.prog (T12f Tryz.prog) kp_slices_Compact___int_int_ 1001 Tryz.f117 0) f [.hs id n, .v (.slice none 0 0), iD k, .undef, .undef] H =
      some (.exit 0, [.hs id n, .v (.slice none 0 0), iD n, .undef, .undef], H) ∧ dedV l n = l) ∨
      (∃ (c : List Int) (s0 s2 s3 s4 : D), iterS (stepF Tryz.prog (T12f Tryz.prog) kp_slices_Compact___int_int_ 1001 Tryz.f117 0) f [.hs id n, .v (.slice none 0 0), iD k, .undef, .undef] H =
      some (.ret, [s0, .hs id (dedV l n).length, s2, s3, s4], H.set id (.cells t 1 (intsC c))) ∧ c.take (dedV l n).length = dedV l n) := by
    intro m
    induction m with
    | zero =>
      intro k f hk h1 hf hd
      obtain ⟨f, rfl⟩ : ∃ x, f = x + 1 := ⟨f - 1, by omega⟩
      obtain rfl : k = n := by omega
      refine .inl ⟨[], iterS_exit ?_, by rw [hd, ← hl, List.take_length]⟩
      rw [st_slices_Compact___int_int__0]
      simp
    | succ m ih =>
      intro k f hk h1 hf hd
      obtain ⟨f, rfl⟩ : ∃ x, f = x + 1 := ⟨f - 1, by omega⟩
      have i1 := idx_own id n k (by omega)
      have i2 := idx_own id n (k - 1) (by omega)
      have l1 := load_own hid k (by omega)
      have l2 := load_own hid (k - 1) (by omega)
      have e1 := intD_sub (k : Int) 1 (by omega) (by omega)
      have e2 := intD_add (k : Int) 1 (by omega) (by omega)
      have c1 : ((k : Nat) : Int) - 1 = ((k - 1 : Nat) : Int) := by omega
      have c2 : ((k : Nat) : Int) + 1 = ((k + 1 : Nat) : Int) := by omega
      rw [c1] at e1
      rw [c2] at e2
      have hlt : (k : Int) < (n : Int) := by omega
      by_cases hx : l.getD k 0 = l.getD (k - 1) 0
      · right
        obtain ⟨k', c, q1, q2, q3, q4, q5⟩ := compact_move id n k t l H (.v (.slice none 0 0)) ⟨_, hid⟩ hl hn (by omega) (by omega) hd hx
        rw [set_self hid] at q1
        have q1L : loopF Tryz.prog (T12f Tryz.prog) kp_slices_Compact___int_int_ 1001 Tryz.f117 1 [.hs id n, .v (.slice none 0 0), iD k, .ht id k (n - k), iD 1] H = _ := q1
        have hkl : (dedV l n).length = k' := by rw [← q3, List.length_take]; omega
        have hg : (H.set id (.cells t 1 (intsC c)))[id]? = some (.cells t 1 (intsC c)) := own_set ⟨_, hid⟩
        obtain ⟨z, hz⟩ := clear_own hg k' (n - k') (by omega)
        rw [List.set_set] at hz
        have f1 := cut_from id n k (by omega) (by omega)
        have f2 := cut_from id n k' (by omega) (by omega)
        have f3 := cut_to id n k' (by omega)
        refine ⟨c.take k' ++ z, .hs id n, iD k', .ht id k (n - k), iD ((n - k : Nat) : Int), ?_, ?_⟩
        · refine iterS_ret ?_
          rw [st_slices_Compact___int_int__0]
          simp only [lenH_hs, thn_some, binK_lss, hlt, decide_true, condK_bool, if_true, i1, l1, binK_sub, e1, i2, l2, binK_eql, hx, beq_self_eq_true, f1, q1L, leaveK_exit, condN_same, List.getD_cons_zero, List.getD_cons_succ, f2, hz, thnH_some, f3, hkl]
        · rw [hkl, List.take_append_of_le_length (by simp; omega), List.take_take, Nat.min_self, q3]
      · have h2 : dedV l (k + 1) = l.take (k + 1) := by
          rw [dedV_succ l k (by omega), hd, List.take_succ_eq_append_getElem (by omega)]
          have hla := dedV_last l (k - 1) (by omega)
          rw [show k - 1 + 1 = k by omega, hd] at hla
          unfold dedS
          rw [if_neg (by rw [hla]; intro e; exact hx (Option.some.inj e).symm), getD_in _ _ _ (by omega : k < l.length)]
        have hgo : stepF Tryz.prog (T12f Tryz.prog) kp_slices_Compact___int_int_ 1001 Tryz.f117 0 [.hs id n, .v (.slice none 0 0), iD k, .undef, .undef] H = some (.normal, [.hs id n, .v (.slice none 0 0), iD ((k + 1 : Nat) : Int), .undef, .undef], H) := by
          rw [st_slices_Compact___int_int__0]
          have hb : (l.getD k 0 == l.getD (k - 1) 0) = false := by rw [beq_eq_false_iff_ne]; exact hx
          simp only [lenH_hs, thn_some, binK_lss, hlt, decide_true, condK_bool, if_true, i1, l1, binK_sub, e1, i2, l2, binK_eql, hb, Bool.false_eq_true, if_false, binK_int, e2]
        rw [iterS_go hgo]
        exact ih (k + 1) f (by omega) (by omega) (by omega) h2
  have hlt : ¬ (n : Int) < 2 := by omega
  rcases key (n - 1) 1 1001 (by omega) (by omega) (by omega) (by
    rw [dedV_succ l 0 (by omega), dedV_zero, List.take_succ_eq_append_getElem (by omega), getD_in _ _ _ (by omega : 0 < l.length)]; simp [dedS]) with ⟨c, q1, q2⟩ | ⟨c, s0, s2, s3, s4, q1, q2⟩
  · refine ⟨l, ?_, by rw [q2, List.take_length]⟩
    have q1' : loopF Tryz.prog (T12f Tryz.prog) kp_slices_Compact___int_int_ 1001 Tryz.f117 0 [.hs id n, .v (.slice none 0 0), iD 1, .undef, .undef] H = _ := q1
    simp only [lenH_hs, thn_some, binK_lss, hlt, decide_false, condK_bool, Bool.false_eq_true, if_false, q1', leaveK_exit, condN_same, List.getD_cons_zero, q2, hl, set_self hid]
  · refine ⟨c, ?_, q2⟩
    have q1' : loopF Tryz.prog (T12f Tryz.prog) kp_slices_Compact___int_int_ 1001 Tryz.f117 0 [.hs id n, .v (.slice none 0 0), iD 1, .undef, .undef] H = _ := q1
    simp only [lenH_hs, thn_some, binK_lss, hlt, decide_false, condK_bool, Bool.false_eq_true, if_false, q1', leaveK_ret, List.getD_cons_zero, List.getD_cons_succ]

/- Whether a number is the one that is not wanted. -/
def G_onceC (P : Program) : List D → Heap → Option (D × Heap) := textG P (T12f P) kp_catalog_once_int__1 0 119
theorem G_onceC_eq (ds : List D) (H : Heap) : G_onceC Tryz.prog ds H = textK Tryz.prog (T12f Tryz.prog) kp_catalog_once_int__1 0 Tryz.f119 ds H := textG_eq Tryz.func119 ds H
theorem C_onceC : HCallOk Tryz.prog 119 (G_onceC Tryz.prog) := hcall_G T12f_ok mixed Tryz.func119 (by kernel_rfl) (by decide)
theorem onceC_ok (x but : Int) (b : Nat) (t : TypeId) (H : Heap) (hb : H[b]? = some (.cells t 1 [iD but])) : G_onceC Tryz.prog [iD x, .hp b 0] H = some (bD (decide (x = but)), H) := by
  rw [G_onceC_eq, sh_catalog_once_int__1]
  have l1 := load_cell0 H b _ _ _ _ hb
  simp only [l1, thn_some, binK_eql]
  rfl
def fs13a (P : Program) : List Entry := (89, true, liftF F_isNaN) :: (150, false, G_len64 P) :: (117, false, G_Compact P) :: (119, false, G_onceC P) :: (42, true, liftN F_Part) :: fs12f P
theorem fs13a_ok : ∀ p ∈ fs13a Tryz.prog, EntryOk Tryz.prog p := entries_cons (entry_lift C_isNaN) <| entries_cons (entry_obj C_len64) <| entries_cons (entry_obj C_Compact) <| entries_cons (entry_obj C_onceC) <| entries_cons (entry_new N_Part) <| fs12f_ok
def T13a (P : Program) : Tab := ⟨fs13a P, noYl⟩
theorem T13a_ok : TabOk Tryz.prog (T13a Tryz.prog) := tabOk_of fs13a_ok
end Go.Proofs.YtinnbafplhcnpaaGreat
end

section
namespace Go.Proofs.YtinnbafplhcnpaaGreat
open Go.RowKit
set_option linter.unusedVariables false
set_option maxRecDepth 100000

def kp_cmp_Less_int_ : List Nat := []
theorem sh_cmp_Less_int_ (n : Nat) (x0 x1 : D) (h : Heap) : textK Tryz.prog (T13a Tryz.prog) kp_cmp_Less_int_ n Tryz.f146 [x0, x1] h =
(thnH (liftF F_isNaN [x0] h) fun y0 h1 =>
condK y0
(thnH (liftF F_isNaN [x1] h1) fun y2 h3 =>
thn (notD y2) fun y4 =>
condK y4
(some ((bD true), h3))
(thn (binK .int .lss x0 x1) fun y5 =>
some (y5, h3)))
(thn (binK .int .lss x0 x1) fun y6 =>
some (y6, h1))) := by kernel_rfl

def kp_slices_IndexFunc___int_int_ : List Nat := [0, 1, 4, 7, 8]
theorem sh_slices_IndexFunc___int_int_ (n : Nat) (x0 x1 : D) (h : Heap) : textK Tryz.prog (T13a Tryz.prog) kp_slices_IndexFunc___int_int_ n Tryz.f133 [x0, x1] h =
(thn (lenH .sl x0) fun y0 =>
leaveK (loopF Tryz.prog (T13a Tryz.prog) kp_slices_IndexFunc___int_int_ n Tryz.f133 0 [x0, x1, (iD 0), y0, (iD 0)] h) (fun j1 s2 h3 =>
condN j1 0
(some ((iD (-1)), h3))
(none)) (fun s2 h3 =>
some ((s2.getD 2 .undef), h3))) := by kernel_rfl

theorem st_slices_IndexFunc___int_int__0 (n : Nat) (s0 s1 s2 s3 s4 : D) (h : Heap) : stepF Tryz.prog (T13a Tryz.prog) kp_slices_IndexFunc___int_int_ n Tryz.f133 0 [s0, s1, s2, s3, s4] h =
(thn (binK .int .lss s4 s3) fun y0 =>
condK y0
(thn (idxH 1 s0 s4) fun y1 =>
thn (loadH none h y1) fun y2 =>
thnH (callClo (T13a Tryz.prog) s1 [y2] h) fun y3 h4 =>
condK y3
(some (.ret, [s0, s1, s4, s3, s4], h4))
(thn (binK .int .add s4 (iD 1)) fun y5 =>
some (.normal, [s0, s1, s2, s3, y5], h4)))
(some ((.exit 0), [s0, s1, s2, s3, s4], h))) := by kernel_rfl

end Go.Proofs.YtinnbafplhcnpaaGreat
end

section
namespace Go.Proofs.YtinnbafplhcnpaaGreat
open Go.RowKit
set_option linter.unusedVariables false
set_option linter.unusedSimpArgs false
set_option maxRecDepth 100000

def F_cmpLess : List D → Option D := F2 intT intT fun a b => some (bD (decide (a < b)))
theorem C_cmpLess : CallOk Tryz.prog 146 F_cmpLess := call2 (kp := kp_cmp_Less_int_) T13a_ok mixed Tryz.func146 (by kernel_rfl) (by decide) fun a b d h => by
  cases h
  refine ⟨0, _, ?_, Imp.refl _⟩
  show outD (textK _ _ _ _ _ [iD a, iD b] []) = _
  rw [sh_cmp_Less_int_]
  simp [isNaN_pure]
theorem less_pure13 (a b : Int) (H : Heap) : liftF F_cmpLess [iD a, iD b] H = some (bD (decide (a < b)), H) := by
  rw [liftF_pure _ _ _ rfl]
  have : F_cmpLess [iD a, iD b] = _ := f2_enc (A := intT) (B := intT) _ a b
  rw [this]; rfl
def G_len (P : Program) : List D → Heap → Option (D × Heap) := textG P (T13a P) [] 0 132
theorem C_len : HCallOk Tryz.prog 132 (G_len Tryz.prog) := hcall_G T13a_ok mixed Tryz.func132 (by kernel_rfl) (by decide)
def onceCl (b : Nat) : D := .clo (.func 119) [] [.hp b 0]
theorem onceC_a (x : Int) (b : Nat) (H : Heap) : callClo (T13a Tryz.prog) (onceCl b) [iD x] H = G_onceC Tryz.prog [iD x, .hp b 0] H := rfl
def G_idxF13 (P : Program) : List D → Heap → Option (D × Heap) := textG P (T13a P) kp_slices_IndexFunc___int_int_ 1001 133
theorem G_idxF13_eq (ds : List D) (H : Heap) : G_idxF13 Tryz.prog ds H = textK Tryz.prog (T13a Tryz.prog) kp_slices_IndexFunc___int_int_ 1001 Tryz.f133 ds H := textG_eq Tryz.func133 ds H
theorem C_idxF13 : HCallOk Tryz.prog 133 (G_idxF13 Tryz.prog) := hcall_G T13a_ok mixed Tryz.func133 (by kernel_rfl) (by decide)
/-- The first one that is as it should not be. -/
theorem idxF13_ok (id n b : Nat) (t tb : TypeId) (c : List Int) (but : Int) (H : Heap) (hid : H[id]? = some (.cells t 1 (intsC c))) (hb : H[b]? = some (.cells tb 1 [iD but])) (hn : n ≤ c.length) (hn1 : n ≤ 1000) :
    (G_idxF13 Tryz.prog [.hs id n, onceCl b] H = some (iD (-1), H) ∧ ∀ p, p < n → c.getD p 0 ≠ but) ∨
    ∃ i, i < n ∧ G_idxF13 Tryz.prog [.hs id n, onceCl b] H = some (iD i, H) ∧ c.getD i 0 = but ∧ ∀ p, p < i → c.getD p 0 ≠ but := by
  rw [G_idxF13_eq, sh_slices_IndexFunc___int_int_]
  have hs := loopF_scan (P := Tryz.prog) (T := T13a Tryz.prog) (kp := kp_slices_IndexFunc___int_int_) (fn := Tryz.f133) (li := 0) (fun i => [.hs id n, onceCl b, iD 0, iD n, iD i]) H n (fun i => !decide (c.getD i 0 = but))
    (fun i => (.ret, [.hs id n, onceCl b, iD i, iD n, iD i], H)) (.exit 0, [.hs id n, onceCl b, iD 0, iD n, iD n], H)
    (fun i => by intro e; cases e) (by intro e; cases e) 0 1001 (Nat.zero_le _) (by omega)
    (fun i _ hi hp => by
      have e1 := intD_add (i : Int) 1 (by omega) (by omega)
      have h4 : (i : Int) < n := by omega
      have i1 := idx_own id n i hi
      have l1 := load_own hid i (by omega)
      have o1 := onceC_ok (c.getD i 0) but b tb H hb
      rw [Bool.not_eq_true', decide_eq_false_iff_not] at hp
      have hd : decide (c.getD i 0 = but) = false := by rw [decide_eq_false_iff_not]; exact hp
      rw [st_slices_IndexFunc___int_int__0]
      simp only [binK_lss, h4, decide_true, thn_some, condK_bool, if_true, i1, l1, onceC_a, o1, thnH_some, hd, Bool.false_eq_true, if_false, binK_int, e1]
      rfl)
    (fun i _ hi hp => by
      have h4 : (i : Int) < n := by omega
      have i1 := idx_own id n i hi
      have l1 := load_own hid i (by omega)
      have o1 := onceC_ok (c.getD i 0) but b tb H hb
      rw [Bool.not_eq_false', decide_eq_true_eq] at hp
      have hd : decide (c.getD i 0 = but) = true := by rw [decide_eq_true_eq]; exact hp
      rw [st_slices_IndexFunc___int_int__0]
      simp only [binK_lss, h4, decide_true, thn_some, condK_bool, if_true, i1, l1, onceC_a, o1, thnH_some, hd])
    (by rw [st_slices_IndexFunc___int_int__0]; simp)
  rcases hs with ⟨q1, q2⟩ | ⟨i, q0, q1, q2, q3, q4⟩
  · refine .inl ⟨?_, fun p hp => ?_⟩
    · simp only [cast0] at q2
      simp only [lenH_hs, thn_some, q2, leaveK_exit, condN_same]
    · have := q1 p (Nat.zero_le _) hp
      simpa using this
  · refine .inr ⟨i, q1, ?_, ?_, fun p hp => ?_⟩
    · simp only [cast0] at q4
      simp only [lenH_hs, thn_some, q4, leaveK_ret, List.getD_cons_zero, List.getD_cons_succ]
    · simpa using q2
    · have := q3 p (Nat.zero_le _) hp
      simpa using this
def fs13b (P : Program) : List Entry := (146, true, liftF F_cmpLess) :: (132, false, G_len P) :: (133, false, G_idxF13 P) :: fs13a P
theorem fs13b_ok : ∀ p ∈ fs13b Tryz.prog, EntryOk Tryz.prog p := entries_cons (entry_lift C_cmpLess) <| entries_cons (entry_obj C_len) <| entries_cons (entry_obj C_idxF13) <| fs13a_ok
def T13b (P : Program) : Tab := ⟨fs13b P, noYl⟩
theorem T13b_ok : TabOk Tryz.prog (T13b Tryz.prog) := tabOk_of fs13b_ok
end Go.Proofs.YtinnbafplhcnpaaGreat
end

section
namespace Go.Proofs.YtinnbafplhcnpaaGreat
open Go.RowKit
set_option linter.unusedVariables false
set_option maxRecDepth 100000

def kp_slices_insertionSortOrdered_int_ : List Nat := [0, 1, 2, 6, 7]
theorem sh_slices_insertionSortOrdered_int_ (n : Nat) (x0 x1 x2 : D) (h : Heap) : textK Tryz.prog (T13b Tryz.prog) kp_slices_insertionSortOrdered_int_ n Tryz.f140 [x0, x1, x2] h =
(thn (binK .int .add x1 (iD 1)) fun y0 =>
leaveK (loopF Tryz.prog (T13b Tryz.prog) kp_slices_insertionSortOrdered_int_ n Tryz.f140 0 [x0, x1, x2, y0, .undef] h) (fun j1 s2 h3 =>
condN j1 0
(some (.tup [], h3))
(none)) (fun s2 h3 =>
some (.tup [], h3))) := by kernel_rfl

theorem st_slices_insertionSortOrdered_int__0 (n : Nat) (s0 s1 s2 s3 s4 : D) (h : Heap) : stepF Tryz.prog (T13b Tryz.prog) kp_slices_insertionSortOrdered_int_ n Tryz.f140 0 [s0, s1, s2, s3, s4] h =
(thn (binK .int .lss s3 s2) fun y0 =>
condK y0
(leaveK (loopF Tryz.prog (T13b Tryz.prog) kp_slices_insertionSortOrdered_int_ n Tryz.f140 1 [s0, s1, s2, s3, s3] h) (fun j1 s2 h3 =>
condN j1 2
(thn (binK .int .add (s2.getD 3 .undef) (iD 1)) fun y4 =>
some (.normal, [(s2.getD 0 .undef), (s2.getD 1 .undef), (s2.getD 2 .undef), y4, (s2.getD 4 .undef)], h3))
(condN j1 1
(thn (binK .int .add (s2.getD 3 .undef) (iD 1)) fun y5 =>
some (.normal, [(s2.getD 0 .undef), (s2.getD 1 .undef), (s2.getD 2 .undef), y5, (s2.getD 4 .undef)], h3))
(some ((.exit j1), [(s2.getD 0 .undef), (s2.getD 1 .undef), (s2.getD 2 .undef), (s2.getD 3 .undef), (s2.getD 4 .undef)], h3)))) (fun s2 h3 =>
some (.ret, [(s2.getD 0 .undef), (s2.getD 1 .undef), (s2.getD 2 .undef), (s2.getD 3 .undef), (s2.getD 4 .undef)], h3)))
(some ((.exit 0), [s0, s1, s2, s3, s4], h))) := by kernel_rfl

theorem st_slices_insertionSortOrdered_int__1 (n : Nat) (s0 s1 s2 s3 s4 : D) (h : Heap) : stepF Tryz.prog (T13b Tryz.prog) kp_slices_insertionSortOrdered_int_ n Tryz.f140 1 [s0, s1, s2, s3, s4] h =
(thn (binK .int .gtr s4 s1) fun y0 =>
condK y0
(thn (idxH 1 s0 s4) fun y1 =>
thn (loadH none h y1) fun y2 =>
thn (binK .int .sub s4 (iD 1)) fun y3 =>
thn (idxH 1 s0 y3) fun y4 =>
thn (loadH none h y4) fun y5 =>
thnH (liftF F_cmpLess [y2, y5] h) fun y6 h7 =>
condK y6
(thn (binK .int .sub s4 (iD 1)) fun y8 =>
thn (binK .int .sub s4 (iD 1)) fun y9 =>
thn (idxH 1 s0 y9) fun y10 =>
thn (loadH none h7 y10) fun y11 =>
thn (idxH 1 s0 s4) fun y12 =>
thn (loadH none h7 y12) fun y13 =>
thn (idxH 1 s0 s4) fun y14 =>
thnH (setH 1 y14 y11 h7) fun y15 h16 =>
thn (idxH 1 s0 y8) fun y17 =>
thnH (setH 1 y17 y13 h16) fun y18 h19 =>
thn (binK .int .sub s4 (iD 1)) fun y20 =>
some (.normal, [s0, s1, s2, s3, y20], h19))
(some ((.exit 2), [s0, s1, s2, s3, s4], h7)))
(some ((.exit 2), [s0, s1, s2, s3, s4], h))) := by kernel_rfl

def kp_slices_DeleteFunc___int_int_ : List Nat := [0, 1, 5, 6]
theorem sh_slices_DeleteFunc___int_int_ (n : Nat) (x0 x1 : D) (h : Heap) : textK Tryz.prog (T13b Tryz.prog) kp_slices_DeleteFunc___int_int_ n Tryz.f118 [x0, x1] h =
(thnH ((G_idxF13 Tryz.prog) [x0, x1] h) fun y0 h1 =>
thn (binK .int .eql y0 (iD (-1))) fun y2 =>
condK y2
(some (x0, h1))
(thn (binK .int .add y0 (iD 1)) fun y3 =>
leaveK (loopF Tryz.prog (T13b Tryz.prog) kp_slices_DeleteFunc___int_int_ n Tryz.f118 0 [x0, x1, y0, y3] h1) (fun j4 s5 h6 =>
condN j4 0
(thn (cutH 1 (s5.getD 0 .undef) (some (s5.getD 2 .undef)) none) fun y7 =>
thnH (clearH 1 [(iD 0)] y7 h6) fun y8 h9 =>
thn (cutH 1 (s5.getD 0 .undef) none (some (s5.getD 2 .undef))) fun y10 =>
some (y10, h9))
(none)) (fun s5 h6 =>
some (.undef, h6)))) := by kernel_rfl

theorem st_slices_DeleteFunc___int_int__0 (n : Nat) (s0 s1 s2 s3 : D) (h : Heap) : stepF Tryz.prog (T13b Tryz.prog) kp_slices_DeleteFunc___int_int_ n Tryz.f118 0 [s0, s1, s2, s3] h =
(thn (lenH .sl s0) fun y0 =>
thn (binK .int .lss s3 y0) fun y1 =>
condK y1
(thn (idxH 1 s0 s3) fun y2 =>
thn (loadH none h y2) fun y3 =>
thnH (callClo (T13b Tryz.prog) s1 [y3] h) fun y4 h5 =>
thn (notD y4) fun y6 =>
condK y6
(thn (idxH 1 s0 s2) fun y7 =>
thnH (setH 1 y7 y3 h5) fun y8 h9 =>
thn (binK .int .add s2 (iD 1)) fun y10 =>
thn (binK .int .add s3 (iD 1)) fun y11 =>
some (.normal, [s0, s1, y10, y11], h9))
(thn (binK .int .add s3 (iD 1)) fun y12 =>
some (.normal, [s0, s1, s2, y12], h5)))
(some ((.exit 0), [s0, s1, s2, s3], h))) := by kernel_rfl

end Go.Proofs.YtinnbafplhcnpaaGreat
end
