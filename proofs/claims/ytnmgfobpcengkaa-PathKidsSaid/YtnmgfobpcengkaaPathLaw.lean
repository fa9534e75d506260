/-
  Plain laws on paths: each node has one, they lead back, they stand in order.
-/
import Derived.Test.YtnmgfobpcengkaaOf
import Derived.Test.YtnmgfobpcengkaaFind
import Derived.Test.YtnmgfobpcengkaaRefOf
import Derived.Test.YtnmgfobpcengkaaCompare
namespace Go.Proofs.Ytnmgfobpcengkaa

/-- The numbers from a on, ahead of b. -/
def seg (a b : Int) : List Int := (List.range (b - a).toNat).map (fun j : Nat => a + (j : Int))
theorem seg_self (a : Int) : seg a a = [] := by simp [seg]
theorem mem_seg (a b x : Int) : x ∈ seg a b ↔ a ≤ x ∧ x < b := by
  simp only [seg, List.mem_map, List.mem_range]
  constructor
  · rintro ⟨j, hj, rfl⟩; omega
  · rintro ⟨h1, h2⟩; exact ⟨(x - a).toNat, by omega, by omega⟩
theorem seg_append (a b c : Int) (h1 : a ≤ b) (h2 : b ≤ c) : seg a b ++ seg b c = seg a c := by
  unfold seg
  rw [show (c - a).toNat = (b - a).toNat + (c - b).toNat from by omega, List.range_add, List.map_append, List.map_map]
  congr 1
  apply List.map_congr_left
  intro j _
  simp only [Function.comp]
  omega
theorem seg_cons (a b : Int) (h : a < b) : a :: seg (a + 1) b = seg a b := by
  rw [← seg_append a (a + 1) b (by omega) (by omega)]
  have : seg a (a + 1) = [a] := by
    unfold seg
    rw [show (a + 1 - a).toNat = 1 from by omega]
    simp
  rw [this]; rfl
theorem seg_sorted (a b : Int) : (seg a b).Pairwise (· < ·) := by
  unfold seg
  rw [List.pairwise_map]
  exact (List.pairwise_lt_range).imp (fun h => by omega)

theorem kidsv_get (l : List Nd) (k : Nat) (h : 0 ≤ endv l k) (c : Nat) (hc : c < (kidsv l k).length) : (kidsv l k)[c] = kth l (k + 1) c ∧ c < (arAt l k).toNat := by
  have e := kidsv_eq l k h
  have hl : (kidsv l k).length = (arAt l k).toNat := by rw [e, upto_length]
  refine ⟨?_, by omega⟩
  have : (kidsv l k)[c] = (upto (kth l (k + 1)) (arAt l k).toNat)[c]'(by rw [upto_length]; omega) := by
    congr 1
  rw [this]
  simp [upto]
theorem kidsv_length (l : List Nd) (k : Nat) (h : 0 ≤ endv l k) : (kidsv l k).length = (arAt l k).toNat := by rw [kidsv_eq l k h, upto_length]

/-- The nodes come in order. -/
theorem pathsV_places (l : List Nd) : ∀ (f : Nat) (i : Int) (own : List Int), 0 ≤ endv l i → (l.length : Int) < i + f → (pathsV f l i own).map (·.1) = seg i (endv l i)
  | 0, i, own, h, hf => by
    obtain ⟨h0, h1⟩ := endv_in l i h
    omega
  | f + 1, i, own, h, hf => by
    obtain ⟨h0, h1⟩ := endv_in l i h
    obtain ⟨k, rfl⟩ := Int.eq_ofNat_of_zero_le h0
    have key : ∀ c, c ≤ (kidsv l k).length → (pathsTo f l k own c).map (·.1) = seg (k + 1) (kth l (k + 1) c) := by
      intro c
      induction c with
      | zero => intro _; rw [pathsTo_zero]; show [] = seg _ (k + 1); rw [seg_self]
      | succ c ih =>
        intro hc
        have hc' : c < (kidsv l k).length := by omega
        obtain ⟨e, hca⟩ := kidsv_get l k h c hc'
        have hr := kth_range l k h c hca
        have he := kth_end l k h c hca
        rw [pathsTo_succ f l k own c hc', List.map_append, ih (by omega), e, pathsV_places l f _ _ hr.2.2.1 (by omega), he.2]
        exact seg_append _ _ _ (by have := kth_mono l k h 0 c (by omega); have h3 : kth l (k + 1) 0 = k + 1 := rfl; rw [Nat.zero_add] at this; omega) (by omega)
    rw [← pathsTo_all, List.map_cons, key _ (Nat.le_refl _), kidsv_length l k h, kth_last l k h]
    exact seg_cons _ _ (by have := endv_gt l k h; omega)

/-- Each path leads to its node. -/
theorem pathsV_down (l : List Nd) : ∀ (f : Nat) (i : Int) (own : List Int) (x : Int × List Int), x ∈ pathsV f l i own → ∃ q, x.2 = own ++ q ∧ downV l i q = x.1
  | 0, i, own, x, h => by
    obtain rfl : x = (i, own) := by simpa [pathsV] using h
    exact ⟨[], by simp, rfl⟩
  | f + 1, i, own, x, h => by
    rw [pathsV, List.mem_cons] at h
    rcases h with rfl | h
    · exact ⟨[], by simp, rfl⟩
    · obtain ⟨⟨y, c⟩, hy, hx⟩ := List.mem_flatMap.1 h
      rw [List.mem_zipIdx_iff_getElem?] at hy
      obtain ⟨hc, hyc⟩ := List.getElem?_eq_some_iff.1 hy
      obtain ⟨q, hq, hd⟩ := pathsV_down l f _ _ _ hx
      refine ⟨(c : Int) :: q, by rw [hq]; simp, ?_⟩
      rw [downV_in l i c q c rfl hc]
      simp only at hyc hd
      rw [hyc]; exact hd

/-- Where a path leads is one of the nodes. -/
theorem down_pathsV (l : List Nd) : ∀ (f : Nat) (q : List Int) (i : Int) (own : List Int), (l.length : Int) < i + f → 0 ≤ i → 0 ≤ downV l i q → (downV l i q, own ++ q) ∈ pathsV f l i own
  | f, [], i, own, _, _, _ => by
    rw [List.append_nil]
    show (i, own) ∈ _
    cases f with
    | zero => simp [pathsV]
    | succ f => rw [pathsV]; exact List.mem_cons_self ..
  | 0, n :: r, i, own, hf, hi, hd => by
    exfalso
    have : kidsv l i = [] := kidsv_no l i (by rcases endv_bound l i with h1 | h1; · omega
                                              · have := (endv_in l i h1).2; omega)
    rw [downV_out l i n r (by rw [this]; simp)] at hd
    omega
  | f + 1, n :: r, i, own, hf, hi, hd => by
    by_cases h : 0 ≤ n ∧ n.toNat < (kidsv l i).length
    · obtain ⟨j, rfl⟩ := Int.eq_ofNat_of_zero_le h.1
      have hj : j < (kidsv l i).length := by simpa using h.2
      have hk := kidsv_fact l i j hj
      rw [downV_in l i j r j rfl hj] at hd ⊢
      rw [pathsV, List.mem_cons]
      right
      refine List.mem_flatMap.2 ⟨((kidsv l i)[j], j), ?_, ?_⟩
      · rw [List.mem_zipIdx_iff_getElem?]; simp [hj]
      · have := down_pathsV l f r (kidsv l i)[j] (own ++ [(j : Int)]) (by omega) (by omega) hd
        rw [List.append_assoc] at this
        exact this
    · rw [downV_out l i n r h] at hd; omega

theorem downV_append (l : List Nd) : ∀ (p q : List Int) (i : Int), 0 ≤ i → 0 ≤ downV l i p → downV l i (p ++ q) = downV l (downV l i p) q
  | [], q, i, _, _ => rfl
  | n :: r, q, i, hi, hd => by
    by_cases h : 0 ≤ n ∧ n.toNat < (kidsv l i).length
    · obtain ⟨j, rfl⟩ := Int.eq_ofNat_of_zero_le h.1
      have hj : j < (kidsv l i).length := by simpa using h.2
      have hk := kidsv_fact l i j hj
      rw [List.cons_append, downV_in l i j _ j rfl hj] 
      rw [downV_in l i j _ j rfl hj] at hd ⊢
      exact downV_append l r q _ (by omega) hd
    · rw [downV_out l i n r h] at hd; omega
/-- Where a path leads from a node is below it. -/
theorem downV_range (l : List Nd) : ∀ (q : List Int) (i : Int), 0 ≤ endv l i → 0 ≤ downV l i q → i ≤ downV l i q ∧ downV l i q < endv l i ∧ 0 ≤ endv l (downV l i q)
  | [], i, h, _ => ⟨Int.le_refl _, endv_gt l i h, h⟩
  | n :: r, i, h, hd => by
    by_cases hn : 0 ≤ n ∧ n.toNat < (kidsv l i).length
    · obtain ⟨j, rfl⟩ := Int.eq_ofNat_of_zero_le hn.1
      have hj : j < (kidsv l i).length := by simpa using hn.2
      obtain ⟨h0, _⟩ := endv_in l i h
      obtain ⟨k, rfl⟩ := Int.eq_ofNat_of_zero_le h0
      obtain ⟨e, hja⟩ := kidsv_get l k h j hj
      have hr := kth_range l k h j hja
      rw [downV_in l k j r j rfl hj] at hd ⊢
      rw [e] at hd ⊢
      have := downV_range l r _ hr.2.2.1 hd
      omega
    · rw [downV_out l i n r hn] at hd; omega

theorem find_unique {L : List (Int × List Int)} (hL : (L.map (·.1)).Pairwise (· < ·)) {i : Int} {p : List Int} (h : (i, p) ∈ L) : L.find? (fun x => x.1 == i) = some (i, p) := by
  induction L with
  | nil => cases h
  | cons x r ih =>
    rw [List.map_cons, List.pairwise_cons] at hL
    rcases List.mem_cons.1 h with rfl | h
    · simp
    · have := hL.1 i (List.mem_map.2 ⟨_, h, rfl⟩)
      have hne : (x.1 == i) = false := by simp; omega
      rw [List.find?_cons, hne]
      exact ih hL.2 h

section whole
variable {l : List Nd} (hw : endv l 0 = l.length)
include hw
theorem ofv_iff (i : Int) (p : List Int) : ofv l i = some p ↔ (i, p) ∈ pathsV (l.length + 1) l 0 [] := by
  have hp := pathsV_places l (l.length + 1) 0 [] (by omega) (by omega)
  have hs : ((pathsV (l.length + 1) l 0 []).map (·.1)).Pairwise (· < ·) := by rw [hp]; exact seg_sorted _ _
  rw [ofv, if_pos hw]
  constructor
  · intro h
    obtain ⟨x, hx, rfl⟩ := Option.map_eq_some_iff.1 h
    have h1 := List.mem_of_find?_eq_some hx
    have h2 := List.find?_some hx
    have h3 : x.1 = i := by simpa using h2
    subst h3
    exact h1
  · intro h
    rw [find_unique hs h]; rfl
theorem ofv_down {i : Int} {p : List Int} (h : ofv l i = some p) : downV l 0 p = i := by
  obtain ⟨q, hq, hd⟩ := pathsV_down l _ _ _ _ ((ofv_iff hw i p).1 h)
  have : p = q := by simpa using hq
  rw [this]; exact hd
theorem down_ofv {i : Int} {p : List Int} (hi : 0 ≤ i) (h : downV l 0 p = i) : ofv l i = some p := by
  rw [ofv_iff hw]
  have := down_pathsV l (l.length + 1) p 0 [] (by omega) (by omega) (by omega)
  rwa [h, List.nil_append] at this
theorem ofv_some_iff (i : Int) : (ofv l i).isSome ↔ 0 ≤ i ∧ i < l.length := by
  have hp := pathsV_places l (l.length + 1) 0 [] (by omega) (by omega)
  rw [hw] at hp
  constructor
  · intro h
    obtain ⟨p, hp2⟩ := Option.isSome_iff_exists.1 h
    have hm := (ofv_iff hw i p).1 hp2
    have : i ∈ seg 0 l.length := by rw [← hp]; exact List.mem_map.2 ⟨_, hm, rfl⟩
    rw [mem_seg] at this
    omega
  · intro h
    have : i ∈ seg 0 l.length := by rw [mem_seg]; omega
    rw [← hp] at this
    obtain ⟨x, hx, rfl⟩ := List.mem_map.1 this
    rw [(ofv_iff hw x.1 x.2).2 hx]; rfl
theorem ofv_valid {i : Int} {p : List Int} (h : ofv l i = some p) : 0 ≤ endv l i := by
  have hd := ofv_down hw h
  have h0 := ((ofv_some_iff hw i).1 (by rw [h]; rfl)).1
  have := downV_range l p 0 (by omega) (by omega)
  rw [hd] at this
  exact this.2.2
/-- A kid's path. -/
theorem ofv_kid {i : Int} {p : List Int} (h : ofv l i = some p) (n : Nat) (hn : n < (kidsv l i).length) : ofv l (kidsv l i)[n] = some (p ++ [(n : Int)]) := by
  have hf := kidsv_fact l i n hn
  refine down_ofv hw (by omega) ?_
  have hd := ofv_down hw h
  rw [downV_append l p [(n : Int)] 0 (by omega) (by omega), hd, downV_in l i n [] n rfl hn]
  rfl
/-- Each node but the first one is a kid of one ahead of it. -/
theorem ofv_parent {i : Int} (h : 0 < i) (hi : i < l.length) : ∃ (j : Nat) (n : Nat), (j : Int) < i ∧ ∃ hn : n < (kidsv l j).length, (kidsv l j)[n] = i := by
  obtain ⟨p, hp⟩ := Option.isSome_iff_exists.1 ((ofv_some_iff hw i).2 ⟨by omega, hi⟩)
  have hd := ofv_down hw hp
  rcases List.eq_nil_or_concat p with rfl | ⟨q, n, rfl⟩
  · have : downV l 0 [] = 0 := rfl
    omega
  · have hd' : downV l 0 (q ++ [n]) = i := by simpa using hd
    have hq : 0 ≤ downV l 0 q := by
      rcases Int.lt_or_le (downV l 0 q) 0 with hlt | hle
      · exfalso
        have : ∀ (q : List Int) (k : Int), downV l k q < 0 → 0 ≤ k → downV l k (q ++ [n]) = -1 := by
          intro q
          induction q with
          | nil => intro k h1 h2; have : downV l k [] = k := rfl; omega
          | cons m r ih =>
            intro k h1 h2
            by_cases hm : 0 ≤ m ∧ m.toNat < (kidsv l k).length
            · obtain ⟨j, rfl⟩ := Int.eq_ofNat_of_zero_le hm.1
              have hj : j < (kidsv l k).length := by simpa using hm.2
              have hk := kidsv_fact l k j hj
              rw [List.cons_append, downV_in l k j _ j rfl hj]
              rw [downV_in l k j _ j rfl hj] at h1
              exact ih _ h1 (by omega)
            · rw [List.cons_append, downV_out l k m _ hm]
        have := this q 0 hlt (by omega)
        omega
      · exact hle
    rw [downV_append l q [n] 0 (by omega) hq] at hd'
    obtain ⟨j, hj⟩ := Int.eq_ofNat_of_zero_le hq
    rw [hj] at hd'
    by_cases hm : 0 ≤ n ∧ n.toNat < (kidsv l j).length
    · obtain ⟨c, rfl⟩ := Int.eq_ofNat_of_zero_le hm.1
      have hc : c < (kidsv l j).length := by simpa using hm.2
      have hk := kidsv_fact l j c hc
      rw [downV_in l j c [] c rfl hc] at hd'
      have hd2 : (kidsv l j)[c] = i := hd'
      exact ⟨j, c, by omega, hc, hd2⟩
    · rw [downV_out l j n [] hm] at hd'; omega
end whole

theorem upV_spec (l : List Nd) (t : Int) : ∀ (n i : Nat), (∃ j c : Nat, i ≤ j ∧ j < i + n ∧ ∃ hc : c < (kidsv l j).length, (kidsv l j)[c] = t) →
    ∃ j c : Nat, i ≤ j ∧ j < i + n ∧ upV l t n i = ((j : Int), (c : Int)) ∧ ∃ hc : c < (kidsv l j).length, (kidsv l j)[c] = t
  | 0, i, ⟨j, c, h1, h2, _⟩ => by omega
  | n + 1, i, ⟨j, c, h1, h2, hc, he⟩ => by
    cases hx : (kidsv l i).findIdx? (· == t) with
    | some k =>
      obtain ⟨hk, hk2, _⟩ := List.findIdx?_eq_some_iff_getElem.1 hx
      exact ⟨i, k, Nat.le_refl _, by omega, by rw [upV, hx], hk, by simpa using hk2⟩
    | none =>
      have hno := List.findIdx?_eq_none_iff.1 hx
      have hji : j ≠ i := by
        rintro rfl
        have := hno _ (List.getElem_mem hc)
        rw [he] at this
        simp at this
      obtain ⟨j', c', g1, g2, g3, g4⟩ := upV_spec l t n (i + 1) ⟨j, c, by omega, by omega, hc, he⟩
      exact ⟨j', c', by omega, by omega, by rw [upV, hx]; exact g3, g4⟩

/-- The path by definition is the path that is come to. -/
theorem climb_ofv (l : List Nd) : ∀ (f : Nat) (i : Int), -1 ≤ i → i + 1 < f → climb l f i = ofv l i
  | 0, i, h1, h2 => by omega
  | f + 1, i, h1, h2 => by
    by_cases hr : endv l 0 = l.length ∧ 0 ≤ i ∧ i < l.length
    · obtain ⟨hw, hr1, hr2⟩ := hr
      by_cases h0 : i = 0
      · subst h0
        rw [climb_root l f ⟨hw, hr1, hr2⟩, down_ofv hw (i := 0) (p := []) (by omega) rfl]
      · obtain ⟨t, rfl⟩ := Int.eq_ofNat_of_zero_le hr1
        obtain ⟨j, n, g1, g2, g3⟩ := ofv_parent hw (i := t) (by omega) hr2
        obtain ⟨j', c', e1, e2, e3, e4, e5⟩ := upV_spec l t t 0 ⟨j, n, by omega, by omega, g2, g3⟩
        rw [climb_step l f t ⟨hw, hr1, hr2⟩ h0, Int.toNat_natCast, e3]
        simp only []
        rw [climb_ofv l f j' (by omega) (by omega)]
        obtain ⟨p, hp⟩ := Option.isSome_iff_exists.1 ((ofv_some_iff hw (j' : Int)).2 ⟨by omega, by omega⟩)
        have := ofv_kid hw hp c' e4
        rw [e5] at this
        rw [hp, this]; rfl
    · rw [climb_no l _ i hr]
      by_cases hw : endv l 0 = l.length
      · cases ho : ofv l i with
        | none => rfl
        | some p => exact absurd ⟨hw, (ofv_some_iff hw i).1 (by rw [ho]; rfl)⟩ hr
      · rw [ofv_no l i hw]
end Go.Proofs.Ytnmgfobpcengkaa
