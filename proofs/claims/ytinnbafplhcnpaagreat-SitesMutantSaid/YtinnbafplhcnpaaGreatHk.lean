import Derived.WalkSpells
import Derived.Lib.SliceRun
import Derived.Test.YtinnbafplhcnpaaGreatHf
import Derived.Test.YtinnbafplhcnpaaGreatHi
import Derived.Test.YtinnbafplhcnpaaGreatHj
section
namespace Go.Proofs.YtinnbafplhcnpaaGreat
def seg (a b : Int) : List Int := (List.range (b - a).toNat).map (fun j : Nat => a + (j : Int))
theorem Qm9 (a : Int) : seg a a = [] := by simp [seg]
theorem Qjt (a b x : Int) : x ∈ seg a b ↔ a <= x /\ x < b := by
  simp only [seg, List.mem_map, List.mem_range]
  constructor
  · rintro ⟨j, hj, rfl⟩; omega
  · rintro ⟨h1, h2⟩; exact ⟨(x - a).toNat, by omega, by omega⟩
theorem seg_append (a b c : Int) (h1 : a <= b) (h2 : b <= c) : seg a b ++ seg b c = seg a c := by
  unfold seg
  rw [show (c - a).toNat = (b - a).toNat + (c - b).toNat from by omega, List.range_add, List.map_append, List.map_map]
  congr 1
  apply List.map_congr_left
  intro j _
  simp only [Function.comp]
  omega
theorem Qna (a b : Int) (h : a < b) : a :: seg (a + 1) b = seg a b := by
  rw [<- seg_append a (a + 1) b (by omega) (by omega)]
  have : seg a (a + 1) = [a] := by
    unfold seg
    rw [show (a + 1 - a).toNat = 1 from by omega]
    simp
  rw [this]; rfl
theorem Qgc (a b : Int) : (seg a b).Pairwise (· < ·) := by
  unfold seg
  rw [List.pairwise_map]
  exact (List.pairwise_lt_range).imp (fun h => by omega)
theorem Jpe (l : List Nd) (k : Nat) (h : 0 <= endv l k) (c : Nat) (hc : c < (Jab l k).length) : (Jab l k)[c] = kth l (k + 1) c /\ c < (arAt l k).toNat := by
  have e := Jcb l k h
  have hl : (Jab l k).length = (arAt l k).toNat := by rw [e, upto_length]
  refine ⟨?_, by omega⟩
  have : (Jab l k)[c] = (upto (kth l (k + 1)) (arAt l k).toNat)[c]'(by rw [upto_length]; omega) := by
    congr 1
  rw [this]
  simp [upto]
theorem Jzs (l : List Nd) (k : Nat) (h : 0 <= endv l k) : (Jab l k).length = (arAt l k).toNat := by rw [Jcb l k h, upto_length]
theorem Jk3 (l : List Nd) : ∀ (f : Nat) (i : Int) (own : List Int), 0 <= endv l i -> (l.length : Int) < i + f -> (Jdc f l i own).map (·.1) = seg i (endv l i)
  | 0, i, own, h, hf => by
    obtain ⟨h0, h1⟩ := Ja2 l i h
    omega
  | f + 1, i, own, h, hf => by
    obtain ⟨h0, h1⟩ := Ja2 l i h
    obtain ⟨k, rfl⟩ := Int.eq_ofNat_of_zero_le h0
    have key : ∀ c, c <= (Jab l k).length -> (Jix f l k own c).map (·.1) = seg (k + 1) (kth l (k + 1) c) := by
      intro c
      induction c with
      | zero => intro _; rw [Jzc]; show [] = seg _ (k + 1); rw [Qm9]
      | succ c ih =>
        intro hc
        have hc' : c < (Jab l k).length := by omega
        obtain ⟨e, hca⟩ := Jpe l k h c hc'
        have hr := Jd8 l k h c hca
        have he := Jxe l k h c hca
        rw [Jjf f l k own c hc', List.map_append, ih (by omega), e, Jk3 l f _ _ hr.2.2.1 (by omega), he.2]
        exact seg_append _ _ _ (by have := Jr2 l k h 0 c (by omega); have h3 : kth l (k + 1) 0 = k + 1 := rfl; rw [Nat.zero_add] at this; omega) (by omega)
    rw [<- Js1, List.map_cons, key _ (Nat.le_refl _), Jzs l k h, Jr3 l k h]
    exact Qna _ _ (by have := Jd2 l k h; omega)
theorem Jsz (l : List Nd) : ∀ (f : Nat) (i : Int) (own : List Int) (x : Int × List Int), x ∈ Jdc f l i own -> ∃ q, x.2 = own ++ q /\ Jel l i q = x.1
  | 0, i, own, x, h => by
    obtain rfl : x = (i, own) := by simpa [Jdc] using h
    exact ⟨[], by simp, rfl⟩
  | f + 1, i, own, x, h => by
    rw [Jdc, List.mem_cons] at h
    rcases h with rfl | h
    · exact ⟨[], by simp, rfl⟩
    · obtain ⟨⟨y, c⟩, hy, hx⟩ := List.mem_flatMap.1 h
      rw [List.mem_zipIdx_iff_getElem?] at hy
      obtain ⟨hc, hyc⟩ := List.getElem?_eq_some_iff.1 hy
      obtain ⟨q, hq, hd⟩ := Jsz l f _ _ _ hx
      refine ⟨(c : Int) :: q, by rw [hq]; simp, ?_⟩
      rw [Jfc l i c q c rfl hc]
      simp only at hyc hd
      rw [hyc]; exact hd
theorem Jts (l : List Nd) : ∀ (f : Nat) (q : List Int) (i : Int) (own : List Int), (l.length : Int) < i + f -> 0 <= i -> 0 <= Jel l i q -> (Jel l i q, own ++ q) ∈ Jdc f l i own
  | f, [], i, own, _, _, _ => by
    rw [List.append_nil]
    show (i, own) ∈ _
    cases f with
    | zero => simp [Jdc]
    | succ f => rw [Jdc]; exact List.mem_cons_self ..
  | 0, n :: r, i, own, hf, hi, hd => by
    exfalso
    have : Jab   l i = [] := Jpd      l i (by rcases Jdo        l i with h1 | h1; · omega
                                              · have := (Ja2     l i h1).2; omega)
    rw [Jfn l i n r (by rw [this]; simp)] at hd
    omega
  | f + 1, n :: r, i, own, hf, hi, hd => by
    by_cases h : 0 <= n /\ n.toNat < (Jab l i).length
    · obtain ⟨j, rfl⟩ := Int.eq_ofNat_of_zero_le h.1
      have hj : j < (Jab l i).length := by simpa using h.2
      have hk := Jfz l i j hj
      rw [Jfc l i j r j rfl hj] at hd ⊢
      rw [Jdc, List.mem_cons]
      right
      refine List.mem_flatMap.2 ⟨((Jab l i)[j], j), ?_, ?_⟩
      · rw [List.mem_zipIdx_iff_getElem?]; simp [hj]
      · have := Jts l f r (Jab l i)[j] (own ++ [(j : Int)]) (by omega) (by omega) hd
        rw [List.append_assoc] at this
        exact this
    · rw [Jfn l i n r h] at hd; omega
theorem Jmp (l : List Nd) : ∀ (p q : List Int) (i : Int), 0 <= i -> 0 <= Jel l i p -> Jel l i (p ++ q) = Jel l (Jel l i p) q
  | [], q, i, _, _ => rfl
  | n :: r, q, i, hi, hd => by
    by_cases h : 0 <= n /\ n.toNat < (Jab l i).length
    · obtain ⟨j, rfl⟩ := Int.eq_ofNat_of_zero_le h.1
      have hj : j < (Jab l i).length := by simpa using h.2
      have hk := Jfz l i j hj
      rw [List.cons_append, Jfc l i j _ j rfl hj]
      rw [Jfc l i j _ j rfl hj] at hd ⊢
      exact Jmp l r q _ (by omega) hd
    · rw [Jfn l i n r h] at hd; omega
theorem Ji4 (l : List Nd) : ∀ (q : List Int) (i : Int), 0 <= endv l i -> 0 <= Jel l i q -> i <= Jel l i q /\ Jel l i q < endv l i /\ 0 <= endv l (Jel l i q)
  | [], i, h, _ => ⟨Int.le_refl _, Jd2 l i h, h⟩
  | n :: r, i, h, hd => by
    by_cases hn : 0 <= n /\ n.toNat < (Jab l i).length
    · obtain ⟨j, rfl⟩ := Int.eq_ofNat_of_zero_le hn.1
      have hj : j < (Jab l i).length := by simpa using hn.2
      obtain ⟨h0, _⟩ := Ja2 l i h
      obtain ⟨k, rfl⟩ := Int.eq_ofNat_of_zero_le h0
      obtain ⟨e, hja⟩ := Jpe l k h j hj
      have hr := Jd8 l k h j hja
      rw [Jfc l k j r j rfl hj] at hd ⊢
      rw [e] at hd ⊢
      have := Ji4 l r _ hr.2.2.1 hd
      omega
    · rw [Jfn l i n r hn] at hd; omega
theorem Qc1 {L : List (Int × List Int)} (hL : (L.map (·.1)).Pairwise (· < ·)) {i : Int} {p : List Int} (h : (i, p) ∈ L) : L.find? (fun x => x.1 == i) = some (i, p) := by
  induction L with
  | nil => cases h
  | cons x r ih =>
    rw [List.map_cons, List.pairwise_cons] at hL
    rcases List.mem_cons.1 h with rfl | h
    · simp
    · have := hL.1 i (List.mem_map.2 ⟨_, h, rfl⟩)
      have hne : (x.1 == i) = false := by simp; omega
      rw [List.find?_cons, hne]
      exact ih hL.2 h
section whole
variable {l : List Nd} (hw : endv l 0 = l.length)
include hw
theorem Jw4 (i : Int) (p : List Int) : ofv l i = some p ↔ (i, p) ∈ Jdc (l.length + 1) l 0 [] := by
  have hp := Jk3 l (l.length + 1) 0 [] (by omega) (by omega)
  have hs : ((Jdc (l.length + 1) l 0 []).map (·.1)).Pairwise (· < ·) := by rw [hp]; exact Qgc _ _
  rw [ofv, if_pos hw]
  constructor
  · intro h
    obtain ⟨x, hx, rfl⟩ := Option.map_eq_some_iff.1 h
    have h1 := List.mem_of_find?_eq_some hx
    have h2 := List.find?_some hx
    have h3 : x.1 = i := by simpa using h2
    subst h3
    exact h1
  · intro h
    rw [Qc1 hs h]; rfl
theorem Jo4 {i : Int} {p : List Int} (h : ofv l i = some p) : Jel l 0 p = i := by
  obtain ⟨q, hq, hd⟩ := Jsz l _ _ _ _ ((Jw4 hw i p).1 h)
  have : p = q := by simpa using hq
  rw [this]; exact hd
theorem Jxx {i : Int} {p : List Int} (hi : 0 <= i) (h : Jel l 0 p = i) : ofv l i = some p := by
  rw [Jw4 hw]
  have := Jts l (l.length + 1) p 0 [] (by omega) (by omega) (by omega)
  rwa [h, List.nil_append] at this
theorem Jec (i : Int) : (ofv l i).isSome ↔ 0 <= i /\ i < l.length := by
  have hp := Jk3 l (l.length + 1) 0 [] (by omega) (by omega)
  rw [hw] at hp
  constructor
  · intro h
    obtain ⟨p, hp2⟩ := Option.isSome_iff_exists.1 h
    have hm := (Jw4 hw i p).1 hp2
    have : i ∈ seg 0 l.length := by rw [<- hp]; exact List.mem_map.2 ⟨_, hm, rfl⟩
    rw [Qjt] at this
    omega
  · intro h
    have : i ∈ seg 0 l.length := by rw [Qjt]; omega
    rw [<- hp] at this
    obtain ⟨x, hx, rfl⟩ := List.mem_map.1 this
    rw [(Jw4 hw x.1 x.2).2 hx]; rfl
theorem Qrh {i : Int} {p : List Int} (h : ofv l i = some p) (n : Nat) (hn : n < (Jab l i).length) : ofv l (Jab l i)[n] = some (p ++ [(n : Int)]) := by
  have hf := Jfz l i n hn
  refine Jxx hw (by omega) ?_
  have hd := Jo4 hw h
  rw [Jmp l p [(n : Int)] 0 (by omega) (by omega), hd, Jfc l i n [] n rfl hn]
  rfl
theorem Qg3 {i : Int} (h : 0 < i) (hi : i < l.length) : ∃ (j : Nat) (n : Nat), (j : Int) < i /\ ∃ hn : n < (Jab l j).length, (Jab l j)[n] = i := by
  obtain ⟨p, hp⟩ := Option.isSome_iff_exists.1 ((Jec hw i).2 ⟨by omega, hi⟩)
  have hd := Jo4 hw hp
  rcases List.eq_nil_or_concat p with rfl | ⟨q, n, rfl⟩
  · have : Jel l 0 [] = 0 := rfl
    omega
  · have hd' : Jel l 0 (q ++ [n]) = i := by simpa using hd
    have hq : 0 <= Jel l 0 q := by
      rcases Int.lt_or_le (Jel l 0 q) 0 with hlt | hle
      · exfalso
        have : ∀ (q : List Int) (k : Int), Jel l k q < 0 -> 0 <= k -> Jel l k (q ++ [n]) = -1 := by
          intro q
          induction q with
          | nil => intro k h1 h2; have : Jel l k [] = k := rfl; omega
          | cons m r ih =>
            intro k h1 h2
            by_cases hm : 0 <= m /\ m.toNat < (Jab l k).length
            · obtain ⟨j, rfl⟩ := Int.eq_ofNat_of_zero_le hm.1
              have hj : j < (Jab l k).length := by simpa using hm.2
              have hk := Jfz l k j hj
              rw [List.cons_append, Jfc l k j _ j rfl hj]
              rw [Jfc l k j _ j rfl hj] at h1
              exact ih _ h1 (by omega)
            · rw [List.cons_append, Jfn l k m _ hm]
        have := this q 0 hlt (by omega)
        omega
      · exact hle
    rw [Jmp l q [n] 0 (by omega) hq] at hd'
    obtain ⟨j, hj⟩ := Int.eq_ofNat_of_zero_le hq
    rw [hj] at hd'
    by_cases hm : 0 <= n /\ n.toNat < (Jab l j).length
    · obtain ⟨c, rfl⟩ := Int.eq_ofNat_of_zero_le hm.1
      have hc : c < (Jab l j).length := by simpa using hm.2
      have hk := Jfz l j c hc
      rw [Jfc l j c [] c rfl hc] at hd'
      have hd2 : (Jab l j)[c] = i := hd'
      exact ⟨j, c, by omega, hc, hd2⟩
    · rw [Jfn l j n [] hm] at hd'; omega
end whole
end Go.Proofs.YtinnbafplhcnpaaGreat
end
section
namespace Go.Proofs.YtinnbafplhcnpaaGreat
open Go.RowKit
set_option linter.unusedVariables false
set_option linter.unusedSimpArgs false
theorem Jm9 {l : List Nd} {k : Nat} {x : Nd} (h : l[k]? = some x) : nodeAt l k = x := by
  obtain ⟨hk, e⟩ := List.getElem?_eq_some_iff.1 h
  unfold nodeAt
  rw [Int.toNat_natCast, getD_in _ _ _ hk, e]
theorem Jc7 (l : List Nd) (k : Nat) (hk : k < l.length) : nodeAt l k = l[k] := Jm9 (List.getElem?_eq_getElem hk)
theorem Jqb (l : List Nd) (k : Nat) (hE : 0 <= endv l k) (h : (nodeAt l k).1 = 25) : 0 <= endv l ((k + 1 : Nat) : Int) /\ endv l ((k + 1 : Nat) : Int) = endv l k /\ k + 1 < l.length := by
  obtain ⟨hk, h0, har⟩ := Jyc hE
  rw [Jc7 l k hk] at h
  have ha : arAt l k = 1 := by
    rw [har]
    generalize l[k] = x at *
    obtain ⟨t, m⟩ := x
    simp only at h h0
    subst h
    exact Qlk h0
  obtain ⟨f1, f2, f3⟩ := Jkh hE (by omega)
  exact ⟨f1, Qrv hE ha, f3⟩
def Qjb (l : List Nd) (k : Nat) (x : Nd) (op n : Int) : List Nd :=
  if op = 1 \/ op = 2 \/ op = 3 then Jp7 l k (k + 1) [(n, x.2)] else if op = 4 then Jp7 l k (k + 1) [(x.1, n)] else
  if op = 5 then Jp7 l k (endv l k).toNat [(26, 0)] else if op = 6 then Jp7 l (k + 1) (k + 1) [(6, 0)] else Jp7 l (k + 1) (endv l ((k + 1 : Nat) : Int)).toNat [(1, n)]
theorem Qd7 (l : List Nd) (k : Nat) (y : Nd) (hk : k < l.length) : Jp7 l k (k + 1) [y] = l.set k y := by
  unfold Jp7
  rw [List.set_eq_take_append_cons_drop, if_pos hk]
  simp
theorem Qnl {l : List Nd} {k : Nat} {x : Nd} {op n : Int} (hE : 0 <= endv l k) (hx : l[k]? = some x) (hm : mayV x op n) : Qjb l k x op n = Jaw l k x op n := by
  obtain ⟨hk, hxe⟩ := List.getElem?_eq_some_iff.1 hx
  unfold Qjb Jaw
  split
  · exact Qd7 l k _ hk
  · split
    · exact Qd7 l k _ hk
    · split
      · unfold Jp7 Jbx
        rw [if_neg (by omega)]
        rfl
      · split
        · unfold Jp7
          simp
        · rename_i h1 h2 h3 h4
          have h7 : x.1 = 25 := by
            rcases hm with h | h | h | h | h | h | h
            · omega
            · omega
            · omega
            · omega
            · omega
            · omega
            · exact h.2
          obtain ⟨f1, _⟩ := Jqb l k hE (by rw [Jc7 _ _ hk, hxe]; exact h7)
          unfold Jp7 Jbx
          rw [if_neg (by omega)]
          rfl
def Jcy (p : Pg) (d : Dl) : Pg × Int :=
  if Je6 p.body d.path < 0 then (⟨0, [], []⟩, 16) else
  if mayV (nodeAt p.body (Je6 p.body d.path)) d.op d.n then (⟨p.params, p.vars, Jaw p.body (Je6 p.body d.path).toNat (nodeAt p.body (Je6 p.body d.path)) d.op d.n⟩, 0) else (⟨0, [], []⟩, 17)
theorem Qov {l : List Nd} {p : List Int} (h : 0 <= Je6 l p) : ∃ k : Nat, Je6 l p = k /\ k < l.length /\ 0 <= endv l k /\ l[k]? = some (nodeAt l k) /\ endv l 0 = l.length := by
  unfold Je6 at h ⊢
  split at h
  · rename_i hl
    rw [if_pos hl]
    have := Ji4 l p 0 (by omega) h
    obtain ⟨k, hk⟩ := Int.eq_ofNat_of_zero_le h
    rw [hk] at this ⊢
    have hk2 : k < l.length := by omega
    exact ⟨k, rfl, hk2, this.2.2, by rw [Jc7 _ _ hk2]; exact List.getElem?_eq_getElem hk2, hl⟩
  · omega
theorem Qdf {l : List Nd} {k : Nat} {x : Nd} {op n : Int} (hl : endv l 0 = l.length) (hE : 0 <= endv l k) (hx : l[k]? = some x) (hm : mayV x op n) : 0 < (Jaw l k x op n).length := by
  obtain ⟨c1, _⟩ := Jmr hl hE x hx hm
  refine Decidable.byContradiction fun hc => ?_
  have hn : Jaw l k x op n = [] := List.length_eq_zero_iff.1 (by omega)
  rw [hn] at c1
  revert c1
  decide
def opV (l : List Nd) (k : Nat) (op n : Int) : List Nd := if mayV (nodeAt l k) op n then Jaw l k (nodeAt l k) op n else []
theorem Jt7         (p : Pg) (d : Dl) : (Je6   p.body d.path < 0 ∧ Jcy    p d = (⟨0, [], []⟩, 16)) ∨ ∃ k : Nat, Je6   p.body d.path = k ∧ k < p.body.length ∧ 0 ≤ endv p.body k ∧ p.body[k]? = some (nodeAt p.body k) ∧ endv p.body 0 = p.body.length ∧
    ((¬ mayV (nodeAt p.body k) d.op d.n /\ Jcy p d = (⟨0, [], []⟩, 17)) \/ (mayV (nodeAt p.body k) d.op d.n /\ Jcy p d = (⟨p.params, p.vars, Jaw p.body k (nodeAt p.body k) d.op d.n⟩, 0))) := by
  by_cases h : Je6 p.body d.path < 0
  · exact .inl ⟨h, by unfold Jcy; rw [if_pos h]⟩
  · obtain ⟨k, h1, h2, h3, h4, h5⟩ := Qov (l := p.body) (p := d.path) (by omega)
    refine .inr ⟨k, h1, h2, h3, h4, h5, ?_⟩
    by_cases hm : mayV (nodeAt p.body k) d.op d.n
    · refine .inr ⟨hm, ?_⟩
      unfold Jcy
      rw [h1, if_neg (by omega), if_pos hm]
      rfl
    · refine .inl ⟨hm, ?_⟩
      unfold Jcy
      rw [h1, if_neg (by omega), if_neg hm]
end Go.Proofs.YtinnbafplhcnpaaGreat
end
section
namespace Go.Proofs.YtinnbafplhcnpaaGreat
open Go.RowKit Go.Shelf
set_option linter.unusedVariables false
set_option linter.unusedSimpArgs false
attribute [local go_sem] Oper.semAt_some
set_option maxHeartbeats 1000000 in
theorem Jwc        (l : List Nd) (v : Value) (w : World) (S : Nat → Prop) (hS : ∀ k, S k → k < w.heap.size) (hv : NodesIn S w v l) (h0 : 0 < l.length) (hl : l.length ≤ 1000000) :
    Calls Tryz.prog 110 #[v] w fun e w' => ∃ u, e = .returned u /\ w'.ownsRow w.heap.size 54 2 u l.length (Jbb l) /\ Below w.heap.size w w' := by
  obtain ⟨i0, hi, hz0, hz1, hz2⟩ := info_parts Jpg
  have qT : ∀ (w : World) (a : Option Addr) (n c n' c' : Nat), (binOp .eql 23 (.slice a n c) (.slice none n' c')).run Tryz.prog w = .ok (.bool a.isNone) w := fun w a n c n' c' => Lib.run_eql_slice_nil w _ _ a n c n' c' Tryz.underlying23
  rcases hv.open with ⟨rfl, _⟩ | ⟨b, o, cap, rfl, hpos, hcap, hbs, hcell⟩
  · simp at h0
  · go_enter Tryz.func110, Tryz.ntmps110
    have hv2 := hv.kept (Jg3 (below_alloc1 w (.cells #[] 54)) hS)
    go_wp2_with (at_builtin; refine Jek rfl _ _ 23 rfl w.heap.size 54 i0 (.agg #[.int .i64 0, .int .i64 0]) 2 16 Tryz.underlying23 hi hz0 hz1 hz2 rfl (by decide) _ _ _ rfl (Je9 w w.heap.size 54 2 (Nat.le_refl _)) _ l.length _ rfl hv2 (by rw [Jce]; omega) (Js5 l) (by unfold maxLen; omega) (by omega) (by simp) ?_; intro v' w3 hown' hgrow)
    go_ret
    refine ⟨_, rfl, by simpa using hown', ((Below.refl _ _).alloc (Nat.le_refl _) _).grown hgrow (by simp) (fun j hj => ?_)⟩
    exact ((Je9 w w.heap.size 54 2 (Nat.le_refl _)).lt j hj).1
def negV (l : List Nd) (k : Nat) (n : Int) : List Nd := if ((nodeAt l k).1 = 23 \/ (nodeAt l k).1 = 24) /\ n = 0 then l.take (k + 1) ++ (6, 0) :: l.drop (k + 1) else []
theorem Jmn (w : World) (a b : Int) : (Instr.field 54 (.agg #[.int .i64 a, .int .i64 b]) 0).run Tryz.prog w = .ok (.int .i64 a) w := by
  simp [Instr.field, go_sem, asAgg]
def Apart (v u : Value) : Prop := ∀ (g n c b m e : Nat), v = .slice (some ⟨g, 0, none⟩) n c -> u = .slice (some ⟨b, 0, none⟩) m e -> g ≠ b
def Qtm (base : Nat) (V : World) (u : Value) : Prop := ∃ b5, u = .slice (some ⟨b5, 0, none⟩) 1 1 /\ V.heap[b5]? = some (.cells #[.int .i64 6, .int .i64 0] 54 (0, 0)) /\ base <= b5
def Jud (base : Nat) (l : List Nd) (x y : Bool) (V : World) (v u : Value) : Prop :=
  (x = true -> V.ownsRow base 54 2 v l.length (Jbb l)) /\ (y = true -> Qtm base V u) /\ (x = true -> y = true -> Apart v u)
theorem Jrd {base : Nat} {l : List Nd} {y : Bool} {V V2 : World} {v v2 u : Value} (h : Jud base l false y V v u) (hr : V2.ownsRow V.heap.size 54 2 v2 l.length (Jbb l)) (hb : Below V.heap.size V V2) (hB : base <= V.heap.size) : Jud base l true y V2 v2 u := by
  obtain ⟨h1, h2, h3⟩ := h
  refine ⟨fun _ => ownsRow_base hr hB, fun hy => ?_, fun _ hy => ?_⟩
  · obtain ⟨b5, e, g1, g2⟩ := h2 hy
    exact ⟨b5, e, (hb.block _ (Array.getElem?_eq_some_iff.1 g1).1).trans g1, g2⟩
  · obtain ⟨b5, e, g1, g2⟩ := h2 hy
    intro g n c b m e' ev eu
    rw [e] at eu
    cases eu
    have hlt := (Array.getElem?_eq_some_iff.1 g1).1
    rcases hr.2 with ⟨k1, _⟩ | ⟨g', cap, cur, k1, k2, _⟩
    · rw [k1] at ev; cases ev
    · rw [k1] at ev; cases ev; omega
theorem Jvi        {base : Nat} {l : List Nd} {x : Bool} {V : World} {v u : Value} (h : Jud    base l x false V v u) (hB : base ≤ V.heap.size) :
    Jud base l x true (V.alloc (.cells #[.int .i64 6, .int .i64 0] 54)) v (.slice (some ⟨V.heap.size, 0, none⟩) 1 1) := by
  obtain ⟨h1, h2, h3⟩ := h
  refine ⟨fun hx => ownsRow_below (h1 hx) (below_alloc1 V _), fun _ => ⟨V.heap.size, rfl, heap_alloc_new V _, hB⟩, fun hx _ => ?_⟩
  intro g n c b m e' ev eu
  cases eu
  rcases (h1 hx).2 with ⟨k1, _⟩ | ⟨g', cap, cur, k1, k2, k3, _⟩
  · rw [k1] at ev; cases ev
  · rw [k1] at ev; cases ev
    have := (Array.getElem?_eq_some_iff.1 k3).1
    omega
theorem Jzh       {base : Nat} {V : World} {b c : Nat} {A : Array Value} {l : List Nd} (hb : V.heap[b]? = some (.cells A 54 (0, 0))) (hB : base ≤ b) (hc : l.length ≤ c) (h0 : 0 < l.length) (hA : A.toList.take (2 * l.length) = Jbb       l) :
    Rep (fun k => base <= k /\ k < V.heap.size) [] V (.slice (some ⟨b, 0, none⟩) l.length c) (Jaf l) := by
  refine Jie (.inr ⟨b, 0, c, rfl, h0, hc, ⟨hB, (Array.getElem?_eq_some_iff.1 hb).1⟩, fun j hj => ?_⟩)
  rw [Nat.zero_add, cell_of_heap hb]
  have hlt : j < 2 * l.length := by rwa [Jce] at hj
  have : (A.toList.take (2 * l.length))[j]? = some (Jbb l)[j] := by rw [hA]; exact List.getElem?_eq_getElem hj
  rw [List.getElem?_take_of_lt hlt, Array.getElem?_toList, <- List.getElem?_eq_getElem hj] at this
  exact this
theorem Jo6           {base : Nat} {l : List Nd} {V : World} {v u : Value} {k : Nat} (h : Jud    base l true true V v u) (hk : k + 1 < l.length) (hl : l.length ≤ 300000) (hB : base ≤ V.heap.size) :
    Calls Tryz.prog 109 #[v, .int .i64 ((k + 1 : Nat) : Int), u] V fun e w' => ∃ r, e = .returned r /\ Rep (fun k => base <= k /\ k < w'.heap.size) [] w' r (Jaf (l.take (k + 1) ++ (6, 0) :: l.drop (k + 1))) /\ Below base V w' := by
  obtain ⟨h1, h2, h3⟩ := h
  obtain ⟨q1, q2⟩ := h1 rfl
  obtain ⟨b5, rfl, g1, g2⟩ := h2 rfl
  rcases q2 with ⟨_, q2⟩ | ⟨g, cap, cur, rfl, k1, k2, k3, k4, k5, k6⟩
  · omega
  have hne : b5 ≠ g := fun e => h3 rfl rfl g _ _ b5 _ _ rfl rfl e.symm
  have hlen : (l.take (k + 1) ++ (6, 0) :: l.drop (k + 1)).length = l.length + 1 := by simp; omega
  have hc2 : cur.toList.take (2 * l.length) = Jbb l := by rw [Nat.mul_comm]; exact k6
  have hone : ∀ x ∈ cur.toList.take (2 * l.length), x.oneCell' = true := by rw [hc2]; exact Js5 l
  have hfin : ∀ A : Array Value, A.toList.take (2 * (l.length + 1)) = cur.toList.take (2 * (k + 1)) ++ [.int .i64 6, .int .i64 0] ++ (cur.toList.take (2 * l.length)).drop (2 * (k + 1)) -> A.toList.take (2 * (l.length + 1)) = Jbb (l.take (k + 1) ++ (6, 0) :: l.drop (k + 1)) := by
    intro A hA
    have e1 : cur.toList.take (2 * (k + 1)) = Jbb (l.take (k + 1)) := by
      have : cur.toList.take (2 * (k + 1)) = (cur.toList.take (2 * l.length)).take (2 * (k + 1)) := by rw [List.take_take, Nat.min_eq_left (by omega)]
      rw [this, hc2]
      have e : Jbb l = Jbb (l.take (k + 1)) ++ Jbb (l.drop (k + 1)) := by rw [<- Jfp, List.take_append_drop]
      rw [e]
      exact List.take_left' (by rw [Jce, List.length_take]; omega)
    have e2 : (cur.toList.take (2 * l.length)).drop (2 * (k + 1)) = Jbb (l.drop (k + 1)) := by
      rw [hc2]
      have e : Jbb l = Jbb (l.take (k + 1)) ++ Jbb (l.drop (k + 1)) := by rw [<- Jfp, List.take_append_drop]
      rw [e]
      exact List.drop_left' (by rw [Jce, List.length_take]; omega)
    rw [hA, e1, e2, Jfp]
    have e3 : Jbb ((6, 0) :: l.drop (k + 1)) = [.int .i64 6, .int .i64 0] ++ Jbb (l.drop (k + 1)) := by simp [Jbb]
    rw [e3, List.append_assoc]
  by_cases hroom : l.length + 1 <= cap
  · refine (insCalls.room g l.length cap (k + 1) b5 1 cur #[.int .i64 6, .int .i64 0] _ (.int .i64 6) (.int .i64 0) V hk hroom k4 k2 k5 g1 rfl rfl rfl rfl hne hone).mono ?_
    rintro e w' ⟨A, rfl, rfl, a1, a2⟩
    have hh : (V.drew.setRow g A).heap[g]? = some (.cells A 54 (0, 0)) := setRow_heap V.drew g cur A _ _ k2
    refine ⟨_, rfl, ?_, ⟨rfl, rfl, rfl, by simp, fun j hj => setRow_other V.drew g j A (by omega)⟩⟩
    have := Jzh (base := base) (l := l.take (k + 1) ++ (6, 0) :: l.drop (k + 1)) hh k1 (c := cap) (by omega) (by omega) (by rw [hlen]; exact hfin A a2)
    rw [hlen] at this
    exact this
  · refine (insCalls.grow g l.length cap (k + 1) b5 1 cur #[.int .i64 6, .int .i64 0] _ (.int .i64 6) (.int .i64 0) V hk k3 (by omega) (by omega) k2 k5 g1 rfl rfl rfl rfl hne hone).mono ?_
    rintro e w' ⟨A, c', rfl, rfl, c1, c2, a1, a2⟩
    have hh : (V.drew.drew.alloc (.cells A 54)).heap[V.heap.size]? = some (.cells A 54 (0, 0)) := heap_alloc_new V.drew.drew _
    refine ⟨_, rfl, ?_, (Below.refl _ _).drew.drew.alloc hB _⟩
    have := Jzh (base := base) (l := l.take (k + 1) ++ (6, 0) :: l.drop (k + 1)) hh hB (c := c') (by omega) (by omega) (by rw [hlen]; exact hfin A a2)
    rw [hlen] at this
    exact this
theorem Jo3 {base : Nat} {V V2 : World} {v : Value} {d : D} (h : Rep (fun k => base <= k /\ k < V.heap.size) [] V v d) (hb : Below V.heap.size V V2) : Rep (fun k => base <= k /\ k < V2.heap.size) [] V2 v d :=
  Rep.kept ⟨hb.size, fun k hk => hb.block k hk.2⟩ (fun k hk => ⟨hk.1, Nat.lt_of_lt_of_le hk.2 hb.size⟩) (fun i p hi => hi) _ _ h
set_option maxHeartbeats 2000000 in
set_option maxRecDepth 100000 in
theorem Jvh        (l : List Nd) (k : Nat) (n : Int) (pv : Int) (vv bv : Value) (w : World) (S : Nat → Prop) (hS : ∀ k, S k → k < w.heap.size) (vs : List Int) (hvv : Rep S [] w vv (Jag   vs)) (hbv : Rep S [] w bv (Jaf    l)) (hkl : k < l.length) (hk' : ((nodeAt l k).1 = 23 ∨ (nodeAt l k).1 = 24) ∧ n = 0 → k + 1 < l.length) (hl : l.length ≤ 300000) :
    Calls Tryz.prog 71 #[.agg #[.int .i64 pv, vv, bv, .int .i64 k, .int .i64 n]] w fun e w' => ∃ u, e = .returned u /\ Rep (fun k => w.heap.size <= k /\ k < w'.heap.size) [] w' u (Jaf (negV l k n)) /\ Below w.heap.size w w' := by
  have hb0 := Jb9 (Jn6 l) hbv
  have hx : nodeAt l k = l[k] := by unfold nodeAt; rw [Int.toNat_natCast]; exact getD_in _ _ _ hkl
  have hnode : ∀ W : World, Below w.heap.size w W -> Calls Tryz.prog 106 #[.agg #[.int .i64 pv, vv, bv, .int .i64 k, .int .i64 n]] W fun e w' => e = .returned (.agg #[.int .i64 l[k].1, .int .i64 l[k].2]) /\ Below W.heap.size W w' := fun W hW => by
    have hkept : Kept S w W := Jg3 hW hS
    have hS' : ∀ k, S k -> k < W.heap.size := fun k hk => Nat.lt_of_lt_of_le (hS k hk) hW.size
    have hr : RepA S [] W [.agg #[.int .i64 pv, vv, bv, .int .i64 k, .int .i64 n]] [chD ⟨⟨pv, vs, l⟩, k, n⟩] := by
      simp only [RepA, chD, chC, Rep]
      have h1 := Rep.kept hkept (fun _ h => h) (fun i p hi => hi) _ _ hvv
      have h2 := Rep.kept hkept (fun _ h => h) (fun i p hi => hi) _ _ hbv
      exact ⟨_, [], rfl, ⟨_, rfl, _, _, rfl, rfl, _, _, rfl, h1, _, _, rfl, h2, _, _, rfl, rfl, _, _, rfl, rfl, rfl⟩, rfl⟩
    have hF : Jd4 [chD ⟨⟨pv, vs, l⟩, k, n⟩] = some (.agg (Jax l[k])) := by
      have : Jd4 [chD ⟨⟨pv, vs, l⟩, k, n⟩] = _ := Jjh (A := chT) _ (⟨⟨pv, vs, l⟩, k, n⟩ : Chg)
      rw [this, if_pos ⟨by simp, by simpa using hkl⟩, hx]
    refine (C_chNode.calls _ _ hF S _ W hS' hr).mono ?_
    rintro e w' ⟨v, rfl, h1, h2⟩
    refine ⟨?_, h2⟩
    simp only [Rep, Jax, RepA] at h1
    obtain ⟨xs, rfl, a, t, rfl, rfl, b, u, rfl, rfl, rfl⟩ := h1
    rfl
  rw [hx] at hk'
  generalize hX : l[k] = x at *
  obtain ⟨x1, x2⟩ := x
  simp only at hnode
  have hbox : ∀ (V : World), Below (w.alloc (.cells #[.int .i64 pv, vv, bv, .int .i64 k, .int .i64 n] 97)).heap.size (w.alloc (.cells #[.int .i64 pv, vv, bv, .int .i64 k, .int .i64 n] 97)) V →
      V.cell? ⟨w.heap.size, 2, none⟩ = some bv /\ V.cell? ⟨w.heap.size, 3, none⟩ = some (.int .i64 k) /\ V.cell? ⟨w.heap.size, 4, none⟩ = some (.int .i64 n) := fun V hV => by
    have hz : w.heap.size < (w.alloc (.cells #[.int .i64 pv, vv, bv, .int .i64 k, .int .i64 n] 97)).heap.size := by simp
    exact ⟨(hV.cell (p := ⟨w.heap.size, 2, none⟩) hz).trans (World.cell?_alloc_at (w := w) _ _ _ _ rfl), (hV.cell (p := ⟨w.heap.size, 3, none⟩) hz).trans (World.cell?_alloc_at (w := w) _ _ _ _ rfl), (hV.cell (p := ⟨w.heap.size, 4, none⟩) hz).trans (World.cell?_alloc_at (w := w) _ _ _ _ rfl)⟩
  have hB0 : Below w.heap.size w (w.alloc (.cells #[.int .i64 pv, vv, bv, .int .i64 k, .int .i64 n] 97)) := below_alloc1 _ _
  refine (callsIn_wide (n := 0)).1 ?_
  refine callsIn_of_wp_marks Tryz.func71 rfl trivial ?_ rfl
  simp only [Tryz.ntmps71, List.size_toArray, List.length_cons, List.length_nil, Nat.reduceAdd, Nat.reduceSub, Array.replicate_succ, Array.replicate_zero, List.push_toArray, List.append_toArray, List.nil_append, List.cons_append]
  by_cases h1 : x1 = 23 /\ n = 0
  · obtain ⟨rfl, rfl⟩ := h1
    have hk : k + 1 < l.length := hk' ⟨.inl rfl, rfl⟩
    gi_wp2_with (first | (gi_at_call 106; refine (callsIn_wide.2 (hnode _ hB0)).mono ?_; rintro e w1 ⟨rfl, hb1⟩; obtain ⟨g2, g3, g4⟩ := hbox _ hb1) | simp only [Jmn])
    have hmix : Tryz.prog.follows .mixedOrders = true := by kernel_rfl
    have hz1 : w.heap.size < w1.heap.size := by have := hb1.size; simp at this; omega
    obtain ⟨Inv, hInv⟩ : ∃ Inv : (Nat -> Bool) -> Act -> World -> Prop, Inv = (fun d a' V' => ∃ (v18 v19 v20 v21 v22 v23 v24 v25 v26 v27 v2 : Value), a' = { tmps := #[.agg #[.int .i64 pv, vv, bv, .int .i64 k, .int .i64 0], .pointer (some ⟨w.heap.size, 0, none⟩), v2, .int .i64 23, .agg #[.int .i64 pv, vv, bv, .int .i64 k, .int .i64 0], .agg #[.int .i64 23, .int .i64 x2], .int .i64 23, .int .i64 23, .bool false, .bool false, undef, undef, .bool false, .bool false, .pointer (some ⟨w.heap.size, 4, none⟩), .int .i64 0, .bool false, .bool false, v18, v19, v20, v21, v22, v23, v24, v25, v26, v27], defers := [] } /\ Below w1.heap.size w1 V' /\
      (d 0 = true -> v18 = .pointer (some ⟨w.heap.size, 0, none⟩)) /\ (d 1 = true -> v19 = .pointer (some ⟨w.heap.size, 2, none⟩)) /\ (d 2 = true -> v20 = bv) /\ (d 4 = true -> v22 = .pointer (some ⟨w.heap.size, 3, none⟩)) /\ (d 5 = true -> v23 = .int .i64 k) /\ (d 6 = true -> v24 = .int .i64 ((k + 1 : Nat) : Int)) /\ (d 7 = true -> v25 = .agg #[.int .i64 6, .int .i64 0]) /\
      (d 9 = false → Jud    w1.heap.size l (d 3) (d 8) V' v21 v26) ∧ (d 9 = true → Rep (fun k => w1.heap.size ≤ k ∧ k < V'.heap.size) [] V' v27 (Jaf    (l.take (k + 1) ++ (6, 0) :: l.drop (k + 1)))) ∧ (d 10 = true → d 9 = true ∧ v2 = v27)) := ⟨_, rfl⟩
    have HI := Lib.hid hInv
    clear hInv
    refine Jqd hmix Inv (by kernel_rfl) ?_ ?_ ?_
    · rw [HI.out]
      exact ⟨_, _, _, _, _, _, _, _, _, _, _, rfl, (Below.refl _ _).drew, (fun h => by cases h), (fun h => by cases h), (fun h => by cases h), (fun h => by cases h), (fun h => by cases h), (fun h => by cases h), (fun h => by cases h), (fun _ => ⟨(fun h => by cases h), (fun h => by cases h), (fun h => by cases h)⟩), (fun h => by cases h), (fun h => by cases h)⟩
    · refine ⟨?_, ?_, ?_, ?_, ?_, ?_, ?_, ?_, ?_, ?_, ?_, trivial⟩
      · intro d a' V' K hd hdep hI hK
        rw [HI.out] at hI
        obtain ⟨v18, v19, v20, v21, v22, v23, v24, v25, v26, v27, v2, rfl, hB, f0, f1, f2, f4, f5, f6, f7, fm, f9, f10⟩ := hI
        rw [if_pos (show Region.wanted _ _ = true from rfl)]
        have hB1 : Below (w.alloc (.cells #[.int .i64 pv, vv, bv, .int .i64 k, .int .i64 0] 97)).heap.size (w.alloc (.cells #[.int .i64 pv, vv, bv, .int .i64 k, .int .i64 0] 97)) V' := hb1.trans (hB.mono hb1.size)
        obtain ⟨q2, q3, q4⟩ := hbox _ hB1
        gi_wp2
        rw [HI.out]
        exact ⟨_, _, _, _, _, _, _, _, _, _, _, rfl, hB, (fun _ => rfl), f1, f2, f4, f5, f6, f7, fm, f9, f10⟩
      · intro d a' V' K hd hdep hI hK
        rw [HI.out] at hI
        obtain ⟨v18, v19, v20, v21, v22, v23, v24, v25, v26, v27, v2, rfl, hB, f0, f1, f2, f4, f5, f6, f7, fm, f9, f10⟩ := hI
        rw [if_pos (show Region.wanted _ _ = true from rfl)]
        have hB1 : Below (w.alloc (.cells #[.int .i64 pv, vv, bv, .int .i64 k, .int .i64 0] 97)).heap.size (w.alloc (.cells #[.int .i64 pv, vv, bv, .int .i64 k, .int .i64 0] 97)) V' := hb1.trans (hB.mono hb1.size)
        obtain ⟨q2, q3, q4⟩ := hbox _ hB1
        obtain rfl := f0 (hdep ⟨0, .data⟩ (by simp) rfl)
        gi_wp2
        rw [HI.out]
        exact ⟨_, _, _, _, _, _, _, _, _, _, _, rfl, hB, (fun _ => rfl), (fun _ => rfl), f2, f4, f5, f6, f7, fm, f9, f10⟩
      · intro d a' V' K hd hdep hI hK
        rw [HI.out] at hI
        obtain ⟨v18, v19, v20, v21, v22, v23, v24, v25, v26, v27, v2, rfl, hB, f0, f1, f2, f4, f5, f6, f7, fm, f9, f10⟩ := hI
        rw [if_pos (show Region.wanted _ _ = true from rfl)]
        have hB1 : Below (w.alloc (.cells #[.int .i64 pv, vv, bv, .int .i64 k, .int .i64 0] 97)).heap.size (w.alloc (.cells #[.int .i64 pv, vv, bv, .int .i64 k, .int .i64 0] 97)) V' := hb1.trans (hB.mono hb1.size)
        obtain ⟨q2, q3, q4⟩ := hbox _ hB1
        obtain rfl := f1 (hdep ⟨1, .data⟩ (by simp) rfl)
        gi_wp2
        rw [HI.out]
        exact ⟨_, _, _, _, _, _, _, _, _, _, _, rfl, hB, f0, (fun _ => rfl), (fun _ => rfl), f4, f5, f6, f7, fm, f9, f10⟩
      · intro d a' V' K hd hdep hI hK
        rw [HI.out] at hI
        obtain ⟨v18, v19, v20, v21, v22, v23, v24, v25, v26, v27, v2, rfl, hB, f0, f1, f2, f4, f5, f6, f7, fm, f9, f10⟩ := hI
        rw [if_pos (show Region.wanted _ _ = true from rfl)]
        have hB1 : Below (w.alloc (.cells #[.int .i64 pv, vv, bv, .int .i64 k, .int .i64 0] 97)).heap.size (w.alloc (.cells #[.int .i64 pv, vv, bv, .int .i64 k, .int .i64 0] 97)) V' := hb1.trans (hB.mono hb1.size)
        obtain ⟨q2, q3, q4⟩ := hbox _ hB1
        obtain rfl := f2 (hdep ⟨2, .data⟩ (by simp) rfl)
        have hbV : NodesIn (fun k => S k) V' v20 l := hb0.kept (Jg3 (hB0.trans (hB1.mono hB0.size)) hS)
        gi_wp2_with (gi_at_call 110; refine (callsIn_wide.2 (Jwc l _ _ S (fun k hk => Nat.lt_of_lt_of_le (hS k hk) (hB0.trans (hB1.mono hB0.size)).size) hbV (by omega) (by omega))).mono ?_; rintro e V2 ⟨u2, rfl, hr2, hb2⟩)
        rw [HI.out]
        exact ⟨_, _, _, _, _, _, _, _, _, _, _, rfl, hB.trans (hb2.mono hB.size), f0, f1, (fun _ => rfl), f4, f5, f6, f7, (fun h9 => Jrd (by have := fm h9; rw [hd] at this; exact this) hr2 hb2 hB.size), (fun h => Jo3 (f9 h) hb2), f10⟩
      · intro d a' V' K hd hdep hI hK
        rw [HI.out] at hI
        obtain ⟨v18, v19, v20, v21, v22, v23, v24, v25, v26, v27, v2, rfl, hB, f0, f1, f2, f4, f5, f6, f7, fm, f9, f10⟩ := hI
        rw [if_pos (show Region.wanted _ _ = true from rfl)]
        have hB1 : Below (w.alloc (.cells #[.int .i64 pv, vv, bv, .int .i64 k, .int .i64 0] 97)).heap.size (w.alloc (.cells #[.int .i64 pv, vv, bv, .int .i64 k, .int .i64 0] 97)) V' := hb1.trans (hB.mono hb1.size)
        obtain ⟨q2, q3, q4⟩ := hbox _ hB1
        gi_wp2
        rw [HI.out]
        exact ⟨_, _, _, _, _, _, _, _, _, _, _, rfl, hB, f0, f1, f2, (fun _ => rfl), f5, f6, f7, fm, f9, f10⟩
      · intro d a' V' K hd hdep hI hK
        rw [HI.out] at hI
        obtain ⟨v18, v19, v20, v21, v22, v23, v24, v25, v26, v27, v2, rfl, hB, f0, f1, f2, f4, f5, f6, f7, fm, f9, f10⟩ := hI
        rw [if_pos (show Region.wanted _ _ = true from rfl)]
        have hB1 : Below (w.alloc (.cells #[.int .i64 pv, vv, bv, .int .i64 k, .int .i64 0] 97)).heap.size (w.alloc (.cells #[.int .i64 pv, vv, bv, .int .i64 k, .int .i64 0] 97)) V' := hb1.trans (hB.mono hb1.size)
        obtain ⟨q2, q3, q4⟩ := hbox _ hB1
        obtain rfl := f4 (hdep ⟨4, .data⟩ (by simp) rfl)
        gi_wp2
        rw [HI.out]
        exact ⟨_, _, _, _, _, _, _, _, _, _, _, rfl, hB, f0, f1, f2, (fun _ => rfl), (fun _ => rfl), f6, f7, fm, f9, f10⟩
      · intro d a' V' K hd hdep hI hK
        rw [HI.out] at hI
        obtain ⟨v18, v19, v20, v21, v22, v23, v24, v25, v26, v27, v2, rfl, hB, f0, f1, f2, f4, f5, f6, f7, fm, f9, f10⟩ := hI
        rw [if_pos (show Region.wanted _ _ = true from rfl)]
        have hB1 : Below (w.alloc (.cells #[.int .i64 pv, vv, bv, .int .i64 k, .int .i64 0] 97)).heap.size (w.alloc (.cells #[.int .i64 pv, vv, bv, .int .i64 k, .int .i64 0] 97)) V' := hb1.trans (hB.mono hb1.size)
        obtain ⟨q2, q3, q4⟩ := hbox _ hB1
        obtain rfl := f5 (hdep ⟨5, .data⟩ (by simp) rfl)
        gi_wp2
        rw [HI.out]
        exact ⟨_, _, _, _, _, _, _, _, _, _, _, rfl, hB, f0, f1, f2, f4, (fun _ => rfl), (fun _ => by go_num), f7, fm, f9, f10⟩
      · intro d a' V' K hd hdep hI hK
        rw [HI.out] at hI
        obtain ⟨v18, v19, v20, v21, v22, v23, v24, v25, v26, v27, v2, rfl, hB, f0, f1, f2, f4, f5, f6, f7, fm, f9, f10⟩ := hI
        rw [if_pos (show Region.wanted _ _ = true from rfl)]
        have hB1 : Below (w.alloc (.cells #[.int .i64 pv, vv, bv, .int .i64 k, .int .i64 0] 97)).heap.size (w.alloc (.cells #[.int .i64 pv, vv, bv, .int .i64 k, .int .i64 0] 97)) V' := hb1.trans (hB.mono hb1.size)
        obtain ⟨q2, q3, q4⟩ := hbox _ hB1
        gi_wp2
        rw [HI.out]
        exact ⟨_, _, _, _, _, _, _, _, _, _, _, rfl, hB, f0, f1, f2, f4, f5, f6, (fun _ => rfl), fm, f9, f10⟩
      · intro d a' V' K hd hdep hI hK
        rw [HI.out] at hI
        obtain ⟨v18, v19, v20, v21, v22, v23, v24, v25, v26, v27, v2, rfl, hB, f0, f1, f2, f4, f5, f6, f7, fm, f9, f10⟩ := hI
        rw [if_pos (show Region.wanted _ _ = true from rfl)]
        have hB1 : Below (w.alloc (.cells #[.int .i64 pv, vv, bv, .int .i64 k, .int .i64 0] 97)).heap.size (w.alloc (.cells #[.int .i64 pv, vv, bv, .int .i64 k, .int .i64 0] 97)) V' := hb1.trans (hB.mono hb1.size)
        obtain ⟨q2, q3, q4⟩ := hbox _ hB1
        obtain rfl := f7 (hdep ⟨7, .data⟩ (by simp) rfl)
        have hb2 := below_alloc1 V' (.cells #[.int .i64 6, .int .i64 0] 54)
        gi_wp2
        rw [HI.out]
        exact ⟨_, _, _, _, _, _, _, _, _, _, _, rfl, hB.trans (hb2.mono hB.size), f0, f1, f2, f4, f5, f6, (fun _ => rfl), (fun h9 => Jvi (by have := fm h9; rw [hd] at this; exact this) hB.size), (fun h => Jo3 (f9 h) hb2), f10⟩
      · intro d a' V' K hd hdep hI hK
        rw [HI.out] at hI
        obtain ⟨v18, v19, v20, v21, v22, v23, v24, v25, v26, v27, v2, rfl, hB, f0, f1, f2, f4, f5, f6, f7, fm, f9, f10⟩ := hI
        rw [if_pos (show Region.wanted _ _ = true from rfl)]
        have hB1 : Below (w.alloc (.cells #[.int .i64 pv, vv, bv, .int .i64 k, .int .i64 0] 97)).heap.size (w.alloc (.cells #[.int .i64 pv, vv, bv, .int .i64 k, .int .i64 0] 97)) V' := hb1.trans (hB.mono hb1.size)
        obtain ⟨q2, q3, q4⟩ := hbox _ hB1
        obtain rfl := f6 (hdep ⟨6, .data⟩ (by simp) rfl)
        have hm := fm hd
        rw [hdep ⟨3, .data⟩ (by simp) rfl, hdep ⟨8, .data⟩ (by simp) rfl] at hm
        gi_wp2_with (gi_at_call 109; refine (callsIn_wide.2 (Jo6 hm hk hl hB.size)).mono ?_; rintro e V2 ⟨u2, rfl, hr2, hb2⟩)
        rw [HI.out]
        exact ⟨_, _, _, _, _, _, _, _, _, _, _, rfl, hB.trans hb2, f0, f1, f2, f4, f5, (fun _ => by go_num), f7, (fun h => by rw [Jee] at h; cases h), (fun _ => hr2), (fun h => by have := (f10 h).1; rw [hd] at this; cases this)⟩
      · intro d a' V' K hd hdep hI hK
        rw [HI.out] at hI
        obtain ⟨v18, v19, v20, v21, v22, v23, v24, v25, v26, v27, v2, rfl, hB, f0, f1, f2, f4, f5, f6, f7, fm, f9, f10⟩ := hI
        rw [if_pos (show Region.wanted _ _ = true from rfl)]
        have hB1 : Below (w.alloc (.cells #[.int .i64 pv, vv, bv, .int .i64 k, .int .i64 0] 97)).heap.size (w.alloc (.cells #[.int .i64 pv, vv, bv, .int .i64 k, .int .i64 0] 97)) V' := hb1.trans (hB.mono hb1.size)
        obtain ⟨q2, q3, q4⟩ := hbox _ hB1
        have h9 := hdep ⟨9, .data⟩ (by simp) rfl
        gi_wp2
        rw [HI.out]
        exact ⟨_, _, _, _, _, _, _, _, _, _, _, rfl, hB, f0, f1, f2, f4, f5, f6, f7, fm, f9, (fun _ => ⟨h9, rfl⟩)⟩
    · intro d a' V' hall hI
      rw [HI.out] at hI
      obtain ⟨v18, v19, v20, v21, v22, v23, v24, v25, v26, v27, v2, rfl, hB, f0, f1, f2, f4, f5, f6, f7, fm, f9, f10⟩ := hI
      obtain ⟨h9, rfl⟩ := f10 (hall 10 (by decide))
      have hres := f9 h9
      gi_wp2
      have hneg : negV l k 0 = l.take (k + 1) ++ (6, 0) :: l.drop (k + 1) := by unfold negV; rw [hx]; exact if_pos ⟨by simp, rfl⟩
      rw [hneg]
      exact ⟨_, results_tmp rfl _ _ _, v2, rfl, Rep.kept (Kept.refl _ _) (fun k hk => ⟨by have := hk.1; omega, hk.2⟩) (fun i p hi => hi) _ _ hres, (hB0.trans (hb1.mono hB0.size)).trans (hB.mono (by omega))⟩
  by_cases h2 : x1 = 24 /\ n = 0
  · obtain ⟨rfl, rfl⟩ := h2
    have hk : k + 1 < l.length := hk' ⟨.inr rfl, rfl⟩
    gi_wp2_with (first | (gi_at_call 106; refine (callsIn_wide.2 (hnode _ hB0)).mono ?_; rintro e w1 ⟨rfl, hb1⟩; obtain ⟨g2, g3, g4⟩ := hbox _ hb1) | simp only [Jmn])
    have hmix : Tryz.prog.follows .mixedOrders = true := by kernel_rfl
    have hz1 : w.heap.size < w1.heap.size := by have := hb1.size; simp at this; omega
    obtain ⟨Inv, hInv⟩ : ∃ Inv : (Nat -> Bool) -> Act -> World -> Prop, Inv = (fun d a' V' => ∃ (v18 v19 v20 v21 v22 v23 v24 v25 v26 v27 v2 : Value), a' = { tmps := #[.agg #[.int .i64 pv, vv, bv, .int .i64 k, .int .i64 0], .pointer (some ⟨w.heap.size, 0, none⟩), v2, .int .i64 24, .agg #[.int .i64 pv, vv, bv, .int .i64 k, .int .i64 0], .agg #[.int .i64 24, .int .i64 x2], .int .i64 24, .int .i64 24, .bool true, .bool true, .int .i64 24, .bool false, .bool false, .bool false, .pointer (some ⟨w.heap.size, 4, none⟩), .int .i64 0, .bool false, .bool false, v18, v19, v20, v21, v22, v23, v24, v25, v26, v27], defers := [] } /\ Below w1.heap.size w1 V' /\
      (d 0 = true -> v18 = .pointer (some ⟨w.heap.size, 0, none⟩)) /\ (d 1 = true -> v19 = .pointer (some ⟨w.heap.size, 2, none⟩)) /\ (d 2 = true -> v20 = bv) /\ (d 4 = true -> v22 = .pointer (some ⟨w.heap.size, 3, none⟩)) /\ (d 5 = true -> v23 = .int .i64 k) /\ (d 6 = true -> v24 = .int .i64 ((k + 1 : Nat) : Int)) /\ (d 7 = true -> v25 = .agg #[.int .i64 6, .int .i64 0]) /\
      (d 9 = false → Jud    w1.heap.size l (d 3) (d 8) V' v21 v26) ∧ (d 9 = true → Rep (fun k => w1.heap.size ≤ k ∧ k < V'.heap.size) [] V' v27 (Jaf    (l.take (k + 1) ++ (6, 0) :: l.drop (k + 1)))) ∧ (d 10 = true → d 9 = true ∧ v2 = v27)) := ⟨_, rfl⟩
    have HI := Lib.hid hInv
    clear hInv
    refine Jqd hmix Inv (by kernel_rfl) ?_ ?_ ?_
    · rw [HI.out]
      exact ⟨_, _, _, _, _, _, _, _, _, _, _, rfl, (Below.refl _ _).drew, (fun h => by cases h), (fun h => by cases h), (fun h => by cases h), (fun h => by cases h), (fun h => by cases h), (fun h => by cases h), (fun h => by cases h), (fun _ => ⟨(fun h => by cases h), (fun h => by cases h), (fun h => by cases h)⟩), (fun h => by cases h), (fun h => by cases h)⟩
    · refine ⟨?_, ?_, ?_, ?_, ?_, ?_, ?_, ?_, ?_, ?_, ?_, trivial⟩
      · intro d a' V' K hd hdep hI hK
        rw [HI.out] at hI
        obtain ⟨v18, v19, v20, v21, v22, v23, v24, v25, v26, v27, v2, rfl, hB, f0, f1, f2, f4, f5, f6, f7, fm, f9, f10⟩ := hI
        rw [if_pos (show Region.wanted _ _ = true from rfl)]
        have hB1 : Below (w.alloc (.cells #[.int .i64 pv, vv, bv, .int .i64 k, .int .i64 0] 97)).heap.size (w.alloc (.cells #[.int .i64 pv, vv, bv, .int .i64 k, .int .i64 0] 97)) V' := hb1.trans (hB.mono hb1.size)
        obtain ⟨q2, q3, q4⟩ := hbox _ hB1
        gi_wp2
        rw [HI.out]
        exact ⟨_, _, _, _, _, _, _, _, _, _, _, rfl, hB, (fun _ => rfl), f1, f2, f4, f5, f6, f7, fm, f9, f10⟩
      · intro d a' V' K hd hdep hI hK
        rw [HI.out] at hI
        obtain ⟨v18, v19, v20, v21, v22, v23, v24, v25, v26, v27, v2, rfl, hB, f0, f1, f2, f4, f5, f6, f7, fm, f9, f10⟩ := hI
        rw [if_pos (show Region.wanted _ _ = true from rfl)]
        have hB1 : Below (w.alloc (.cells #[.int .i64 pv, vv, bv, .int .i64 k, .int .i64 0] 97)).heap.size (w.alloc (.cells #[.int .i64 pv, vv, bv, .int .i64 k, .int .i64 0] 97)) V' := hb1.trans (hB.mono hb1.size)
        obtain ⟨q2, q3, q4⟩ := hbox _ hB1
        obtain rfl := f0 (hdep ⟨0, .data⟩ (by simp) rfl)
        gi_wp2
        rw [HI.out]
        exact ⟨_, _, _, _, _, _, _, _, _, _, _, rfl, hB, (fun _ => rfl), (fun _ => rfl), f2, f4, f5, f6, f7, fm, f9, f10⟩
      · intro d a' V' K hd hdep hI hK
        rw [HI.out] at hI
        obtain ⟨v18, v19, v20, v21, v22, v23, v24, v25, v26, v27, v2, rfl, hB, f0, f1, f2, f4, f5, f6, f7, fm, f9, f10⟩ := hI
        rw [if_pos (show Region.wanted _ _ = true from rfl)]
        have hB1 : Below (w.alloc (.cells #[.int .i64 pv, vv, bv, .int .i64 k, .int .i64 0] 97)).heap.size (w.alloc (.cells #[.int .i64 pv, vv, bv, .int .i64 k, .int .i64 0] 97)) V' := hb1.trans (hB.mono hb1.size)
        obtain ⟨q2, q3, q4⟩ := hbox _ hB1
        obtain rfl := f1 (hdep ⟨1, .data⟩ (by simp) rfl)
        gi_wp2
        rw [HI.out]
        exact ⟨_, _, _, _, _, _, _, _, _, _, _, rfl, hB, f0, (fun _ => rfl), (fun _ => rfl), f4, f5, f6, f7, fm, f9, f10⟩
      · intro d a' V' K hd hdep hI hK
        rw [HI.out] at hI
        obtain ⟨v18, v19, v20, v21, v22, v23, v24, v25, v26, v27, v2, rfl, hB, f0, f1, f2, f4, f5, f6, f7, fm, f9, f10⟩ := hI
        rw [if_pos (show Region.wanted _ _ = true from rfl)]
        have hB1 : Below (w.alloc (.cells #[.int .i64 pv, vv, bv, .int .i64 k, .int .i64 0] 97)).heap.size (w.alloc (.cells #[.int .i64 pv, vv, bv, .int .i64 k, .int .i64 0] 97)) V' := hb1.trans (hB.mono hb1.size)
        obtain ⟨q2, q3, q4⟩ := hbox _ hB1
        obtain rfl := f2 (hdep ⟨2, .data⟩ (by simp) rfl)
        have hbV : NodesIn (fun k => S k) V' v20 l := hb0.kept (Jg3 (hB0.trans (hB1.mono hB0.size)) hS)
        gi_wp2_with (gi_at_call 110; refine (callsIn_wide.2 (Jwc l _ _ S (fun k hk => Nat.lt_of_lt_of_le (hS k hk) (hB0.trans (hB1.mono hB0.size)).size) hbV (by omega) (by omega))).mono ?_; rintro e V2 ⟨u2, rfl, hr2, hb2⟩)
        rw [HI.out]
        exact ⟨_, _, _, _, _, _, _, _, _, _, _, rfl, hB.trans (hb2.mono hB.size), f0, f1, (fun _ => rfl), f4, f5, f6, f7, (fun h9 => Jrd (by have := fm h9; rw [hd] at this; exact this) hr2 hb2 hB.size), (fun h => Jo3 (f9 h) hb2), f10⟩
      · intro d a' V' K hd hdep hI hK
        rw [HI.out] at hI
        obtain ⟨v18, v19, v20, v21, v22, v23, v24, v25, v26, v27, v2, rfl, hB, f0, f1, f2, f4, f5, f6, f7, fm, f9, f10⟩ := hI
        rw [if_pos (show Region.wanted _ _ = true from rfl)]
        have hB1 : Below (w.alloc (.cells #[.int .i64 pv, vv, bv, .int .i64 k, .int .i64 0] 97)).heap.size (w.alloc (.cells #[.int .i64 pv, vv, bv, .int .i64 k, .int .i64 0] 97)) V' := hb1.trans (hB.mono hb1.size)
        obtain ⟨q2, q3, q4⟩ := hbox _ hB1
        gi_wp2
        rw [HI.out]
        exact ⟨_, _, _, _, _, _, _, _, _, _, _, rfl, hB, f0, f1, f2, (fun _ => rfl), f5, f6, f7, fm, f9, f10⟩
      · intro d a' V' K hd hdep hI hK
        rw [HI.out] at hI
        obtain ⟨v18, v19, v20, v21, v22, v23, v24, v25, v26, v27, v2, rfl, hB, f0, f1, f2, f4, f5, f6, f7, fm, f9, f10⟩ := hI
        rw [if_pos (show Region.wanted _ _ = true from rfl)]
        have hB1 : Below (w.alloc (.cells #[.int .i64 pv, vv, bv, .int .i64 k, .int .i64 0] 97)).heap.size (w.alloc (.cells #[.int .i64 pv, vv, bv, .int .i64 k, .int .i64 0] 97)) V' := hb1.trans (hB.mono hb1.size)
        obtain ⟨q2, q3, q4⟩ := hbox _ hB1
        obtain rfl := f4 (hdep ⟨4, .data⟩ (by simp) rfl)
        gi_wp2
        rw [HI.out]
        exact ⟨_, _, _, _, _, _, _, _, _, _, _, rfl, hB, f0, f1, f2, (fun _ => rfl), (fun _ => rfl), f6, f7, fm, f9, f10⟩
      · intro d a' V' K hd hdep hI hK
        rw [HI.out] at hI
        obtain ⟨v18, v19, v20, v21, v22, v23, v24, v25, v26, v27, v2, rfl, hB, f0, f1, f2, f4, f5, f6, f7, fm, f9, f10⟩ := hI
        rw [if_pos (show Region.wanted _ _ = true from rfl)]
        have hB1 : Below (w.alloc (.cells #[.int .i64 pv, vv, bv, .int .i64 k, .int .i64 0] 97)).heap.size (w.alloc (.cells #[.int .i64 pv, vv, bv, .int .i64 k, .int .i64 0] 97)) V' := hb1.trans (hB.mono hb1.size)
        obtain ⟨q2, q3, q4⟩ := hbox _ hB1
        obtain rfl := f5 (hdep ⟨5, .data⟩ (by simp) rfl)
        gi_wp2
        rw [HI.out]
        exact ⟨_, _, _, _, _, _, _, _, _, _, _, rfl, hB, f0, f1, f2, f4, (fun _ => rfl), (fun _ => by go_num), f7, fm, f9, f10⟩
      · intro d a' V' K hd hdep hI hK
        rw [HI.out] at hI
        obtain ⟨v18, v19, v20, v21, v22, v23, v24, v25, v26, v27, v2, rfl, hB, f0, f1, f2, f4, f5, f6, f7, fm, f9, f10⟩ := hI
        rw [if_pos (show Region.wanted _ _ = true from rfl)]
        have hB1 : Below (w.alloc (.cells #[.int .i64 pv, vv, bv, .int .i64 k, .int .i64 0] 97)).heap.size (w.alloc (.cells #[.int .i64 pv, vv, bv, .int .i64 k, .int .i64 0] 97)) V' := hb1.trans (hB.mono hb1.size)
        obtain ⟨q2, q3, q4⟩ := hbox _ hB1
        gi_wp2
        rw [HI.out]
        exact ⟨_, _, _, _, _, _, _, _, _, _, _, rfl, hB, f0, f1, f2, f4, f5, f6, (fun _ => rfl), fm, f9, f10⟩
      · intro d a' V' K hd hdep hI hK
        rw [HI.out] at hI
        obtain ⟨v18, v19, v20, v21, v22, v23, v24, v25, v26, v27, v2, rfl, hB, f0, f1, f2, f4, f5, f6, f7, fm, f9, f10⟩ := hI
        rw [if_pos (show Region.wanted _ _ = true from rfl)]
        have hB1 : Below (w.alloc (.cells #[.int .i64 pv, vv, bv, .int .i64 k, .int .i64 0] 97)).heap.size (w.alloc (.cells #[.int .i64 pv, vv, bv, .int .i64 k, .int .i64 0] 97)) V' := hb1.trans (hB.mono hb1.size)
        obtain ⟨q2, q3, q4⟩ := hbox _ hB1
        obtain rfl := f7 (hdep ⟨7, .data⟩ (by simp) rfl)
        have hb2 := below_alloc1 V' (.cells #[.int .i64 6, .int .i64 0] 54)
        gi_wp2
        rw [HI.out]
        exact ⟨_, _, _, _, _, _, _, _, _, _, _, rfl, hB.trans (hb2.mono hB.size), f0, f1, f2, f4, f5, f6, (fun _ => rfl), (fun h9 => Jvi (by have := fm h9; rw [hd] at this; exact this) hB.size), (fun h => Jo3 (f9 h) hb2), f10⟩
      · intro d a' V' K hd hdep hI hK
        rw [HI.out] at hI
        obtain ⟨v18, v19, v20, v21, v22, v23, v24, v25, v26, v27, v2, rfl, hB, f0, f1, f2, f4, f5, f6, f7, fm, f9, f10⟩ := hI
        rw [if_pos (show Region.wanted _ _ = true from rfl)]
        have hB1 : Below (w.alloc (.cells #[.int .i64 pv, vv, bv, .int .i64 k, .int .i64 0] 97)).heap.size (w.alloc (.cells #[.int .i64 pv, vv, bv, .int .i64 k, .int .i64 0] 97)) V' := hb1.trans (hB.mono hb1.size)
        obtain ⟨q2, q3, q4⟩ := hbox _ hB1
        obtain rfl := f6 (hdep ⟨6, .data⟩ (by simp) rfl)
        have hm := fm hd
        rw [hdep ⟨3, .data⟩ (by simp) rfl, hdep ⟨8, .data⟩ (by simp) rfl] at hm
        gi_wp2_with (gi_at_call 109; refine (callsIn_wide.2 (Jo6 hm hk hl hB.size)).mono ?_; rintro e V2 ⟨u2, rfl, hr2, hb2⟩)
        rw [HI.out]
        exact ⟨_, _, _, _, _, _, _, _, _, _, _, rfl, hB.trans hb2, f0, f1, f2, f4, f5, (fun _ => by go_num), f7, (fun h => by rw [Jee] at h; cases h), (fun _ => hr2), (fun h => by have := (f10 h).1; rw [hd] at this; cases this)⟩
      · intro d a' V' K hd hdep hI hK
        rw [HI.out] at hI
        obtain ⟨v18, v19, v20, v21, v22, v23, v24, v25, v26, v27, v2, rfl, hB, f0, f1, f2, f4, f5, f6, f7, fm, f9, f10⟩ := hI
        rw [if_pos (show Region.wanted _ _ = true from rfl)]
        have hB1 : Below (w.alloc (.cells #[.int .i64 pv, vv, bv, .int .i64 k, .int .i64 0] 97)).heap.size (w.alloc (.cells #[.int .i64 pv, vv, bv, .int .i64 k, .int .i64 0] 97)) V' := hb1.trans (hB.mono hb1.size)
        obtain ⟨q2, q3, q4⟩ := hbox _ hB1
        have h9 := hdep ⟨9, .data⟩ (by simp) rfl
        gi_wp2
        rw [HI.out]
        exact ⟨_, _, _, _, _, _, _, _, _, _, _, rfl, hB, f0, f1, f2, f4, f5, f6, f7, fm, f9, (fun _ => ⟨h9, rfl⟩)⟩
    · intro d a' V' hall hI
      rw [HI.out] at hI
      obtain ⟨v18, v19, v20, v21, v22, v23, v24, v25, v26, v27, v2, rfl, hB, f0, f1, f2, f4, f5, f6, f7, fm, f9, f10⟩ := hI
      obtain ⟨h9, rfl⟩ := f10 (hall 10 (by decide))
      have hres := f9 h9
      gi_wp2
      have hneg : negV l k 0 = l.take (k + 1) ++ (6, 0) :: l.drop (k + 1) := by unfold negV; rw [hx]; exact if_pos ⟨by simp, rfl⟩
      rw [hneg]
      exact ⟨_, results_tmp rfl _ _ _, v2, rfl, Rep.kept (Kept.refl _ _) (fun k hk => ⟨by have := hk.1; omega, hk.2⟩) (fun i p hi => hi) _ _ hres, (hB0.trans (hb1.mono hB0.size)).trans (hB.mono (by omega))⟩
  by_cases h23 : x1 = 23
  · subst h23
    have hn : ¬ n = 0 := fun e => h1 ⟨rfl, e⟩
    gi_wp2_with (first | (gi_at_call 106; refine (callsIn_wide.2 (hnode _ hB0)).mono ?_; rintro e w1 ⟨rfl, hb1⟩; obtain ⟨g2, g3, g4⟩ := hbox _ hb1) | simp only [Jmn])
    have hneg : negV l k n = [] := by unfold negV; rw [hx]; exact if_neg (by simp only; omega)
    rw [hneg]
    exact ⟨_, results_tmp rfl _ _ _, .slice none 0 0, rfl, by simp only [Jaf, List.map_nil, Rep]; exact .inl ⟨trivial, none, 0, rfl, fun _ => rfl⟩, hB0.trans (hb1.mono hB0.size)⟩
  by_cases h24 : x1 = 24
  · subst h24
    have hn : ¬ n = 0 := fun e => h2 ⟨rfl, e⟩
    gi_wp2_with (first | (gi_at_call 106; refine (callsIn_wide.2 (hnode _ hB0)).mono ?_; rintro e w1 ⟨rfl, hb1⟩; obtain ⟨g2, g3, g4⟩ := hbox _ hb1) | simp only [Jmn])
    have hneg : negV l k n = [] := by unfold negV; rw [hx]; exact if_neg (by simp only; omega)
    rw [hneg]
    exact ⟨_, results_tmp rfl _ _ _, .slice none 0 0, rfl, by simp only [Jaf, List.map_nil, Rep]; exact .inl ⟨trivial, none, 0, rfl, fun _ => rfl⟩, hB0.trans (hb1.mono hB0.size)⟩
  · gi_wp2_with (first | (gi_at_call 106; refine (callsIn_wide.2 (hnode _ hB0)).mono ?_; rintro e w1 ⟨rfl, hb1⟩; obtain ⟨g2, g3, g4⟩ := hbox _ hb1) | simp only [Jmn])
    have hneg : negV l k n = [] := by unfold negV; rw [hx]; exact if_neg (by simp only; omega)
    rw [hneg]
    exact ⟨_, results_tmp rfl _ _ _, .slice none 0 0, rfl, by simp only [Jaf, List.map_nil, Rep]; exact .inl ⟨trivial, none, 0, rfl, fun _ => rfl⟩, hB0.trans (hb1.mono hB0.size)⟩
def Jjm : List D -> Option D := F1 chT fun c => if 0 <= c.k /\ c.k < c.p.body.length /\ (((nodeAt c.p.body c.k).1 = 23 \/ (nodeAt c.p.body c.k).1 = 24) /\ c.n = 0 -> c.k + 1 < c.p.body.length) /\ c.p.body.length <= 300000 then some (Jaf (negV c.p.body c.k.toNat c.n)) else none
theorem Qpu : CallOk Tryz.prog 71 Jjm := by
  refine ⟨⟨_, Tryz.func71, by decide, rfl⟩, fun ds d hF S vs W hS hv => ?_⟩
  unfold Jjm F1 at hF
  split at hF
  · rename_i x0
    obtain ⟨c, hc, hF⟩ := Option.bind_eq_some_iff.1 hF
    split at hF
    case isFalse => cases hF
    rename_i hg
    cases hF
    have hi : RepA S [] W vs [chD c] := (ImpL.cons (chT.ok _ _ hc) .nil : ImpL _ _).rep hv
    obtain ⟨⟨pv, vr, l⟩, k, n⟩ := c
    obtain ⟨k, rfl⟩ := Int.eq_ofNat_of_zero_le hg.1
    simp only [RepA, chD, chC, Rep] at hi
    obtain ⟨_, _, rfl, ⟨_, rfl, _, _, rfl, rfl, vv, _, rfl, hvv, bv, _, rfl, hbv, _, _, rfl, rfl, _, _, rfl, rfl, rfl⟩, rfl⟩ := hi
    simp only [Int.toNat_natCast] at hg ⊢
    refine (Jvh l k n pv vv bv W S hS vr hvv hbv (by omega) (fun h => by have := hg.2.2.1 h; omega) hg.2.2.2).mono ?_
    rintro e w' ⟨u, rfl, h1, h2⟩
    exact ⟨u, rfl, Rep.kept (Kept.refl _ _) (fun k hk => .inr hk) (fun i p hi => hi) _ _ h1, h2⟩
  · cases hF
theorem Qpk : CallNew Tryz.prog 71 Jjm := by
  refine ⟨⟨_, Tryz.func71, by decide, rfl⟩, fun ds d hF S vs W hS hv => ?_⟩
  unfold Jjm F1 at hF
  split at hF
  · rename_i x0
    obtain ⟨c, hc, hF⟩ := Option.bind_eq_some_iff.1 hF
    split at hF
    case isFalse => cases hF
    rename_i hg
    cases hF
    have hi : RepA S [] W vs [chD c] := (ImpL.cons (chT.ok _ _ hc) .nil : ImpL _ _).rep hv
    obtain ⟨⟨pv, vr, l⟩, k, n⟩ := c
    obtain ⟨k, rfl⟩ := Int.eq_ofNat_of_zero_le hg.1
    simp only [RepA, chD, chC, Rep] at hi
    obtain ⟨_, _, rfl, ⟨_, rfl, _, _, rfl, rfl, vv, _, rfl, hvv, bv, _, rfl, hbv, _, _, rfl, rfl, _, _, rfl, rfl, rfl⟩, rfl⟩ := hi
    simp only [Int.toNat_natCast] at hg ⊢
    refine (Jvh l k n pv vv bv W S hS vr hvv hbv (by omega) (fun h => by have := hg.2.2.1 h; omega) hg.2.2.2).mono ?_
    rintro e w' ⟨u, rfl, h1, h2⟩
    exact ⟨u, rfl, h1, h2⟩
  · cases hF
end Go.Proofs.YtinnbafplhcnpaaGreat
end
section
namespace Go.Proofs.YtinnbafplhcnpaaGreat
open Go.RowKit
set_option linter.unusedVariables false
set_option linter.unusedSimpArgs false
theorem Qi5 (t : TypeId) (a b c : Int) (H : Heap) : rowH t 1 3 [iD 0] [(0, iD a), (1, iD b), (2, iD c)] H = some (.hs H.length 3, H ++ [.cells t 1 [iD a, iD b, iD c]]) := rfl
theorem Qk5 (o1 o2 : HO) (t : TypeId) (a b c : Int) : Jae Jul [.hs 2 3] [o1, o2, .cells t 1 [iD a, iD b, iD c]] = some (iD (orV [a, b, c]), [o1, o2, .cells t 1 [iD a, iD b, iD c]]) := by
  have hd : [D.hs 2 3].mapM (Jbs [o1, o2, .cells t 1 [iD a, iD b, iD c]] 9) = some [Jag [a, b, c]] := rfl
  rw [Jo9 _ _ _ _ rfl hd]
  have : Jul [Jag [a, b, c]] = _ := Jjh (A := intsT) _ [a, b, c]
  rw [this, if_pos (by simp)]
  rfl
theorem Qrc (a b : Dl) : orV [cmpL a.path b.path, cmpI a.op b.op, cmpI a.n b.n] = Jgs a b := by
  unfold Jgs
  simp only [orV]
  split
  · rfl
  · split
    · rfl
    · split
      · rfl
      · rename_i h; exact (Decidable.not_not.1 h).symm
def Jg7 : List D -> Option D := F2 dlT dlT fun a b => if a.path.length <= 3000000 /\ b.path.length <= 3000000 then some (iD (Jgs a b)) else none
theorem Qii : CallOk Tryz.prog 47 Jg7 := Jlf (kp := Jlk) Jq0 mixed Tryz.func47 (by kernel_rfl) (by decide) fun a b d h => by
  split at h
  case isFalse => cases h
  rename_i hl
  cases h
  refine ⟨0, _, ?_, Imp.refl _⟩
  show outD (Jap _ _ _ _ _ [dlD a, dlD b] []) = _
  rw [Jrs, <- Qrc]
  simp [Qaj _ _ _ hl.1 hl.2, Qk6, Qi5, Qk5]
theorem Jyj : CallOk Tryz.prog 34 Jg7 := Jlf (kp := Jfy) Jq0 mixed Tryz.func34 (by kernel_rfl) (by decide) fun a b d h => by
  split at h
  case isFalse => cases h
  rename_i hl
  cases h
  refine ⟨0, _, ?_, Imp.refl _⟩
  show outD (Jap _ _ _ _ _ [dlD a, dlD b] []) = _
  rw [Jj6]
  unfold Jgs
  by_cases h1 : cmpL a.path b.path = 0
  · by_cases h2 : a.op = b.op
    · have h3 : cmpI a.op b.op = 0 := (Jmq _ _).2 h2
      rw [h2] at h3
      simp [Jiv _ _ _ hl.1 hl.2, Jta, h1, h2, h3]
    · have h3 : ¬ cmpI a.op b.op = 0 := fun e => h2 ((Jmq _ _).1 e)
      simp [Jiv _ _ _ hl.1 hl.2, Jta, h1, h2, h3]
  · simp [Jiv _ _ _ hl.1 hl.2, Jta, h1]
theorem Ji6 (c : Chg) (H : Heap) (h0 : 0 <= c.k) (hk : c.k.toNat < c.p.body.length) : Jae Jd4 [chD c] H = some (.agg (Jax (nodeAt c.p.body c.k)), H) := by
  rw [Jar _ _ _ rfl]
  have : Jd4 [chD c] = _ := Jjh (A := chT) _ c
  rw [this, if_pos ⟨h0, hk⟩]; rfl
theorem Qiy (H : Heap) (id : Nat) (t : TypeId) (l : List Nd) (k : Nat) (x : Nd) (hk : k < l.length) (h : H[id]? = some (.cells t 2 (Jbo l))) : setH 2 (.hp id (k * 2)) (.agg (Jax x)) H = some (.v undef, H.set id (.cells t 2 (Jbo (l.set k x)))) := by
  have hl : k * 2 + 2 <= (Jbo l).length := by rw [Jg2]; omega
  rw [Qg7 l k x hk, Nat.mul_comm 2 k]
  simp [setH, Jhz, h, Jax, cellsD, hl]
def Jor : List D -> Option D := F2 chT ndT fun c x => if 0 <= c.k /\ c.k.toNat < c.p.body.length /\ c.p.body.length <= 1000000 then some (Jaf (c.p.body.set c.k.toNat x)) else none
theorem Qt3 : CallOk Tryz.prog 107 Jor := Jlf (kp := Jh7) Jq0 mixed Tryz.func107 (by kernel_rfl) (by decide) fun c x d h => by
  split at h
  case isFalse => cases h
  rename_i hg
  cases h
  obtain ⟨h0, h1, h2⟩ := hg
  obtain ⟨⟨m, vs, l⟩, k, n⟩ := c
  obtain ⟨k, rfl⟩ := Int.eq_ofNat_of_zero_le h0
  simp only [Int.toNat_natCast] at h1 h2 ⊢
  refine ⟨0, _, ?_, Imp.refl _⟩
  show outD (Jap _ _ _ _ _ [chD ⟨⟨m, vs, l⟩, k, n⟩, .agg (Jax x)] []) = _
  rw [Jnr]
  have hc := Qk8 l [.cells 97 5 [iD m, Jag vs, Jaf l, iD k, iD n], .cells 54 2 [iD x.1, iD x.2]] (by omega) h2
  have hi : idxH 2 (.hs 3 l.length) (iD k) = some (.hp 3 (k * 2)) := by
    simp [idxH, h1]
  have hs := Qiy [.cells 97 5 [iD m, Jag vs, Jaf l, iD k, iD n], .cells 54 2 [iD x.1, iD x.2], .dead, .cells 54 2 (Jbo l)] 3 54 l k x h1 rfl
  have ho := Qjf [.cells 97 5 [iD m, Jag vs, Jaf l, iD k, iD n], .cells 54 2 [iD x.1, iD x.2], .dead, .cells 54 2 (Jbo (l.set k x))] 54 3 (l.set k x) rfl
  rw [List.length_set] at ho
  have hx : D.agg [iD x.1, iD x.2] = .agg (Jax x) := rfl
  simp at hc
  simp [hc, hi, hx, hs, ho]
def Jpz : List D -> Option D := F3 chT intT intT fun c lo hi => if 0 <= c.k /\ c.k.toNat < c.p.body.length then some (bD (decide (lo <= (nodeAt c.p.body c.k).1 /\ (nodeAt c.p.body c.k).1 <= hi /\ lo <= c.n /\ c.n <= hi))) else none
theorem Qpx : CallOk Tryz.prog 127 Jpz := Qax (kp := Jhq) Jq0 mixed Tryz.func127 (by kernel_rfl) (by decide) fun c lo hi d h => by
  split at h
  case isFalse => cases h
  rename_i hg
  cases h
  refine ⟨0, _, ?_, Imp.refl _⟩
  show outD (Jap _ _ _ _ _ [chD c, iD lo, iD hi] []) = _
  rw [Jl4]
  have hc := fun H => Ji6 c H hg.1 hg.2
  have hx : D.agg [iD c.p.params, Jag c.p.vars, Jaf c.p.body, iD c.k, iD c.n] = chD c := rfl
  generalize nodeAt c.p.body c.k = x at *
  by_cases h1 : lo <= x.1
  · by_cases h2 : x.1 <= hi
    · by_cases h3 : lo <= c.n
      · simp [hc, hx, h1, h2, h3]
      · simp [hc, hx, h1, h2, h3]
    · simp [hc, hx, h1, h2]
  · simp [hc, hx, h1]
theorem Jk1 (l : List Nd) (i : Int) (H : Heap) (hl : l.length <= 3000000) : Jae Jgq [Jaf l, iD i] H = some (iD (endv l i), H) := by
  rw [Jar _ _ _ rfl]; simp [Jgq, hl]
theorem Qqu     (l : List Nd) (a b : Int) (k to : Nat) (x : Nd) (H : Heap) (n : Nat) (hn : n = H.length) (ha : a = k) (hb : b = to) (h1 : k ≤ to) (h2 : to ≤ l.length) (h3 : l.length ≤ 300000) (t : TypeId) :
    Jc8 Jlo [Jaf l, iD a, iD b, .hs n 1] (H ++ [.cells t 2 [iD x.1, iD x.2]]) = some (Jaf (Jp7 l k to [x]), H ++ [.cells t 2 [iD x.1, iD x.2]]) := by
  subst hn; subst ha; subst hb
  exact Qm2 l k to x H h1 h2 h3 t
theorem Qp9 {x : Nd} {op n : Int} (h : mayV x op n) : op = 1 \/ op = 2 \/ op = 3 \/ op = 4 \/ op = 5 \/ op = 6 \/ (op = 7 /\ x.1 = 25) := by
  rcases h with h | h | h | h | h | h | h
  · exact .inl h.1
  · exact .inr (.inl h.1)
  · exact .inr (.inr (.inl h.1))
  · exact .inr (.inr (.inr (.inl h.1)))
  · exact .inr (.inr (.inr (.inr (.inl h.1))))
  · exact .inr (.inr (.inr (.inr (.inr (.inl h.1)))))
  · exact .inr (.inr (.inr (.inr (.inr (.inr h)))))
def Jmz : List D -> Option D := F3 nodesT intT dlT fun l k d => if 0 <= k /\ 0 <= endv l k /\ mayV (nodeAt l k) d.op d.n /\ l.length <= 300000 then some (Jaf (Jaw l k.toNat (nodeAt l k) d.op d.n)) else none
theorem Qmg : CallOk Tryz.prog 76 Jmz := Qax (kp := Jfw) Jq0 mixed Tryz.func76 (by kernel_rfl) (by decide) fun l k d r h => by
  split at h
  case isFalse => cases h
  rename_i hg
  cases h
  obtain ⟨h0, hE, hm, hl⟩ := hg
  obtain ⟨k, rfl⟩ := Int.eq_ofNat_of_zero_le h0
  simp only [Int.toNat_natCast]
  refine ⟨0, _, ?_, Imp.refl _⟩
  show outD (Jap _ _ _ _ _ [Jaf l, iD k, dlD d] []) = _
  have hk : k < l.length := by have := (Ja2 l k hE).2; simpa using this
  have hx : l[k]? = some (nodeAt l k) := by rw [Jc7 _ _ hk]; exact List.getElem?_eq_getElem hk
  have hle := Jgl l k
  have hgt := Jd2 l k hE
  rw [Jj4, <- Qnl hE hx hm]
  have hi := Jav l k hk
  have hn : l[k] = nodeAt l k := (Jc7 l k hk).symm
  have ha := Jco 54 [.cells 34 3 [Jag d.path, iD d.op, iD d.n]]
  have hs := Jry [.cells 34 3 [Jag d.path, iD d.op, iD d.n], .cells 54 2 [iD 0, iD 0]] 1 54 (iD 0) (iD 0) (nodeAt l k) rfl
  have e1 := Jb0 (k : Int) 1 (by omega) (by omega)
  have hsw := fun (a b : Int) (to : Nat) (x : Nd) (k' : Nat) => Qqu l a b k' to x [.cells 34 3 [Jag d.path, iD d.op, iD d.n], .cells 54 2 (Jax (nodeAt l k))] 2 rfl
  have e7 : (nodeAt l k).1 = 25 -> 0 <= endv l ((k + 1 : Nat) : Int) /\ endv l ((k + 1 : Nat) : Int) = endv l k := fun h => by
    obtain ⟨f1, f2, _⟩ := Jqb l k hE h
    exact ⟨f1, f2⟩
  obtain ⟨m, hm2⟩ := Int.eq_ofNat_of_zero_le hE
  rw [hn] at hi
  generalize nodeAt l k = x at *
  obtain ⟨p, op, v⟩ := d
  simp only at *
  unfold Qjb
  have g0 : (Jax x)[0]? = some (iD x.1) := rfl
  have g1 : (Jax x)[1]? = some (iD x.2) := rfl
  have he := Jk1 l k [.cells 34 3 [Jag p, iD op, iD v], .cells 54 2 (Jax x)] (by omega)
  rw [hm2] at he
  rcases Qp9 hm with rfl | rfl | rfl | rfl | rfl | rfl | ⟨rfl, h7⟩
  · have q := hsw k ((k : Int) + 1) (k + 1) (v, x.2) k rfl (by omega) (by omega) (by omega) hl 54
    simp at q
    simp [hi, Jco, hs, e1, g0, g1, Jen, Jfo, q]
  · have q := hsw k ((k : Int) + 1) (k + 1) (v, x.2) k rfl (by omega) (by omega) (by omega) hl 54
    simp at q
    simp [hi, Jco, hs, e1, g0, g1, Jen, Jfo, q]
  · have q := hsw k ((k : Int) + 1) (k + 1) (v, x.2) k rfl (by omega) (by omega) (by omega) hl 54
    simp at q
    simp [hi, Jco, hs, e1, g0, g1, Jen, Jfo, q]
  · have q := hsw k ((k : Int) + 1) (k + 1) (x.1, v) k rfl (by omega) (by omega) (by omega) hl 54
    simp at q
    simp [hi, Jco, hs, e1, g0, g1, Jen, Jfo, q]
  · have q := hsw k m m (26, 0) k rfl rfl (by omega) (by omega) hl 54
    simp at q
    simp [hi, Jco, hs, e1, g0, g1, Jt1, Jfo, q, he, hm2]
  · have q := hsw ((k : Int) + 1) ((k : Int) + 1) (k + 1) (6, 0) (k + 1) (by omega) (by omega) (by omega) (by omega) hl 54
    simp at q
    simp [hi, Jco, hs, e1, g0, g1, Jt1, Jfo, q]
  · obtain ⟨f1, f2⟩ := e7 h7
    have f3 := Jd2 l _ f1
    have he := Jk1 l ((k + 1 : Nat) : Int) [.cells 34 3 [Jag p, iD 7, iD v], .cells 54 2 (Jax x)] (by omega)
    rw [f2, hm2] at he
    rw [f2, hm2] at f3
    have q := hsw ((k : Int) + 1) m m (1, v) (k + 1) (by omega) rfl (by omega) (by omega) hl 54
    simp at q he
    simp at f2
    simp [hi, Jco, hs, e1, g0, g1, Jen, Jfo, q, he, f2, hm2]
def Qma : List D -> Option D := F3 ndT intT intT fun x op n => some (bD (decide (mayV x op n)))
theorem C_may : CallOk Tryz.prog 75 Qma := Qax (kp := Jh1) Jq0 mixed Tryz.func75 (by kernel_rfl) (by decide) fun x op n r h => by
  cases h
  refine ⟨0, _, ?_, Imp.refl _⟩
  show outD (Jap _ _ _ _ _ [.agg (Jax x), iD op, iD n] []) = _
  rw [Jnk]
  obtain ⟨t, m⟩ := x
  have ho : ∀ (c : Prop) [Decidable c] (a b : Option (D × Heap)), outD (if c then a else b) = if c then outD a else outD b := fun c _ a b => by split <;> rfl
  have hi : ∀ (c : Prop) [Decidable c] (a b : Bool), (if c then some (bD a) else some (bD b)) = some (bD (if c then a else b)) := fun c _ a b => by split <;> rfl
  have hb : ∀ a b : Int, (a == b) = decide (a = b) := fun _ _ => rfl
  by_cases o1 : op = 1
  · subst o1
    simp [Jed, ho, hi, mayV]
    try (rw [Bool.eq_iff_iff]; simp; omega)
  by_cases o2 : op = 2
  · subst o2
    simp [Jed, ho, hi, mayV]
    try (rw [Bool.eq_iff_iff]; simp; omega)
  by_cases o3 : op = 3
  · subst o3
    simp [Jed, ho, hi, mayV]
    try (rw [Bool.eq_iff_iff]; simp; omega)
  by_cases o4 : op = 4
  · subst o4
    simp [Jed, ho, hi, mayV]
    try (rw [Bool.eq_iff_iff]; simp; omega)
  by_cases o5 : op = 5
  · subst o5
    simp [Jed, ho, hi, mayV]
    simp only [hb]
    by_cases t1 : t = 21 <;> by_cases t2 : t = 22 <;> by_cases t3 : t = 23 <;> by_cases t4 : t = 24 <;> simp [t1, t2, t3, t4]
  by_cases o6 : op = 6
  · subst o6
    simp [Jed, ho, hi, mayV]
    simp only [hb]
    by_cases t3 : t = 23 <;> by_cases t4 : t = 24 <;> simp [t3, t4]
  by_cases o7 : op = 7
  · subst o7
    simp [Jed, ho, hi, mayV]
    simp only [hb]
  simp [Jed, ho, hi, mayV, o1, o2, o3, o4, o5, o6, o7]
def Qor (P : Program) : List Entry := (47, true, Jae Jg7) :: (34, true, Jae Jg7) :: (107, true, Jae Jor) :: (127, true, Jae Jpz) :: (76, true, Jae Jmz) :: (75, true, Jae Qma) :: (71, true, Jae Jjm) :: Qr8 P
theorem Jxn : ∀ p ∈ Qor Tryz.prog, Jbu Tryz.prog p := Jac (Jal Qii) <| Jac (Jal Jyj) <| Jac (Jal Qt3) <| Jac (Jal Qpx) <| Jac (Jal Qmg) <| Jac (Jal C_may) <| Jac (Jal Qpu) <| Qfd
def T12c (P : Program) : Tab := ⟨Qor P, noYl⟩
theorem Jua : TabOk Tryz.prog (T12c Tryz.prog) := Jb4 Jxn
end Go.Proofs.YtinnbafplhcnpaaGreat
end
section
namespace Go.Proofs.YtinnbafplhcnpaaGreat
open Go.RowKit
set_option linter.unusedVariables false
set_option maxRecDepth 100000
def Jh5 : List Nat := []
theorem Jh0 (n : Nat) (x0 x1 x2 : D) (h : Heap) : Jap Tryz.prog (T12c Tryz.prog) Jh5 n Tryz.f105 [x0, x1, x2] h =
(thnH (boxH 97 x0 h) fun y0 h1 =>
thn (Jad (some 5) h1 y0) fun y2 =>
thnH (Jae Jpz [y2, x1, x2] h1) fun y3 h4 =>
thn (notD y3) fun y5 =>
Jah y5
(some ((.v (.slice none 0 0)), h4))
(thn (Jad (some 5) h4 y0) fun y6 =>
thn (Jaa 4 y0) fun y7 =>
thn (Jad none h4 y7) fun y8 =>
thn (Jad (some 5) h4 y0) fun y9 =>
thnH (Jae Jd4 [y9] h4) fun y10 h11 =>
thn (Jln none 1 y10) fun y12 =>
thn (Jbv [(0, 1), (1, 1)] [(iD 0), (iD 0)] [(0, y8), (1, y12)]) fun y13 =>
thnH (Jae Jor [y6, y13] h11) fun y14 h15 =>
some (y14, h15))) := by kernel_rfl
def Jfj : List Nat := []
theorem Jd1 (n : Nat) (x0 : D) (h : Heap) : Jap Tryz.prog (T12c Tryz.prog) Jfj n Tryz.f69 [x0] h =
(thnH (boxH 97 x0 h) fun y0 h1 =>
thn (Jad (some 5) h1 y0) fun y2 =>
thnH (Jae Jd4 [y2] h1) fun y3 h4 =>
thnH (Jaz 54 [(iD 0), (iD 0)] h4) fun y5 h6 =>
thnH (setH 2 y5 y3 h6) fun y7 h8 =>
thn (Jaa 0 y5) fun y9 =>
thn (Jad none h8 y9) fun y10 =>
thn (binK .int .neq y10 (iD 1)) fun y11 =>
Jah y11
(thn (Jaa 0 y5) fun y12 =>
thn (Jad none h8 y12) fun y13 =>
thn (binK .int .neq y13 (iD 2)) fun y14 =>
Jah y14
(some ((.v (.slice none 0 0)), h8))
(thn (Jaa 4 y0) fun y15 =>
thn (Jad none h8 y15) fun y16 =>
thn (binK .int .lss y16 (iD 0)) fun y17 =>
Jah y17
(some ((.v (.slice none 0 0)), h8))
(thn (Jaa 4 y0) fun y18 =>
thn (Jad none h8 y18) fun y19 =>
thn (binK .int .gtr y19 (iD 1)) fun y20 =>
Jah y20
(some ((.v (.slice none 0 0)), h8))
(thn (Jad (some 5) h8 y0) fun y21 =>
thn (Jaa 0 y5) fun y22 =>
thn (Jad none h8 y22) fun y23 =>
thn (Jaa 4 y0) fun y24 =>
thn (Jad none h8 y24) fun y25 =>
thn (Jbv [(0, 1), (1, 1)] [(iD 0), (iD 0)] [(0, y23), (1, y25)]) fun y26 =>
thnH (Jae Jor [y21, y26] h8) fun y27 h28 =>
some (y27, h28)))))
(thn (Jad (some 5) h8 y0) fun y29 =>
thn (Jaa 0 y5) fun y30 =>
thn (Jad none h8 y30) fun y31 =>
thn (Jaa 4 y0) fun y32 =>
thn (Jad none h8 y32) fun y33 =>
thn (Jbv [(0, 1), (1, 1)] [(iD 0), (iD 0)] [(0, y31), (1, y33)]) fun y34 =>
thnH (Jae Jor [y29, y34] h8) fun y35 h36 =>
some (y35, h36))) := by kernel_rfl
def Jgh : List Nat := []
theorem Jeh (n : Nat) (x0 : D) (h : Heap) : Jap Tryz.prog (T12c Tryz.prog) Jgh n Tryz.f70 [x0] h =
(thnH (boxH 97 x0 h) fun y0 h1 =>
thn (Jad (some 5) h1 y0) fun y2 =>
thnH (Jae Jd4 [y2] h1) fun y3 h4 =>
thn (Jln none 0 y3) fun y5 =>
thn (binK .int .eql y5 (iD 21)) fun y6 =>
Jah y6
(thn (Jaa 4 y0) fun y7 =>
thn (Jad none h4 y7) fun y8 =>
thn (binK .int .eql y8 (iD 0)) fun y9 =>
Jah y9
(thn (Jaa 0 y0) fun y10 =>
thn (Jaa 2 y10) fun y11 =>
thn (Jad none h4 y11) fun y12 =>
thn (Jaa 3 y0) fun y13 =>
thn (Jad none h4 y13) fun y14 =>
thn (Jbv [(0, 1), (1, 1)] [(iD 0), (iD 0)] [(0, (iD 26))]) fun y15 =>
thnH (rowH 54 2 1 [(iD 0), (iD 0)] [(0, y15)] h4) fun y16 h17 =>
thnH (Jc8 Jdb [y12, y14, y16] h17) fun y18 h19 =>
some (y18, h19))
(some ((.v (.slice none 0 0)), h4)))
(thn (binK .int .eql y5 (iD 22)) fun y20 =>
Jah y20
(thn (Jaa 4 y0) fun y21 =>
thn (Jad none h4 y21) fun y22 =>
thn (binK .int .eql y22 (iD 0)) fun y23 =>
Jah y23
(thn (Jaa 0 y0) fun y24 =>
thn (Jaa 2 y24) fun y25 =>
thn (Jad none h4 y25) fun y26 =>
thn (Jaa 3 y0) fun y27 =>
thn (Jad none h4 y27) fun y28 =>
thn (Jbv [(0, 1), (1, 1)] [(iD 0), (iD 0)] [(0, (iD 26))]) fun y29 =>
thnH (rowH 54 2 1 [(iD 0), (iD 0)] [(0, y29)] h4) fun y30 h31 =>
thnH (Jc8 Jdb [y26, y28, y30] h31) fun y32 h33 =>
some (y32, h33))
(some ((.v (.slice none 0 0)), h4)))
(thn (binK .int .eql y5 (iD 23)) fun y34 =>
Jah y34
(thn (Jaa 4 y0) fun y35 =>
thn (Jad none h4 y35) fun y36 =>
thn (binK .int .eql y36 (iD 0)) fun y37 =>
Jah y37
(thn (Jaa 0 y0) fun y38 =>
thn (Jaa 2 y38) fun y39 =>
thn (Jad none h4 y39) fun y40 =>
thn (Jaa 3 y0) fun y41 =>
thn (Jad none h4 y41) fun y42 =>
thn (Jbv [(0, 1), (1, 1)] [(iD 0), (iD 0)] [(0, (iD 26))]) fun y43 =>
thnH (rowH 54 2 1 [(iD 0), (iD 0)] [(0, y43)] h4) fun y44 h45 =>
thnH (Jc8 Jdb [y40, y42, y44] h45) fun y46 h47 =>
some (y46, h47))
(some ((.v (.slice none 0 0)), h4)))
(thn (binK .int .eql y5 (iD 24)) fun y48 =>
Jah y48
(thn (Jaa 4 y0) fun y49 =>
thn (Jad none h4 y49) fun y50 =>
thn (binK .int .eql y50 (iD 0)) fun y51 =>
Jah y51
(thn (Jaa 0 y0) fun y52 =>
thn (Jaa 2 y52) fun y53 =>
thn (Jad none h4 y53) fun y54 =>
thn (Jaa 3 y0) fun y55 =>
thn (Jad none h4 y55) fun y56 =>
thn (Jbv [(0, 1), (1, 1)] [(iD 0), (iD 0)] [(0, (iD 26))]) fun y57 =>
thnH (rowH 54 2 1 [(iD 0), (iD 0)] [(0, y57)] h4) fun y58 h59 =>
thnH (Jc8 Jdb [y54, y56, y58] h59) fun y60 h61 =>
some (y60, h61))
(some ((.v (.slice none 0 0)), h4)))
(thn (binK .int .eql y5 (iD 25)) fun y62 =>
Jah y62
(thn (Jaa 4 y0) fun y63 =>
thn (Jad none h4 y63) fun y64 =>
thn (binK .int .eql y64 (iD 0)) fun y65 =>
Jah y65
(thn (Jaa 0 y0) fun y66 =>
thn (Jaa 2 y66) fun y67 =>
thn (Jad none h4 y67) fun y68 =>
thn (Jaa 3 y0) fun y69 =>
thn (Jad none h4 y69) fun y70 =>
thn (Jbv [(0, 1), (1, 1)] [(iD 0), (iD 0)] [(0, (iD 26))]) fun y71 =>
thnH (rowH 54 2 1 [(iD 0), (iD 0)] [(0, y71)] h4) fun y72 h73 =>
thnH (Jc8 Jdb [y68, y70, y72] h73) fun y74 h75 =>
some (y74, h75))
(some ((.v (.slice none 0 0)), h4)))
(some ((.v (.slice none 0 0)), h4))))))) := by kernel_rfl
def Jcw : List Nat := []
theorem Jf9 (n : Nat) (x0 : D) (h : Heap) : Jap Tryz.prog (T12c Tryz.prog) Jcw n Tryz.f72 [x0] h =
(thnH (boxH 97 x0 h) fun y0 h1 =>
thn (Jad (some 5) h1 y0) fun y2 =>
thnH (Jae Jd4 [y2] h1) fun y3 h4 =>
thn (Jln none 0 y3) fun y5 =>
thn (binK .int .neq y5 (iD 25)) fun y6 =>
Jah y6
(some ((.v (.slice none 0 0)), h4))
(thn (Jaa 0 y0) fun y7 =>
thn (Jaa 2 y7) fun y8 =>
thn (Jad none h4 y8) fun y9 =>
thn (Jaa 3 y0) fun y10 =>
thn (Jad none h4 y10) fun y11 =>
thn (binK .int .add y11 (iD 1)) fun y12 =>
thn (Jaa 4 y0) fun y13 =>
thn (Jad none h4 y13) fun y14 =>
thn (Jbv [(0, 1), (1, 1)] [(iD 0), (iD 0)] [(0, (iD 1)), (1, y14)]) fun y15 =>
thnH (rowH 54 2 1 [(iD 0), (iD 0)] [(0, y15)] h4) fun y16 h17 =>
thnH (Jc8 Jdb [y9, y12, y16] h17) fun y18 h19 =>
some (y18, h19))) := by kernel_rfl
def Jgu : List Nat := []
theorem Jet (n : Nat) (x0 x1 : D) (h : Heap) : Jap Tryz.prog (T12c Tryz.prog) Jgu n Tryz.f37 [x0, x1] h =
(thnH (boxH 25 x0 h) fun y0 h1 =>
thnH (boxH 34 x1 h1) fun y2 h3 =>
thnH (Jaz 25 [(iD 0), (.v (.slice none 0 0)), (.v (.slice none 0 0))] h3) fun y4 h5 =>
thn (Jaa 2 y0) fun y6 =>
thn (Jad none h5 y6) fun y7 =>
thn (Jaa 0 y2) fun y8 =>
thn (Jad none h5 y8) fun y9 =>
thnH (Jae Jhv [y7, y9] h5) fun y10 h11 =>
thn (binK .int .lss y10 (iD 0)) fun y12 =>
Jah y12
(thn (Jbv [(0, 1), (1, 1), (2, 1)] [(iD 0), (.v (.slice none 0 0)), (.v (.slice none 0 0))] []) fun y13 =>
thnH (setH 3 y4 y13 h11) fun y14 h15 =>
thn (Jad (some 3) h15 y4) fun y16 =>
some (.tup [y16, (iD 16)], h15))
(thn (Jaa 2 y0) fun y17 =>
thn (Jad none h11 y17) fun y18 =>
thn (idxH 2 y18 y10) fun y19 =>
thn (Jad (some 2) h11 y19) fun y20 =>
thnH (Jaz 54 [(iD 0), (iD 0)] h11) fun y21 h22 =>
thnH (setH 2 y21 y20 h22) fun y23 h24 =>
thn (Jad (some 2) h24 y21) fun y25 =>
thn (Jaa 1 y2) fun y26 =>
thn (Jad none h24 y26) fun y27 =>
thn (Jaa 2 y2) fun y28 =>
thn (Jad none h24 y28) fun y29 =>
thnH (Jae Qma [y25, y27, y29] h24) fun y30 h31 =>
thn (notD y30) fun y32 =>
Jah y32
(thn (Jbv [(0, 1), (1, 1), (2, 1)] [(iD 0), (.v (.slice none 0 0)), (.v (.slice none 0 0))] []) fun y33 =>
thnH (setH 3 y4 y33 h31) fun y34 h35 =>
thn (Jad (some 3) h35 y4) fun y36 =>
some (.tup [y36, (iD 17)], h35))
(thn (Jaa 0 y0) fun y37 =>
thn (Jad none h31 y37) fun y38 =>
thn (Jaa 1 y0) fun y39 =>
thn (Jad none h31 y39) fun y40 =>
thn (Jaa 2 y0) fun y41 =>
thn (Jad none h31 y41) fun y42 =>
thn (Jad (some 3) h31 y2) fun y43 =>
thnH (Jae Jmz [y42, y10, y43] h31) fun y44 h45 =>
thn (Jbv [(0, 1), (1, 1), (2, 1)] [(iD 0), (.v (.slice none 0 0)), (.v (.slice none 0 0))] [(0, y38), (1, y40), (2, y44)]) fun y46 =>
thnH (setH 3 y4 y46 h45) fun y47 h48 =>
thn (Jad (some 3) h48 y4) fun y49 =>
some (.tup [y49, (iD 0)], h48)))) := by kernel_rfl
end Go.Proofs.YtinnbafplhcnpaaGreat
end
