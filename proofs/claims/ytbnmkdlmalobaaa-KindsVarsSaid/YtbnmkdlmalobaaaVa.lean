/-
  Parts joined into one text: Ar, Base, HDen, HDenOp. No condition.
-/
import Derived.WalkKit
import Derived.Lib.Hide
import Derived.Deep.Draws

section
namespace Go.Proofs.Ytbnmkdlmalobaaa
open Go.RowKit

/-- A node: its tag, its number. -/
abbrev Nd := Int × Int

/-- How many kids a node of tag t may have, and the most that its number may be. -/
def lim (t n : Int) : Int × Int :=
  if t = 2 then (1, 0) else if t = 3 then (11, 0) else if t = 4 ∨ t = 21 then (11, 1) else if t = 22 then (11, 2)
  else if t = 5 ∨ t = 6 ∨ t = 25 then (0, 1) else if t = 24 then (0, 2) else if t = 20 then (200, n) else if t = 23 then (0, 3) else if t = 26 then (0, 0)
  else if 7 ≤ t ∧ t ≤ 19 then (0, 2) else (-1, -1)
/-- How many kids a node has; -1: it may not be. -/
def ar (x : Nd) : Int := if x.1 = 1 then 0 else if x.2 < 0 ∨ (lim x.1 x.2).1 < x.2 then -1 else (lim x.1 x.2).2

theorem lim_or (t n : Int) : lim t n = (200, n) ∨ (-1 ≤ (lim t n).2 ∧ (lim t n).2 ≤ 3) := by
  unfold lim
  repeat' split
  all_goals simp
theorem ar_bound (x : Nd) : -1 ≤ ar x ∧ ar x ≤ 200 := by
  obtain ⟨t, n⟩ := x
  unfold ar
  have h := lim_or t n
  simp only []
  split
  · omega
  · split
    · omega
    · rcases h with h | h
      · rename_i hh
        rw [h] at hh ⊢
        simp only [] at hh ⊢
        omega
      · omega

theorem ret_int {k : IntKind} {a b : Int} (h : a = b) : Ending.returned (.int k a) = .returned (.int k b) := by rw [h]
theorem pair_eq {a b c d : Int} (h : (a, b) = (c, d)) : Ending.returned (.tuple #[.int .i64 a, .int .i64 b]) = .returned (.tuple #[.int .i64 c, .int .i64 d]) := by
  cases h; rfl

theorem below_alloc1 (w : World) (o : Obj) : Below w.heap.size w (w.alloc o) := (Below.refl _ _).alloc (Nat.le_refl _) _
end Go.Proofs.Ytbnmkdlmalobaaa
end

section
namespace Go.Proofs.Ytbnmkdlmalobaaa
open Go.RowKit

/-- The blocks of S lie in w' as they lay in w. -/
structure Kept (S : Nat → Prop) (w w' : World) : Prop where
  size : w.heap.size ≤ w'.heap.size
  block : ∀ k, S k → w'.heap[k]? = w.heap[k]?
theorem Kept.refl (S : Nat → Prop) (w : World) : Kept S w w := ⟨Nat.le_refl _, fun _ _ => rfl⟩
theorem Kept.trans {S : Nat → Prop} {a b c : World} (h : Kept S a b) (k : Kept S b c) : Kept S a c := ⟨Nat.le_trans h.size k.size, fun i hi => (k.block i hi).trans (h.block i hi)⟩
theorem Kept.mono {S S' : Nat → Prop} {a b : World} (h : Kept S a b) (hs : ∀ k, S' k → S k) : Kept S' a b := ⟨h.size, fun i hi => h.block i (hs i hi)⟩
theorem Kept.cell {S : Nat → Prop} {w w' : World} (h : Kept S w w') {p : Addr} (hp : S p.block) : w'.cell? p = w.cell? p := World.cell?_of_block (w := w) (h.block p.block hp)
theorem Kept.frozen {S : Nat → Prop} {w w' : World} (h : Kept S w w') {p : Addr} (hp : S p.block) : w'.frozen? p = w.frozen? p := World.frozen?_of_block (w := w) (h.block p.block hp)
theorem kept_below {B : Nat} {w w' : World} (h : Below B w w') : Kept (· < B) w w' := ⟨h.size, h.block⟩
theorem kept_of {B : Nat} {S : Nat → Prop} {w w' : World} (h : Below B w w') (hs : ∀ k, S k → k < B) : Kept S w w' := (kept_below h).mono hs
theorem kept_setCell {S : Nat → Prop} {a w : World} (h : Kept S a w) {p : Addr} (hp : ¬ S p.block) (u : Value) : Kept S a (w.setCell p u) :=
  h.trans ⟨by simp [World.setCell], fun k hk => Below.heap_setCell _ _ _ _ (fun e => hp (e ▸ hk))⟩
theorem kept_alloc {S : Nat → Prop} {a w : World} (h : Kept S a w) (hs : ∀ k, S k → k < w.heap.size) (o : Obj) : Kept S a (w.alloc o) :=
  h.trans ⟨by simp, fun k hk => Below.heap_alloc _ _ _ (hs k hk)⟩
theorem kept_drew {S : Nat → Prop} {a w : World} (h : Kept S a w) : Kept S a w.drew := ⟨h.size, h.block⟩
theorem kept_grown {S : Nat → Prop} {a w w' : World} {row : Option Nat} (h : Kept S a w) (hg : w.grownBy w' row) (hs : ∀ k, S k → k < w.heap.size) (hr : ∀ k, row = some k → ¬ S k) : Kept S a w' :=
  h.trans ⟨hg.size, fun k hk => hg.block k (hs k hk) (fun e => hr k e.symm hk)⟩

/-- The slice value v, of n elements, reads as the cells xs, which lie in a block of S. -/
def SliceIn (S : Nat → Prop) (w : World) (v : Value) (n : Nat) (xs : List Value) : Prop :=
  (∃ (p : Option Addr) (cap : Nat), v = .slice p 0 cap ∧ n = 0 ∧ xs = [] ∧ (p = none → cap = 0)) ∨
  ∃ (b o cap : Nat), v = .slice (some ⟨b, o, none⟩) n cap ∧ 0 < n ∧ n ≤ cap ∧ S b ∧ ∀ j, j < xs.length → w.cell? ⟨b, o + j, none⟩ = xs[j]?

theorem SliceIn.kept {S : Nat → Prop} {w w' : World} {v : Value} {n : Nat} {xs : List Value} (h : SliceIn S w v n xs) (hk : Kept S w w') : SliceIn S w' v n xs := by
  rcases h with h | ⟨b, o, cap, h1, h2, h3, h4, h5⟩
  · exact .inl h
  · exact .inr ⟨b, o, cap, h1, h2, h3, h4, fun j hj => (hk.cell (p := ⟨b, o + j, none⟩) h4).trans (h5 j hj)⟩
theorem SliceIn.mono {S S' : Nat → Prop} {w : World} {v : Value} {n : Nat} {xs : List Value} (h : SliceIn S w v n xs) (hs : ∀ k, S k → S' k) : SliceIn S' w v n xs := by
  rcases h with h | ⟨b, o, cap, h1, h2, h3, h4, h5⟩
  · exact .inl h
  · exact .inr ⟨b, o, cap, h1, h2, h3, hs _ h4, h5⟩

def nodeCells (l : List Nd) : List Value := l.flatMap fun x => [.int .i64 x.1, .int .i64 x.2]
def IntsIn (S : Nat → Prop) (w : World) (v : Value) (l : List Int) : Prop := SliceIn S w v l.length (l.map (Value.int .i64))
def NodesIn (S : Nat → Prop) (w : World) (v : Value) (l : List Nd) : Prop := SliceIn S w v l.length (nodeCells l)
/-- .. which lie where w has blocks. -/
abbrev IntsAt (w : World) (v : Value) (l : List Int) : Prop := IntsIn (· < w.heap.size) w v l
abbrev NodesAt (w : World) (v : Value) (l : List Nd) : Prop := NodesIn (· < w.heap.size) w v l

theorem IntsIn.kept {S : Nat → Prop} {w w' : World} {v : Value} {l : List Int} (h : IntsIn S w v l) (hk : Kept S w w') : IntsIn S w' v l := SliceIn.kept h hk
theorem NodesIn.kept {S : Nat → Prop} {w w' : World} {v : Value} {l : List Nd} (h : NodesIn S w v l) (hk : Kept S w w') : NodesIn S w' v l := SliceIn.kept h hk
theorem IntsIn.mono {S S' : Nat → Prop} {w : World} {v : Value} {l : List Int} (h : IntsIn S w v l) (hs : ∀ k, S k → S' k) : IntsIn S' w v l := SliceIn.mono h hs
theorem NodesIn.mono {S S' : Nat → Prop} {w : World} {v : Value} {l : List Nd} (h : NodesIn S w v l) (hs : ∀ k, S k → S' k) : NodesIn S' w v l := SliceIn.mono h hs
theorem IntsIn.below {w w' : World} {v : Value} {l : List Int} (h : IntsAt w v l) (hb : Below w.heap.size w w') : IntsAt w' v l :=
  (IntsIn.kept h (kept_below hb)).mono fun _ hk => Nat.lt_of_lt_of_le hk hb.size
theorem NodesIn.below {w w' : World} {v : Value} {l : List Nd} (h : NodesAt w v l) (hb : Below w.heap.size w w') : NodesAt w' v l :=
  (NodesIn.kept h (kept_below hb)).mono fun _ hk => Nat.lt_of_lt_of_le hk hb.size

theorem nodeCells_length (l : List Nd) : (nodeCells l).length = 2 * l.length := by
  induction l with
  | nil => rfl
  | cons x r ih => simp only [nodeCells, List.flatMap_cons, List.length_append, List.length_cons, List.length_nil] at ih ⊢; omega
theorem nodeCells_get0 (l : List Nd) (i : Nat) (h : i < l.length) : (nodeCells l)[2 * i]? = some (.int .i64 l[i].1) := by
  induction l generalizing i with
  | nil => simp at h
  | cons x r ih =>
    cases i with
    | zero => rfl
    | succ i =>
      have := ih i (by simpa using h)
      simp only [nodeCells, List.flatMap_cons] at this ⊢
      rw [show 2 * (i + 1) = 2 * i + 1 + 1 from by omega]
      simpa using this
theorem nodeCells_get1 (l : List Nd) (i : Nat) (h : i < l.length) : (nodeCells l)[2 * i + 1]? = some (.int .i64 l[i].2) := by
  induction l generalizing i with
  | nil => simp at h
  | cons x r ih =>
    cases i with
    | zero => rfl
    | succ i =>
      have := ih i (by simpa using h)
      simp only [nodeCells, List.flatMap_cons] at this ⊢
      rw [show 2 * (i + 1) + 1 = (2 * i + 1) + 1 + 1 from by omega]
      simpa using this

theorem IntsIn.open {S : Nat → Prop} {w : World} {v : Value} {l : List Int} (h : IntsIn S w v l) :
    (l = [] ∧ ∃ (p : Option Addr) (cap : Nat), v = .slice p 0 cap) ∨
    ∃ (b o cap : Nat), v = .slice (some ⟨b, o, none⟩) l.length cap ∧ 0 < l.length ∧ l.length ≤ cap ∧ S b ∧ ∀ j (hj : j < l.length), w.cell? ⟨b, o + j, none⟩ = some (.int .i64 l[j]) := by
  rcases h with ⟨p, cap, h1, h2, _⟩ | ⟨b, o, cap, h1, h2, h3, h4, h5⟩
  · exact .inl ⟨List.eq_nil_of_length_eq_zero h2, p, cap, h1⟩
  · exact .inr ⟨b, o, cap, h1, h2, h3, h4, fun j hj => (h5 j (by simpa using hj)).trans (by simp [hj])⟩

theorem NodesIn.open {S : Nat → Prop} {w : World} {v : Value} {l : List Nd} (h : NodesIn S w v l) :
    (l = [] ∧ ∃ (p : Option Addr) (cap : Nat), v = .slice p 0 cap) ∨
    ∃ (b o cap : Nat), v = .slice (some ⟨b, o, none⟩) l.length cap ∧ 0 < l.length ∧ l.length ≤ cap ∧ S b ∧
      ∀ j (hj : j < l.length), w.cell? ⟨b, o + j * 2, none⟩ = some (.int .i64 l[j].1) ∧ w.cell? ⟨b, o + j * 2 + 1, none⟩ = some (.int .i64 l[j].2) := by
  rcases h with ⟨p, cap, h1, h2, _⟩ | ⟨b, o, cap, h1, h2, h3, h4, h5⟩
  · exact .inl ⟨List.eq_nil_of_length_eq_zero h2, p, cap, h1⟩
  · refine .inr ⟨b, o, cap, h1, h2, h3, h4, fun j hj => ⟨?_, ?_⟩⟩
    · rw [Nat.mul_comm]
      exact (h5 (2 * j) (by rw [nodeCells_length]; omega)).trans (nodeCells_get0 l j hj)
    · rw [Nat.mul_comm, Nat.add_assoc]
      exact (h5 (2 * j + 1) (by rw [nodeCells_length]; omega)).trans (nodeCells_get1 l j hj)
/-- A slice value, whatever it reads as. -/
theorem NodesIn.slice {S : Nat → Prop} {w : World} {v : Value} {l : List Nd} (h : NodesIn S w v l) : ∃ (p : Option Addr) (cap : Nat), v = .slice p l.length cap := by
  rcases h.open with ⟨rfl, p, cap, rfl⟩ | ⟨b, o, cap, rfl, _⟩ <;> exact ⟨_, _, rfl⟩
theorem IntsIn.slice {S : Nat → Prop} {w : World} {v : Value} {l : List Int} (h : IntsIn S w v l) : ∃ (p : Option Addr) (cap : Nat), v = .slice p l.length cap := by
  rcases h.open with ⟨rfl, p, cap, rfl⟩ | ⟨b, o, cap, rfl, _⟩ <;> exact ⟨_, _, rfl⟩

theorem below_drewN {B : Nat} {a w : World} (h : Below B a w) (n : Nat) : Below B a (w.drewN n) := ⟨h.os, h.tape, h.output, h.size, h.block⟩
/-- Behind a call that makes memory: what was there reads as it did. -/
theorem bcell {W w1 : World} (hb : Below W.heap.size W w1) :
    (∀ b o, b < W.heap.size → w1.cell? ⟨b, o, none⟩ = W.cell? ⟨b, o, none⟩) ∧ (∀ b o, b < W.heap.size → w1.frozen? ⟨b, o, none⟩ = W.frozen? ⟨b, o, none⟩) :=
  ⟨fun b o h => hb.cell (p := ⟨b, o, none⟩) h, fun b o h => hb.frozen (p := ⟨b, o, none⟩) h⟩

/-- As many nodes as are wanted, read from the left: how many were read. -/
def scanL : List Nd → Nat → Option Nat
  | _, 0 => some 0
  | [], _ + 1 => none
  | x :: r, k + 1 => if ar x < 0 then none else (scanL r (k + (ar x).toNat)).map (· + 1)
def scan (k : Nat) (l : List Nd) : Option Nat := scanL l k

/-- Where one stands behind what was read from k on; -1: nowhere. -/
def fin (k : Int) : Option Nat → Int
  | some c => k + c
  | none => -1
/-- The place behind a node, and all below it; -1: there is none. -/
def endv (l : List Nd) (i : Int) : Int := if i < 0 then -1 else fin i (scan 1 (l.drop i.toNat))

theorem scan_zero (l : List Nd) : scan 0 l = some 0 := by cases l <;> rfl
theorem scan_nil (m : Nat) (h : 0 < m) : scan m [] = none := by
  cases m with
  | zero => omega
  | succ m => rfl
theorem scan_cons (m : Nat) (x : Nd) (r : List Nd) : scan (m + 1) (x :: r) = if ar x < 0 then none else (scan (m + (ar x).toNat) r).map (· + 1) := rfl
theorem fin_map (k : Int) (o : Option Nat) : fin k (o.map (· + 1)) = fin (k + 1) o := by
  cases o with
  | none => rfl
  | some c => simp only [Option.map_some, fin]; omega
theorem fin_end (l : List Nd) (k : Nat) (t : Int) (ht : 1 ≤ t) (h : l.length ≤ k) : fin k (scan t.toNat (l.drop k)) = -1 := by
  rw [List.drop_of_length_le h, scan_nil _ (by omega)]; rfl
theorem fin_step (l : List Nd) (k : Nat) (t : Int) (ht : 1 ≤ t) (h : k < l.length) :
    fin k (scan t.toNat (l.drop k)) = if ar l[k] < 0 then -1 else fin (k + 1) (scan (t + (ar l[k] - 1)).toNat (l.drop (k + 1))) := by
  obtain ⟨m, rfl⟩ : ∃ m : Nat, t = m + 1 := ⟨(t - 1).toNat, by omega⟩
  rw [List.drop_eq_getElem_cons h, show ((m : Int) + 1).toNat = m + 1 from by omega, scan_cons]
  by_cases hx : ar l[k] < 0
  · rw [if_pos hx, if_pos hx]; rfl
  · rw [if_neg hx, if_neg hx, fin_map, show m + (ar l[k]).toNat = ((m : Int) + 1 + (ar l[k] - 1)).toNat from by omega]
theorem fin_bad (l : List Nd) (k : Nat) (t : Int) (ht : 1 ≤ t) (h : k < l.length) (hx : ar l[k] < 0) : fin k (scan t.toNat (l.drop k)) = -1 := by
  rw [fin_step l k t ht h, if_pos hx]
theorem fin_go (l : List Nd) (k : Nat) (t : Int) (ht : 1 ≤ t) (h : k < l.length) (hx : 0 ≤ ar l[k]) :
    fin k (scan t.toNat (l.drop k)) = fin ((k + 1 : Nat) : Int) (scan (t + (ar l[k] - 1)).toNat (l.drop (k + 1))) := by
  rw [fin_step l k t ht h, if_neg (by omega)]; rfl
theorem fin_stop (l : List Nd) (k : Nat) (t : Int) (ht : 1 ≤ t) (h : k < l.length) (hx : 0 ≤ ar l[k]) (h0 : t + (ar l[k] - 1) ≤ 0) :
    fin k (scan t.toNat (l.drop k)) = k + 1 := by
  rw [fin_step l k t ht h, if_neg (by omega), show (t + (ar l[k] - 1)).toNat = 0 from by omega, scan_zero]
  simp [fin]
theorem endv_neg (l : List Nd) (i : Int) (h : i < 0) : endv l i = -1 := by rw [endv, if_pos h]
theorem endv_nat (l : List Nd) (k : Nat) : endv l k = fin k (scan (1 : Int).toNat (l.drop k)) := by rw [endv, if_neg (by omega)]; rfl

/-- The place of the c-th kid, the first one being at k. -/
def kth (l : List Nd) (k : Int) : Nat → Int
  | 0 => k
  | c + 1 => endv l (kth l k c)
/-- How many kids the node at i has. -/
def arAt (l : List Nd) (i : Int) : Int := match l[i.toNat]? with | some x => ar x | none => 0
/-- The places of a node's kids. -/
def kidsv (l : List Nd) (i : Int) : List Int := if endv l i < 0 then [] else (List.range (arAt l i).toNat).map (kth l (i + 1))

theorem endv_in (l : List Nd) (i : Int) (h : 0 ≤ endv l i) : 0 ≤ i ∧ i.toNat < l.length := by
  by_cases h0 : i < 0
  · rw [endv_neg l i h0] at h; omega
  · refine ⟨by omega, Nat.lt_of_not_le fun hle => ?_⟩
    obtain ⟨k, rfl⟩ := Int.eq_ofNat_of_zero_le (Int.not_lt.1 h0)
    rw [endv_nat, fin_end l k 1 (by omega) (by simpa using hle)] at h
    omega
theorem arAt_in (l : List Nd) (k : Nat) (h : k < l.length) : arAt l k = ar l[k] := by simp [arAt, h]
theorem arAt_bound (l : List Nd) (i : Int) : -1 ≤ arAt l i ∧ arAt l i ≤ 200 := by
  unfold arAt
  split
  · exact ar_bound _
  · omega

/-- What has come when c rounds are over. -/
def upto {α : Type} (f : Nat → α) (c : Nat) : List α := (List.range c).map f
theorem upto_succ {α : Type} (f : Nat → α) (c : Nat) : upto f (c + 1) = upto f c ++ [f c] := by simp [upto, List.range_succ]
theorem upto_length {α : Type} (f : Nat → α) (c : Nat) : (upto f c).length = c := by simp [upto]
theorem kidsv_eq (l : List Nd) (i : Int) (h : 0 ≤ endv l i) : kidsv l i = upto (kth l (i + 1)) (arAt l i).toNat := by rw [kidsv, if_neg (by omega)]; rfl
theorem kidsv_no (l : List Nd) (i : Int) (h : endv l i < 0) : kidsv l i = [] := by rw [kidsv, if_pos h]
theorem endv_bound (l : List Nd) (i : Int) : endv l i = -1 ∨ 0 ≤ endv l i := by
  by_cases h0 : i < 0
  · exact .inl (endv_neg l i h0)
  · rw [endv, if_neg h0]
    cases scan 1 (l.drop i.toNat) with
    | none => exact .inl rfl
    | some c => right; simp only [fin]; omega
theorem endv_ar (l : List Nd) (i : Int) (h : 0 ≤ endv l i) : 0 ≤ arAt l i := by
  obtain ⟨h0, hl⟩ := endv_in l i h
  obtain ⟨k, rfl⟩ := Int.eq_ofNat_of_zero_le h0
  have hk : k < l.length := by simpa using hl
  rw [arAt_in l k hk]
  by_cases hx : ar l[k] < 0
  · rw [endv_nat, fin_bad l k 1 (by omega) hk hx] at h; omega
  · omega
def nodeAt (l : List Nd) (i : Int) : Nd := l.getD i.toNat (0, 0)
end Go.Proofs.Ytbnmkdlmalobaaa
end

section
namespace Go.Proofs.Ytbnmkdlmalobaaa
open Go.RowKit
set_option linter.unusedVariables false

/-- How code is left. -/
inductive Lv where
  | normal
  | exit (id : Nat)
  | ret
  deriving DecidableEq
def Lv.toExit : Lv → Exit
  | .normal => .normal
  | .exit id => .exit id
  | .ret => .ret
/-- What a value reads as: itself; a slice's elements, each so many cells; what a pointer leads to; a struct's cells; several results; a place in an object of the call's own; the first elements of a row of the call's own; an interface value; a function value; a map of the call's own; a map, by value. -/
inductive D where
  | undef
  | v (x : Value)
  | sl (sz : Nat) (els : List (List D))
  | ptr (cs : List D)
  | agg (cs : List D)
  | tup (ds : List D)
  | hp (id off : Nat)
  | hs (id n : Nat)
  | ifc (t : TypeId) (d : D)
  | clo (f : Fn) (first caps : List D)
  | mp (id : Nat)
  | mv (ks : List Int) (vs : List D)
  | yld (id : Nat)
  | ht (id off n : Nat)
  deriving Inhabited

section
variable (S : Nat → Prop)
mutual
def Rep (L : List (Nat × Nat)) (w : World) (x : Value) : D → Prop
  | .undef => True
  | .v y => x = y
  | .sl sz els => (els = [] ∧ ∃ (p : Option Addr) (cap : Nat), x = .slice p 0 cap ∧ (p = none → cap = 0)) ∨
      ∃ (b o cap : Nat), x = .slice (some ⟨b, o, none⟩) els.length cap ∧ 0 < els.length ∧ els.length ≤ cap ∧ S b ∧ RepR [] w b o sz els
  | .ptr cs => ∃ (b o : Nat), x = .pointer (some ⟨b, o, none⟩) ∧ S b ∧ RepC [] w b o cs
  | .agg cs => ∃ xs : List Value, x = .agg xs.toArray ∧ RepA L w xs cs
  | .tup ds => ∃ xs : List Value, x = .tuple xs.toArray ∧ RepA L w xs ds
  | .hp id off => ∃ b c, L[id]? = some (b, c) ∧ x = .pointer (some ⟨b, off, none⟩)
  | .hs id n => ∃ b c, L[id]? = some (b, c) ∧ n ≤ c ∧ x = .slice (some ⟨b, 0, none⟩) n c
  | .ifc t d => ∃ y, x = .iface t y ∧ Rep L w y d
  | .clo f fs cs => ∃ ys zs : List Value, x = .func f ys.toArray zs.toArray ∧ RepA L w ys fs ∧ RepA L w zs cs
  | .mp id => ∃ b c, L[id]? = some (b, c) ∧ x = .map (some b)
  | .yld id => ∃ b c, L[id]? = some (b, c) ∧ x = .func (.yield b) #[] #[]
  | .ht id off n => ∃ b c o cap, L[id]? = some (b, c) ∧ x = .slice (some ⟨b, o, none⟩) n cap ∧ n ≤ cap ∧ (0 < n → o = off)
  | .mv ks vs => ∃ (b : Nat) (arr : Array MapEntry) (clk : Nat), x = .map (some b) ∧ S b ∧ w.heap[b]? = some (.map arr clk) ∧ arr.toList.map (·.key) = ks.map (Value.int .i64) ∧ RepA [] w (arr.toList.map (·.val)) vs
def RepA (L : List (Nat × Nat)) (w : World) (xs : List Value) : List D → Prop
  | [] => xs = []
  | d :: r => ∃ x ys, xs = x :: ys ∧ Rep L w x d ∧ RepA L w ys r
def RepC (L : List (Nat × Nat)) (w : World) (b o : Nat) : List D → Prop
  | [] => True
  | d :: r => (∃ x, w.cell? ⟨b, o, none⟩ = some x ∧ Rep L w x d) ∧ RepC L w b (o + 1) r
def RepR (L : List (Nat × Nat)) (w : World) (b o sz : Nat) : List (List D) → Prop
  | [] => True
  | e :: r => e.length = sz ∧ RepC L w b o e ∧ RepR L w b (o + sz) sz r
end
end

section
variable {S S' : Nat → Prop} {w w' : World}
mutual
theorem Rep.kept (hk : Kept S w w') (hs : ∀ k, S k → S' k) {L L' : List (Nat × Nat)} (hL : ∀ (i : Nat) (p : Nat × Nat), L[i]? = some p → L'[i]? = some p) : ∀ (d : D) (x : Value), Rep S L w x d → Rep S' L' w' x d
  | .undef, x, h => by simp only [Rep]
  | .v y, x, h => by simpa only [Rep] using h
  | .sl sz els, x, h => by
    simp only [Rep] at h ⊢
    rcases h with h | ⟨b, o, cap, h1, h2, h3, h4, h5⟩
    · exact .inl h
    · exact .inr ⟨b, o, cap, h1, h2, h3, hs _ h4, RepR.kept hk hs (fun i p hi => by simp at hi) els b o sz h4 h5⟩
  | .ptr cs, x, h => by
    simp only [Rep] at h ⊢
    obtain ⟨b, o, h1, h2, h3⟩ := h
    exact ⟨b, o, h1, hs _ h2, RepC.kept hk hs (fun i p hi => by simp at hi) cs b o h2 h3⟩
  | .agg cs, x, h => by
    simp only [Rep] at h ⊢
    obtain ⟨xs, h1, h2⟩ := h
    exact ⟨xs, h1, RepA.kept hk hs hL cs xs h2⟩
  | .tup ds, x, h => by
    simp only [Rep] at h ⊢
    obtain ⟨xs, h1, h2⟩ := h
    exact ⟨xs, h1, RepA.kept hk hs hL ds xs h2⟩
  | .hp id off, x, h => by
    simp only [Rep] at h ⊢
    obtain ⟨b, c, h1, h2⟩ := h
    exact ⟨b, c, hL _ _ h1, h2⟩
  | .hs id n, x, h => by
    simp only [Rep] at h ⊢
    obtain ⟨b, c, h1, h2⟩ := h
    exact ⟨b, c, hL _ _ h1, h2⟩
  | .ifc t d, x, h => by
    simp only [Rep] at h ⊢
    obtain ⟨y, h1, h2⟩ := h
    exact ⟨y, h1, Rep.kept hk hs hL d y h2⟩
  | .clo f fs cs, x, h => by
    simp only [Rep] at h ⊢
    obtain ⟨ys, zs, h1, h2, h3⟩ := h
    exact ⟨ys, zs, h1, RepA.kept hk hs hL fs ys h2, RepA.kept hk hs hL cs zs h3⟩
  | .mp id, x, h => by
    simp only [Rep] at h ⊢
    obtain ⟨b, c, h1, h2⟩ := h
    exact ⟨b, c, hL _ _ h1, h2⟩
  | .ht id off n, x, h => by
    simp only [Rep] at h ⊢
    obtain ⟨b, c, o, cap, h1, h2⟩ := h
    exact ⟨b, c, o, cap, hL _ _ h1, h2⟩
  | .yld id, x, h => by
    simp only [Rep] at h ⊢
    obtain ⟨b, c, h1, h2⟩ := h
    exact ⟨b, c, hL _ _ h1, h2⟩
  | .mv ks vs, x, h => by
    simp only [Rep] at h ⊢
    obtain ⟨b, arr, clk, h1, h2, h3, h4, h5⟩ := h
    exact ⟨b, arr, clk, h1, hs _ h2, (hk.block b h2).trans h3, h4, RepA.kept hk hs (fun i p hi => by simp at hi) vs _ h5⟩
theorem RepA.kept (hk : Kept S w w') (hs : ∀ k, S k → S' k) {L L' : List (Nat × Nat)} (hL : ∀ (i : Nat) (p : Nat × Nat), L[i]? = some p → L'[i]? = some p) : ∀ (ds : List D) (xs : List Value), RepA S L w xs ds → RepA S' L' w' xs ds
  | [], xs, h => by simpa only [RepA] using h
  | d :: r, xs, h => by
    simp only [RepA] at h ⊢
    obtain ⟨x, ys, h1, h2, h3⟩ := h
    exact ⟨x, ys, h1, Rep.kept hk hs hL d x h2, RepA.kept hk hs hL r ys h3⟩
theorem RepC.kept (hk : Kept S w w') (hs : ∀ k, S k → S' k) {L L' : List (Nat × Nat)} (hL : ∀ (i : Nat) (p : Nat × Nat), L[i]? = some p → L'[i]? = some p) : ∀ (cs : List D) (b o : Nat), S b → RepC S L w b o cs → RepC S' L' w' b o cs
  | [], b, o, hb, h => by simp only [RepC]
  | d :: r, b, o, hb, h => by
    simp only [RepC] at h ⊢
    obtain ⟨⟨x, h1, h2⟩, h3⟩ := h
    exact ⟨⟨x, (hk.cell (p := ⟨b, o, none⟩) hb).trans h1, Rep.kept hk hs hL d x h2⟩, RepC.kept hk hs hL r b (o + 1) hb h3⟩
theorem RepR.kept (hk : Kept S w w') (hs : ∀ k, S k → S' k) {L L' : List (Nat × Nat)} (hL : ∀ (i : Nat) (p : Nat × Nat), L[i]? = some p → L'[i]? = some p) : ∀ (els : List (List D)) (b o sz : Nat), S b → RepR S L w b o sz els → RepR S' L' w' b o sz els
  | [], b, o, sz, hb, h => by simp only [RepR]
  | e :: r, b, o, sz, hb, h => by
    simp only [RepR] at h ⊢
    exact ⟨h.1, RepC.kept hk hs hL e b o hb h.2.1, RepR.kept hk hs hL r b (o + sz) sz hb h.2.2⟩
end
end

section
variable {S : Nat → Prop} {L : List (Nat × Nat)} {w : World}
theorem RepA.length {xs : List Value} {ds : List D} (h : RepA S L w xs ds) : xs.length = ds.length := by
  induction ds generalizing xs with
  | nil => simp only [RepA] at h; subst h; rfl
  | cons d r ih => simp only [RepA] at h; obtain ⟨x, ys, rfl, _, h⟩ := h; simp [ih h]
theorem RepA.get {xs : List Value} {ds : List D} (h : RepA S L w xs ds) (i : Nat) (d : D) (hd : ds[i]? = some d) : ∃ x, xs[i]? = some x ∧ Rep S L w x d := by
  induction ds generalizing xs i with
  | nil => simp at hd
  | cons e r ih =>
    simp only [RepA] at h
    obtain ⟨x, ys, rfl, h1, h2⟩ := h
    cases i with
    | zero => obtain rfl : e = d := by simpa using hd
              exact ⟨x, rfl, h1⟩
    | succ i => exact ih h2 i (by simpa using hd)
theorem RepA.take {xs : List Value} {ds : List D} (h : RepA S L w xs ds) (n : Nat) : RepA S L w (xs.take n) (ds.take n) := by
  induction ds generalizing xs n with
  | nil => simp only [RepA] at h; subst h; simp [RepA]
  | cons d r ih =>
    cases n with
    | zero => simp [RepA]
    | succ n =>
      simp only [RepA] at h
      obtain ⟨x, ys, rfl, h1, h2⟩ := h
      simp only [List.take_succ_cons, RepA]
      exact ⟨x, _, rfl, h1, ih h2 n⟩
theorem RepA.drop {xs : List Value} {ds : List D} (h : RepA S L w xs ds) (n : Nat) : RepA S L w (xs.drop n) (ds.drop n) := by
  induction ds generalizing xs n with
  | nil => simp only [RepA] at h; subst h; simp [RepA]
  | cons d r ih =>
    cases n with
    | zero => simpa using h
    | succ n =>
      simp only [RepA] at h
      obtain ⟨x, ys, rfl, h1, h2⟩ := h
      simpa using ih h2 n
theorem RepA.append {xs ys : List Value} {ds es : List D} (h : RepA S L w xs ds) (k : RepA S L w ys es) : RepA S L w (xs ++ ys) (ds ++ es) := by
  induction ds generalizing xs with
  | nil => simp only [RepA] at h; subst h; simpa using k
  | cons d r ih =>
    simp only [RepA] at h
    obtain ⟨x, zs, rfl, h1, h2⟩ := h
    simp only [List.cons_append, RepA]
    exact ⟨x, _, rfl, h1, ih h2⟩
theorem RepA.cons {x : Value} {xs : List Value} {d : D} {ds : List D} (h : Rep S L w x d) (k : RepA S L w xs ds) : RepA S L w (x :: xs) (d :: ds) := by
  simp only [RepA]; exact ⟨x, xs, rfl, h, k⟩
theorem RepA.nil : RepA S L w [] [] := by simp only [RepA]
theorem RepA.set {xs : List Value} {ds : List D} (h : RepA S L w xs ds) (i : Nat) {x : Value} {d : D} (hx : Rep S L w x d) : RepA S L w (xs.set i x) (ds.set i d) := by
  induction ds generalizing xs i with
  | nil => simp only [RepA] at h; subst h; simp [RepA]
  | cons e r ih =>
    simp only [RepA] at h
    obtain ⟨y, ys, rfl, h1, h2⟩ := h
    cases i with
    | zero => exact RepA.cons hx h2
    | succ i => exact RepA.cons h1 (ih h2 i)
theorem RepC.get {b o : Nat} {cs : List D} (h : RepC S L w b o cs) (i : Nat) (d : D) (hd : cs[i]? = some d) : ∃ x, w.cell? ⟨b, o + i, none⟩ = some x ∧ Rep S L w x d := by
  induction cs generalizing o i with
  | nil => simp at hd
  | cons e r ih =>
    simp only [RepC] at h
    cases i with
    | zero => obtain rfl : e = d := by simpa using hd
              exact h.1
    | succ i =>
      have := ih h.2 i (by simpa using hd)
      rwa [show o + (i + 1) = o + 1 + i from by omega]
theorem RepC.drop {b o : Nat} {cs : List D} (h : RepC S L w b o cs) (n : Nat) : RepC S L w b (o + n) (cs.drop n) := by
  induction cs generalizing o n with
  | nil => simp [RepC]
  | cons e r ih =>
    cases n with
    | zero => simpa using h
    | succ n =>
      simp only [RepC] at h
      have := ih h.2 n
      rwa [show o + (n + 1) = o + 1 + n from by omega, List.drop_succ_cons]
theorem RepC.take {b o : Nat} {cs : List D} (h : RepC S L w b o cs) (n : Nat) : RepC S L w b o (cs.take n) := by
  induction cs generalizing o n with
  | nil => simp [RepC]
  | cons e r ih =>
    cases n with
    | zero => simp [RepC]
    | succ n =>
      simp only [RepC] at h
      simp only [List.take_succ_cons, RepC]
      exact ⟨h.1, ih h.2 n⟩
/-- Cells, read one by one, are a struct's. -/
theorem RepC.values {b o : Nat} {cs : List D} (h : RepC S L w b o cs) : ∃ xs : List Value, RepA S L w xs cs ∧ ∀ j x, xs[j]? = some x → w.cell? ⟨b, o + j, none⟩ = some x := by
  induction cs generalizing o with
  | nil => exact ⟨[], RepA.nil, by simp⟩
  | cons e r ih =>
    simp only [RepC] at h
    obtain ⟨⟨x, h1, h2⟩, h3⟩ := h
    obtain ⟨xs, h4, h5⟩ := ih h3
    refine ⟨x :: xs, RepA.cons h2 h4, fun j y hj => ?_⟩
    cases j with
    | zero => obtain rfl : x = y := by simpa using hj
              exact h1
    | succ j =>
      have := h5 j y (by simpa using hj)
      rwa [show o + (j + 1) = o + 1 + j from by omega]
theorem RepC.of {b o : Nat} {xs : List Value} {cs : List D} (h : RepA S L w xs cs) (hc : ∀ j x, xs[j]? = some x → w.cell? ⟨b, o + j, none⟩ = some x) : RepC S L w b o cs := by
  induction cs generalizing o xs with
  | nil => simp [RepC]
  | cons e r ih =>
    simp only [RepA] at h
    obtain ⟨x, ys, rfl, h1, h2⟩ := h
    simp only [RepC]
    refine ⟨⟨x, by simpa using hc 0 x rfl, h1⟩, ih h2 fun j y hj => ?_⟩
    have := hc (j + 1) y (by simpa using hj)
    rwa [show o + 1 + j = o + (j + 1) from by omega]
theorem RepR.get {b o sz : Nat} {els : List (List D)} (h : RepR S L w b o sz els) (i : Nat) (e : List D) (he : els[i]? = some e) : e.length = sz ∧ RepC S L w b (o + i * sz) e := by
  induction els generalizing o i with
  | nil => simp at he
  | cons x r ih =>
    simp only [RepR] at h
    cases i with
    | zero => obtain rfl : x = e := by simpa using he
              simpa using ⟨h.1, h.2.1⟩
    | succ i =>
      have := ih h.2.2 i (by simpa using he)
      rwa [show o + (i + 1) * sz = o + sz + i * sz from by rw [Nat.succ_mul]; omega]
theorem RepR.drop {b o sz : Nat} {els : List (List D)} (h : RepR S L w b o sz els) (n : Nat) : RepR S L w b (o + n * sz) sz (els.drop n) := by
  induction els generalizing o n with
  | nil => simp [RepR]
  | cons x r ih =>
    cases n with
    | zero => simpa using h
    | succ n =>
      simp only [RepR] at h
      have := ih h.2.2 n
      rwa [show o + (n + 1) * sz = o + sz + n * sz from by rw [Nat.succ_mul]; omega, List.drop_succ_cons]
theorem RepR.take {b o sz : Nat} {els : List (List D)} (h : RepR S L w b o sz els) (n : Nat) : RepR S L w b o sz (els.take n) := by
  induction els generalizing o n with
  | nil => simp [RepR]
  | cons x r ih =>
    cases n with
    | zero => simp [RepR]
    | succ n =>
      simp only [RepR] at h
      simp only [List.take_succ_cons, RepR]
      exact ⟨h.1, h.2.1, ih h.2.2 n⟩
/-- A row of cells, cut into elements. -/
theorem RepR.of {b o sz : Nat} {els : List (List D)} (hl : ∀ e ∈ els, e.length = sz) (h : RepC S L w b o els.flatten) : RepR S L w b o sz els := by
  induction els generalizing o with
  | nil => simp [RepR]
  | cons x r ih =>
    simp only [RepR]
    have hx := hl x (by simp)
    refine ⟨hx, ?_, ih (fun e he => hl e (by simp [he])) ?_⟩
    · have := h.take x.length
      rwa [List.flatten_cons, List.take_left'  rfl] at this
    · have := h.drop x.length
      rwa [List.flatten_cons, List.drop_left' rfl, hx] at this
end

/-- What names no object of the call's own reads so beside any. -/
theorem Rep.lift {S : Nat → Prop} {L : List (Nat × Nat)} {w : World} {x : Value} {d : D} (h : Rep S [] w x d) : Rep S L w x d := Rep.kept (Kept.refl S w) (fun _ h => h) (fun i p hi => by simp at hi) d x h
theorem RepA.lift {S : Nat → Prop} {L : List (Nat × Nat)} {w : World} {xs : List Value} {ds : List D} (h : RepA S [] w xs ds) : RepA S L w xs ds := RepA.kept (Kept.refl S w) (fun _ h => h) (fun i p hi => by simp at hi) ds xs h

/-- A loop over a function: its body may be gone through; is being gone through; was left by a jump. -/
inductive LS where
  | ready
  | busy
  | done (lv : Lv)
def Lv.code : Lv → Code
  | .normal => .skip
  | .exit id => .exit id
  | .ret => .ret
def LS.state : LS → LoopState
  | .ready => .ready
  | .busy => .busy
  | .done _ => .done
def LS.pend : LS → Option Code
  | .done lv => some lv.code
  | _ => none
/-- Slots, of which some are known. -/
def getU : List Nat → List D → Nat → D
  | k :: kp, d :: s, t => if k = t then d else getU kp s t
  | _, _, _ => .undef
def frU (sz : Nat) (kp : List Nat) (s : List D) : List D := (List.range sz).map (getU kp s)
/-- An object of the call's own: a row, or a variable, of elements of type t, each sz cells; a map by ints; or one that is no more. -/
inductive HO where
  | cells (t : TypeId) (sz : Nat) (cs : List D)
  | map (ks : List Int) (vs : List D)
  | loop (st : LS) (ps : List Nat) (assign body : Code) (sz : Nat) (kp : List Nat) (s : List D)
  | dead
  deriving Inhabited
abbrev Heap := List HO

/-- Block b, of capacity c, is such an object. -/
def ObjOk (S : Nat → Prop) (L : List (Nat × Nat)) (w : World) (b c : Nat) : HO → Prop
  | .cells t sz cs => ∃ arr : Array Value, w.heap[b]? = some (.cells arr t (0, 0)) ∧ arr.size = c * sz ∧ c ≤ maxLen ∧ cs.length ≤ arr.size ∧
    ∀ (j : Nat) (d : D), cs[j]? = some d → ∃ x, arr[j]? = some x ∧ x.oneCell' = true ∧ Rep S L w x d
  | .map ks vs => ∃ (arr : Array MapEntry) (clk : Nat), w.heap[b]? = some (.map arr clk) ∧ arr.toList.map (·.key) = ks.map (Value.int .i64) ∧ RepA S L w (arr.toList.map (·.val)) vs
  | .loop st ps assign body sz kp s => ∃ r : Loop, w.heap[b]? = some (.loop r) ∧ r.state = st.state ∧ r.pending = st.pend ∧ r.params.toList = ps ∧ r.assign = assign ∧ r.body = body ∧ RepA S L w r.tmps.toList (frU sz kp s)
  | .dead => True
theorem ObjOk.mark {S : Nat → Prop} {L : List (Nat × Nat)} {w : World} {b c : Nat} {o : HO} (h : ObjOk S L w b c o) (ho : o ≠ .dead) (x : Option (List Deferred)) : w.heap[b]? ≠ some (.deferred x) := by
  cases o with
  | cells t sz cs => obtain ⟨arr, h1, _⟩ := h; rw [h1]; intro e; cases e
  | map ks vs => obtain ⟨arr, clk, h1, _⟩ := h; rw [h1]; intro e; cases e
  | loop st ps as' bd sz kp s => obtain ⟨r, h1, _⟩ := h; rw [h1]; intro e; cases e
  | dead => exact absurd rfl ho
theorem ObjOk.lt {S : Nat → Prop} {L : List (Nat × Nat)} {w : World} {b c : Nat} {o : HO} (h : ObjOk S L w b c o) (ho : o ≠ .dead) : b < w.heap.size := by
  cases o with
  | cells t sz cs => obtain ⟨arr, h1, _⟩ := h; exact (Array.getElem?_eq_some_iff.1 h1).1
  | map ks vs => obtain ⟨arr, clk, h1, _⟩ := h; exact (Array.getElem?_eq_some_iff.1 h1).1
  | loop st ps as' bd sz kp s => obtain ⟨r, h1, _⟩ := h; exact (Array.getElem?_eq_some_iff.1 h1).1
  | dead => exact absurd rfl ho
theorem ObjOk.kept {S S' : Nat → Prop} {L L' : List (Nat × Nat)} {w w' : World} {b c : Nat} {o : HO} (h : ObjOk S L w b c o) (hb : w'.heap[b]? = w.heap[b]?) (hr : ∀ x d, Rep S L w x d → Rep S' L' w' x d) (hra : ∀ xs ds, RepA S L w xs ds → RepA S' L' w' xs ds) : ObjOk S' L' w' b c o := by
  cases o with
  | cells t sz cs =>
    obtain ⟨arr, h1, h2, h3, h4, h5⟩ := h
    refine ⟨arr, hb.trans h1, h2, h3, h4, fun j d hd => ?_⟩
    obtain ⟨x, q1, q2, q3⟩ := h5 j d hd
    exact ⟨x, q1, q2, hr _ _ q3⟩
  | map ks vs =>
    obtain ⟨arr, clk, h1, h2, h3⟩ := h
    exact ⟨arr, clk, hb.trans h1, h2, hra _ _ h3⟩
  | loop st ps as' bd sz kp s =>
    obtain ⟨r, h1, h2, h3, h4, h5, h6, h7⟩ := h
    exact ⟨r, hb.trans h1, h2, h3, h4, h5, h6, hra _ _ h7⟩
  | dead => trivial

/-- The objects of the call's own lie in blocks from B on, each in its own, apart from the blocks of S; L tells the block and the capacity of each. -/
structure HRel (B : Nat) (S : Nat → Prop) (L : List (Nat × Nat)) (w : World) (H : Heap) : Prop where
  len : L.length = H.length
  small : ∀ k, S k → k < w.heap.size
  base : B ≤ w.heap.size
  obj : ∀ (id : Nat) (o : HO), H[id]? = some o → o ≠ .dead → ∃ (b c : Nat), L[id]? = some (b, c) ∧ B ≤ b ∧ ¬ S b ∧ ObjOk S L w b c o
  inj : ∀ (id id' : Nat) (o o' : HO) (p p' : Nat × Nat), H[id]? = some o → o ≠ .dead → H[id']? = some o' → o' ≠ .dead → L[id]? = some p → L[id']? = some p' → p.1 = p'.1 → id = id'
theorem HRel.live {B : Nat} {S : Nat → Prop} {L : List (Nat × Nat)} {w : World} {H : Heap} (h : HRel B S L w H) (id : Nat) (t : TypeId) (sz : Nat) (cs : List D) (hid : H[id]? = some (HO.cells t sz cs)) :
    ∃ (b c : Nat) (arr : Array Value), L[id]? = some (b, c) ∧ B ≤ b ∧ ¬ S b ∧ w.heap[b]? = some (.cells arr t (0, 0)) ∧ arr.size = c * sz ∧ c ≤ maxLen ∧ cs.length ≤ arr.size ∧
      ∀ (j : Nat) (d : D), cs[j]? = some d → ∃ x, arr[j]? = some x ∧ x.oneCell' = true ∧ Rep S L w x d := by
  obtain ⟨b, c, h1, h2, h3, arr, h4⟩ := h.obj id _ hid (by intro e; cases e)
  exact ⟨b, c, arr, h1, h2, h3, h4⟩

theorem prefix_get {L L' : List (Nat × Nat)} (h : L <+: L') : ∀ (i : Nat) (p : Nat × Nat), L[i]? = some p → L'[i]? = some p := by
  obtain ⟨t, rfl⟩ := h
  intro i p hi
  have hlt := (List.getElem?_eq_some_iff.1 hi).1
  rw [List.getElem?_append_left hlt]; exact hi

/-- From one state to a later one: what is read by value stays; objects get new ones beside them; blocks for deferred calls stay open. -/
structure Later (B : Nat) (S S' : Nat → Prop) (L L' : List (Nat × Nat)) (w w' : World) : Prop where
  below : Below B w w'
  kept : Kept S w w'
  more : ∀ k, S k → S' k
  pre : L <+: L'
  only : ∀ k, S' k → S k ∨ w.heap.size ≤ k
  marks : ∀ k : Nat, w.heap[k]? = some (Obj.deferred (some [])) → w'.heap[k]? = some (Obj.deferred (some []))
theorem Later.refl {B : Nat} {S : Nat → Prop} {L : List (Nat × Nat)} {w : World} : Later B S S L L w w := ⟨Below.refl _ _, Kept.refl _ _, fun _ h => h, List.prefix_refl _, fun _ h => .inl h, fun _ h => h⟩
theorem Later.trans {B : Nat} {S S' S'' : Nat → Prop} {L L' L'' : List (Nat × Nat)} {w w' w'' : World} (h : Later B S S' L L' w w') (k : Later B S' S'' L' L'' w' w'') : Later B S S'' L L'' w w'' :=
  ⟨h.below.trans k.below, h.kept.trans (k.kept.mono h.more), fun i hi => k.more i (h.more i hi), h.pre.trans k.pre, fun i hi => (k.only i hi).elim (h.only i) fun hk => .inr (Nat.le_trans h.kept.size hk), fun i hi => k.marks i (h.marks i hi)⟩
theorem Later.rep {B : Nat} {S S' : Nat → Prop} {L L' : List (Nat × Nat)} {w w' : World} (h : Later B S S' L L' w w') {x : Value} {d : D} (hr : Rep S L w x d) : Rep S' L' w' x d := Rep.kept h.kept h.more (prefix_get h.pre) d x hr
theorem Later.repA {B : Nat} {S S' : Nat → Prop} {L L' : List (Nat × Nat)} {w w' : World} (h : Later B S S' L L' w w') {xs : List Value} {ds : List D} (hr : RepA S L w xs ds) : RepA S' L' w' xs ds := RepA.kept h.kept h.more (prefix_get h.pre) ds xs hr
end Go.Proofs.Ytbnmkdlmalobaaa
end

section
namespace Go.Proofs.Ytbnmkdlmalobaaa
open Go.RowKit
set_option linter.unusedVariables false
set_option linter.unusedSimpArgs false

def isAggU : TypeDesc → Bool
  | .struct _ | .array _ _ => true
  | _ => false
/-- The shape of a type: a struct of so many cells, or one cell. -/
def shapeOf (P : Program) (t : TypeId) : Option (Option Nat) :=
  match P.underlying t, P.info? t with
  | some u, some i => some (if isAggU u then some i.size else none)
  | _, _ => none
/-- The part of a struct's cells that a value of a shape takes up. -/
def partS (s : Option Nat) (cs : List D) (off : Nat) : Option D :=
  match s with
  | some n => if off + n ≤ cs.length then some (.agg ((cs.drop off).take n)) else none
  | none => cs[off]?
def partD (P : Program) (t : TypeId) (cs : List D) (off : Nat) : Option D := (shapeOf P t).bind fun s => partS s cs off
def ptrOf : D → Option (List D)
  | .ptr cs => some cs
  | _ => none
def aggOf : D → Option (List D)
  | .agg cs => some cs
  | _ => none
def tupOf : D → Option (List D)
  | .tup cs => some cs
  | _ => none
def intOf64 (k : IntKind) : D → Option D
  | .v (.int _ n) => some (.v (.int k (k.wrap n)))
  | _ => none
def negD : D → Option D
  | .v (.int k n) => some (.v (.int k (k.wrap (0 - n))))
  | _ => none
def cellsD : D → Option (List D)
  | .agg cs => some cs
  | .v (.agg xs) => some (xs.toList.map .v)
  | .v (.tuple _) => none
  | .v x => some [.v x]
  | .sl sz els => some [.sl sz els]
  | .ptr cs => some [.ptr cs]
  | .hp i o => some [.hp i o]
  | .hs i n => some [.hs i n]
  | .ifc t d => some [.ifc t d]
  | .clo f a b => some [.clo f a b]
  | .mp i => some [.mp i]
  | .mv ks vs => some [.mv ks vs]
  | .yld i => some [.yld i]
  | .ht i o n => some [.ht i o n]
  | _ => none
def intD (op : BinOp) (k : IntKind) (a b : Int) : Option D :=
  match op with
  | .add => some (.v (.int k (k.wrap (a + b))))
  | .sub => some (.v (.int k (k.wrap (a - b))))
  | .mul => some (.v (.int k (k.wrap (a * b))))
  | .eql => some (.v (.bool (a == b)))
  | .neq => some (.v (.bool (a != b)))
  | .lss => some (.v (.bool (decide (a < b))))
  | .leq => some (.v (.bool (decide (a ≤ b))))
  | .gtr => some (.v (.bool (decide (a > b))))
  | .geq => some (.v (.bool (decide (a ≥ b))))
  | .quo => if b = 0 then none else some (.v (.int k (k.wrap (a.tdiv b))))
  | .rem => if b = 0 then none else some (.v (.int k (a.tmod b)))
  | .and => some (.v (.int k (k.wrap (BitVec.ofInt k.bits a &&& BitVec.ofInt k.bits b).toNat)))
  | .or => some (.v (.int k (k.wrap (BitVec.ofInt k.bits a ||| BitVec.ofInt k.bits b).toNat)))
  | .xor => some (.v (.int k (k.wrap (BitVec.ofInt k.bits a ^^^ BitVec.ofInt k.bits b).toNat)))
  | .andNot => some (.v (.int k (k.wrap (BitVec.ofInt k.bits a &&& ~~~ BitVec.ofInt k.bits b).toNat)))
  | _ => none
def shiftD (op : BinOp) (k : IntKind) (a b : Int) : Option D :=
  if b < 0 then none else
  match op with
  | .shl => some (.v (.int k (k.wrap (a * 2 ^ (min b.toNat k.bits)))))
  | .shr => some (.v (.int k (a.fdiv (2 ^ (min b.toNat k.bits)))))
  | _ => none
def strD (op : BinOp) (x y : ByteArray) : Option D :=
  match op with
  | .add => if x.size + y.size ≤ 9223372036854775807 then some (.v (.string (x ++ y))) else none
  | .eql => some (.v (.bool (x.toList == y.toList)))
  | .neq => some (.v (.bool (!(x.toList == y.toList))))
  | .lss => some (.v (.bool (Op.bytesLess x.toList y.toList)))
  | .leq => some (.v (.bool (Op.bytesLess x.toList y.toList || x.toList == y.toList)))
  | .gtr => some (.v (.bool (!(Op.bytesLess x.toList y.toList || x.toList == y.toList))))
  | .geq => some (.v (.bool (!Op.bytesLess x.toList y.toList)))
  | _ => none
/-- The ints of a struct's cells. -/
def intsOf : List D → Option (List Int)
  | [] => some []
  | .v (.int .i64 n) :: r => (intsOf r).map (n :: ·)
  | _ => none
/-- A struct of ints alone. -/
def intStruct (P : Program) (t : TypeId) : Bool :=
  match P.underlying t with
  | some (.struct fs) => !P.stoodInHeld t && !P.eqGuardType P.depth t && fs.toList.zipIdx.all fun (f, i) => f.name != "_" && f.offset == i && (match P.underlying f.type with | some (.int .i64) => true | _ => false)
  | _ => false
inductive Kd where
  | int
  | bool
  | str
  | sl
  | ints (n : Nat)
  | ifc
  | other
def kindOf (P : Program) (t : TypeId) : Kd :=
  match P.underlying t with
  | some (.int _) => .int
  | some .bool => .bool
  | some .string => .str
  | some (.slice _) => .sl
  | some (.interface _) => .ifc
  | some (.struct fs) => if intStruct P t then .ints fs.size else .other
  | _ => .other
def eqStructD (k : Kd) (x y : D) : Option Bool :=
  match k, x, y with
  | .ints n, .agg xs, .agg ys =>
    match intsOf xs, intsOf ys with
    | some a, some b => if a.length = n ∧ b.length = n then some (decide (a = b)) else none
    | _, _ => none
  | _, _, _ => none
def binK (k : Kd) (op : BinOp) (x y : D) : Option D :=
  match x, y with
  | .v (.int k a), .v (.int k' b) =>
    match op with
    | .shl => shiftD .shl k a b
    | .shr => shiftD .shr k a b
    | op => if k = k' then intD op k a b else none
  | .v (.bool a), .v (.bool b) =>
    match op, k with
    | .eql, .bool => some (.v (.bool (a == b)))
    | .neq, .bool => some (.v (.bool (!(a == b))))
    | _, _ => none
  | .v (.string a), .v (.string b) => strD op a b
  | .ifc _ _, .v .nilIface =>
    match op, k with
    | .eql, .ifc => some (.v (.bool false))
    | .neq, .ifc => some (.v (.bool true))
    | _, _ => none
  | .sl _ (_ :: _), .v (.slice none 0 0) =>
    match op, k with
    | .eql, .sl => some (.v (.bool false))
    | .neq, .sl => some (.v (.bool true))
    | _, _ => none
  | .hs _ _, .v (.slice none 0 0) =>
    match op, k with
    | .eql, .sl => some (.v (.bool false))
    | .neq, .sl => some (.v (.bool true))
    | _, _ => none
  | x, y =>
    match op with
    | .eql => (eqStructD k x y).map fun b => .v (.bool b)
    | .neq => (eqStructD k x y).map fun b => .v (.bool !b)
    | _ => none
def isConst : Operand → Bool
  | .const _ => true
  | _ => false
/-- An interface value against the literal nil, where it is nil itself. -/
def binN (c : Bool) (k : Kd) (op : BinOp) (x y : D) : Option D :=
  match x, y with
  | .v .nilIface, .v .nilIface =>
    match c, op, k with
    | true, .eql, .ifc => some (.v (.bool true))
    | true, .neq, .ifc => some (.v (.bool false))
    | _, _, _ => none
  | x, y => binK k op x y
def boolD : D → Option Bool
  | .v (.bool b) => some b
  | _ => none
def natD : D → Option Nat
  | .v (.int _ n) => if 0 ≤ n then some n.toNat else none
  | _ => none
/-- A slice's elements; nil has none. -/
def elsD (sz : Nat) : D → Option (List (List D))
  | .sl s els => if s = sz ∨ els = [] then some els else none
  | .v (.slice none 0 0) => some []
  | _ => none
def elemSz (P : Program) (t : TypeId) : Option Nat :=
  match P.underlying t with
  | some (.slice e) => (P.info? e).map (·.size)
  | _ => none
def idxD (sz : Nat) (x i : D) : Option D :=
  match elsD sz x, natD i with
  | some els, some n => (els[n]?).map D.ptr
  | _, _ => none
def fldD (P : Program) (t : TypeId) (f : Nat) : Option (TypeId × Nat) :=
  match P.underlying t with
  | some (.struct fs) => (fs[f]?).map fun x => (x.type, x.offset)
  | _ => none
def lowD : Option D → Option Nat
  | none => some 0
  | some d => natD d
def highD (n : Nat) : Option D → Option Nat
  | none => some n
  | some d => natD d
def cutD (sz : Nat) (x : D) (lo hi : Option D) : Option D :=
  match elsD sz x with
  | none => none
  | some els =>
    match lowD lo, highD els.length hi with
    | some l, some h => if l ≤ h ∧ h ≤ els.length then some (.sl sz ((els.take h).drop l)) else none
    | _, _ => none
def fillD (place : Nat → Option (Nat × Nat)) (cells : List D) : List (Nat × D) → Option (List D)
  | [] => some cells
  | (i, d) :: rest =>
    match place i, cellsD d with
    | some (off, size), some cs => if cs.length ≠ size ∨ off + cs.length > cells.length then none else fillD place (cs.zipIdx.foldl (fun acc (c, j) => acc.set (off + j) c) cells) rest
    | _, _ => none
def zeroD (P : Program) (t : TypeId) : Option (List D) :=
  match P.info? t with
  | some i => i.zero.map fun z => z.cells.toList.map D.v
  | none => none
def buildR (ps : List (Nat × Nat)) (z : List D) (parts : List (Nat × D)) : Option D := (fillD (ps[·]?) z parts).map D.agg
/-- An array's elements, each so many cells. -/
def buildA (sz : Nat) (z : List D) (parts : List (Nat × D)) : Option D := (fillD (fun k => some (k * sz, sz)) z parts).map D.agg
def buildD (P : Program) (t : TypeId) (parts : List (Nat × D)) : Option D :=
  match P.underlying t, zeroD P t with
  | some (.struct fs), some z =>
    match fs.toList.mapM fun f => (P.info? f.type).map fun i => (f.offset, i.size) with
    | some ps => buildR ps z parts
    | none => none
  | some (.array _ e), some z =>
    match P.info? e with
    | some ie => buildA ie.size z parts
    | none => none
  | _, _ => none
def chunks {α : Type} (sz : Nat) : Nat → List α → List (List α)
  | 0, _ => []
  | n + 1, l => l.take sz :: chunks sz n (l.drop sz)
def rowR (sz len : Nat) (z : List D) (parts : List (Nat × D)) : Option D :=
  if len = 0 then (if parts.isEmpty then some (.sl sz []) else none) else
  (fillD (fun k => some (k * sz, sz)) ((List.range (len * sz)).map fun k => z.getD (k % z.length) .undef) parts).map fun cs => .sl sz (chunks sz len cs)
def rowD (P : Program) (t : TypeId) (len : Nat) (parts : List (Nat × D)) : Option D :=
  match P.underlying t with
  | some (.slice e) =>
    match zeroD P e, P.info? e with
    | some z, some i => if i.size = 0 ∨ z.length ≠ i.size ∨ 1000 < len * i.size then none else rowR i.size len z parts
    | _, _ => none
  | _ => none
def lenK (k : Kd) (x : D) : Option D :=
  match k, x with
  | .sl, .sl _ els => some (.v (.int .i64 els.length))
  | .sl, .v (.slice _ n _) => some (.v (.int .i64 n))
  | .str, .v (.string s) => some (.v (.int .i64 s.size))
  | _, _ => none
def stepIntD (f : Int → Int → Int) : Option Int → D → Option Int
  | some a, .v (.int _ b) => some (f a b)
  | _, _ => none
def foldIntD (f : Int → Int → Int) : List D → Option D
  | .v (.int k a) :: r => (r.foldl (stepIntD f) (some a)).map fun a => .v (.int k a)
  | _ => none
def pickD (c a b : D) : Option D := (boolD c).map fun b' => if b' then a else b
def notD (x : D) : Option D := (boolD x).map fun b => .v (.bool !b)
def boxD (x : D) : Option D := (cellsD x).map D.ptr
def loadD (s : Option Nat) (x : D) : Option D := (ptrOf x).bind fun cs => partS s cs 0
def fieldD (s : Option Nat) (off : Nat) (x : D) : Option D := (aggOf x).bind fun cs => partS s cs off
def fieldAtD (off : Nat) (x : D) : Option D := (ptrOf x).map fun cs => .ptr (cs.drop off)
def extractD (x : D) (i : Nat) : Option D := (tupOf x).bind fun ds => ds[i]?
def maxD (l : List D) : Option D := foldIntD (fun x y => if y > x then y else x) l
def minD (l : List D) : Option D := foldIntD (fun x y => if y < x then y else x) l

/- What the call's own objects come into. -/
/-- A value that one cell holds. -/
def cellOk : D → Bool
  | .v (.agg _) | .v (.tuple _) => false
  | .undef | .agg _ | .tup _ => false
  | _ => true
def loadH (s : Option Nat) (H : Heap) (x : D) : Option D :=
  match x with
  | .hp id off =>
    match H[id]? with
    | some (.cells _ _ cs) => partS s (cs.drop off) 0
    | _ => none
  | x => loadD s x
def fieldAtH (off : Nat) (x : D) : Option D :=
  match x with
  | .hp id o => some (.hp id (o + off))
  | x => fieldAtD off x
def idxH (sz : Nat) (x i : D) : Option D :=
  match x with
  | .hs id n => (natD i).bind fun k => if k < n then some (.hp id (k * sz)) else none
  | .ht id off n => (natD i).bind fun k => if k < n then some (.hp id (off + k * sz)) else none
  | x => idxD sz x i
/-- A place in an array of n elements. -/
def idxA (n sz : Nat) (x i : D) : Option D :=
  match x with
  | .hp id off => (natD i).bind fun k => if k < n then some (.hp id (off + k * sz)) else none
  | _ => none
/-- An array type's length, and the size of its elements. -/
def arrD (P : Program) (t : TypeId) : Option (Nat × Nat) :=
  match P.underlying t with
  | some (.array n e) => (P.info? e).map fun i => (n, i.size)
  | _ => none
def lenH (k : Kd) (x : D) : Option D :=
  match k, x with
  | .sl, .hs _ n => some (.v (.int .i64 n))
  | .sl, .ht _ _ n => some (.v (.int .i64 n))
  | k, x => lenK k x
def cutH (sz : Nat) (x : D) (lo hi : Option D) : Option D :=
  match x with
  | .hs id n =>
    match lowD lo, highD n hi with
    | some l, some h => if l = 0 ∧ h ≤ n then some (.hs id h) else if l ≤ h ∧ h ≤ n then some (.ht id (l * sz) (h - l)) else none
    | _, _ => none
  | .ht id off n =>
    match lowD lo, highD n hi with
    | some l, some h => if l ≤ h ∧ h ≤ n then some (.ht id (off + l * sz) (h - l)) else none
    | _, _ => none
  | x => cutD sz x lo hi
def newH (t : TypeId) (sz : Nat) (cs : List D) (H : Heap) : Option (Nat × Heap) := if cs.all cellOk then some (H.length, H ++ [.cells t sz cs]) else none
def boxH (t : TypeId) (x : D) (H : Heap) : Option (D × Heap) := (cellsD x).bind fun cs => (newH t cs.length cs H).map fun r => (.hp r.1 0, r.2)
def allocH (t : TypeId) (z : List D) (H : Heap) : Option (D × Heap) := (newH t z.length z H).map fun r => (.hp r.1 0, r.2)
def rowH (e : TypeId) (sz len : Nat) (z : List D) (parts : List (Nat × D)) (H : Heap) : Option (D × Heap) :=
  (rowR sz len z parts).bind fun d => (elsD sz d).bind fun els => (newH e sz els.flatten H).map fun r => (.hs r.1 len, r.2)
def storeH (n : Nat) (x v : D) (H : Heap) : Option Heap :=
  match x, cellsD v with
  | .hp id off, some ds =>
    match H[id]? with
    | some (.cells t sz cs) => if ds.length = n ∧ off + ds.length ≤ cs.length ∧ ds.all cellOk then some (H.set id (.cells t sz (cs.take off ++ ds ++ cs.drop (off + ds.length)))) else none
    | _ => none
  | _, _ => none
def setH (n : Nat) (x v : D) (H : Heap) : Option (D × Heap) := (storeH n x v H).map fun H' => (.v undef, H')
/-- The cells of what is appended. -/
def srcH (sz : Nat) (H : Heap) (x : D) : Option (List D) :=
  match x with
  | .hs id n =>
    match H[id]? with
    | some (.cells _ s cs) => if s = sz ∧ n * sz ≤ cs.length then some (cs.take (n * sz)) else none
    | _ => none
  | .ht id off n =>
    match H[id]? with
    | some (.cells _ s cs) => if s = sz ∧ off + n * sz ≤ cs.length then some ((cs.drop off).take (n * sz)) else none
    | _ => none
  | x => (elsD sz x).map List.flatten
def appH (e : TypeId) (sz : Nat) (s : D) (new : List D) (H : Heap) : Option (D × Heap) :=
  if sz = 0 ∨ !new.all cellOk then none else
  match s with
  | .v (.slice none 0 0) => if new.length = 0 then some (s, H) else if new.length ≤ 4000000 then some (.hs H.length (new.length / sz), H ++ [.cells e sz new]) else none
  | .hs id n =>
    match H[id]? with
    | some (.cells t sz' cs) => if t = e ∧ sz' = sz ∧ cs.length = n * sz ∧ cs.length + new.length ≤ 4000000 then some (.hs H.length (n + new.length / sz), (H.set id .dead) ++ [.cells e sz (cs ++ new)]) else none
    | _ => none
  | _ => none
def appendH (e : TypeId) (sz : Nat) (s x : D) (H : Heap) : Option (D × Heap) := (srcH sz H x).bind fun new => appH e sz s new H
/-- A string's bytes, appended. -/
def bytesD (s : ByteArray) : List D := s.data.toList.map fun b => .v (.int .u8 b.toNat)
def appendS (e : TypeId) (sz : Nat) (s x : D) (H : Heap) : Option (D × Heap) :=
  match x with
  | .v (.string t) => if sz = 1 then appH e sz s (bytesD t) H else none
  | _ => none
def htOf : D → Option (Nat × Nat × Nat)
  | .hs id n => some (id, 0, n)
  | .ht id off n => some (id, off, n)
  | _ => none
/-- Elements are copied into a row of the call's own. -/
def copyH (sz : Nat) (dst src : D) (H : Heap) : Option (D × Heap) :=
  (htOf dst).bind fun x =>
  match H[x.1]? with
  | some (.cells t s cs) => (srcH sz H src).bind fun new =>
    if 0 < sz ∧ s = sz ∧ x.2.1 + x.2.2 * sz ≤ cs.length ∧ ((new.take (min (new.length / sz) x.2.2 * sz)).all cellOk) = true then
      some (.v (.int .i64 (min (new.length / sz) x.2.2 : Nat)), H.set x.1 (.cells t s (cs.take x.2.1 ++ new.take (min (new.length / sz) x.2.2 * sz) ++ cs.drop (x.2.1 + min (new.length / sz) x.2.2 * sz)))) else none
  | _ => none
/-- The elements of a row become zero. -/
def clearH (sz : Nat) (z : List D) (x : D) (H : Heap) : Option (D × Heap) :=
  (htOf x).bind fun x =>
  match H[x.1]? with
  | some (.cells t s cs) =>
    if s = sz ∧ z.length = sz ∧ x.2.1 + x.2.2 * sz ≤ cs.length ∧ z.all cellOk = true then
      some (.v undef, H.set x.1 (.cells t s (cs.take x.2.1 ++ (List.replicate x.2.2 z).flatten ++ cs.drop (x.2.1 + x.2.2 * sz)))) else none
  | _ => none
/-- A new row of zero elements. -/
def makeH (e : TypeId) (sz : Nat) (z : List D) (n m : D) (H : Heap) : Option (D × Heap) :=
  match n, m with
  | .v (.int _ a), .v (.int _ b) => if a = b ∧ 0 ≤ a ∧ a ≤ 4000000 ∧ z.length = sz then (newH e sz (List.replicate a.toNat z).flatten H).map fun r => (.hs r.1 a.toNat, r.2) else none
  | _, _ => none
def xorD : D → Option D
  | .v (.int k n) => intD .xor k (if k.signed then -1 else k.max) n
  | _ => none
/-- The zero value's cells, the type and the size of a slice type's elements. -/
def zeroEl (P : Program) (t : TypeId) : Option (TypeId × Nat × List D) :=
  match P.underlying t with
  | some (.slice e) => (P.info? e).bind fun i => match i.zero with | some z => if z.cells.size = i.size ∧ i.bytes ≤ 1000 then some (e, i.size, z.cells.toList.map D.v) else none | none => none
  | _ => none
/-- The type, size of a slice type's elements, if a row of them is not too wide. -/
def elemOfD (P : Program) (t : TypeId) : Option (TypeId × Nat) :=
  match P.underlying t with
  | some (.slice e) => (P.info? e).bind fun i => match i.zero with | some z => if z.cells.size = i.size ∧ i.bytes ≤ 1000 then some (e, i.size) else none | none => none
  | _ => none
def rowInfo (P : Program) (t : TypeId) (len : Nat) : Option (TypeId × Nat × List D) :=
  match P.underlying t with
  | some (.slice e) =>
    match zeroD P e, P.info? e with
    | some z, some i => if i.size = 0 ∨ z.length ≠ i.size ∨ 1000 < len * i.size then none else some (e, i.size, z)
    | _, _ => none
  | _ => none
def asIfc (t : TypeId) : D → Option D
  | .ifc u d => if u = t then some d else none
  | _ => none
/- Strings. -/
def strOf : D → Option ByteArray
  | .v (.string s) => some s
  | _ => none
def cutS (x : D) (lo hi : Option D) : Option D :=
  (strOf x).bind fun s =>
  match lowD lo, highD s.size hi with
  | some l, some h => if l ≤ h ∧ h ≤ s.size then some (.v (.string (s.extract l h))) else none
  | _, _ => none
def idxS (x i : D) : Option D :=
  (strOf x).bind fun s => (natD i).bind fun n => (s[n]?).map fun b => .v (.int .u8 b.toNat)
def byteOfD : D → Option UInt8
  | .v (.int .u8 n) => some (UInt8.ofNat n.toNat)
  | _ => none
/-- The string of a slice of bytes. -/
def bytesS (H : Heap) (x : D) : Option D := (srcH 1 H x).bind fun cs => (cs.mapM byteOfD).map fun bs => .v (.string ⟨bs.toArray⟩)
/- Maps by ints. -/
def mapOf (H : Heap) : D → Option (List Int × List D)
  | .mp id =>
    match H[id]? with
    | some (.map ks vs) => some (ks, vs)
    | _ => none
  | .mv ks vs => some (ks, vs)
  | .v (.map none) => some ([], [])
  | _ => none
def int64Of : D → Option Int
  | .v (.int .i64 n) => some n
  | _ => none
def zeroVD (P : Program) (t : TypeId) : Option D :=
  match P.info? t with
  | some i => i.zero.map fun z => match z with | .agg cs => .agg (cs.toList.map D.v) | z => .v z
  | none => none
def findM (ks : List Int) (vs : List D) (k : Int) : Option D :=
  match ks, vs with
  | a :: r, v :: s => if k = a then some v else findM r s k
  | _, _ => none
/-- The type of a map's elements, if its keys are ints. -/
def mapElem (P : Program) (t : TypeId) : Option TypeId :=
  match P.underlying t with
  | some (.map k e) => match P.underlying k with | some (.int _) => some e | _ => none
  | _ => none
def lookH (zero : D) (ok : Bool) (H : Heap) (m k : D) : Option D :=
  (mapOf H m).bind fun kv => (int64Of k).bind fun n =>
    match findM kv.1 kv.2 n with
    | some v => some (if ok then .tup [v, .v (.bool true)] else v)
    | none => some (if ok then .tup [zero, .v (.bool false)] else zero)
def putM (ks : List Int) (vs : List D) (k : Int) (v : D) : List Int × List D :=
  match ks, vs with
  | a :: r, u :: s => if k = a then (a :: r, v :: s) else let p := putM r s k v; (a :: p.1, u :: p.2)
  | _, _ => ([k], [v])
def updH (m k v : D) (H : Heap) : Option (D × Heap) :=
  match m, int64Of k with
  | .mp id, some n =>
    match H[id]? with
    | some (.map ks vs) => let p := putM ks vs n v; some (.v undef, H.set id (.map p.1 p.2))
    | _ => none
  | _, _ => none
def newM (H : Heap) : Option (D × Heap) := some (.mp H.length, H ++ [.map [] []])
/- Interface values. -/
def assertD (u : TypeId) (zero : D) (ok : Bool) (x : D) : Option D :=
  match x with
  | .ifc t d => if t = u then some (if ok then .tup [d, .v (.bool true)] else d) else if ok then some (.tup [zero, .v (.bool false)]) else none
  | .v .nilIface => if ok then some (.tup [zero, .v (.bool false)]) else none
  | _ => none
/-- A type that is no interface. -/
def isConc (P : Program) (t : TypeId) : Bool :=
  match P.underlying t with
  | some (.interface _) | none => false
  | _ => true
def isPtr : TypeDesc → Bool
  | .pointer _ => true
  | _ => false
/-- The method that a value of type t has by that name, if it is told of the value itself. -/
def methD (P : Program) (t : TypeId) (name : String) : Option FuncId :=
  match P.info? t, P.underlying t with
  | some i, some u =>
    match i.methods.find? (·.name == name) with
    | some m =>
      match m.path.toList, m.func with
      | [], some (f, b) => if b = isPtr u then some f else none
      | _, _ => none
    | none => none
  | _, _ => none
def same (H : Heap) (o : Option D) : Option (D × Heap) := o.map fun d => (d, H)

/-- What an operation yields, that is no call, and what becomes of the call's own objects. -/
def opH (P : Program) (op : Op) (ρ : Operand → D) (H : Heap) : Option (D × Heap) :=
  match op with
  | .move x | .assign x => some (ρ x, H)
  | .pick c a b => same H (pickD (ρ c) (ρ a) (ρ b))
  | .load t a => (shapeOf P t).bind fun s => same H (loadH s H (ρ a))
  | .box t x => boxH t (ρ x) H
  | .alloc t => (zeroD P t).bind fun z => allocH t z H
  | .store t a x => (P.info? t).bind fun i => setH i.size (ρ a) (ρ x) H
  | .field t x f => (fldD P t f).bind fun uo => (shapeOf P uo.1).bind fun s => same H (fieldD s uo.2 (ρ x))
  | .fieldAddr t x f => (fldD P t f).bind fun uo => (P.info? uo.1).bind fun i => if i.size = 0 then none else same H (fieldAtH uo.2 (ρ x))
  | .indexAddr t x i => match arrD P t with | some a => same H (idxA a.1 a.2 (ρ x) (ρ i)) | none => (elemSz P t).bind fun sz => same H (idxH sz (ρ x) (ρ i))
  | .slice t x lo hi none =>
    match P.underlying t with
    | some .string => same H (cutS (ρ x) (lo.map ρ) (hi.map ρ))
    | _ => (elemSz P t).bind fun sz => same H (cutH sz (ρ x) (lo.map ρ) (hi.map ρ))
  | .build t ps => same H (buildD P t (ps.toList.map fun (i, x) => (i, ρ x)))
  | .buildSlice t n ps => (rowInfo P t n).bind fun r => rowH r.1 r.2.1 n r.2.2 (ps.toList.map fun (i, x) => (i, ρ x)) H
  | .binOp op t x y _ => same H (binN (isConst x || isConst y) (kindOf P t) op (ρ x) (ρ y))
  | .unOp .not _ x => same H (notD (ρ x))
  | .unOp .neg _ x => same H (negD (ρ x))
  | .unOp .xor _ x => same H (xorD (ρ x))
  | .makeSlice t n m => (zeroEl P t).bind fun z => makeH z.1 z.2.1 z.2.2 (ρ n) (ρ m) H
  | .convert s t x =>
    match P.underlying s, P.underlying t with
    | some (.int _), some (.int k) => same H (intOf64 k (ρ x))
    | some (.slice e), some .string =>
      match P.underlying e with
      | some (.int .u8) => same H (bytesS H (ρ x))
      | _ => none
    | some .string, some .string => same H ((strOf (ρ x)).map fun s => .v (.string s))
    | _, _ => none
  | .index t x i => match P.underlying t with | some .string => same H (idxS (ρ x) (ρ i)) | _ => none
  | .makeMap t none => match P.underlying t with | some (.map _ _) => newM H | _ => none
  | .mapUpdate t m k v | .insert t m k v => (mapElem P t).bind fun _ => updH (ρ m) (ρ k) (ρ v) H
  | .lookup t m k ok => (mapElem P t).bind fun e => (zeroVD P e).bind fun z => same H (lookH z ok H (ρ m) (ρ k))
  | .typeAssert x _ u ok => if isConc P u then (zeroVD P u).bind fun z => same H (assertD u z ok (ρ x)) else none
  | .extract t i => same H (extractD (ρ t) i)
  | .makeInterface t x => match P.underlying t with | some (.interface _) | none => none | _ => some (.ifc t (ρ x), H)
  | .makeFunc f a b => some (.clo f (a.toList.map ρ) (b.toList.map ρ), H)
  | .nilCheck x => match ρ x with | .hp i o => some (.hp i o, H) | .ptr cs => some (.ptr cs, H) | _ => none
  | .call { callee := .builtin .len, args, argTypes } =>
    match args.toList, argTypes.toList with
    | [x], t :: _ => same H (lenH (kindOf P t) (ρ x))
    | _, _ => none
  | .call { callee := .builtin .append, args, argTypes } =>
    match args.toList, argTypes.toList with
    | [s, x], [t, t'] => if t = t' then (elemOfD P t).bind fun es => appendH es.1 es.2 (ρ s) (ρ x) H else
      match P.underlying t' with
      | some .string => (elemOfD P t).bind fun es => appendS es.1 es.2 (ρ s) (ρ x) H
      | _ => none
    | _, _ => none
  | .call { callee := .builtin .copy, args, argTypes } =>
    match args.toList, argTypes.toList with
    | [s, x], t :: _ => (elemOfD P t).bind fun es => copyH es.2 (ρ s) (ρ x) H
    | _, _ => none
  | .call { callee := .builtin .clear, args, argTypes } =>
    match args.toList, argTypes.toList with
    | [x], t :: _ => (zeroEl P t).bind fun z => clearH z.2.1 z.2.2 (ρ x) H
    | _, _ => none
  | .call { callee := .builtin .max, args, .. } => same H (maxD (args.toList.map ρ))
  | .call { callee := .builtin .min, args, .. } => same H (minD (args.toList.map ρ))
  | _ => none
end Go.Proofs.Ytbnmkdlmalobaaa
end
