/-
  Plain ground for all of this seat's texts: how a slice value reads as a list, and that it goes on reading so.
-/
import Derived.Test.YtnmgfobpcengkaaAr
namespace Go.Proofs.Ytnmgfobpcengkaa
open Go.RowKit

/-- The blocks of S lie in w' as they lay in w. -/
structure Kept (S : Nat → Prop) (w w' : World) : Prop where
  size : w.heap.size ≤ w'.heap.size
  block : ∀ k, S k → w'.heap[k]? = w.heap[k]?
theorem Kept.refl (S : Nat → Prop) (w : World) : Kept S w w := ⟨Nat.le_refl _, fun _ _ => rfl⟩
theorem Kept.trans {S : Nat → Prop} {a b c : World} (h : Kept S a b) (k : Kept S b c) : Kept S a c := ⟨Nat.le_trans h.size k.size, fun i hi => (k.block i hi).trans (h.block i hi)⟩
theorem Kept.mono {S S' : Nat → Prop} {a b : World} (h : Kept S a b) (hs : ∀ k, S' k → S k) : Kept S' a b := ⟨h.size, fun i hi => h.block i (hs i hi)⟩
theorem Kept.cell {S : Nat → Prop} {w w' : World} (h : Kept S w w') {p : Addr} (hp : S p.block) : w'.cell? p = w.cell? p := World.cell?_of_block (w := w) (h.block p.block hp)
theorem Kept.frozen {S : Nat → Prop} {w w' : World} (h : Kept S w w') {p : Addr} (hp : S p.block) : w'.frozen? p = w.frozen? p := World.frozen?_of_block (w := w) (h.block p.block hp)
theorem kept_below {B : Nat} {w w' : World} (h : Below B w w') : Kept (· < B) w w' := ⟨h.size, h.block⟩
theorem kept_of {B : Nat} {S : Nat → Prop} {w w' : World} (h : Below B w w') (hs : ∀ k, S k → k < B) : Kept S w w' := (kept_below h).mono hs
theorem kept_setCell {S : Nat → Prop} {a w : World} (h : Kept S a w) {p : Addr} (hp : ¬ S p.block) (u : Value) : Kept S a (w.setCell p u) :=
  h.trans ⟨by simp [World.setCell], fun k hk => Below.heap_setCell _ _ _ _ (fun e => hp (e ▸ hk))⟩
theorem kept_alloc {S : Nat → Prop} {a w : World} (h : Kept S a w) (hs : ∀ k, S k → k < w.heap.size) (o : Obj) : Kept S a (w.alloc o) :=
  h.trans ⟨by simp, fun k hk => Below.heap_alloc _ _ _ (hs k hk)⟩
theorem kept_drew {S : Nat → Prop} {a w : World} (h : Kept S a w) : Kept S a w.drew := ⟨h.size, h.block⟩
theorem kept_grown {S : Nat → Prop} {a w w' : World} {row : Option Nat} (h : Kept S a w) (hg : w.grownBy w' row) (hs : ∀ k, S k → k < w.heap.size) (hr : ∀ k, row = some k → ¬ S k) : Kept S a w' :=
  h.trans ⟨hg.size, fun k hk => hg.block k (hs k hk) (fun e => hr k e.symm hk)⟩

/-- The slice value v, of n elements, reads as the cells xs, which lie in a block of S. -/
def SliceIn (S : Nat → Prop) (w : World) (v : Value) (n : Nat) (xs : List Value) : Prop :=
  (∃ (p : Option Addr) (cap : Nat), v = .slice p 0 cap ∧ n = 0 ∧ xs = [] ∧ (p = none → cap = 0)) ∨
  ∃ (b o cap : Nat), v = .slice (some ⟨b, o, none⟩) n cap ∧ 0 < n ∧ n ≤ cap ∧ S b ∧ ∀ j, j < xs.length → w.cell? ⟨b, o + j, none⟩ = xs[j]?

theorem SliceIn.kept {S : Nat → Prop} {w w' : World} {v : Value} {n : Nat} {xs : List Value} (h : SliceIn S w v n xs) (hk : Kept S w w') : SliceIn S w' v n xs := by
  rcases h with h | ⟨b, o, cap, h1, h2, h3, h4, h5⟩
  · exact .inl h
  · exact .inr ⟨b, o, cap, h1, h2, h3, h4, fun j hj => (hk.cell (p := ⟨b, o + j, none⟩) h4).trans (h5 j hj)⟩
theorem SliceIn.mono {S S' : Nat → Prop} {w : World} {v : Value} {n : Nat} {xs : List Value} (h : SliceIn S w v n xs) (hs : ∀ k, S k → S' k) : SliceIn S' w v n xs := by
  rcases h with h | ⟨b, o, cap, h1, h2, h3, h4, h5⟩
  · exact .inl h
  · exact .inr ⟨b, o, cap, h1, h2, h3, hs _ h4, h5⟩

def nodeCells (l : List Nd) : List Value := l.flatMap fun x => [.int .i64 x.1, .int .i64 x.2]
def IntsIn (S : Nat → Prop) (w : World) (v : Value) (l : List Int) : Prop := SliceIn S w v l.length (l.map (Value.int .i64))
def NodesIn (S : Nat → Prop) (w : World) (v : Value) (l : List Nd) : Prop := SliceIn S w v l.length (nodeCells l)
/-- .. which lie where w has blocks. -/
abbrev IntsAt (w : World) (v : Value) (l : List Int) : Prop := IntsIn (· < w.heap.size) w v l
abbrev NodesAt (w : World) (v : Value) (l : List Nd) : Prop := NodesIn (· < w.heap.size) w v l

theorem IntsIn.kept {S : Nat → Prop} {w w' : World} {v : Value} {l : List Int} (h : IntsIn S w v l) (hk : Kept S w w') : IntsIn S w' v l := SliceIn.kept h hk
theorem NodesIn.kept {S : Nat → Prop} {w w' : World} {v : Value} {l : List Nd} (h : NodesIn S w v l) (hk : Kept S w w') : NodesIn S w' v l := SliceIn.kept h hk
theorem IntsIn.mono {S S' : Nat → Prop} {w : World} {v : Value} {l : List Int} (h : IntsIn S w v l) (hs : ∀ k, S k → S' k) : IntsIn S' w v l := SliceIn.mono h hs
theorem NodesIn.mono {S S' : Nat → Prop} {w : World} {v : Value} {l : List Nd} (h : NodesIn S w v l) (hs : ∀ k, S k → S' k) : NodesIn S' w v l := SliceIn.mono h hs
theorem IntsIn.below {w w' : World} {v : Value} {l : List Int} (h : IntsAt w v l) (hb : Below w.heap.size w w') : IntsAt w' v l :=
  (IntsIn.kept h (kept_below hb)).mono fun _ hk => Nat.lt_of_lt_of_le hk hb.size
theorem NodesIn.below {w w' : World} {v : Value} {l : List Nd} (h : NodesAt w v l) (hb : Below w.heap.size w w') : NodesAt w' v l :=
  (NodesIn.kept h (kept_below hb)).mono fun _ hk => Nat.lt_of_lt_of_le hk hb.size

theorem nodeCells_length (l : List Nd) : (nodeCells l).length = 2 * l.length := by
  induction l with
  | nil => rfl
  | cons x r ih => simp only [nodeCells, List.flatMap_cons, List.length_append, List.length_cons, List.length_nil] at ih ⊢; omega
theorem nodeCells_get0 (l : List Nd) (i : Nat) (h : i < l.length) : (nodeCells l)[2 * i]? = some (.int .i64 l[i].1) := by
  induction l generalizing i with
  | nil => simp at h
  | cons x r ih =>
    cases i with
    | zero => rfl
    | succ i =>
      have := ih i (by simpa using h)
      simp only [nodeCells, List.flatMap_cons] at this ⊢
      rw [show 2 * (i + 1) = 2 * i + 1 + 1 from by omega]
      simpa using this
theorem nodeCells_get1 (l : List Nd) (i : Nat) (h : i < l.length) : (nodeCells l)[2 * i + 1]? = some (.int .i64 l[i].2) := by
  induction l generalizing i with
  | nil => simp at h
  | cons x r ih =>
    cases i with
    | zero => rfl
    | succ i =>
      have := ih i (by simpa using h)
      simp only [nodeCells, List.flatMap_cons] at this ⊢
      rw [show 2 * (i + 1) + 1 = (2 * i + 1) + 1 + 1 from by omega]
      simpa using this

theorem IntsIn.open {S : Nat → Prop} {w : World} {v : Value} {l : List Int} (h : IntsIn S w v l) :
    (l = [] ∧ ∃ (p : Option Addr) (cap : Nat), v = .slice p 0 cap) ∨
    ∃ (b o cap : Nat), v = .slice (some ⟨b, o, none⟩) l.length cap ∧ 0 < l.length ∧ l.length ≤ cap ∧ S b ∧ ∀ j (hj : j < l.length), w.cell? ⟨b, o + j, none⟩ = some (.int .i64 l[j]) := by
  rcases h with ⟨p, cap, h1, h2, _⟩ | ⟨b, o, cap, h1, h2, h3, h4, h5⟩
  · exact .inl ⟨List.eq_nil_of_length_eq_zero h2, p, cap, h1⟩
  · exact .inr ⟨b, o, cap, h1, h2, h3, h4, fun j hj => (h5 j (by simpa using hj)).trans (by simp [hj])⟩

theorem NodesIn.open {S : Nat → Prop} {w : World} {v : Value} {l : List Nd} (h : NodesIn S w v l) :
    (l = [] ∧ ∃ (p : Option Addr) (cap : Nat), v = .slice p 0 cap) ∨
    ∃ (b o cap : Nat), v = .slice (some ⟨b, o, none⟩) l.length cap ∧ 0 < l.length ∧ l.length ≤ cap ∧ S b ∧
      ∀ j (hj : j < l.length), w.cell? ⟨b, o + j * 2, none⟩ = some (.int .i64 l[j].1) ∧ w.cell? ⟨b, o + j * 2 + 1, none⟩ = some (.int .i64 l[j].2) := by
  rcases h with ⟨p, cap, h1, h2, _⟩ | ⟨b, o, cap, h1, h2, h3, h4, h5⟩
  · exact .inl ⟨List.eq_nil_of_length_eq_zero h2, p, cap, h1⟩
  · refine .inr ⟨b, o, cap, h1, h2, h3, h4, fun j hj => ⟨?_, ?_⟩⟩
    · rw [Nat.mul_comm]
      exact (h5 (2 * j) (by rw [nodeCells_length]; omega)).trans (nodeCells_get0 l j hj)
    · rw [Nat.mul_comm, Nat.add_assoc]
      exact (h5 (2 * j + 1) (by rw [nodeCells_length]; omega)).trans (nodeCells_get1 l j hj)
/-- A slice value, whatever it reads as. -/
theorem NodesIn.slice {S : Nat → Prop} {w : World} {v : Value} {l : List Nd} (h : NodesIn S w v l) : ∃ (p : Option Addr) (cap : Nat), v = .slice p l.length cap := by
  rcases h.open with ⟨rfl, p, cap, rfl⟩ | ⟨b, o, cap, rfl, _⟩ <;> exact ⟨_, _, rfl⟩
theorem IntsIn.slice {S : Nat → Prop} {w : World} {v : Value} {l : List Int} (h : IntsIn S w v l) : ∃ (p : Option Addr) (cap : Nat), v = .slice p l.length cap := by
  rcases h.open with ⟨rfl, p, cap, rfl⟩ | ⟨b, o, cap, rfl, _⟩ <;> exact ⟨_, _, rfl⟩

theorem below_drewN {B : Nat} {a w : World} (h : Below B a w) (n : Nat) : Below B a (w.drewN n) := ⟨h.os, h.tape, h.output, h.size, h.block⟩
/-- Behind a call that makes memory: what was there reads as it did. -/
theorem bcell {W w1 : World} (hb : Below W.heap.size W w1) :
    (∀ b o, b < W.heap.size → w1.cell? ⟨b, o, none⟩ = W.cell? ⟨b, o, none⟩) ∧ (∀ b o, b < W.heap.size → w1.frozen? ⟨b, o, none⟩ = W.frozen? ⟨b, o, none⟩) :=
  ⟨fun b o h => hb.cell (p := ⟨b, o, none⟩) h, fun b o h => hb.frozen (p := ⟨b, o, none⟩) h⟩

/-- As many nodes as are wanted, read from the left: how many were read. -/
def scanL : List Nd → Nat → Option Nat
  | _, 0 => some 0
  | [], _ + 1 => none
  | x :: r, k + 1 => if ar x < 0 then none else (scanL r (k + (ar x).toNat)).map (· + 1)
def scan (k : Nat) (l : List Nd) : Option Nat := scanL l k

/-- Where one stands behind what was read from k on; -1: nowhere. -/
def fin (k : Int) : Option Nat → Int
  | some c => k + c
  | none => -1
/-- The place behind a node, and all below it; -1: there is none. -/
def endv (l : List Nd) (i : Int) : Int := if i < 0 then -1 else fin i (scan 1 (l.drop i.toNat))

theorem scan_zero (l : List Nd) : scan 0 l = some 0 := by cases l <;> rfl
theorem scan_nil (m : Nat) (h : 0 < m) : scan m [] = none := by
  cases m with
  | zero => omega
  | succ m => rfl
theorem scan_cons (m : Nat) (x : Nd) (r : List Nd) : scan (m + 1) (x :: r) = if ar x < 0 then none else (scan (m + (ar x).toNat) r).map (· + 1) := rfl
theorem fin_map (k : Int) (o : Option Nat) : fin k (o.map (· + 1)) = fin (k + 1) o := by
  cases o with
  | none => rfl
  | some c => simp only [Option.map_some, fin]; omega
theorem fin_end (l : List Nd) (k : Nat) (t : Int) (ht : 1 ≤ t) (h : l.length ≤ k) : fin k (scan t.toNat (l.drop k)) = -1 := by
  rw [List.drop_of_length_le h, scan_nil _ (by omega)]; rfl
theorem fin_step (l : List Nd) (k : Nat) (t : Int) (ht : 1 ≤ t) (h : k < l.length) :
    fin k (scan t.toNat (l.drop k)) = if ar l[k] < 0 then -1 else fin (k + 1) (scan (t + (ar l[k] - 1)).toNat (l.drop (k + 1))) := by
  obtain ⟨m, rfl⟩ : ∃ m : Nat, t = m + 1 := ⟨(t - 1).toNat, by omega⟩
  rw [List.drop_eq_getElem_cons h, show ((m : Int) + 1).toNat = m + 1 from by omega, scan_cons]
  by_cases hx : ar l[k] < 0
  · rw [if_pos hx, if_pos hx]; rfl
  · rw [if_neg hx, if_neg hx, fin_map, show m + (ar l[k]).toNat = ((m : Int) + 1 + (ar l[k] - 1)).toNat from by omega]
theorem fin_bad (l : List Nd) (k : Nat) (t : Int) (ht : 1 ≤ t) (h : k < l.length) (hx : ar l[k] < 0) : fin k (scan t.toNat (l.drop k)) = -1 := by
  rw [fin_step l k t ht h, if_pos hx]
theorem fin_go (l : List Nd) (k : Nat) (t : Int) (ht : 1 ≤ t) (h : k < l.length) (hx : 0 ≤ ar l[k]) :
    fin k (scan t.toNat (l.drop k)) = fin ((k + 1 : Nat) : Int) (scan (t + (ar l[k] - 1)).toNat (l.drop (k + 1))) := by
  rw [fin_step l k t ht h, if_neg (by omega)]; rfl
theorem fin_stop (l : List Nd) (k : Nat) (t : Int) (ht : 1 ≤ t) (h : k < l.length) (hx : 0 ≤ ar l[k]) (h0 : t + (ar l[k] - 1) ≤ 0) :
    fin k (scan t.toNat (l.drop k)) = k + 1 := by
  rw [fin_step l k t ht h, if_neg (by omega), show (t + (ar l[k] - 1)).toNat = 0 from by omega, scan_zero]
  simp [fin]
theorem endv_neg (l : List Nd) (i : Int) (h : i < 0) : endv l i = -1 := by rw [endv, if_pos h]
theorem endv_nat (l : List Nd) (k : Nat) : endv l k = fin k (scan (1 : Int).toNat (l.drop k)) := by rw [endv, if_neg (by omega)]; rfl

/-- The place of the c-th kid, the first one being at k. -/
def kth (l : List Nd) (k : Int) : Nat → Int
  | 0 => k
  | c + 1 => endv l (kth l k c)
/-- How many kids the node at i has. -/
def arAt (l : List Nd) (i : Int) : Int := match l[i.toNat]? with | some x => ar x | none => 0
/-- The places of a node's kids. -/
def kidsv (l : List Nd) (i : Int) : List Int := if endv l i < 0 then [] else (List.range (arAt l i).toNat).map (kth l (i + 1))

theorem endv_in (l : List Nd) (i : Int) (h : 0 ≤ endv l i) : 0 ≤ i ∧ i.toNat < l.length := by
  by_cases h0 : i < 0
  · rw [endv_neg l i h0] at h; omega
  · refine ⟨by omega, Nat.lt_of_not_le fun hle => ?_⟩
    obtain ⟨k, rfl⟩ := Int.eq_ofNat_of_zero_le (Int.not_lt.1 h0)
    rw [endv_nat, fin_end l k 1 (by omega) (by simpa using hle)] at h
    omega
theorem arAt_in (l : List Nd) (k : Nat) (h : k < l.length) : arAt l k = ar l[k] := by simp [arAt, h]
theorem arAt_bound (l : List Nd) (i : Int) : -1 ≤ arAt l i ∧ arAt l i ≤ 200 := by
  unfold arAt
  split
  · exact ar_bound _
  · omega

/-- What has come when c rounds are over. -/
def upto {α : Type} (f : Nat → α) (c : Nat) : List α := (List.range c).map f
theorem upto_succ {α : Type} (f : Nat → α) (c : Nat) : upto f (c + 1) = upto f c ++ [f c] := by simp [upto, List.range_succ]
theorem upto_length {α : Type} (f : Nat → α) (c : Nat) : (upto f c).length = c := by simp [upto]
theorem kidsv_eq (l : List Nd) (i : Int) (h : 0 ≤ endv l i) : kidsv l i = upto (kth l (i + 1)) (arAt l i).toNat := by rw [kidsv, if_neg (by omega)]; rfl
theorem kidsv_no (l : List Nd) (i : Int) (h : endv l i < 0) : kidsv l i = [] := by rw [kidsv, if_pos h]
theorem endv_bound (l : List Nd) (i : Int) : endv l i = -1 ∨ 0 ≤ endv l i := by
  by_cases h0 : i < 0
  · exact .inl (endv_neg l i h0)
  · rw [endv, if_neg h0]
    cases scan 1 (l.drop i.toNat) with
    | none => exact .inl rfl
    | some c => right; simp only [fin]; omega
theorem endv_ar (l : List Nd) (i : Int) (h : 0 ≤ endv l i) : 0 ≤ arAt l i := by
  obtain ⟨h0, hl⟩ := endv_in l i h
  obtain ⟨k, rfl⟩ := Int.eq_ofNat_of_zero_le h0
  have hk : k < l.length := by simpa using hl
  rw [arAt_in l k hk]
  by_cases hx : ar l[k] < 0
  · rw [endv_nat, fin_bad l k 1 (by omega) hk hx] at h; omega
  · omega
end Go.Proofs.Ytnmgfobpcengkaa
