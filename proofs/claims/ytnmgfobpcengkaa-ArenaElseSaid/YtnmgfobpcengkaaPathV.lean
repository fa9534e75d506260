/-
  Plain: the nodes below one, each with its path.
-/
import Derived.Test.YtnmgfobpcengkaaScan
namespace Go.Proofs.Ytnmgfobpcengkaa

/-- The node at i, and all below it, with their paths; f: how deep one looks. -/
def pathsV : Nat → List Nd → Int → List Int → List (Int × List Int)
  | 0, _, i, own => [(i, own)]
  | f + 1, l, i, own => (i, own) :: (kidsv l i).zipIdx.flatMap fun x => pathsV f l x.1 (own ++ [(x.2 : Int)])

/-- The first c kids' parts. -/
def pathsTo (f : Nat) (l : List Nd) (i : Int) (own : List Int) (c : Nat) : List (Int × List Int) := ((kidsv l i).zipIdx.take c).flatMap fun x => pathsV f l x.1 (own ++ [(x.2 : Int)])

theorem pathsTo_zero (f : Nat) (l : List Nd) (i : Int) (own : List Int) : pathsTo f l i own 0 = [] := rfl
theorem pathsTo_succ (f : Nat) (l : List Nd) (i : Int) (own : List Int) (c : Nat) (h : c < (kidsv l i).length) :
    pathsTo f l i own (c + 1) = pathsTo f l i own c ++ pathsV f l (kidsv l i)[c] (own ++ [(c : Int)]) := by
  unfold pathsTo
  rw [List.take_succ_eq_append_getElem (by simpa using h), List.flatMap_append]
  simp
theorem pathsTo_all (f : Nat) (l : List Nd) (i : Int) (own : List Int) : (i, own) :: pathsTo f l i own (kidsv l i).length = pathsV (f + 1) l i own := by
  rw [pathsV, pathsTo, List.take_of_length_le (by simp)]
theorem pathsTo_prefix (f : Nat) (l : List Nd) (i : Int) (own : List Int) (c : Nat) : (i, own) :: pathsTo f l i own c <+: pathsV (f + 1) l i own := by
  rw [pathsV]
  refine List.cons_prefix_cons.2 ⟨rfl, ?_⟩
  unfold pathsTo
  have h := List.take_append_drop c (kidsv l i).zipIdx
  conv => rhs; rw [← h, List.flatMap_append]
  exact List.prefix_append _ _
theorem pathsTo_prefix2 (f : Nat) (l : List Nd) (i : Int) (own : List Int) (c : Nat) (h : c < (kidsv l i).length) (q : List (Int × List Int)) (hq : q <+: pathsV f l (kidsv l i)[c] (own ++ [(c : Int)])) :
    (i, own) :: pathsTo f l i own c ++ q <+: pathsV (f + 1) l i own := by
  refine List.IsPrefix.trans ?_ (pathsTo_prefix f l i own (c + 1))
  rw [pathsTo_succ f l i own c h]
  obtain ⟨r, hr⟩ := hq
  exact ⟨r, by rw [← hr]; simp⟩
theorem pathsV_pos (f : Nat) (l : List Nd) (i : Int) (own : List Int) : 0 < (pathsV f l i own).length := by cases f <;> simp [pathsV]
/-- Beyond the nodes there are none. -/
theorem pathsV_out (f : Nat) (l : List Nd) (i : Int) (own : List Int) (h : (l.length : Int) ≤ i) : pathsV f l i own = [(i, own)] := by
  cases f with
  | zero => rfl
  | succ f =>
    have : kidsv l i = [] := kidsv_no l i (by rcases endv_bound l i with h1 | h1; · omega
                                              · have := (endv_in l i h1).2; omega)
    rw [pathsV, this]; rfl
end Go.Proofs.Ytnmgfobpcengkaa
