/-
  Plain: how deep a node is.
-/
import Derived.Test.YtnmgfobpcengkaaScan
namespace Go.Proofs.Ytnmgfobpcengkaa

/-- How deep the node at i is; f: how deep one looks. -/
def depV : Nat → List Nd → Int → Int
  | 0, _, _ => 0
  | f + 1, l, i => if endv l i < 0 then 0 else (kidsv l i).foldl (fun m k => max m (depV f l k)) 0 + 1
/-- The deepest of some kids. -/
def depTo (f : Nat) (l : List Nd) (ks : List Int) : Int := ks.foldl (fun m k => max m (depV f l k)) 0

theorem depTo_nil (f : Nat) (l : List Nd) : depTo f l [] = 0 := rfl
theorem depTo_snoc (f : Nat) (l : List Nd) (ks : List Int) (x : Int) : depTo f l (ks ++ [x]) = max (depTo f l ks) (depV f l x) := by simp [depTo]
theorem depV_no (f : Nat) (l : List Nd) (i : Int) (h : endv l i < 0) : depV f l i = 0 := by
  cases f with
  | zero => rfl
  | succ f => rw [depV, if_pos h]
theorem depV_yes (f : Nat) (l : List Nd) (i : Int) (h : 0 ≤ endv l i) : depV (f + 1) l i = depTo f l (kidsv l i) + 1 := by
  rw [depV, if_neg (by omega)]; rfl
theorem depV_bound : ∀ (f : Nat) (l : List Nd) (i : Int), 0 ≤ depV f l i ∧ depV f l i ≤ f := by
  intro f
  induction f with
  | zero => intro l i; exact ⟨Int.le_refl _, Int.le_refl _⟩
  | succ f ih =>
    intro l i
    have key : ∀ (ks : List Int) (m : Int), 0 ≤ m → m ≤ f → 0 ≤ ks.foldl (fun m k => max m (depV f l k)) m ∧ ks.foldl (fun m k => max m (depV f l k)) m ≤ f := by
      intro ks
      induction ks with
      | nil => intro m h1 h2; exact ⟨h1, h2⟩
      | cons k ks ihk => intro m h1 h2; have := ih l k; exact ihk _ (by show 0 ≤ max _ _; omega) (by show max _ _ ≤ _; omega)
    by_cases h : endv l i < 0
    · rw [depV_no _ _ _ h]; omega
    · rw [depV, if_neg h]
      have := key (kidsv l i) 0 (by omega) (by omega)
      omega
theorem depTo_bound (f : Nat) (l : List Nd) (ks : List Int) : 0 ≤ depTo f l ks ∧ depTo f l ks ≤ f := by
  have key : ∀ (ks : List Int) (m : Int), 0 ≤ m → m ≤ f → 0 ≤ ks.foldl (fun m k => max m (depV f l k)) m ∧ ks.foldl (fun m k => max m (depV f l k)) m ≤ f := by
    intro ks
    induction ks with
    | nil => intro m h1 h2; exact ⟨h1, h2⟩
    | cons k ks ihk => intro m h1 h2; have := depV_bound f l k; exact ihk _ (by show 0 ≤ max _ _; omega) (by show max _ _ ≤ _; omega)
  exact key ks 0 (by omega) (by omega)
theorem kidsv_mem (l : List Nd) (i : Int) (x : Int) (h : x ∈ kidsv l i) : i < x ∧ 0 ≤ i ∧ x ≤ l.length := by
  obtain ⟨c, hc, rfl⟩ := List.getElem_of_mem h
  exact kidsv_fact l i c hc
end Go.Proofs.Ytnmgfobpcengkaa
