/-
  The path functions' contracts, in the words of one plain function.
-/
import Derived.Test.YtnmgfobpcengkaaPathLaw
import Derived.Test.YtnmgfobpcengkaaWorks11
import Derived.Test.YtnmgfobpcengkaaRefFind
namespace Go.Proofs.Ytnmgfobpcengkaa
open Go.RowKit

theorem climb_len (l : List Nd) : ∀ (f : Nat) (i : Int) (p : List Int), climb l f i = some p → (p.length : Int) ≤ i ∧ i < l.length
  | 0, i, p, h => by cases h
  | f + 1, i, p, h => by
    by_cases hr : endv l 0 = l.length ∧ 0 ≤ i ∧ i < l.length
    · by_cases h0 : i = 0
      · subst h0
        rw [climb_root l f hr] at h
        cases h
        exact ⟨by simp, hr.2.2⟩
      · rw [climb_step l f i hr h0] at h
        obtain ⟨q, hq, rfl⟩ := Option.map_eq_some_iff.1 h
        have := climb_len l f _ q hq
        have h2 := upV_lt l i i.toNat 0
        refine ⟨?_, hr.2.2⟩
        simp only [List.length_append, List.length_cons, List.length_nil]
        omega
    · rw [climb_no l _ i hr] at h; cases h
theorem ofv_len (l : List Nd) (i : Int) (p : List Int) (h : ofv l i = some p) : p.length ≤ l.length := by
  by_cases hi : -1 ≤ i
  · rw [← climb_ofv l (i + 2).toNat i hi (by omega)] at h
    have := climb_len l _ i p h
    omega
  · by_cases hw : endv l 0 = l.length
    · have := (ofv_some_iff hw i).1 (by rw [h]; rfl)
      omega
    · rw [ofv_no l i hw] at h; cases h

theorem refOf_all (l : List Nd) (v : Value) (hl : l.length ≤ 3000000) (i : Int) (w : World) (hv : NodesAt w v l) :
    Calls Try.prog 15 #[v, .int .i64 i] w fun e w' => ∃ u, e = .returned (.tuple #[u, .bool (ofv l i).isSome]) ∧ IntsAt w' u ((ofv l i).getD []) ∧ Below w.heap.size w w' := by
  by_cases hi : -1 ≤ i
  · have h := refOf_any l v hl (i + 2).toNat i w hi (by omega) hv
    rw [climb_ofv l (i + 2).toNat i hi (by omega)] at h
    exact h.mono fun e w' ⟨u, h1, h2, _, h3⟩ => ⟨u, h1, IntsIn.mono h2 (fun k hk => hk.2), h3⟩
  · have ho : ofv l i = none := by
      by_cases hw : endv l 0 = l.length
      · cases hc : ofv l i with
        | none => rfl
        | some p =>
          have := (ofv_some_iff hw i).1 (by rw [hc]; rfl)
          omega
      · exact ofv_no l i hw
    have h := refOf_no l v (by omega) i w hv (by omega)
    rw [ho]
    exact h.mono fun e w' ⟨h1, h3⟩ => ⟨.slice none 0 0, h1, .inl ⟨none, 0, rfl, rfl, rfl, fun _ => rfl⟩, h3⟩
end Go.Proofs.Ytnmgfobpcengkaa
