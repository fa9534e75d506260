/-
  The reference's Of.
-/
import Derived.Test.YtnmgfobpcengkaaUp
import Derived.Test.YtnmgfobpcengkaaAppend
namespace Go.Proofs.Ytnmgfobpcengkaa
open Go.RowKit

/-- Up from the node at i, at most f times. -/
def climb (l : List Nd) : Nat → Int → Option (List Int)
  | 0, _ => none
  | f + 1, i => if endv l 0 = l.length ∧ 0 ≤ i ∧ i < l.length then (if i = 0 then some [] else (climb l f (upV l i i.toNat 0).1).map (· ++ [(upV l i i.toNat 0).2])) else none
theorem upV_lt (l : List Nd) (t : Int) : ∀ (n i : Nat), (upV l t n i).1 < i + n ∧ -1 ≤ (upV l t n i).1
  | 0, i => by simp only [upV]; omega
  | n + 1, i => by
    have := upV_lt l t n (i + 1)
    rw [upV]
    split
    · simp only []; omega
    · omega
theorem climb_no (l : List Nd) (f : Nat) (i : Int) (h : ¬ (endv l 0 = l.length ∧ 0 ≤ i ∧ i < l.length)) : climb l f i = none := by
  cases f with
  | zero => rfl
  | succ f => rw [climb, if_neg h]
theorem climb_root (l : List Nd) (f : Nat) (h : endv l 0 = l.length ∧ (0 : Int) ≤ 0 ∧ (0 : Int) < l.length) : climb l (f + 1) 0 = some [] := by rw [climb, if_pos h, if_pos rfl]
theorem climb_step (l : List Nd) (f : Nat) (i : Int) (h : endv l 0 = l.length ∧ 0 ≤ i ∧ i < l.length) (h0 : i ≠ 0) : climb l (f + 1) i = (climb l f (upV l i i.toNat 0).1).map (· ++ [(upV l i i.toNat 0).2]) := by rw [climb, if_pos h, if_neg h0]
theorem climb_more (l : List Nd) : ∀ (f : Nat) (i : Int), -1 ≤ i → i + 1 < f → climb l (f + 1) i = climb l f i
  | 0, i, h1, h => by omega
  | f + 1, i, h1, h => by
    by_cases hr : endv l 0 = l.length ∧ 0 ≤ i ∧ i < l.length
    · by_cases h0 : i = 0
      · subst h0; rw [climb_root l _ hr, climb_root l _ hr]
      · have := upV_lt l i i.toNat 0
        rw [climb_step l _ i hr h0, climb_step l _ i hr h0, climb_more l f _ this.2 (by omega)]
    · rw [climb_no l _ i hr, climb_no l _ i hr]
/-- A node's path, by definition. -/
def rofv (l : List Nd) (i : Int) : Option (List Int) := climb l (i.toNat + 2) i

set_option maxHeartbeats 1000000 in
theorem refOf_no (l : List Nd) (v : Value) (hl : l.length ≤ 4000000) (i : Int) (w : World) (hv : NodesAt w v l) (h : ¬ (endv l 0 = l.length ∧ 0 ≤ i ∧ i < l.length)) :
    Calls Try.prog 15 #[v, .int .i64 i] w fun e w' => e = .returned (.tuple #[.slice none 0 0, .bool false]) ∧ Below w.heap.size w w' := by
  obtain ⟨pv, cv, hvs⟩ := hv.slice
  subst hvs
  by_cases hE : endv l 0 = l.length
  · have hE' : (endv l 0 != (l.length : Int)) = false := by simp [hE]
    have hr : ¬ (0 ≤ i ∧ i < l.length) := fun h2 => h ⟨hE, h2⟩
    clear hE h
    by_cases hn : i < 0
    · clear hr
      go_enter Try.func15, Try.ntmps15
      go_wp2_with (go_at_call 35; refine (refEnd_any l _ _ _ hv hl).mono ?_; rintro e w1 ⟨rfl, hb1⟩)
      go_ret2
      exact ⟨rfl, hb1⟩
    · have hn2 : (l.length : Int) ≤ i := by omega
      clear hr
      go_enter Try.func15, Try.ntmps15
      go_wp2_with (go_at_call 35; refine (refEnd_any l _ _ _ hv hl).mono ?_; rintro e w1 ⟨rfl, hb1⟩)
      go_ret2
      exact ⟨rfl, hb1⟩
  · have hE' : (endv l 0 != (l.length : Int)) = true := by simp [hE]
    clear hE h
    go_enter Try.func15, Try.ntmps15
    go_wp2_with (go_at_call 35; refine (refEnd_any l _ _ _ hv hl).mono ?_; rintro e w1 ⟨rfl, hb1⟩)
    go_ret2
    exact ⟨rfl, hb1⟩

set_option maxHeartbeats 4000000 in
theorem refOf_any (l : List Nd) (v : Value) (hl : l.length ≤ 3000000) : ∀ (f : Nat) (i : Int) (w : World), -1 ≤ i → i + 1 < f → NodesAt w v l →
    Calls Try.prog 15 #[v, .int .i64 i] w fun e w' => ∃ u, e = .returned (.tuple #[u, .bool (climb l f i).isSome]) ∧ IntsIn (fun k => w.heap.size ≤ k ∧ k < w'.heap.size) w' u ((climb l f i).getD []) ∧ ((((climb l f i).getD []).length : Int) ≤ i + 1) ∧ Below w.heap.size w w' := by
  obtain ⟨i0, hi0, hz0, hz1, hz2⟩ := info_parts infoInt
  intro f
  induction f with
  | zero => intro i w h1 h2; omega
  | succ f ih =>
    intro i w hi1 hif hv
    by_cases hr : endv l 0 = l.length ∧ 0 ≤ i ∧ i < l.length
    · have hE' : (endv l 0 != (l.length : Int)) = false := by simp [hr.1]
      have hr2 : ¬ i < 0 := by omega
      have hr3 : ¬ (l.length : Int) ≤ i := by omega
      by_cases h0 : i = 0
      · subst h0
        have HC := Lib.hid (climb_root l f hr)
        have hne : ¬ l = [] := by rintro rfl; simp at hr
        have hned : decide (l = []) = false := by simp [hne]
        clear hr
        obtain ⟨pv, cv, hvs⟩ := hv.slice
        subst hvs
        go_enter Try.func15, Try.ntmps15
        go_wp2_with (go_at_call 35; refine (refEnd_any l _ _ _ hv (by omega)).mono ?_; rintro e w1 ⟨rfl, hb1⟩)
        go_ret2
        exact ⟨.slice none 0 0, by rw [HC.out]; rfl, by rw [HC.out]; exact .inl ⟨none, 0, rfl, rfl, rfl, fun _ => rfl⟩, by rw [HC.out]; simp, hb1⟩
      · have h0b : (i == 0) = false := by simp [h0]
        have HC := Lib.hid (climb_step l f i hr h0)
        obtain ⟨t, rfl⟩ := Int.eq_ofNat_of_zero_le hr.2.1
        have htl : t < l.length := by omega
        have hup := upV_lt l t t 0
        clear hr h0
        obtain ⟨pv, cv, hvs⟩ := hv.slice
        subst hvs
        rw [Int.toNat_natCast] at HC
        obtain ⟨x, hx⟩ : ∃ x, (upV l t t 0).1 = x := ⟨_, rfl⟩
        obtain ⟨y, hy⟩ : ∃ y, (upV l t t 0).2 = y := ⟨_, rfl⟩
        have hU := up_any l t (.slice pv l.length cv)
        rw [hx] at hup HC hU
        rw [hy] at HC hU
        clear hx hy
        have HU := Lib.hid hU
        clear hU
        cases hc : climb l f x with
        | none =>
          rw [hc] at HC
          have hih := fun w h => ih x w hup.2 (by omega) h
          rw [hc] at hih
          have HI := Lib.hid hih
          clear hih hc ih
          go_enter Try.func15, Try.ntmps15
          go_wp2_with (first
            | (go_at_call 35; refine (refEnd_any l _ _ _ hv (by omega)).mono ?_; rintro e w1 ⟨rfl, hb1⟩; have hv1 := NodesIn.below hv hb1)
            | (go_at_call 39; refine (HU.out _ hv1 (by omega) (by omega)).mono ?_; rintro e w2 ⟨rfl, hb2⟩; have hv2 := NodesIn.below hv1 hb2)
            | (go_at_call 15; refine (HI.out _ hv2).mono ?_; rintro e w3 ⟨u3, rfl, hu3, hn3, hb3⟩))
          go_ret2
          exact ⟨.slice none 0 0, by rw [HC.out]; rfl, by rw [HC.out]; exact .inl ⟨none, 0, rfl, rfl, rfl, fun _ => rfl⟩, by rw [HC.out]; simp; omega, hb1.trans ((hb2.mono hb1.size).trans (hb3.mono (Nat.le_trans hb1.size hb2.size)))⟩
        | some q =>
          rw [hc] at HC
          have hih := fun w h => ih x w hup.2 (by omega) h
          rw [hc] at hih
          have HI := Lib.hid hih
          clear hih hc ih
          go_enter Try.func15, Try.ntmps15
          go_wp2_with (first
            | (go_at_call 35; refine (refEnd_any l _ _ _ hv (by omega)).mono ?_; rintro e w1 ⟨rfl, hb1⟩; have hv1 := NodesIn.below hv hb1)
            | (go_at_call 39; refine (HU.out _ hv1 (by omega) (by omega)).mono ?_; rintro e w2 ⟨rfl, hb2⟩; have hv2 := NodesIn.below hv1 hb2)
            | (go_at_call 15; refine (HI.out _ hv2).mono ?_; rintro e w3 ⟨u3, rfl, hu3, hn3, hb3⟩; have hs1 := hb1.size; have hs2 := hb2.size; have hs3 := hb3.size; have hu3' := SliceIn.kept hu3 (kept_of (below_alloc1 w3 (.cells #[] 3)) (fun k hk => hk.2)); dsimp only [Option.getD_some] at hu3' hn3)
            | (at_builtin; refine wpList_append_in rfl (.tmp 41) (.tmp 42) 23 rfl w.heap.size 3 i0 (.int .i64 0) 1 8 Try.underlying23 hi0 hz0 hz1 hz2 rfl (by decide) _ _ _ rfl (ownsRow_empty w3 w.heap.size 3 1 (by omega)) _ q.length _ rfl hu3' (by simp) (ints_one q) (by unfold maxLen; omega) (by omega) (by simp; omega) ?_; intro v4 w4 hown4 hgrow4; have hs4 := hgrow4.size; rw [World.size_alloc] at hs4)
            | (at_builtin; refine wpList_append_in rfl (.tmp 43) (.tmp 45) 23 rfl w.heap.size 3 i0 (.int .i64 0) 1 8 Try.underlying23 hi0 hz0 hz1 hz2 rfl (by decide) _ _ _ rfl (hown4.alloc _) _ 1 [.int .i64 y] rfl (sliceIn_one w4 (.int .i64 y) 3) (by simp) (by simp [Value.oneCell']) (by unfold maxLen; omega) (by omega) (by simp; omega) ?_; intro v5 w5 hown5 hgrow5))
          go_ret2
          have hown5' : w5.ownsRow w.heap.size 3 1 v5 (q ++ [y]).length ((q ++ [y]).map (Value.int .i64)) := by simpa using hown5
          have hB3 : Below w.heap.size w w3 := hb1.trans ((hb2.mono hs1).trans (hb3.mono (Nat.le_trans hs1 hs2)))
          have hB4 : Below w.heap.size w w4 := (hB3.alloc (by omega) _).grown hgrow4 (by simp; omega) (fun j hj => ((ownsRow_empty w3 w.heap.size 3 1 (by omega)).lt j hj).1)
          have hB5 : Below w.heap.size w w5 := (hB4.alloc (by omega) _).grown hgrow5 (by simp; omega) (fun j hj => (hown4.lt j hj).1)
          exact ⟨v5, by rw [HC.out]; rfl, by rw [HC.out]; exact ownsRow_ints hown5', by rw [HC.out]; simp; omega, hB5⟩
    · have HC := Lib.hid (climb_no l (f + 1) i hr)
      refine (refOf_no l v (by omega) i w hv hr).mono ?_
      rintro e w' ⟨rfl, hb⟩
      exact ⟨.slice none 0 0, by rw [HC.out]; rfl, by rw [HC.out]; exact .inl ⟨none, 0, rfl, rfl, rfl, fun _ => rfl⟩, by rw [HC.out]; simp; omega, hb⟩
end Go.Proofs.Ytnmgfobpcengkaa
