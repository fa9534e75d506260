/-
  Chapter 8: the table of the laws.
-/
import Derived.Test.YtnmgfobpcengkaaSh08s
import Derived.Test.YtnmgfobpcengkaaHDenFresh
namespace Go.Proofs.Ytnmgfobpcengkaa
open Go.RowKit
set_option linter.unusedVariables false
set_option linter.unusedSimpArgs false
set_option maxRecDepth 100000

theorem mixed : Try.prog.follows .mixedOrders = true := by kernel_rfl
theorem equalNodes_pure (a b : List Nd) (H : Heap) (ha : a.length ≤ 3000000) (hb : b.length ≤ 3000000) : liftF F_EqualNodes [nodesD a, nodesD b] H = some (bD (decide (a = b)), H) := by
  rw [liftF_pure _ _ _ rfl]; simp [F_EqualNodes, ha, hb]
def F_ArenaSame : List D → Option D := F2 nodesT nodesT fun a b => if a.length ≤ 3000000 ∧ b.length ≤ 3000000 then some (bD (decide (a = b))) else none
theorem C_ArenaSame : CallOk Try.prog 29 F_ArenaSame := call2 (kp := kp_arena_Same) T08_ok mixed Try.func29 (by kernel_rfl) (by decide) fun a b d h => by
  split at h
  case isFalse => cases h
  rename_i hf
  cases h
  refine ⟨0, _, ?_, Imp.refl _⟩
  show outD (textK _ _ _ _ _ [nodesD a, nodesD b] []) = _
  rw [sh_arena_Same]
  simp [equalNodes_pure a b _ hf.1 hf.2]
theorem N_Part : CallNew Try.prog 31 F_Part := by
  refine ⟨⟨_, Try.func31, by decide, rfl⟩, fun ds d hF S vs W hS hv => ?_⟩
  unfold F_Part at hF
  split at hF
  · rename_i x0 x1
    rcases hd0 : asNodes x0 with _ | l
    · rw [hd0] at hF; cases hF
    rw [hd0, Option.bind_some] at hF
    rcases hd1 : asInt x1 with _ | i
    · rw [hd1] at hF; cases hF
    rw [hd1, Option.bind_some] at hF
    split at hF
    rotate_left
    · cases hF
    rename_i G
    cases hF
    simp only [RepA] at hv
    obtain ⟨v_l, t0, rfl, r0, ⟨v_i, t1, rfl, r1, rfl⟩⟩ := hv
    have h_l := (asNodes_ok hd0 r0).mono hS
    obtain rfl := asInt_ok hd1 r1
    refine (Part_any l i v_l W h_l (by omega)).mono ?_
    rintro e w1 ⟨u, rfl, hu, hb⟩
    exact ⟨u, rfl, nodesD_rep hu, hb⟩
  · cases hF

theorem N_Kids : CallNew Try.prog 22 F_Kids := by
  refine ⟨⟨_, Try.func22, by decide, rfl⟩, fun ds d hF S vs W hS hv => ?_⟩
  unfold F_Kids at hF
  split at hF
  · rename_i x0 x1
    rcases hd0 : asNodes x0 with _ | l
    · rw [hd0] at hF; cases hF
    rw [hd0, Option.bind_some] at hF
    rcases hd1 : asInt x1 with _ | i
    · rw [hd1] at hF; cases hF
    rw [hd1, Option.bind_some] at hF
    split at hF
    rotate_left
    · cases hF
    rename_i G
    cases hF
    simp only [RepA] at hv
    obtain ⟨v_l, t0, rfl, r0, ⟨v_i, t1, rfl, r1, rfl⟩⟩ := hv
    have h_l := (asNodes_ok hd0 r0).mono hS
    obtain rfl := asInt_ok hd1 r1
    refine (Kids_any l i v_l W h_l (by omega)).mono ?_
    rintro e w1 ⟨u, rfl, hu, hb⟩
    exact ⟨u, rfl, intsD_rep hu, hb⟩
  · cases hF
theorem N_Replace : CallNew Try.prog 33 F_Replace := by
  refine ⟨⟨_, Try.func33, by decide, rfl⟩, fun ds d hF S vs W hS hv => ?_⟩
  unfold F_Replace at hF
  split at hF
  · rename_i x0 x1 x2
    rcases hd0 : asNodes x0 with _ | l
    · rw [hd0] at hF; cases hF
    rw [hd0, Option.bind_some] at hF
    rcases hd1 : asInt x1 with _ | i
    · rw [hd1] at hF; cases hF
    rw [hd1, Option.bind_some] at hF
    rcases hd2 : asNodes x2 with _ | r
    · rw [hd2] at hF; cases hF
    rw [hd2, Option.bind_some] at hF
    split at hF
    rotate_left
    · cases hF
    rename_i G
    cases hF
    simp only [RepA] at hv
    obtain ⟨v_l, t0, rfl, r0, ⟨v_i, t1, rfl, r1, ⟨v_r, t2, rfl, r2, rfl⟩⟩⟩ := hv
    have h_l := (asNodes_ok hd0 r0).mono hS
    obtain rfl := asInt_ok hd1 r1
    have h_r := (asNodes_ok hd2 r2).mono hS
    refine (Replace_any l r i v_l v_r W h_l h_r (by omega) (by omega)).mono ?_
    rintro e w1 ⟨u, rfl, hu, hb⟩
    exact ⟨u, rfl, nodesD_rep hu, hb⟩
  · cases hF
def fs08s : List Entry := (22, true, liftN F_Kids) :: (31, true, liftN F_Part) :: (33, true, liftN F_Replace) :: (29, true, liftF F_ArenaSame) :: fs08
theorem fs08s_ok : ∀ p ∈ fs08s, EntryOk Try.prog p := entries_cons (entry_new N_Kids) (entries_cons (entry_new N_Part) (entries_cons (entry_new N_Replace) (entries_cons (entry_lift C_ArenaSame) fs08_ok)))
def T08s : Tab := ⟨fs08s, noYl⟩
theorem T08s_ok : TabOk Try.prog T08s := tabOk_of fs08s_ok
def F_true08 : List D → Option D := F0 (some (bD true))
theorem works08 : outD (textK Try.prog T08s [] 20 Try.f23 [] []) = some (bD true) := by kernel_rfl
theorem C_works08 : CallOk Try.prog 23 F_true08 := call0 (kp := []) T08s_ok mixed Try.func23 (by kernel_rfl) (by decide) fun d h => by
  cases h
  exact ⟨20, _, works08, Imp.refl _⟩
def fsL08 : List Entry := (23, true, liftF F_true08) :: fs08s
theorem fsL08_ok : ∀ p ∈ fsL08, EntryOk Try.prog p := entries_cons (entry_lift C_works08) fs08s_ok
def L08 : Tab := ⟨fsL08, noYl⟩
theorem L08_ok : TabOk Try.prog L08 := tabOk_of fsL08_ok
end Go.Proofs.Ytnmgfobpcengkaa
