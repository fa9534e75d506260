/-
  What the functions of chapter 8 give, as a table.
-/
import Derived.Test.YtnmgfobpcengkaaHDenKit
import Derived.Test.YtnmgfobpcengkaaCheck
import Derived.Test.YtnmgfobpcengkaaPart
import Derived.Test.YtnmgfobpcengkaaRefKids
import Derived.Test.YtnmgfobpcengkaaKidsAny
import Derived.Test.YtnmgfobpcengkaaIntsP
namespace Go.Proofs.Ytnmgfobpcengkaa
open Go.RowKit
set_option linter.unusedVariables false

def F_Arity : List D → Option D
  | [x0] => (asNd x0).bind fun x => some (iD (ar x))
  | _ => none

theorem C_Arity : CallOk Try.prog 25 F_Arity := by
  refine ⟨⟨_, Try.func25, by decide, rfl⟩, fun ds d hF S vs W hS hv => ?_⟩
  unfold F_Arity at hF
  split at hF
  · rename_i x0
    rcases hd0 : asNd x0 with _ | x
    · rw [hd0] at hF; cases hF
    rw [hd0, Option.bind_some] at hF
    cases hF
    simp only [RepA] at hv
    obtain ⟨v_x, t0, rfl, r0, rfl⟩ := hv
    obtain rfl := asNd_ok hd0 r0
    refine (Arity_any x W).mono ?_
    rintro e w1 ⟨rfl, hb⟩
    exact ⟨_, rfl, by simp only [Rep], hb⟩
  · cases hF

def F_RefArity : List D → Option D
  | [x0] => (asNd x0).bind fun x => some (iD (ar x))
  | _ => none

theorem C_RefArity : CallOk Try.prog 26 F_RefArity := by
  refine ⟨⟨_, Try.func26, by decide, rfl⟩, fun ds d hF S vs W hS hv => ?_⟩
  unfold F_RefArity at hF
  split at hF
  · rename_i x0
    rcases hd0 : asNd x0 with _ | x
    · rw [hd0] at hF; cases hF
    rw [hd0, Option.bind_some] at hF
    cases hF
    simp only [RepA] at hv
    obtain ⟨v_x, t0, rfl, r0, rfl⟩ := hv
    obtain rfl := asNd_ok hd0 r0
    refine (refArity_any x W).mono ?_
    rintro e w1 ⟨rfl, hb⟩
    exact ⟨_, rfl, by simp only [Rep], hb⟩
  · cases hF

def F_End : List D → Option D
  | [x0, x1] => (asNodes x0).bind fun l => (asInt x1).bind fun i => if l.length ≤ 3000000 then some (iD (endv l i)) else none
  | _ => none

theorem C_End : CallOk Try.prog 19 F_End := by
  refine ⟨⟨_, Try.func19, by decide, rfl⟩, fun ds d hF S vs W hS hv => ?_⟩
  unfold F_End at hF
  split at hF
  · rename_i x0 x1
    rcases hd0 : asNodes x0 with _ | l
    · rw [hd0] at hF; cases hF
    rw [hd0, Option.bind_some] at hF
    rcases hd1 : asInt x1 with _ | i
    · rw [hd1] at hF; cases hF
    rw [hd1, Option.bind_some] at hF
    split at hF
    rotate_left
    · cases hF
    rename_i G
    cases hF
    simp only [RepA] at hv
    obtain ⟨v_l, t0, rfl, r0, ⟨v_i, t1, rfl, r1, rfl⟩⟩ := hv
    have h_l := (asNodes_ok hd0 r0).mono hS
    obtain rfl := asInt_ok hd1 r1
    refine (End_any l i v_l W h_l (by omega)).mono ?_
    rintro e w1 ⟨rfl, hb⟩
    exact ⟨_, rfl, by simp only [Rep], hb⟩
  · cases hF

def F_RefEnd : List D → Option D
  | [x0, x1] => (asNodes x0).bind fun l => (asInt x1).bind fun i => if l.length ≤ 3000000 then some (iD (endv l i)) else none
  | _ => none

theorem C_RefEnd : CallOk Try.prog 35 F_RefEnd := by
  refine ⟨⟨_, Try.func35, by decide, rfl⟩, fun ds d hF S vs W hS hv => ?_⟩
  unfold F_RefEnd at hF
  split at hF
  · rename_i x0 x1
    rcases hd0 : asNodes x0 with _ | l
    · rw [hd0] at hF; cases hF
    rw [hd0, Option.bind_some] at hF
    rcases hd1 : asInt x1 with _ | i
    · rw [hd1] at hF; cases hF
    rw [hd1, Option.bind_some] at hF
    split at hF
    rotate_left
    · cases hF
    rename_i G
    cases hF
    simp only [RepA] at hv
    obtain ⟨v_l, t0, rfl, r0, ⟨v_i, t1, rfl, r1, rfl⟩⟩ := hv
    have h_l := (asNodes_ok hd0 r0).mono hS
    obtain rfl := asInt_ok hd1 r1
    refine (refEnd_any l i v_l W h_l (by omega)).mono ?_
    rintro e w1 ⟨rfl, hb⟩
    exact ⟨_, rfl, by simp only [Rep], hb⟩
  · cases hF

def F_Kids : List D → Option D
  | [x0, x1] => (asNodes x0).bind fun l => (asInt x1).bind fun i => if l.length ≤ 3000000 then some (intsD (kidsv l i)) else none
  | _ => none

theorem C_Kids : CallOk Try.prog 22 F_Kids := by
  refine ⟨⟨_, Try.func22, by decide, rfl⟩, fun ds d hF S vs W hS hv => ?_⟩
  unfold F_Kids at hF
  split at hF
  · rename_i x0 x1
    rcases hd0 : asNodes x0 with _ | l
    · rw [hd0] at hF; cases hF
    rw [hd0, Option.bind_some] at hF
    rcases hd1 : asInt x1 with _ | i
    · rw [hd1] at hF; cases hF
    rw [hd1, Option.bind_some] at hF
    split at hF
    rotate_left
    · cases hF
    rename_i G
    cases hF
    simp only [RepA] at hv
    obtain ⟨v_l, t0, rfl, r0, ⟨v_i, t1, rfl, r1, rfl⟩⟩ := hv
    have h_l := (asNodes_ok hd0 r0).mono hS
    obtain rfl := asInt_ok hd1 r1
    refine (Kids_any l i v_l W h_l (by omega)).mono ?_
    rintro e w1 ⟨u, rfl, hu, hb⟩
    exact ⟨u, rfl, intsD_rep (IntsIn.mono hu (fun k hk => .inr hk)), hb⟩
  · cases hF

def F_RefKids : List D → Option D
  | [x0, x1] => (asNodes x0).bind fun l => (asInt x1).bind fun i => if l.length ≤ 3000000 then some (intsD (kidsv l i)) else none
  | _ => none

theorem C_RefKids : CallOk Try.prog 30 F_RefKids := by
  refine ⟨⟨_, Try.func30, by decide, rfl⟩, fun ds d hF S vs W hS hv => ?_⟩
  unfold F_RefKids at hF
  split at hF
  · rename_i x0 x1
    rcases hd0 : asNodes x0 with _ | l
    · rw [hd0] at hF; cases hF
    rw [hd0, Option.bind_some] at hF
    rcases hd1 : asInt x1 with _ | i
    · rw [hd1] at hF; cases hF
    rw [hd1, Option.bind_some] at hF
    split at hF
    rotate_left
    · cases hF
    rename_i G
    cases hF
    simp only [RepA] at hv
    obtain ⟨v_l, t0, rfl, r0, ⟨v_i, t1, rfl, r1, rfl⟩⟩ := hv
    have h_l := (asNodes_ok hd0 r0).mono hS
    obtain rfl := asInt_ok hd1 r1
    refine (refKids_any l i v_l W h_l (by omega)).mono ?_
    rintro e w1 ⟨u, rfl, hu, hb⟩
    exact ⟨u, rfl, intsD_rep (IntsIn.mono hu (fun k hk => .inr hk)), hb⟩
  · cases hF

def F_Depth : List D → Option D
  | [x0, x1] => (asNodes x0).bind fun l => (asInt x1).bind fun i => if l.length ≤ 3000000 then some (iD (depV l.length l i)) else none
  | _ => none

theorem C_Depth : CallOk Try.prog 36 F_Depth := by
  refine ⟨⟨_, Try.func36, by decide, rfl⟩, fun ds d hF S vs W hS hv => ?_⟩
  unfold F_Depth at hF
  split at hF
  · rename_i x0 x1
    rcases hd0 : asNodes x0 with _ | l
    · rw [hd0] at hF; cases hF
    rw [hd0, Option.bind_some] at hF
    rcases hd1 : asInt x1 with _ | i
    · rw [hd1] at hF; cases hF
    rw [hd1, Option.bind_some] at hF
    split at hF
    rotate_left
    · cases hF
    rename_i G
    cases hF
    simp only [RepA] at hv
    obtain ⟨v_l, t0, rfl, r0, ⟨v_i, t1, rfl, r1, rfl⟩⟩ := hv
    have h_l := (asNodes_ok hd0 r0).mono hS
    obtain rfl := asInt_ok hd1 r1
    refine (Depth_any l (by omega) l.length i v_l W (by omega) (by omega) h_l).mono ?_
    rintro e w1 ⟨rfl, hb⟩
    exact ⟨_, rfl, by simp only [Rep], hb⟩
  · cases hF

def F_Part : List D → Option D
  | [x0, x1] => (asNodes x0).bind fun l => (asInt x1).bind fun i => if l.length ≤ 3000000 then some (nodesD (partV l i)) else none
  | _ => none

theorem C_Part : CallOk Try.prog 31 F_Part := by
  refine ⟨⟨_, Try.func31, by decide, rfl⟩, fun ds d hF S vs W hS hv => ?_⟩
  unfold F_Part at hF
  split at hF
  · rename_i x0 x1
    rcases hd0 : asNodes x0 with _ | l
    · rw [hd0] at hF; cases hF
    rw [hd0, Option.bind_some] at hF
    rcases hd1 : asInt x1 with _ | i
    · rw [hd1] at hF; cases hF
    rw [hd1, Option.bind_some] at hF
    split at hF
    rotate_left
    · cases hF
    rename_i G
    cases hF
    simp only [RepA] at hv
    obtain ⟨v_l, t0, rfl, r0, ⟨v_i, t1, rfl, r1, rfl⟩⟩ := hv
    have h_l := (asNodes_ok hd0 r0).mono hS
    obtain rfl := asInt_ok hd1 r1
    refine (Part_any l i v_l W h_l (by omega)).mono ?_
    rintro e w1 ⟨u, rfl, hu, hb⟩
    exact ⟨u, rfl, nodesD_rep (NodesIn.mono hu (fun k hk => .inr hk)), hb⟩
  · cases hF

def F_Replace : List D → Option D
  | [x0, x1, x2] => (asNodes x0).bind fun l => (asInt x1).bind fun i => (asNodes x2).bind fun r => if l.length ≤ 3000000 ∧ r.length ≤ 3000000 then some (nodesD (replV l i r)) else none
  | _ => none

theorem C_Replace : CallOk Try.prog 33 F_Replace := by
  refine ⟨⟨_, Try.func33, by decide, rfl⟩, fun ds d hF S vs W hS hv => ?_⟩
  unfold F_Replace at hF
  split at hF
  · rename_i x0 x1 x2
    rcases hd0 : asNodes x0 with _ | l
    · rw [hd0] at hF; cases hF
    rw [hd0, Option.bind_some] at hF
    rcases hd1 : asInt x1 with _ | i
    · rw [hd1] at hF; cases hF
    rw [hd1, Option.bind_some] at hF
    rcases hd2 : asNodes x2 with _ | r
    · rw [hd2] at hF; cases hF
    rw [hd2, Option.bind_some] at hF
    split at hF
    rotate_left
    · cases hF
    rename_i G
    cases hF
    simp only [RepA] at hv
    obtain ⟨v_l, t0, rfl, r0, ⟨v_i, t1, rfl, r1, ⟨v_r, t2, rfl, r2, rfl⟩⟩⟩ := hv
    have h_l := (asNodes_ok hd0 r0).mono hS
    obtain rfl := asInt_ok hd1 r1
    have h_r := (asNodes_ok hd2 r2).mono hS
    refine (Replace_any l r i v_l v_r W h_l h_r (by omega) (by omega)).mono ?_
    rintro e w1 ⟨u, rfl, hu, hb⟩
    exact ⟨u, rfl, nodesD_rep (NodesIn.mono hu (fun k hk => .inr hk)), hb⟩
  · cases hF

def F_Check : List D → Option D
  | [x0] => (asNodes x0).bind fun l => if l.length ≤ 3000000 then some (iD (checkV l)) else none
  | _ => none

theorem C_Check : CallOk Try.prog 27 F_Check := by
  refine ⟨⟨_, Try.func27, by decide, rfl⟩, fun ds d hF S vs W hS hv => ?_⟩
  unfold F_Check at hF
  split at hF
  · rename_i x0
    rcases hd0 : asNodes x0 with _ | l
    · rw [hd0] at hF; cases hF
    rw [hd0, Option.bind_some] at hF
    split at hF
    rotate_left
    · cases hF
    rename_i G
    cases hF
    simp only [RepA] at hv
    obtain ⟨v_l, t0, rfl, r0, rfl⟩ := hv
    have h_l := (asNodes_ok hd0 r0).mono hS
    refine (Check_any l v_l W h_l (by omega)).mono ?_
    rintro e w1 ⟨rfl, hb⟩
    exact ⟨_, rfl, by simp only [Rep], hb⟩
  · cases hF

def F_RefCheck : List D → Option D
  | [x0] => (asNodes x0).bind fun l => if l.length ≤ 3000000 then some (iD (checkV l)) else none
  | _ => none

theorem C_RefCheck : CallOk Try.prog 28 F_RefCheck := by
  refine ⟨⟨_, Try.func28, by decide, rfl⟩, fun ds d hF S vs W hS hv => ?_⟩
  unfold F_RefCheck at hF
  split at hF
  · rename_i x0
    rcases hd0 : asNodes x0 with _ | l
    · rw [hd0] at hF; cases hF
    rw [hd0, Option.bind_some] at hF
    split at hF
    rotate_left
    · cases hF
    rename_i G
    cases hF
    simp only [RepA] at hv
    obtain ⟨v_l, t0, rfl, r0, rfl⟩ := hv
    have h_l := (asNodes_ok hd0 r0).mono hS
    refine (refCheck_any l v_l W h_l (by omega)).mono ?_
    rintro e w1 ⟨rfl, hb⟩
    exact ⟨_, rfl, by simp only [Rep], hb⟩
  · cases hF

def F_RefSame : List D → Option D
  | [x0, x1] => (asNodes x0).bind fun a => (asNodes x1).bind fun b => if a.length ≤ 3000000 ∧ b.length ≤ 3000000 then some (bD (decide (a = b))) else none
  | _ => none

theorem C_RefSame : CallOk Try.prog 24 F_RefSame := by
  refine ⟨⟨_, Try.func24, by decide, rfl⟩, fun ds d hF S vs W hS hv => ?_⟩
  unfold F_RefSame at hF
  split at hF
  · rename_i x0 x1
    rcases hd0 : asNodes x0 with _ | a
    · rw [hd0] at hF; cases hF
    rw [hd0, Option.bind_some] at hF
    rcases hd1 : asNodes x1 with _ | b
    · rw [hd1] at hF; cases hF
    rw [hd1, Option.bind_some] at hF
    split at hF
    rotate_left
    · cases hF
    rename_i G
    cases hF
    simp only [RepA] at hv
    obtain ⟨v_a, t0, rfl, r0, ⟨v_b, t1, rfl, r1, rfl⟩⟩ := hv
    have h_a := (asNodes_ok hd0 r0).mono hS
    have h_b := (asNodes_ok hd1 r1).mono hS
    refine (refSame_any a b v_a v_b W h_a h_b (by omega) (by omega)).mono ?_
    rintro e w1 ⟨rfl, hb⟩
    exact ⟨_, rfl, by simp only [Rep], hb⟩
  · cases hF

def F_RefInts : List D → Option D
  | [x0, x1] => (asInts x0).bind fun a => (asInts x1).bind fun b => if a.length ≤ 3000000 ∧ b.length ≤ 3000000 then some (bD (decide (a = b))) else none
  | _ => none

theorem C_RefInts : CallOk Try.prog 16 F_RefInts := by
  refine ⟨⟨_, Try.func16, by decide, rfl⟩, fun ds d hF S vs W hS hv => ?_⟩
  unfold F_RefInts at hF
  split at hF
  · rename_i x0 x1
    rcases hd0 : asInts x0 with _ | a
    · rw [hd0] at hF; cases hF
    rw [hd0, Option.bind_some] at hF
    rcases hd1 : asInts x1 with _ | b
    · rw [hd1] at hF; cases hF
    rw [hd1, Option.bind_some] at hF
    split at hF
    rotate_left
    · cases hF
    rename_i G
    cases hF
    simp only [RepA] at hv
    obtain ⟨v_a, t0, rfl, r0, ⟨v_b, t1, rfl, r1, rfl⟩⟩ := hv
    have h_a := (asInts_ok hd0 r0).mono hS
    have h_b := (asInts_ok hd1 r1).mono hS
    refine (Ints_any a b v_a v_b W h_a h_b (by omega) (by omega)).mono ?_
    rintro e w1 ⟨rfl, hb⟩
    exact ⟨_, rfl, by simp only [Rep], hb⟩
  · cases hF

def F_EqualNodes : List D → Option D
  | [x0, x1] => (asNodes x0).bind fun a => (asNodes x1).bind fun b => if a.length ≤ 3000000 ∧ b.length ≤ 3000000 then some (bD (decide (a = b))) else none
  | _ => none

theorem C_EqualNodes : CallOk Try.prog 45 F_EqualNodes := by
  refine ⟨⟨_, Try.func45, by decide, rfl⟩, fun ds d hF S vs W hS hv => ?_⟩
  unfold F_EqualNodes at hF
  split at hF
  · rename_i x0 x1
    rcases hd0 : asNodes x0 with _ | a
    · rw [hd0] at hF; cases hF
    rw [hd0, Option.bind_some] at hF
    rcases hd1 : asNodes x1 with _ | b
    · rw [hd1] at hF; cases hF
    rw [hd1, Option.bind_some] at hF
    split at hF
    rotate_left
    · cases hF
    rename_i G
    cases hF
    simp only [RepA] at hv
    obtain ⟨v_a, t0, rfl, r0, ⟨v_b, t1, rfl, r1, rfl⟩⟩ := hv
    have h_a := (asNodes_ok hd0 r0).mono hS
    have h_b := (asNodes_ok hd1 r1).mono hS
    refine (equal_any a b v_a v_b W h_a h_b (by omega) (by omega)).mono ?_
    rintro e w1 ⟨rfl, hb⟩
    exact ⟨_, rfl, by simp only [Rep], hb⟩
  · cases hF

theorem lift_entry {f : FuncId} {F : List D → Option D} (h : CallOk Try.prog f F) : HCallOk Try.prog f (liftF F) ∧ (true = true → CalmOk (liftF F)) := ⟨lift_ok h, fun _ => lift_calm F⟩
def fs08 : List (FuncId × Bool × (List D → Heap → Option (D × Heap))) := [(25, true, liftF F_Arity), (26, true, liftF F_RefArity), (19, true, liftF F_End), (35, true, liftF F_RefEnd), (22, true, liftF F_Kids), (30, true, liftF F_RefKids), (36, true, liftF F_Depth), (31, true, liftF F_Part), (33, true, liftF F_Replace), (27, true, liftF F_Check), (28, true, liftF F_RefCheck), (24, true, liftF F_RefSame), (16, true, liftF F_RefInts), (45, true, liftF F_EqualNodes)]
def T08 : Tab := ⟨fs08, noYl⟩
theorem fs08_ok : ∀ p ∈ fs08, HCallOk Try.prog p.1 p.2.2 ∧ (p.2.1 = true → CalmOk p.2.2) := by
  intro p hp
  simp only [fs08, List.mem_cons, List.not_mem_nil, or_false] at hp
  rcases hp with rfl | rfl | rfl | rfl | rfl | rfl | rfl | rfl | rfl | rfl | rfl | rfl | rfl | rfl
  · exact lift_entry C_Arity
  · exact lift_entry C_RefArity
  · exact lift_entry C_End
  · exact lift_entry C_RefEnd
  · exact lift_entry C_Kids
  · exact lift_entry C_RefKids
  · exact lift_entry C_Depth
  · exact lift_entry C_Part
  · exact lift_entry C_Replace
  · exact lift_entry C_Check
  · exact lift_entry C_RefCheck
  · exact lift_entry C_RefSame
  · exact lift_entry C_RefInts
  · exact lift_entry C_EqualNodes
theorem T08_ok : TabOk Try.prog T08 := ⟨fs08_ok, noYl_ok _⟩
end Go.Proofs.Ytnmgfobpcengkaa
