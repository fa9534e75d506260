/-
  Parts joined into one text: HDenSimp, ArenaA, ArenaB, Kids. No condition.
-/
import Derived.IntWalk
import Derived.Test.YtbnmkdlmalobaaaProg
import Derived.BigQuiet
import Derived.Deep.QuietTactic
import Derived.RangeFuncNested
import Derived.RangeFuncBound
import Derived.RangeFuncCalls
import Derived.RangeFuncLeaves
import Derived.RangeFuncBox
import Derived.Shelf.Abstract
import Derived.Shelf.RegionOpen
import Derived.OwnWalkIn
import Derived.TacticsInMore
import Derived.LoopNIn
import Derived.LoopIn
import Derived.Maps.AppendAt
import Derived.Test.YtbnmkdlmalobaaaVa
import Derived.Test.YtbnmkdlmalobaaaVh

section
namespace Go.Proofs.Ytbnmkdlmalobaaa
open Go.RowKit
set_option linter.unusedVariables false
set_option linter.unusedSimpArgs false

section
variable {α : Type}
/- What comes behind is looked at when it is come to. -/
@[congr] theorem thn_congr {o o' : Option D} (k : D → Option α) (h : o = o') : thn o k = thn o' k := by rw [h]
@[congr] theorem thnH_congr {o o' : Option (D × Heap)} (k : D → Heap → Option α) (h : o = o') : thnH o k = thnH o' k := by rw [h]
@[congr] theorem condK_congr {d d' : D} (x y : Option α) (h : d = d') : condK d x y = condK d' x y := by rw [h]
@[congr] theorem leaveK_congr {r r' : Option (Lv × List D × Heap)} (x : Nat → List D → Heap → Option α) (y : List D → Heap → Option α) (h : r = r') : leaveK r x y = leaveK r' x y := by rw [h]
@[congr] theorem leaveR3_congr {r r' : Option (Lv × Heap)} (x : Heap → Option α) (y : Nat → Heap → Option α) (z : Heap → Option α) (h : r = r') : leaveR3 r x y z = leaveR3 r' x y z := by rw [h]
@[simp] theorem thn_some (d : D) (k : D → Option α) : thn (some d) k = k d := by cases d <;> rfl
@[simp] theorem thn_none (k : D → Option α) : thn none k = none := rfl
@[simp] theorem thn_if (c : Prop) [Decidable c] (x y : Option D) (k : D → Option α) : thn (if c then x else y) k = if c then thn x k else thn y k := by split <;> rfl
@[simp] theorem thnH_some (r : D × Heap) (k : D → Heap → Option α) : thnH (some r) k = k r.1 r.2 := by cases r; rfl
@[simp] theorem thnH_none (k : D → Heap → Option α) : thnH none k = none := rfl
@[simp] theorem thnH_if (c : Prop) [Decidable c] (x y : Option (D × Heap)) (k : D → Heap → Option α) : thnH (if c then x else y) k = if c then thnH x k else thnH y k := by split <;> rfl
@[simp] theorem condK_bool (b : Bool) (x y : Option α) : condK (.v (.bool b)) x y = if b = true then x else y := by cases b <;> rfl
@[simp] theorem condN_same (j : Nat) (x y : Option α) : condN j j x y = x := by simp [condN]
@[simp] theorem leaveK_exit (j : Nat) (s : List D) (H : Heap) (x : Nat → List D → Heap → Option α) (y : List D → Heap → Option α) : leaveK (some (.exit j, s, H)) x y = x j s H := by cases s <;> rfl
@[simp] theorem leaveK_ret (s : List D) (H : Heap) (x : Nat → List D → Heap → Option α) (y : List D → Heap → Option α) : leaveK (some (.ret, s, H)) x y = y s H := by cases s <;> rfl
@[simp] theorem leaveR3_normal (H : Heap) (x : Heap → Option α) (y : Nat → Heap → Option α) (z : Heap → Option α) : leaveR3 (some (.normal, H)) x y z = x H := by cases H <;> rfl
@[simp] theorem leaveR3_exit (j : Nat) (H : Heap) (x : Heap → Option α) (y : Nat → Heap → Option α) (z : Heap → Option α) : leaveR3 (some (.exit j, H)) x y z = y j H := by cases H <;> rfl
@[simp] theorem leaveR3_ret (H : Heap) (x : Heap → Option α) (y : Nat → Heap → Option α) (z : Heap → Option α) : leaveR3 (some (.ret, H)) x y z = z H := by cases H <;> rfl
end
theorem getD_in {α : Type} (l : List α) (i : Nat) (d : α) (h : i < l.length) : l.getD i d = l[i] := by simp [h]
theorem cast0 : ((0 : Nat) : Int) = 0 := rfl
theorem iterS_zero (step : List D → Heap → Option (Lv × List D × Heap)) (s : List D) (H : Heap) : iterS step 0 s H = none := rfl
theorem iterS_go {step : List D → Heap → Option (Lv × List D × Heap)} {m : Nat} {s s' : List D} {H H' : Heap} (h : step s H = some (.normal, s', H')) : iterS step (m + 1) s H = iterS step m s' H' := by simp only [iterS, h]
theorem iterS_exit {step : List D → Heap → Option (Lv × List D × Heap)} {m j : Nat} {s s' : List D} {H H' : Heap} (h : step s H = some (.exit j, s', H')) : iterS step (m + 1) s H = some (.exit j, s', H') := by simp only [iterS, h]
theorem iterS_ret {step : List D → Heap → Option (Lv × List D × Heap)} {m : Nat} {s s' : List D} {H H' : Heap} (h : step s H = some (.ret, s', H')) : iterS step (m + 1) s H = some (.ret, s', H') := by simp only [iterS, h]
/-- k rounds, and a last one that leaves. -/
theorem iterS_run {step : List D → Heap → Option (Lv × List D × Heap)} (s : Nat → List D) (H : Nat → Heap) {r : Lv × List D × Heap} (hr : r.1 ≠ .normal) (k : Nat) : ∀ (m i : Nat), i + m = k → ∀ n, m < n → (∀ j, i ≤ j → j < k → step (s j) (H j) = some (.normal, s (j + 1), H (j + 1))) → step (s k) (H k) = some r → iterS step n (s i) (H i) = some r := by
  intro m
  induction m with
  | zero =>
    intro i hi n hn _ hk
    obtain ⟨n, rfl⟩ : ∃ m, n = m + 1 := ⟨n - 1, by omega⟩
    obtain rfl : i = k := by omega
    simp only [iterS, hk]
    obtain ⟨lv, s', H'⟩ := r
    cases lv with
    | normal => exact absurd rfl hr
    | _ => rfl
  | succ m ih =>
    intro i hi n hn hj hk
    obtain ⟨n, rfl⟩ : ∃ m, n = m + 1 := ⟨n - 1, by omega⟩
    rw [iterS_go (hj i (Nat.le_refl _) (by omega))]
    exact ih (i + 1) (by omega) n (by omega) (fun j h1 h2 => hj j (by omega) h2) hk
/-- Rounds that go on while p holds; where it does not, the loop is left otherwise. -/
theorem iterS_scan {step : List D → Heap → Option (Lv × List D × Heap)} (st : Nat → List D) (H : Heap) (len : Nat) (p : Nat → Bool) (r : Nat → Lv × List D × Heap) (e : Lv × List D × Heap) (hr : ∀ i, (r i).1 ≠ .normal) (he : e.1 ≠ .normal) (i0 n : Nat) (hi0 : i0 ≤ len) (hn : len < n + i0)
    (h1 : ∀ i, i0 ≤ i → i < len → p i = true → step (st i) H = some (.normal, st (i + 1), H)) (h2 : ∀ i, i0 ≤ i → i < len → p i = false → step (st i) H = some (r i)) (h3 : step (st len) H = some e) :
    ((∀ i, i0 ≤ i → i < len → p i = true) ∧ iterS step n (st i0) H = some e) ∨ ∃ i, i0 ≤ i ∧ i < len ∧ p i = false ∧ (∀ j, i0 ≤ j → j < i → p j = true) ∧ iterS step n (st i0) H = some (r i) := by
  have key : ∀ (m i : Nat), i + m = len → i0 ≤ i → (∀ j, i0 ≤ j → j < i → p j = true) → ∀ n, m < n →
      ((∀ i, i0 ≤ i → i < len → p i = true) ∧ iterS step n (st i) H = some e) ∨ ∃ i', i0 ≤ i' ∧ i' < len ∧ p i' = false ∧ (∀ j, i0 ≤ j → j < i' → p j = true) ∧ iterS step n (st i) H = some (r i') := by
    intro m
    induction m with
    | zero =>
      intro i hi hi0 hp n hn
      obtain ⟨n, rfl⟩ : ∃ m, n = m + 1 := ⟨n - 1, by omega⟩
      obtain rfl : i = len := by omega
      refine .inl ⟨hp, ?_⟩
      simp only [iterS, h3]
      obtain ⟨lv, s', H'⟩ := e
      cases lv with
      | normal => exact absurd rfl he
      | _ => rfl
    | succ m ih =>
      intro i hi hi0 hp n hn
      obtain ⟨n, rfl⟩ : ∃ m, n = m + 1 := ⟨n - 1, by omega⟩
      cases hpi : p i with
      | true =>
        rw [iterS_go (h1 i hi0 (by omega) hpi)]
        exact ih (i + 1) (by omega) (by omega) (fun j hj hji => by
          by_cases e : j = i
          · rw [e]; exact hpi
          · exact hp j hj (by omega)) n (by omega)
      | false =>
        refine .inr ⟨i, hi0, by omega, hpi, hp, ?_⟩
        have := h2 i hi0 (by omega) hpi
        simp only [iterS, this]
        have hne := hr i
        generalize r i = x at *
        obtain ⟨lv, s', H'⟩ := x
        cases lv with
        | normal => exact absurd rfl hne
        | _ => rfl
  exact key (len - i0) i0 (by omega) (Nat.le_refl _) (fun j h1 h2 => by omega) n (by omega)
theorem loopF_scan {P : Program} {T : Tab} {kp : List Nat} {fn : Func} {li : Nat} (st : Nat → List D) (H : Heap) (len : Nat) (p : Nat → Bool) (r : Nat → Lv × List D × Heap) (e : Lv × List D × Heap) (hr : ∀ i, (r i).1 ≠ .normal) (he : e.1 ≠ .normal) (i0 n : Nat) (hi0 : i0 ≤ len) (hn : len < n + i0)
    (h1 : ∀ i, i0 ≤ i → i < len → p i = true → stepF P T kp n fn li (st i) H = some (.normal, st (i + 1), H)) (h2 : ∀ i, i0 ≤ i → i < len → p i = false → stepF P T kp n fn li (st i) H = some (r i)) (h3 : stepF P T kp n fn li (st len) H = some e) :
    ((∀ i, i0 ≤ i → i < len → p i = true) ∧ loopF P T kp n fn li (st i0) H = some e) ∨ ∃ i, i0 ≤ i ∧ i < len ∧ p i = false ∧ (∀ j, i0 ≤ j → j < i → p j = true) ∧ loopF P T kp n fn li (st i0) H = some (r i) :=
  iterS_scan st H len p r e hr he i0 n hi0 hn h1 h2 h3
theorem loopF_run {P : Program} {T : Tab} {kp : List Nat} {fn : Func} {i : Nat} (s : Nat → List D) (H : Nat → Heap) {r : Lv × List D × Heap} (hr : r.1 ≠ .normal) (k n : Nat) (hn : k < n) (hj : ∀ j, j < k → stepF P T kp n fn i (s j) (H j) = some (.normal, s (j + 1), H (j + 1))) (hk : stepF P T kp n fn i (s k) (H k) = some r) : loopF P T kp n fn i (s 0) (H 0) = some r :=
  iterS_run s H hr k k 0 (by omega) n hn (fun j _ h => hj j h) hk

theorem apartK_true {α : Type} (a b : D) (k : Option α) (h : apartB a b = true) : apartK a b k = k := by unfold apartK; rw [h]
@[simp] theorem apartK_hp_hp {α : Type} (i j o p : Nat) (k : Option α) : apartK (.hp i o) (.hp j p) k = if i = j then none else k := by
  by_cases h : i = j
  · subst h
    have : apartB (.hp i o) (.hp i p) = false := by
      show (!Nat.beq i i) = false
      rw [Nat.beq_refl]; rfl
    unfold apartK; rw [this, if_pos rfl]
  · have : apartB (.hp i o) (.hp j p) = true := by
      show (!Nat.beq i j) = true
      cases hb : Nat.beq i j with
      | true => exact absurd (Nat.eq_of_beq_eq_true hb) h
      | false => rfl
    rw [apartK_true _ _ _ this, if_neg h]
@[simp] theorem apartK_hp_hs {α : Type} (i j o p : Nat) (k : Option α) : apartK (.hp i o) (.hs j p) k = if i = j then none else k := apartK_hp_hp i j o 0 k
@[simp] theorem apartK_hp_v {α : Type} (i o : Nat) (v : Value) (k : Option α) : apartK (.hp i o) (.v v) k = k := by cases k <;> rfl
@[simp] theorem apartK_ptr {α : Type} (cs : List D) (b : D) (k : Option α) : apartK (.ptr cs) b k = k := by cases k <;> rfl
@[simp] theorem wholeK_v {α : Type} (v : Value) (k : Option α) : wholeK (.v v) k = k := by cases k <;> rfl
@[simp] theorem wholeK_sl {α : Type} (n : Nat) (l : List (List D)) (k : Option α) : wholeK (.sl n l) k = k := by cases k <;> rfl
theorem pureK_true {α : Type} (as' : List D) (k : Option α) (h : pureL as' = true) : pureK as' k = k := by unfold pureK; rw [h]
@[simp] theorem pureK_nil {α : Type} (k : Option α) : pureK [] k = k := by cases k <;> rfl
@[simp] theorem pureK_v {α : Type} (v : Value) (r : List D) (k : Option α) : pureK (.v v :: r) k = pureK r k := rfl
@[simp] theorem pureK_sl {α : Type} (n : Nat) (l : List (List D)) (r : List D) (k : Option α) : pureK (.sl n l :: r) k = pureK r k := rfl
@[simp] theorem notD_bool (b : Bool) : notD (.v (.bool b)) = some (.v (.bool !b)) := rfl
@[simp] theorem pickD_bool (b : Bool) (x y : D) : pickD (.v (.bool b)) x y = some (if b then x else y) := rfl
@[simp] theorem binK_int (k : Kd) (j : IntKind) (a b : Int) : binK k .add (.v (.int j a)) (.v (.int j b)) = intD .add j a b := by simp [binK]
@[simp] theorem binK_sub (k : Kd) (j : IntKind) (a b : Int) : binK k .sub (.v (.int j a)) (.v (.int j b)) = intD .sub j a b := by simp [binK]
@[simp] theorem binK_mul (k : Kd) (j : IntKind) (a b : Int) : binK k .mul (.v (.int j a)) (.v (.int j b)) = intD .mul j a b := by simp [binK]
@[simp] theorem binK_quo (k : Kd) (j : IntKind) (a b : Int) : binK k .quo (.v (.int j a)) (.v (.int j b)) = intD .quo j a b := by simp [binK]
@[simp] theorem binK_rem (k : Kd) (j : IntKind) (a b : Int) : binK k .rem (.v (.int j a)) (.v (.int j b)) = intD .rem j a b := by simp [binK]
@[simp] theorem binK_and (k : Kd) (j : IntKind) (a b : Int) : binK k .and (.v (.int j a)) (.v (.int j b)) = intD .and j a b := by simp [binK]
@[simp] theorem binK_or (k : Kd) (j : IntKind) (a b : Int) : binK k .or (.v (.int j a)) (.v (.int j b)) = intD .or j a b := by simp [binK]
@[simp] theorem binK_xor (k : Kd) (j : IntKind) (a b : Int) : binK k .xor (.v (.int j a)) (.v (.int j b)) = intD .xor j a b := by simp [binK]
@[simp] theorem binK_eql (k : Kd) (j : IntKind) (a b : Int) : binK k .eql (.v (.int j a)) (.v (.int j b)) = some (.v (.bool (a == b))) := by simp [binK, intD]
@[simp] theorem binK_neq (k : Kd) (j : IntKind) (a b : Int) : binK k .neq (.v (.int j a)) (.v (.int j b)) = some (.v (.bool (a != b))) := by simp [binK, intD]
@[simp] theorem binK_lss (k : Kd) (j : IntKind) (a b : Int) : binK k .lss (.v (.int j a)) (.v (.int j b)) = some (.v (.bool (decide (a < b)))) := by simp [binK, intD]
@[simp] theorem binK_leq (k : Kd) (j : IntKind) (a b : Int) : binK k .leq (.v (.int j a)) (.v (.int j b)) = some (.v (.bool (decide (a ≤ b)))) := by simp [binK, intD]
@[simp] theorem binK_gtr (k : Kd) (j : IntKind) (a b : Int) : binK k .gtr (.v (.int j a)) (.v (.int j b)) = some (.v (.bool (decide (b < a)))) := by simp [binK, intD]
@[simp] theorem binK_geq (k : Kd) (j : IntKind) (a b : Int) : binK k .geq (.v (.int j a)) (.v (.int j b)) = some (.v (.bool (decide (b ≤ a)))) := by simp [binK, intD]
@[simp] theorem binK_bool_eq (a b : Bool) : binK .bool .eql (.v (.bool a)) (.v (.bool b)) = some (.v (.bool (a == b))) := rfl
@[simp] theorem binK_bool_ne (a b : Bool) : binK .bool .neq (.v (.bool a)) (.v (.bool b)) = some (.v (.bool (!(a == b)))) := rfl
theorem wrap_in (x : Int) (h1 : -9223372036854775808 ≤ x) (h2 : x ≤ 9223372036854775807) : IntKind.i64.wrap x = x := IntWalk.i64_in x ⟨h1, h2⟩
theorem intD_add (a b : Int) (h1 : -9223372036854775808 ≤ a + b) (h2 : a + b ≤ 9223372036854775807) : intD .add .i64 a b = some (iD (a + b)) := by rw [intD, wrap_in _ h1 h2]
theorem intD_sub (a b : Int) (h1 : -9223372036854775808 ≤ a - b) (h2 : a - b ≤ 9223372036854775807) : intD .sub .i64 a b = some (iD (a - b)) := by rw [intD, wrap_in _ h1 h2]
@[simp] theorem natD_int (k : IntKind) (n : Int) : natD (.v (.int k n)) = if 0 ≤ n then some n.toNat else none := rfl

/- Lists of nodes and of ints. -/
@[simp] theorem lenH_nodes (l : List Nd) : lenH .sl (nodesD l) = some (iD l.length) := by simp [lenH, lenK, nodesD]
@[simp] theorem lenH_ints (l : List Int) : lenH .sl (intsD l) = some (iD l.length) := by simp [lenH, lenK, intsD]
@[simp] theorem lenH_nil : lenH .sl (.v (.slice none 0 0)) = some (iD 0) := rfl
@[simp] theorem lenH_ht (id o n : Nat) : lenH .sl (.ht id o n) = some (iD n) := rfl
@[simp] theorem lenH_hs (id n : Nat) : lenH .sl (.hs id n) = some (iD n) := rfl
theorem idx_nodes (l : List Nd) (i : Int) (h0 : 0 ≤ i) (h : i.toNat < l.length) : idxH 2 (nodesD l) (iD i) = some (.ptr (nodeD l[i.toNat])) := by
  have : idxH 2 (nodesD l) (iD i) = idxD 2 (nodesD l) (iD i) := rfl
  rw [this]; simp [idxD, h0, h]
theorem idx_ints (l : List Int) (i : Int) (h0 : 0 ≤ i) (h : i.toNat < l.length) : idxH 1 (intsD l) (iD i) = some (.ptr (oneI l[i.toNat])) := by
  have : idxH 1 (intsD l) (iD i) = idxD 1 (intsD l) (iD i) := rfl
  rw [this]; simp [idxD, h0, h]
theorem idx_nodesN (l : List Nd) (i : Nat) (h : i < l.length) : idxH 2 (nodesD l) (.v (.int .i64 (i : Int))) = some (.ptr (nodeD l[i])) := by
  have := idx_nodes l (i : Int) (by omega) (by simpa using h)
  simpa using this
theorem idx_intsN (l : List Int) (i : Nat) (h : i < l.length) : idxH 1 (intsD l) (.v (.int .i64 (i : Int))) = some (.ptr (oneI l[i])) := by
  have := idx_ints l (i : Int) (by omega) (by simpa using h)
  simpa using this
theorem cut_nodes (l : List Nd) (a b : Nat) (h1 : a ≤ b) (h2 : b ≤ l.length) : cutH 2 (nodesD l) (some (.v (.int .i64 (a : Int)))) (some (.v (.int .i64 (b : Int)))) = some (nodesD ((l.take b).drop a)) := by
  have : cutH 2 (nodesD l) (some (.v (.int .i64 (a : Int)))) (some (.v (.int .i64 (b : Int)))) = cutD 2 (nodesD l) (some (.v (.int .i64 (a : Int)))) (some (.v (.int .i64 (b : Int)))) := rfl
  rw [this]
  simp [cutD, lowD, highD, h1, h2, nodesD, elsD, List.map_drop, List.map_take]
theorem cut_ints (l : List Int) (a b : Nat) (h1 : a ≤ b) (h2 : b ≤ l.length) : cutH 1 (intsD l) (some (.v (.int .i64 (a : Int)))) (some (.v (.int .i64 (b : Int)))) = some (intsD ((l.take b).drop a)) := by
  have : cutH 1 (intsD l) (some (.v (.int .i64 (a : Int)))) (some (.v (.int .i64 (b : Int)))) = cutD 1 (intsD l) (some (.v (.int .i64 (a : Int)))) (some (.v (.int .i64 (b : Int)))) := rfl
  rw [this]
  simp [cutD, lowD, highD, h1, h2, intsD, elsD, List.map_drop, List.map_take]
@[simp] theorem load_node (H : Heap) (x : Nd) : loadH (some 2) H (.ptr (nodeD x)) = some (.agg (nodeD x)) := rfl
@[simp] theorem load_one (H : Heap) (n : Int) : loadH none H (.ptr (oneI n)) = some (iD n) := rfl
@[simp] theorem load_cell (H : Heap) (d : D) (r : List D) : loadH none H (.ptr (d :: r)) = some d := rfl
@[simp] theorem load_node0 (H : Heap) (x : Nd) : loadH none H (.ptr (nodeD x)) = some (iD x.1) := rfl
@[simp] theorem fieldAt_hp (off i o : Nat) : fieldAtH off (.hp i o) = some (.hp i (o + off)) := rfl
@[simp] theorem fieldAt_node0 (x : Nd) : fieldAtH 0 (.ptr (nodeD x)) = some (.ptr (nodeD x)) := rfl
@[simp] theorem fieldAt_node1 (x : Nd) : fieldAtH 1 (.ptr (nodeD x)) = some (.ptr [iD x.2]) := rfl
@[simp] theorem field_node0 (x : Nd) : fieldD none 0 (.agg (nodeD x)) = some (iD x.1) := rfl
@[simp] theorem field_node1 (x : Nd) : fieldD none 1 (.agg (nodeD x)) = some (iD x.2) := rfl
@[simp] theorem asNd_node (x : Nd) : asNd (.agg (nodeD x)) = some x := rfl
@[simp] theorem binK_node (x y : Nd) : binK (.ints 2) .eql (.agg (nodeD x)) (.agg (nodeD y)) = some (bD (decide (x = y))) := by
  obtain ⟨a, b⟩ := x
  obtain ⟨c, d⟩ := y
  simp [binK, eqStructD, nodeD, intsOf]
@[simp] theorem binK_node_ne (x y : Nd) : binK (.ints 2) .neq (.agg (nodeD x)) (.agg (nodeD y)) = some (bD (!decide (x = y))) := by
  obtain ⟨a, b⟩ := x
  obtain ⟨c, d⟩ := y
  simp [binK, eqStructD, nodeD, intsOf]
@[simp] theorem pure_nodes (l : List Nd) : pureD (nodesD l) = true := rfl
@[simp] theorem pure_ints (l : List Int) : pureD (intsD l) = true := rfl
@[simp] theorem pure_v (v : Value) : pureD (.v v) = true := rfl
@[simp] theorem pureL_nil : pureL [] = true := rfl
@[simp] theorem pureL_cons (d : D) (r : List D) : pureL (d :: r) = (pureD d && pureL r) := rfl
@[simp] theorem pure_agg (cs : List D) : pureD (.agg cs) = pureL cs := rfl
@[simp] theorem pure_tup (cs : List D) : pureD (.tup cs) = pureL cs := rfl
@[simp] theorem pureL_node (x : Nd) : pureL (nodeD x) = true := rfl
/-- What is by value is by value. -/
theorem derefN_pure (H : Heap) : ∀ (n : Nat) (d : D), pureD d = true → derefN H n d = some d
  | 0, d, h => by simp [derefN, h]
  | n + 1, d, h => by
    have hl : ∀ cs : List D, pureL cs = true → cs.mapM (derefN H n) = some cs := by
      intro cs
      induction cs with
      | nil => intro _; rfl
      | cons c r ih =>
        intro hc
        simp only [pureL, Bool.and_eq_true] at hc
        simp [List.mapM_cons, derefN_pure H n c hc.1, ih hc.2]
    cases d with
    | hs id k => simp [pureD] at h
    | hp id o => simp [pureD] at h
    | mp id => simp [pureD] at h
    | yld id => simp [pureD] at h
    | ht id o k => simp [pureD] at h
    | agg cs => simp only [derefN]; rw [hl cs (by simpa [pureD] using h)]; rfl
    | tup cs => simp only [derefN]; rw [hl cs (by simpa [pureD] using h)]; rfl
    | ifc t e => simp only [derefN]; rw [derefN_pure H n e (by simpa [pureD] using h)]; rfl
    | _ => simp [derefN, h]
theorem outD_pure (d : D) (H : Heap) (h : pureD d = true) : outD (some (d, H)) = some d := derefN_pure H 9 d h
@[simp] theorem outD_v (v : Value) (H : Heap) : outD (some (.v v, H)) = some (.v v) := outD_pure _ _ rfl
@[simp] theorem outD_nodes (l : List Nd) (H : Heap) : outD (some (nodesD l, H)) = some (nodesD l) := outD_pure _ _ rfl
@[simp] theorem outD_ints (l : List Int) (H : Heap) : outD (some (intsD l, H)) = some (intsD l) := outD_pure _ _ rfl
@[simp] theorem outD_node (x : Nd) (H : Heap) : outD (some (.agg (nodeD x), H)) = some (.agg (nodeD x)) := outD_pure _ _ rfl
@[simp] theorem outD_tup (ds : List D) (H : Heap) (h : pureL ds = true) : outD (some (.tup ds, H)) = some (.tup ds) := outD_pure _ _ h
@[simp] theorem outD_none : outD none = none := rfl
@[simp] theorem loadH_hp (s : Option Nat) (H : Heap) (id off : Nat) : loadH s H (.hp id off) = match H[id]? with | some (.cells _ _ cs) => partS s (cs.drop off) 0 | _ => none := rfl
@[simp] theorem partS_none (cs : List D) (off : Nat) : partS none cs off = cs[off]? := rfl
@[simp] theorem partS_some (n : Nat) (cs : List D) (off : Nat) : partS (some n) cs off = if off + n ≤ cs.length then some (.agg ((cs.drop off).take n)) else none := rfl
theorem liftF_pure (F : List D → Option D) (ds : List D) (H : Heap) (h : pureL ds = true) : liftF F ds H = (F ds).map fun d => (d, H) := by unfold liftF; rw [h]
theorem liftF_obj (F : List D → Option D) (ds ds' : List D) (H : Heap) (h : pureL ds = false) (hd : ds.mapM (derefN H 9) = some ds') : liftF F ds H = (F ds').bind fun d => if flatD d then some (d, H) else none := by unfold liftF; rw [h]; simp only [hd, Option.bind_some]
@[simp] theorem thnH_map {α : Type} (o : Option D) (H : Heap) (k : D → Heap → Option α) : thnH (o.map fun d => (d, H)) k = thn o fun d => k d H := by cases o <;> rfl

/- How arguments and results are spelt. -/
/-- Whatever reads so reads so, too. -/
def Imp (d d' : D) : Prop := ∀ (S : Nat → Prop) (L : List (Nat × Nat)) (w : World) (x : Value), Rep S L w x d → Rep S L w x d'
theorem Imp.refl (d : D) : Imp d d := fun _ _ _ _ h => h
theorem Imp.trans {a b c : D} (h : Imp a b) (k : Imp b c) : Imp a c := fun S L w x hx => k S L w x (h S L w x hx)
inductive ImpL : List D → List D → Prop
  | nil : ImpL [] []
  | cons {d d' : D} {r r' : List D} : Imp d d' → ImpL r r' → ImpL (d :: r) (d' :: r')
theorem ImpL.rep {ds ds' : List D} (h : ImpL ds ds') {S : Nat → Prop} {L : List (Nat × Nat)} {w : World} {xs : List Value} (hx : RepA S L w xs ds) : RepA S L w xs ds' := by
  induction h generalizing xs with
  | nil => exact hx
  | cons h1 _ ih =>
    simp only [RepA] at hx ⊢
    obtain ⟨x, ys, e, h2, h3⟩ := hx
    exact ⟨x, ys, e, h1 _ _ _ _ h2, ih h3⟩
theorem ImpL.refl : ∀ ds : List D, ImpL ds ds
  | [] => .nil
  | d :: r => .cons (Imp.refl d) (ImpL.refl r)
theorem Imp.agg {cs cs' : List D} (h : ImpL cs cs') : Imp (.agg cs) (.agg cs') := by
  intro S L w x hx
  simp only [Rep] at hx ⊢
  obtain ⟨xs, e, h1⟩ := hx
  exact ⟨xs, e, h.rep h1⟩
theorem Imp.tup {cs cs' : List D} (h : ImpL cs cs') : Imp (.tup cs) (.tup cs') := by
  intro S L w x hx
  simp only [Rep] at hx ⊢
  obtain ⟨xs, e, h1⟩ := hx
  exact ⟨xs, e, h.rep h1⟩
theorem Imp.nil (sz : Nat) : Imp (.v (.slice none 0 0)) (.sl sz []) := by
  intro S L w x hx
  simp only [Rep] at hx ⊢
  exact .inl ⟨trivial, none, 0, hx, fun _ => rfl⟩
theorem Imp.sl (s sz : Nat) (els : List (List D)) (h : ∀ e ∈ els, e.length = s → s = sz) : Imp (.sl s els) (.sl sz els) := by
  intro S L w x hx
  simp only [Rep] at hx ⊢
  rcases hx with hx | ⟨b, o, cap, h1, h2, h3, h4, h5⟩
  · exact .inl hx
  · cases els with
    | nil => simp at h2
    | cons e r =>
      have he : e.length = s := by simp only [RepR] at h5; exact h5.1
      obtain rfl := h e (by simp) he
      exact .inr ⟨b, o, cap, h1, h2, h3, h4, h5⟩
theorem imp_nodes {d : D} {l : List Nd} (h : asNodes d = some l) : Imp d (nodesD l) := by
  unfold asNodes at h
  split at h
  · rename_i s els
    have he := mapM_ok nodeD asNode (fun _ _ => asNode_ok) _ _ h
    subst he
    refine Imp.sl s 2 _ fun e he hl => ?_
    obtain ⟨x, _, rfl⟩ := List.mem_map.1 he
    exact hl.symm
  · cases h; exact Imp.nil 2
  · cases h
theorem imp_ints {d : D} {l : List Int} (h : asInts d = some l) : Imp d (intsD l) := by
  unfold asInts at h
  split at h
  · rename_i s els
    have he := mapM_ok oneI asOne (fun _ _ => asOne_ok) _ _ h
    subst he
    refine Imp.sl s 1 _ fun e he hl => ?_
    obtain ⟨x, _, rfl⟩ := List.mem_map.1 he
    exact hl.symm
  · cases h; exact Imp.nil 1
  · cases h
/-- A kind of data: how it is spelt, and read. -/
structure Dec (α : Type) where
  enc : α → D
  dec : D → Option α
  back : ∀ a, dec (enc a) = some a
  ok : ∀ d a, dec d = some a → Imp d (enc a)
def intT : Dec Int := ⟨fun n => iD n, asInt, fun _ => rfl, fun d a h => by
  unfold asInt at h
  split at h
  · cases h; exact Imp.refl _
  · cases h⟩
def boolT : Dec Bool := ⟨fun b => bD b, boolD, fun _ => rfl, fun d a h => by
  unfold boolD at h
  split at h
  · cases h; exact Imp.refl _
  · cases h⟩
def nodesT : Dec (List Nd) := ⟨nodesD, asNodes, asNodes_nodesD, fun d a h => imp_nodes h⟩
def intsT : Dec (List Int) := ⟨intsD, asInts, asInts_intsD, fun d a h => imp_ints h⟩
def ndT : Dec Nd := ⟨fun x => .agg (nodeD x), asNd, fun _ => rfl, fun d a h => by
  unfold asNd at h
  split at h
  · rw [asNode_ok h]; exact Imp.refl _
  · cases h⟩
/-- A program: parameters, variables, body. -/
structure Pg where
  params : Int
  vars : List Int
  body : List Nd
  deriving DecidableEq, Inhabited
def progC (p : Pg) : List D := [iD p.params, intsD p.vars, nodesD p.body]
def progD (p : Pg) : D := .agg (progC p)
def asProgC : List D → Option Pg
  | [a, b, c] => (asInt a).bind fun n => (asInts b).bind fun vs => (asNodes c).map fun l => ⟨n, vs, l⟩
  | _ => none
def asProg : D → Option Pg
  | .agg cs => asProgC cs
  | _ => none
@[simp] theorem asProg_progD (p : Pg) : asProg (progD p) = some p := by simp [asProg, progD, progC, asProgC]
theorem imp_progC {cs : List D} {p : Pg} (h : asProgC cs = some p) : ImpL cs (progC p) := by
  unfold asProgC at h
  split at h
  · rename_i a b c
    obtain ⟨n, h1, h⟩ := Option.bind_eq_some_iff.1 h
    obtain ⟨vs, h2, h⟩ := Option.bind_eq_some_iff.1 h
    obtain ⟨l, h3, h⟩ := Option.map_eq_some_iff.1 h
    subst h
    exact .cons (intT.ok _ _ h1) (.cons (imp_ints h2) (.cons (imp_nodes h3) .nil))
  · cases h
def progT : Dec Pg := ⟨progD, asProg, asProg_progD, fun d a h => by
  unfold asProg at h
  split at h
  · exact Imp.agg (imp_progC h)
  · cases h⟩
@[simp] theorem pure_prog (p : Pg) : pureD (progD p) = true := rfl
@[simp] theorem pureL_progC (p : Pg) : pureL (progC p) = true := rfl
@[simp] theorem box_prog (t : TypeId) (p : Pg) (H : Heap) : boxH t (progD p) H = some (.hp H.length 0, H ++ [.cells t 3 [iD p.params, intsD p.vars, nodesD p.body]]) := rfl
@[simp] theorem box_node (t : TypeId) (x : Nd) (H : Heap) : boxH t (.agg (nodeD x)) H = some (.hp H.length 0, H ++ [.cells t 2 [iD x.1, iD x.2]]) := rfl
@[simp] theorem box_int (t : TypeId) (k : IntKind) (n : Int) (H : Heap) : boxH t (.v (.int k n)) H = some (.hp H.length 0, H ++ [.cells t 1 [.v (.int k n)]]) := rfl
@[simp] theorem box_bool (t : TypeId) (b : Bool) (H : Heap) : boxH t (.v (.bool b)) H = some (.hp H.length 0, H ++ [.cells t 1 [.v (.bool b)]]) := rfl

/-- The objects of a call that has boxed one program. -/
def pgH (t : TypeId) (p : Pg) : Heap := [.cells t 3 [iD p.params, intsD p.vars, nodesD p.body]]

@[simp] theorem asProg_agg (a : Int) (b : List Int) (c : List Nd) : asProg (.agg [.v (.int .i64 a), intsD b, nodesD c]) = some ⟨a, b, c⟩ := asProg_progD ⟨a, b, c⟩
@[simp] theorem cellOk_ints (l : List Int) : cellOk (intsD l) = true := rfl
@[simp] theorem cellOk_nodes (l : List Nd) : cellOk (nodesD l) = true := rfl
@[simp] theorem cellOk_int (k : IntKind) (n : Int) : cellOk (.v (.int k n)) = true := rfl
@[simp] theorem cellOk_bool (b : Bool) : cellOk (.v (.bool b)) = true := rfl
@[simp] theorem cellOk_nilslice : cellOk (.v (.slice none 0 0)) = true := rfl
@[simp] theorem cellOk_str (s : ByteArray) : cellOk (.v (.string s)) = true := rfl
@[simp] theorem cellOk_hs (i n : Nat) : cellOk (.hs i n) = true := rfl
@[simp] theorem cellOk_hp (i n : Nat) : cellOk (.hp i n) = true := rfl
@[simp] theorem cellOk_ifc (t : TypeId) (d : D) : cellOk (.ifc t d) = true := rfl
@[simp] theorem cellOk_mv (ks : List Int) (vs : List D) : cellOk (.mv ks vs) = true := rfl
@[simp] theorem cellOk_clo (f : Fn) (a b : List D) : cellOk (.clo f a b) = true := rfl
@[simp] theorem pure_mv (ks : List Int) (vs : List D) : pureD (.mv ks vs) = true := rfl
@[simp] theorem pure_ifc (t : TypeId) (d : D) : pureD (.ifc t d) = pureD d := rfl
@[simp] theorem pure_hs (i n : Nat) : pureD (.hs i n) = false := rfl
@[simp] theorem pure_hp (i n : Nat) : pureD (.hp i n) = false := rfl
theorem box_agg (t : TypeId) (cs : List D) (H : Heap) (h : cs.all cellOk = true) : boxH t (.agg cs) H = some (.hp H.length 0, H ++ [.cells t cs.length cs]) := by
  simp only [boxH, cellsD, newH, h, Option.bind_some, if_true, Option.map_some]
theorem Imp.mv {ks : List Int} {vs vs' : List D} (h : ImpL vs vs') : Imp (.mv ks vs) (.mv ks vs') := by
  intro S L w x hx
  simp only [Rep] at hx ⊢
  obtain ⟨b, arr, clk, h1, h2, h3, h4, h5⟩ := hx
  exact ⟨b, arr, clk, h1, h2, h3, h4, h.rep h5⟩
theorem Imp.ifc {t : TypeId} {d d' : D} (h : Imp d d') : Imp (.ifc t d) (.ifc t d') := by
  intro S L w x hx
  simp only [Rep] at hx ⊢
  obtain ⟨y, h1, h2⟩ := hx
  exact ⟨y, h1, h _ _ _ _ h2⟩
theorem impL_mapM {α : Type} (A : Dec α) : ∀ (ds : List D) (l : List α), ds.mapM A.dec = some l → ImpL ds (l.map A.enc)
  | [], l, h => by simp at h; subst h; exact .nil
  | d :: r, l, h => by
    simp only [List.mapM_cons, Option.pure_def, Option.bind_eq_bind] at h
    cases h1 : A.dec d with
    | none => rw [h1] at h; cases h
    | some a =>
      cases h2 : r.mapM A.dec with
      | none => rw [h1, h2] at h; cases h
      | some t =>
        rw [h1, h2] at h
        cases h
        exact .cons (A.ok d a h1) (impL_mapM A r t h2)
/-- What is said of each is said of all. -/
theorem call_any {P : Program} {f : FuncId} {F : List D → Option D} {G : Nat → List D → Option D} (hG : ∀ m, CallOk P f (G m)) (h : ∀ ds d, F ds = some d → ∃ m, G m ds = some d) : CallOk P f F :=
  ⟨(hG 0).body, fun ds d hF => by obtain ⟨m, hm⟩ := h ds d hF; exact (hG m).calls ds d hm⟩

/-- Functions of so many arguments. -/
def F0 (g : Option D) : List D → Option D
  | [] => g
  | _ => none
def F1 {α : Type} (A : Dec α) (g : α → Option D) : List D → Option D
  | [x] => (A.dec x).bind g
  | _ => none
def F2 {α β : Type} (A : Dec α) (B : Dec β) (g : α → β → Option D) : List D → Option D
  | [x, y] => (A.dec x).bind fun a => (B.dec y).bind fun b => g a b
  | _ => none
def F3 {α β γ : Type} (A : Dec α) (B : Dec β) (C : Dec γ) (g : α → β → γ → Option D) : List D → Option D
  | [x, y, z] => (A.dec x).bind fun a => (B.dec y).bind fun b => (C.dec z).bind fun c => g a b c
  | _ => none
def F4 {α β γ δ : Type} (A : Dec α) (B : Dec β) (C : Dec γ) (E : Dec δ) (g : α → β → γ → δ → Option D) : List D → Option D
  | [x, y, z, u] => (A.dec x).bind fun a => (B.dec y).bind fun b => (C.dec z).bind fun c => (E.dec u).bind fun e => g a b c e
  | _ => none
section
variable {α β γ δ : Type} {A : Dec α} {B : Dec β} {C : Dec γ} {E : Dec δ}
theorem f1_enc (g : α → Option D) (a : α) : F1 A g [A.enc a] = g a := by simp [F1, A.back]
theorem f2_enc (g : α → β → Option D) (a : α) (b : β) : F2 A B g [A.enc a, B.enc b] = g a b := by simp [F2, A.back, B.back]
theorem f3_enc (g : α → β → γ → Option D) (a : α) (b : β) (c : γ) : F3 A B C g [A.enc a, B.enc b, C.enc c] = g a b c := by simp [F3, A.back, B.back, C.back]
theorem f4_enc (g : α → β → γ → δ → Option D) (a : α) (b : β) (c : γ) (e : δ) : F4 A B C E g [A.enc a, B.enc b, C.enc c, E.enc e] = g a b c e := by simp [F4, A.back, B.back, C.back, E.back]

variable {P : Program} {T : Tab} {kp : List Nat}
/-- A function gives what its text comes to, however arguments and results are spelt. -/
theorem call_spelt (hT : TabOk P T) (hm : P.follows .mixedOrders = true) {f : FuncId} {fn : Func} (hf : P.funcs[f]? = some fn) (hb : fn.body.isSome = true) (hname : fn.name ≠ "runtime.NumGoroutine") {F : List D → Option D}
    (h : ∀ ds d, F ds = some d → ∃ ds' d' n, ImpL ds ds' ∧ outD (textK P T kp n fn ds' []) = some d' ∧ Imp d' d) : CallOk P f F := by
  refine ⟨⟨fn, hf, hname, hb⟩, fun ds d hF S vs w hS hv => ?_⟩
  obtain ⟨ds', d', n, h1, h2, h3⟩ := h ds d hF
  have hc : CallOk P f (fun xs => outD (textK P T kp n fn xs [])) := call_text hT hm hf hb hname fun xs e he => ⟨n, he⟩
  refine (hc.calls ds' d' h2 S vs w hS (h1.rep hv)).mono ?_
  rintro e w' ⟨v, rfl, h4, h5⟩
  exact ⟨v, rfl, h3 _ _ _ _ h4, h5⟩
variable (hT : TabOk P T) (hm : P.follows .mixedOrders = true) {f : FuncId} {fn : Func} (hf : P.funcs[f]? = some fn) (hb : fn.body.isSome = true) (hname : fn.name ≠ "runtime.NumGoroutine")
include hT hm hf hb hname
theorem call0 {g : Option D} (h : ∀ d, g = some d → ∃ n d', outD (textK P T kp n fn [] []) = some d' ∧ Imp d' d) : CallOk P f (F0 g) :=
  call_spelt hT hm hf hb hname fun ds d hF => by
    unfold F0 at hF
    split at hF
    · obtain ⟨n, d', h1, h2⟩ := h d hF
      exact ⟨_, d', n, .nil, h1, h2⟩
    · cases hF
theorem call1 {g : α → Option D} (h : ∀ a d, g a = some d → ∃ n d', outD (textK P T kp n fn [A.enc a] []) = some d' ∧ Imp d' d) : CallOk P f (F1 A g) :=
  call_spelt hT hm hf hb hname fun ds d hF => by
    unfold F1 at hF
    split at hF
    · obtain ⟨a, ha, hF⟩ := Option.bind_eq_some_iff.1 hF
      obtain ⟨n, d', h1, h2⟩ := h a d hF
      exact ⟨_, d', n, .cons (A.ok _ _ ha) .nil, h1, h2⟩
    · cases hF
theorem call2 {g : α → β → Option D} (h : ∀ a b d, g a b = some d → ∃ n d', outD (textK P T kp n fn [A.enc a, B.enc b] []) = some d' ∧ Imp d' d) : CallOk P f (F2 A B g) :=
  call_spelt hT hm hf hb hname fun ds d hF => by
    unfold F2 at hF
    split at hF
    · obtain ⟨a, ha, hF⟩ := Option.bind_eq_some_iff.1 hF
      obtain ⟨b, hb', hF⟩ := Option.bind_eq_some_iff.1 hF
      obtain ⟨n, d', h1, h2⟩ := h a b d hF
      exact ⟨_, d', n, .cons (A.ok _ _ ha) (.cons (B.ok _ _ hb') .nil), h1, h2⟩
    · cases hF
theorem call3 {g : α → β → γ → Option D} (h : ∀ a b c d, g a b c = some d → ∃ n d', outD (textK P T kp n fn [A.enc a, B.enc b, C.enc c] []) = some d' ∧ Imp d' d) : CallOk P f (F3 A B C g) :=
  call_spelt hT hm hf hb hname fun ds d hF => by
    unfold F3 at hF
    split at hF
    · obtain ⟨a, ha, hF⟩ := Option.bind_eq_some_iff.1 hF
      obtain ⟨b, hb', hF⟩ := Option.bind_eq_some_iff.1 hF
      obtain ⟨c, hc, hF⟩ := Option.bind_eq_some_iff.1 hF
      obtain ⟨n, d', h1, h2⟩ := h a b c d hF
      exact ⟨_, d', n, .cons (A.ok _ _ ha) (.cons (B.ok _ _ hb') (.cons (C.ok _ _ hc) .nil)), h1, h2⟩
    · cases hF
theorem call4 {g : α → β → γ → δ → Option D} (h : ∀ a b c e d, g a b c e = some d → ∃ n d', outD (textK P T kp n fn [A.enc a, B.enc b, C.enc c, E.enc e] []) = some d' ∧ Imp d' d) : CallOk P f (F4 A B C E g) :=
  call_spelt hT hm hf hb hname fun ds d hF => by
    unfold F4 at hF
    split at hF
    · obtain ⟨a, ha, hF⟩ := Option.bind_eq_some_iff.1 hF
      obtain ⟨b, hb', hF⟩ := Option.bind_eq_some_iff.1 hF
      obtain ⟨c, hc, hF⟩ := Option.bind_eq_some_iff.1 hF
      obtain ⟨e, he, hF⟩ := Option.bind_eq_some_iff.1 hF
      obtain ⟨n, d', h1, h2⟩ := h a b c e d hF
      exact ⟨_, d', n, .cons (A.ok _ _ ha) (.cons (B.ok _ _ hb') (.cons (C.ok _ _ hc) (.cons (E.ok _ _ he) .nil))), h1, h2⟩
    · cases hF
end

/- Tables. -/
abbrev Entry := FuncId × Bool × (List D → Heap → Option (D × Heap))
def EntryOk (P : Program) (p : Entry) : Prop := HCallOk P p.1 p.2.2 ∧ (p.2.1 = true → CalmOk p.2.2)
theorem entry_lift {P : Program} {f : FuncId} {F : List D → Option D} (h : CallOk P f F) : EntryOk P (f, true, liftF F) := ⟨lift_ok h, fun _ => lift_calm F⟩
theorem entry_obj {P : Program} {f : FuncId} {G : List D → Heap → Option (D × Heap)} (h : HCallOk P f G) : EntryOk P (f, false, G) := ⟨h, fun e => by cases e⟩
theorem entries_nil {P : Program} : ∀ p ∈ ([] : List Entry), EntryOk P p := fun p h => by cases h
theorem entries_cons {P : Program} {e : Entry} {l : List Entry} (h : EntryOk P e) (k : ∀ p ∈ l, EntryOk P p) : ∀ p ∈ e :: l, EntryOk P p := by
  intro p hp
  rcases List.mem_cons.1 hp with rfl | hp
  · exact h
  · exact k p hp
theorem tabOk_of {P : Program} {l : List Entry} (h : ∀ p ∈ l, EntryOk P p) : TabOk P ⟨l, noYl⟩ := ⟨h, noYl_ok P⟩

/-- What a law gives by its text is what a call of it gives. -/
theorem law_walk {P : Program} {T : Tab} {kp : List Nat} (hT : TabOk P T) (hm : P.follows .mixedOrders = true) {f : FuncId} {fn : Func} (hf : P.funcs[f]? = some fn) (hb : fn.body.isSome = true) (hname : fn.name ≠ "runtime.NumGoroutine") {n : Nat} {ds : List D} {H : Heap} (h : textK P T kp n fn ds [] = some (bD true, H))
    {vs : List Value} {w : World} (hv : RepA (· < w.heap.size) [] w vs ds) : Calls P f vs.toArray w fun e w' => e = .returned (.bool true) ∧ Below w.heap.size w w' := by
  have hc : CallOk P f (fun xs => outD (textK P T kp n fn xs [])) := call_text hT hm hf hb hname fun xs d hd => ⟨n, hd⟩
  refine (hc.calls ds (bD true) (by rw [h]; exact outD_pure _ _ rfl) _ vs w (fun _ hk => hk) hv).mono ?_
  rintro e w' ⟨v, rfl, h1, h2⟩
  simp only [Rep] at h1
  exact ⟨by rw [h1], h2⟩
theorem rep_int {S : Nat → Prop} {L : List (Nat × Nat)} {w : World} (n : Int) : Rep S L w (.int .i64 n) (iD n) := by simp only [Rep]
theorem rep_node {S : Nat → Prop} {w : World} (x : Nd) : Rep S [] w (.agg #[.int .i64 x.1, .int .i64 x.2]) (.agg (nodeD x)) := by
  simp only [Rep]
  exact ⟨_, rfl, nodeRep x⟩
end Go.Proofs.Ytbnmkdlmalobaaa
end

section
namespace Go.Proofs.Ytbnmkdlmalobaaa
open Go.RowKit
set_option maxHeartbeats 1000000 in
theorem limits_any (t n : Int) (w : World) :
    Calls Try.prog 75 #[.agg #[.int .i64 t, .int .i64 n]] w fun e w' => e = .returned (.tuple #[.int .i64 (lim t n).1, .int .i64 (lim t n).2]) ∧ Below w.heap.size w w' := by
  go_enter Try.func75, Try.ntmps75
  go_wp2
  all_goals first
    | (go_ret2; refine ⟨pair_eq ?_, (Below.refl _ _).alloc (Nat.le_refl _) _⟩; simp only [beq_iff_eq, beq_eq_false_iff_ne] at *; simp [lim, *]; done)
    | (go_ret2; refine ⟨pair_eq ?_, (Below.refl _ _).alloc (Nat.le_refl _) _⟩; simp only [beq_eq_false_iff_ne] at *; rw [lim]; simp only [*, if_false, or_false]; rw [if_neg (by omega)])
    | skip
  go_quiet (fail)
  go_wp2
  go_ret2
  refine ⟨pair_eq ?_, below_drewN ((Below.refl _ _).alloc (Nat.le_refl _) _) _⟩
  simp only [beq_iff_eq, beq_eq_false_iff_ne] at *
  simp [lim, *]

set_option maxHeartbeats 1000000 in
theorem Arity_any (x : Nd) (w : World) :
    Calls Try.prog 53 #[.agg #[.int .i64 x.1, .int .i64 x.2]] w fun e w' => e = .returned (.int .i64 (ar x)) ∧ Below w.heap.size w w' := by
  obtain ⟨t, n⟩ := x
  go_enter Try.func53, Try.ntmps53
  go_wp2_with (go_at_call 75; refine (limits_any _ _ _).mono ?_; rintro e w1 ⟨rfl, hb⟩; obtain ⟨hc, hf⟩ := bcell hb)
  all_goals go_ret
  · refine ⟨ret_int ?_, (Below.refl _ _).alloc (Nat.le_refl _) _⟩
    simp_all [ar]
  all_goals
    refine ⟨ret_int ?_, ((Below.refl _ _).alloc (Nat.le_refl _) _).trans (hb.mono (by simp))⟩
    simp only [beq_eq_false_iff_ne, ne_eq, ar] at *
    rw [if_neg (by assumption)]
    first | rw [if_pos (by omega)] | rw [if_neg (by omega)]

end Go.Proofs.Ytbnmkdlmalobaaa
end

section
namespace Go.Proofs.Ytbnmkdlmalobaaa
open Go.RowKit
set_option maxHeartbeats 1000000 in
theorem End_any (l : List Nd) (i : Int) (v : Value) (w : World) (hv : NodesAt w v l) (hl : l.length ≤ 4000000) :
    Calls Try.prog 29 #[v, .int .i64 i] w fun e w' => e = .returned (.int .i64 (endv l i)) ∧ Below w.heap.size w w' := by
  by_cases h0 : i < 0
  · go_enter Try.func29, Try.ntmps29
    go_wp2
    go_step3
    go_wp2
    rw [Exit.noGoto_ret]
    go_ret
    exact ⟨ret_int (endv_neg l i h0).symm, Below.refl _ _⟩
  · obtain ⟨k0, rfl⟩ := Int.eq_ofNat_of_zero_le (Int.not_lt.1 h0)
    rcases hv.open with ⟨rfl, p, cap, rfl⟩ | ⟨b, o, cap, rfl, hpos, hcap, hbs, hcell⟩
    · go_enter Try.func29, Try.ntmps29
      go_wp2
      go_step3
      go_wp2
      go_step3
      go_wp2
      rw [Exit.noGoto_ret]
      go_ret
      exact ⟨ret_int (by rw [endv_nat, fin_end _ _ _ (by omega) (by simp)]), Below.refl _ _⟩
    · clear hv
      go_enter Try.func29, Try.ntmps29
      go_wp2
      refine wp_scope_jumps 0 (fun a' w' => Below w.heap.size w w' ∧ ∃ (k : Nat) (t : Int) (u7 u8 u9 u10 u11 u12 u13 u14 u15 u16 u17 u18 u19 u20 u21 u22 u23 u24 u25 u26 u27 u28 u29 u30 : Value),
        a' = { tmps := #[.slice (some ⟨b, o, none⟩) l.length cap, .int .i64 k0, undef, undef, .int .i64 0, .int .i64 k, .int .i64 t, u7, u8, u9, u10, u11, u12, u13, u14, u15, u16, u17, u18, u19, u20, u21, u22, u23, u24, u25, u26, u27, u28, u29, u30], defers := [] } ∧
        1 ≤ t ∧ t ≤ 1 + 200 * (k - k0) ∧ k0 ≤ k ∧ (k ≤ l.length ∨ k = k0) ∧ endv l k0 = fin k (scan t.toNat (l.drop k))) (fun a' _ => l.length - (intOf (a'.tmps.getD 5 undef)).toNat) rfl ?_ ?_
      · have he := Lib.hid (endv_nat l k0)
        by_cases hk : k0 < l.length
        · obtain ⟨hc0, hc1⟩ := hcell k0 hk
          clear hcell
          go_wp2
          go_step3
          have hab := ar_bound l[k0]
          go_wp2_with (go_at_call 53; refine (Arity_any l[k0] _).mono ?_; rintro e w1 ⟨rfl, hb⟩)
          · simp only [Exit.jump]
            go_ret
            exact ⟨ret_int (by rw [he.out, fin_bad l k0 1 (by omega) hk (by assumption)]), hb⟩
          · go_step3
            exact ⟨rfl, hb, k0 + 1, _, _, _, _, _, _, _, _, _, _, _, _, _, _, _, _, _, _, _, _, _, _, _, _, _, rfl, by omega, by omega, by omega, .inl (by omega), by rw [he.out, fin_go l k0 1 (by omega) hk (by assumption)]⟩
          · simp only [Exit.jump]
            go_ret
            exact ⟨ret_int (by rw [he.out, fin_stop l k0 1 (by omega) hk (by assumption) (by assumption)]), hb⟩
        · clear hcell
          go_wp2
          go_step3
          go_wp2
          simp only [Exit.jump]
          go_ret
          exact ⟨ret_int (by rw [he.out, fin_end l k0 1 (by omega) (by omega)]), Below.refl _ _⟩
      · rintro a' w' ⟨hB, k, t, u7, u8, u9, u10, u11, u12, u13, u14, u15, u16, u17, u18, u19, u20, u21, u22, u23, u24, u25, u26, u27, u28, u29, u30, rfl, ht1, ht2, hk0, hkl, he⟩
        have he := Lib.hid he
        by_cases hk : k < l.length
        · obtain ⟨hc0, hc1⟩ := hcell k hk
          have hc0 : w'.cell? ⟨b, o + k * 2, none⟩ = some (.int .i64 l[k].1) := (hB.cell (p := ⟨b, o + k * 2, none⟩) hbs).trans hc0
          have hc1 : w'.cell? ⟨b, o + k * 2 + 1, none⟩ = some (.int .i64 l[k].2) := (hB.cell (p := ⟨b, o + k * 2 + 1, none⟩) hbs).trans hc1
          clear hcell
          have hab := ar_bound l[k]
          go_wp2_with (go_at_call 53; refine (Arity_any l[k] _).mono ?_; rintro e w1 ⟨rfl, hb⟩)
          · simp only [Exit.jump]
            go_ret
            exact ⟨ret_int (by rw [he.out, fin_bad l k t ht1 hk (by assumption)]), hB.trans (hb.mono hB.size)⟩
          · go_step3
            refine ⟨rfl, ⟨hB.trans (hb.mono hB.size), k + 1, _, _, _, _, _, _, _, _, _, _, _, _, _, _, _, _, _, _, _, _, _, _, _, _, _, rfl, by omega, by omega, by omega, .inl (by omega), by rw [he.out, fin_go l k t ht1 hk (by assumption)]⟩, ?_⟩
            simp [intOf]
            omega
          · simp only [Exit.jump]
            go_ret
            exact ⟨ret_int (by rw [he.out, fin_stop l k t ht1 hk (by assumption) (by assumption)]), hB.trans (hb.mono hB.size)⟩
        · clear hcell
          go_wp2
          simp only [Exit.jump]
          go_ret
          exact ⟨ret_int (by rw [he.out, fin_end l k t ht1 (by omega)]), hB⟩
end Go.Proofs.Ytbnmkdlmalobaaa
end

section
namespace Go.Proofs.Ytbnmkdlmalobaaa
open Go.RowKit Go.Shelf
set_option linter.unusedVariables false
attribute [local go_sem] Oper.semAt_some
@[go_sem] theorem wide_fn (f : FuncId) : Fence.wide.fn f = True := rfl
@[go_sem] theorem wide_depth : Fence.wide.depth = none := rfl

set_option maxRecDepth 100000 in
set_option maxHeartbeats 2000000 in
/-- The closure of arena.kids: for every loop body that keeps the blocks of S. -/
theorem kids1_in (n : Nat) (lp Bl Ba : Nat) (S : Nat → Prop) (l : List Nd) (i : Nat) (v : Value) (J Jx : List Int → World → Prop) (hi : i < l.length) (har : 0 ≤ arAt l i) (hl : l.length ≤ 4000000) (hSl : S Bl) (hSa : S Ba)
    (hY : ∀ pre x W, J pre W → pre.length < (arAt l i).toNat → YieldAt Fence.wide (n - 1) Try.prog lp #[.int .i64 x] W fun e W' =>
      (e = .returned (.bool true) ∧ J (pre ++ [x]) W' ∧ Kept S W W') ∨ (e = .returned (.bool false) ∧ Jx (pre ++ [x]) W'))
    (W : World) (hSW : ∀ k, S k → k < W.heap.size) (hJ : ∀ pre A B, J pre A → Below A.heap.size A B → J pre B) (hbl : W.cell? ⟨Bl, 0, none⟩ = some v) (hba : W.cell? ⟨Ba, 0, none⟩ = some (.int .i64 i)) (hv : NodesIn S W v l) (h0 : J [] W) :
    CallsIn Fence.wide n Try.prog 73 #[.func (.yield lp) #[] #[], .pointer (some ⟨Ba, 0, none⟩), .pointer (some ⟨Bl, 0, none⟩)] W fun e W' => (∃ v, e = .returned v) ∧
      ((∃ ys, ys = upto (kth l (i + 1)) (arAt l i).toNat ∧ J ys W') ∨ (∃ pre, (∃ k, k ≤ (arAt l i).toNat ∧ pre = upto (kth l (i + 1)) k) ∧ Jx pre W')) := by
  refine callsIn_of_wp Try.func73 rfl trivial ?_ rfl
  simp only [Try.ntmps73, List.size_toArray, List.length_cons, List.length_nil, Nat.reduceAdd, Nat.reduceSub, Array.replicate_succ, Array.replicate_zero, List.push_toArray, List.append_toArray, List.nil_append, List.cons_append]
  rcases hv.open with ⟨rfl, _⟩ | ⟨b, o, cap, rfl, hpos, hcap, hbs, hcell⟩
  · simp at hi
  · obtain ⟨hc0, hc1⟩ := hcell i hi
    have hab := ar_bound l[i]
    rw [arAt_in l i hi] at har hY ⊢
    have hSB : ∀ B : World, W.heap.size ≤ B.heap.size → ∀ k, S k → k < B.heap.size := fun B h k hk => Nat.lt_of_lt_of_le (hSW k hk) h
    gi_wp2_with (gi_at_call 53; refine (callsIn_wide.2 (Arity_any l[i] _)).mono ?_; rintro e w1 ⟨rfl, hb⟩)
    gi_loopw [4, 12] (fun k c wr => ∃ m : Nat, (m : Int) ≤ ar l[i] ∧ c = .int .i64 m ∧ k = .int .i64 (kth l (i + 1) m) ∧ J (upto (kth l (i + 1)) m) wr ∧ Kept S W wr) (fun _ c _ => (ar l[i] - intOf c).toNat)
    case atStart =>
      exact ⟨0, har, rfl, rfl, hJ _ _ _ h0 hb, kept_of hb hSW⟩
    case round =>
      obtain ⟨m, hm, rfl, rfl, hJs, hkw⟩ := hrel
      by_cases hlt : (m : Int) < ar l[i]
      · obtain ⟨fn, tmps, assign, body, hy, hR⟩ := hY _ (kth l (i + 1) m) wr hJs (by rw [upto_length]; omega)
        gi_wp2
        refine hR.mono ?_
        rintro e W3 (⟨rfl, hJ3, hk3⟩ | ⟨rfl, hJx3⟩)
        · have hk3' := hkw.trans hk3
          have hbl3 : W3.cell? ⟨Bl, 0, none⟩ = some (.slice (some ⟨b, o, none⟩) l.length cap) := (hk3'.cell (p := ⟨Bl, 0, none⟩) hSl).trans hbl
          have hv3 : NodesAt W3 (.slice (some ⟨b, o, none⟩) l.length cap) l := (hv.kept hk3').mono (hSB W3 hk3'.size)
          gi_wp2_with (gi_at_call 29; refine (callsIn_wide.2 (End_any l _ _ _ hv3 hl)).mono ?_; rintro e w4 ⟨rfl, hb4⟩)
          go_roundw
          case rel => exact ⟨m + 1, by omega, by go_num, rfl, by rw [upto_succ]; exact hJ _ _ _ hJ3 hb4, hk3'.trans (kept_of hb4 (hSB W3 hk3'.size))⟩
          case measure => simp [intOf]; omega
        · gi_wp2
          refine bodyPost_ret (results_none rfl _ _ _) rfl ?_
          exact ⟨⟨_, rfl⟩, .inr ⟨_, ⟨m + 1, by omega, (upto_succ _ _).symm⟩, hJx3⟩⟩
      · gi_wp2
        go_end0
        exact ⟨⟨_, rfl⟩, .inl (by rw [show (ar l[i]).toNat = m from by omega]; exact hJs)⟩

/-- arena.kids hands back a value that goes over a node's kids. -/
theorem kids_in (n : Nat) (v : Value) (p : Option Addr) (len cap : Nat) (hv : v = .slice p len cap) (i : Int) (w : World) :
    CallsIn Fence.wide n Try.prog 51 #[v, .int .i64 i] w fun e w' =>
      e = .returned (.func (.func 73) #[] #[.pointer (some ⟨w.heap.size + 1, 0, none⟩), .pointer (some ⟨w.heap.size, 0, none⟩)]) ∧
      w' = (w.alloc (.cells #[v] 23)).alloc (.cells #[.int .i64 i] 3) := by
  subst hv
  refine callsIn_of_wp Try.func51 rfl trivial ?_ rfl
  simp only [Try.ntmps51, List.size_toArray, List.length_cons, List.length_nil, Nat.reduceAdd, Nat.reduceSub, Array.replicate_succ, Array.replicate_zero, List.push_toArray, List.append_toArray, List.nil_append, List.cons_append]
  gi_wp2
  go_ret
  exact ⟨rfl, rfl⟩

/-- AbidesFrom carries an invariant over whatever makes memory alone. -/
theorem abides_below {β : Type} {B : Nat} {J : β → World → Prop} (h : AbidesFrom B J) {s : β} {A C : World} (hj : J s A) (hb : Below A.heap.size A C) : J s C :=
  h s A C none hj ⟨hb.os, hb.tape, hb.output, hb.size, fun k hk _ => hb.block k hk⟩ (fun r e => by cases e)

theorem kids_stops (n : Nat) (Bl Ba : Nat) (S : Nat → Prop) (l : List Nd) (i : Nat) (v : Value) (hi : i < l.length) (har : 0 ≤ arAt l i) (hl : l.length ≤ 4000000) (hSl : S Bl) (hSa : S Ba)
    (w : World) (hSW : ∀ k, S k → k < w.heap.size) (hbl : w.cell? ⟨Bl, 0, none⟩ = some v) (hba : w.cell? ⟨Ba, 0, none⟩ = some (.int .i64 i)) (hv : NodesIn S w v l) :
    SeqStopsK Fence.wide n Try.prog 73 #[.pointer (some ⟨Ba, 0, none⟩), .pointer (some ⟨Bl, 0, none⟩)] (fun x : Int => #[Value.int .i64 x]) (Kept S)
      (fun ys => ys = upto (kth l (i + 1)) (arAt l i).toNat) (fun pre => ∃ k, k ≤ (arAt l i).toNat ∧ pre = upto (kth l (i + 1)) k) (arAt l i).toNat w := fun lp J Jx W hW hJ hJx hY h0 => by
  have hk : Kept S w W := kept_of hW hSW
  exact kids1_in n lp Bl Ba S l i v J Jx hi har hl hSl hSa hY W (fun k hs => Nat.lt_of_lt_of_le (hSW k hs) hk.size) (fun pre A B hj hb => abides_below hJ hj hb)
    ((hk.cell (p := ⟨Bl, 0, none⟩) hSl).trans hbl) ((hk.cell (p := ⟨Ba, 0, none⟩) hSa).trans hba) (hv.kept hk) h0

/-- 'out = append(out, x)', out in a box ahead of n₀: what becomes of everything. -/
theorem boxed_appended {W w1 : World} {n₀ B : Nat} {t e : TypeId} {size : Nat} {v v' : Value} {k m : Nat} {xs ys : List Value} {tmp : Obj}
    (hv : Boxed W B t v) (hte : t ≠ e) (hrow : W.ownsRow n₀ e size v k xs) (hn₀ : n₀ ≤ W.heap.size)
    (hown' : w1.ownsRow n₀ e size v' m ys) (hgrow : (W.alloc tmp).grownBy w1 v.ownBlock) :
    Boxed w1 B t v ∧ Boxed (w1.setCell ⟨B, 0, none⟩ v') B t v' ∧ (w1.setCell ⟨B, 0, none⟩ v').ownsRow n₀ e size v' m ys ∧ KeepsOthers W (w1.setCell ⟨B, 0, none⟩ v') ∧
      (∀ S : Nat → Prop, (∀ j, S j → j < n₀ ∧ j ≠ B) → Kept S W (w1.setCell ⟨B, 0, none⟩ v')) ∧ (∀ B0, B0 ≤ B → B0 ≤ n₀ → Below B0 W (w1.setCell ⟨B, 0, none⟩ v')) := by
  have hv1 : Boxed w1 B t v := (hv.alloc tmp).kept hgrow (hv.not_row hte hrow)
  have hbl : ∀ j, v.ownBlock = some j → n₀ ≤ j := fun j ej => (hrow.lt j ej).1
  refine ⟨hv1, hv1.set v', hown'.kept (grownBy_setCell' w1 B v') (.inr (hv1.not_row hte hown').symm), ?_, ?_, ?_⟩
  · refine ((KeepsOthers.alloc W tmp).trans (KeepsOthers.of_grownBy hgrow fun j o ej hj => ?_)).trans (KeepsOthers.setCell _ _ _)
    rcases (hrow.alloc tmp).2 with ⟨rfl, _⟩ | ⟨g, cap, cur, rfl, _, hgb, _⟩
    · simp [Value.ownBlock] at ej
    · obtain rfl : g = j := by simpa [Value.ownBlock] using ej
      rw [hgb] at hj; cases hj; rfl
  · intro S hS
    refine kept_setCell (kept_grown (kept_alloc (Kept.refl S W) (fun j hj => by have := (hS j hj).1; omega) tmp) hgrow (fun j hj => by have := (hS j hj).1; simp; omega) (fun j ej hj => ?_)) (fun hj => (hS _ hj).2 rfl) _
    have := hbl j ej; have := (hS j hj).1; omega
  · intro B0 h1 h2
    refine (((Below.refl B0 W).alloc (by omega) tmp).grown hgrow (by simp; omega) fun j ej => ?_).setCell (p := ⟨B, 0, none⟩) h1 v'
    have := hbl j ej; omega

theorem ownFrom_size {β : Type} (B m : Nat) : OwnFrom B (fun (_ : β) W => m ≤ W.heap.size) := fun _ _ _ _ hs hg _ => Nat.le_trans hs hg.size

theorem grown_of_below {w w' : World} (hb : Below w.heap.size w w') (row : Option Nat) : w.grownBy w' row := ⟨hb.os, hb.tape, hb.output, hb.size, fun k hk _ => hb.block k hk⟩
theorem ownsRow_below {w w' : World} {base : Nat} {e : TypeId} {size : Nat} {v : Value} {n : Nat} {xs : List Value} (h : w.ownsRow base e size v n xs) (hb : Below w.heap.size w w') : w'.ownsRow base e size v n xs :=
  h.kept (grown_of_below hb none) (by cases v.ownBlock <;> simp)

/-- A row of ints that the call owns reads as the ints. -/
theorem ownsRow_ints {w : World} {base : Nat} {e : TypeId} {v : Value} {l : List Int} (h : w.ownsRow base e 1 v l.length (l.map (Value.int .i64))) : IntsIn (fun k => base ≤ k ∧ k < w.heap.size) w v l := by
  by_cases hl : l.length = 0
  · refine .inl ?_
    rcases h.2 with ⟨rfl, _⟩ | ⟨g, cap, cur, rfl, _⟩
    · exact ⟨none, 0, rfl, hl, by simpa using hl, fun _ => rfl⟩
    · exact ⟨some ⟨g, 0, none⟩, cap, by rw [hl], hl, by simpa using hl, fun h => by cases h⟩
  · have hlt := h.lt
    rcases h.2 with ⟨_, h0⟩ | ⟨g, cap, cur, rfl, hb, hg, hc, _⟩
    · exact absurd h0 hl
    · refine .inr ⟨g, 0, cap, rfl, by omega, hc, ⟨hb, (hlt g rfl).2⟩, fun j hj => ?_⟩
      have := h.cellAt j (by simpa using hj)
      simpa using this

theorem infoInt : (Try.prog.info? 3).map (fun i => (i.zero, i.size, i.bytes)) = some (some (.int .i64 0), 1, 8) := by kernel_rfl

set_option maxRecDepth 100000 in
set_option maxHeartbeats 2000000 in
theorem Kids_in (n : Nat) (hn : 3 ≤ n) (l : List Nd) (i : Int) (v : Value) (w : World) (hv : NodesAt w v l) (hl : l.length ≤ 4000000) :
    CallsIn Fence.wide n Try.prog 27 #[v, .int .i64 i] w fun e W' => ∃ u, e = .returned u ∧ IntsIn (fun k => w.heap.size ≤ k ∧ k < W'.heap.size) W' u (kidsv l i) ∧ Below w.heap.size w W' := by
  have h1 : 1 ≤ n := by omega
  obtain ⟨i0, hi, hz0, hz1, hz2⟩ := info_parts infoInt
  refine callsIn_of_wp_marks Try.func27 rfl trivial ?_ rfl
  simp only [Try.ntmps27, List.size_toArray, List.length_cons, List.length_nil, Nat.reduceAdd, Nat.reduceSub, Array.replicate_succ, Array.replicate_zero, List.push_toArray, List.append_toArray, List.nil_append, List.cons_append]
  rcases endv_bound l i with hE | hE
  · have hlt : endv l i < 0 := by omega
    have HK := Lib.hid (kidsv_no l i hlt)
    clear hE
    gi_wp2_with (gi_at_call 29; refine (callsIn_wide.2 (End_any l _ _ _ hv hl)).mono ?_; rintro e w1 ⟨rfl, hb⟩)
    exact ⟨_, results_tmp rfl _ _ _, _, rfl, by rw [HK.out]; exact .inl ⟨none, 0, rfl, rfl, rfl, fun _ => rfl⟩, hb⟩
  · obtain ⟨hi0, hil⟩ := endv_in l i hE
    obtain ⟨k, rfl⟩ := Int.eq_ofNat_of_zero_le hi0
    have hnlt : ¬ endv l k < 0 := by omega
    have hkl : k < l.length := by simpa using hil
    have hab := arAt_bound l k
    have har := endv_ar l k hE
    obtain ⟨p, cap, rfl⟩ := hv.slice
    have HK := Lib.hid (kidsv_eq l k hE)
    gi_wp2_with (first | (gi_at_call 29; refine (callsIn_wide.2 (End_any l _ _ _ hv hl)).mono ?_; rintro e w1 ⟨rfl, hb⟩) | (gi_at_call 51; refine (kids_in _ _ _ _ _ rfl _ _).mono ?_; rintro e w2 ⟨rfl, rfl⟩))
    have hsz := hb.size
    have bO := Boxed.new w1 22 (.slice none 0 0)
    have bL := Boxed.new (w1.alloc (.cells #[.slice none 0 0] 22)) 23 (.slice p l.length cap)
    have bA := Boxed.new ((w1.alloc (.cells #[.slice none 0 0] 22)).alloc (.cells #[.slice p l.length cap] 23)) 3 (.int .i64 k)
    rw [World.size_alloc] at bL
    rw [World.size_alloc, World.size_alloc] at bA
    obtain ⟨W0, hW0⟩ : ∃ W0, ((w1.alloc (.cells #[.slice none 0 0] 22)).alloc (.cells #[.slice p l.length cap] 23)).alloc (.cells #[.int .i64 k] 3) = W0 := ⟨_, rfl⟩
    have bO := (bO.alloc (.cells #[.slice p l.length cap] 23)).alloc (.cells #[.int .i64 k] 3)
    have bL := bL.alloc (.cells #[.int .i64 k] 3)
    have hB0 : Below w1.heap.size w1 W0 := by rw [← hW0]; exact (((Below.refl _ w1).alloc (Nat.le_refl _) _).alloc (by simp) _).alloc (by simp; omega) _
    have hS0 : W0.heap.size = w1.heap.size + 3 := by rw [← hW0]; simp
    have hBw : Below w.heap.size w W0 := hb.trans (hB0.mono hsz)
    rw [hW0] at bO bL bA ⊢
    refine wpIn_rangeFunc_ownG rfl h1 (gf := 73) (lb := #[.pointer (some ⟨w1.heap.size + 1 + 1, 0, none⟩), .pointer (some ⟨w1.heap.size + 1, 0, none⟩)]) rfl trivial (enters_of Try.func73 (by kernel_rfl) rfl)
      (kids_stops (n - 1) (w1.heap.size + 1) (w1.heap.size + 1 + 1) (fun j => j < w1.heap.size + 3 ∧ j ≠ w1.heap.size) l k _ hkl har hl ⟨by omega, by omega⟩ ⟨by omega, by omega⟩ W0 (fun j hj => by have := hj.1; omega) bL.cell bA.cell
        ((hv.kept (kept_below hBw)).mono (fun j hj => ⟨by omega, by omega⟩)))
      (fun h h' => h.trans h') (fun W lp o o' hlp ho _ _ => ⟨by simp, fun j hj => World.putObj_heap_other (by have := hj.1; omega)⟩) (Below.refl _ _) (fun _ => rfl)
      (fun pre W => (∃ u, Boxed W w1.heap.size 22 u ∧ W.ownsRow (w1.heap.size + 3) 3 1 u pre.length (pre.map (Value.int .i64)) ∧ True) ∧ Below w.heap.size w W ∧ w1.heap.size + 3 ≤ W.heap.size)
      (fun _ _ _ => False)
      (OwnFrom.and (Own.from (holdsRow_own (w1.heap.size + 3) w1.heap.size 22 3 1 (fun pre : List Int => pre.length) (fun pre => pre.map (Value.int .i64)) (fun _ _ => True)) _) (OwnFrom.and (ownFrom_below (Nat.le_refl _) (by omega)) (ownFrom_size _ _)))
      (fun _ _ _ _ _ hs _ _ => hs)
      ⟨⟨_, bO, World.ownsRow_nil _ _ _ _, trivial⟩, hBw, by omega⟩
      (fun x => { tmps := #[.slice p l.length cap, .int .i64 k, undef, undef, .slice none 0 0, .pointer (some ⟨w1.heap.size, 0, none⟩), .int .i64 x, .slice p l.length cap, .int .i64 k, .int .i64 (endv l k), .bool (decide (endv l k < 0)), .slice p l.length cap, .int .i64 k, .func (.func 73) #[] #[.pointer (some ⟨w1.heap.size + 1 + 1, 0, none⟩), .pointer (some ⟨w1.heap.size + 1, 0, none⟩)], .int .i64 x, undef, undef, undef, undef, undef], defers := [] }) ?assign ?body ?done ?stop
    case assign =>
      intro lp x W K hK
      gi_wp2
      exact hK
    case body =>
      rintro lp pre x W ⟨⟨u, hv1, hrow, _⟩, hB, hWs⟩ hlt
      have hc := hv1.cell
      have hN : pre.length < 200 := by omega
      gi_wp2_with (gi_at_builtin; refine wpListIn_append_own _ rfl _ _ 22 rfl (w1.heap.size + 3) 3 i0 (.int .i64 0) 1 8 Try.underlying22 hi hz0 hz1 hz2 rfl (by decide) _ _ _ rfl (hrow.alloc _) ⟨W.heap.size, 0, none⟩ 1 1 [.int .i64 x] rfl rfl (cell_one_new _ _ _) (by simp [Value.oneCell']) (by unfold maxLen; omega) (by omega) (by simp; omega) ?_; intro v' w3 hown' hgrow _; obtain ⟨g', cap', rfl⟩ := ownsRow_succ hown'; obtain ⟨hv3, hv4, hr4, hk4, hS4, hB4⟩ := boxed_appended hv1 (by decide) hrow hWs hown' hgrow; have hc3 := hv3.cell; have hf3 := hv3.frozen)
      exact ⟨hk4.from _, hS4 _ (fun j hj => hj), ⟨_, hv4, by simpa using hr4, trivial⟩, hB.trans (hB4 _ (by omega) (by omega)), Nat.le_trans hWs (hB4 0 (by omega) (by omega)).size⟩
    case done =>
      rintro D ys W hD rfl ⟨⟨u, hv1, hrow, _⟩, hB, hWs⟩ hK
      have hc := hv1.cell
      gi_wp2
      refine ⟨by simp, .inl ⟨_, _, rfl, run_takeDeferred hK, ?_⟩⟩
      refine ⟨_, results_tmp rfl _ _ _, u, rfl, ?_, hB.trans (belowK_b (w := w) (Nat.le_refl _) W D _ _ (by omega) hK rfl rfl)⟩
      rw [HK.out]
      exact (ownsRow_ints (ownsRow_putObj hrow _ hK rfl)).mono (fun j hj => ⟨by omega, hj.2⟩)
    case stop =>
      rintro D c pre W _ _ h _
      exact h.elim
end Go.Proofs.Ytbnmkdlmalobaaa
end
