/-
  What operations come to on plain lists and numbers: rules for simp. Nothing here names the program.
-/
import Derived.Test.YtnmgfobpcengkaaDenKit
import Derived.Test.YtnmgfobpcengkaaDenK
import Derived.IntWalk
namespace Go.Proofs.Ytnmgfobpcengkaa
open Go.RowKit
set_option linter.unusedVariables false

section
variable {α : Type}
@[simp] theorem thn_some (d : D) (k : D → Option α) : thn (some d) k = k d := rfl
@[simp] theorem thn_none (k : D → Option α) : thn none k = none := rfl
@[simp] theorem thn_if (c : Prop) [Decidable c] (x y : Option D) (k : D → Option α) : thn (if c then x else y) k = if c then thn x k else thn y k := by split <;> rfl
@[simp] theorem condK_bool (b : Bool) (x y : Option α) : condK (.v (.bool b)) x y = if b = true then x else y := by cases b <;> rfl
end
@[simp] theorem notD_bool (b : Bool) : notD (.v (.bool b)) = some (.v (.bool !b)) := rfl
@[simp] theorem pickD_bool (b : Bool) (x y : D) : pickD (.v (.bool b)) x y = some (if b then x else y) := rfl
@[simp] theorem binK_int (k : Kd) (op : BinOp) (j : IntKind) (a b : Int) : binK k op (.v (.int j a)) (.v (.int j b)) = intD op j a b := by simp [binK]
@[simp] theorem binK_bool_eq (a b : Bool) : binK .bool .eql (.v (.bool a)) (.v (.bool b)) = some (.v (.bool (a == b))) := rfl
@[simp] theorem binK_bool_ne (a b : Bool) : binK .bool .neq (.v (.bool a)) (.v (.bool b)) = some (.v (.bool (!(a == b)))) := rfl
@[simp] theorem intD_eql (j : IntKind) (a b : Int) : intD .eql j a b = some (bD (a == b)) := rfl
@[simp] theorem intD_neq (j : IntKind) (a b : Int) : intD .neq j a b = some (bD (a != b)) := rfl
@[simp] theorem intD_lss (j : IntKind) (a b : Int) : intD .lss j a b = some (bD (decide (a < b))) := rfl
@[simp] theorem intD_leq (j : IntKind) (a b : Int) : intD .leq j a b = some (bD (decide (a ≤ b))) := rfl
@[simp] theorem intD_gtr (j : IntKind) (a b : Int) : intD .gtr j a b = some (bD (decide (b < a))) := rfl
@[simp] theorem intD_geq (j : IntKind) (a b : Int) : intD .geq j a b = some (bD (decide (b ≤ a))) := rfl
theorem wrap_in (x : Int) (h1 : -9223372036854775808 ≤ x) (h2 : x ≤ 9223372036854775807) : IntKind.i64.wrap x = x := IntWalk.i64_in x ⟨h1, h2⟩
theorem intD_add (a b : Int) (h1 : -9223372036854775808 ≤ a + b) (h2 : a + b ≤ 9223372036854775807) : intD .add .i64 a b = some (iD (a + b)) := by rw [intD, wrap_in _ h1 h2]
theorem intD_sub (a b : Int) (h1 : -9223372036854775808 ≤ a - b) (h2 : a - b ≤ 9223372036854775807) : intD .sub .i64 a b = some (iD (a - b)) := by rw [intD, wrap_in _ h1 h2]
@[simp] theorem lenK_nodes (l : List Nd) : lenK .sl (nodesD l) = some (iD l.length) := by simp [lenK, nodesD]
@[simp] theorem lenK_ints (l : List Int) : lenK .sl (intsD l) = some (iD l.length) := by simp [lenK, intsD]
@[simp] theorem lenK_nil : lenK .sl (.v (.slice none 0 0)) = some (iD 0) := rfl
@[simp] theorem natD_int (k : IntKind) (n : Int) : natD (.v (.int k n)) = if 0 ≤ n then some n.toNat else none := rfl
theorem idx_nodes (l : List Nd) (i : Int) (h0 : 0 ≤ i) (h : i.toNat < l.length) : idxD 2 (nodesD l) (iD i) = some (.ptr (nodeD l[i.toNat])) := by
  simp [idxD, h0, h]
theorem idx_ints (l : List Int) (i : Int) (h0 : 0 ≤ i) (h : i.toNat < l.length) : idxD 1 (intsD l) (iD i) = some (.ptr (oneI l[i.toNat])) := by
  simp [idxD, h0, h]
@[simp] theorem load_node (x : Nd) : loadD (some 2) (.ptr (nodeD x)) = some (.agg (nodeD x)) := rfl
@[simp] theorem load_one (n : Int) : loadD none (.ptr (oneI n)) = some (iD n) := rfl
@[simp] theorem box_node (x : Nd) : boxD (.agg (nodeD x)) = some (.ptr (nodeD x)) := rfl
@[simp] theorem fieldAt_node0 (x : Nd) : fieldAtD 0 (.ptr (nodeD x)) = some (.ptr (nodeD x)) := rfl
@[simp] theorem fieldAt_node1 (x : Nd) : fieldAtD 1 (.ptr (nodeD x)) = some (.ptr [iD x.2]) := rfl
@[simp] theorem load_node0 (x : Nd) : loadD none (.ptr (nodeD x)) = some (iD x.1) := rfl
@[simp] theorem load_cell (d : D) : loadD none (.ptr [d]) = some d := rfl
@[simp] theorem field_node0 (x : Nd) : fieldD none 0 (.agg (nodeD x)) = some (iD x.1) := rfl
@[simp] theorem field_node1 (x : Nd) : fieldD none 1 (.agg (nodeD x)) = some (iD x.2) := rfl
@[simp] theorem asNd_node (x : Nd) : asNd (.agg (nodeD x)) = some x := rfl
@[simp] theorem binK_node (x y : Nd) : binK (.ints 2) .eql (.agg (nodeD x)) (.agg (nodeD y)) = some (bD (decide (x = y))) := by
  obtain ⟨a, b⟩ := x
  obtain ⟨c, d⟩ := y
  simp [binK, eqStructD, nodeD, intsOf]

/-- What a function gives by its text is what a call of it gives. -/
theorem law_walk {P : Program} {T : Tab} (hT : TabOk P T) (hm : P.follows .mixedOrders = true) {f : FuncId} {fn : Func} (hf : P.funcs[f]? = some fn) (hb : fn.body.isSome = true) (hname : fn.name ≠ "runtime.NumGoroutine") {n : Nat} {ds : List D} (h : textK P T n fn ds = some (bD true))
    {vs : List Value} {w : World} (hv : RepA (· < w.heap.size) w vs ds) : Calls P f vs.toArray w fun e w' => e = .returned (.bool true) ∧ Below w.heap.size w w' := by
  have hc : CallOk P f (fun xs => textK P T n fn xs) := callOk_text hT hm hf hb hname fun xs d hd => ⟨n, hd⟩
  refine (hc.calls ds _ h vs w hv).mono ?_
  rintro e w' ⟨v, rfl, h1, h2⟩
  simp only [RepAt, Rep] at h1
  exact ⟨by rw [h1], h2⟩
theorem rep_int {S : Nat → Prop} {w : World} (n : Int) : Rep S w (.int .i64 n) (iD n) := by simp only [Rep]
theorem rep_node {S : Nat → Prop} {w : World} (x : Nd) : Rep S w (.agg #[.int .i64 x.1, .int .i64 x.2]) (.agg (nodeD x)) := by
  simp only [Rep]
  exact ⟨_, rfl, nodeRep x⟩
end Go.Proofs.Ytnmgfobpcengkaa
