/-
  Chapter 8's laws, called.
-/
import Derived.Test.YtnmgfobpcengkaaLaw08
namespace Go.Proofs.Ytnmgfobpcengkaa
open Go.RowKit
set_option linter.unusedVariables false

theorem arenaChecks_walk (l : List Nd) (v : Value) (k : List Nd) (u : Value) (x : Nd) (w : World) (hv : NodesAt w v l) (hu : NodesAt w u k) :
    Calls Try.prog 8 #[v, u, .agg #[.int .i64 x.1, .int .i64 x.2]] w fun e w' => e = .returned (.bool true) ∧ Below w.heap.size w w' :=
  law_walk L08_ok mixed Try.func8 (by kernel_rfl) (by decide) (arenaChecks_text l k x) (vs := [v, u, .agg #[.int .i64 x.1, .int .i64 x.2]]) (RepA.cons (nodesD_rep hv) (RepA.cons (nodesD_rep hu) (RepA.cons (rep_node x) RepA.nil)))
theorem arenaTells_walk (l : List Nd) (v : Value) (i : Int) (r : List Nd) (u : Value) (w : World) (hv : NodesAt w v l) (hu : NodesAt w u r) :
    Calls Try.prog 9 #[v, .int .i64 i, u] w fun e w' => e = .returned (.bool true) ∧ Below w.heap.size w w' :=
  law_walk L08_ok mixed Try.func9 (by kernel_rfl) (by decide) (arenaTells_text l r i) (vs := [v, .int .i64 i, u]) (RepA.cons (nodesD_rep hv) (RepA.cons (rep_int i) (RepA.cons (nodesD_rep hu) RepA.nil)))
theorem arenaBack_walk (l : List Nd) (v : Value) (i : Int) (r : List Nd) (u : Value) (w : World) (hv : NodesAt w v l) (hu : NodesAt w u r) :
    Calls Try.prog 11 #[v, .int .i64 i, u] w fun e w' => e = .returned (.bool true) ∧ Below w.heap.size w w' :=
  law_walk L08_ok mixed Try.func11 (by kernel_rfl) (by decide) (arenaBack_text l r i) (vs := [v, .int .i64 i, u]) (RepA.cons (nodesD_rep hv) (RepA.cons (rep_int i) (RepA.cons (nodesD_rep hu) RepA.nil)))
theorem arenaElse_walk (l : List Nd) (v : Value) (i : Int) (r : List Nd) (u : Value) (j : Int) (w : World) (hv : NodesAt w v l) (hu : NodesAt w u r) :
    Calls Try.prog 12 #[v, .int .i64 i, u, .int .i64 j] w fun e w' => e = .returned (.bool true) ∧ Below w.heap.size w w' :=
  law_walk L08_ok mixed Try.func12 (by kernel_rfl) (by decide) (arenaElse_text l r i j) (vs := [v, .int .i64 i, u, .int .i64 j]) (RepA.cons (nodesD_rep hv) (RepA.cons (rep_int i) (RepA.cons (nodesD_rep hu) (RepA.cons (rep_int j) RepA.nil))))
end Go.Proofs.Ytnmgfobpcengkaa
