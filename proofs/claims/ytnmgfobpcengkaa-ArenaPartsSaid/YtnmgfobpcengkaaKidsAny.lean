/-
  arena.Kids, called.
-/
import Derived.Test.YtnmgfobpcengkaaKids
namespace Go.Proofs.Ytnmgfobpcengkaa
open Go.RowKit Go.Shelf

theorem Kids_any (l : List Nd) (i : Int) (v : Value) (w : World) (hv : NodesAt w v l) (hl : l.length ≤ 4000000) :
    Calls Try.prog 22 #[v, .int .i64 i] w fun e W' => ∃ u, e = .returned u ∧ IntsIn (fun k => w.heap.size ≤ k ∧ k < W'.heap.size) W' u (kidsv l i) ∧ Below w.heap.size w W' :=
  callsIn_wide.1 (Kids_in 3 (Nat.le_refl _) l i v w hv hl)

end Go.Proofs.Ytnmgfobpcengkaa
