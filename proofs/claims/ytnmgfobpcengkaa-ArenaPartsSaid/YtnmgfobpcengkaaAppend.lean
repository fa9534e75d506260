/-
  append onto a row of the call's own, whatever slice is appended (nil, empty, or with elements).
-/
import Derived.Test.YtnmgfobpcengkaaBase
import Derived.OwnWalkIn
import Derived.Maps.AppendAt
namespace Go.Proofs.Ytnmgfobpcengkaa
open Go.RowKit
section
variable {P : Program}

theorem run_append_in {w : World} (base : Nat) (t ty e : TypeId) (i : TypeInfo) (z : Value) (size bytes : Nat) (ht : P.underlying t = some (.slice e)) (hi : P.info? e = some i) (hz : i.zero = some z)
    (hsize : i.size = size) (hby : i.bytes = bytes) (hzs : z.cells.size = size) (hsz : 0 < size)
    (v : Value) (k : Nat) (xs : List Value) (hown : w.ownsRow base e size v k xs) {S : Nat → Prop} (u : Value) (m : Nat) (news : List Value) (hu : SliceIn S w u m news) (hl : news.length = m * size)
    (h1 : ∀ x ∈ news, x.oneCell' = true) (h63 : k + m ≤ maxLen) (hbytes : (k + m) * bytes ≤ 140737488355328) (hbase : base ≤ w.heap.size) :
    ∃ v' w', (Builtin.append_ #[t, t] ty #[v, u]).run P w = .ok v' w' ∧ w'.ownsRow base e size v' (k + m) (xs ++ news) ∧ w.grownBy w' v.ownBlock := by
  rcases hu with ⟨p, cap, rfl, rfl, rfl, hp⟩ | ⟨b, o, cap, rfl, hm, hc, hS, hcell⟩
  · cases p with
    | none =>
      rw [hp rfl]
      exact ⟨v, w, run_append_owned_none w base t ty e i size ht hi v k xs hown, by simpa using hown, ⟨rfl, rfl, rfl, Nat.le_refl _, fun _ _ _ => rfl⟩⟩
    | some ad =>
      obtain ⟨v', w', r1, r2, r3, _⟩ := run_append_own (P := P) w base t ty e i z size bytes ht hi hz hsize hby hzs hsz v k xs hown ad 0 cap [] (by simp) (by simp) (by simp) h63 hbytes hbase
      exact ⟨v', w', r1, r2, r3⟩
  · obtain ⟨v', w', r1, r2, r3, _⟩ := run_append_own (P := P) w base t ty e i z size bytes ht hi hz hsize hby hzs hsz v k xs hown ⟨b, o, none⟩ m cap news hl (fun j x hx => by
      have hj : j < news.length := (List.getElem?_eq_some_iff.1 hx).1
      have : ((⟨b, o, none⟩ : Addr).add j) = ⟨b, o + j, none⟩ := by
        unfold Addr.add; split
        · rename_i h0; subst h0; rfl
        · rfl
      rw [this, hcell j hj]; exact hx) h1 h63 hbytes hbase
    exact ⟨v', w', r1, r2, r3⟩

theorem wpList_append_in {w : World} {ops : Array Oper} {rest : List Oper} {o : Oper} {a : Act} {Q : Exit → Act → World → Prop} (hg : o.guard = none) (s x : Operand) (t : TypeId)
    (hop : o.op = Op.call { callee := Callee.builtin Builtin.append, args := #[s, x], argTypes := #[t, t] })
    (base : Nat) (e : TypeId) (i : TypeInfo) (z : Value) (size bytes : Nat) (ht : P.underlying t = some (.slice e)) (hi : P.info? e = some i) (hz : i.zero = some z)
    (hsize : i.size = size) (hby : i.bytes = bytes) (hzs : z.cells.size = size) (hsz : 0 < size)
    (v : Value) (k : Nat) (xs : List Value) (hs : a.eval s = v) (hown : w.ownsRow base e size v k xs) {S : Nat → Prop} (u : Value) (m : Nat) (news : List Value) (hx : a.eval x = u) (hu : SliceIn S w u m news) (hl : news.length = m * size)
    (h1 : ∀ x ∈ news, x.oneCell' = true) (h63 : k + m ≤ maxLen) (hbytes : (k + m) * bytes ≤ 140737488355328) (hbase : base ≤ w.heap.size)
    (hK : ∀ v' w', w'.ownsRow base e size v' (k + m) (xs ++ news) → w.grownBy w' v.ownBlock → wpList P ops Q rest (a.put o.dst v') w') : wpList P ops Q (o :: rest) a w := by
  refine wpList_plain hg fun K hK' => ?_
  obtain ⟨v', w', hrun, r1, r2⟩ := run_append_in (P := P) base t o.type e i z size bytes ht hi hz hsize hby hzs hsz v k xs hown u m news hu hl h1 h63 hbytes hbase
  unfold Oper.wp
  simp [execOp, hop, resolve, invoke, builtin, hs, hx, hrun, Result.andThen]
  exact hK' _ _ (hK v' w' r1 r2)

theorem wpListIn_append_in {F : Fence} {n : Nat} {w : World} {ops : Array Oper} {rest : List Oper} {o : Oper} {a : Act} {Q : Exit → Act → World → Prop} (hg : o.guard = none) (s x : Operand) (t : TypeId)
    (hop : o.op = Op.call { callee := Callee.builtin Builtin.append, args := #[s, x], argTypes := #[t, t] })
    (base : Nat) (e : TypeId) (i : TypeInfo) (z : Value) (size bytes : Nat) (ht : P.underlying t = some (.slice e)) (hi : P.info? e = some i) (hz : i.zero = some z)
    (hsize : i.size = size) (hby : i.bytes = bytes) (hzs : z.cells.size = size) (hsz : 0 < size)
    (v : Value) (k : Nat) (xs : List Value) (hs : a.eval s = v) (hown : w.ownsRow base e size v k xs) {S : Nat → Prop} (u : Value) (m : Nat) (news : List Value) (hx : a.eval x = u) (hu : SliceIn S w u m news) (hl : news.length = m * size)
    (h1 : ∀ x ∈ news, x.oneCell' = true) (h63 : k + m ≤ maxLen) (hbytes : (k + m) * bytes ≤ 140737488355328) (hbase : base ≤ w.heap.size)
    (hK : ∀ v' w', w'.ownsRow base e size v' (k + m) (xs ++ news) → w.grownBy w' v.ownBlock → wpListIn F n P ops Q rest (a.put o.dst v') w') : wpListIn F n P ops Q (o :: rest) a w := by
  refine wpListIn_plain hg fun K hK' => ?_
  obtain ⟨v', w', hrun, r1, r2⟩ := run_append_in (P := P) base t o.type e i z size bytes ht hi hz hsize hby hzs hsz v k xs hown u m news hu hl h1 h63 hbytes hbase
  unfold Oper.wpIn
  refine ⟨?_, ?_⟩
  · simp [Oper.about, hop, resolve, Target.leads, Sem.run_pure]
  · rw [Oper.semAt_plain F _ _ (by rw [hop]; intro c hc'; cases hc')]
    simp [execOp, hop, resolve, invoke, builtin, hs, hx, hrun, Result.andThen]
    exact hK' _ _ (hK v' w' r1 r2)

theorem ints_one (l : List Int) : ∀ x ∈ l.map (Value.int .i64), x.oneCell' = true := fun x hx => by
  obtain ⟨_, _, rfl⟩ := List.mem_map.1 hx; rfl
theorem nodes_one (l : List Nd) : ∀ x ∈ nodeCells l, x.oneCell' = true := fun x hx => by
  simp only [nodeCells, List.mem_flatMap, List.mem_cons, List.not_mem_nil, or_false] at hx
  obtain ⟨_, _, rfl | rfl⟩ := hx <;> rfl
/-- A literal slice of one element. -/
theorem sliceIn_one (w : World) (v : Value) (t : TypeId) : SliceIn (fun k => k < (w.alloc (.cells #[v] t)).heap.size) (w.alloc (.cells #[v] t)) (.slice (some ⟨w.heap.size, 0, none⟩) 1 1) 1 [v] := by
  refine .inr ⟨w.heap.size, 0, 1, rfl, by omega, by omega, by simp, fun j hj => ?_⟩
  have hj0 : j = 0 := by simpa using hj
  subst hj0
  have := cell_one_new w v t
  simp
/-- A literal slice without elements: a row of the call's own. -/
theorem ownsRow_empty (w : World) (base : Nat) (e : TypeId) (size : Nat) (hb : base ≤ w.heap.size) : (w.alloc (.cells #[] e)).ownsRow base e size (.slice (some ⟨w.heap.size, 0, none⟩) 0 0) 0 [] :=
  World.ownsRow_lit w #[] 0 hb (by simp) (by simp)
end
end Go.Proofs.Ytnmgfobpcengkaa
