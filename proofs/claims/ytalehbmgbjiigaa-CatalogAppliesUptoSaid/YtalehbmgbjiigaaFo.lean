/-
  Parts joined into one text: Neg, T12c, Sh12c. No condition.
-/
import Derived.WalkSpells
import Derived.Lib.SliceRun
import Derived.Test.YtalehbmgbjiigaaFm
import Derived.Test.YtalehbmgbjiigaaFn

section
namespace Go.Proofs.Ytalehbmgbjiigaa
open Go.RowKit Go.Shelf
set_option linter.unusedVariables false
set_option linter.unusedSimpArgs false
attribute [local go_sem] Oper.semAt_some

set_option maxHeartbeats 1000000 in
/-- slices.Clone of nodes: a row of the call's own. -/
theorem CloneN_any (l : List Nd) (v : Value) (w : World) (S : Nat → Prop) (hS : ∀ k, S k → k < w.heap.size) (hv : NodesIn S w v l) (h0 : 0 < l.length) (hl : l.length ≤ 1000000) :
    Calls Try.prog 90 #[v] w fun e w' => ∃ u, e = .returned u ∧ w'.ownsRow w.heap.size 46 2 u l.length (nodeCells l) ∧ Below w.heap.size w w' := by
  obtain ⟨i0, hi, hz0, hz1, hz2⟩ := info_parts infoNode
  have qT : ∀ (w : World) (a : Option Addr) (n c n' c' : Nat), (binOp .eql 23 (.slice a n c) (.slice none n' c')).run Try.prog w = .ok (.bool a.isNone) w := fun w a n c n' c' => Lib.run_eql_slice_nil w _ _ a n c n' c' Try.underlying23
  rcases hv.open with ⟨rfl, _⟩ | ⟨b, o, cap, rfl, hpos, hcap, hbs, hcell⟩
  · simp at h0
  · go_enter Try.func90, Try.ntmps90
    have hv2 := hv.kept (kept_of (below_alloc1 w (.cells #[] 46)) hS)
    go_wp2_with (at_builtin; refine wpList_append_in rfl _ _ 23 rfl w.heap.size 46 i0 (.agg #[.int .i64 0, .int .i64 0]) 2 16 Try.underlying23 hi hz0 hz1 hz2 rfl (by decide) _ _ _ rfl (ownsRow_empty w w.heap.size 46 2 (Nat.le_refl _)) _ l.length _ rfl hv2 (by rw [nodeCells_length]; omega) (nodes_one l) (by unfold maxLen; omega) (by omega) (by simp) ?_; intro v' w3 hown' hgrow)
    go_ret
    refine ⟨_, rfl, by simpa using hown', ((Below.refl _ _).alloc (Nat.le_refl _) _).grown hgrow (by simp) (fun j hj => ?_)⟩
    exact ((ownsRow_empty w w.heap.size 46 2 (Nat.le_refl _)).lt j hj).1

def negV (l : List Nd) (k : Nat) (n : Int) : List Nd := if ((nodeAt l k).1 = 23 ∨ (nodeAt l k).1 = 24) ∧ n = 0 then l.take (k + 1) ++ (6, 0) :: l.drop (k + 1) else []
theorem field_tag (w : World) (a b : Int) : (Instr.field 46 (.agg #[.int .i64 a, .int .i64 b]) 0).run Try.prog w = .ok (.int .i64 a) w := by
  simp [Instr.field, go_sem, asAgg]
def ptrTo (b o : Nat) : Value := .pointer (some ⟨b, o, none⟩)
/-- Two rows lie in two blocks. -/
def Apart (v u : Value) : Prop := ∀ (g n c b m e : Nat), v = .slice (some ⟨g, 0, none⟩) n c → u = .slice (some ⟨b, 0, none⟩) m e → g ≠ b
def NotRow1 (base : Nat) (V : World) (u : Value) : Prop := ∃ b5, u = .slice (some ⟨b5, 0, none⟩) 1 1 ∧ V.heap[b5]? = some (.cells #[.int .i64 6, .int .i64 0] 46 (0, 0)) ∧ base ≤ b5
/-- The copy, and the new node, as far as they are there. -/
def NegMem (base : Nat) (l : List Nd) (x y : Bool) (V : World) (v u : Value) : Prop :=
  (x = true → V.ownsRow base 46 2 v l.length (nodeCells l)) ∧ (y = true → NotRow1 base V u) ∧ (x = true → y = true → Apart v u)
theorem negMem_clone {base : Nat} {l : List Nd} {y : Bool} {V V2 : World} {v v2 u : Value} (h : NegMem base l false y V v u) (hr : V2.ownsRow V.heap.size 46 2 v2 l.length (nodeCells l)) (hb : Below V.heap.size V V2) (hB : base ≤ V.heap.size) : NegMem base l true y V2 v2 u := by
  obtain ⟨h1, h2, h3⟩ := h
  refine ⟨fun _ => ownsRow_base hr hB, fun hy => ?_, fun _ hy => ?_⟩
  · obtain ⟨b5, e, g1, g2⟩ := h2 hy
    exact ⟨b5, e, (hb.block _ (Array.getElem?_eq_some_iff.1 g1).1).trans g1, g2⟩
  · obtain ⟨b5, e, g1, g2⟩ := h2 hy
    intro g n c b m e' ev eu
    rw [e] at eu
    cases eu
    have hlt := (Array.getElem?_eq_some_iff.1 g1).1
    rcases hr.2 with ⟨k1, _⟩ | ⟨g', cap, cur, k1, k2, _⟩
    · rw [k1] at ev; cases ev
    · rw [k1] at ev; cases ev; omega
theorem negMem_row {base : Nat} {l : List Nd} {x : Bool} {V : World} {v u : Value} (h : NegMem base l x false V v u) (hB : base ≤ V.heap.size) :
    NegMem base l x true (V.alloc (.cells #[.int .i64 6, .int .i64 0] 46)) v (.slice (some ⟨V.heap.size, 0, none⟩) 1 1) := by
  obtain ⟨h1, h2, h3⟩ := h
  refine ⟨fun hx => ownsRow_below (h1 hx) (below_alloc1 V _), fun _ => ⟨V.heap.size, rfl, heap_alloc_new V _, hB⟩, fun hx _ => ?_⟩
  intro g n c b m e' ev eu
  cases eu
  rcases (h1 hx).2 with ⟨k1, _⟩ | ⟨g', cap, cur, k1, k2, k3, _⟩
  · rw [k1] at ev; cases ev
  · rw [k1] at ev; cases ev
    have := (Array.getElem?_eq_some_iff.1 k3).1
    omega
theorem nodes_rep {base : Nat} {V : World} {b c : Nat} {A : Array Value} {l : List Nd} (hb : V.heap[b]? = some (.cells A 46 (0, 0))) (hB : base ≤ b) (hc : l.length ≤ c) (h0 : 0 < l.length) (hA : A.toList.take (2 * l.length) = nodeCells l) :
    Rep (fun k => base ≤ k ∧ k < V.heap.size) [] V (.slice (some ⟨b, 0, none⟩) l.length c) (nodesD l) := by
  refine nodesD_rep (.inr ⟨b, 0, c, rfl, h0, hc, ⟨hB, (Array.getElem?_eq_some_iff.1 hb).1⟩, fun j hj => ?_⟩)
  rw [Nat.zero_add, cell_of_heap hb]
  have hlt : j < 2 * l.length := by rwa [nodeCells_length] at hj
  have : (A.toList.take (2 * l.length))[j]? = some (nodeCells l)[j] := by rw [hA]; exact List.getElem?_eq_getElem hj
  rw [List.getElem?_take_of_lt hlt, Array.getElem?_toList, ← List.getElem?_eq_getElem hj] at this
  exact this
/-- The node is put in: whatever room there is. -/
theorem negMem_insert {base : Nat} {l : List Nd} {V : World} {v u : Value} {k : Nat} (h : NegMem base l true true V v u) (hk : k + 1 < l.length) (hl : l.length ≤ 300000) (hB : base ≤ V.heap.size) :
    Calls Try.prog 89 #[v, .int .i64 ((k + 1 : Nat) : Int), u] V fun e w' => ∃ r, e = .returned r ∧ Rep (fun k => base ≤ k ∧ k < w'.heap.size) [] w' r (nodesD (l.take (k + 1) ++ (6, 0) :: l.drop (k + 1))) ∧ Below base V w' := by
  obtain ⟨h1, h2, h3⟩ := h
  obtain ⟨q1, q2⟩ := h1 rfl
  obtain ⟨b5, rfl, g1, g2⟩ := h2 rfl
  rcases q2 with ⟨_, q2⟩ | ⟨g, cap, cur, rfl, k1, k2, k3, k4, k5, k6⟩
  · omega
  have hne : b5 ≠ g := fun e => h3 rfl rfl g _ _ b5 _ _ rfl rfl e.symm
  have hlen : (l.take (k + 1) ++ (6, 0) :: l.drop (k + 1)).length = l.length + 1 := by simp; omega
  have hc2 : cur.toList.take (2 * l.length) = nodeCells l := by rw [Nat.mul_comm]; exact k6
  have hone : ∀ x ∈ cur.toList.take (2 * l.length), x.oneCell' = true := by rw [hc2]; exact nodes_one l
  have hfin : ∀ A : Array Value, A.toList.take (2 * (l.length + 1)) = cur.toList.take (2 * (k + 1)) ++ [.int .i64 6, .int .i64 0] ++ (cur.toList.take (2 * l.length)).drop (2 * (k + 1)) → A.toList.take (2 * (l.length + 1)) = nodeCells (l.take (k + 1) ++ (6, 0) :: l.drop (k + 1)) := by
    intro A hA
    have e1 : cur.toList.take (2 * (k + 1)) = nodeCells (l.take (k + 1)) := by
      have : cur.toList.take (2 * (k + 1)) = (cur.toList.take (2 * l.length)).take (2 * (k + 1)) := by rw [List.take_take, Nat.min_eq_left (by omega)]
      rw [this, hc2]
      have e : nodeCells l = nodeCells (l.take (k + 1)) ++ nodeCells (l.drop (k + 1)) := by rw [← nodeCells_append, List.take_append_drop]
      rw [e]
      exact List.take_left' (by rw [nodeCells_length, List.length_take]; omega)
    have e2 : (cur.toList.take (2 * l.length)).drop (2 * (k + 1)) = nodeCells (l.drop (k + 1)) := by
      rw [hc2]
      have e : nodeCells l = nodeCells (l.take (k + 1)) ++ nodeCells (l.drop (k + 1)) := by rw [← nodeCells_append, List.take_append_drop]
      rw [e]
      exact List.drop_left' (by rw [nodeCells_length, List.length_take]; omega)
    rw [hA, e1, e2, nodeCells_append]
    have e3 : nodeCells ((6, 0) :: l.drop (k + 1)) = [.int .i64 6, .int .i64 0] ++ nodeCells (l.drop (k + 1)) := by simp [nodeCells]
    rw [e3, List.append_assoc]
  by_cases hroom : l.length + 1 ≤ cap
  · refine (insCalls.room g l.length cap (k + 1) b5 1 cur #[.int .i64 6, .int .i64 0] _ (.int .i64 6) (.int .i64 0) V hk hroom k4 k2 k5 g1 rfl rfl rfl rfl hne hone).mono ?_
    rintro e w' ⟨A, rfl, rfl, a1, a2⟩
    have hh : (V.drew.setRow g A).heap[g]? = some (.cells A 46 (0, 0)) := setRow_heap V.drew g cur A _ _ k2
    refine ⟨_, rfl, ?_, ⟨rfl, rfl, rfl, by simp, fun j hj => setRow_other V.drew g j A (by omega)⟩⟩
    have := nodes_rep (base := base) (l := l.take (k + 1) ++ (6, 0) :: l.drop (k + 1)) hh k1 (c := cap) (by omega) (by omega) (by rw [hlen]; exact hfin A a2)
    rw [hlen] at this
    exact this
  · refine (insCalls.grow g l.length cap (k + 1) b5 1 cur #[.int .i64 6, .int .i64 0] _ (.int .i64 6) (.int .i64 0) V hk k3 (by omega) (by omega) k2 k5 g1 rfl rfl rfl rfl hne hone).mono ?_
    rintro e w' ⟨A, c', rfl, rfl, c1, c2, a1, a2⟩
    have hh : (V.drew.drew.alloc (.cells A 46)).heap[V.heap.size]? = some (.cells A 46 (0, 0)) := heap_alloc_new V.drew.drew _
    refine ⟨_, rfl, ?_, (Below.refl _ _).drew.drew.alloc hB _⟩
    have := nodes_rep (base := base) (l := l.take (k + 1) ++ (6, 0) :: l.drop (k + 1)) hh hB (c := c') (by omega) (by omega) (by rw [hlen]; exact hfin A a2)
    rw [hlen] at this
    exact this
theorem res_later {base : Nat} {V V2 : World} {v : Value} {d : D} (h : Rep (fun k => base ≤ k ∧ k < V.heap.size) [] V v d) (hb : Below V.heap.size V V2) : Rep (fun k => base ≤ k ∧ k < V2.heap.size) [] V2 v d :=
  Rep.kept ⟨hb.size, fun k hk => hb.block k hk.2⟩ (fun k hk => ⟨hk.1, Nat.lt_of_lt_of_le hk.2 hb.size⟩) (fun i p hi => hi) _ _ h
set_option maxHeartbeats 2000000 in
set_option maxRecDepth 100000 in
theorem negate_any (l : List Nd) (k : Nat) (n : Int) (pv : Int) (vv bv : Value) (w : World) (S : Nat → Prop) (hS : ∀ k, S k → k < w.heap.size) (vs : List Int) (hvv : Rep S [] w vv (intsD vs)) (hbv : Rep S [] w bv (nodesD l)) (hkl : k < l.length) (hk' : ((nodeAt l k).1 = 23 ∨ (nodeAt l k).1 = 24) ∧ n = 0 → k + 1 < l.length) (hl : l.length ≤ 300000) :
    Calls Try.prog 46 #[.agg #[.int .i64 pv, vv, bv, .int .i64 k, .int .i64 n]] w fun e w' => ∃ u, e = .returned u ∧ Rep (fun k => w.heap.size ≤ k ∧ k < w'.heap.size) [] w' u (nodesD (negV l k n)) ∧ Below w.heap.size w w' := by
  have hb0 := asNodes_ok (asNodes_nodesD l) hbv
  have hx : nodeAt l k = l[k] := by unfold nodeAt; rw [Int.toNat_natCast]; exact getD_in _ _ _ hkl
  have hnode : ∀ W : World, Below w.heap.size w W → Calls Try.prog 86 #[.agg #[.int .i64 pv, vv, bv, .int .i64 k, .int .i64 n]] W fun e w' => e = .returned (.agg #[.int .i64 l[k].1, .int .i64 l[k].2]) ∧ Below W.heap.size W w' := fun W hW => by
    have hkept : Kept S w W := kept_of hW hS
    have hS' : ∀ k, S k → k < W.heap.size := fun k hk => Nat.lt_of_lt_of_le (hS k hk) hW.size
    have hr : RepA S [] W [.agg #[.int .i64 pv, vv, bv, .int .i64 k, .int .i64 n]] [chD ⟨⟨pv, vs, l⟩, k, n⟩] := by
      simp only [RepA, chD, chC, Rep]
      have h1 := Rep.kept hkept (fun _ h => h) (fun i p hi => hi) _ _ hvv
      have h2 := Rep.kept hkept (fun _ h => h) (fun i p hi => hi) _ _ hbv
      exact ⟨_, [], rfl, ⟨_, rfl, _, _, rfl, rfl, _, _, rfl, h1, _, _, rfl, h2, _, _, rfl, rfl, _, _, rfl, rfl, rfl⟩, rfl⟩
    have hF : F_chNode [chD ⟨⟨pv, vs, l⟩, k, n⟩] = some (.agg (nodeD l[k])) := by
      have : F_chNode [chD ⟨⟨pv, vs, l⟩, k, n⟩] = _ := f1_enc (A := chT) _ (⟨⟨pv, vs, l⟩, k, n⟩ : Chg)
      rw [this, if_pos ⟨by simp, by simpa using hkl⟩, hx]
    refine (C_chNode.calls _ _ hF S _ W hS' hr).mono ?_
    rintro e w' ⟨v, rfl, h1, h2⟩
    refine ⟨?_, h2⟩
    simp only [Rep, nodeD, RepA] at h1
    obtain ⟨xs, rfl, a, t, rfl, rfl, b, u, rfl, rfl, rfl⟩ := h1
    rfl
  rw [hx] at hk'
  generalize hX : l[k] = x at *
  obtain ⟨x1, x2⟩ := x
  simp only at hnode
  have hbox : ∀ (V : World), Below (w.alloc (.cells #[.int .i64 pv, vv, bv, .int .i64 k, .int .i64 n] 62)).heap.size (w.alloc (.cells #[.int .i64 pv, vv, bv, .int .i64 k, .int .i64 n] 62)) V →
      V.cell? ⟨w.heap.size, 2, none⟩ = some bv ∧ V.cell? ⟨w.heap.size, 3, none⟩ = some (.int .i64 k) ∧ V.cell? ⟨w.heap.size, 4, none⟩ = some (.int .i64 n) := fun V hV => by
    have hz : w.heap.size < (w.alloc (.cells #[.int .i64 pv, vv, bv, .int .i64 k, .int .i64 n] 62)).heap.size := by simp
    exact ⟨(hV.cell (p := ⟨w.heap.size, 2, none⟩) hz).trans (World.cell?_alloc_at (w := w) _ _ _ _ rfl), (hV.cell (p := ⟨w.heap.size, 3, none⟩) hz).trans (World.cell?_alloc_at (w := w) _ _ _ _ rfl), (hV.cell (p := ⟨w.heap.size, 4, none⟩) hz).trans (World.cell?_alloc_at (w := w) _ _ _ _ rfl)⟩
  have hB0 : Below w.heap.size w (w.alloc (.cells #[.int .i64 pv, vv, bv, .int .i64 k, .int .i64 n] 62)) := below_alloc1 _ _
  refine (callsIn_wide (n := 0)).1 ?_
  refine callsIn_of_wp_marks Try.func46 rfl trivial ?_ rfl
  simp only [Try.ntmps46, List.size_toArray, List.length_cons, List.length_nil, Nat.reduceAdd, Nat.reduceSub, Array.replicate_succ, Array.replicate_zero, List.push_toArray, List.append_toArray, List.nil_append, List.cons_append]
  by_cases h1 : x1 = 23 ∧ n = 0
  · obtain ⟨rfl, rfl⟩ := h1
    have hk : k + 1 < l.length := hk' ⟨.inl rfl, rfl⟩
    gi_wp2_with (first | (gi_at_call 86; refine (callsIn_wide.2 (hnode _ hB0)).mono ?_; rintro e w1 ⟨rfl, hb1⟩; obtain ⟨g2, g3, g4⟩ := hbox _ hb1) | simp only [field_tag])
    have hmix : Try.prog.follows .mixedOrders = true := by kernel_rfl
    have hz1 : w.heap.size < w1.heap.size := by have := hb1.size; simp at this; omega
    obtain ⟨Inv, hInv⟩ : ∃ Inv : (Nat → Bool) → Act → World → Prop, Inv = (fun d a' V' => ∃ (v18 v19 v20 v21 v22 v23 v24 v25 v26 v27 v2 : Value), a' = { tmps := #[.agg #[.int .i64 pv, vv, bv, .int .i64 k, .int .i64 0], .pointer (some ⟨w.heap.size, 0, none⟩), v2, .int .i64 23, .agg #[.int .i64 pv, vv, bv, .int .i64 k, .int .i64 0], .agg #[.int .i64 23, .int .i64 x2], .int .i64 23, .int .i64 23, .bool false, .bool false, undef, undef, .bool false, .bool false, .pointer (some ⟨w.heap.size, 4, none⟩), .int .i64 0, .bool false, .bool false, v18, v19, v20, v21, v22, v23, v24, v25, v26, v27], defers := [] } ∧ Below w1.heap.size w1 V' ∧
      (d 0 = true → v18 = .pointer (some ⟨w.heap.size, 0, none⟩)) ∧ (d 1 = true → v19 = .pointer (some ⟨w.heap.size, 2, none⟩)) ∧ (d 2 = true → v20 = bv) ∧ (d 4 = true → v22 = .pointer (some ⟨w.heap.size, 3, none⟩)) ∧ (d 5 = true → v23 = .int .i64 k) ∧ (d 6 = true → v24 = .int .i64 ((k + 1 : Nat) : Int)) ∧ (d 7 = true → v25 = .agg #[.int .i64 6, .int .i64 0]) ∧
      (d 9 = false → NegMem w1.heap.size l (d 3) (d 8) V' v21 v26) ∧ (d 9 = true → Rep (fun k => w1.heap.size ≤ k ∧ k < V'.heap.size) [] V' v27 (nodesD (l.take (k + 1) ++ (6, 0) :: l.drop (k + 1)))) ∧ (d 10 = true → d 9 = true ∧ v2 = v27)) := ⟨_, rfl⟩
    have HI := Lib.hid hInv
    clear hInv
    refine region_inv hmix Inv (by kernel_rfl) ?_ ?_ ?_
    · rw [HI.out]
      exact ⟨_, _, _, _, _, _, _, _, _, _, _, rfl, (Below.refl _ _).drew, (fun h => by cases h), (fun h => by cases h), (fun h => by cases h), (fun h => by cases h), (fun h => by cases h), (fun h => by cases h), (fun h => by cases h), (fun _ => ⟨(fun h => by cases h), (fun h => by cases h), (fun h => by cases h)⟩), (fun h => by cases h), (fun h => by cases h)⟩
    · refine ⟨?_, ?_, ?_, ?_, ?_, ?_, ?_, ?_, ?_, ?_, ?_, trivial⟩
      · intro d a' V' K hd hdep hI hK
        rw [HI.out] at hI
        obtain ⟨v18, v19, v20, v21, v22, v23, v24, v25, v26, v27, v2, rfl, hB, f0, f1, f2, f4, f5, f6, f7, fm, f9, f10⟩ := hI
        rw [if_pos (show Region.wanted _ _ = true from rfl)]
        have hB1 : Below (w.alloc (.cells #[.int .i64 pv, vv, bv, .int .i64 k, .int .i64 0] 62)).heap.size (w.alloc (.cells #[.int .i64 pv, vv, bv, .int .i64 k, .int .i64 0] 62)) V' := hb1.trans (hB.mono hb1.size)
        obtain ⟨q2, q3, q4⟩ := hbox _ hB1
        gi_wp2
        rw [HI.out]
        exact ⟨_, _, _, _, _, _, _, _, _, _, _, rfl, hB, (fun _ => rfl), f1, f2, f4, f5, f6, f7, fm, f9, f10⟩
      · intro d a' V' K hd hdep hI hK
        rw [HI.out] at hI
        obtain ⟨v18, v19, v20, v21, v22, v23, v24, v25, v26, v27, v2, rfl, hB, f0, f1, f2, f4, f5, f6, f7, fm, f9, f10⟩ := hI
        rw [if_pos (show Region.wanted _ _ = true from rfl)]
        have hB1 : Below (w.alloc (.cells #[.int .i64 pv, vv, bv, .int .i64 k, .int .i64 0] 62)).heap.size (w.alloc (.cells #[.int .i64 pv, vv, bv, .int .i64 k, .int .i64 0] 62)) V' := hb1.trans (hB.mono hb1.size)
        obtain ⟨q2, q3, q4⟩ := hbox _ hB1
        obtain rfl := f0 (hdep ⟨0, .data⟩ (by simp) rfl)
        gi_wp2
        rw [HI.out]
        exact ⟨_, _, _, _, _, _, _, _, _, _, _, rfl, hB, (fun _ => rfl), (fun _ => rfl), f2, f4, f5, f6, f7, fm, f9, f10⟩
      · intro d a' V' K hd hdep hI hK
        rw [HI.out] at hI
        obtain ⟨v18, v19, v20, v21, v22, v23, v24, v25, v26, v27, v2, rfl, hB, f0, f1, f2, f4, f5, f6, f7, fm, f9, f10⟩ := hI
        rw [if_pos (show Region.wanted _ _ = true from rfl)]
        have hB1 : Below (w.alloc (.cells #[.int .i64 pv, vv, bv, .int .i64 k, .int .i64 0] 62)).heap.size (w.alloc (.cells #[.int .i64 pv, vv, bv, .int .i64 k, .int .i64 0] 62)) V' := hb1.trans (hB.mono hb1.size)
        obtain ⟨q2, q3, q4⟩ := hbox _ hB1
        obtain rfl := f1 (hdep ⟨1, .data⟩ (by simp) rfl)
        gi_wp2
        rw [HI.out]
        exact ⟨_, _, _, _, _, _, _, _, _, _, _, rfl, hB, f0, (fun _ => rfl), (fun _ => rfl), f4, f5, f6, f7, fm, f9, f10⟩
      · intro d a' V' K hd hdep hI hK
        rw [HI.out] at hI
        obtain ⟨v18, v19, v20, v21, v22, v23, v24, v25, v26, v27, v2, rfl, hB, f0, f1, f2, f4, f5, f6, f7, fm, f9, f10⟩ := hI
        rw [if_pos (show Region.wanted _ _ = true from rfl)]
        have hB1 : Below (w.alloc (.cells #[.int .i64 pv, vv, bv, .int .i64 k, .int .i64 0] 62)).heap.size (w.alloc (.cells #[.int .i64 pv, vv, bv, .int .i64 k, .int .i64 0] 62)) V' := hb1.trans (hB.mono hb1.size)
        obtain ⟨q2, q3, q4⟩ := hbox _ hB1
        obtain rfl := f2 (hdep ⟨2, .data⟩ (by simp) rfl)
        have hbV : NodesIn (fun k => S k) V' v20 l := hb0.kept (kept_of (hB0.trans (hB1.mono hB0.size)) hS)
        gi_wp2_with (gi_at_call 90; refine (callsIn_wide.2 (CloneN_any l _ _ S (fun k hk => Nat.lt_of_lt_of_le (hS k hk) (hB0.trans (hB1.mono hB0.size)).size) hbV (by omega) (by omega))).mono ?_; rintro e V2 ⟨u2, rfl, hr2, hb2⟩)
        rw [HI.out]
        exact ⟨_, _, _, _, _, _, _, _, _, _, _, rfl, hB.trans (hb2.mono hB.size), f0, f1, (fun _ => rfl), f4, f5, f6, f7, (fun h9 => negMem_clone (by have := fm h9; rw [hd] at this; exact this) hr2 hb2 hB.size), (fun h => res_later (f9 h) hb2), f10⟩
      · intro d a' V' K hd hdep hI hK
        rw [HI.out] at hI
        obtain ⟨v18, v19, v20, v21, v22, v23, v24, v25, v26, v27, v2, rfl, hB, f0, f1, f2, f4, f5, f6, f7, fm, f9, f10⟩ := hI
        rw [if_pos (show Region.wanted _ _ = true from rfl)]
        have hB1 : Below (w.alloc (.cells #[.int .i64 pv, vv, bv, .int .i64 k, .int .i64 0] 62)).heap.size (w.alloc (.cells #[.int .i64 pv, vv, bv, .int .i64 k, .int .i64 0] 62)) V' := hb1.trans (hB.mono hb1.size)
        obtain ⟨q2, q3, q4⟩ := hbox _ hB1
        gi_wp2
        rw [HI.out]
        exact ⟨_, _, _, _, _, _, _, _, _, _, _, rfl, hB, f0, f1, f2, (fun _ => rfl), f5, f6, f7, fm, f9, f10⟩
      · intro d a' V' K hd hdep hI hK
        rw [HI.out] at hI
        obtain ⟨v18, v19, v20, v21, v22, v23, v24, v25, v26, v27, v2, rfl, hB, f0, f1, f2, f4, f5, f6, f7, fm, f9, f10⟩ := hI
        rw [if_pos (show Region.wanted _ _ = true from rfl)]
        have hB1 : Below (w.alloc (.cells #[.int .i64 pv, vv, bv, .int .i64 k, .int .i64 0] 62)).heap.size (w.alloc (.cells #[.int .i64 pv, vv, bv, .int .i64 k, .int .i64 0] 62)) V' := hb1.trans (hB.mono hb1.size)
        obtain ⟨q2, q3, q4⟩ := hbox _ hB1
        obtain rfl := f4 (hdep ⟨4, .data⟩ (by simp) rfl)
        gi_wp2
        rw [HI.out]
        exact ⟨_, _, _, _, _, _, _, _, _, _, _, rfl, hB, f0, f1, f2, (fun _ => rfl), (fun _ => rfl), f6, f7, fm, f9, f10⟩
      · intro d a' V' K hd hdep hI hK
        rw [HI.out] at hI
        obtain ⟨v18, v19, v20, v21, v22, v23, v24, v25, v26, v27, v2, rfl, hB, f0, f1, f2, f4, f5, f6, f7, fm, f9, f10⟩ := hI
        rw [if_pos (show Region.wanted _ _ = true from rfl)]
        have hB1 : Below (w.alloc (.cells #[.int .i64 pv, vv, bv, .int .i64 k, .int .i64 0] 62)).heap.size (w.alloc (.cells #[.int .i64 pv, vv, bv, .int .i64 k, .int .i64 0] 62)) V' := hb1.trans (hB.mono hb1.size)
        obtain ⟨q2, q3, q4⟩ := hbox _ hB1
        obtain rfl := f5 (hdep ⟨5, .data⟩ (by simp) rfl)
        gi_wp2
        rw [HI.out]
        exact ⟨_, _, _, _, _, _, _, _, _, _, _, rfl, hB, f0, f1, f2, f4, (fun _ => rfl), (fun _ => by go_num), f7, fm, f9, f10⟩
      · intro d a' V' K hd hdep hI hK
        rw [HI.out] at hI
        obtain ⟨v18, v19, v20, v21, v22, v23, v24, v25, v26, v27, v2, rfl, hB, f0, f1, f2, f4, f5, f6, f7, fm, f9, f10⟩ := hI
        rw [if_pos (show Region.wanted _ _ = true from rfl)]
        have hB1 : Below (w.alloc (.cells #[.int .i64 pv, vv, bv, .int .i64 k, .int .i64 0] 62)).heap.size (w.alloc (.cells #[.int .i64 pv, vv, bv, .int .i64 k, .int .i64 0] 62)) V' := hb1.trans (hB.mono hb1.size)
        obtain ⟨q2, q3, q4⟩ := hbox _ hB1
        gi_wp2
        rw [HI.out]
        exact ⟨_, _, _, _, _, _, _, _, _, _, _, rfl, hB, f0, f1, f2, f4, f5, f6, (fun _ => rfl), fm, f9, f10⟩
      · intro d a' V' K hd hdep hI hK
        rw [HI.out] at hI
        obtain ⟨v18, v19, v20, v21, v22, v23, v24, v25, v26, v27, v2, rfl, hB, f0, f1, f2, f4, f5, f6, f7, fm, f9, f10⟩ := hI
        rw [if_pos (show Region.wanted _ _ = true from rfl)]
        have hB1 : Below (w.alloc (.cells #[.int .i64 pv, vv, bv, .int .i64 k, .int .i64 0] 62)).heap.size (w.alloc (.cells #[.int .i64 pv, vv, bv, .int .i64 k, .int .i64 0] 62)) V' := hb1.trans (hB.mono hb1.size)
        obtain ⟨q2, q3, q4⟩ := hbox _ hB1
        obtain rfl := f7 (hdep ⟨7, .data⟩ (by simp) rfl)
        have hb2 := below_alloc1 V' (.cells #[.int .i64 6, .int .i64 0] 46)
        gi_wp2
        rw [HI.out]
        exact ⟨_, _, _, _, _, _, _, _, _, _, _, rfl, hB.trans (hb2.mono hB.size), f0, f1, f2, f4, f5, f6, (fun _ => rfl), (fun h9 => negMem_row (by have := fm h9; rw [hd] at this; exact this) hB.size), (fun h => res_later (f9 h) hb2), f10⟩
      · intro d a' V' K hd hdep hI hK
        rw [HI.out] at hI
        obtain ⟨v18, v19, v20, v21, v22, v23, v24, v25, v26, v27, v2, rfl, hB, f0, f1, f2, f4, f5, f6, f7, fm, f9, f10⟩ := hI
        rw [if_pos (show Region.wanted _ _ = true from rfl)]
        have hB1 : Below (w.alloc (.cells #[.int .i64 pv, vv, bv, .int .i64 k, .int .i64 0] 62)).heap.size (w.alloc (.cells #[.int .i64 pv, vv, bv, .int .i64 k, .int .i64 0] 62)) V' := hb1.trans (hB.mono hb1.size)
        obtain ⟨q2, q3, q4⟩ := hbox _ hB1
        obtain rfl := f6 (hdep ⟨6, .data⟩ (by simp) rfl)
        have hm := fm hd
        rw [hdep ⟨3, .data⟩ (by simp) rfl, hdep ⟨8, .data⟩ (by simp) rfl] at hm
        gi_wp2_with (gi_at_call 89; refine (callsIn_wide.2 (negMem_insert hm hk hl hB.size)).mono ?_; rintro e V2 ⟨u2, rfl, hr2, hb2⟩)
        rw [HI.out]
        exact ⟨_, _, _, _, _, _, _, _, _, _, _, rfl, hB.trans hb2, f0, f1, f2, f4, f5, (fun _ => by go_num), f7, (fun h => by rw [upd_self] at h; cases h), (fun _ => hr2), (fun h => by have := (f10 h).1; rw [hd] at this; cases this)⟩
      · intro d a' V' K hd hdep hI hK
        rw [HI.out] at hI
        obtain ⟨v18, v19, v20, v21, v22, v23, v24, v25, v26, v27, v2, rfl, hB, f0, f1, f2, f4, f5, f6, f7, fm, f9, f10⟩ := hI
        rw [if_pos (show Region.wanted _ _ = true from rfl)]
        have hB1 : Below (w.alloc (.cells #[.int .i64 pv, vv, bv, .int .i64 k, .int .i64 0] 62)).heap.size (w.alloc (.cells #[.int .i64 pv, vv, bv, .int .i64 k, .int .i64 0] 62)) V' := hb1.trans (hB.mono hb1.size)
        obtain ⟨q2, q3, q4⟩ := hbox _ hB1
        have h9 := hdep ⟨9, .data⟩ (by simp) rfl
        gi_wp2
        rw [HI.out]
        exact ⟨_, _, _, _, _, _, _, _, _, _, _, rfl, hB, f0, f1, f2, f4, f5, f6, f7, fm, f9, (fun _ => ⟨h9, rfl⟩)⟩
    · intro d a' V' hall hI
      rw [HI.out] at hI
      obtain ⟨v18, v19, v20, v21, v22, v23, v24, v25, v26, v27, v2, rfl, hB, f0, f1, f2, f4, f5, f6, f7, fm, f9, f10⟩ := hI
      obtain ⟨h9, rfl⟩ := f10 (hall 10 (by decide))
      have hres := f9 h9
      gi_wp2
      have hneg : negV l k 0 = l.take (k + 1) ++ (6, 0) :: l.drop (k + 1) := by unfold negV; rw [hx]; exact if_pos ⟨by simp, rfl⟩
      rw [hneg]
      exact ⟨_, results_tmp rfl _ _ _, v2, rfl, Rep.kept (Kept.refl _ _) (fun k hk => ⟨by have := hk.1; omega, hk.2⟩) (fun i p hi => hi) _ _ hres, (hB0.trans (hb1.mono hB0.size)).trans (hB.mono (by omega))⟩

  by_cases h2 : x1 = 24 ∧ n = 0
  · obtain ⟨rfl, rfl⟩ := h2
    have hk : k + 1 < l.length := hk' ⟨.inr rfl, rfl⟩
    gi_wp2_with (first | (gi_at_call 86; refine (callsIn_wide.2 (hnode _ hB0)).mono ?_; rintro e w1 ⟨rfl, hb1⟩; obtain ⟨g2, g3, g4⟩ := hbox _ hb1) | simp only [field_tag])
    have hmix : Try.prog.follows .mixedOrders = true := by kernel_rfl
    have hz1 : w.heap.size < w1.heap.size := by have := hb1.size; simp at this; omega
    obtain ⟨Inv, hInv⟩ : ∃ Inv : (Nat → Bool) → Act → World → Prop, Inv = (fun d a' V' => ∃ (v18 v19 v20 v21 v22 v23 v24 v25 v26 v27 v2 : Value), a' = { tmps := #[.agg #[.int .i64 pv, vv, bv, .int .i64 k, .int .i64 0], .pointer (some ⟨w.heap.size, 0, none⟩), v2, .int .i64 24, .agg #[.int .i64 pv, vv, bv, .int .i64 k, .int .i64 0], .agg #[.int .i64 24, .int .i64 x2], .int .i64 24, .int .i64 24, .bool true, .bool true, .int .i64 24, .bool false, .bool false, .bool false, .pointer (some ⟨w.heap.size, 4, none⟩), .int .i64 0, .bool false, .bool false, v18, v19, v20, v21, v22, v23, v24, v25, v26, v27], defers := [] } ∧ Below w1.heap.size w1 V' ∧
      (d 0 = true → v18 = .pointer (some ⟨w.heap.size, 0, none⟩)) ∧ (d 1 = true → v19 = .pointer (some ⟨w.heap.size, 2, none⟩)) ∧ (d 2 = true → v20 = bv) ∧ (d 4 = true → v22 = .pointer (some ⟨w.heap.size, 3, none⟩)) ∧ (d 5 = true → v23 = .int .i64 k) ∧ (d 6 = true → v24 = .int .i64 ((k + 1 : Nat) : Int)) ∧ (d 7 = true → v25 = .agg #[.int .i64 6, .int .i64 0]) ∧
      (d 9 = false → NegMem w1.heap.size l (d 3) (d 8) V' v21 v26) ∧ (d 9 = true → Rep (fun k => w1.heap.size ≤ k ∧ k < V'.heap.size) [] V' v27 (nodesD (l.take (k + 1) ++ (6, 0) :: l.drop (k + 1)))) ∧ (d 10 = true → d 9 = true ∧ v2 = v27)) := ⟨_, rfl⟩
    have HI := Lib.hid hInv
    clear hInv
    refine region_inv hmix Inv (by kernel_rfl) ?_ ?_ ?_
    · rw [HI.out]
      exact ⟨_, _, _, _, _, _, _, _, _, _, _, rfl, (Below.refl _ _).drew, (fun h => by cases h), (fun h => by cases h), (fun h => by cases h), (fun h => by cases h), (fun h => by cases h), (fun h => by cases h), (fun h => by cases h), (fun _ => ⟨(fun h => by cases h), (fun h => by cases h), (fun h => by cases h)⟩), (fun h => by cases h), (fun h => by cases h)⟩
    · refine ⟨?_, ?_, ?_, ?_, ?_, ?_, ?_, ?_, ?_, ?_, ?_, trivial⟩
      · intro d a' V' K hd hdep hI hK
        rw [HI.out] at hI
        obtain ⟨v18, v19, v20, v21, v22, v23, v24, v25, v26, v27, v2, rfl, hB, f0, f1, f2, f4, f5, f6, f7, fm, f9, f10⟩ := hI
        rw [if_pos (show Region.wanted _ _ = true from rfl)]
        have hB1 : Below (w.alloc (.cells #[.int .i64 pv, vv, bv, .int .i64 k, .int .i64 0] 62)).heap.size (w.alloc (.cells #[.int .i64 pv, vv, bv, .int .i64 k, .int .i64 0] 62)) V' := hb1.trans (hB.mono hb1.size)
        obtain ⟨q2, q3, q4⟩ := hbox _ hB1
        gi_wp2
        rw [HI.out]
        exact ⟨_, _, _, _, _, _, _, _, _, _, _, rfl, hB, (fun _ => rfl), f1, f2, f4, f5, f6, f7, fm, f9, f10⟩
      · intro d a' V' K hd hdep hI hK
        rw [HI.out] at hI
        obtain ⟨v18, v19, v20, v21, v22, v23, v24, v25, v26, v27, v2, rfl, hB, f0, f1, f2, f4, f5, f6, f7, fm, f9, f10⟩ := hI
        rw [if_pos (show Region.wanted _ _ = true from rfl)]
        have hB1 : Below (w.alloc (.cells #[.int .i64 pv, vv, bv, .int .i64 k, .int .i64 0] 62)).heap.size (w.alloc (.cells #[.int .i64 pv, vv, bv, .int .i64 k, .int .i64 0] 62)) V' := hb1.trans (hB.mono hb1.size)
        obtain ⟨q2, q3, q4⟩ := hbox _ hB1
        obtain rfl := f0 (hdep ⟨0, .data⟩ (by simp) rfl)
        gi_wp2
        rw [HI.out]
        exact ⟨_, _, _, _, _, _, _, _, _, _, _, rfl, hB, (fun _ => rfl), (fun _ => rfl), f2, f4, f5, f6, f7, fm, f9, f10⟩
      · intro d a' V' K hd hdep hI hK
        rw [HI.out] at hI
        obtain ⟨v18, v19, v20, v21, v22, v23, v24, v25, v26, v27, v2, rfl, hB, f0, f1, f2, f4, f5, f6, f7, fm, f9, f10⟩ := hI
        rw [if_pos (show Region.wanted _ _ = true from rfl)]
        have hB1 : Below (w.alloc (.cells #[.int .i64 pv, vv, bv, .int .i64 k, .int .i64 0] 62)).heap.size (w.alloc (.cells #[.int .i64 pv, vv, bv, .int .i64 k, .int .i64 0] 62)) V' := hb1.trans (hB.mono hb1.size)
        obtain ⟨q2, q3, q4⟩ := hbox _ hB1
        obtain rfl := f1 (hdep ⟨1, .data⟩ (by simp) rfl)
        gi_wp2
        rw [HI.out]
        exact ⟨_, _, _, _, _, _, _, _, _, _, _, rfl, hB, f0, (fun _ => rfl), (fun _ => rfl), f4, f5, f6, f7, fm, f9, f10⟩
      · intro d a' V' K hd hdep hI hK
        rw [HI.out] at hI
        obtain ⟨v18, v19, v20, v21, v22, v23, v24, v25, v26, v27, v2, rfl, hB, f0, f1, f2, f4, f5, f6, f7, fm, f9, f10⟩ := hI
        rw [if_pos (show Region.wanted _ _ = true from rfl)]
        have hB1 : Below (w.alloc (.cells #[.int .i64 pv, vv, bv, .int .i64 k, .int .i64 0] 62)).heap.size (w.alloc (.cells #[.int .i64 pv, vv, bv, .int .i64 k, .int .i64 0] 62)) V' := hb1.trans (hB.mono hb1.size)
        obtain ⟨q2, q3, q4⟩ := hbox _ hB1
        obtain rfl := f2 (hdep ⟨2, .data⟩ (by simp) rfl)
        have hbV : NodesIn (fun k => S k) V' v20 l := hb0.kept (kept_of (hB0.trans (hB1.mono hB0.size)) hS)
        gi_wp2_with (gi_at_call 90; refine (callsIn_wide.2 (CloneN_any l _ _ S (fun k hk => Nat.lt_of_lt_of_le (hS k hk) (hB0.trans (hB1.mono hB0.size)).size) hbV (by omega) (by omega))).mono ?_; rintro e V2 ⟨u2, rfl, hr2, hb2⟩)
        rw [HI.out]
        exact ⟨_, _, _, _, _, _, _, _, _, _, _, rfl, hB.trans (hb2.mono hB.size), f0, f1, (fun _ => rfl), f4, f5, f6, f7, (fun h9 => negMem_clone (by have := fm h9; rw [hd] at this; exact this) hr2 hb2 hB.size), (fun h => res_later (f9 h) hb2), f10⟩
      · intro d a' V' K hd hdep hI hK
        rw [HI.out] at hI
        obtain ⟨v18, v19, v20, v21, v22, v23, v24, v25, v26, v27, v2, rfl, hB, f0, f1, f2, f4, f5, f6, f7, fm, f9, f10⟩ := hI
        rw [if_pos (show Region.wanted _ _ = true from rfl)]
        have hB1 : Below (w.alloc (.cells #[.int .i64 pv, vv, bv, .int .i64 k, .int .i64 0] 62)).heap.size (w.alloc (.cells #[.int .i64 pv, vv, bv, .int .i64 k, .int .i64 0] 62)) V' := hb1.trans (hB.mono hb1.size)
        obtain ⟨q2, q3, q4⟩ := hbox _ hB1
        gi_wp2
        rw [HI.out]
        exact ⟨_, _, _, _, _, _, _, _, _, _, _, rfl, hB, f0, f1, f2, (fun _ => rfl), f5, f6, f7, fm, f9, f10⟩
      · intro d a' V' K hd hdep hI hK
        rw [HI.out] at hI
        obtain ⟨v18, v19, v20, v21, v22, v23, v24, v25, v26, v27, v2, rfl, hB, f0, f1, f2, f4, f5, f6, f7, fm, f9, f10⟩ := hI
        rw [if_pos (show Region.wanted _ _ = true from rfl)]
        have hB1 : Below (w.alloc (.cells #[.int .i64 pv, vv, bv, .int .i64 k, .int .i64 0] 62)).heap.size (w.alloc (.cells #[.int .i64 pv, vv, bv, .int .i64 k, .int .i64 0] 62)) V' := hb1.trans (hB.mono hb1.size)
        obtain ⟨q2, q3, q4⟩ := hbox _ hB1
        obtain rfl := f4 (hdep ⟨4, .data⟩ (by simp) rfl)
        gi_wp2
        rw [HI.out]
        exact ⟨_, _, _, _, _, _, _, _, _, _, _, rfl, hB, f0, f1, f2, (fun _ => rfl), (fun _ => rfl), f6, f7, fm, f9, f10⟩
      · intro d a' V' K hd hdep hI hK
        rw [HI.out] at hI
        obtain ⟨v18, v19, v20, v21, v22, v23, v24, v25, v26, v27, v2, rfl, hB, f0, f1, f2, f4, f5, f6, f7, fm, f9, f10⟩ := hI
        rw [if_pos (show Region.wanted _ _ = true from rfl)]
        have hB1 : Below (w.alloc (.cells #[.int .i64 pv, vv, bv, .int .i64 k, .int .i64 0] 62)).heap.size (w.alloc (.cells #[.int .i64 pv, vv, bv, .int .i64 k, .int .i64 0] 62)) V' := hb1.trans (hB.mono hb1.size)
        obtain ⟨q2, q3, q4⟩ := hbox _ hB1
        obtain rfl := f5 (hdep ⟨5, .data⟩ (by simp) rfl)
        gi_wp2
        rw [HI.out]
        exact ⟨_, _, _, _, _, _, _, _, _, _, _, rfl, hB, f0, f1, f2, f4, (fun _ => rfl), (fun _ => by go_num), f7, fm, f9, f10⟩
      · intro d a' V' K hd hdep hI hK
        rw [HI.out] at hI
        obtain ⟨v18, v19, v20, v21, v22, v23, v24, v25, v26, v27, v2, rfl, hB, f0, f1, f2, f4, f5, f6, f7, fm, f9, f10⟩ := hI
        rw [if_pos (show Region.wanted _ _ = true from rfl)]
        have hB1 : Below (w.alloc (.cells #[.int .i64 pv, vv, bv, .int .i64 k, .int .i64 0] 62)).heap.size (w.alloc (.cells #[.int .i64 pv, vv, bv, .int .i64 k, .int .i64 0] 62)) V' := hb1.trans (hB.mono hb1.size)
        obtain ⟨q2, q3, q4⟩ := hbox _ hB1
        gi_wp2
        rw [HI.out]
        exact ⟨_, _, _, _, _, _, _, _, _, _, _, rfl, hB, f0, f1, f2, f4, f5, f6, (fun _ => rfl), fm, f9, f10⟩
      · intro d a' V' K hd hdep hI hK
        rw [HI.out] at hI
        obtain ⟨v18, v19, v20, v21, v22, v23, v24, v25, v26, v27, v2, rfl, hB, f0, f1, f2, f4, f5, f6, f7, fm, f9, f10⟩ := hI
        rw [if_pos (show Region.wanted _ _ = true from rfl)]
        have hB1 : Below (w.alloc (.cells #[.int .i64 pv, vv, bv, .int .i64 k, .int .i64 0] 62)).heap.size (w.alloc (.cells #[.int .i64 pv, vv, bv, .int .i64 k, .int .i64 0] 62)) V' := hb1.trans (hB.mono hb1.size)
        obtain ⟨q2, q3, q4⟩ := hbox _ hB1
        obtain rfl := f7 (hdep ⟨7, .data⟩ (by simp) rfl)
        have hb2 := below_alloc1 V' (.cells #[.int .i64 6, .int .i64 0] 46)
        gi_wp2
        rw [HI.out]
        exact ⟨_, _, _, _, _, _, _, _, _, _, _, rfl, hB.trans (hb2.mono hB.size), f0, f1, f2, f4, f5, f6, (fun _ => rfl), (fun h9 => negMem_row (by have := fm h9; rw [hd] at this; exact this) hB.size), (fun h => res_later (f9 h) hb2), f10⟩
      · intro d a' V' K hd hdep hI hK
        rw [HI.out] at hI
        obtain ⟨v18, v19, v20, v21, v22, v23, v24, v25, v26, v27, v2, rfl, hB, f0, f1, f2, f4, f5, f6, f7, fm, f9, f10⟩ := hI
        rw [if_pos (show Region.wanted _ _ = true from rfl)]
        have hB1 : Below (w.alloc (.cells #[.int .i64 pv, vv, bv, .int .i64 k, .int .i64 0] 62)).heap.size (w.alloc (.cells #[.int .i64 pv, vv, bv, .int .i64 k, .int .i64 0] 62)) V' := hb1.trans (hB.mono hb1.size)
        obtain ⟨q2, q3, q4⟩ := hbox _ hB1
        obtain rfl := f6 (hdep ⟨6, .data⟩ (by simp) rfl)
        have hm := fm hd
        rw [hdep ⟨3, .data⟩ (by simp) rfl, hdep ⟨8, .data⟩ (by simp) rfl] at hm
        gi_wp2_with (gi_at_call 89; refine (callsIn_wide.2 (negMem_insert hm hk hl hB.size)).mono ?_; rintro e V2 ⟨u2, rfl, hr2, hb2⟩)
        rw [HI.out]
        exact ⟨_, _, _, _, _, _, _, _, _, _, _, rfl, hB.trans hb2, f0, f1, f2, f4, f5, (fun _ => by go_num), f7, (fun h => by rw [upd_self] at h; cases h), (fun _ => hr2), (fun h => by have := (f10 h).1; rw [hd] at this; cases this)⟩
      · intro d a' V' K hd hdep hI hK
        rw [HI.out] at hI
        obtain ⟨v18, v19, v20, v21, v22, v23, v24, v25, v26, v27, v2, rfl, hB, f0, f1, f2, f4, f5, f6, f7, fm, f9, f10⟩ := hI
        rw [if_pos (show Region.wanted _ _ = true from rfl)]
        have hB1 : Below (w.alloc (.cells #[.int .i64 pv, vv, bv, .int .i64 k, .int .i64 0] 62)).heap.size (w.alloc (.cells #[.int .i64 pv, vv, bv, .int .i64 k, .int .i64 0] 62)) V' := hb1.trans (hB.mono hb1.size)
        obtain ⟨q2, q3, q4⟩ := hbox _ hB1
        have h9 := hdep ⟨9, .data⟩ (by simp) rfl
        gi_wp2
        rw [HI.out]
        exact ⟨_, _, _, _, _, _, _, _, _, _, _, rfl, hB, f0, f1, f2, f4, f5, f6, f7, fm, f9, (fun _ => ⟨h9, rfl⟩)⟩
    · intro d a' V' hall hI
      rw [HI.out] at hI
      obtain ⟨v18, v19, v20, v21, v22, v23, v24, v25, v26, v27, v2, rfl, hB, f0, f1, f2, f4, f5, f6, f7, fm, f9, f10⟩ := hI
      obtain ⟨h9, rfl⟩ := f10 (hall 10 (by decide))
      have hres := f9 h9
      gi_wp2
      have hneg : negV l k 0 = l.take (k + 1) ++ (6, 0) :: l.drop (k + 1) := by unfold negV; rw [hx]; exact if_pos ⟨by simp, rfl⟩
      rw [hneg]
      exact ⟨_, results_tmp rfl _ _ _, v2, rfl, Rep.kept (Kept.refl _ _) (fun k hk => ⟨by have := hk.1; omega, hk.2⟩) (fun i p hi => hi) _ _ hres, (hB0.trans (hb1.mono hB0.size)).trans (hB.mono (by omega))⟩

  by_cases h23 : x1 = 23
  · subst h23
    have hn : ¬ n = 0 := fun e => h1 ⟨rfl, e⟩
    gi_wp2_with (first | (gi_at_call 86; refine (callsIn_wide.2 (hnode _ hB0)).mono ?_; rintro e w1 ⟨rfl, hb1⟩; obtain ⟨g2, g3, g4⟩ := hbox _ hb1) | simp only [field_tag])
    have hneg : negV l k n = [] := by unfold negV; rw [hx]; exact if_neg (by simp only; omega)
    rw [hneg]
    exact ⟨_, results_tmp rfl _ _ _, .slice none 0 0, rfl, by simp only [nodesD, List.map_nil, Rep]; exact .inl ⟨trivial, none, 0, rfl, fun _ => rfl⟩, hB0.trans (hb1.mono hB0.size)⟩
  by_cases h24 : x1 = 24
  · subst h24
    have hn : ¬ n = 0 := fun e => h2 ⟨rfl, e⟩
    gi_wp2_with (first | (gi_at_call 86; refine (callsIn_wide.2 (hnode _ hB0)).mono ?_; rintro e w1 ⟨rfl, hb1⟩; obtain ⟨g2, g3, g4⟩ := hbox _ hb1) | simp only [field_tag])
    have hneg : negV l k n = [] := by unfold negV; rw [hx]; exact if_neg (by simp only; omega)
    rw [hneg]
    exact ⟨_, results_tmp rfl _ _ _, .slice none 0 0, rfl, by simp only [nodesD, List.map_nil, Rep]; exact .inl ⟨trivial, none, 0, rfl, fun _ => rfl⟩, hB0.trans (hb1.mono hB0.size)⟩
  · gi_wp2_with (first | (gi_at_call 86; refine (callsIn_wide.2 (hnode _ hB0)).mono ?_; rintro e w1 ⟨rfl, hb1⟩; obtain ⟨g2, g3, g4⟩ := hbox _ hb1) | simp only [field_tag])
    have hneg : negV l k n = [] := by unfold negV; rw [hx]; exact if_neg (by simp only; omega)
    rw [hneg]
    exact ⟨_, results_tmp rfl _ _ _, .slice none 0 0, rfl, by simp only [nodesD, List.map_nil, Rep]; exact .inl ⟨trivial, none, 0, rfl, fun _ => rfl⟩, hB0.trans (hb1.mono hB0.size)⟩
def F_negate : List D → Option D := F1 chT fun c => if 0 ≤ c.k ∧ c.k < c.p.body.length ∧ (((nodeAt c.p.body c.k).1 = 23 ∨ (nodeAt c.p.body c.k).1 = 24) ∧ c.n = 0 → c.k + 1 < c.p.body.length) ∧ c.p.body.length ≤ 300000 then some (nodesD (negV c.p.body c.k.toNat c.n)) else none
theorem C_negate : CallOk Try.prog 46 F_negate := by
  refine ⟨⟨_, Try.func46, by decide, rfl⟩, fun ds d hF S vs W hS hv => ?_⟩
  unfold F_negate F1 at hF
  split at hF
  · rename_i x0
    obtain ⟨c, hc, hF⟩ := Option.bind_eq_some_iff.1 hF
    split at hF
    case isFalse => cases hF
    rename_i hg
    cases hF
    have hi : RepA S [] W vs [chD c] := (ImpL.cons (chT.ok _ _ hc) .nil : ImpL _ _).rep hv
    obtain ⟨⟨pv, vr, l⟩, k, n⟩ := c
    obtain ⟨k, rfl⟩ := Int.eq_ofNat_of_zero_le hg.1
    simp only [RepA, chD, chC, Rep] at hi
    obtain ⟨_, _, rfl, ⟨_, rfl, _, _, rfl, rfl, vv, _, rfl, hvv, bv, _, rfl, hbv, _, _, rfl, rfl, _, _, rfl, rfl, rfl⟩, rfl⟩ := hi
    simp only [Int.toNat_natCast] at hg ⊢
    refine (negate_any l k n pv vv bv W S hS vr hvv hbv (by omega) (fun h => by have := hg.2.2.1 h; omega) hg.2.2.2).mono ?_
    rintro e w' ⟨u, rfl, h1, h2⟩
    exact ⟨u, rfl, Rep.kept (Kept.refl _ _) (fun k hk => .inr hk) (fun i p hi => hi) _ _ h1, h2⟩
  · cases hF
theorem N_negate : CallNew Try.prog 46 F_negate := by
  refine ⟨⟨_, Try.func46, by decide, rfl⟩, fun ds d hF S vs W hS hv => ?_⟩
  unfold F_negate F1 at hF
  split at hF
  · rename_i x0
    obtain ⟨c, hc, hF⟩ := Option.bind_eq_some_iff.1 hF
    split at hF
    case isFalse => cases hF
    rename_i hg
    cases hF
    have hi : RepA S [] W vs [chD c] := (ImpL.cons (chT.ok _ _ hc) .nil : ImpL _ _).rep hv
    obtain ⟨⟨pv, vr, l⟩, k, n⟩ := c
    obtain ⟨k, rfl⟩ := Int.eq_ofNat_of_zero_le hg.1
    simp only [RepA, chD, chC, Rep] at hi
    obtain ⟨_, _, rfl, ⟨_, rfl, _, _, rfl, rfl, vv, _, rfl, hvv, bv, _, rfl, hbv, _, _, rfl, rfl, _, _, rfl, rfl, rfl⟩, rfl⟩ := hi
    simp only [Int.toNat_natCast] at hg ⊢
    refine (negate_any l k n pv vv bv W S hS vr hvv hbv (by omega) (fun h => by have := hg.2.2.1 h; omega) hg.2.2.2).mono ?_
    rintro e w' ⟨u, rfl, h1, h2⟩
    exact ⟨u, rfl, h1, h2⟩
  · cases hF
end Go.Proofs.Ytalehbmgbjiigaa
end

section
namespace Go.Proofs.Ytalehbmgbjiigaa
open Go.RowKit
set_option linter.unusedVariables false
set_option linter.unusedSimpArgs false

theorem row_three (t : TypeId) (a b c : Int) (H : Heap) : rowH t 1 3 [iD 0] [(0, iD a), (1, iD b), (2, iD c)] H = some (.hs H.length 3, H ++ [.cells t 1 [iD a, iD b, iD c]]) := rfl
theorem cmpOr_row (o1 o2 : HO) (t : TypeId) (a b c : Int) : liftF F_cmpOr [.hs 2 3] [o1, o2, .cells t 1 [iD a, iD b, iD c]] = some (iD (orV [a, b, c]), [o1, o2, .cells t 1 [iD a, iD b, iD c]]) := by
  have hd : [D.hs 2 3].mapM (derefN [o1, o2, .cells t 1 [iD a, iD b, iD c]] 9) = some [intsD [a, b, c]] := rfl
  rw [liftF_obj _ _ _ _ rfl hd]
  have : F_cmpOr [intsD [a, b, c]] = _ := f1_enc (A := intsT) _ [a, b, c]
  rw [this, if_pos (by simp)]
  rfl
theorem orV_cmp (a b : Dl) : orV [cmpL a.path b.path, cmpI a.op b.op, cmpI a.n b.n] = cmpDl a b := by
  unfold cmpDl
  simp only [orV]
  split
  · rfl
  · split
    · rfl
    · split
      · rfl
      · rename_i h; exact (Decidable.not_not.1 h).symm
def F_DCompare : List D → Option D := F2 dlT dlT fun a b => if a.path.length ≤ 3000000 ∧ b.path.length ≤ 3000000 then some (iD (cmpDl a b)) else none
theorem C_DCompare : CallOk Try.prog 30 F_DCompare := call2 (kp := kp_delta_Compare) T12b_ok mixed Try.func30 (by kernel_rfl) (by decide) fun a b d h => by
  split at h
  case isFalse => cases h
  rename_i hl
  cases h
  refine ⟨0, _, ?_, Imp.refl _⟩
  show outD (textK _ _ _ _ _ [dlD a, dlD b] []) = _
  rw [sh_delta_Compare, ← orV_cmp]
  simp [compare_pure _ _ _ hl.1 hl.2, cmpI_pure, row_three, cmpOr_row]
theorem C_RefDCompare : CallOk Try.prog 25 F_DCompare := call2 (kp := kp_offshootref12_Compare) T12b_ok mixed Try.func25 (by kernel_rfl) (by decide) fun a b d h => by
  split at h
  case isFalse => cases h
  rename_i hl
  cases h
  refine ⟨0, _, ?_, Imp.refl _⟩
  show outD (textK _ _ _ _ _ [dlD a, dlD b] []) = _
  rw [sh_offshootref12_Compare]
  unfold cmpDl
  by_cases h1 : cmpL a.path b.path = 0
  · by_cases h2 : a.op = b.op
    · have h3 : cmpI a.op b.op = 0 := (cmpI_zero _ _).2 h2
      rw [h2] at h3
      simp [refCompare_pure _ _ _ hl.1 hl.2, less_pure, h1, h2, h3]
    · have h3 : ¬ cmpI a.op b.op = 0 := fun e => h2 ((cmpI_zero _ _).1 e)
      simp [refCompare_pure _ _ _ hl.1 hl.2, less_pure, h1, h2, h3]
  · simp [refCompare_pure _ _ _ hl.1 hl.2, less_pure, h1]

theorem chNode_pure (c : Chg) (H : Heap) (h0 : 0 ≤ c.k) (hk : c.k.toNat < c.p.body.length) : liftF F_chNode [chD c] H = some (.agg (nodeD (nodeAt c.p.body c.k)), H) := by
  rw [liftF_pure _ _ _ rfl]
  have : F_chNode [chD c] = _ := f1_enc (A := chT) _ c
  rw [this, if_pos ⟨h0, hk⟩]; rfl
theorem set_rowAt (H : Heap) (id : Nat) (t : TypeId) (l : List Nd) (k : Nat) (x : Nd) (hk : k < l.length) (h : H[id]? = some (.cells t 2 (nodesC l))) : setH 2 (.hp id (k * 2)) (.agg (nodeD x)) H = some (.v undef, H.set id (.cells t 2 (nodesC (l.set k x)))) := by
  have hl : k * 2 + 2 ≤ (nodesC l).length := by rw [nodesC_len]; omega
  rw [nodesC_set l k x hk, Nat.mul_comm 2 k]
  simp [setH, storeH, h, nodeD, cellsD, hl]
def F_chPut : List D → Option D := F2 chT ndT fun c x => if 0 ≤ c.k ∧ c.k.toNat < c.p.body.length ∧ c.p.body.length ≤ 1000000 then some (nodesD (c.p.body.set c.k.toNat x)) else none
theorem C_chPut : CallOk Try.prog 87 F_chPut := call2 (kp := kp_delta_change__put) T12b_ok mixed Try.func87 (by kernel_rfl) (by decide) fun c x d h => by
  split at h
  case isFalse => cases h
  rename_i hg
  cases h
  obtain ⟨h0, h1, h2⟩ := hg
  obtain ⟨⟨m, vs, l⟩, k, n⟩ := c
  obtain ⟨k, rfl⟩ := Int.eq_ofNat_of_zero_le h0
  simp only [Int.toNat_natCast] at h1 h2 ⊢
  refine ⟨0, _, ?_, Imp.refl _⟩
  show outD (textK _ _ _ _ _ [chD ⟨⟨m, vs, l⟩, k, n⟩, .agg (nodeD x)] []) = _
  rw [sh_delta_change__put]
  have hc := cloneN_ok l [.cells 62 5 [iD m, intsD vs, nodesD l, iD k, iD n], .cells 46 2 [iD x.1, iD x.2]] (by omega) h2
  have hi : idxH 2 (.hs 3 l.length) (iD k) = some (.hp 3 (k * 2)) := by
    simp [idxH, h1]
  have hs := set_rowAt [.cells 62 5 [iD m, intsD vs, nodesD l, iD k, iD n], .cells 46 2 [iD x.1, iD x.2], .dead, .cells 46 2 (nodesC l)] 3 46 l k x h1 rfl
  have ho := outD_nrow [.cells 62 5 [iD m, intsD vs, nodesD l, iD k, iD n], .cells 46 2 [iD x.1, iD x.2], .dead, .cells 46 2 (nodesC (l.set k x))] 46 3 (l.set k x) rfl
  rw [List.length_set] at ho
  have hx : D.agg [iD x.1, iD x.2] = .agg (nodeD x) := rfl
  simp at hc
  simp [hc, hi, hx, hs, ho]
def F_chBoth : List D → Option D := F3 chT intT intT fun c lo hi => if 0 ≤ c.k ∧ c.k.toNat < c.p.body.length then some (bD (decide (lo ≤ (nodeAt c.p.body c.k).1 ∧ (nodeAt c.p.body c.k).1 ≤ hi ∧ lo ≤ c.n ∧ c.n ≤ hi))) else none
theorem C_chBoth : CallOk Try.prog 121 F_chBoth := call3 (kp := kp_delta_change__both) T12b_ok mixed Try.func121 (by kernel_rfl) (by decide) fun c lo hi d h => by
  split at h
  case isFalse => cases h
  rename_i hg
  cases h
  refine ⟨0, _, ?_, Imp.refl _⟩
  show outD (textK _ _ _ _ _ [chD c, iD lo, iD hi] []) = _
  rw [sh_delta_change__both]
  have hc := fun H => chNode_pure c H hg.1 hg.2
  have hx : D.agg [iD c.p.params, intsD c.p.vars, nodesD c.p.body, iD c.k, iD c.n] = chD c := rfl
  generalize nodeAt c.p.body c.k = x at *
  by_cases h1 : lo ≤ x.1
  · by_cases h2 : x.1 ≤ hi
    · by_cases h3 : lo ≤ c.n
      · simp [hc, hx, h1, h2, h3]
      · simp [hc, hx, h1, h2, h3]
    · simp [hc, hx, h1, h2]
  · simp [hc, hx, h1]
theorem refEnd12_pure (l : List Nd) (i : Int) (H : Heap) (hl : l.length ≤ 3000000) : liftF F_RefEnd [nodesD l, iD i] H = some (iD (endv l i), H) := by
  rw [liftF_pure _ _ _ rfl]; simp [F_RefEnd, hl]
theorem swap_at (l : List Nd) (a b : Int) (k to : Nat) (x : Nd) (H : Heap) (n : Nat) (hn : n = H.length) (ha : a = k) (hb : b = to) (h1 : k ≤ to) (h2 : to ≤ l.length) (h3 : l.length ≤ 300000) (t : TypeId) :
    liftN F_swap [nodesD l, iD a, iD b, .hs n 1] (H ++ [.cells t 2 [iD x.1, iD x.2]]) = some (nodesD (swapV l k to [x]), H ++ [.cells t 2 [iD x.1, iD x.2]]) := by
  subst hn; subst ha; subst hb
  exact swap_new l k to x H h1 h2 h3 t
theorem may_op {x : Nd} {op n : Int} (h : mayV x op n) : op = 1 ∨ op = 2 ∨ op = 3 ∨ op = 4 ∨ op = 5 ∨ op = 6 ∨ (op = 7 ∧ x.1 = 25) := by
  rcases h with h | h | h | h | h | h | h
  · exact .inl h.1
  · exact .inr (.inl h.1)
  · exact .inr (.inr (.inl h.1))
  · exact .inr (.inr (.inr (.inl h.1)))
  · exact .inr (.inr (.inr (.inr (.inl h.1))))
  · exact .inr (.inr (.inr (.inr (.inr (.inl h.1)))))
  · exact .inr (.inr (.inr (.inr (.inr (.inr h)))))
def F_changed : List D → Option D := F3 nodesT intT dlT fun l k d => if 0 ≤ k ∧ 0 ≤ endv l k ∧ mayV (nodeAt l k) d.op d.n ∧ l.length ≤ 300000 then some (nodesD (changedV l k.toNat (nodeAt l k) d.op d.n)) else none
theorem C_changed : CallOk Try.prog 51 F_changed := call3 (kp := kp_offshootref12_changed) T12b_ok mixed Try.func51 (by kernel_rfl) (by decide) fun l k d r h => by
  split at h
  case isFalse => cases h
  rename_i hg
  cases h
  obtain ⟨h0, hE, hm, hl⟩ := hg
  obtain ⟨k, rfl⟩ := Int.eq_ofNat_of_zero_le h0
  simp only [Int.toNat_natCast]
  refine ⟨0, _, ?_, Imp.refl _⟩
  show outD (textK _ _ _ _ _ [nodesD l, iD k, dlD d] []) = _
  have hk : k < l.length := by have := (endv_in l k hE).2; simpa using this
  have hx : l[k]? = some (nodeAt l k) := by rw [nodeAt_in _ _ hk]; exact List.getElem?_eq_getElem hk
  have hle := endv_le l k
  have hgt := endv_gt l k hE
  rw [sh_offshootref12_changed, ← refCh_eq hE hx hm]
  have hi := idx_nodesN l k hk
  have hn : l[k] = nodeAt l k := (nodeAt_in l k hk).symm
  have ha := alloc_node 46 [.cells 27 3 [intsD d.path, iD d.op, iD d.n]]
  have hs := set_node [.cells 27 3 [intsD d.path, iD d.op, iD d.n], .cells 46 2 [iD 0, iD 0]] 1 46 (iD 0) (iD 0) (nodeAt l k) rfl
  have e1 := intD_add (k : Int) 1 (by omega) (by omega)
  have hsw := fun (a b : Int) (to : Nat) (x : Nd) (k' : Nat) => swap_at l a b k' to x [.cells 27 3 [intsD d.path, iD d.op, iD d.n], .cells 46 2 (nodeD (nodeAt l k))] 2 rfl
  have e7 : (nodeAt l k).1 = 25 → 0 ≤ endv l ((k + 1 : Nat) : Int) ∧ endv l ((k + 1 : Nat) : Int) = endv l k := fun h => by
    obtain ⟨f1, f2, _⟩ := ret_kid l k hE h
    exact ⟨f1, f2⟩
  obtain ⟨m, hm2⟩ := Int.eq_ofNat_of_zero_le hE
  rw [hn] at hi
  generalize nodeAt l k = x at *
  obtain ⟨p, op, v⟩ := d
  simp only at *
  unfold refChV
  have g0 : (nodeD x)[0]? = some (iD x.1) := rfl
  have g1 : (nodeD x)[1]? = some (iD x.2) := rfl
  have he := refEnd12_pure l k [.cells 27 3 [intsD p, iD op, iD v], .cells 46 2 (nodeD x)] (by omega)
  rw [hm2] at he
  rcases may_op hm with rfl | rfl | rfl | rfl | rfl | rfl | ⟨rfl, h7⟩
  · have q := hsw k ((k : Int) + 1) (k + 1) (v, x.2) k rfl (by omega) (by omega) (by omega) hl 46
    simp at q
    simp [hi, alloc_node, hs, e1, g0, g1, build_node, row_node, q]
  · have q := hsw k ((k : Int) + 1) (k + 1) (v, x.2) k rfl (by omega) (by omega) (by omega) hl 46
    simp at q
    simp [hi, alloc_node, hs, e1, g0, g1, build_node, row_node, q]
  · have q := hsw k ((k : Int) + 1) (k + 1) (v, x.2) k rfl (by omega) (by omega) (by omega) hl 46
    simp at q
    simp [hi, alloc_node, hs, e1, g0, g1, build_node, row_node, q]
  · have q := hsw k ((k : Int) + 1) (k + 1) (x.1, v) k rfl (by omega) (by omega) (by omega) hl 46
    simp at q
    simp [hi, alloc_node, hs, e1, g0, g1, build_node, row_node, q]
  · have q := hsw k m m (26, 0) k rfl rfl (by omega) (by omega) hl 46
    simp at q
    simp [hi, alloc_node, hs, e1, g0, g1, build_tag, row_node, q, he, hm2]
  · have q := hsw ((k : Int) + 1) ((k : Int) + 1) (k + 1) (6, 0) (k + 1) (by omega) (by omega) (by omega) (by omega) hl 46
    simp at q
    simp [hi, alloc_node, hs, e1, g0, g1, build_tag, row_node, q]
  · obtain ⟨f1, f2⟩ := e7 h7
    have f3 := endv_gt l _ f1
    have he := refEnd12_pure l ((k + 1 : Nat) : Int) [.cells 27 3 [intsD p, iD 7, iD v], .cells 46 2 (nodeD x)] (by omega)
    rw [f2, hm2] at he
    rw [f2, hm2] at f3
    have q := hsw ((k : Int) + 1) m m (1, v) (k + 1) (by omega) rfl (by omega) (by omega) hl 46
    simp at q he
    simp at f2
    simp [hi, alloc_node, hs, e1, g0, g1, build_node, row_node, q, he, f2, hm2]
/- May a node, and a number, be changed so? -/
def F_may : List D → Option D := F3 ndT intT intT fun x op n => some (bD (decide (mayV x op n)))
theorem C_may : CallOk Try.prog 50 F_may := call3 (kp := kp_offshootref12_may) T12b_ok mixed Try.func50 (by kernel_rfl) (by decide) fun x op n r h => by
  cases h
  refine ⟨0, _, ?_, Imp.refl _⟩
  show outD (textK _ _ _ _ _ [.agg (nodeD x), iD op, iD n] []) = _
  rw [sh_offshootref12_may]
  obtain ⟨t, m⟩ := x
  have ho : ∀ (c : Prop) [Decidable c] (a b : Option (D × Heap)), outD (if c then a else b) = if c then outD a else outD b := fun c _ a b => by split <;> rfl
  have hi : ∀ (c : Prop) [Decidable c] (a b : Bool), (if c then some (bD a) else some (bD b)) = some (bD (if c then a else b)) := fun c _ a b => by split <;> rfl
  have hb : ∀ a b : Int, (a == b) = decide (a = b) := fun _ _ => rfl
  by_cases o1 : op = 1
  · subst o1
    simp [between_pure, ho, hi, mayV]
    try (rw [Bool.eq_iff_iff]; simp; omega)
  by_cases o2 : op = 2
  · subst o2
    simp [between_pure, ho, hi, mayV]
    try (rw [Bool.eq_iff_iff]; simp; omega)
  by_cases o3 : op = 3
  · subst o3
    simp [between_pure, ho, hi, mayV]
    try (rw [Bool.eq_iff_iff]; simp; omega)
  by_cases o4 : op = 4
  · subst o4
    simp [between_pure, ho, hi, mayV]
    try (rw [Bool.eq_iff_iff]; simp; omega)
  by_cases o5 : op = 5
  · subst o5
    simp [between_pure, ho, hi, mayV]
    simp only [hb]
    by_cases t1 : t = 21 <;> by_cases t2 : t = 22 <;> by_cases t3 : t = 23 <;> by_cases t4 : t = 24 <;> simp [t1, t2, t3, t4]
  by_cases o6 : op = 6
  · subst o6
    simp [between_pure, ho, hi, mayV]
    simp only [hb]
    by_cases t3 : t = 23 <;> by_cases t4 : t = 24 <;> simp [t3, t4]
  by_cases o7 : op = 7
  · subst o7
    simp [between_pure, ho, hi, mayV]
    simp only [hb]
  simp [between_pure, ho, hi, mayV, o1, o2, o3, o4, o5, o6, o7]
def fs12c (P : Program) : List Entry := (30, true, liftF F_DCompare) :: (25, true, liftF F_DCompare) :: (87, true, liftF F_chPut) :: (121, true, liftF F_chBoth) :: (51, true, liftF F_changed) :: (50, true, liftF F_may) :: (46, true, liftF F_negate) :: fs12b P
theorem fs12c_ok : ∀ p ∈ fs12c Try.prog, EntryOk Try.prog p := entries_cons (entry_lift C_DCompare) <| entries_cons (entry_lift C_RefDCompare) <| entries_cons (entry_lift C_chPut) <| entries_cons (entry_lift C_chBoth) <| entries_cons (entry_lift C_changed) <| entries_cons (entry_lift C_may) <| entries_cons (entry_lift C_negate) <| fs12b_ok
def T12c (P : Program) : Tab := ⟨fs12c P, noYl⟩
theorem T12c_ok : TabOk Try.prog (T12c Try.prog) := tabOk_of fs12c_ok
end Go.Proofs.Ytalehbmgbjiigaa
end

section
namespace Go.Proofs.Ytalehbmgbjiigaa
open Go.RowKit
set_option linter.unusedVariables false
set_option maxRecDepth 100000

def kp_delta_Same : List Nat := []
theorem sh_delta_Same (n : Nat) (x0 x1 : D) (h : Heap) : textK Try.prog (T12c Try.prog) kp_delta_Same n Try.f26 [x0, x1] h =
(thnH (boxH 27 x0 h) fun y0 h1 =>
thnH (boxH 27 x1 h1) fun y2 h3 =>
thn (loadH (some 3) h3 y0) fun y4 =>
thn (loadH (some 3) h3 y2) fun y5 =>
thnH (liftF F_DCompare [y4, y5] h3) fun y6 h7 =>
thn (binK .int .eql y6 (iD 0)) fun y8 =>
some (y8, h7)) := by kernel_rfl

def kp_delta_change__tag : List Nat := []
theorem sh_delta_change__tag (n : Nat) (x0 x1 x2 : D) (h : Heap) : textK Try.prog (T12c Try.prog) kp_delta_change__tag n Try.f85 [x0, x1, x2] h =
(thnH (boxH 62 x0 h) fun y0 h1 =>
thn (loadH (some 5) h1 y0) fun y2 =>
thnH (liftF F_chBoth [y2, x1, x2] h1) fun y3 h4 =>
thn (notD y3) fun y5 =>
condK y5
(some ((.v (.slice none 0 0)), h4))
(thn (loadH (some 5) h4 y0) fun y6 =>
thn (fieldAtH 4 y0) fun y7 =>
thn (loadH none h4 y7) fun y8 =>
thn (loadH (some 5) h4 y0) fun y9 =>
thnH (liftF F_chNode [y9] h4) fun y10 h11 =>
thn (fieldD none 1 y10) fun y12 =>
thn (buildR [(0, 1), (1, 1)] [(iD 0), (iD 0)] [(0, y8), (1, y12)]) fun y13 =>
thnH (liftF F_chPut [y6, y13] h11) fun y14 h15 =>
some (y14, h15))) := by kernel_rfl

def kp_delta_change__constant : List Nat := []
theorem sh_delta_change__constant (n : Nat) (x0 : D) (h : Heap) : textK Try.prog (T12c Try.prog) kp_delta_change__constant n Try.f44 [x0] h =
(thnH (boxH 62 x0 h) fun y0 h1 =>
thn (loadH (some 5) h1 y0) fun y2 =>
thnH (liftF F_chNode [y2] h1) fun y3 h4 =>
thnH (allocH 46 [(iD 0), (iD 0)] h4) fun y5 h6 =>
thnH (setH 2 y5 y3 h6) fun y7 h8 =>
thn (fieldAtH 0 y5) fun y9 =>
thn (loadH none h8 y9) fun y10 =>
thn (binK .int .neq y10 (iD 1)) fun y11 =>
condK y11
(thn (fieldAtH 0 y5) fun y12 =>
thn (loadH none h8 y12) fun y13 =>
thn (binK .int .neq y13 (iD 2)) fun y14 =>
condK y14
(some ((.v (.slice none 0 0)), h8))
(thn (fieldAtH 4 y0) fun y15 =>
thn (loadH none h8 y15) fun y16 =>
thn (binK .int .lss y16 (iD 0)) fun y17 =>
condK y17
(some ((.v (.slice none 0 0)), h8))
(thn (fieldAtH 4 y0) fun y18 =>
thn (loadH none h8 y18) fun y19 =>
thn (binK .int .gtr y19 (iD 1)) fun y20 =>
condK y20
(some ((.v (.slice none 0 0)), h8))
(thn (loadH (some 5) h8 y0) fun y21 =>
thn (fieldAtH 0 y5) fun y22 =>
thn (loadH none h8 y22) fun y23 =>
thn (fieldAtH 4 y0) fun y24 =>
thn (loadH none h8 y24) fun y25 =>
thn (buildR [(0, 1), (1, 1)] [(iD 0), (iD 0)] [(0, y23), (1, y25)]) fun y26 =>
thnH (liftF F_chPut [y21, y26] h8) fun y27 h28 =>
some (y27, h28)))))
(thn (loadH (some 5) h8 y0) fun y29 =>
thn (fieldAtH 0 y5) fun y30 =>
thn (loadH none h8 y30) fun y31 =>
thn (fieldAtH 4 y0) fun y32 =>
thn (loadH none h8 y32) fun y33 =>
thn (buildR [(0, 1), (1, 1)] [(iD 0), (iD 0)] [(0, y31), (1, y33)]) fun y34 =>
thnH (liftF F_chPut [y29, y34] h8) fun y35 h36 =>
some (y35, h36))) := by kernel_rfl

def kp_delta_change__remove : List Nat := []
theorem sh_delta_change__remove (n : Nat) (x0 : D) (h : Heap) : textK Try.prog (T12c Try.prog) kp_delta_change__remove n Try.f45 [x0] h =
(thnH (boxH 62 x0 h) fun y0 h1 =>
thn (loadH (some 5) h1 y0) fun y2 =>
thnH (liftF F_chNode [y2] h1) fun y3 h4 =>
thn (fieldD none 0 y3) fun y5 =>
thn (binK .int .eql y5 (iD 21)) fun y6 =>
condK y6
(thn (fieldAtH 4 y0) fun y7 =>
thn (loadH none h4 y7) fun y8 =>
thn (binK .int .eql y8 (iD 0)) fun y9 =>
condK y9
(thn (fieldAtH 0 y0) fun y10 =>
thn (fieldAtH 2 y10) fun y11 =>
thn (loadH none h4 y11) fun y12 =>
thn (fieldAtH 3 y0) fun y13 =>
thn (loadH none h4 y13) fun y14 =>
thn (buildR [(0, 1), (1, 1)] [(iD 0), (iD 0)] [(0, (iD 26))]) fun y15 =>
thnH (rowH 46 2 1 [(iD 0), (iD 0)] [(0, y15)] h4) fun y16 h17 =>
thnH (liftN F_Replace [y12, y14, y16] h17) fun y18 h19 =>
some (y18, h19))
(some ((.v (.slice none 0 0)), h4)))
(thn (binK .int .eql y5 (iD 22)) fun y20 =>
condK y20
(thn (fieldAtH 4 y0) fun y21 =>
thn (loadH none h4 y21) fun y22 =>
thn (binK .int .eql y22 (iD 0)) fun y23 =>
condK y23
(thn (fieldAtH 0 y0) fun y24 =>
thn (fieldAtH 2 y24) fun y25 =>
thn (loadH none h4 y25) fun y26 =>
thn (fieldAtH 3 y0) fun y27 =>
thn (loadH none h4 y27) fun y28 =>
thn (buildR [(0, 1), (1, 1)] [(iD 0), (iD 0)] [(0, (iD 26))]) fun y29 =>
thnH (rowH 46 2 1 [(iD 0), (iD 0)] [(0, y29)] h4) fun y30 h31 =>
thnH (liftN F_Replace [y26, y28, y30] h31) fun y32 h33 =>
some (y32, h33))
(some ((.v (.slice none 0 0)), h4)))
(thn (binK .int .eql y5 (iD 23)) fun y34 =>
condK y34
(thn (fieldAtH 4 y0) fun y35 =>
thn (loadH none h4 y35) fun y36 =>
thn (binK .int .eql y36 (iD 0)) fun y37 =>
condK y37
(thn (fieldAtH 0 y0) fun y38 =>
thn (fieldAtH 2 y38) fun y39 =>
thn (loadH none h4 y39) fun y40 =>
thn (fieldAtH 3 y0) fun y41 =>
thn (loadH none h4 y41) fun y42 =>
thn (buildR [(0, 1), (1, 1)] [(iD 0), (iD 0)] [(0, (iD 26))]) fun y43 =>
thnH (rowH 46 2 1 [(iD 0), (iD 0)] [(0, y43)] h4) fun y44 h45 =>
thnH (liftN F_Replace [y40, y42, y44] h45) fun y46 h47 =>
some (y46, h47))
(some ((.v (.slice none 0 0)), h4)))
(thn (binK .int .eql y5 (iD 24)) fun y48 =>
condK y48
(thn (fieldAtH 4 y0) fun y49 =>
thn (loadH none h4 y49) fun y50 =>
thn (binK .int .eql y50 (iD 0)) fun y51 =>
condK y51
(thn (fieldAtH 0 y0) fun y52 =>
thn (fieldAtH 2 y52) fun y53 =>
thn (loadH none h4 y53) fun y54 =>
thn (fieldAtH 3 y0) fun y55 =>
thn (loadH none h4 y55) fun y56 =>
thn (buildR [(0, 1), (1, 1)] [(iD 0), (iD 0)] [(0, (iD 26))]) fun y57 =>
thnH (rowH 46 2 1 [(iD 0), (iD 0)] [(0, y57)] h4) fun y58 h59 =>
thnH (liftN F_Replace [y54, y56, y58] h59) fun y60 h61 =>
some (y60, h61))
(some ((.v (.slice none 0 0)), h4)))
(thn (binK .int .eql y5 (iD 25)) fun y62 =>
condK y62
(thn (fieldAtH 4 y0) fun y63 =>
thn (loadH none h4 y63) fun y64 =>
thn (binK .int .eql y64 (iD 0)) fun y65 =>
condK y65
(thn (fieldAtH 0 y0) fun y66 =>
thn (fieldAtH 2 y66) fun y67 =>
thn (loadH none h4 y67) fun y68 =>
thn (fieldAtH 3 y0) fun y69 =>
thn (loadH none h4 y69) fun y70 =>
thn (buildR [(0, 1), (1, 1)] [(iD 0), (iD 0)] [(0, (iD 26))]) fun y71 =>
thnH (rowH 46 2 1 [(iD 0), (iD 0)] [(0, y71)] h4) fun y72 h73 =>
thnH (liftN F_Replace [y68, y70, y72] h73) fun y74 h75 =>
some (y74, h75))
(some ((.v (.slice none 0 0)), h4)))
(some ((.v (.slice none 0 0)), h4))))))) := by kernel_rfl

def kp_delta_change__answer : List Nat := []
theorem sh_delta_change__answer (n : Nat) (x0 : D) (h : Heap) : textK Try.prog (T12c Try.prog) kp_delta_change__answer n Try.f47 [x0] h =
(thnH (boxH 62 x0 h) fun y0 h1 =>
thn (loadH (some 5) h1 y0) fun y2 =>
thnH (liftF F_chNode [y2] h1) fun y3 h4 =>
thn (fieldD none 0 y3) fun y5 =>
thn (binK .int .neq y5 (iD 25)) fun y6 =>
condK y6
(some ((.v (.slice none 0 0)), h4))
(thn (fieldAtH 0 y0) fun y7 =>
thn (fieldAtH 2 y7) fun y8 =>
thn (loadH none h4 y8) fun y9 =>
thn (fieldAtH 3 y0) fun y10 =>
thn (loadH none h4 y10) fun y11 =>
thn (binK .int .add y11 (iD 1)) fun y12 =>
thn (fieldAtH 4 y0) fun y13 =>
thn (loadH none h4 y13) fun y14 =>
thn (buildR [(0, 1), (1, 1)] [(iD 0), (iD 0)] [(0, (iD 1)), (1, y14)]) fun y15 =>
thnH (rowH 46 2 1 [(iD 0), (iD 0)] [(0, y15)] h4) fun y16 h17 =>
thnH (liftN F_Replace [y9, y12, y16] h17) fun y18 h19 =>
some (y18, h19))) := by kernel_rfl

def kp_offshootref12_Apply : List Nat := []
theorem sh_offshootref12_Apply (n : Nat) (x0 x1 : D) (h : Heap) : textK Try.prog (T12c Try.prog) kp_offshootref12_Apply n Try.f19 [x0, x1] h =
(thnH (boxH 25 x0 h) fun y0 h1 =>
thnH (boxH 27 x1 h1) fun y2 h3 =>
thnH (allocH 25 [(iD 0), (.v (.slice none 0 0)), (.v (.slice none 0 0))] h3) fun y4 h5 =>
thn (fieldAtH 2 y0) fun y6 =>
thn (loadH none h5 y6) fun y7 =>
thn (fieldAtH 0 y2) fun y8 =>
thn (loadH none h5 y8) fun y9 =>
thnH (liftF F_RefFind [y7, y9] h5) fun y10 h11 =>
thn (binK .int .lss y10 (iD 0)) fun y12 =>
condK y12
(thn (buildR [(0, 1), (1, 1), (2, 1)] [(iD 0), (.v (.slice none 0 0)), (.v (.slice none 0 0))] []) fun y13 =>
thnH (setH 3 y4 y13 h11) fun y14 h15 =>
thn (loadH (some 3) h15 y4) fun y16 =>
some (.tup [y16, (iD 16)], h15))
(thn (fieldAtH 2 y0) fun y17 =>
thn (loadH none h11 y17) fun y18 =>
thn (idxH 2 y18 y10) fun y19 =>
thn (loadH (some 2) h11 y19) fun y20 =>
thnH (allocH 46 [(iD 0), (iD 0)] h11) fun y21 h22 =>
thnH (setH 2 y21 y20 h22) fun y23 h24 =>
thn (loadH (some 2) h24 y21) fun y25 =>
thn (fieldAtH 1 y2) fun y26 =>
thn (loadH none h24 y26) fun y27 =>
thn (fieldAtH 2 y2) fun y28 =>
thn (loadH none h24 y28) fun y29 =>
thnH (liftF F_may [y25, y27, y29] h24) fun y30 h31 =>
thn (notD y30) fun y32 =>
condK y32
(thn (buildR [(0, 1), (1, 1), (2, 1)] [(iD 0), (.v (.slice none 0 0)), (.v (.slice none 0 0))] []) fun y33 =>
thnH (setH 3 y4 y33 h31) fun y34 h35 =>
thn (loadH (some 3) h35 y4) fun y36 =>
some (.tup [y36, (iD 17)], h35))
(thn (fieldAtH 0 y0) fun y37 =>
thn (loadH none h31 y37) fun y38 =>
thn (fieldAtH 1 y0) fun y39 =>
thn (loadH none h31 y39) fun y40 =>
thn (fieldAtH 2 y0) fun y41 =>
thn (loadH none h31 y41) fun y42 =>
thn (loadH (some 3) h31 y2) fun y43 =>
thnH (liftF F_changed [y42, y10, y43] h31) fun y44 h45 =>
thn (buildR [(0, 1), (1, 1), (2, 1)] [(iD 0), (.v (.slice none 0 0)), (.v (.slice none 0 0))] [(0, y38), (1, y40), (2, y44)]) fun y46 =>
thnH (setH 3 y4 y46 h45) fun y47 h48 =>
thn (loadH (some 3) h48 y4) fun y49 =>
some (.tup [y49, (iD 0)], h48)))) := by kernel_rfl

end Go.Proofs.Ytalehbmgbjiigaa
end
