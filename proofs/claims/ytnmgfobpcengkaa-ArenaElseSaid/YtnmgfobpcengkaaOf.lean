/-
  path.Of: what it computes.
-/
import Derived.Test.YtnmgfobpcengkaaPaths
namespace Go.Proofs.Ytnmgfobpcengkaa
open Go.RowKit Go.Shelf
attribute [local go_sem] Oper.semAt_some

/-- A node's path: the first one that one comes to. -/
def ofv (l : List Nd) (i : Int) : Option (List Int) := if endv l 0 = l.length then ((pathsV (l.length + 1) l 0 []).find? fun x => x.1 == i).map (·.2) else none

theorem ofv_no (l : List Nd) (i : Int) (h : endv l 0 ≠ l.length) : ofv l i = none := by rw [ofv, if_neg h]
theorem ofv_all (l : List Nd) (i : Int) (h : endv l 0 = l.length) (xs : List Step) (hx : xs.map stepOf = pathsV (l.length + 1) l 0 []) (hn : ∀ x ∈ xs, x.1 ≠ i) : ofv l i = none := by
  rw [ofv, if_pos h, ← hx, Option.map_eq_none_iff, List.find?_eq_none]
  intro y hy
  obtain ⟨x, hx, rfl⟩ := List.mem_map.1 hy
  simpa [stepOf] using hn x hx
theorem ofv_some (l : List Nd) (i : Int) (h : endv l 0 = l.length) (pre : List Step) (x : Step) (hx : (pre ++ [x]).map stepOf <+: pathsV (l.length + 1) l 0 []) (hn : ∀ x ∈ pre, x.1 ≠ i) (hi : x.1 = i) : ofv l i = some x.2.2 := by
  obtain ⟨r, hr⟩ := hx
  rw [ofv, if_pos h, ← hr, List.map_append, List.append_assoc, List.find?_append]
  have h0 : (pre.map stepOf).find? (fun x => x.1 == i) = none := by
    rw [List.find?_eq_none]
    intro y hy
    obtain ⟨x, hx, rfl⟩ := List.mem_map.1 hy
    simpa [stepOf] using hn x hx
  rw [h0]
  simp [stepOf, hi]

theorem results_two_cells {fn : Func} {p q : Tmp} {tp tq : TypeId} (h : fn.results = #[.cell p tp, .cell q tq]) (tmps : Array Value) (P : Program) (w : World) {a b : Addr} {v u : Value}
    (hp : tmps.getD p undef = .pointer (some a)) (hq : tmps.getD q undef = .pointer (some b)) (hv : (loadVar tp a).run P w = .ok v w) (hu : (loadVar tq b).run P w = .ok u w) : (results fn tmps).run P w = .ok (.tuple #[v, u]) w := by
  rw [Array.getD_eq_getD_getElem?] at hp hq
  simp only [results, h]
  simp [Sem.run_bind, Result.andThen, hp, hq, asAddr, hv, hu]
theorem load_sliceVar (w : World) (b : Nat) (v : Value) (h : Boxed w b 23 v) : (loadVar 23 ⟨b, 0, none⟩).run Try.prog w = .ok v w := by
  have hc := h.cell
  simp [loadVar, go_sem, hc]
theorem load_boolVar (w : World) (b : Nat) (v : Value) (h : Boxed w b 4 v) : (loadVar 4 ⟨b, 0, none⟩).run Try.prog w = .ok v w := by
  have hc := h.cell
  simp [loadVar, go_sem, hc]

theorem keptBut_setCell {X : Nat → Prop} {B : Nat} (W : World) {p : Addr} (hx : X p.block) (u : Value) : KeptBut X B W (W.setCell p u) := by
  refine ⟨by simp [World.setCell], fun k o hk ho _ => ?_, fun k o _ hk ho => ?_⟩
  · rw [Below.heap_setCell W p u k (fun e => hk (e ▸ hx))]; exact ho
  · obtain ⟨b, o', sp⟩ := p
    simp only [World.setCell, Array.getElem?_modify, hk]
    split
    · rename_i h0
      cases o <;> first | rfl | (cases ho)
    · rfl
theorem boxed_putObj {W : World} {b D : Nat} {t : TypeId} {v : Value} (h : Boxed W b t v) (o : Obj) (hne : b ≠ D) : Boxed (W.putObj D o) b t v := h.kept (grownBy_putObj' W D o) (by intro e; cases e; exact hne rfl)

set_option maxRecDepth 100000 in
set_option maxHeartbeats 4000000 in
theorem Of_any (l : List Nd) (i : Int) (v : Value) (w : World) (hv : NodesAt w v l) (hl : l.length ≤ 3000000) :
    Calls Try.prog 14 #[v, .int .i64 i] w fun e w' => ∃ u, e = .returned (.tuple #[u, .bool (ofv l i).isSome]) ∧ IntsAt w' u ((ofv l i).getD []) ∧ Below w.heap.size w w' := by
  refine (callsIn_wide (n := 0)).1 ?_
  refine callsIn_of_wp_marks Try.func14 rfl trivial ?_ rfl
  simp only [Try.ntmps14, List.size_toArray, List.length_cons, List.length_nil, Nat.reduceAdd, Nat.reduceSub, Array.replicate_succ, Array.replicate_zero, List.push_toArray, List.append_toArray, List.nil_append, List.cons_append]
  have hls := NodesIn.isSlice hv
  have hlen : l.length ≤ 4000000 := by omega
  obtain ⟨W0, hW0⟩ : ∃ W0, ((w.alloc (.cells #[.int .i64 i] 3)).alloc (.cells #[.slice none 0 0] 23)).alloc (.cells #[.bool false] 4) = W0 := ⟨_, rfl⟩
  have b1 : Boxed W0 w.heap.size 3 (.int .i64 i) := by rw [← hW0]; exact ((Boxed.new _ _ _).alloc _).alloc _
  have b2 : Boxed W0 (w.heap.size + 1) 23 (.slice none 0 0) := by rw [← hW0]; have := Boxed.new (w.alloc (.cells #[.int .i64 i] 3)) 23 (.slice none 0 0); rw [World.size_alloc] at this; exact this.alloc _
  have b3 : Boxed W0 (w.heap.size + 1 + 1) 4 (.bool false) := by rw [← hW0]; have := Boxed.new ((w.alloc (.cells #[.int .i64 i] 3)).alloc (.cells #[.slice none 0 0] 23)) 4 (.bool false); rwa [World.size_alloc, World.size_alloc] at this
  have hB0 : Below w.heap.size w W0 := by rw [← hW0]; exact (((Below.refl _ w).alloc (Nat.le_refl _) _).alloc (by simp) _).alloc (by simp; omega) _
  have hv0 : NodesAt W0 v l := NodesIn.below hv hB0
  have HW := Lib.hid hW0
  clear hW0
  have hc1 := b1.cell
  by_cases hE : endv l 0 = l.length
  · have hE' : (endv l 0 != (l.length : Int)) = false := by simp [hE]
    have hEH := Lib.hid hE
    clear hE
    obtain ⟨pv, cv, hvs⟩ := NodesIn.slice hv
    subst hvs
    gi_wp2_with (fail)
    rw [HW.out]
    refine (callsIn_wide.2 (End_any l _ _ _ hv0 hlen)).mono ?_
    rintro e w1 ⟨rfl, hb1⟩
    have hB1 : Below w.heap.size w w1 := hB0.trans (hb1.mono hB0.size)
    have hz0 : w.heap.size + 2 < W0.heap.size := b3.lt
    have c1 := (hb1.cell (p := ⟨w.heap.size, 0, none⟩) (by show w.heap.size < _; omega)).trans b1.cell
    have hk1 := kept_below hb1
    have b1' : Boxed w1 w.heap.size 3 (.int .i64 i) := (hb1.block _ (by omega)).trans b1
    have b2' : Boxed w1 (w.heap.size + 1) 23 (.slice none 0 0) := (hb1.block _ (by omega)).trans b2
    have b3' : Boxed w1 (w.heap.size + 1 + 1) 4 (.bool false) := (hb1.block _ (by omega)).trans b3
    gi_wp2_with (gi_at_call 38; refine (callsIn_wide.2 (paths_any _ _ _ hls ⟨none, 0, 0, rfl⟩ _)).mono ?_; rintro e w2 ⟨rfl, rfl⟩)
    obtain ⟨w2, hw2⟩ : ∃ w2, ((w1.alloc (.cells #[.slice pv l.length cv] 22)).alloc (.cells #[.int .i64 0] 3)).alloc (.cells #[.slice none 0 0] 23) = w2 := ⟨_, rfl⟩
    rw [hw2]
    have hsz1 := hb1.size
    obtain ⟨q1, q2, q3⟩ := cells_three w1 (.slice pv l.length cv) (.int .i64 0) (.slice none 0 0) 22 3 23
    rw [hw2] at q1 q2 q3
    have hb2 : Below w1.heap.size w1 w2 := by rw [← hw2]; exact (((Below.refl _ w1).alloc (Nat.le_refl _) _).alloc (by simp) _).alloc (by simp; omega) _
    have hz2 : w2.heap.size = w1.heap.size + 3 := by rw [← hw2]; simp
    have hB2 : Below w.heap.size w w2 := hB1.trans (hb2.mono hB1.size)
    clear hw2
    have d1 : Boxed w2 w.heap.size 3 (.int .i64 i) := (hb2.block _ (by omega)).trans b1'
    have d2 : Boxed w2 (w.heap.size + 1) 23 (.slice none 0 0) := (hb2.block _ (by omega)).trans b2'
    have d3 : Boxed w2 (w.heap.size + 1 + 1) 4 (.bool false) := (hb2.block _ (by omega)).trans b3'
    have hXv : NodesIn (fun k => ¬ (k = w.heap.size + 1 ∨ k = w.heap.size + 1 + 1) ∧ k < w2.heap.size) w2 (.slice pv l.length cv) l := (NodesIn.kept hv (kept_below hB2)).mono (fun k hk => ⟨by omega, by omega⟩)
    refine range_rule (gf := 47) (lb := #[.pointer (some ⟨w1.heap.size + 1, 0, none⟩), .pointer (some ⟨w1.heap.size + 1 + 1, 0, none⟩), .pointer (some ⟨w1.heap.size, 0, none⟩)]) rfl (enters_of Try.func47 (by kernel_rfl) rfl)
      (encs := stepVals) (G := StepIn (fun k => k = w.heap.size + 1 ∨ k = w.heap.size + 1 + 1)) (Kp := KeptBut (fun k => k = w.heap.size + 1 ∨ k = w.heap.size + 1 + 1) (w2.heap.size + 2)) (N := (pathsV (l.length + 1) l 0 []).length) (R := stepsR (pathsV (l.length + 1) l 0 [])) (fun _ => rfl)
      (fun W' hb' hs' => by
        have hkW : KeptBut (fun k => k = w.heap.size + 1 ∨ k = w.heap.size + 1 + 1) w2.heap.size w2 W' := keptBut_below hb'
        have := paths_iter l (.slice pv l.length cv) hlen (fun k => k = w.heap.size + 1 ∨ k = w.heap.size + 1 + 1) (l.length + 1) 0 [] (.slice none 0 0) w1.heap.size (w1.heap.size + 1) (w1.heap.size + 1 + 1) W' (by omega) (by omega) (by omega) (by simp; omega) (fun k hk => by omega)
          (by omega) (by omega) (by omega) (hkW.cell (p := ⟨w1.heap.size, 0, none⟩) (by show ¬ (_ ∨ _); simp; omega) q1) (hkW.cell (p := ⟨w1.heap.size + 1, 0, none⟩) (by show ¬ (_ ∨ _); simp; omega) q2) (hkW.cell (p := ⟨w1.heap.size + 1 + 1, 0, none⟩) (by show ¬ (_ ∨ _); simp; omega) q3)
          (SliceIn.keptBut hXv hkW) (.inl ⟨none, 0, rfl, rfl, rfl, fun _ => rfl⟩)
        rwa [hs'] at this)
      (fun h h' => h.trans h') (fun U q o o' h1 h2 h3 h4 _ => keptBut_putObj U q o o' h2 h3 h4)
      (fun pre U => (∀ x, x ∈ pre → x.1 ≠ i) ∧ Below w.heap.size w U ∧ Boxed U w.heap.size 3 (.int .i64 i) ∧ Boxed U (w.heap.size + 1) 23 (.slice none 0 0) ∧ Boxed U (w.heap.size + 1 + 1) 4 (.bool false))
      (fun cc pre U => cc = .ret ∧ Below w.heap.size w U ∧ ∃ (pre0 : List Step) (x : Step), pre = pre0 ++ [x] ∧ (∀ x, x ∈ pre0 → x.1 ≠ i) ∧ x.1 = i ∧ Boxed U (w.heap.size + 1) 23 x.2.1 ∧ Boxed U (w.heap.size + 1 + 1) 4 (.bool true) ∧ StepIn (fun k => k = w.heap.size + 1 ∨ k = w.heap.size + 1 + 1) x U)
      ?hI ?hIx ?hG ?h0
      (fun x => { tmps := #[.slice pv l.length cv, .int .i64 i, undef, .pointer (some ⟨w.heap.size, 0, none⟩), .pointer (some ⟨w.heap.size + 1, 0, none⟩), .pointer (some ⟨w.heap.size + 1 + 1, 0, none⟩), .int .i64 x.1, x.2.1, .slice pv l.length cv, .int .i64 (endv l 0), .slice pv l.length cv, .int .i64 l.length, .bool false, .slice pv l.length cv, .func (.func 47) #[] #[.pointer (some ⟨w1.heap.size + 1, 0, none⟩), .pointer (some ⟨w1.heap.size + 1 + 1, 0, none⟩), .pointer (some ⟨w1.heap.size, 0, none⟩)], .int .i64 x.1, x.2.1, undef, undef, undef, undef], defers := [] }) ?assign ?body ?done ?stop
    case hI =>
      exact OwnFrom.and (ownFrom_pure _ _) (OwnFrom.and (ownFrom_below (Nat.le_refl _) (by omega)) (OwnFrom.and (Own.from (boxed_own _ _ _) _) (OwnFrom.and (Own.from (boxed_own _ _ _) _) (Own.from (boxed_own _ _ _) _))))
    case hIx =>
      intro cc
      refine OwnFrom.and (ownFrom_pure _ _) (OwnFrom.and (ownFrom_below (Nat.le_refl _) (by omega)) ?_)
      rintro pre A C row ⟨pre0, x, h1, h2, h3, h4, h5, h6⟩ hg hr
      exact ⟨pre0, x, h1, h2, h3, (Own.from (boxed_own _ _ (fun _ : Unit => x.2.1)) _) () A C row h4 hg hr, (Own.from (boxed_own _ _ (fun _ : Unit => Value.bool true)) _) () A C row h5 hg hr, ownFrom_slice () A C row h6 hg hr⟩
    case hG => exact fun x => ownFrom_slice
    case h0 => exact ⟨(fun _ h => by cases h), hB2, d1, d2, d3⟩
    case assign =>
      intro lq x U K hK
      dsimp only [stepVals]
      gi_wp2
      exact hK
    case body =>
      rintro lq pre ⟨xi, xv, xp⟩ U ⟨hn, hBU, e1, e2, e3⟩ hgx hlenN
      obtain ⟨px, cx, hxs⟩ := IntsIn.slice hgx
      dsimp only at hxs
      subst hxs
      have g1 := e1.cell
      by_cases hxi : xi = i
      · have hxb : (xi == i) = true := by simp [hxi]
        have HX := Lib.hid hxi
        clear hxi
        have g2 := e2.cell
        have g3 := e3.cell
        have f2 := e2.frozen
        have f3 := e3.frozen
        gi_wp2
        have k1 : KeptBut (fun k => k = w.heap.size + 1 ∨ k = w.heap.size + 1 + 1) (w2.heap.size + 2) U (U.setCell ⟨w.heap.size + 1, 0, none⟩ (.slice px xp.length cx)) := keptBut_setCell U (.inl rfl) _
        have k2 : KeptBut (fun k => k = w.heap.size + 1 ∨ k = w.heap.size + 1 + 1) (w2.heap.size + 2) U ((U.setCell ⟨w.heap.size + 1, 0, none⟩ (.slice px xp.length cx)).setCell ⟨w.heap.size + 1 + 1, 0, none⟩ (.bool true)) := k1.trans (keptBut_setCell _ (.inr rfl) _)
        refine ⟨((KeepsOthers.setCell _ _ _).trans (KeepsOthers.setCell _ _ _)).from _, k2, rfl, (hBU.setCell (p := ⟨w.heap.size + 1, 0, none⟩) (by show _ ≤ w.heap.size + 1; omega) _).setCell (p := ⟨w.heap.size + 1 + 1, 0, none⟩) (by show _ ≤ w.heap.size + 1 + 1; omega) _, pre, (xi, .slice px xp.length cx, xp), rfl, hn, HX.out, ?_, ?_, SliceIn.keptBut hgx k2⟩
        · exact (e2.set _).other (by omega) _
        · exact (e3.other (by omega) _).set _
      · have hxb : (xi == i) = false := by simp [hxi]
        gi_wp2
        refine ⟨KeepsFrom.refl _ _, KeptBut.refl _ _ _, fun y hy => ?_, hBU, e1, e2, e3⟩
        rcases List.mem_append.1 hy with hy | hy
        · exact hn y hy
        · obtain rfl : y = (xi, .slice px xp.length cx, xp) := by simpa using hy
          exact hxi
    case done =>
      rintro D ys U hD hR ⟨hn, hBU, e1, e2, e3⟩ hK
      have g2 := e2.cell
      have g3 := e3.cell
      have f2 := e2.frozen
      have f3 := e3.frozen
      gi_wp2
      have hs1 := (e2.set (.slice none 0 0)).other (B' := w.heap.size + 1 + 1) (by omega) (.bool false)
      have hs2 := (e3.other (B' := w.heap.size + 1) (by omega) (.slice none 0 0)).set (.bool false)
      have hK' := ((KeepsOthers.setCell U ⟨w.heap.size + 1, 0, none⟩ (.slice none 0 0)).trans (KeepsOthers.setCell _ ⟨w.heap.size + 1 + 1, 0, none⟩ (.bool false))).same D _ hK rfl
      refine ⟨by simp, .inl ⟨_, _, rfl, run_takeDeferred hK', ?_⟩⟩
      have HO : ofv l i = none := ofv_all l i hEH.out ys (by simpa [stepsR] using hR) hn
      have hBs := (hBU.setCell (p := ⟨w.heap.size + 1, 0, none⟩) (by show _ ≤ w.heap.size + 1; omega) (.slice none 0 0)).setCell (p := ⟨w.heap.size + 1 + 1, 0, none⟩) (by show _ ≤ w.heap.size + 1 + 1; omega) (.bool false)
      exact ⟨_, results_two_cells rfl _ _ _ rfl rfl (load_sliceVar _ _ _ (boxed_putObj hs1 _ (by omega))) (load_boolVar _ _ _ (boxed_putObj hs2 _ (by omega))), .slice none 0 0, by rw [HO]; rfl, by rw [HO]; exact .inl ⟨none, 0, rfl, rfl, rfl, fun _ => rfl⟩,
        hBs.trans (belowK_b (w := w) (Nat.le_refl _) _ D _ _ (by omega) hK' rfl rfl)⟩
    case stop =>
      rintro D cc ys U hD hR ⟨rfl, hBU, pre0, x, h1, h2, h3, h4, h5, h6⟩ hK
      gi_wp2
      refine ⟨by simp, .inl ⟨_, _, rfl, run_takeDeferred hK, ?_⟩⟩
      have HO : ofv l i = some x.2.2 := ofv_some l i hEH.out pre0 x (by rw [← h1]; simpa [stepsR] using hR) h2 h3
      have h6' : StepIn (fun k => k = w.heap.size + 1 ∨ k = w.heap.size + 1 + 1) x (U.putObj D (.deferred none)) := ownFrom_slice (B := w.heap.size) () U _ (some D) h6 (grownBy_putObj' U D _) (fun r e => by cases e; exact ⟨by omega, _, hK, rfl⟩)
      exact ⟨_, results_two_cells rfl _ _ _ rfl rfl (load_sliceVar _ _ _ (boxed_putObj h4 _ (by omega))) (load_boolVar _ _ _ (boxed_putObj h5 _ (by omega))), x.2.1, by rw [HO]; rfl, by rw [HO]; exact IntsIn.mono h6' (fun k hk => hk.2),
        hBU.trans (belowK_b (w := w) (Nat.le_refl _) U D _ _ (by omega) hK rfl rfl)⟩
  · have hE' : (endv l 0 != (l.length : Int)) = true := by simp [hE]
    have HO := Lib.hid (ofv_no l i hE)
    clear hE
    obtain ⟨pv, cv, hvs⟩ := NodesIn.slice hv
    subst hvs
    gi_wp2_with (fail)
    rw [HW.out]
    refine (callsIn_wide.2 (End_any l _ _ _ hv0 hlen)).mono ?_
    rintro e w1 ⟨rfl, hb1⟩
    have hB1 : Below w.heap.size w w1 := hB0.trans (hb1.mono hB0.size)
    have hz0 : w.heap.size + 2 < W0.heap.size := b3.lt
    have b2' : Boxed w1 (w.heap.size + 1) 23 (.slice none 0 0) := (hb1.block _ (by omega)).trans b2
    have b3' : Boxed w1 (w.heap.size + 1 + 1) 4 (.bool false) := (hb1.block _ (by omega)).trans b3
    have c2 := b2'.cell
    have c3 := b3'.cell
    have f2 := b2'.frozen
    have f3 := b3'.frozen
    gi_wp2_with (fail)
    have hs1 := (b2'.set (.slice none 0 0)).other (B' := w.heap.size + 1 + 1) (by omega) (.bool false)
    have hs2 := (b3'.other (B' := w.heap.size + 1) (by omega) (.slice none 0 0)).set (.bool false)
    exact ⟨_, results_two_cells rfl _ _ _ rfl rfl (load_sliceVar _ _ _ hs1) (load_boolVar _ _ _ hs2), .slice none 0 0, by rw [HO.out]; rfl, by rw [HO.out]; exact .inl ⟨none, 0, rfl, rfl, rfl, fun _ => rfl⟩,
      (hB1.setCell (p := ⟨w.heap.size + 1, 0, none⟩) (by show _ ≤ w.heap.size + 1; omega) _).setCell (p := ⟨w.heap.size + 1 + 1, 0, none⟩) (by show _ ≤ w.heap.size + 1 + 1; omega) _⟩
end Go.Proofs.Ytnmgfobpcengkaa
