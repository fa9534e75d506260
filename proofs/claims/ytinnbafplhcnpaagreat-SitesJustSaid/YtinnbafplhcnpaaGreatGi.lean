/-
  Parts joined into one text: Paths, PathD, Find, Compare, RefFind, RefCompare, InsV, Ins, T12a, Str, Buf, BufV, Shape, ReplLaw, Delt, DlD, Sh12a, HDenT, NewRow, Mixed, T12b, Sh12b. No condition.
-/
import Derived.WalkSpells
import Derived.Lib.SliceRun
import Derived.Laws.CopyRow
import Derived.Shelf.Spec.SlicesInsert
import Derived.Lib.AppendZerosOnto
import Derived.Laws.NewBlocks
import Derived.Test.YtinnbafplhcnpaaGreatProg
import Derived.WalkKit
import Derived.Test.YtinnbafplhcnpaaGreatGb
import Derived.Test.YtinnbafplhcnpaaGreatGd
import Derived.Test.YtinnbafplhcnpaaGreatGe
import Derived.Test.YtinnbafplhcnpaaGreatGf
import Derived.Test.YtinnbafplhcnpaaGreatGg
import Derived.Test.YtinnbafplhcnpaaGreatGh

section
namespace Go.Proofs.YtinnbafplhcnpaaGreat
open Go.RowKit Go.Shelf
set_option linter.unusedVariables false
attribute [local go_sem] Oper.semAt_some

set_option maxHeartbeats 1000000 in
/-- slices.Clone of ints: a row of the call's own. -/
theorem Clone_any (l : List Int) (v : Value) (w : World) (S : Nat → Prop) (hS : ∀ k, S k → k < w.heap.size) (hv : IntsIn S w v l) (hl : l.length ≤ 4000000) :
    Calls Tryz.prog 73 #[v] w fun e w' => ∃ u, e = .returned u ∧ w'.ownsRow w.heap.size 3 1 u l.length (l.map (Value.int .i64)) ∧ Below w.heap.size w w' := by
  obtain ⟨i0, hi, hz0, hz1, hz2⟩ := info_parts infoInt
  have qT : ∀ (w : World) (a : Option Addr) (n c n' c' : Nat), (binOp .eql 22 (.slice a n c) (.slice none n' c')).run Tryz.prog w = .ok (.bool a.isNone) w := fun w a n c n' c' => Lib.run_eql_slice_nil w _ _ a n c n' c' Tryz.underlying22
  obtain ⟨p, cap, hpc⟩ := hv.slice
  subst hpc
  cases p with
  | none =>
    have hl0 : l = [] := by
      rcases hv.open with ⟨rfl, _⟩ | ⟨b, o, cap', hsl, _⟩
      · rfl
      · cases hsl
    subst hl0
    go_enter Tryz.func73, Tryz.ntmps73
    go_wp2
    go_ret
    exact ⟨_, rfl, World.ownsRow_nil _ _ _ _, Below.refl _ _⟩
  | some ad =>
    go_enter Tryz.func73, Tryz.ntmps73
    have hv2 := hv.kept (kept_of (below_alloc1 w (.cells #[] 3)) hS)
    go_wp2_with (at_builtin; refine wpList_append_in rfl _ _ 22 rfl w.heap.size 3 i0 (.int .i64 0) 1 8 Tryz.underlying22 hi hz0 hz1 hz2 rfl (by decide) _ _ _ rfl (ownsRow_empty w w.heap.size 3 1 (Nat.le_refl _)) _ l.length _ rfl hv2 (by simp) (ints_one l) (by unfold maxLen; omega) (by omega) (by simp) ?_; intro v' w3 hown' hgrow)
    go_ret
    refine ⟨_, rfl, by simpa using hown', ((Below.refl _ _).alloc (Nat.le_refl _) _).grown hgrow (by simp) (fun j hj => ?_)⟩
    exact ((ownsRow_empty w w.heap.size 3 1 (Nat.le_refl _)).lt j hj).1

/-- Three new blocks of one cell. -/
theorem cells_three (w : World) (a b c : Value) (ta tb tc : TypeId) :
    (((w.alloc (.cells #[a] ta)).alloc (.cells #[b] tb)).alloc (.cells #[c] tc)).cell? ⟨w.heap.size, 0, none⟩ = some a ∧
    (((w.alloc (.cells #[a] ta)).alloc (.cells #[b] tb)).alloc (.cells #[c] tc)).cell? ⟨w.heap.size + 1, 0, none⟩ = some b ∧
    (((w.alloc (.cells #[a] ta)).alloc (.cells #[b] tb)).alloc (.cells #[c] tc)).cell? ⟨w.heap.size + 1 + 1, 0, none⟩ = some c := by
  have h1 := Boxed.new w ta a
  have h2 := Boxed.new (w.alloc (.cells #[a] ta)) tb b
  have h3 := Boxed.new ((w.alloc (.cells #[a] ta)).alloc (.cells #[b] tb)) tc c
  rw [World.size_alloc] at h2
  rw [World.size_alloc, World.size_alloc] at h3
  exact ⟨((h1.alloc _).alloc _).cell, (h2.alloc _).cell, h3.cell⟩

/-- Some slice. -/
def IsSlice (v : Value) : Prop := ∃ (p : Option Addr) (n c : Nat), v = .slice p n c
theorem IntsIn.isSlice {S : Nat → Prop} {w : World} {v : Value} {l : List Int} (h : IntsIn S w v l) : IsSlice v := by obtain ⟨p, c, h⟩ := h.slice; exact ⟨_, _, _, h⟩
theorem NodesIn.isSlice {S : Nat → Prop} {w : World} {v : Value} {l : List Nd} (h : NodesIn S w v l) : IsSlice v := by obtain ⟨p, c, h⟩ := h.slice; exact ⟨_, _, _, h⟩

/-- path.paths hands back a value that goes over a node's part. -/
theorem paths_any (lv ov : Value) (i : Int) (hl : IsSlice lv) (ho : IsSlice ov) (w : World) :
    Calls Tryz.prog 45 #[lv, .int .i64 i, ov] w fun e w' =>
      e = .returned (.func (.func 88) #[] #[.pointer (some ⟨w.heap.size + 1, 0, none⟩), .pointer (some ⟨w.heap.size + 1 + 1, 0, none⟩), .pointer (some ⟨w.heap.size, 0, none⟩)]) ∧
      w' = ((w.alloc (.cells #[lv] 23)).alloc (.cells #[.int .i64 i] 3)).alloc (.cells #[ov] 22) := by
  obtain ⟨p, n, c, rfl⟩ := hl
  obtain ⟨q, n', c', rfl⟩ := ho
  go_enter Tryz.func45, Tryz.ntmps45
  go_wp2
  go_ret
  exact ⟨rfl, rfl⟩

/-- One element that paths hands out: a node, the slice value of its path, its path. -/
abbrev Step := Int × Value × List Int
def stepVals (x : Step) : Array Value := #[.int .i64 x.1, x.2.1]
def stepOf (x : Step) : Int × List Int := (x.1, x.2.2)
/-- How an element reads, but in the blocks of X. -/
def StepIn (X : Nat → Prop) (x : Step) (W : World) : Prop := IntsIn (fun k => ¬ X k ∧ k < W.heap.size) W x.2.1 x.2.2
/-- What has come: all; or a part. -/
def stepsR (ys : List (Int × List Int)) (xs : List Step) (b : Bool) : Prop := if b = true then xs.map stepOf = ys else xs.map stepOf <+: ys

theorem ownsRow_base {w : World} {base base' : Nat} {e : TypeId} {size : Nat} {v : Value} {n : Nat} {xs : List Value} (h : w.ownsRow base e size v n xs) (hb : base' ≤ base) : w.ownsRow base' e size v n xs := by
  refine ⟨h.1, ?_⟩
  rcases h.2 with h2 | ⟨g, cap, cur, h1, h2, h3⟩
  · exact .inl h2
  · exact .inr ⟨g, cap, cur, h1, Nat.le_trans hb h2, h3⟩
theorem intsIn_new {B : Nat} {w w' : World} {v : Value} {l : List Int} (h : IntsIn (fun k => B ≤ k ∧ k < w.heap.size) w v l) (hb : Below w.heap.size w w') : IntsIn (fun k => B ≤ k ∧ k < w'.heap.size) w' v l :=
  (IntsIn.kept h (kept_of hb (fun k hk => hk.2))).mono (fun k hk => ⟨hk.1, Nat.lt_of_lt_of_le hk.2 hb.size⟩)
/-- One append, carried out. -/
theorem wpIn_append {F : Fence} {n : Nat} {P : Program} {o : Oper} {a : Act} {w w' : World} {K : Act → World → Prop} {Q : Exit → Act → World → Prop} {s x : Operand} {t : TypeId} {v u v' : Value}
    (hop : o.op = Op.call { callee := Callee.builtin Builtin.append, args := #[s, x], argTypes := #[t, t] }) (hrun : (Builtin.append_ #[t, t] o.type #[v, u]).run P w = .ok v' w') (hs : a.eval s = v) (hx : a.eval x = u) (hK : K (a.put o.dst v') w') : o.wpIn F n P a w K Q := by
  unfold Oper.wpIn
  refine ⟨?_, ?_⟩
  · simp [Oper.about, hop, resolve, Target.leads, Sem.run_pure]
  · rw [Oper.semAt_plain F _ _ (by rw [hop]; intro c hc'; cases hc')]
    simp [execOp, hop, resolve, invoke, builtin, hs, hx, hrun, Result.andThen]
    exact hK

set_option maxRecDepth 100000 in
set_option maxHeartbeats 4000000 in
theorem paths_iter (l : List Nd) (lv : Value) (hl : l.length ≤ 4000000) (X : Nat → Prop) : ∀ (f : Nat) (i : Int) (own : List Int) (ov : Value) (Bl Ba Bo : Nat) (W : World),
    0 ≤ i → i ≤ l.length → (l.length : Int) < i + f → own.length + f ≤ 4000000 → (∀ k, X k → k < W.heap.size) → ¬ X Bl → ¬ X Ba → ¬ X Bo →
    W.cell? ⟨Bl, 0, none⟩ = some lv → W.cell? ⟨Ba, 0, none⟩ = some (.int .i64 i) → W.cell? ⟨Bo, 0, none⟩ = some ov →
    NodesIn (fun k => ¬ X k ∧ k < W.heap.size) W lv l → IntsIn (fun k => ¬ X k ∧ k < W.heap.size) W ov own →
    Iter Tryz.prog 88 #[.pointer (some ⟨Ba, 0, none⟩), .pointer (some ⟨Bo, 0, none⟩), .pointer (some ⟨Bl, 0, none⟩)] stepVals (StepIn X) (KeptBut X W.heap.size) (pathsV f l i own).length (stepsR (pathsV f l i own)) W := by
  obtain ⟨i0, hi, hz0, hz1, hz2⟩ := info_parts infoInt
  intro f
  induction f with
  | zero =>
    intro i own ov Bl Ba Bo W _ h1 h2
    exfalso; omega
  | succ f ih =>
    intro i own ov Bl Ba Bo W hi0 hil hif hof hX hxl hxa hxo hbl hba hbo hlv hov lp J hJ hY hJ0
    refine callsIn_of_wp_marks Tryz.func88 rfl trivial ?_ rfl
    simp only [Tryz.ntmps88, List.size_toArray, List.length_cons, List.length_nil, Nat.reduceAdd, Nat.reduceSub, Array.replicate_succ, Array.replicate_zero, List.push_toArray, List.append_toArray, List.nil_append, List.cons_append]
    have hby : Below W.heap.size W (W.alloc (.cells #[.func (.yield lp) #[] #[]] 106)) := below_alloc1 _ _
    have hkb := keptBut_below (X := X) (B := W.heap.size) hby
    have hJ1 := ownFrom_belows (hJ true) hJ0 hby
    obtain ⟨fn, tmps, assign, body, hy, hR⟩ := hY [] (i, ov, own) _ hJ1 (SliceIn.keptBut hov hkb) (pathsV_pos _ _ _ _)
    dsimp only [stepVals] at hy
    have hba1 := hkb.cell (p := ⟨Ba, 0, none⟩) hxa hba
    have hbo1 := hkb.cell (p := ⟨Bo, 0, none⟩) hxo hbo
    gi_wp2
    refine hR.mono ?_
    rintro e W2 ⟨b, rfl, hJ2, hk2⟩
    cases b with
    | false =>
      gi_wp2
      exact ⟨_, results_none rfl _ _ _, ⟨_, rfl⟩, [(i, ov, own)], false, by simp [stepsR, stepOf, pathsV], hJ2⟩
    | true =>
      have hk2w := hk2
      replace hk2 := hkb.trans hk2
      have hbl2 := hk2.cell (p := ⟨Bl, 0, none⟩) hxl hbl
      have hba2 := hk2.cell (p := ⟨Ba, 0, none⟩) hxa hba
      have hlv2 : NodesAt W2 lv l := NodesIn.mono (SliceIn.keptBut hlv hk2) (fun _ h => h.2)
      gi_wp2_with (gi_at_call 48; refine (callsIn_wide.2 (Kids_any l _ _ _ hlv2 hl)).mono ?_; rintro e W3 ⟨u, rfl, hks, hb3⟩; obtain ⟨pk, ck, hsl⟩ := hks.slice; subst hsl)
      have hk3 : KeptBut X W.heap.size W W3 := hk2.trans (keptBut_below hb3)
      have hJ3 := ownFrom_belows (hJ true) hJ2 hb3
      have hbl3 := hk3.cell (p := ⟨Bl, 0, none⟩) hxl hbl
      have hbo3 := hk3.cell (p := ⟨Bo, 0, none⟩) hxo hbo
      have hby3 : W3.cell? ⟨W.heap.size, 0, none⟩ = some (.func (.yield lp) #[] #[]) := (hk2w.trans (keptBut_below hb3)).cell (p := ⟨W.heap.size, 0, none⟩) (fun hx => absurd (hX _ hx) (Nat.lt_irrefl _)) (Boxed.new W 106 (.func (.yield lp) #[] #[])).cell
      have hz3 : W.heap.size < W3.heap.size := by have h1 := hk2w.size; rw [World.size_alloc] at h1; have h2 := hb3.size; omega
      have hks3 : IntsIn (fun k => ¬ X k ∧ k < W3.heap.size) W3 (.slice pk (kidsv l i).length ck) (kidsv l i) := hks.mono (fun k hk => ⟨fun hx => by have := hX k hx; have := hk2.size; omega, hk.2⟩)
      refine wpIn_loop (fun a V => ∃ (c : Nat) (Ds : List Nat) (xs : List Step) (u5 u6 u7 u8 u19 u20 u21 u22 u23 u24 u25 u26 u27 u28 u29 u30 u31 u32 u33 u34 u35 u36 u37 u38 : Value),
        a = { tmps := #[.func (.yield lp) #[] #[], .pointer (some ⟨Ba, 0, none⟩), .pointer (some ⟨Bo, 0, none⟩), .pointer (some ⟨Bl, 0, none⟩), .pointer (some ⟨W.heap.size, 0, none⟩), u5, u6, u7, u8, .func (.yield lp) #[] #[], .int .i64 i, ov, .bool true, .bool false, lv, .int .i64 i, .slice pk (kidsv l i).length ck, .int .i64 (kidsv l i).length, .int .i64 c, u19, u20, u21, u22, u23, u24, u25, u26, u27, u28, u29, u30, u31, u32, u33, u34, u35, u36, u37, u38], defers := marks Ds } ∧
        c ≤ (kidsv l i).length ∧ Ds.Nodup ∧ (∀ D, D ∈ Ds → V.heap[D]? = some (.deferred (some [])) ∧ W.heap.size ≤ D) ∧ Hid (xs.map stepOf = (i, own) :: pathsTo f l i own c) ∧ J xs true V ∧ KeptBut X W.heap.size W3 V)
        (fun a _ => (kidsv l i).length - (intOf (a.tmps.getD 18 undef)).toNat) ?_ ?_
      · exact ⟨0, [], [(i, ov, own)], _, _, _, _, _, _, _, _, _, _, _, _, _, _, _, _, _, _, _, _, _, _, _, _, rfl, Nat.zero_le _, List.nodup_nil, (fun _ h => by cases h), Lib.hid rfl, hJ3, KeptBut.refl _ _ _⟩
      · rintro a V ⟨c, Ds, xs, u5, u6, u7, u8, u19, u20, u21, u22, u23, u24, u25, u26, u27, u28, u29, u30, u31, u32, u33, u34, u35, u36, u37, u38, rfl, hc, hnd, hDs, hxs, hJV, hkV⟩
        have hblV := hkV.cell (p := ⟨Bl, 0, none⟩) hxl hbl3
        have hboV := hkV.cell (p := ⟨Bo, 0, none⟩) hxo hbo3
        have hbyV := hkV.cell (p := ⟨W.heap.size, 0, none⟩) (fun hx => absurd (hX _ hx) (Nat.lt_irrefl _)) hby3
        have hksV : IntsIn (fun k => ¬ X k ∧ k < V.heap.size) V (.slice pk (kidsv l i).length ck) (kidsv l i) := SliceIn.keptBut hks3 hkV
        have hovW : IntsIn (fun k => ¬ X k ∧ k < V.heap.size) V ov own := SliceIn.keptBut hov (hk3.trans hkV)
        have hltl : Bl < V.heap.size := by obtain ⟨o, ho, _⟩ := cells_of_cell hblV; exact (Array.getElem?_eq_some_iff.1 ho).1
        have hlto : Bo < V.heap.size := by obtain ⟨o, ho, _⟩ := cells_of_cell hboV; exact (Array.getElem?_eq_some_iff.1 ho).1
        by_cases hlt : c < (kidsv l i).length
        · rcases hksV.open with ⟨h0, _⟩ | ⟨bk, ok, ck', hsl, hkp, hkc, hkx, hkcell⟩
          · rw [h0] at hlt; simp at hlt
          have hkc0 := hkcell c hlt
          obtain ⟨rfl, rfl⟩ : pk = some ⟨bk, ok, none⟩ ∧ ck = ck' := by simpa using hsl
          clear hkcell hsl
          gi_wp2
          refine Code.wpIn_mono (Q := fun e a' V' => e = .normal ∧ ∃ (B : Nat) (v26 v28 ov' : Value),
            a' = { tmps := #[.func (.yield lp) #[] #[], .pointer (some ⟨Ba, 0, none⟩), .pointer (some ⟨Bo, 0, none⟩), .pointer (some ⟨Bl, 0, none⟩), .pointer (some ⟨W.heap.size, 0, none⟩), .int .i64 c, .int .i64 (kidsv l i)[c], u7, u8, .func (.yield lp) #[] #[], .int .i64 i, ov, .bool true, .bool false, lv, .int .i64 i, .slice (some ⟨bk, ok, none⟩) (kidsv l i).length ck, .int .i64 (kidsv l i).length, .int .i64 c, .bool true, .int .i64 c, .pointer (some ⟨bk, ok + c, none⟩), .int .i64 (kidsv l i)[c], lv, .int .i64 (kidsv l i)[c], ov, v26, .int .i64 c, v28, ov', .func (.func 88) #[] #[.pointer (some ⟨B + 1, 0, none⟩), .pointer (some ⟨B + 1 + 1, 0, none⟩), .pointer (some ⟨B, 0, none⟩)], u31, u32, u33, u34, u35, u36, u37, u38], defers := marks Ds } ∧ Below V.heap.size V V' ∧ V.heap.size ≤ B ∧ B + 2 < V'.heap.size ∧ V'.cell? ⟨B, 0, none⟩ = some lv ∧ V'.cell? ⟨B + 1, 0, none⟩ = some (.int .i64 (kidsv l i)[c]) ∧ V'.cell? ⟨B + 1 + 1, 0, none⟩ = some ov' ∧
            IntsIn (fun k => V.heap.size ≤ k ∧ k < V'.heap.size) V' ov' (own ++ [(c : Int)])) ?_ ?_
          · rintro e a' V' ⟨rfl, B, v26, v28, ov', rfl, hbV, hBV, hB2, hcl, hca, hco, hov'⟩
            gi_wp2
            have hkv := kidsv_fact l i c hlt
            have hkl := kidsv_len l i
            have hIX : IntsIn (fun k => ¬ X k ∧ k < V'.heap.size) V' ov' (own ++ [(c : Int)]) := hov'.mono (fun k hk => ⟨fun hx => by have := hX k hx; have := (hk3.trans hkV).size; omega, hk.2⟩)
            have hkV' : KeptBut X W.heap.size W V' := (hk3.trans hkV).trans (keptBut_below hbV)
            have hzV : W.heap.size < V.heap.size := by have := hkV.size; omega
            have hzV' := hbV.size
            have hDb : ∀ D, D ∈ Ds → D < V'.heap.size := fun D hD => Nat.lt_of_lt_of_le (Array.getElem?_eq_some_iff.1 (hDs D hD).1).1 hzV'
            refine range_rule (gf := 88) (lb := #[.pointer (some ⟨B + 1, 0, none⟩), .pointer (some ⟨B + 1 + 1, 0, none⟩), .pointer (some ⟨B, 0, none⟩)]) rfl (enters_of Tryz.func88 (by kernel_rfl) rfl)
              (encs := stepVals) (G := StepIn X) (Kp := KeptBut X (V'.heap.size + 2)) (N := (pathsV f l (kidsv l i)[c] (own ++ [(c : Int)])).length) (R := stepsR (pathsV f l (kidsv l i)[c] (own ++ [(c : Int)]))) (fun _ => rfl)
              (fun W' hb' hs' => by
                have hkW : KeptBut X W.heap.size V' W' := keptBut_below hb'
                have := ih (kidsv l i)[c] (own ++ [(c : Int)]) ov' B (B + 1) (B + 1 + 1) W' (by omega) (by omega) (by omega) (by simp; omega) (fun k hk => by have := hX k hk; have := (hkV'.trans hkW).size; omega)
                  (fun hx => by have := hX _ hx; omega) (fun hx => by have := hX _ hx; omega) (fun hx => by have := hX _ hx; omega)
                  (hkW.cell (p := ⟨B, 0, none⟩) (fun hx => by have := hX _ hx; simp at this; omega) hcl) (hkW.cell (p := ⟨B + 1, 0, none⟩) (fun hx => by have := hX _ hx; simp at this; omega) hca) (hkW.cell (p := ⟨B + 1 + 1, 0, none⟩) (fun hx => by have := hX _ hx; simp at this; omega) hco)
                  (SliceIn.keptBut hlv (hkV'.trans hkW)) (SliceIn.keptBut hIX hkW)
                rwa [hs'] at this)
              (fun h h' => h.trans h') (fun U q o o' h1 h2 h3 h4 _ => keptBut_putObj U q o o' h2 h3 h4)
              (fun pre U => J (xs ++ pre) true U ∧ KeptBut X W.heap.size W3 U ∧ (∀ D, D ∈ Ds → U.heap[D]? = some (.deferred (some []))))
              (fun cc pre U => cc = .ret ∧ J (xs ++ pre) false U ∧ (∀ D, D ∈ Ds → U.heap[D]? = some (.deferred (some []))))
              ?hI ?hIx ?hG ?h0
              (fun x => { tmps := #[.func (.yield lp) #[] #[], .pointer (some ⟨Ba, 0, none⟩), .pointer (some ⟨Bo, 0, none⟩), .pointer (some ⟨Bl, 0, none⟩), .pointer (some ⟨W.heap.size, 0, none⟩), .int .i64 c, .int .i64 (kidsv l i)[c], .int .i64 x.1, x.2.1, .func (.yield lp) #[] #[], .int .i64 i, ov, .bool true, .bool false, lv, .int .i64 i, .slice (some ⟨bk, ok, none⟩) (kidsv l i).length ck, .int .i64 (kidsv l i).length, .int .i64 c, .bool true, .int .i64 c, .pointer (some ⟨bk, ok + c, none⟩), .int .i64 (kidsv l i)[c], lv, .int .i64 (kidsv l i)[c], ov, v26, .int .i64 c, v28, ov', .func (.func 88) #[] #[.pointer (some ⟨B + 1, 0, none⟩), .pointer (some ⟨B + 1 + 1, 0, none⟩), .pointer (some ⟨B, 0, none⟩)], .int .i64 x.1, x.2.1, u33, u34, u35, u36, u37, u38], defers := [] }) ?assign ?body ?done ?stop
            case hI =>
              exact OwnFrom.and (fun pre A C row hs hg hr => hJ true (xs ++ pre) A C row hs hg (fun r e => by obtain ⟨h1, h2⟩ := hr r e; exact ⟨by omega, h2⟩))
                (OwnFrom.and (ownFrom_keptBut (by have := hkV.size; have := hbV.size; omega)) (fun pre A C row hs hg hr D hD => ownFrom_deferred (β := Unit) (hDb D hD) () A C row (hs D hD) hg hr))
            case hIx =>
              exact fun cc => OwnFrom.and (fun _ _ _ _ hs _ _ => hs) <| OwnFrom.and (fun pre A C row hs hg hr => hJ false (xs ++ pre) A C row hs hg (fun r e => by obtain ⟨h1, h2⟩ := hr r e; exact ⟨by omega, h2⟩))
                (fun pre A C row hs hg hr D hD => ownFrom_deferred (β := Unit) (hDb D hD) () A C row (hs D hD) hg hr)
            case hG => exact fun x => ownFrom_slice
            case h0 =>
              refine ⟨by rw [List.append_nil]; exact ownFrom_belows (hJ true) hJV hbV, hkV.trans (keptBut_below hbV), fun D hD => ?_⟩
              exact (hbV.block D (Array.getElem?_eq_some_iff.1 (hDs D hD).1).1).trans (hDs D hD).1
            case assign =>
              intro lq x U K hK
              dsimp only [stepVals]
              gi_wp2
              exact hK
            case body =>
              rintro lq pre x U ⟨hJU, hkU, hDU⟩ hgx hlen
              have hlen2 : (xs ++ pre).length < (pathsV (f + 1) l i own).length := by
                have h1 := (pathsTo_prefix f l i own (c + 1)).length_le
                rw [pathsTo_succ f l i own c hlt] at h1
                have h2 := congrArg List.length hxs.out
                simp only [List.length_map, List.length_cons, List.length_append] at h1 h2 ⊢
                omega
              obtain ⟨fn2, tmps2, as2, bd2, hy2, hR2⟩ := hY (xs ++ pre) x U hJU hgx hlen2
              dsimp only [stepVals] at hy2
              have hbyU := hkU.cell (p := ⟨W.heap.size, 0, none⟩) (fun hx => absurd (hX _ hx) (Nat.lt_irrefl _)) hby3
              gi_wp2
              refine (RoundIn_inRound hR2).mono ?_
              rintro e U2 ⟨b, rfl, hJ2, hkp2⟩
              have hkf : KeepsFrom V'.heap.size U U2 := ⟨hkp2.size, fun k o hB hk ho => hkp2.other k o (by omega) hk ho⟩
              have hd2 : ∀ D, D ∈ Ds → U2.heap[D]? = some (.deferred (some [])) := fun D hD => hkp2.other D _ (hDs D hD).2 (hDU D hD) rfl
              rw [List.append_assoc] at hJ2
              cases b with
              | true =>
                gi_wp2
                exact ⟨hkf, hkp2.mono (by omega), hJ2, hkU.trans hkp2, hd2⟩
              | false =>
                gi_wp2
                exact ⟨hkf, hkp2.mono (by omega), rfl, hJ2, hd2⟩
            case done =>
              rintro D ys U hD hR ⟨hJU, hkU, hDU⟩ hK
              gi_wp2
              have hzU := hkU.size
              refine ⟨⟨c + 1, D :: Ds, xs ++ ys, _, _, _, _, _, _, _, _, _, _, _, _, _, _, _, _, _, _, _, _, _, _, _, _, rfl, hlt, List.nodup_cons.2 ⟨fun h => by have := hDb D h; omega, hnd⟩, ?_, ?_, hJU, hkU⟩, ?_⟩
              · intro E hE
                rcases List.mem_cons.1 hE with rfl | hE
                · exact ⟨hK, by omega⟩
                · exact ⟨hDU E hE, (hDs E hE).2⟩
              · refine Lib.hid ?_
                have hR' : ys.map stepOf = pathsV f l (kidsv l i)[c] (own ++ [(c : Int)]) := by simpa [stepsR] using hR
                rw [List.map_append, hxs.out, hR', pathsTo_succ f l i own c hlt, List.cons_append]
              · simp [intOf]
                omega
            case stop =>
              rintro D cc ys U hD hR ⟨rfl, hJU, hDU⟩ hK
              gi_wp2
              have hR' : ys.map stepOf <+: pathsV f l (kidsv l i)[c] (own ++ [(c : Int)]) := by simpa [stepsR] using hR
              refine leaves_marks _ (J (xs ++ ys) false) (D :: Ds) U (List.nodup_cons.2 ⟨fun h => by have := hDb D h; omega, hnd⟩) ?_ ?_ hJU
                (fun W' hj => ⟨results_none rfl _ _ _, ⟨_, rfl⟩, xs ++ ys, false, ?_, hj⟩)
              · intro E hE
                rcases List.mem_cons.1 hE with rfl | hE
                · exact hK
                · exact hDU E hE
              · intro A E hE ho hj
                refine (hJ false).putObj _ hj ?_ ho rfl
                rcases List.mem_cons.1 hE with rfl | hE
                · omega
                · exact (hDs E hE).2
              · rw [stepsR, if_neg (by decide), List.map_append, hxs.out]
                exact pathsTo_prefix2 f l i own c hlt _ hR'
          · have hmix : Tryz.prog.follows .mixedOrders = true := by kernel_rfl
            obtain ⟨Inv, hInv⟩ : ∃ Inv : (Nat → Bool) → Act → World → Prop, Inv = (fun d a' V' => ∃ (v23 v24 v25 v26 v27 v28 v29 v30 : Value), a' = { tmps := #[.func (.yield lp) #[] #[], .pointer (some ⟨Ba, 0, none⟩), .pointer (some ⟨Bo, 0, none⟩), .pointer (some ⟨Bl, 0, none⟩), .pointer (some ⟨W.heap.size, 0, none⟩), .int .i64 c, .int .i64 (kidsv l i)[c], u7, u8, .func (.yield lp) #[] #[], .int .i64 i, ov, .bool true, .bool false, lv, .int .i64 i, .slice (some ⟨bk, ok, none⟩) (kidsv l i).length ck, .int .i64 (kidsv l i).length, .int .i64 c, .bool true, .int .i64 c, .pointer (some ⟨bk, ok + c, none⟩), .int .i64 (kidsv l i)[c], v23, v24, v25, v26, v27, v28, v29, v30, u31, u32, u33, u34, u35, u36, u37, u38], defers := marks Ds } ∧ Below V.heap.size V V' ∧
              (d 0 = true → v23 = lv) ∧ (d 1 = true → v24 = .int .i64 (kidsv l i)[c]) ∧ (d 2 = true → v25 = ov) ∧ (d 3 = true → d 6 = false → V'.ownsRow V.heap.size 3 1 v26 own.length (own.map (Value.int .i64))) ∧
              (d 4 = true → v27 = .int .i64 c) ∧ (d 5 = true → d 6 = false → ∃ b5, v28 = .slice (some ⟨b5, 0, none⟩) 1 1 ∧ V'.cell? ⟨b5, 0, none⟩ = some (.int .i64 c) ∧ b5 < V'.heap.size) ∧
              (d 6 = true → IntsIn (fun k => V.heap.size ≤ k ∧ k < V'.heap.size) V' v29 (own ++ [(c : Int)])) ∧
              (d 7 = true → d 6 = true ∧ ∃ B, v30 = .func (.func 88) #[] #[.pointer (some ⟨B + 1, 0, none⟩), .pointer (some ⟨B + 1 + 1, 0, none⟩), .pointer (some ⟨B, 0, none⟩)] ∧ V.heap.size ≤ B ∧ B + 2 < V'.heap.size ∧
                V'.cell? ⟨B, 0, none⟩ = some lv ∧ V'.cell? ⟨B + 1, 0, none⟩ = some (.int .i64 (kidsv l i)[c]) ∧ V'.cell? ⟨B + 1 + 1, 0, none⟩ = some v29)) := ⟨_, rfl⟩
            have HI := Lib.hid hInv
            clear hInv
            refine region_inv hmix Inv (by kernel_rfl) ?_ ?_ ?_
            · rw [HI.out]
              exact ⟨_, _, _, _, _, _, _, _, rfl, (Below.refl _ _).drew, (fun h => by cases h), (fun h => by cases h), (fun h => by cases h), (fun h => by cases h), (fun h => by cases h), (fun h => by cases h), (fun h => by cases h), (fun h => by cases h)⟩
            · refine ⟨?_, ?_, ?_, ?_, ?_, ?_, ?_, ?_, trivial⟩
              · intro d a' V' K hd hdep hI hK
                rw [HI.out] at hI
                obtain ⟨v23, v24, v25, v26, v27, v28, v29, v30, rfl, hB, f0, f1, f2, f3, f4, f5, f6, f7⟩ := hI
                rw [if_pos (show Region.wanted _ _ = true from rfl)]
                have hx := (hB.cell (p := ⟨Bl, 0, none⟩) hltl).trans hblV
                gi_wp2
                rw [HI.out]
                exact ⟨_, _, _, _, _, _, _, _, rfl, hB, (fun _ => rfl), (upd_keep (by decide) f1), (upd_keep (by decide) f2), (upd_keep2 (by decide) (by decide) f3), (upd_keep (by decide) f4), (upd_keep2 (by decide) (by decide) f5), (upd_keep (by decide) f6), (fun h => by obtain ⟨g1, g2⟩ := f7 (by rwa [upd_other d (by decide)] at h); exact ⟨by rw [upd_other d (by decide)]; exact g1, g2⟩)⟩
              · intro d a' V' K hd hdep hI hK
                rw [HI.out] at hI
                obtain ⟨v23, v24, v25, v26, v27, v28, v29, v30, rfl, hB, f0, f1, f2, f3, f4, f5, f6, f7⟩ := hI
                rw [if_pos (show Region.wanted _ _ = true from rfl)]
                gi_wp2
                rw [HI.out]
                exact ⟨_, _, _, _, _, _, _, _, rfl, hB, (upd_keep (by decide) f0), (fun _ => rfl), (upd_keep (by decide) f2), (upd_keep2 (by decide) (by decide) f3), (upd_keep (by decide) f4), (upd_keep2 (by decide) (by decide) f5), (upd_keep (by decide) f6), (fun h => by obtain ⟨g1, g2⟩ := f7 (by rwa [upd_other d (by decide)] at h); exact ⟨by rw [upd_other d (by decide)]; exact g1, g2⟩)⟩
              · intro d a' V' K hd hdep hI hK
                rw [HI.out] at hI
                obtain ⟨v23, v24, v25, v26, v27, v28, v29, v30, rfl, hB, f0, f1, f2, f3, f4, f5, f6, f7⟩ := hI
                rw [if_pos (show Region.wanted _ _ = true from rfl)]
                have hx := (hB.cell (p := ⟨Bo, 0, none⟩) hlto).trans hboV
                gi_wp2
                rw [HI.out]
                exact ⟨_, _, _, _, _, _, _, _, rfl, hB, (upd_keep (by decide) f0), (upd_keep (by decide) f1), (fun _ => rfl), (upd_keep2 (by decide) (by decide) f3), (upd_keep (by decide) f4), (upd_keep2 (by decide) (by decide) f5), (upd_keep (by decide) f6), (fun h => by obtain ⟨g1, g2⟩ := f7 (by rwa [upd_other d (by decide)] at h); exact ⟨by rw [upd_other d (by decide)]; exact g1, g2⟩)⟩
              · intro d a' V' K hd hdep hI hK
                rw [HI.out] at hI
                obtain ⟨v23, v24, v25, v26, v27, v28, v29, v30, rfl, hB, f0, f1, f2, f3, f4, f5, f6, f7⟩ := hI
                rw [if_pos (show Region.wanted _ _ = true from rfl)]
                obtain rfl := f2 (hdep ⟨2, .data⟩ (by simp) rfl)
                have hovV : IntsIn (fun k => ¬ X k ∧ k < V.heap.size) V' v25 own := hovW.kept (kept_of hB (fun k hk => hk.2))
                gi_wp2_with (gi_at_call 73; refine (callsIn_wide.2 (Clone_any own _ _ _ (fun k hk => Nat.lt_of_lt_of_le hk.2 hB.size) hovV (by omega))).mono ?_; rintro e V2 ⟨u2, rfl, hr2, hb2⟩)
                rw [HI.out]
                exact ⟨_, _, _, _, _, _, _, _, rfl, hB.trans (hb2.mono hB.size), (upd_keep (by decide) f0), (upd_keep (by decide) f1), (fun _ => rfl), (fun _ _ => ownsRow_base hr2 hB.size), (upd_keep (by decide) f4), (upd_keep2 (by decide) (by decide) (fun h h' => by obtain ⟨b5, g1, g2, g3⟩ := f5 h h'; exact ⟨b5, g1, (hb2.cell (p := ⟨b5, 0, none⟩) g3).trans g2, Nat.lt_of_lt_of_le g3 hb2.size⟩)), (upd_keep (by decide) (fun h => intsIn_new (f6 h) hb2)), (fun h => by obtain ⟨g0, B, g1, g2, g3, g4, g5, g6⟩ := f7 (by rwa [upd_other d (by decide)] at h); have hz2 := hb2.size; exact ⟨by rw [upd_other d (by decide)]; exact g0, B, g1, g2, by omega, (hb2.cell (p := ⟨B, 0, none⟩) (by show B < _; omega)).trans g4, (hb2.cell (p := ⟨B + 1, 0, none⟩) (by show B + 1 < _; omega)).trans g5, (hb2.cell (p := ⟨B + 1 + 1, 0, none⟩) (by show B + 1 + 1 < _; omega)).trans g6⟩)⟩
              · intro d a' V' K hd hdep hI hK
                rw [HI.out] at hI
                obtain ⟨v23, v24, v25, v26, v27, v28, v29, v30, rfl, hB, f0, f1, f2, f3, f4, f5, f6, f7⟩ := hI
                rw [if_pos (show Region.wanted _ _ = true from rfl)]
                gi_wp2
                rw [HI.out]
                exact ⟨_, _, _, _, _, _, _, _, rfl, hB, (upd_keep (by decide) f0), (upd_keep (by decide) f1), (upd_keep (by decide) f2), (upd_keep2 (by decide) (by decide) f3), (fun _ => rfl), (upd_keep2 (by decide) (by decide) f5), (upd_keep (by decide) f6), (fun h => by obtain ⟨g1, g2⟩ := f7 (by rwa [upd_other d (by decide)] at h); exact ⟨by rw [upd_other d (by decide)]; exact g1, g2⟩)⟩
              · intro d a' V' K hd hdep hI hK
                rw [HI.out] at hI
                obtain ⟨v23, v24, v25, v26, v27, v28, v29, v30, rfl, hB, f0, f1, f2, f3, f4, f5, f6, f7⟩ := hI
                rw [if_pos (show Region.wanted _ _ = true from rfl)]
                obtain rfl := f4 (hdep ⟨4, .data⟩ (by simp) rfl)
                have hb2 := below_alloc1 V' (.cells #[.int .i64 c] 3)
                gi_wp2
                rw [HI.out]
                exact ⟨_, _, _, _, _, _, _, _, rfl, hB.trans (hb2.mono hB.size), (upd_keep (by decide) f0), (upd_keep (by decide) f1), (upd_keep (by decide) f2), (upd_keep2 (by decide) (by decide) (fun h h' => ownsRow_below (f3 h h') hb2)), (fun _ => rfl), (fun _ _ => ⟨_, rfl, by simp, by simp⟩), (upd_keep (by decide) (fun h => intsIn_new (f6 h) hb2)), (fun h => by obtain ⟨g0, B, g1, g2, g3, g4, g5, g6⟩ := f7 (by rwa [upd_other d (by decide)] at h); have hz2 := hb2.size; exact ⟨by rw [upd_other d (by decide)]; exact g0, B, g1, g2, by omega, (hb2.cell (p := ⟨B, 0, none⟩) (by show B < _; omega)).trans g4, (hb2.cell (p := ⟨B + 1, 0, none⟩) (by show B + 1 < _; omega)).trans g5, (hb2.cell (p := ⟨B + 1 + 1, 0, none⟩) (by show B + 1 + 1 < _; omega)).trans g6⟩)⟩
              · intro d a' V' K hd hdep hI hK
                rw [HI.out] at hI
                obtain ⟨v23, v24, v25, v26, v27, v28, v29, v30, rfl, hB, f0, f1, f2, f3, f4, f5, f6, f7⟩ := hI
                rw [if_pos (show Region.wanted _ _ = true from rfl)]
                have hrow := f3 (hdep ⟨3, .data⟩ (by simp) rfl) hd
                obtain ⟨b5, rfl, hc5, hb5⟩ := f5 (hdep ⟨5, .data⟩ (by simp) rfl) hd
                have hnew : SliceIn (fun k => k < V'.heap.size) V' (.slice (some ⟨b5, 0, none⟩) 1 1) 1 [.int .i64 (c : Int)] := .inr ⟨b5, 0, 1, rfl, by omega, by omega, hb5, fun j hj => by
                  have hj0 : j = 0 := by simpa using hj
                  subst hj0; simpa using hc5⟩
                obtain ⟨v', w', hrun, r1, r2⟩ := run_append_in (P := Tryz.prog) V.heap.size 22 22 3 i0 (.int .i64 0) 1 8 Tryz.underlying22 hi hz0 hz1 hz2 rfl (by decide) v26 own.length _ hrow _ 1 _ hnew (by simp) (by simp [Value.oneCell']) (by unfold maxLen; omega) (by omega) hB.size
                refine wpIn_append rfl hrun rfl rfl (hK _ _ ?_)
                rw [HI.out]
                have hb2 : Below V.heap.size V w' := hB.grown r2 hB.size (fun j hj => (hrow.lt j hj).1)
                have hi6 : IntsIn (fun k => V.heap.size ≤ k ∧ k < w'.heap.size) w' v' (own ++ [(c : Int)]) := ownsRow_ints (by simpa using r1)
                exact ⟨_, _, _, _, _, _, _, _, rfl, hb2, upd_keep (by decide) f0, upd_keep (by decide) f1, upd_keep (by decide) f2, (fun _ h => by rw [upd_self] at h; cases h), upd_keep (by decide) f4, (fun _ h => by rw [upd_self] at h; cases h), (fun _ => hi6), (fun h => by have := (f7 (by rwa [upd_other d (by decide)] at h)).1; rw [hd] at this; cases this)⟩
              · intro d a' V' K hd hdep hI hK
                rw [HI.out] at hI
                obtain ⟨v23, v24, v25, v26, v27, v28, v29, v30, rfl, hB, f0, f1, f2, f3, f4, f5, f6, f7⟩ := hI
                rw [if_pos (show Region.wanted _ _ = true from rfl)]
                obtain rfl := f0 (hdep ⟨0, .data⟩ (by simp) rfl)
                obtain rfl := f1 (hdep ⟨1, .data⟩ (by simp) rfl)
                have h6 := hdep ⟨6, .data⟩ (by simp) rfl
                have hi6 := f6 h6
                have h9 := IntsIn.isSlice hi6
                have hls := NodesIn.isSlice hlv
                gi_wp2_with (gi_at_call 45; refine (callsIn_wide.2 (paths_any _ _ _ hls h9 _)).mono ?_; rintro e V2 ⟨rfl, rfl⟩)
                rw [HI.out]
                exact by
                  have hb2 : Below V'.heap.size V' (((V'.alloc (.cells #[v23] 23)).alloc (.cells #[.int .i64 (kidsv l i)[c]] 3)).alloc (.cells #[v29] 22)) := (((Below.refl _ _).alloc (Nat.le_refl _) _).alloc (by simp) _).alloc (by simp; omega) _
                  exact ⟨_, _, _, _, _, _, _, _, rfl, hB.trans (hb2.mono hB.size), (fun _ => rfl), (fun _ => rfl), (upd_keep (by decide) f2), (upd_keep2 (by decide) (by decide) (fun h h' => ownsRow_below (f3 h h') hb2)), (upd_keep (by decide) f4), (fun _ h => by rw [upd_other d (by decide), h6] at h; cases h), (fun _ => intsIn_new hi6 hb2), (fun _ => ⟨by rw [upd_other d (by decide)]; exact h6, V'.heap.size, rfl, hB.size, by simp, cells_three _ _ _ _ _ _ _⟩)⟩
            · intro d a' V' hall hI
              rw [HI.out] at hI
              obtain ⟨v23, v24, v25, v26, v27, v28, v29, v30, rfl, hB, f0, f1, f2, f3, f4, f5, f6, f7⟩ := hI
              obtain rfl := f0 (hall 0 (by decide))
              obtain rfl := f1 (hall 1 (by decide))
              obtain rfl := f2 (hall 2 (by decide))
              obtain rfl := f4 (hall 4 (by decide))
              obtain ⟨_, B, rfl, g1, g2, g3, g4, g5⟩ := f7 (hall 7 (by decide))
              exact ⟨rfl, B, v26, v28, v29, rfl, hB, g1, g2, g3, g4, g5, f6 (hall 6 (by decide))⟩
        · gi_wp2
          obtain rfl : c = (kidsv l i).length := by omega
          exact leaves_marks _ (J xs true) Ds V hnd (fun D hD => (hDs D hD).1) (fun A D hD ho hj => (hJ true).putObj _ hj (hDs D hD).2 ho rfl) hJV
            (fun W' hj => ⟨results_none rfl _ _ _, ⟨_, rfl⟩, xs, true, by rw [stepsR, if_pos rfl, hxs.out, pathsTo_all], hj⟩)
end Go.Proofs.YtinnbafplhcnpaaGreat
end

section
namespace Go.Proofs.YtinnbafplhcnpaaGreat

/-- How two numbers stand. -/
def cmpI (x y : Int) : Int := if x < y then -1 else if y < x then 1 else 0
/-- How two paths stand. -/
def cmpL : List Int → List Int → Int
  | [], [] => 0
  | [], _ :: _ => -1
  | _ :: _, [] => 1
  | x :: a, y :: b => if x < y then -1 else if y < x then 1 else cmpL a b

theorem cmpL_drop (a b : List Int) (k : Nat) (h1 : k < a.length) (h2 : k < b.length) (h : a[k] = b[k]) : cmpL (a.drop k) (b.drop k) = cmpL (a.drop (k + 1)) (b.drop (k + 1)) := by
  rw [List.drop_eq_getElem_cons h1, List.drop_eq_getElem_cons h2, cmpL, h, if_neg (by omega), if_neg (by omega)]
theorem cmpL_apart (a b : List Int) (k : Nat) (h1 : k < a.length) (h2 : k < b.length) (h : a[k] ≠ b[k]) : cmpL (a.drop k) (b.drop k) = cmpI a[k] b[k] := by
  rw [List.drop_eq_getElem_cons h1, List.drop_eq_getElem_cons h2, cmpL, cmpI]
  split
  · rfl
  · rw [if_pos (by omega), if_pos (by omega)]
theorem cmpL_end (a b : List Int) (k : Nat) (h1 : k ≤ a.length) (h2 : k ≤ b.length) (h : k = a.length ∨ k = b.length) : cmpL (a.drop k) (b.drop k) = cmpI a.length b.length := by
  rcases h with rfl | rfl
  · rw [List.drop_length]
    by_cases h3 : b.length = a.length
    · rw [← h3, List.drop_length]; simp [cmpL, cmpI]
    · rw [List.drop_eq_getElem_cons (by omega), cmpL, cmpI, if_pos (by omega)]
  · rw [List.drop_length]
    by_cases h3 : b.length = a.length
    · rw [h3, List.drop_length]; simp [cmpL, cmpI]
    · rw [List.drop_eq_getElem_cons (by omega), cmpL, cmpI, if_neg (by omega), if_pos (by omega)]


/-- Down from the node at i. -/
def downV (l : List Nd) : Int → List Int → Int
  | i, [] => i
  | i, n :: r => if 0 ≤ n ∧ n.toNat < (kidsv l i).length then downV l ((kidsv l i).getD n.toNat 0) r else -1
/-- The node of a path; -1: none. -/
def findv (l : List Nd) (p : List Int) : Int := if endv l 0 = l.length then downV l 0 p else -1

theorem downV_in (l : List Nd) (i : Int) (n : Int) (r : List Int) (j : Nat) (hn : n = j) (hj : j < (kidsv l i).length) : downV l i (n :: r) = downV l (kidsv l i)[j] r := by
  subst hn
  rw [downV, if_pos ⟨by omega, by simpa using hj⟩]
  simp [hj]
theorem downV_out (l : List Nd) (i : Int) (n : Int) (r : List Int) (h : ¬ (0 ≤ n ∧ n.toNat < (kidsv l i).length)) : downV l i (n :: r) = -1 := by rw [downV, if_neg h]

/-- A node's path: the first one that one comes to. -/
def ofv (l : List Nd) (i : Int) : Option (List Int) := if endv l 0 = l.length then ((pathsV (l.length + 1) l 0 []).find? fun x => x.1 == i).map (·.2) else none

theorem ofv_no (l : List Nd) (i : Int) (h : endv l 0 ≠ l.length) : ofv l i = none := by rw [ofv, if_neg h]

theorem cmpL_swap : ∀ a b : List Int, cmpL b a = - cmpL a b
  | [], [] => rfl
  | [], _ :: _ => rfl
  | _ :: _, [] => rfl
  | x :: a, y :: b => by
    have := cmpL_swap a b
    simp only [cmpL]
    rcases Int.lt_trichotomy x y with h | h | h
    · rw [if_pos h, if_neg (by omega), if_pos h]; rfl
    · rw [if_neg (by omega), if_neg (by omega), if_neg (by omega), if_neg (by omega)]; exact this
    · rw [if_pos h, if_neg (by omega), if_pos h]
theorem cmpL_zero : ∀ a b : List Int, cmpL a b = 0 ↔ a = b
  | [], [] => by simp [cmpL]
  | [], _ :: _ => by simp [cmpL]
  | _ :: _, [] => by simp [cmpL]
  | x :: a, y :: b => by
    have := cmpL_zero a b
    simp only [cmpL, List.cons.injEq]
    rcases Int.lt_trichotomy x y with h | h | h
    · rw [if_pos h]; exact ⟨fun h' => by omega, fun h' => by omega⟩
    · rw [if_neg (by omega), if_neg (by omega), this]; exact ⟨fun h' => ⟨h, h'⟩, fun h' => h'.2⟩
    · rw [if_neg (by omega), if_pos h]; exact ⟨fun h' => by omega, fun h' => by omega⟩
theorem cmpL_trans : ∀ a b c : List Int, cmpL a b ≤ 0 → cmpL b c ≤ 0 → cmpL a c ≤ 0
  | [], _, [], _, _ => by simp [cmpL]
  | [], _, _ :: _, _, _ => by simp [cmpL]
  | _ :: _, [], _, h, _ => by simp [cmpL] at h
  | _ :: _, _ :: _, [], _, h => by simp [cmpL] at h
  | x :: a, y :: b, z :: c, h1, h2 => by
    have ih := cmpL_trans a b c
    simp only [cmpL] at h1 h2 ⊢
    repeat' split at h1
    all_goals repeat' split at h2
    all_goals repeat' split
    all_goals first | omega | exact ih h1 h2

end Go.Proofs.YtinnbafplhcnpaaGreat
end

section
namespace Go.Proofs.YtinnbafplhcnpaaGreat
open Go.RowKit

set_option maxHeartbeats 2000000 in
theorem Find_any (l : List Nd) (p : List Int) (v u : Value) (w : World) (hv : NodesAt w v l) (hu : IntsAt w u p) (hl : l.length ≤ 4000000) (hp : p.length ≤ 4000000) :
    Calls Tryz.prog 26 #[v, u] w fun e w' => e = .returned (.int .i64 (findv l p)) ∧ Below w.heap.size w w' := by
  obtain ⟨pu, cu, hus⟩ := hu.slice
  subst hus
  obtain ⟨pv, cv, hvs⟩ := hv.slice
  subst hvs
  by_cases hE : endv l 0 = l.length
  · have hE' : (endv l 0 != (l.length : Int)) = false := by simp [hE]
    have HF : Hid (findv l p = downV l 0 p) := Lib.hid (by rw [findv, if_pos hE])
    clear hE
    go_enter Tryz.func26, Tryz.ntmps26
    go_wp2
    go_step3
    go_wp2_with (go_at_call 44; refine (End_any l _ _ _ hv hl).mono ?_; rintro e w1 ⟨rfl, hb1⟩)
    go_step3
    go_wp2
    go_loopw [5, 16] (fun x i wr => ∃ (k : Nat) (z : Int), i = .int .i64 k ∧ x = .int .i64 z ∧ k ≤ p.length ∧ Hid (downV l 0 p = downV l z (p.drop k)) ∧ Below w.heap.size w wr) (fun _ i _ => p.length - (intOf i).toNat)
    case atStart => exact ⟨0, 0, rfl, rfl, Nat.zero_le _, Lib.hid rfl, hb1⟩
    case round =>
      obtain ⟨k, z, rfl, rfl, hk, ht, hB⟩ := hrel
      by_cases hlt : k < p.length
      · rcases hu.open with ⟨rfl, _⟩ | ⟨b1, o1, c1, hs1, hp1, hc1, hbb1, hx1⟩
        · simp at hlt
        obtain ⟨rfl, rfl⟩ : pu = some ⟨b1, o1, none⟩ ∧ cu = c1 := by simpa using hs1
        have g1 := (hB.cell (p := ⟨b1, o1 + k, none⟩) hbb1).trans (hx1 k hlt)
        clear hx1 hs1
        have hsz := hB.size
        have hvr := NodesIn.below hv hB
        have hpk := Lib.hid (List.drop_eq_getElem_cons hlt)
        have hkl := kidsv_len l z
        by_cases hn : 0 ≤ p[k] ∧ p[k].toNat < (kidsv l z).length
        · obtain ⟨j, hj⟩ := Int.eq_ofNat_of_zero_le hn.1
          have hjl : j < (kidsv l z).length := by omega
          have HJ := Lib.hid hj
          have hn1 : ¬ p[k] < 0 := by omega
          have hn2 : ¬ ((kidsv l z).length : Int) ≤ p[k] := by omega
          have hdn := Lib.hid (downV_in l z p[k] (p.drop (k + 1)) j hj hjl)
          clear hn
          rw [hj] at g1 hn1 hn2
          clear hj
          go_wp2_with (go_at_call 48; refine (Kids_any l _ _ _ hvr hl).mono ?_; rintro e w2 ⟨q, rfl, hq, hb2⟩; (rcases hq.open with ⟨h0, _⟩ | ⟨bq, oq, cq, hqs, hqp, hqc, hqb, hqx⟩; (exfalso; rw [h0] at hjl; simp at hjl)); have gq := hqx j hjl; clear hqx; subst hqs)
          go_roundw
          case rel => exact ⟨k + 1, (kidsv l z)[j], by go_num, rfl, by omega, Lib.hid (by rw [ht.out, hpk.out, hdn.out]), hB.trans (hb2.mono hsz)⟩
          case measure => simp [intOf]; omega
        · have hdn := Lib.hid (downV_out l z p[k] (p.drop (k + 1)) hn)
          by_cases hn1 : p[k] < 0
          · clear hn
            go_wp2_with (go_at_call 48; refine (Kids_any l _ _ _ hvr hl).mono ?_; rintro e w2 ⟨q, rfl, hq, hb2⟩; obtain ⟨pq, cq, hqs⟩ := hq.slice; subst hqs)
            rw [Exit.noGoto_ret]
            go_ret
            exact ⟨ret_int (by rw [HF.out, ht.out, hpk.out, hdn.out]), hB.trans (hb2.mono hsz)⟩
          · have hn2 : ((kidsv l z).length : Int) ≤ p[k] := by omega
            clear hn
            go_wp2_with (go_at_call 48; refine (Kids_any l _ _ _ hvr hl).mono ?_; rintro e w2 ⟨q, rfl, hq, hb2⟩; obtain ⟨pq, cq, hqs⟩ := hq.slice; subst hqs)
            rw [Exit.noGoto_ret]
            go_ret
            exact ⟨ret_int (by rw [HF.out, ht.out, hpk.out, hdn.out]), hB.trans (hb2.mono hsz)⟩
      · go_wp2
        rw [Exit.noGoto_ret]
        go_ret
        exact ⟨ret_int (by rw [HF.out, ht.out, List.drop_of_length_le (by omega)]; rfl), hB⟩
  · have hE' : (endv l 0 != (l.length : Int)) = true := by simp [hE]
    have HF : Hid (findv l p = -1) := Lib.hid (by rw [findv, if_neg hE])
    clear hE
    go_enter Tryz.func26, Tryz.ntmps26
    go_wp2
    go_step3
    go_wp2_with (go_at_call 44; refine (End_any l _ _ _ hv hl).mono ?_; rintro e w1 ⟨rfl, hb1⟩)
    rw [Exit.noGoto_ret]
    go_ret
    exact ⟨ret_int HF.out.symm, hb1⟩
end Go.Proofs.YtinnbafplhcnpaaGreat
end

section
namespace Go.Proofs.YtinnbafplhcnpaaGreat
open Go.RowKit

theorem isNaN_any (x : Int) (w : World) : Calls Tryz.prog 89 #[.int .i64 x] w fun e w' => e = .returned (.bool false) ∧ w = w' := by
  go_enter Tryz.func89, Tryz.ntmps89
  have h : (x != x) = false := by simp
  go_wp2
  go_ret
  exact ⟨rfl, rfl⟩
theorem cmpI_any (x y : Int) (w : World) : Calls Tryz.prog 46 #[.int .i64 x, .int .i64 y] w fun e w' => e = .returned (.int .i64 (cmpI x y)) ∧ w' = w := by
  go_enter Tryz.func46, Tryz.ntmps46
  go_wp2_with (fail)
  refine (isNaN_any x _).mono ?_
  rintro e w' ⟨rfl, rfl⟩
  go_wp2_with (fail)
  refine (isNaN_any y _).mono ?_
  rintro e w' ⟨rfl, rfl⟩
  go_wp2_with (fail)
  all_goals go_ret
  · exact ⟨ret_int (by rw [cmpI, if_pos (by assumption)]), rfl⟩
  · exact ⟨ret_int (by rw [cmpI, if_neg (by omega), if_pos (by assumption)]), rfl⟩
  · exact ⟨ret_int (by rw [cmpI, if_neg (by omega), if_neg (by omega)]), rfl⟩

set_option maxHeartbeats 1000000 in
theorem Compare_any (a b : List Int) (u v : Value) (w : World) (hu : IntsAt w u a) (hv : IntsAt w v b) (ha : a.length ≤ 4000000) (hb : b.length ≤ 4000000) :
    Calls Tryz.prog 22 #[u, v] w fun e w' => e = .returned (.int .i64 (cmpL a b)) ∧ Below w.heap.size w w' := by
  obtain ⟨pu, cu, hus⟩ := hu.slice
  obtain ⟨pv, cv, hvs⟩ := hv.slice
  subst hus
  subst hvs
  obtain ⟨m, hm⟩ : ∃ m, m = min a.length b.length := ⟨_, rfl⟩
  have hm1 : m ≤ a.length := by omega
  have hm2 : m ≤ b.length := by omega
  have hm3 : m = a.length ∨ m = b.length := by omega
  have Hm := Lib.hid hm
  clear hm
  go_enter Tryz.func22, Tryz.ntmps22
  go_wp2
  all_goals
    go_loopw [12] (fun i wr => ∃ k : Nat, i = .int .i64 k ∧ k ≤ m ∧ Hid (cmpL a b = cmpL (a.drop k) (b.drop k)) ∧ Below w.heap.size w wr) (fun i _ => m - (intOf i).toNat)
    case atStart => exact ⟨0, rfl, Nat.zero_le _, Lib.hid rfl, Below.refl _ _⟩
    case round =>
      obtain ⟨k, rfl, hk, ht, hB⟩ := hrel
      by_cases hkm : k < m
      · have hlt : k < a.length := by omega
        have hltb : k < b.length := by omega
        rcases hu.open with ⟨rfl, _⟩ | ⟨b1, o1, c1, hs1, hp1, hc1, hb1, hx1⟩
        · simp at hlt
        rcases hv.open with ⟨rfl, _⟩ | ⟨b2, o2, c2, hs2, hp2, hc2, hb2, hx2⟩
        · simp at hltb
        obtain ⟨rfl, rfl⟩ : pu = some ⟨b1, o1, none⟩ ∧ cu = c1 := by simpa using hs1
        obtain ⟨rfl, rfl⟩ : pv = some ⟨b2, o2, none⟩ ∧ cv = c2 := by simpa using hs2
        have g1 := (hB.cell (p := ⟨b1, o1 + k, none⟩) hb1).trans (hx1 k hlt)
        have g2 := (hB.cell (p := ⟨b2, o2 + k, none⟩) hb2).trans (hx2 k hltb)
        clear hx1 hx2 hs1 hs2
        have n1 : (k : Int) < (a.length : Int) := by omega
        have n2 : (k : Int) < (b.length : Int) := by omega
        by_cases he : a[k] = b[k]
        · have heb : (cmpI a[k] b[k] != 0) = false := by simp [cmpI, he]
          have HE := Lib.hid he
          clear he
          go_wp2
          go_quiet ((go_at_call 46; exact Calls.quiet_of_same (cmpI_any _ _ _)))
          go_wp2
          go_roundw
          case rel => exact ⟨k + 1, by go_num, by omega, Lib.hid (by rw [ht.out, cmpL_drop a b k hlt hltb HE.out]), below_drewN hB _⟩
          case measure => simp [intOf]; omega
        · have heb : (cmpI a[k] b[k] != 0) = true := by rw [bne_iff_ne]; unfold cmpI; split; omega; split <;> omega
          have HE := Lib.hid he
          clear he
          go_wp2
          go_quiet ((go_at_call 46; exact Calls.quiet_of_same (cmpI_any _ _ _)))
          go_wp2
          go_ret
          exact ⟨ret_int (by rw [ht.out, cmpL_apart a b k hlt hltb HE.out]), below_drewN hB _⟩
      · go_wp2_with (go_at_call 46; refine (cmpI_any _ _ _).mono ?_; rintro e w' ⟨rfl, rfl⟩)
        go_ret
        exact ⟨ret_int (by rw [ht.out, cmpL_end a b k (by omega) (by omega) (by omega)]), hB⟩
end Go.Proofs.YtinnbafplhcnpaaGreat
end

section
namespace Go.Proofs.YtinnbafplhcnpaaGreat
open Go.RowKit
end Go.Proofs.YtinnbafplhcnpaaGreat
end

section
namespace Go.Proofs.YtinnbafplhcnpaaGreat
open Go.RowKit
set_option maxHeartbeats 2000000 in
theorem refCompare_any (a b : List Int) (u v : Value) (w : World) (hu : IntsAt w u a) (hv : IntsAt w v b) (ha : a.length ≤ 4000000) (hb : b.length ≤ 4000000) :
    Calls Tryz.prog 64 #[u, v] w fun e w' => e = .returned (.int .i64 (cmpL a b)) ∧ Below w.heap.size w w' := by
  obtain ⟨pu, cu, hus⟩ := hu.slice
  obtain ⟨pv, cv, hvs⟩ := hv.slice
  subst hus
  subst hvs
  go_enter Tryz.func64, Tryz.ntmps64
  go_wp2
  go_loopw [5] (fun i wr => ∃ k : Nat, i = .int .i64 k ∧ k ≤ a.length ∧ k ≤ b.length ∧ Hid (cmpL a b = cmpL (a.drop k) (b.drop k)) ∧ Below w.heap.size w wr) (fun i _ => a.length - (intOf i).toNat)
  case atStart => exact ⟨0, rfl, Nat.zero_le _, Nat.zero_le _, Lib.hid rfl, Below.refl _ _⟩
  case round =>
    obtain ⟨k, rfl, hk, hk2, ht, hB⟩ := hrel
    by_cases hkm : k < a.length ∧ k < b.length
    · obtain ⟨hlt, hltb⟩ := hkm
      rcases hu.open with ⟨rfl, _⟩ | ⟨b1, o1, c1, hs1, hp1, hc1, hb1, hx1⟩
      · simp at hlt
      rcases hv.open with ⟨rfl, _⟩ | ⟨b2, o2, c2, hs2, hp2, hc2, hb2, hx2⟩
      · simp at hltb
      obtain ⟨rfl, rfl⟩ : pu = some ⟨b1, o1, none⟩ ∧ cu = c1 := by simpa using hs1
      obtain ⟨rfl, rfl⟩ : pv = some ⟨b2, o2, none⟩ ∧ cv = c2 := by simpa using hs2
      have g1 := (hB.cell (p := ⟨b1, o1 + k, none⟩) hb1).trans (hx1 k hlt)
      have g2 := (hB.cell (p := ⟨b2, o2 + k, none⟩) hb2).trans (hx2 k hltb)
      clear hx1 hx2 hs1 hs2
      have n1 : (k : Int) < (a.length : Int) := by omega
      have n2 : (k : Int) < (b.length : Int) := by omega
      rcases Int.lt_trichotomy a[k] b[k] with he | he | he
      · go_wp2
        go_quiet (fail)
        go_wp2
        go_ret
        exact ⟨ret_int (by rw [ht.out, cmpL_apart a b k hlt hltb (by omega), cmpI, if_pos he]), below_drewN hB _⟩
      · have h1 : ¬ a[k] < b[k] := by omega
        have h2 : ¬ b[k] < a[k] := by omega
        have HE := Lib.hid he
        clear he
        go_wp2
        go_quiet (fail)
        go_wp2
        go_quiet (fail)
        go_wp2
        go_roundw
        case rel => exact ⟨k + 1, by go_num, by omega, by omega, Lib.hid (by rw [ht.out, cmpL_drop a b k hlt hltb HE.out]), by first | exact below_drewN hB _ | exact below_drewN (below_drewN hB _) _⟩
        case measure => simp [intOf]; omega
      · have h1 : ¬ a[k] < b[k] := by omega
        go_wp2
        go_quiet (fail)
        go_wp2
        go_quiet (fail)
        go_wp2
        go_ret
        exact ⟨ret_int (by rw [ht.out, cmpL_apart a b k hlt hltb (by omega), cmpI, if_neg (by omega), if_pos he]), below_drewN (below_drewN hB _) _⟩
    · have he : cmpL a b = cmpI a.length b.length := by rw [ht.out, cmpL_end a b k (by omega) (by omega) (by omega)]
      have HE := Lib.hid he
      clear he
      by_cases h3 : k < a.length
      all_goals
        go_wp2
        all_goals
          go_ret
          exact ⟨ret_int (by rw [HE.out, cmpI]; first | rw [if_pos (by omega)] | rw [if_neg (by omega), if_pos (by omega)] | rw [if_neg (by omega), if_neg (by omega)]), hB⟩
end Go.Proofs.YtinnbafplhcnpaaGreat
end

section
namespace Go.Proofs.YtinnbafplhcnpaaGreat
open Go.RowKit
set_option linter.unusedVariables false
set_option linter.unusedSimpArgs false

section
variable {P : Program}
end
end Go.Proofs.YtinnbafplhcnpaaGreat
end

section
namespace Go.Proofs.YtinnbafplhcnpaaGreat
open Go.RowKit Go.Lib Go.Shelf
set_option linter.unusedVariables false
set_option linter.unusedSimpArgs false

end Go.Proofs.YtinnbafplhcnpaaGreat
end

section
namespace Go.Proofs.YtinnbafplhcnpaaGreat
open Go.RowKit
set_option linter.unusedVariables false
set_option linter.unusedSimpArgs false

def F_Find : List D → Option D
  | [x0, x1] => (asNodes x0).bind fun l => (asInts x1).bind fun p => if l.length ≤ 3000000 ∧ p.length ≤ 3000000 then some (iD (findv l p)) else none
  | _ => none

theorem C_Find : CallOk Tryz.prog 26 F_Find := by
  refine ⟨⟨_, Tryz.func26, by decide, rfl⟩, fun ds d hF S vs W hS hv => ?_⟩
  unfold F_Find at hF
  split at hF
  · rename_i x0 x1
    rcases hd0 : asNodes x0 with _ | l
    · rw [hd0] at hF; cases hF
    rw [hd0, Option.bind_some] at hF
    rcases hd1 : asInts x1 with _ | p
    · rw [hd1] at hF; cases hF
    rw [hd1, Option.bind_some] at hF
    split at hF
    rotate_left
    · cases hF
    rename_i G
    cases hF
    simp only [RepA] at hv
    obtain ⟨v_l, t0, rfl, r0, ⟨v_p, t1, rfl, r1, rfl⟩⟩ := hv
    have h_l := (asNodes_ok hd0 r0).mono hS
    have h_p := (asInts_ok hd1 r1).mono hS
    refine (Find_any l p v_l v_p W h_l h_p (by omega) (by omega)).mono ?_
    rintro e w1 ⟨rfl, hb⟩
    exact ⟨_, rfl, by simp only [Rep], hb⟩
  · cases hF

def F_Compare : List D → Option D
  | [x0, x1] => (asInts x0).bind fun a => (asInts x1).bind fun b => if a.length ≤ 3000000 ∧ b.length ≤ 3000000 then some (iD (cmpL a b)) else none
  | _ => none

theorem C_Compare : CallOk Tryz.prog 22 F_Compare := by
  refine ⟨⟨_, Tryz.func22, by decide, rfl⟩, fun ds d hF S vs W hS hv => ?_⟩
  unfold F_Compare at hF
  split at hF
  · rename_i x0 x1
    rcases hd0 : asInts x0 with _ | a
    · rw [hd0] at hF; cases hF
    rw [hd0, Option.bind_some] at hF
    rcases hd1 : asInts x1 with _ | b
    · rw [hd1] at hF; cases hF
    rw [hd1, Option.bind_some] at hF
    split at hF
    rotate_left
    · cases hF
    rename_i G
    cases hF
    simp only [RepA] at hv
    obtain ⟨v_a, t0, rfl, r0, ⟨v_b, t1, rfl, r1, rfl⟩⟩ := hv
    have h_a := (asInts_ok hd0 r0).mono hS
    have h_b := (asInts_ok hd1 r1).mono hS
    refine (Compare_any a b v_a v_b W h_a h_b (by omega) (by omega)).mono ?_
    rintro e w1 ⟨rfl, hb⟩
    exact ⟨_, rfl, by simp only [Rep], hb⟩
  · cases hF

def F_RefCompare : List D → Option D
  | [x0, x1] => (asInts x0).bind fun a => (asInts x1).bind fun b => if a.length ≤ 3000000 ∧ b.length ≤ 3000000 then some (iD (cmpL a b)) else none
  | _ => none

theorem C_RefCompare : CallOk Tryz.prog 64 F_RefCompare := by
  refine ⟨⟨_, Tryz.func64, by decide, rfl⟩, fun ds d hF S vs W hS hv => ?_⟩
  unfold F_RefCompare at hF
  split at hF
  · rename_i x0 x1
    rcases hd0 : asInts x0 with _ | a
    · rw [hd0] at hF; cases hF
    rw [hd0, Option.bind_some] at hF
    rcases hd1 : asInts x1 with _ | b
    · rw [hd1] at hF; cases hF
    rw [hd1, Option.bind_some] at hF
    split at hF
    rotate_left
    · cases hF
    rename_i G
    cases hF
    simp only [RepA] at hv
    obtain ⟨v_a, t0, rfl, r0, ⟨v_b, t1, rfl, r1, rfl⟩⟩ := hv
    have h_a := (asInts_ok hd0 r0).mono hS
    have h_b := (asInts_ok hd1 r1).mono hS
    refine (refCompare_any a b v_a v_b W h_a h_b (by omega) (by omega)).mono ?_
    rintro e w1 ⟨rfl, hb⟩
    exact ⟨_, rfl, by simp only [Rep], hb⟩
  · cases hF

def F_cmpI : List D → Option D
  | [x0, x1] => (asInt x0).bind fun x => (asInt x1).bind fun y => some (iD (cmpI x y))
  | _ => none

theorem C_cmpI : CallOk Tryz.prog 46 F_cmpI := by
  refine ⟨⟨_, Tryz.func46, by decide, rfl⟩, fun ds d hF S vs W hS hv => ?_⟩
  unfold F_cmpI at hF
  split at hF
  · rename_i x0 x1
    rcases hd0 : asInt x0 with _ | x
    · rw [hd0] at hF; cases hF
    rw [hd0, Option.bind_some] at hF
    rcases hd1 : asInt x1 with _ | y
    · rw [hd1] at hF; cases hF
    rw [hd1, Option.bind_some] at hF
    cases hF
    simp only [RepA] at hv
    obtain ⟨v_x, t0, rfl, r0, ⟨v_y, t1, rfl, r1, rfl⟩⟩ := hv
    obtain rfl := asInt_ok hd0 r0
    obtain rfl := asInt_ok hd1 r1
    refine ((cmpI_any x y W).mono (R' := fun e w' => e = .returned (.int .i64 (cmpI x y)) ∧ Below W.heap.size W w') (by rintro e w' ⟨rfl, rfl⟩; exact ⟨rfl, Below.refl _ _⟩)).mono ?_
    rintro e w1 ⟨rfl, hb⟩
    exact ⟨_, rfl, by simp only [Rep], hb⟩
  · cases hF

def F_CloneI : List D → Option D
  | [x0] => (asInts x0).bind fun l => if l.length ≤ 3000000 then some (intsD l) else none
  | _ => none
theorem N_CloneI : CallNew Tryz.prog 73 F_CloneI := by
  refine ⟨⟨_, Tryz.func73, by decide, rfl⟩, fun ds d hF S vs W hS hv => ?_⟩
  unfold F_CloneI at hF
  split at hF
  · rename_i x0
    rcases hd0 : asInts x0 with _ | l
    · rw [hd0] at hF; cases hF
    rw [hd0, Option.bind_some] at hF
    split at hF
    rotate_left
    · cases hF
    rename_i G
    cases hF
    simp only [RepA] at hv
    obtain ⟨v_l, t0, rfl, r0, rfl⟩ := hv
    have h_l := asInts_ok hd0 r0
    refine (Clone_any l v_l W S hS h_l (by omega)).mono ?_
    rintro e w1 ⟨u, rfl, hu, hb⟩
    exact ⟨u, rfl, intsD_rep (ownsRow_ints hu), hb⟩
  · cases hF
def fs12a : List Entry := (26, true, liftF F_Find) :: (22, true, liftF F_Compare) :: (64, true, liftF F_RefCompare) :: (46, true, liftF F_cmpI) :: (73, true, liftN F_CloneI) :: (108, true, liftN F_Replace) :: fs08
theorem fs12a_ok : ∀ p ∈ fs12a, EntryOk Tryz.prog p := entries_cons (entry_lift C_Find) <| entries_cons (entry_lift C_Compare) <| entries_cons (entry_lift C_RefCompare) <| entries_cons (entry_lift C_cmpI) <| entries_cons (entry_new N_CloneI) <| entries_cons (entry_new N_Replace) <| fs08_ok
def T12a : Tab := ⟨fs12a, noYl⟩
theorem T12a_ok : TabOk Tryz.prog T12a := tabOk_of fs12a_ok
end Go.Proofs.YtinnbafplhcnpaaGreat
end

section
namespace Go.Proofs.YtinnbafplhcnpaaGreat
open Go.RowKit
set_option linter.unusedVariables false
set_option linter.unusedSimpArgs false

/- Operations. -/
/- Numbers without a sign. -/
/-- A number's lowest eight bits. -/
def b8 (n : Int) : UInt8 := UInt8.ofNat (n % 256).toNat
/- How they are spelt. -/
@[simp] theorem cells_agg (cs : List D) : cellsD (.agg cs) = some cs := rfl
@[simp] theorem cells_int (k : IntKind) (n : Int) : cellsD (.v (.int k n)) = some [.v (.int k n)] := rfl
@[simp] theorem cells_nodes (l : List Nd) : cellsD (nodesD l) = some [nodesD l] := rfl
@[simp] theorem cells_ints (l : List Int) : cellsD (intsD l) = some [intsD l] := rfl
@[simp] theorem cells_hs (i n : Nat) : cellsD (.hs i n) = some [.hs i n] := rfl
@[simp] theorem cells_hp (i n : Nat) : cellsD (.hp i n) = some [.hp i n] := rfl
@[simp] theorem cells_clo (f : Fn) (a b : List D) : cellsD (.clo f a b) = some [.clo f a b] := rfl
@[simp] theorem ext0 (a : D) (l : List D) : extractD (.tup (a :: l)) 0 = some a := rfl
@[simp] theorem ext1 (a b : D) (l : List D) : extractD (.tup (a :: b :: l)) 1 = some b := rfl
@[simp] theorem ext2 (a b c : D) (l : List D) : extractD (.tup (a :: b :: c :: l)) 2 = some c := rfl
@[simp] theorem nilD_hp (i o : Nat) : nilD (.hp i o) = some (.hp i o) := rfl
/- Objects that are surely the same. -/
theorem eqR_ints : ∀ l : List Int, eqR (l.map oneI) (l.map oneI) = true
  | [] => rfl
  | n :: r => by simp [eqR, eqR_ints r, oneI, eqL, eqB, eqV]
theorem eqR_nodes : ∀ l : List Nd, eqR (l.map nodeD) (l.map nodeD) = true
  | [] => rfl
  | n :: r => by simp [eqR, eqR_nodes r, nodeD, eqL, eqB, eqV]
@[simp] theorem eqB_int (k : IntKind) (n : Int) : eqB (.v (.int k n)) (.v (.int k n)) = true := by simp [eqB, eqV]
@[simp] theorem eqB_bool (b : Bool) : eqB (.v (.bool b)) (.v (.bool b)) = true := by simp [eqB, eqV]
@[simp] theorem eqB_ints (l : List Int) : eqB (intsD l) (intsD l) = true := by simp [intsD, eqB, eqR_ints]
@[simp] theorem eqB_nodes (l : List Nd) : eqB (nodesD l) (nodesD l) = true := by simp [nodesD, eqB, eqR_nodes]
@[simp] theorem eqB_hs (i n : Nat) : eqB (.hs i n) (.hs i n) = true := by simp [eqB]
@[simp] theorem eqB_hp (i n : Nat) : eqB (.hp i n) (.hp i n) = true := by simp [eqB]
@[simp] theorem eqB_nil : eqB (.v (.slice none 0 0)) (.v (.slice none 0 0)) = true := rfl
@[simp] theorem eqL_nil : eqL [] [] = true := rfl
@[simp] theorem eqL_cons (a b : D) (r s : List D) : eqL (a :: r) (b :: s) = (eqB a b && eqL r s) := by simp [eqL]
/- Numbers without a sign, as they are spelt. -/
@[simp] theorem cellOk_nilFunc : cellOk (D.v Value.nilFunc) = true := rfl
end Go.Proofs.YtinnbafplhcnpaaGreat
end

section
namespace Go.Proofs.YtinnbafplhcnpaaGreat
open Go.RowKit
set_option linter.unusedVariables false
set_option linter.unusedSimpArgs false

/-- A slice d of n elements of the call's own, or nil: its cells are cs; its row lies at B or behind. -/
def Buf (e : TypeId) (sz : Nat) (H : Heap) (B : Nat) (d : D) (n : Nat) (cs : List D) : Prop :=
  (d = .v (.slice none 0 0) ∧ n = 0 ∧ cs = []) ∨ ∃ r, B ≤ r ∧ d = .hs r n ∧ H[r]? = some (.cells e sz cs) ∧ cs.length = n * sz
/-- What is ahead of B stays as it was. -/
def Kp (B : Nat) (H H' : Heap) : Prop := H.length ≤ H'.length ∧ ∀ k, k < B → H'[k]? = H[k]?
theorem Kp.refl (B : Nat) (H : Heap) : Kp B H H := ⟨Nat.le_refl _, fun _ _ => rfl⟩
theorem Kp.trans {B : Nat} {H H' H'' : Heap} (h : Kp B H H') (k : Kp B H' H'') : Kp B H H'' := ⟨Nat.le_trans h.1 k.1, fun i hi => (k.2 i hi).trans (h.2 i hi)⟩
theorem Kp.mono {B C : Nat} {H H' : Heap} (h : Kp B H H') (hc : C ≤ B) : Kp C H H' := ⟨h.1, fun i hi => h.2 i (by omega)⟩
theorem Kp.app (B : Nat) (H t : Heap) (h : B ≤ H.length) : Kp B H (H ++ t) := ⟨by simp, fun k hk => List.getElem?_append_left (by omega)⟩
theorem Kp.set {B : Nat} (H : Heap) (i : Nat) (o : HO) (h : B ≤ i) : Kp B H (H.set i o) := ⟨by simp, fun k hk => by rw [List.getElem?_set_ne (by omega)]⟩
theorem Buf.nil (e : TypeId) (sz : Nat) (H : Heap) (B : Nat) : Buf e sz H B (.v (.slice none 0 0)) 0 [] := .inl ⟨rfl, rfl, rfl⟩
theorem Buf.len {e : TypeId} {sz : Nat} {H : Heap} {B : Nat} {d : D} {n : Nat} {cs : List D} (h : Buf e sz H B d n cs) : cs.length = n * sz := by
  rcases h with ⟨_, rfl, rfl⟩ | ⟨_, _, _, _, h⟩
  · simp
  · exact h
theorem Buf.ok {e : TypeId} {sz : Nat} {H : Heap} {B : Nat} {d : D} {n : Nat} {cs : List D} (h : Buf e sz H B d n cs) : cellOk d = true := by
  rcases h with ⟨rfl, _, _⟩ | ⟨_, _, rfl, _, _⟩ <;> rfl
theorem Buf.lenH {e : TypeId} {sz : Nat} {H : Heap} {B : Nat} {d : D} {n : Nat} {cs : List D} (h : Buf e sz H B d n cs) : lenH .sl d = some (iD n) := by
  rcases h with ⟨rfl, rfl, _⟩ | ⟨_, _, rfl, _, _⟩ <;> rfl
/-- The row stays where its object does. -/
theorem Buf.keep {e : TypeId} {sz : Nat} {H H' : Heap} {B : Nat} {d : D} {n : Nat} {cs : List D} (h : Buf e sz H B d n cs) (k : ∀ r m, d = .hs r m → H'[r]? = H[r]?) : Buf e sz H' B d n cs := by
  rcases h with h | ⟨r, h1, h2, h3, h4⟩
  · exact .inl h
  · exact .inr ⟨r, h1, h2, (k r n h2).trans h3, h4⟩
theorem Buf.app {e : TypeId} {sz : Nat} {H : Heap} {B : Nat} {d : D} {n : Nat} {cs : List D} (h : Buf e sz H B d n cs) (t : Heap) : Buf e sz (H ++ t) B d n cs := by
  rcases h with h | ⟨r, h1, h2, h3, h4⟩
  · exact .inl h
  · exact .inr ⟨r, h1, h2, by rw [List.getElem?_append_left (List.getElem?_eq_some_iff.1 h3).1]; exact h3, h4⟩
theorem Buf.set {e : TypeId} {sz : Nat} {H : Heap} {B : Nat} {d : D} {n : Nat} {cs : List D} (h : Buf e sz H B d n cs) (i : Nat) (o : HO) (hi : i < B) : Buf e sz (H.set i o) B d n cs := by
  rcases h with h | ⟨r, h1, h2, h3, h4⟩
  · exact .inl h
  · exact .inr ⟨r, h1, h2, by rw [List.getElem?_set_ne (by omega)]; exact h3, h4⟩
theorem Buf.lt {e : TypeId} {sz : Nat} {H : Heap} {B : Nat} {n r m : Nat} {cs : List D} (h : Buf e sz H B (.hs r m) n cs) : B ≤ r ∧ r < H.length := by
  rcases h with ⟨h, _⟩ | ⟨r', h1, h2, h3, h4⟩
  · cases h
  · cases h2; exact ⟨h1, (List.getElem?_eq_some_iff.1 h3).1⟩
/-- An append: what is held then; what stays. -/
theorem app_buf {e : TypeId} {sz : Nat} {H : Heap} {B : Nat} {d : D} {n m : Nat} {cs new : List D} (h : Buf e sz H B d n cs) (hsz : 0 < sz) (hn : new.length = m * sz) (hok : new.all cellOk = true) (hb : cs.length + new.length ≤ 4000000) (hB : B ≤ H.length) :
    ∃ d' H', appH e sz d new H = some (d', H') ∧ Buf e sz H' B d' (n + m) (cs ++ new) ∧ Kp B H H' ∧ (∀ k, k < H.length → (∀ q, d ≠ .hs k q) → H'[k]? = H[k]?) ∧ (d' = d ∨ ∃ q, d' = .hs H.length q) := by
  have hdiv : new.length / sz = m := by rw [hn]; exact Nat.mul_div_cancel _ hsz
  have hc : ¬ (sz = 0 ∨ (!new.all cellOk) = true) := by rw [hok]; simp; omega
  rcases h with ⟨rfl, rfl, rfl⟩ | ⟨r, h1, rfl, h3, h4⟩
  · simp only [List.length_nil, Nat.zero_add] at hb
    by_cases h0 : new.length = 0
    · obtain rfl : new = [] := List.length_eq_zero_iff.1 h0
      have hm : m = 0 := by
        have : m * sz = 0 := by simpa using hn.symm
        rcases Nat.mul_eq_zero.1 this with h | h
        · exact h
        · omega
      subst hm
      exact ⟨_, H, by unfold appH; rw [if_neg hc]; simp, .inl ⟨rfl, rfl, rfl⟩, Kp.refl _ _, fun _ _ _ => rfl, .inl rfl⟩
    · refine ⟨.hs H.length m, H ++ [.cells e sz new], by unfold appH; rw [if_neg hc]; simp only; rw [if_neg h0, if_pos hb, hdiv], .inr ⟨H.length, hB, by simp, by simp, by simpa using hn⟩, Kp.app _ _ _ hB, fun k hk _ => List.getElem?_append_left hk, .inr ⟨_, rfl⟩⟩
  · refine ⟨.hs H.length (n + m), (H.set r .dead) ++ [.cells e sz (cs ++ new)], ?_, .inr ⟨H.length, hB, rfl, ?_, ?_⟩, ?_, ?_, .inr ⟨_, rfl⟩⟩
    · unfold appH
      rw [if_neg hc]
      simp only [h3]
      rw [if_pos ⟨trivial, trivial, h4, hb⟩, hdiv]
    · have : H.length = (H.set r .dead).length := by simp
      rw [this, List.getElem?_append_right (Nat.le_refl _)]; simp
    · rw [List.length_append, h4, hn, Nat.add_mul]
    · refine ⟨by simp, fun k hk => ?_⟩
      have hr := (List.getElem?_eq_some_iff.1 h3).1
      rw [List.getElem?_append_left (by simp; omega), List.getElem?_set_ne (by omega)]
    · intro k hk hq
      rw [List.getElem?_append_left (by simpa using hk), List.getElem?_set_ne (fun e => hq n (by rw [e]))]
/-- The cell of an object. -/
theorem load_cell0 (H : Heap) (w : Nat) (t : TypeId) (sz : Nat) (d : D) (r : List D) (h : H[w]? = some (.cells t sz (d :: r))) : loadH none H (.hp w 0) = some d := by simp [h]
theorem load_cellN (H : Heap) (w i : Nat) (t : TypeId) (sz : Nat) (cs : List D) (d : D) (h : H[w]? = some (.cells t sz cs)) (hd : cs[i]? = some d) : loadH none H (.hp w i) = some d := by
  simp [h, List.getElem?_drop, hd]
theorem set_cellN (H : Heap) (w i : Nat) (t : TypeId) (sz : Nat) (cs : List D) (d : D) (h : H[w]? = some (.cells t sz cs)) (hi : i < cs.length) (hc : cellsD d = some [d]) (hd : cellOk d = true) : setH 1 (.hp w i) d H = some (.v undef, H.set w (.cells t sz (cs.set i d))) := by
  have e : cs.take i ++ [d] ++ cs.drop (i + 1) = cs.set i d := by rw [List.set_eq_take_append_cons_drop, if_pos hi]; simp
  simp only [setH, storeH, hc, h, List.length_singleton]
  rw [if_pos ⟨trivial, by omega, by simp [hd]⟩, e]
  rfl
theorem Buf.cells {e : TypeId} {sz : Nat} {H : Heap} {B : Nat} {d : D} {n : Nat} {cs : List D} (h : Buf e sz H B d n cs) : cellsD d = some [d] := by
  rcases h with ⟨rfl, _, _⟩ | ⟨_, _, rfl, _, _⟩ <;> rfl
end Go.Proofs.YtinnbafplhcnpaaGreat
end

section
namespace Go.Proofs.YtinnbafplhcnpaaGreat
open Go.RowKit
set_option linter.unusedVariables false
set_option linter.unusedSimpArgs false

def intsC (l : List Int) : List D := l.map fun n => iD n
theorem intsC_len (l : List Int) : (intsC l).length = l.length := by simp [intsC]
theorem intsC_app (a b : List Int) : intsC (a ++ b) = intsC a ++ intsC b := by simp [intsC]
theorem intsC_ok (l : List Int) : (intsC l).all cellOk = true := by
  induction l with
  | nil => rfl
  | cons x r ih => simp only [intsC, List.map_cons, List.all_cons] at ih ⊢; rw [ih]; rfl
theorem mapM_intsC (H : Heap) (n : Nat) (l : List Int) : (intsC l).mapM (derefN H n) = some (intsC l) := by
  induction l with
  | nil => rfl
  | cons x r ih =>
    have e : intsC (x :: r) = iD x :: intsC r := rfl
    rw [e, List.mapM_cons, derefN_pure H n _ rfl, ih]; rfl
theorem chunks_intsC (l : List Int) : chunks 1 l.length (intsC l) = l.map oneI := by
  induction l with
  | nil => rfl
  | cons x r ih =>
    have e : intsC (x :: r) = iD x :: intsC r := rfl
    rw [e, List.length_cons, chunks, List.map_cons]
    simp only [List.take_succ_cons, List.take_zero, List.drop_succ_cons, List.drop_zero, ih, oneI]
theorem Buf.ints {e : TypeId} {H : Heap} {B : Nat} {d : D} {l : List Int} (h : Buf e 1 H B d l.length (intsC l)) (n : Nat) : ∃ d', derefN H (n + 1) d = some d' ∧ asInts d' = some l := by
  rcases h with ⟨rfl, h1, _⟩ | ⟨r, h1, rfl, h3, h4⟩
  · have : l = [] := List.length_eq_zero_iff.1 h1
    subst this
    exact ⟨_, derefN_pure H (n + 1) _ rfl, rfl⟩
  · refine ⟨intsD l, ?_, asInts_intsD l⟩
    simp only [derefN, h3]
    rw [if_pos (by rw [intsC_len]; omega), List.take_of_length_le (by rw [intsC_len]; omega), mapM_intsC, Option.map_some, chunks_intsC]; rfl
end Go.Proofs.YtinnbafplhcnpaaGreat
end

section
namespace Go.Proofs.YtinnbafplhcnpaaGreat
open Go.RowKit
set_option linter.unusedVariables false
set_option linter.unusedSimpArgs false

/-- As many kids at each place. -/
def Alike (l l' : List Nd) : Prop := l.map ar = l'.map ar
theorem Alike.len {l l' : List Nd} (h : Alike l l') : l.length = l'.length := by
  have := congrArg List.length h
  simpa using this
theorem Alike.drop {l l' : List Nd} (h : Alike l l') (k : Nat) : Alike (l.drop k) (l'.drop k) := by
  unfold Alike at h ⊢
  rw [List.map_drop, List.map_drop, h]
end Go.Proofs.YtinnbafplhcnpaaGreat
end

section
namespace Go.Proofs.YtinnbafplhcnpaaGreat

section
variable {l r : List Nd} {k : Nat}
theorem whole_of (h : scan 1 r = some r.length) : endv r 0 = r.length := by
  have := endv_some r 0 r.length (by rw [List.drop_zero]; exact h)
  have e : endv r 0 = ((0 + r.length : Nat) : Int) := this
  rw [e, Nat.zero_add]
end
end Go.Proofs.YtinnbafplhcnpaaGreat
end

section
namespace Go.Proofs.YtinnbafplhcnpaaGreat
open Go.RowKit
set_option linter.unusedVariables false
set_option linter.unusedSimpArgs false

/-- A delta: where, by which operator, to what. -/
structure Dl where
  path : List Int
  op : Int
  n : Int
  deriving DecidableEq, Inhabited
/-- Is the node, and the number, as an operator asks? -/
def mayV (x : Nd) (op n : Int) : Prop :=
  (op = 1 ∧ 7 ≤ x.1 ∧ x.1 ≤ 11 ∧ 7 ≤ n ∧ n ≤ 11) ∨ (op = 2 ∧ 12 ≤ x.1 ∧ x.1 ≤ 17 ∧ 12 ≤ n ∧ n ≤ 17) ∨ (op = 3 ∧ 18 ≤ x.1 ∧ x.1 ≤ 19 ∧ 18 ≤ n ∧ n ≤ 19) ∨
  (op = 4 ∧ (x.1 = 1 ∨ (x.1 = 2 ∧ 0 ≤ n ∧ n ≤ 1))) ∨ (op = 5 ∧ (x.1 = 21 ∨ x.1 = 22 ∨ x.1 = 23 ∨ x.1 = 24 ∨ x.1 = 25) ∧ n = 0) ∨
  (op = 6 ∧ (x.1 = 23 ∨ x.1 = 24) ∧ n = 0) ∨ (op = 7 ∧ x.1 = 25)
instance (x : Nd) (op n : Int) : Decidable (mayV x op n) := by unfold mayV; infer_instance
/- How many kids nodes have. -/
theorem ar_lim {t n : Int} {a b : Int} (hl : lim t n = (a, b)) (ht : t ≠ 1) (h : 0 ≤ ar (t, n)) : ar (t, n) = b := by
  unfold ar at h ⊢
  rw [if_neg ht] at h ⊢
  simp only [hl] at h ⊢
  split at h
  · omega
  · rename_i hh; rw [if_neg hh]
theorem ar_ret {n : Int} (h : 0 ≤ ar (25, n)) : ar (25, n) = 1 := ar_lim (a := 0) (b := 1) rfl (by decide) h
section
variable {l : List Nd} {k : Nat} {op n : Int}
theorem at_ar (hE : 0 ≤ endv l k) : ∃ hk : k < l.length, 0 ≤ ar l[k] ∧ arAt l k = ar l[k] := by
  have hk : k < l.length := by have := (endv_in l k hE).2; simpa using this
  have := endv_ar l k hE
  rw [arAt_in _ _ hk] at this
  exact ⟨hk, this, arAt_in _ _ hk⟩
/-- The first kid. -/
theorem first_kid (hE : 0 ≤ endv l k) (h : 0 < arAt l k) : 0 ≤ endv l ((k + 1 : Nat) : Int) ∧ endv l ((k + 1 : Nat) : Int) ≤ endv l k ∧ k + 1 < l.length := by
  have := kth_range l k hE 0 (by omega)
  have h3 : kth l (k + 1) 0 = ((k + 1 : Nat) : Int) := by simp [kth]
  rw [h3] at this
  obtain ⟨_, _, a, b⟩ := this
  have := (endv_in l _ a).2
  exact ⟨a, b, by simpa using this⟩
theorem kid_one (hE : 0 ≤ endv l k) (h : arAt l k = 1) : endv l ((k + 1 : Nat) : Int) = endv l k := by
  have h1 := kth_last l k hE
  rw [h, show (1 : Int).toNat = 0 + 1 from rfl] at h1
  have h2 : endv l (kth l (k + 1) 0) = endv l k := h1
  have h3 : kth l (k + 1) 0 = ((k + 1 : Nat) : Int) := by simp [kth]
  rw [← h3]; exact h2
theorem part_whole {q : Nat} (h : 0 ≤ endv l q) : endv (partV l q) 0 = (partV l q).length := by
  obtain ⟨m, hs, he⟩ := endv_get l q h
  have hle := scan_le _ _ _ hs
  have e : partV l q = (l.drop q).take m := by
    rw [partV, if_neg (by omega), he]
    simp only [Int.toNat_natCast]
    rw [List.drop_take]
    congr 1
    omega
  have := scan_take 1 _ m hs []
  rw [List.append_nil] at this
  refine whole_of ?_
  rw [e, this, List.length_take, Nat.min_eq_left hle]
end
end Go.Proofs.YtinnbafplhcnpaaGreat
end

section
namespace Go.Proofs.YtinnbafplhcnpaaGreat
open Go.RowKit
set_option linter.unusedVariables false
set_option linter.unusedSimpArgs false

def dlC (d : Dl) : List D := [intsD d.path, iD d.op, iD d.n]
def dlD (d : Dl) : D := .agg (dlC d)
def asDlC : List D → Option Dl
  | [a, b, c] => (asInts a).bind fun p => (asInt b).bind fun o => (asInt c).map fun n => ⟨p, o, n⟩
  | _ => none
def asDl : D → Option Dl
  | .agg cs => asDlC cs
  | _ => none
@[simp] theorem asDl_dlD (d : Dl) : asDl (dlD d) = some d := by simp [asDl, dlD, dlC, asDlC]
theorem imp_dlC {cs : List D} {d : Dl} (h : asDlC cs = some d) : ImpL cs (dlC d) := by
  unfold asDlC at h
  split at h
  · rename_i a b c
    obtain ⟨p, h1, h⟩ := Option.bind_eq_some_iff.1 h
    obtain ⟨o, h2, h⟩ := Option.bind_eq_some_iff.1 h
    obtain ⟨n, h3, h⟩ := Option.map_eq_some_iff.1 h
    subst h
    exact .cons (imp_ints h1) (.cons (intT.ok _ _ h2) (.cons (intT.ok _ _ h3) .nil))
  · cases h
def dlT : Dec Dl := ⟨dlD, asDl, asDl_dlD, fun d a h => by
  unfold asDl at h
  split at h
  · exact Imp.agg (imp_dlC h)
  · cases h⟩
@[simp] theorem pure_dl (d : Dl) : pureD (dlD d) = true := rfl
@[simp] theorem pureL_dlC (d : Dl) : pureL (dlC d) = true := rfl
@[simp] theorem box_dl (t : TypeId) (d : Dl) (H : Heap) : boxH t (dlD d) H = some (.hp H.length 0, H ++ [.cells t 3 [intsD d.path, iD d.op, iD d.n]]) := rfl
theorem dl_agg (d : Dl) : D.agg [intsD d.path, iD d.op, iD d.n] = dlD d := rfl
/-- A program, at a node, to a number. -/
structure Chg where
  p : Pg
  k : Int
  n : Int
  deriving DecidableEq, Inhabited
def chC (c : Chg) : List D := [iD c.p.params, intsD c.p.vars, nodesD c.p.body, iD c.k, iD c.n]
def chD (c : Chg) : D := .agg (chC c)
def asChC : List D → Option Chg
  | [a, b, c, d, e] => (asInt a).bind fun m => (asInts b).bind fun vs => (asNodes c).bind fun l => (asInt d).bind fun k => (asInt e).map fun n => ⟨⟨m, vs, l⟩, k, n⟩
  | _ => none
def asCh : D → Option Chg
  | .agg cs => asChC cs
  | _ => none
@[simp] theorem asCh_chD (c : Chg) : asCh (chD c) = some c := by simp [asCh, chD, chC, asChC]
theorem imp_chC {cs : List D} {c : Chg} (h : asChC cs = some c) : ImpL cs (chC c) := by
  unfold asChC at h
  split at h
  · rename_i a b x d e
    obtain ⟨m, h1, h⟩ := Option.bind_eq_some_iff.1 h
    obtain ⟨vs, h2, h⟩ := Option.bind_eq_some_iff.1 h
    obtain ⟨l, h3, h⟩ := Option.bind_eq_some_iff.1 h
    obtain ⟨k, h4, h⟩ := Option.bind_eq_some_iff.1 h
    obtain ⟨n, h5, h⟩ := Option.map_eq_some_iff.1 h
    subst h
    exact .cons (intT.ok _ _ h1) (.cons (imp_ints h2) (.cons (imp_nodes h3) (.cons (intT.ok _ _ h4) (.cons (intT.ok _ _ h5) .nil))))
  · cases h
def chT : Dec Chg := ⟨chD, asCh, asCh_chD, fun d a h => by
  unfold asCh at h
  split at h
  · exact Imp.agg (imp_chC h)
  · cases h⟩
@[simp] theorem pure_ch (c : Chg) : pureD (chD c) = true := rfl
@[simp] theorem pureL_chC (c : Chg) : pureL (chC c) = true := rfl
@[simp] theorem box_ch (t : TypeId) (c : Chg) (H : Heap) : boxH t (chD c) H = some (.hp H.length 0, H ++ [.cells t 5 [iD c.p.params, intsD c.p.vars, nodesD c.p.body, iD c.k, iD c.n]]) := rfl
end Go.Proofs.YtinnbafplhcnpaaGreat
end

section
namespace Go.Proofs.YtinnbafplhcnpaaGreat
open Go.RowKit
set_option linter.unusedVariables false
set_option maxRecDepth 100000

def kp_cmp_Or_int_ : List Nat := [2, 3, 6, 7, 8]
theorem sh_cmp_Or_int_ (n : Nat) (x0 : D) (h : Heap) : textK Tryz.prog T12a kp_cmp_Or_int_ n Tryz.f90 [x0] h =
(thn (lenH .sl x0) fun y0 =>
leaveK (loopF Tryz.prog T12a kp_cmp_Or_int_ n Tryz.f90 0 [(iD 0), (iD 0), x0, y0, (iD 0)] h) (fun j1 s2 h3 =>
condN j1 0
(some ((s2.getD 1 .undef), h3))
(none)) (fun s2 h3 =>
some ((s2.getD 0 .undef), h3))) := by kernel_rfl

theorem st_cmp_Or_int__0 (n : Nat) (s0 s1 s2 s3 s4 : D) (h : Heap) : stepF Tryz.prog T12a kp_cmp_Or_int_ n Tryz.f90 0 [s0, s1, s2, s3, s4] h =
(thn (binK .int .lss s4 s3) fun y0 =>
condK y0
(thn (idxH 1 s2 s4) fun y1 =>
thn (loadH none h y1) fun y2 =>
thn (binK .int .neq y2 s1) fun y3 =>
condK y3
(some (.ret, [y2, s1, s2, s3, s4], h))
(thn (binK .int .add s4 (iD 1)) fun y4 =>
some (.normal, [s0, s1, s2, s3, y4], h)))
(some ((.exit 0), [s0, s1, s2, s3, s4], h))) := by kernel_rfl

def kp_delta_change__node : List Nat := []
theorem sh_delta_change__node (n : Nat) (x0 : D) (h : Heap) : textK Tryz.prog T12a kp_delta_change__node n Tryz.f106 [x0] h =
(thnH (boxH 97 x0 h) fun y0 h1 =>
thnH (allocH 54 [(iD 0), (iD 0)] h1) fun y2 h3 =>
thn (fieldAtH 0 y0) fun y4 =>
thn (fieldAtH 2 y4) fun y5 =>
thn (loadH none h3 y5) fun y6 =>
thn (fieldAtH 3 y0) fun y7 =>
thn (loadH none h3 y7) fun y8 =>
thn (idxH 2 y6 y8) fun y9 =>
thn (loadH (some 2) h3 y9) fun y10 =>
thnH (setH 2 y2 y10 h3) fun y11 h12 =>
thn (loadH (some 2) h12 y2) fun y13 =>
some (y13, h12)) := by kernel_rfl

def kp_offshootref12_less : List Nat := []
theorem sh_offshootref12_less (n : Nat) (x0 x1 : D) (h : Heap) : textK Tryz.prog T12a kp_offshootref12_less n Tryz.f65 [x0, x1] h =
(thn (binK .int .lss x0 x1) fun y0 =>
condK y0
(some ((iD (-1)), h))
(thn (binK .int .gtr x0 x1) fun y1 =>
condK y1
(some ((iD 1), h))
(some ((iD 0), h)))) := by kernel_rfl

end Go.Proofs.YtinnbafplhcnpaaGreat
end

section
namespace Go.Proofs.YtinnbafplhcnpaaGreat
open Go.RowKit
set_option linter.unusedVariables false

def textG (P : Program) (T : Tab) (kp : List Nat) (n : Nat) (f : FuncId) : List D → Heap → Option (D × Heap) := fun ds H =>
  match P.funcs[f]? with
  | some fn => textK P T kp n fn ds H
  | none => none
theorem textG_eq {P : Program} {T : Tab} {kp : List Nat} {n : Nat} {f : FuncId} {fn : Func} (h : P.funcs[f]? = some fn) (ds : List D) (H : Heap) : textG P T kp n f ds H = textK P T kp n fn ds H := by unfold textG; rw [h]
theorem hcall_G {P : Program} {T : Tab} {kp : List Nat} {n : Nat} (hT : TabOk P T) (hm : P.follows .mixedOrders = true) {f : FuncId} {fn : Func} (hf : P.funcs[f]? = some fn) (hb : fn.body.isSome = true) (hname : fn.name ≠ "runtime.NumGoroutine") : HCallOk P f (textG P T kp n f) :=
  hcall_text (kp := kp) hT hm hf hb hname fun ds H d H' h => ⟨n, by rw [textG_eq hf] at h; exact h⟩
end Go.Proofs.YtinnbafplhcnpaaGreat
end

section
namespace Go.Proofs.YtinnbafplhcnpaaGreat
open Go.RowKit
set_option linter.unusedVariables false
set_option linter.unusedSimpArgs false

/-- k rounds that keep an invariant of the slots and the objects, and a last one. -/
theorem loopF_invS {P : Program} {T : Tab} {kp : List Nat} {fn : Func} {li : Nat} (Inv : Nat → List D → Heap → Prop) (Q : Lv × List D × Heap → Prop) (k n : Nat)
    (hstep : ∀ j s H, j < k → Inv j s H → ∃ s' H', stepF P T kp n fn li s H = some (.normal, s', H') ∧ Inv (j + 1) s' H') (hend : ∀ s H, Inv k s H → ∃ r, stepF P T kp n fn li s H = some r ∧ r.1 ≠ .normal ∧ Q r) (hn : k < n) {s : List D} {H : Heap} (h : Inv 0 s H) :
    ∃ r, loopF P T kp n fn li s H = some r ∧ Q r := by
  have key : ∀ (m i : Nat) (s : List D) (H : Heap), i + m = k → Inv i s H → ∀ q, m < q → ∃ r, iterS (stepF P T kp n fn li) q s H = some r ∧ Q r := by
    intro m
    induction m with
    | zero =>
      intro i s H hi hI q hq
      obtain ⟨q, rfl⟩ : ∃ x, q = x + 1 := ⟨q - 1, by omega⟩
      obtain rfl : i = k := by omega
      obtain ⟨⟨lv, s', H'⟩, h1, h2, h3⟩ := hend s H hI
      refine ⟨_, ?_, h3⟩
      simp only [iterS, h1]
      cases lv with
      | normal => exact absurd rfl h2
      | _ => rfl
    | succ m ih =>
      intro i s H hi hI q hq
      obtain ⟨q, rfl⟩ : ∃ x, q = x + 1 := ⟨q - 1, by omega⟩
      obtain ⟨s', H', h1, h2⟩ := hstep i s H (by omega) hI
      rw [iterS_go h1]
      exact ih (i + 1) s' H' (by omega) h2 q (by omega)
  exact key k 0 s H (by omega) h n hn
theorem alloc_node (t : TypeId) (H : Heap) : allocH t [iD 0, iD 0] H = some (.hp H.length 0, H ++ [.cells t 2 [iD 0, iD 0]]) := rfl
theorem set_node (H : Heap) (i : Nat) (t : TypeId) (a b : D) (x : Nd) (h : H[i]? = some (.cells t 2 [a, b])) : setH 2 (.hp i 0) (.agg (nodeD x)) H = some (.v undef, H.set i (.cells t 2 (nodeD x))) := by
  simp [setH, storeH, h, nodeD, cellsD]
section
variable {α β γ δ : Type} {A : Dec α} {B : Dec β} {C : Dec γ} {E : Dec δ}
end
end Go.Proofs.YtinnbafplhcnpaaGreat
end

section
namespace Go.Proofs.YtinnbafplhcnpaaGreat
open Go.RowKit
theorem mixed : Tryz.prog.follows .mixedOrders = true := by kernel_rfl
end Go.Proofs.YtinnbafplhcnpaaGreat
end

section
namespace Go.Proofs.YtinnbafplhcnpaaGreat
open Go.RowKit
set_option linter.unusedVariables false
set_option linter.unusedSimpArgs false

theorem find_pure (l : List Nd) (p : List Int) (H : Heap) (hl : l.length ≤ 3000000) (hp : p.length ≤ 3000000) : liftF F_Find [nodesD l, intsD p] H = some (iD (findv l p), H) := by
  rw [liftF_pure _ _ _ rfl]; simp [F_Find, hl, hp]
theorem compare_pure (a b : List Int) (H : Heap) (ha : a.length ≤ 3000000) (hb : b.length ≤ 3000000) : liftF F_Compare [intsD a, intsD b] H = some (iD (cmpL a b), H) := by
  rw [liftF_pure _ _ _ rfl]; simp [F_Compare, ha, hb]
theorem refCompare_pure (a b : List Int) (H : Heap) (ha : a.length ≤ 3000000) (hb : b.length ≤ 3000000) : liftF F_RefCompare [intsD a, intsD b] H = some (iD (cmpL a b), H) := by
  rw [liftF_pure _ _ _ rfl]; simp [F_RefCompare, ha, hb]
theorem cmpI_pure (x y : Int) (H : Heap) : liftF F_cmpI [iD x, iD y] H = some (iD (cmpI x y), H) := by
  rw [liftF_pure _ _ _ rfl]; simp [F_cmpI, asInt]
/-- The first one that is not 0. -/
def orV : List Int → Int
  | [] => 0
  | x :: r => if x ≠ 0 then x else orV r
theorem orV_skip : ∀ (l : List Int) (i : Nat), (∀ j, j < i → l.getD j 0 = 0) → orV l = orV (l.drop i)
  | l, 0, _ => by simp
  | [], i + 1, _ => by simp
  | x :: r, i + 1, h => by
    have h0 : x = 0 := by simpa using h 0 (by omega)
    rw [orV, if_neg (by omega), List.drop_succ_cons]
    exact orV_skip r i fun j hj => by simpa using h (j + 1) (by omega)
def F_cmpOr : List D → Option D := F1 intsT fun l => if l.length ≤ 1000000 then some (iD (orV l)) else none
theorem C_cmpOr : CallOk Tryz.prog 90 F_cmpOr := call1 (kp := kp_cmp_Or_int_) T12a_ok mixed Tryz.func90 (by kernel_rfl) (by decide) fun l d h => by
  split at h
  case isFalse => cases h
  rename_i hl
  cases h
  refine ⟨l.length + 1, _, ?_, Imp.refl _⟩
  show outD (textK _ _ _ _ _ [intsD l] []) = _
  rw [sh_cmp_Or_int_]
  have hs := loopF_scan (P := Tryz.prog) (T := T12a) (kp := kp_cmp_Or_int_) (fn := Tryz.f90) (li := 0) (fun i => [iD 0, iD 0, intsD l, iD l.length, iD i]) [] l.length (fun i => decide (l.getD i 0 = 0))
    (fun i => (.ret, [iD (l.getD i 0), iD 0, intsD l, iD l.length, iD i], [])) (.exit 0, [iD 0, iD 0, intsD l, iD l.length, iD l.length], [])
    (fun i => by intro e; cases e) (by intro e; cases e) 0 (l.length + 1) (Nat.zero_le _) (by omega)
    (fun i _ hi hp => by
      have e1 := intD_add (i : Int) 1 (by omega) (by omega)
      have h4 : (i : Int) < l.length := by omega
      simp only [decide_eq_true_eq, getD_in _ i 0 hi] at hp
      rw [st_cmp_Or_int__0]
      simp [h4, idx_intsN _ _ hi, hp, e1])
    (fun i _ hi hp => by
      have h4 : (i : Int) < l.length := by omega
      simp only [decide_eq_false_iff_not, getD_in _ i 0 hi] at hp
      rw [st_cmp_Or_int__0]
      simp [h4, idx_intsN _ _ hi, hp]
      simp [hi])
    (by rw [st_cmp_Or_int__0]; simp)
  rcases hs with ⟨q1, q2⟩ | ⟨i, q0, q1, q2, q3, q4⟩
  · have hv : orV l = 0 := by
      rw [orV_skip l l.length fun j hj => by simpa using q1 j (Nat.zero_le _) hj, List.drop_length]; rfl
    simp only [cast0] at q2
    simp [q2, hv]
  · have hv : orV l = l.getD i 0 := by
      rw [decide_eq_false_iff_not, getD_in _ i 0 q1] at q2
      rw [orV_skip l i fun j hj => by simpa using q3 j (Nat.zero_le _) hj, List.drop_eq_getElem_cons q1, orV, if_pos q2, getD_in _ i 0 q1]
    simp only [cast0] at q4
    simp [q4, hv]
def F_less : List D → Option D := F2 intT intT fun a b => some (iD (cmpI a b))
theorem C_less : CallOk Tryz.prog 65 F_less := call2 (kp := kp_offshootref12_less) T12a_ok mixed Tryz.func65 (by kernel_rfl) (by decide) fun a b d h => by
  cases h
  refine ⟨0, _, ?_, Imp.refl _⟩
  show outD (textK _ _ _ _ _ [iD a, iD b] []) = _
  rw [sh_offshootref12_less]
  unfold cmpI
  by_cases h1 : a < b
  · simp [h1]
  · by_cases h2 : b < a <;> simp [h1, h2]
theorem less_pure (a b : Int) (H : Heap) : liftF F_less [iD a, iD b] H = some (iD (cmpI a b), H) := by
  rw [liftF_pure _ _ _ rfl]
  have : F_less [iD a, iD b] = _ := f2_enc (A := intT) (B := intT) _ a b
  rw [this]; rfl

/- What stands at the node; a copy of nodes. -/
def F_chNode : List D → Option D := F1 chT fun c => if 0 ≤ c.k ∧ c.k.toNat < c.p.body.length then some (.agg (nodeD (nodeAt c.p.body c.k))) else none
theorem C_chNode : CallOk Tryz.prog 106 F_chNode := call1 (kp := kp_delta_change__node) T12a_ok mixed Tryz.func106 (by kernel_rfl) (by decide) fun c d h => by
  split at h
  case isFalse => cases h
  rename_i hk
  cases h
  refine ⟨0, _, ?_, Imp.refl _⟩
  show outD (textK _ _ _ _ _ [chD c] []) = _
  rw [sh_delta_change__node]
  have hi := idx_nodes c.p.body c.k hk.1 hk.2
  have hn : nodeAt c.p.body c.k = c.p.body[c.k.toNat] := by unfold nodeAt; exact getD_in _ _ _ hk.2
  have hs := set_node [.cells 97 5 [iD c.p.params, intsD c.p.vars, nodesD c.p.body, iD c.k, iD c.n], .cells 54 2 [iD 0, iD 0]] 1 54 (iD 0) (iD 0) c.p.body[c.k.toNat] rfl
  simp [alloc_node, hi, hn, hs]
  rfl
/- Nodes with others instead of those between two places. -/
def fs12b (P : Program) : List Entry := (90, true, liftF F_cmpOr) :: (65, true, liftF F_less) :: (106, true, liftF F_chNode) :: fs12a
theorem fs12b_ok : ∀ p ∈ fs12b Tryz.prog, EntryOk Tryz.prog p := entries_cons (entry_lift C_cmpOr) <| entries_cons (entry_lift C_less) <| entries_cons (entry_lift C_chNode) <| fs12a_ok
def T12b (P : Program) : Tab := ⟨fs12b P, noYl⟩
theorem T12b_ok : TabOk Tryz.prog (T12b Tryz.prog) := tabOk_of fs12b_ok
end Go.Proofs.YtinnbafplhcnpaaGreat
end

section
namespace Go.Proofs.YtinnbafplhcnpaaGreat
open Go.RowKit
set_option linter.unusedVariables false
set_option maxRecDepth 100000

def kp_delta_Compare : List Nat := []
theorem sh_delta_Compare (n : Nat) (x0 x1 : D) (h : Heap) : textK Tryz.prog (T12b Tryz.prog) kp_delta_Compare n Tryz.f47 [x0, x1] h =
(thnH (boxH 34 x0 h) fun y0 h1 =>
thnH (boxH 34 x1 h1) fun y2 h3 =>
thn (fieldAtH 0 y0) fun y4 =>
thn (loadH none h3 y4) fun y5 =>
thn (fieldAtH 0 y2) fun y6 =>
thn (loadH none h3 y6) fun y7 =>
thnH (liftF F_Compare [y5, y7] h3) fun y8 h9 =>
thn (fieldAtH 1 y0) fun y10 =>
thn (loadH none h9 y10) fun y11 =>
thn (fieldAtH 1 y2) fun y12 =>
thn (loadH none h9 y12) fun y13 =>
thnH (liftF F_cmpI [y11, y13] h9) fun y14 h15 =>
thn (fieldAtH 2 y0) fun y16 =>
thn (loadH none h15 y16) fun y17 =>
thn (fieldAtH 2 y2) fun y18 =>
thn (loadH none h15 y18) fun y19 =>
thnH (liftF F_cmpI [y17, y19] h15) fun y20 h21 =>
thnH (rowH 3 1 3 [(iD 0)] [(0, y8), (1, y14), (2, y20)] h21) fun y22 h23 =>
thnH (liftF F_cmpOr [y22] h23) fun y24 h25 =>
some (y24, h25)) := by kernel_rfl

def kp_offshootref12_Compare : List Nat := []
theorem sh_offshootref12_Compare (n : Nat) (x0 x1 : D) (h : Heap) : textK Tryz.prog (T12b Tryz.prog) kp_offshootref12_Compare n Tryz.f34 [x0, x1] h =
(thnH (boxH 34 x0 h) fun y0 h1 =>
thnH (boxH 34 x1 h1) fun y2 h3 =>
thn (fieldAtH 0 y0) fun y4 =>
thn (loadH none h3 y4) fun y5 =>
thn (fieldAtH 0 y2) fun y6 =>
thn (loadH none h3 y6) fun y7 =>
thnH (liftF F_RefCompare [y5, y7] h3) fun y8 h9 =>
thn (binK .int .neq y8 (iD 0)) fun y10 =>
condK y10
(some (y8, h9))
(thn (fieldAtH 1 y0) fun y11 =>
thn (loadH none h9 y11) fun y12 =>
thn (fieldAtH 1 y2) fun y13 =>
thn (loadH none h9 y13) fun y14 =>
thn (binK .int .neq y12 y14) fun y15 =>
condK y15
(thn (fieldAtH 1 y0) fun y16 =>
thn (loadH none h9 y16) fun y17 =>
thn (fieldAtH 1 y2) fun y18 =>
thn (loadH none h9 y18) fun y19 =>
thnH (liftF F_less [y17, y19] h9) fun y20 h21 =>
some (y20, h21))
(thn (fieldAtH 2 y0) fun y22 =>
thn (loadH none h9 y22) fun y23 =>
thn (fieldAtH 2 y2) fun y24 =>
thn (loadH none h9 y24) fun y25 =>
thnH (liftF F_less [y23, y25] h9) fun y26 h27 =>
some (y26, h27)))) := by kernel_rfl

end Go.Proofs.YtinnbafplhcnpaaGreat
end
