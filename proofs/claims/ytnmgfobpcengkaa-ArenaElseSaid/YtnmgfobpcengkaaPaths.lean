/-
  path.paths: the iterator over all nodes below one, with their paths; slices.Clone.
-/
import Derived.Test.YtnmgfobpcengkaaIter
import Derived.Test.YtnmgfobpcengkaaAppend
import Derived.Test.YtnmgfobpcengkaaRegion
import Derived.Test.YtnmgfobpcengkaaPathV
import Derived.WalkSpells
import Derived.Lib.SliceRun
namespace Go.Proofs.Ytnmgfobpcengkaa
open Go.RowKit Go.Shelf
set_option linter.unusedVariables false
attribute [local go_sem] Oper.semAt_some

theorem Kids_any (l : List Nd) (i : Int) (v : Value) (w : World) (hv : NodesAt w v l) (hl : l.length ≤ 4000000) :
    Calls Try.prog 22 #[v, .int .i64 i] w fun e W' => ∃ u, e = .returned u ∧ IntsIn (fun k => w.heap.size ≤ k ∧ k < W'.heap.size) W' u (kidsv l i) ∧ Below w.heap.size w W' :=
  callsIn_wide.1 (Kids_in 3 (Nat.le_refl _) l i v w hv hl)

set_option maxHeartbeats 1000000 in
/-- slices.Clone of ints: a row of the call's own. -/
theorem Clone_any (l : List Int) (v : Value) (w : World) (S : Nat → Prop) (hS : ∀ k, S k → k < w.heap.size) (hv : IntsIn S w v l) (hl : l.length ≤ 4000000) :
    Calls Try.prog 48 #[v] w fun e w' => ∃ u, e = .returned u ∧ w'.ownsRow w.heap.size 3 1 u l.length (l.map (Value.int .i64)) ∧ Below w.heap.size w w' := by
  obtain ⟨i0, hi, hz0, hz1, hz2⟩ := info_parts infoInt
  have qT : ∀ (w : World) (a : Option Addr) (n c n' c' : Nat), (binOp .eql 23 (.slice a n c) (.slice none n' c')).run Try.prog w = .ok (.bool a.isNone) w := fun w a n c n' c' => Lib.run_eql_slice_nil w _ _ a n c n' c' Try.underlying23
  obtain ⟨p, cap, hpc⟩ := hv.slice
  subst hpc
  cases p with
  | none =>
    have hl0 : l = [] := by
      rcases hv.open with ⟨rfl, _⟩ | ⟨b, o, cap', hsl, _⟩
      · rfl
      · cases hsl
    subst hl0
    go_enter Try.func48, Try.ntmps48
    go_wp2
    go_ret
    exact ⟨_, rfl, World.ownsRow_nil _ _ _ _, Below.refl _ _⟩
  | some ad =>
    go_enter Try.func48, Try.ntmps48
    have hv2 := hv.kept (kept_of (below_alloc1 w (.cells #[] 3)) hS)
    go_wp2_with (at_builtin; refine wpList_append_in rfl _ _ 23 rfl w.heap.size 3 i0 (.int .i64 0) 1 8 Try.underlying23 hi hz0 hz1 hz2 rfl (by decide) _ _ _ rfl (ownsRow_empty w w.heap.size 3 1 (Nat.le_refl _)) _ l.length _ rfl hv2 (by simp) (ints_one l) (by unfold maxLen; omega) (by omega) (by simp) ?_; intro v' w3 hown' hgrow)
    go_ret
    refine ⟨_, rfl, by simpa using hown', ((Below.refl _ _).alloc (Nat.le_refl _) _).grown hgrow (by simp) (fun j hj => ?_)⟩
    exact ((ownsRow_empty w w.heap.size 3 1 (Nat.le_refl _)).lt j hj).1

/-- Three new blocks of one cell. -/
theorem cells_three (w : World) (a b c : Value) (ta tb tc : TypeId) :
    (((w.alloc (.cells #[a] ta)).alloc (.cells #[b] tb)).alloc (.cells #[c] tc)).cell? ⟨w.heap.size, 0, none⟩ = some a ∧
    (((w.alloc (.cells #[a] ta)).alloc (.cells #[b] tb)).alloc (.cells #[c] tc)).cell? ⟨w.heap.size + 1, 0, none⟩ = some b ∧
    (((w.alloc (.cells #[a] ta)).alloc (.cells #[b] tb)).alloc (.cells #[c] tc)).cell? ⟨w.heap.size + 1 + 1, 0, none⟩ = some c := by
  have h1 := Boxed.new w ta a
  have h2 := Boxed.new (w.alloc (.cells #[a] ta)) tb b
  have h3 := Boxed.new ((w.alloc (.cells #[a] ta)).alloc (.cells #[b] tb)) tc c
  rw [World.size_alloc] at h2
  rw [World.size_alloc, World.size_alloc] at h3
  exact ⟨((h1.alloc _).alloc _).cell, (h2.alloc _).cell, h3.cell⟩

/-- Some slice. -/
def IsSlice (v : Value) : Prop := ∃ (p : Option Addr) (n c : Nat), v = .slice p n c
theorem IntsIn.isSlice {S : Nat → Prop} {w : World} {v : Value} {l : List Int} (h : IntsIn S w v l) : IsSlice v := by obtain ⟨p, c, h⟩ := h.slice; exact ⟨_, _, _, h⟩
theorem NodesIn.isSlice {S : Nat → Prop} {w : World} {v : Value} {l : List Nd} (h : NodesIn S w v l) : IsSlice v := by obtain ⟨p, c, h⟩ := h.slice; exact ⟨_, _, _, h⟩

/-- path.paths hands back a value that goes over a node's part. -/
theorem paths_any (lv ov : Value) (i : Int) (hl : IsSlice lv) (ho : IsSlice ov) (w : World) :
    Calls Try.prog 38 #[lv, .int .i64 i, ov] w fun e w' =>
      e = .returned (.func (.func 47) #[] #[.pointer (some ⟨w.heap.size + 1, 0, none⟩), .pointer (some ⟨w.heap.size + 1 + 1, 0, none⟩), .pointer (some ⟨w.heap.size, 0, none⟩)]) ∧
      w' = ((w.alloc (.cells #[lv] 22)).alloc (.cells #[.int .i64 i] 3)).alloc (.cells #[ov] 23) := by
  obtain ⟨p, n, c, rfl⟩ := hl
  obtain ⟨q, n', c', rfl⟩ := ho
  go_enter Try.func38, Try.ntmps38
  go_wp2
  go_ret
  exact ⟨rfl, rfl⟩

/-- One element that paths hands out: a node, the slice value of its path, its path. -/
abbrev Step := Int × Value × List Int
def stepVals (x : Step) : Array Value := #[.int .i64 x.1, x.2.1]
def stepOf (x : Step) : Int × List Int := (x.1, x.2.2)
/-- How an element reads, but in the blocks of X. -/
def StepIn (X : Nat → Prop) (x : Step) (W : World) : Prop := IntsIn (fun k => ¬ X k ∧ k < W.heap.size) W x.2.1 x.2.2
/-- What has come: all; or a part. -/
def stepsR (ys : List (Int × List Int)) (xs : List Step) (b : Bool) : Prop := if b = true then xs.map stepOf = ys else xs.map stepOf <+: ys

theorem ownsRow_base {w : World} {base base' : Nat} {e : TypeId} {size : Nat} {v : Value} {n : Nat} {xs : List Value} (h : w.ownsRow base e size v n xs) (hb : base' ≤ base) : w.ownsRow base' e size v n xs := by
  refine ⟨h.1, ?_⟩
  rcases h.2 with h2 | ⟨g, cap, cur, h1, h2, h3⟩
  · exact .inl h2
  · exact .inr ⟨g, cap, cur, h1, Nat.le_trans hb h2, h3⟩
theorem intsIn_new {B : Nat} {w w' : World} {v : Value} {l : List Int} (h : IntsIn (fun k => B ≤ k ∧ k < w.heap.size) w v l) (hb : Below w.heap.size w w') : IntsIn (fun k => B ≤ k ∧ k < w'.heap.size) w' v l :=
  (IntsIn.kept h (kept_of hb (fun k hk => hk.2))).mono (fun k hk => ⟨hk.1, Nat.lt_of_lt_of_le hk.2 hb.size⟩)
/-- One append, carried out. -/
theorem wpIn_append {F : Fence} {n : Nat} {P : Program} {o : Oper} {a : Act} {w w' : World} {K : Act → World → Prop} {Q : Exit → Act → World → Prop} {s x : Operand} {t : TypeId} {v u v' : Value}
    (hop : o.op = Op.call { callee := Callee.builtin Builtin.append, args := #[s, x], argTypes := #[t, t] }) (hrun : (Builtin.append_ #[t, t] o.type #[v, u]).run P w = .ok v' w') (hs : a.eval s = v) (hx : a.eval x = u) (hK : K (a.put o.dst v') w') : o.wpIn F n P a w K Q := by
  unfold Oper.wpIn
  refine ⟨?_, ?_⟩
  · simp [Oper.about, hop, resolve, Target.leads, Sem.run_pure]
  · rw [Oper.semAt_plain F _ _ (by rw [hop]; intro c hc'; cases hc')]
    simp [execOp, hop, resolve, invoke, builtin, hs, hx, hrun, Result.andThen]
    exact hK

set_option maxRecDepth 100000 in
set_option maxHeartbeats 4000000 in
theorem paths_iter (l : List Nd) (lv : Value) (hl : l.length ≤ 4000000) (X : Nat → Prop) : ∀ (f : Nat) (i : Int) (own : List Int) (ov : Value) (Bl Ba Bo : Nat) (W : World),
    0 ≤ i → i ≤ l.length → (l.length : Int) < i + f → own.length + f ≤ 4000000 → (∀ k, X k → k < W.heap.size) → ¬ X Bl → ¬ X Ba → ¬ X Bo →
    W.cell? ⟨Bl, 0, none⟩ = some lv → W.cell? ⟨Ba, 0, none⟩ = some (.int .i64 i) → W.cell? ⟨Bo, 0, none⟩ = some ov →
    NodesIn (fun k => ¬ X k ∧ k < W.heap.size) W lv l → IntsIn (fun k => ¬ X k ∧ k < W.heap.size) W ov own →
    Iter Try.prog 47 #[.pointer (some ⟨Ba, 0, none⟩), .pointer (some ⟨Bo, 0, none⟩), .pointer (some ⟨Bl, 0, none⟩)] stepVals (StepIn X) (KeptBut X W.heap.size) (pathsV f l i own).length (stepsR (pathsV f l i own)) W := by
  obtain ⟨i0, hi, hz0, hz1, hz2⟩ := info_parts infoInt
  intro f
  induction f with
  | zero =>
    intro i own ov Bl Ba Bo W _ h1 h2
    exfalso; omega
  | succ f ih =>
    intro i own ov Bl Ba Bo W hi0 hil hif hof hX hxl hxa hxo hbl hba hbo hlv hov lp J hJ hY hJ0
    refine callsIn_of_wp_marks Try.func47 rfl trivial ?_ rfl
    simp only [Try.ntmps47, List.size_toArray, List.length_cons, List.length_nil, Nat.reduceAdd, Nat.reduceSub, Array.replicate_succ, Array.replicate_zero, List.push_toArray, List.append_toArray, List.nil_append, List.cons_append]
    have hby : Below W.heap.size W (W.alloc (.cells #[.func (.yield lp) #[] #[]] 60)) := below_alloc1 _ _
    have hkb := keptBut_below (X := X) (B := W.heap.size) hby
    have hJ1 := ownFrom_belows (hJ true) hJ0 hby
    obtain ⟨fn, tmps, assign, body, hy, hR⟩ := hY [] (i, ov, own) _ hJ1 (SliceIn.keptBut hov hkb) (pathsV_pos _ _ _ _)
    dsimp only [stepVals] at hy
    have hba1 := hkb.cell (p := ⟨Ba, 0, none⟩) hxa hba
    have hbo1 := hkb.cell (p := ⟨Bo, 0, none⟩) hxo hbo
    gi_wp2
    refine hR.mono ?_
    rintro e W2 ⟨b, rfl, hJ2, hk2⟩
    cases b with
    | false =>
      gi_wp2
      exact ⟨_, results_none rfl _ _ _, ⟨_, rfl⟩, [(i, ov, own)], false, by simp [stepsR, stepOf, pathsV], hJ2⟩
    | true =>
      have hk2w := hk2
      replace hk2 := hkb.trans hk2
      have hbl2 := hk2.cell (p := ⟨Bl, 0, none⟩) hxl hbl
      have hba2 := hk2.cell (p := ⟨Ba, 0, none⟩) hxa hba
      have hlv2 : NodesAt W2 lv l := NodesIn.mono (SliceIn.keptBut hlv hk2) (fun _ h => h.2)
      gi_wp2_with (gi_at_call 22; refine (callsIn_wide.2 (Kids_any l _ _ _ hlv2 hl)).mono ?_; rintro e W3 ⟨u, rfl, hks, hb3⟩; obtain ⟨pk, ck, hsl⟩ := hks.slice; subst hsl)
      have hk3 : KeptBut X W.heap.size W W3 := hk2.trans (keptBut_below hb3)
      have hJ3 := ownFrom_belows (hJ true) hJ2 hb3
      have hbl3 := hk3.cell (p := ⟨Bl, 0, none⟩) hxl hbl
      have hbo3 := hk3.cell (p := ⟨Bo, 0, none⟩) hxo hbo
      have hby3 : W3.cell? ⟨W.heap.size, 0, none⟩ = some (.func (.yield lp) #[] #[]) := (hk2w.trans (keptBut_below hb3)).cell (p := ⟨W.heap.size, 0, none⟩) (fun hx => absurd (hX _ hx) (Nat.lt_irrefl _)) (Boxed.new W 60 (.func (.yield lp) #[] #[])).cell
      have hz3 : W.heap.size < W3.heap.size := by have h1 := hk2w.size; rw [World.size_alloc] at h1; have h2 := hb3.size; omega
      have hks3 : IntsIn (fun k => ¬ X k ∧ k < W3.heap.size) W3 (.slice pk (kidsv l i).length ck) (kidsv l i) := hks.mono (fun k hk => ⟨fun hx => by have := hX k hx; have := hk2.size; omega, hk.2⟩)
      refine wpIn_loop (fun a V => ∃ (c : Nat) (Ds : List Nat) (xs : List Step) (u5 u6 u7 u8 u19 u20 u21 u22 u23 u24 u25 u26 u27 u28 u29 u30 u31 u32 u33 u34 u35 u36 u37 u38 : Value),
        a = { tmps := #[.func (.yield lp) #[] #[], .pointer (some ⟨Ba, 0, none⟩), .pointer (some ⟨Bo, 0, none⟩), .pointer (some ⟨Bl, 0, none⟩), .pointer (some ⟨W.heap.size, 0, none⟩), u5, u6, u7, u8, .func (.yield lp) #[] #[], .int .i64 i, ov, .bool true, .bool false, lv, .int .i64 i, .slice pk (kidsv l i).length ck, .int .i64 (kidsv l i).length, .int .i64 c, u19, u20, u21, u22, u23, u24, u25, u26, u27, u28, u29, u30, u31, u32, u33, u34, u35, u36, u37, u38], defers := marks Ds } ∧
        c ≤ (kidsv l i).length ∧ Ds.Nodup ∧ (∀ D, D ∈ Ds → V.heap[D]? = some (.deferred (some [])) ∧ W.heap.size ≤ D) ∧ Hid (xs.map stepOf = (i, own) :: pathsTo f l i own c) ∧ J xs true V ∧ KeptBut X W.heap.size W3 V)
        (fun a _ => (kidsv l i).length - (intOf (a.tmps.getD 18 undef)).toNat) ?_ ?_
      · exact ⟨0, [], [(i, ov, own)], _, _, _, _, _, _, _, _, _, _, _, _, _, _, _, _, _, _, _, _, _, _, _, _, rfl, Nat.zero_le _, List.nodup_nil, (fun _ h => by cases h), Lib.hid rfl, hJ3, KeptBut.refl _ _ _⟩
      · rintro a V ⟨c, Ds, xs, u5, u6, u7, u8, u19, u20, u21, u22, u23, u24, u25, u26, u27, u28, u29, u30, u31, u32, u33, u34, u35, u36, u37, u38, rfl, hc, hnd, hDs, hxs, hJV, hkV⟩
        have hblV := hkV.cell (p := ⟨Bl, 0, none⟩) hxl hbl3
        have hboV := hkV.cell (p := ⟨Bo, 0, none⟩) hxo hbo3
        have hbyV := hkV.cell (p := ⟨W.heap.size, 0, none⟩) (fun hx => absurd (hX _ hx) (Nat.lt_irrefl _)) hby3
        have hksV : IntsIn (fun k => ¬ X k ∧ k < V.heap.size) V (.slice pk (kidsv l i).length ck) (kidsv l i) := SliceIn.keptBut hks3 hkV
        have hovW : IntsIn (fun k => ¬ X k ∧ k < V.heap.size) V ov own := SliceIn.keptBut hov (hk3.trans hkV)
        have hltl : Bl < V.heap.size := by obtain ⟨o, ho, _⟩ := cells_of_cell hblV; exact (Array.getElem?_eq_some_iff.1 ho).1
        have hlto : Bo < V.heap.size := by obtain ⟨o, ho, _⟩ := cells_of_cell hboV; exact (Array.getElem?_eq_some_iff.1 ho).1
        by_cases hlt : c < (kidsv l i).length
        · rcases hksV.open with ⟨h0, _⟩ | ⟨bk, ok, ck', hsl, hkp, hkc, hkx, hkcell⟩
          · rw [h0] at hlt; simp at hlt
          have hkc0 := hkcell c hlt
          obtain ⟨rfl, rfl⟩ : pk = some ⟨bk, ok, none⟩ ∧ ck = ck' := by simpa using hsl
          clear hkcell hsl
          gi_wp2
          refine Code.wpIn_mono (Q := fun e a' V' => e = .normal ∧ ∃ (B : Nat) (v26 v28 ov' : Value),
            a' = { tmps := #[.func (.yield lp) #[] #[], .pointer (some ⟨Ba, 0, none⟩), .pointer (some ⟨Bo, 0, none⟩), .pointer (some ⟨Bl, 0, none⟩), .pointer (some ⟨W.heap.size, 0, none⟩), .int .i64 c, .int .i64 (kidsv l i)[c], u7, u8, .func (.yield lp) #[] #[], .int .i64 i, ov, .bool true, .bool false, lv, .int .i64 i, .slice (some ⟨bk, ok, none⟩) (kidsv l i).length ck, .int .i64 (kidsv l i).length, .int .i64 c, .bool true, .int .i64 c, .pointer (some ⟨bk, ok + c, none⟩), .int .i64 (kidsv l i)[c], lv, .int .i64 (kidsv l i)[c], ov, v26, .int .i64 c, v28, ov', .func (.func 47) #[] #[.pointer (some ⟨B + 1, 0, none⟩), .pointer (some ⟨B + 1 + 1, 0, none⟩), .pointer (some ⟨B, 0, none⟩)], u31, u32, u33, u34, u35, u36, u37, u38], defers := marks Ds } ∧ Below V.heap.size V V' ∧ V.heap.size ≤ B ∧ B + 2 < V'.heap.size ∧ V'.cell? ⟨B, 0, none⟩ = some lv ∧ V'.cell? ⟨B + 1, 0, none⟩ = some (.int .i64 (kidsv l i)[c]) ∧ V'.cell? ⟨B + 1 + 1, 0, none⟩ = some ov' ∧
            IntsIn (fun k => V.heap.size ≤ k ∧ k < V'.heap.size) V' ov' (own ++ [(c : Int)])) ?_ ?_
          · rintro e a' V' ⟨rfl, B, v26, v28, ov', rfl, hbV, hBV, hB2, hcl, hca, hco, hov'⟩
            gi_wp2
            have hkv := kidsv_fact l i c hlt
            have hkl := kidsv_len l i
            have hIX : IntsIn (fun k => ¬ X k ∧ k < V'.heap.size) V' ov' (own ++ [(c : Int)]) := hov'.mono (fun k hk => ⟨fun hx => by have := hX k hx; have := (hk3.trans hkV).size; omega, hk.2⟩)
            have hkV' : KeptBut X W.heap.size W V' := (hk3.trans hkV).trans (keptBut_below hbV)
            have hzV : W.heap.size < V.heap.size := by have := hkV.size; omega
            have hzV' := hbV.size
            have hDb : ∀ D, D ∈ Ds → D < V'.heap.size := fun D hD => Nat.lt_of_lt_of_le (Array.getElem?_eq_some_iff.1 (hDs D hD).1).1 hzV'
            refine range_rule (gf := 47) (lb := #[.pointer (some ⟨B + 1, 0, none⟩), .pointer (some ⟨B + 1 + 1, 0, none⟩), .pointer (some ⟨B, 0, none⟩)]) rfl (enters_of Try.func47 (by kernel_rfl) rfl)
              (encs := stepVals) (G := StepIn X) (Kp := KeptBut X (V'.heap.size + 2)) (N := (pathsV f l (kidsv l i)[c] (own ++ [(c : Int)])).length) (R := stepsR (pathsV f l (kidsv l i)[c] (own ++ [(c : Int)]))) (fun _ => rfl)
              (fun W' hb' hs' => by
                have hkW : KeptBut X W.heap.size V' W' := keptBut_below hb'
                have := ih (kidsv l i)[c] (own ++ [(c : Int)]) ov' B (B + 1) (B + 1 + 1) W' (by omega) (by omega) (by omega) (by simp; omega) (fun k hk => by have := hX k hk; have := (hkV'.trans hkW).size; omega)
                  (fun hx => by have := hX _ hx; omega) (fun hx => by have := hX _ hx; omega) (fun hx => by have := hX _ hx; omega)
                  (hkW.cell (p := ⟨B, 0, none⟩) (fun hx => by have := hX _ hx; simp at this; omega) hcl) (hkW.cell (p := ⟨B + 1, 0, none⟩) (fun hx => by have := hX _ hx; simp at this; omega) hca) (hkW.cell (p := ⟨B + 1 + 1, 0, none⟩) (fun hx => by have := hX _ hx; simp at this; omega) hco)
                  (SliceIn.keptBut hlv (hkV'.trans hkW)) (SliceIn.keptBut hIX hkW)
                rwa [hs'] at this)
              (fun h h' => h.trans h') (fun U q o o' h1 h2 h3 h4 _ => keptBut_putObj U q o o' h2 h3 h4)
              (fun pre U => J (xs ++ pre) true U ∧ KeptBut X W.heap.size W3 U ∧ (∀ D, D ∈ Ds → U.heap[D]? = some (.deferred (some []))))
              (fun cc pre U => cc = .ret ∧ J (xs ++ pre) false U ∧ (∀ D, D ∈ Ds → U.heap[D]? = some (.deferred (some []))))
              ?hI ?hIx ?hG ?h0
              (fun x => { tmps := #[.func (.yield lp) #[] #[], .pointer (some ⟨Ba, 0, none⟩), .pointer (some ⟨Bo, 0, none⟩), .pointer (some ⟨Bl, 0, none⟩), .pointer (some ⟨W.heap.size, 0, none⟩), .int .i64 c, .int .i64 (kidsv l i)[c], .int .i64 x.1, x.2.1, .func (.yield lp) #[] #[], .int .i64 i, ov, .bool true, .bool false, lv, .int .i64 i, .slice (some ⟨bk, ok, none⟩) (kidsv l i).length ck, .int .i64 (kidsv l i).length, .int .i64 c, .bool true, .int .i64 c, .pointer (some ⟨bk, ok + c, none⟩), .int .i64 (kidsv l i)[c], lv, .int .i64 (kidsv l i)[c], ov, v26, .int .i64 c, v28, ov', .func (.func 47) #[] #[.pointer (some ⟨B + 1, 0, none⟩), .pointer (some ⟨B + 1 + 1, 0, none⟩), .pointer (some ⟨B, 0, none⟩)], .int .i64 x.1, x.2.1, u33, u34, u35, u36, u37, u38], defers := [] }) ?assign ?body ?done ?stop
            case hI =>
              exact OwnFrom.and (fun pre A C row hs hg hr => hJ true (xs ++ pre) A C row hs hg (fun r e => by obtain ⟨h1, h2⟩ := hr r e; exact ⟨by omega, h2⟩))
                (OwnFrom.and (ownFrom_keptBut (by have := hkV.size; have := hbV.size; omega)) (fun pre A C row hs hg hr D hD => ownFrom_deferred (β := Unit) (hDb D hD) () A C row (hs D hD) hg hr))
            case hIx =>
              exact fun cc => OwnFrom.and (fun _ _ _ _ hs _ _ => hs) <| OwnFrom.and (fun pre A C row hs hg hr => hJ false (xs ++ pre) A C row hs hg (fun r e => by obtain ⟨h1, h2⟩ := hr r e; exact ⟨by omega, h2⟩))
                (fun pre A C row hs hg hr D hD => ownFrom_deferred (β := Unit) (hDb D hD) () A C row (hs D hD) hg hr)
            case hG => exact fun x => ownFrom_slice
            case h0 =>
              refine ⟨by rw [List.append_nil]; exact ownFrom_belows (hJ true) hJV hbV, hkV.trans (keptBut_below hbV), fun D hD => ?_⟩
              exact (hbV.block D (Array.getElem?_eq_some_iff.1 (hDs D hD).1).1).trans (hDs D hD).1
            case assign =>
              intro lq x U K hK
              dsimp only [stepVals]
              gi_wp2
              exact hK
            case body =>
              rintro lq pre x U ⟨hJU, hkU, hDU⟩ hgx hlen
              have hlen2 : (xs ++ pre).length < (pathsV (f + 1) l i own).length := by
                have h1 := (pathsTo_prefix f l i own (c + 1)).length_le
                rw [pathsTo_succ f l i own c hlt] at h1
                have h2 := congrArg List.length hxs.out
                simp only [List.length_map, List.length_cons, List.length_append] at h1 h2 ⊢
                omega
              obtain ⟨fn2, tmps2, as2, bd2, hy2, hR2⟩ := hY (xs ++ pre) x U hJU hgx hlen2
              dsimp only [stepVals] at hy2
              have hbyU := hkU.cell (p := ⟨W.heap.size, 0, none⟩) (fun hx => absurd (hX _ hx) (Nat.lt_irrefl _)) hby3
              gi_wp2
              refine (RoundIn_inRound hR2).mono ?_
              rintro e U2 ⟨b, rfl, hJ2, hkp2⟩
              have hkf : KeepsFrom V'.heap.size U U2 := ⟨hkp2.size, fun k o hB hk ho => hkp2.other k o (by omega) hk ho⟩
              have hd2 : ∀ D, D ∈ Ds → U2.heap[D]? = some (.deferred (some [])) := fun D hD => hkp2.other D _ (hDs D hD).2 (hDU D hD) rfl
              rw [List.append_assoc] at hJ2
              cases b with
              | true =>
                gi_wp2
                exact ⟨hkf, hkp2.mono (by omega), hJ2, hkU.trans hkp2, hd2⟩
              | false =>
                gi_wp2
                exact ⟨hkf, hkp2.mono (by omega), rfl, hJ2, hd2⟩
            case done =>
              rintro D ys U hD hR ⟨hJU, hkU, hDU⟩ hK
              gi_wp2
              have hzU := hkU.size
              refine ⟨⟨c + 1, D :: Ds, xs ++ ys, _, _, _, _, _, _, _, _, _, _, _, _, _, _, _, _, _, _, _, _, _, _, _, _, rfl, hlt, List.nodup_cons.2 ⟨fun h => by have := hDb D h; omega, hnd⟩, ?_, ?_, hJU, hkU⟩, ?_⟩
              · intro E hE
                rcases List.mem_cons.1 hE with rfl | hE
                · exact ⟨hK, by omega⟩
                · exact ⟨hDU E hE, (hDs E hE).2⟩
              · refine Lib.hid ?_
                have hR' : ys.map stepOf = pathsV f l (kidsv l i)[c] (own ++ [(c : Int)]) := by simpa [stepsR] using hR
                rw [List.map_append, hxs.out, hR', pathsTo_succ f l i own c hlt, List.cons_append]
              · simp [intOf]
                omega
            case stop =>
              rintro D cc ys U hD hR ⟨rfl, hJU, hDU⟩ hK
              gi_wp2
              have hR' : ys.map stepOf <+: pathsV f l (kidsv l i)[c] (own ++ [(c : Int)]) := by simpa [stepsR] using hR
              refine leaves_marks _ (J (xs ++ ys) false) (D :: Ds) U (List.nodup_cons.2 ⟨fun h => by have := hDb D h; omega, hnd⟩) ?_ ?_ hJU
                (fun W' hj => ⟨results_none rfl _ _ _, ⟨_, rfl⟩, xs ++ ys, false, ?_, hj⟩)
              · intro E hE
                rcases List.mem_cons.1 hE with rfl | hE
                · exact hK
                · exact hDU E hE
              · intro A E hE ho hj
                refine (hJ false).putObj _ hj ?_ ho rfl
                rcases List.mem_cons.1 hE with rfl | hE
                · omega
                · exact (hDs E hE).2
              · rw [stepsR, if_neg (by decide), List.map_append, hxs.out]
                exact pathsTo_prefix2 f l i own c hlt _ hR'
          · have hmix : Try.prog.follows .mixedOrders = true := by kernel_rfl
            obtain ⟨Inv, hInv⟩ : ∃ Inv : (Nat → Bool) → Act → World → Prop, Inv = (fun d a' V' => ∃ (v23 v24 v25 v26 v27 v28 v29 v30 : Value), a' = { tmps := #[.func (.yield lp) #[] #[], .pointer (some ⟨Ba, 0, none⟩), .pointer (some ⟨Bo, 0, none⟩), .pointer (some ⟨Bl, 0, none⟩), .pointer (some ⟨W.heap.size, 0, none⟩), .int .i64 c, .int .i64 (kidsv l i)[c], u7, u8, .func (.yield lp) #[] #[], .int .i64 i, ov, .bool true, .bool false, lv, .int .i64 i, .slice (some ⟨bk, ok, none⟩) (kidsv l i).length ck, .int .i64 (kidsv l i).length, .int .i64 c, .bool true, .int .i64 c, .pointer (some ⟨bk, ok + c, none⟩), .int .i64 (kidsv l i)[c], v23, v24, v25, v26, v27, v28, v29, v30, u31, u32, u33, u34, u35, u36, u37, u38], defers := marks Ds } ∧ Below V.heap.size V V' ∧
              (d 0 = true → v23 = lv) ∧ (d 1 = true → v24 = .int .i64 (kidsv l i)[c]) ∧ (d 2 = true → v25 = ov) ∧ (d 3 = true → d 6 = false → V'.ownsRow V.heap.size 3 1 v26 own.length (own.map (Value.int .i64))) ∧
              (d 4 = true → v27 = .int .i64 c) ∧ (d 5 = true → d 6 = false → ∃ b5, v28 = .slice (some ⟨b5, 0, none⟩) 1 1 ∧ V'.cell? ⟨b5, 0, none⟩ = some (.int .i64 c) ∧ b5 < V'.heap.size) ∧
              (d 6 = true → IntsIn (fun k => V.heap.size ≤ k ∧ k < V'.heap.size) V' v29 (own ++ [(c : Int)])) ∧
              (d 7 = true → d 6 = true ∧ ∃ B, v30 = .func (.func 47) #[] #[.pointer (some ⟨B + 1, 0, none⟩), .pointer (some ⟨B + 1 + 1, 0, none⟩), .pointer (some ⟨B, 0, none⟩)] ∧ V.heap.size ≤ B ∧ B + 2 < V'.heap.size ∧
                V'.cell? ⟨B, 0, none⟩ = some lv ∧ V'.cell? ⟨B + 1, 0, none⟩ = some (.int .i64 (kidsv l i)[c]) ∧ V'.cell? ⟨B + 1 + 1, 0, none⟩ = some v29)) := ⟨_, rfl⟩
            have HI := Lib.hid hInv
            clear hInv
            refine region_inv hmix Inv (by kernel_rfl) ?_ ?_ ?_
            · rw [HI.out]
              exact ⟨_, _, _, _, _, _, _, _, rfl, (Below.refl _ _).drew, (fun h => by cases h), (fun h => by cases h), (fun h => by cases h), (fun h => by cases h), (fun h => by cases h), (fun h => by cases h), (fun h => by cases h), (fun h => by cases h)⟩
            · refine ⟨?_, ?_, ?_, ?_, ?_, ?_, ?_, ?_, trivial⟩
              · intro d a' V' K hd hdep hI hK
                rw [HI.out] at hI
                obtain ⟨v23, v24, v25, v26, v27, v28, v29, v30, rfl, hB, f0, f1, f2, f3, f4, f5, f6, f7⟩ := hI
                rw [if_pos (show Region.wanted _ _ = true from rfl)]
                have hx := (hB.cell (p := ⟨Bl, 0, none⟩) hltl).trans hblV
                gi_wp2
                rw [HI.out]
                exact ⟨_, _, _, _, _, _, _, _, rfl, hB, (fun _ => rfl), (upd_keep (by decide) f1), (upd_keep (by decide) f2), (upd_keep2 (by decide) (by decide) f3), (upd_keep (by decide) f4), (upd_keep2 (by decide) (by decide) f5), (upd_keep (by decide) f6), (fun h => by obtain ⟨g1, g2⟩ := f7 (by rwa [upd_other d (by decide)] at h); exact ⟨by rw [upd_other d (by decide)]; exact g1, g2⟩)⟩
              · intro d a' V' K hd hdep hI hK
                rw [HI.out] at hI
                obtain ⟨v23, v24, v25, v26, v27, v28, v29, v30, rfl, hB, f0, f1, f2, f3, f4, f5, f6, f7⟩ := hI
                rw [if_pos (show Region.wanted _ _ = true from rfl)]
                gi_wp2
                rw [HI.out]
                exact ⟨_, _, _, _, _, _, _, _, rfl, hB, (upd_keep (by decide) f0), (fun _ => rfl), (upd_keep (by decide) f2), (upd_keep2 (by decide) (by decide) f3), (upd_keep (by decide) f4), (upd_keep2 (by decide) (by decide) f5), (upd_keep (by decide) f6), (fun h => by obtain ⟨g1, g2⟩ := f7 (by rwa [upd_other d (by decide)] at h); exact ⟨by rw [upd_other d (by decide)]; exact g1, g2⟩)⟩
              · intro d a' V' K hd hdep hI hK
                rw [HI.out] at hI
                obtain ⟨v23, v24, v25, v26, v27, v28, v29, v30, rfl, hB, f0, f1, f2, f3, f4, f5, f6, f7⟩ := hI
                rw [if_pos (show Region.wanted _ _ = true from rfl)]
                have hx := (hB.cell (p := ⟨Bo, 0, none⟩) hlto).trans hboV
                gi_wp2
                rw [HI.out]
                exact ⟨_, _, _, _, _, _, _, _, rfl, hB, (upd_keep (by decide) f0), (upd_keep (by decide) f1), (fun _ => rfl), (upd_keep2 (by decide) (by decide) f3), (upd_keep (by decide) f4), (upd_keep2 (by decide) (by decide) f5), (upd_keep (by decide) f6), (fun h => by obtain ⟨g1, g2⟩ := f7 (by rwa [upd_other d (by decide)] at h); exact ⟨by rw [upd_other d (by decide)]; exact g1, g2⟩)⟩
              · intro d a' V' K hd hdep hI hK
                rw [HI.out] at hI
                obtain ⟨v23, v24, v25, v26, v27, v28, v29, v30, rfl, hB, f0, f1, f2, f3, f4, f5, f6, f7⟩ := hI
                rw [if_pos (show Region.wanted _ _ = true from rfl)]
                obtain rfl := f2 (hdep ⟨2, .data⟩ (by simp) rfl)
                have hovV : IntsIn (fun k => ¬ X k ∧ k < V.heap.size) V' v25 own := hovW.kept (kept_of hB (fun k hk => hk.2))
                gi_wp2_with (gi_at_call 48; refine (callsIn_wide.2 (Clone_any own _ _ _ (fun k hk => Nat.lt_of_lt_of_le hk.2 hB.size) hovV (by omega))).mono ?_; rintro e V2 ⟨u2, rfl, hr2, hb2⟩)
                rw [HI.out]
                exact ⟨_, _, _, _, _, _, _, _, rfl, hB.trans (hb2.mono hB.size), (upd_keep (by decide) f0), (upd_keep (by decide) f1), (fun _ => rfl), (fun _ _ => ownsRow_base hr2 hB.size), (upd_keep (by decide) f4), (upd_keep2 (by decide) (by decide) (fun h h' => by obtain ⟨b5, g1, g2, g3⟩ := f5 h h'; exact ⟨b5, g1, (hb2.cell (p := ⟨b5, 0, none⟩) g3).trans g2, Nat.lt_of_lt_of_le g3 hb2.size⟩)), (upd_keep (by decide) (fun h => intsIn_new (f6 h) hb2)), (fun h => by obtain ⟨g0, B, g1, g2, g3, g4, g5, g6⟩ := f7 (by rwa [upd_other d (by decide)] at h); have hz2 := hb2.size; exact ⟨by rw [upd_other d (by decide)]; exact g0, B, g1, g2, by omega, (hb2.cell (p := ⟨B, 0, none⟩) (by show B < _; omega)).trans g4, (hb2.cell (p := ⟨B + 1, 0, none⟩) (by show B + 1 < _; omega)).trans g5, (hb2.cell (p := ⟨B + 1 + 1, 0, none⟩) (by show B + 1 + 1 < _; omega)).trans g6⟩)⟩
              · intro d a' V' K hd hdep hI hK
                rw [HI.out] at hI
                obtain ⟨v23, v24, v25, v26, v27, v28, v29, v30, rfl, hB, f0, f1, f2, f3, f4, f5, f6, f7⟩ := hI
                rw [if_pos (show Region.wanted _ _ = true from rfl)]
                gi_wp2
                rw [HI.out]
                exact ⟨_, _, _, _, _, _, _, _, rfl, hB, (upd_keep (by decide) f0), (upd_keep (by decide) f1), (upd_keep (by decide) f2), (upd_keep2 (by decide) (by decide) f3), (fun _ => rfl), (upd_keep2 (by decide) (by decide) f5), (upd_keep (by decide) f6), (fun h => by obtain ⟨g1, g2⟩ := f7 (by rwa [upd_other d (by decide)] at h); exact ⟨by rw [upd_other d (by decide)]; exact g1, g2⟩)⟩
              · intro d a' V' K hd hdep hI hK
                rw [HI.out] at hI
                obtain ⟨v23, v24, v25, v26, v27, v28, v29, v30, rfl, hB, f0, f1, f2, f3, f4, f5, f6, f7⟩ := hI
                rw [if_pos (show Region.wanted _ _ = true from rfl)]
                obtain rfl := f4 (hdep ⟨4, .data⟩ (by simp) rfl)
                have hb2 := below_alloc1 V' (.cells #[.int .i64 c] 3)
                gi_wp2
                rw [HI.out]
                exact ⟨_, _, _, _, _, _, _, _, rfl, hB.trans (hb2.mono hB.size), (upd_keep (by decide) f0), (upd_keep (by decide) f1), (upd_keep (by decide) f2), (upd_keep2 (by decide) (by decide) (fun h h' => ownsRow_below (f3 h h') hb2)), (fun _ => rfl), (fun _ _ => ⟨_, rfl, by simp, by simp⟩), (upd_keep (by decide) (fun h => intsIn_new (f6 h) hb2)), (fun h => by obtain ⟨g0, B, g1, g2, g3, g4, g5, g6⟩ := f7 (by rwa [upd_other d (by decide)] at h); have hz2 := hb2.size; exact ⟨by rw [upd_other d (by decide)]; exact g0, B, g1, g2, by omega, (hb2.cell (p := ⟨B, 0, none⟩) (by show B < _; omega)).trans g4, (hb2.cell (p := ⟨B + 1, 0, none⟩) (by show B + 1 < _; omega)).trans g5, (hb2.cell (p := ⟨B + 1 + 1, 0, none⟩) (by show B + 1 + 1 < _; omega)).trans g6⟩)⟩
              · intro d a' V' K hd hdep hI hK
                rw [HI.out] at hI
                obtain ⟨v23, v24, v25, v26, v27, v28, v29, v30, rfl, hB, f0, f1, f2, f3, f4, f5, f6, f7⟩ := hI
                rw [if_pos (show Region.wanted _ _ = true from rfl)]
                have hrow := f3 (hdep ⟨3, .data⟩ (by simp) rfl) hd
                obtain ⟨b5, rfl, hc5, hb5⟩ := f5 (hdep ⟨5, .data⟩ (by simp) rfl) hd
                have hnew : SliceIn (fun k => k < V'.heap.size) V' (.slice (some ⟨b5, 0, none⟩) 1 1) 1 [.int .i64 (c : Int)] := .inr ⟨b5, 0, 1, rfl, by omega, by omega, hb5, fun j hj => by
                  have hj0 : j = 0 := by simpa using hj
                  subst hj0; simpa using hc5⟩
                obtain ⟨v', w', hrun, r1, r2⟩ := run_append_in (P := Try.prog) V.heap.size 23 23 3 i0 (.int .i64 0) 1 8 Try.underlying23 hi hz0 hz1 hz2 rfl (by decide) v26 own.length _ hrow _ 1 _ hnew (by simp) (by simp [Value.oneCell']) (by unfold maxLen; omega) (by omega) hB.size
                refine wpIn_append rfl hrun rfl rfl (hK _ _ ?_)
                rw [HI.out]
                have hb2 : Below V.heap.size V w' := hB.grown r2 hB.size (fun j hj => (hrow.lt j hj).1)
                have hi6 : IntsIn (fun k => V.heap.size ≤ k ∧ k < w'.heap.size) w' v' (own ++ [(c : Int)]) := ownsRow_ints (by simpa using r1)
                exact ⟨_, _, _, _, _, _, _, _, rfl, hb2, upd_keep (by decide) f0, upd_keep (by decide) f1, upd_keep (by decide) f2, (fun _ h => by rw [upd_self] at h; cases h), upd_keep (by decide) f4, (fun _ h => by rw [upd_self] at h; cases h), (fun _ => hi6), (fun h => by have := (f7 (by rwa [upd_other d (by decide)] at h)).1; rw [hd] at this; cases this)⟩
              · intro d a' V' K hd hdep hI hK
                rw [HI.out] at hI
                obtain ⟨v23, v24, v25, v26, v27, v28, v29, v30, rfl, hB, f0, f1, f2, f3, f4, f5, f6, f7⟩ := hI
                rw [if_pos (show Region.wanted _ _ = true from rfl)]
                obtain rfl := f0 (hdep ⟨0, .data⟩ (by simp) rfl)
                obtain rfl := f1 (hdep ⟨1, .data⟩ (by simp) rfl)
                have h6 := hdep ⟨6, .data⟩ (by simp) rfl
                have hi6 := f6 h6
                have h9 := IntsIn.isSlice hi6
                have hls := NodesIn.isSlice hlv
                gi_wp2_with (gi_at_call 38; refine (callsIn_wide.2 (paths_any _ _ _ hls h9 _)).mono ?_; rintro e V2 ⟨rfl, rfl⟩)
                rw [HI.out]
                exact by
                  have hb2 : Below V'.heap.size V' (((V'.alloc (.cells #[v23] 22)).alloc (.cells #[.int .i64 (kidsv l i)[c]] 3)).alloc (.cells #[v29] 23)) := (((Below.refl _ _).alloc (Nat.le_refl _) _).alloc (by simp) _).alloc (by simp; omega) _
                  exact ⟨_, _, _, _, _, _, _, _, rfl, hB.trans (hb2.mono hB.size), (fun _ => rfl), (fun _ => rfl), (upd_keep (by decide) f2), (upd_keep2 (by decide) (by decide) (fun h h' => ownsRow_below (f3 h h') hb2)), (upd_keep (by decide) f4), (fun _ h => by rw [upd_other d (by decide), h6] at h; cases h), (fun _ => intsIn_new hi6 hb2), (fun _ => ⟨by rw [upd_other d (by decide)]; exact h6, V'.heap.size, rfl, hB.size, by simp, cells_three _ _ _ _ _ _ _⟩)⟩
            · intro d a' V' hall hI
              rw [HI.out] at hI
              obtain ⟨v23, v24, v25, v26, v27, v28, v29, v30, rfl, hB, f0, f1, f2, f3, f4, f5, f6, f7⟩ := hI
              obtain rfl := f0 (hall 0 (by decide))
              obtain rfl := f1 (hall 1 (by decide))
              obtain rfl := f2 (hall 2 (by decide))
              obtain rfl := f4 (hall 4 (by decide))
              obtain ⟨_, B, rfl, g1, g2, g3, g4, g5⟩ := f7 (hall 7 (by decide))
              exact ⟨rfl, B, v26, v28, v29, rfl, hB, g1, g2, g3, g4, g5, f6 (hall 6 (by decide))⟩
        · gi_wp2
          obtain rfl : c = (kidsv l i).length := by omega
          exact leaves_marks _ (J xs true) Ds V hnd (fun D hD => (hDs D hD).1) (fun A D hD ho hj => (hJ true).putObj _ hj (hDs D hD).2 ho rfl) hJV
            (fun W' hj => ⟨results_none rfl _ _ _, ⟨_, rfl⟩, xs, true, by rw [stepsR, if_pos rfl, hxs.out, pathsTo_all], hj⟩)
end Go.Proofs.Ytnmgfobpcengkaa
