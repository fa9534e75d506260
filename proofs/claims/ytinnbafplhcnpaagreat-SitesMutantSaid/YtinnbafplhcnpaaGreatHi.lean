import Derived.WalkSpells
import Derived.Lib.SliceRun
import Derived.Laws.CopyRow
import Derived.Shelf.Spec.SlicesInsert
import Derived.Lib.AppendZerosOnto
import Derived.Laws.NewBlocks
import Derived.Test.YtinnbafplhcnpaaGreatHb
import Derived.Test.YtinnbafplhcnpaaGreatHd
import Derived.Test.YtinnbafplhcnpaaGreatHe
import Derived.Test.YtinnbafplhcnpaaGreatHg
import Derived.Test.YtinnbafplhcnpaaGreatHh
section
namespace Go.Proofs.YtinnbafplhcnpaaGreat
open Go.RowKit Go.Shelf
set_option linter.unusedVariables false
attribute [local go_sem] Oper.semAt_some
set_option maxHeartbeats 1000000 in
theorem Qbj       (l : List Int) (v : Value) (w : World) (S : Nat → Prop) (hS : ∀ k, S k → k < w.heap.size) (hv : IntsIn S w v l) (hl : l.length ≤ 4000000) :
    Calls Tryz.prog 73 #[v] w fun e w' => ∃ u, e = .returned u /\ w'.ownsRow w.heap.size 3 1 u l.length (l.map (Value.int .i64)) /\ Below w.heap.size w w' := by
  obtain ⟨i0, hi, hz0, hz1, hz2⟩ := info_parts Jtj
  have qT : ∀ (w : World) (a : Option Addr) (n c n' c' : Nat), (binOp .eql 22 (.slice a n c) (.slice none n' c')).run Tryz.prog w = .ok (.bool a.isNone) w := fun w a n c n' c' => Lib.run_eql_slice_nil w _ _ a n c n' c' Tryz.underlying22
  obtain ⟨p, cap, hpc⟩ := hv.slice
  subst hpc
  cases p with
  | none =>
    have hl0 : l = [] := by
      rcases hv.open with ⟨rfl, _⟩ | ⟨b, o, cap', hsl, _⟩
      · rfl
      · cases hsl
    subst hl0
    go_enter Tryz.func73, Tryz.ntmps73
    go_wp2
    go_ret
    exact ⟨_, rfl, World.ownsRow_nil _ _ _ _, Below.refl _ _⟩
  | some ad =>
    go_enter Tryz.func73, Tryz.ntmps73
    have hv2 := hv.kept (Jg3 (below_alloc1 w (.cells #[] 3)) hS)
    go_wp2_with (at_builtin; refine Jek rfl _ _ 22 rfl w.heap.size 3 i0 (.int .i64 0) 1 8 Tryz.underlying22 hi hz0 hz1 hz2 rfl (by decide) _ _ _ rfl (Je9 w w.heap.size 3 1 (Nat.le_refl _)) _ l.length _ rfl hv2 (by simp) (Qe0 l) (by unfold maxLen; omega) (by omega) (by simp) ?_; intro v' w3 hown' hgrow)
    go_ret
    refine ⟨_, rfl, by simpa using hown', ((Below.refl _ _).alloc (Nat.le_refl _) _).grown hgrow (by simp) (fun j hj => ?_)⟩
    exact ((Je9 w w.heap.size 3 1 (Nat.le_refl _)).lt j hj).1
theorem Jtz         (w : World) (a b c : Value) (ta tb tc : TypeId) :
    (((w.alloc (.cells #[a] ta)).alloc (.cells #[b] tb)).alloc (.cells #[c] tc)).cell? ⟨w.heap.size, 0, none⟩ = some a /\
    (((w.alloc (.cells #[a] ta)).alloc (.cells #[b] tb)).alloc (.cells #[c] tc)).cell? ⟨w.heap.size + 1, 0, none⟩ = some b /\
    (((w.alloc (.cells #[a] ta)).alloc (.cells #[b] tb)).alloc (.cells #[c] tc)).cell? ⟨w.heap.size + 1 + 1, 0, none⟩ = some c := by
  have h1 := Boxed.new w ta a
  have h2 := Boxed.new (w.alloc (.cells #[a] ta)) tb b
  have h3 := Boxed.new ((w.alloc (.cells #[a] ta)).alloc (.cells #[b] tb)) tc c
  rw [World.size_alloc] at h2
  rw [World.size_alloc, World.size_alloc] at h3
  exact ⟨((h1.alloc _).alloc _).cell, (h2.alloc _).cell, h3.cell⟩
def Jyh (v : Value) : Prop := ∃ (p : Option Addr) (n c : Nat), v = .slice p n c
theorem IntsIn.isSlice {S : Nat -> Prop} {w : World} {v : Value} {l : List Int} (h : IntsIn S w v l) : Jyh v := by obtain ⟨p, c, h⟩ := h.slice; exact ⟨_, _, _, h⟩
theorem NodesIn.isSlice {S : Nat -> Prop} {w : World} {v : Value} {l : List Nd} (h : NodesIn S w v l) : Jyh v := by obtain ⟨p, c, h⟩ := h.slice; exact ⟨_, _, _, h⟩
theorem Jzb       (lv ov : Value) (i : Int) (hl : Jyh     lv) (ho : Jyh     ov) (w : World) :
    Calls Tryz.prog 45 #[lv, .int .i64 i, ov] w fun e w' =>
      e = .returned (.func (.func 88) #[] #[.pointer (some ⟨w.heap.size + 1, 0, none⟩), .pointer (some ⟨w.heap.size + 1 + 1, 0, none⟩), .pointer (some ⟨w.heap.size, 0, none⟩)]) /\
      w' = ((w.alloc (.cells #[lv] 23)).alloc (.cells #[.int .i64 i] 3)).alloc (.cells #[ov] 22) := by
  obtain ⟨p, n, c, rfl⟩ := hl
  obtain ⟨q, n', c', rfl⟩ := ho
  go_enter Tryz.func45, Tryz.ntmps45
  go_wp2
  go_ret
  exact ⟨rfl, rfl⟩
abbrev Step := Int × Value × List Int
def Jkt (x : Step) : Array Value := #[.int .i64 x.1, x.2.1]
def stepOf (x : Step) : Int × List Int := (x.1, x.2.2)
def Qba (X : Nat -> Prop) (x : Step) (W : World) : Prop := IntsIn (fun k => ¬ X k /\ k < W.heap.size) W x.2.1 x.2.2
def Jny (ys : List (Int × List Int)) (xs : List Step) (b : Bool) : Prop := if b = true then xs.map stepOf = ys else xs.map stepOf <+: ys
theorem ownsRow_base {w : World} {base base' : Nat} {e : TypeId} {size : Nat} {v : Value} {n : Nat} {xs : List Value} (h : w.ownsRow base e size v n xs) (hb : base' <= base) : w.ownsRow base' e size v n xs := by
  refine ⟨h.1, ?_⟩
  rcases h.2 with h2 | ⟨g, cap, cur, h1, h2, h3⟩
  · exact .inl h2
  · exact .inr ⟨g, cap, cur, h1, Nat.le_trans hb h2, h3⟩
theorem Jqn {B : Nat} {w w' : World} {v : Value} {l : List Int} (h : IntsIn (fun k => B <= k /\ k < w.heap.size) w v l) (hb : Below w.heap.size w w') : IntsIn (fun k => B <= k /\ k < w'.heap.size) w' v l :=
  (IntsIn.kept h (Jg3 hb (fun k hk => hk.2))).mono (fun k hk => ⟨hk.1, Nat.lt_of_lt_of_le hk.2 hb.size⟩)
theorem Qbo         {F : Fence} {n : Nat} {P : Program} {o : Oper} {a : Act} {w w' : World} {K : Act → World → Prop} {Q : Exit → Act → World → Prop} {s x : Operand} {t : TypeId} {v u v' : Value}
    (hop : o.op = Op.call { callee := Callee.builtin Builtin.append, args := #[s, x], argTypes := #[t, t] }) (hrun : (Builtin.append_ #[t, t] o.type #[v, u]).run P w = .ok v' w') (hs : a.eval s = v) (hx : a.eval x = u) (hK : K (a.put o.dst v') w') : o.wpIn F n P a w K Q := by
  unfold Oper.wpIn
  refine ⟨?_, ?_⟩
  · simp [Oper.about, hop, resolve, Target.leads, Sem.run_pure]
  · rw [Oper.semAt_plain F _ _ (by rw [hop]; intro c hc'; cases hc')]
    simp [execOp, hop, resolve, invoke, builtin, hs, hx, hrun, Result.andThen]
    exact hK
set_option maxRecDepth 100000 in
set_option maxHeartbeats 4000000 in
theorem Qgz        (l : List Nd) (lv : Value) (hl : l.length ≤ 4000000) (X : Nat → Prop) : ∀ (f : Nat) (i : Int) (own : List Int) (ov : Value) (Bl Ba Bo : Nat) (W : World),
    0 <= i -> i <= l.length -> (l.length : Int) < i + f -> own.length + f <= 4000000 -> (∀ k, X k -> k < W.heap.size) -> ¬ X Bl -> ¬ X Ba -> ¬ X Bo ->
    W.cell? ⟨Bl, 0, none⟩ = some lv -> W.cell? ⟨Ba, 0, none⟩ = some (.int .i64 i) -> W.cell? ⟨Bo, 0, none⟩ = some ov ->
    NodesIn (fun k => ¬ X k /\ k < W.heap.size) W lv l -> IntsIn (fun k => ¬ X k /\ k < W.heap.size) W ov own ->
    Iter Tryz.prog 88 #[.pointer (some ⟨Ba, 0, none⟩), .pointer (some ⟨Bo, 0, none⟩), .pointer (some ⟨Bl, 0, none⟩)] Jkt (Qba X) (KeptBut X W.heap.size) (Jdc f l i own).length (Jny (Jdc f l i own)) W := by
  obtain ⟨i0, hi, hz0, hz1, hz2⟩ := info_parts Jtj
  intro f
  induction f with
  | zero =>
    intro i own ov Bl Ba Bo W _ h1 h2
    exfalso; omega
  | succ f ih =>
    intro i own ov Bl Ba Bo W hi0 hil hif hof hX hxl hxa hxo hbl hba hbo hlv hov lp J hJ hY hJ0
    refine callsIn_of_wp_marks Tryz.func88 rfl trivial ?_ rfl
    simp only [Tryz.ntmps88, List.size_toArray, List.length_cons, List.length_nil, Nat.reduceAdd, Nat.reduceSub, Array.replicate_succ, Array.replicate_zero, List.push_toArray, List.append_toArray, List.nil_append, List.cons_append]
    have hby : Below W.heap.size W (W.alloc (.cells #[.func (.yield lp) #[] #[]] 106)) := below_alloc1 _ _
    have hkb := Jcx (X := X) (B := W.heap.size) hby
    have hJ1 := Jem (hJ true) hJ0 hby
    obtain ⟨fn, tmps, assign, body, hy, hR⟩ := hY [] (i, ov, own) _ hJ1 (SliceIn.keptBut hov hkb) (Qg0 _ _ _ _)
    dsimp only [Jkt] at hy
    have hba1 := hkb.cell (p := ⟨Ba, 0, none⟩) hxa hba
    have hbo1 := hkb.cell (p := ⟨Bo, 0, none⟩) hxo hbo
    gi_wp2
    refine hR.mono ?_
    rintro e W2 ⟨b, rfl, hJ2, hk2⟩
    cases b with
    | false =>
      gi_wp2
      exact ⟨_, results_none rfl _ _ _, ⟨_, rfl⟩, [(i, ov, own)], false, by simp [Jny, stepOf, Jdc], hJ2⟩
    | true =>
      have hk2w := hk2
      replace hk2 := hkb.trans hk2
      have hbl2 := hk2.cell (p := ⟨Bl, 0, none⟩) hxl hbl
      have hba2 := hk2.cell (p := ⟨Ba, 0, none⟩) hxa hba
      have hlv2 : Jbz W2 lv l := NodesIn.mono (SliceIn.keptBut hlv hk2) (fun _ h => h.2)
      gi_wp2_with (gi_at_call 48; refine (callsIn_wide.2 (Jpt l _ _ _ hlv2 hl)).mono ?_; rintro e W3 ⟨u, rfl, hks, hb3⟩; obtain ⟨pk, ck, hsl⟩ := hks.slice; subst hsl)
      have hk3 : KeptBut X W.heap.size W W3 := hk2.trans (Jcx hb3)
      have hJ3 := Jem (hJ true) hJ2 hb3
      have hbl3 := hk3.cell (p := ⟨Bl, 0, none⟩) hxl hbl
      have hbo3 := hk3.cell (p := ⟨Bo, 0, none⟩) hxo hbo
      have hby3 : W3.cell? ⟨W.heap.size, 0, none⟩ = some (.func (.yield lp) #[] #[]) := (hk2w.trans (Jcx hb3)).cell (p := ⟨W.heap.size, 0, none⟩) (fun hx => absurd (hX _ hx) (Nat.lt_irrefl _)) (Boxed.new W 106 (.func (.yield lp) #[] #[])).cell
      have hz3 : W.heap.size < W3.heap.size := by have h1 := hk2w.size; rw [World.size_alloc] at h1; have h2 := hb3.size; omega
      have hks3 : IntsIn (fun k => ¬ X k /\ k < W3.heap.size) W3 (.slice pk (Jab l i).length ck) (Jab l i) := hks.mono (fun k hk => ⟨fun hx => by have := hX k hx; have := hk2.size; omega, hk.2⟩)
      refine wpIn_loop (fun a V => ∃ (c : Nat) (Ds : List Nat) (xs : List Step) (u5 u6 u7 u8 u19 u20 u21 u22 u23 u24 u25 u26 u27 u28 u29 u30 u31 u32 u33 u34 u35 u36 u37 u38 : Value),
        a = { tmps := #[.func (.yield lp) #[] #[], .pointer (some ⟨Ba, 0, none⟩), .pointer (some ⟨Bo, 0, none⟩), .pointer (some ⟨Bl, 0, none⟩), .pointer (some ⟨W.heap.size, 0, none⟩), u5, u6, u7, u8, .func (.yield lp) #[] #[], .int .i64 i, ov, .bool true, .bool false, lv, .int .i64 i, .slice pk (Jab l i).length ck, .int .i64 (Jab l i).length, .int .i64 c, u19, u20, u21, u22, u23, u24, u25, u26, u27, u28, u29, u30, u31, u32, u33, u34, u35, u36, u37, u38], defers := marks Ds } /\
        c ≤ (Jab   l i).length ∧ Ds.Nodup ∧ (∀ D, D ∈ Ds → V.heap[D]? = some (.deferred (some [])) ∧ W.heap.size ≤ D) ∧ Hid (xs.map stepOf = (i, own) :: Jix     f l i own c) ∧ J xs true V ∧ KeptBut X W.heap.size W3 V)
        (fun a _ => (Jab l i).length - (intOf (a.tmps.getD 18 undef)).toNat) ?_ ?_
      · exact ⟨0, [], [(i, ov, own)], _, _, _, _, _, _, _, _, _, _, _, _, _, _, _, _, _, _, _, _, _, _, _, _, rfl, Nat.zero_le _, List.nodup_nil, (fun _ h => by cases h), Lib.hid rfl, hJ3, KeptBut.refl _ _ _⟩
      · rintro a V ⟨c, Ds, xs, u5, u6, u7, u8, u19, u20, u21, u22, u23, u24, u25, u26, u27, u28, u29, u30, u31, u32, u33, u34, u35, u36, u37, u38, rfl, hc, hnd, hDs, hxs, hJV, hkV⟩
        have hblV := hkV.cell (p := ⟨Bl, 0, none⟩) hxl hbl3
        have hboV := hkV.cell (p := ⟨Bo, 0, none⟩) hxo hbo3
        have hbyV := hkV.cell (p := ⟨W.heap.size, 0, none⟩) (fun hx => absurd (hX _ hx) (Nat.lt_irrefl _)) hby3
        have hksV : IntsIn (fun k => ¬ X k /\ k < V.heap.size) V (.slice pk (Jab l i).length ck) (Jab l i) := SliceIn.keptBut hks3 hkV
        have hovW : IntsIn (fun k => ¬ X k /\ k < V.heap.size) V ov own := SliceIn.keptBut hov (hk3.trans hkV)
        have hltl : Bl < V.heap.size := by obtain ⟨o, ho, _⟩ := cells_of_cell hblV; exact (Array.getElem?_eq_some_iff.1 ho).1
        have hlto : Bo < V.heap.size := by obtain ⟨o, ho, _⟩ := cells_of_cell hboV; exact (Array.getElem?_eq_some_iff.1 ho).1
        by_cases hlt : c < (Jab l i).length
        · rcases hksV.open with ⟨h0, _⟩ | ⟨bk, ok, ck', hsl, hkp, hkc, hkx, hkcell⟩
          · rw [h0] at hlt; simp at hlt
          have hkc0 := hkcell c hlt
          obtain ⟨rfl, rfl⟩ : pk = some ⟨bk, ok, none⟩ /\ ck = ck' := by simpa using hsl
          clear hkcell hsl
          gi_wp2
          refine Code.wpIn_mono (Q := fun e a' V' => e = .normal /\ ∃ (B : Nat) (v26 v28 ov' : Value),
            a' = { tmps := #[.func (.yield lp) #[] #[], .pointer (some ⟨Ba, 0, none⟩), .pointer (some ⟨Bo, 0, none⟩), .pointer (some ⟨Bl, 0, none⟩), .pointer (some ⟨W.heap.size, 0, none⟩), .int .i64 c, .int .i64 (Jab l i)[c], u7, u8, .func (.yield lp) #[] #[], .int .i64 i, ov, .bool true, .bool false, lv, .int .i64 i, .slice (some ⟨bk, ok, none⟩) (Jab l i).length ck, .int .i64 (Jab l i).length, .int .i64 c, .bool true, .int .i64 c, .pointer (some ⟨bk, ok + c, none⟩), .int .i64 (Jab l i)[c], lv, .int .i64 (Jab l i)[c], ov, v26, .int .i64 c, v28, ov', .func (.func 88) #[] #[.pointer (some ⟨B + 1, 0, none⟩), .pointer (some ⟨B + 1 + 1, 0, none⟩), .pointer (some ⟨B, 0, none⟩)], u31, u32, u33, u34, u35, u36, u37, u38], defers := marks Ds } /\ Below V.heap.size V V' /\ V.heap.size <= B /\ B + 2 < V'.heap.size /\ V'.cell? ⟨B, 0, none⟩ = some lv /\ V'.cell? ⟨B + 1, 0, none⟩ = some (.int .i64 (Jab l i)[c]) /\ V'.cell? ⟨B + 1 + 1, 0, none⟩ = some ov' /\
            IntsIn (fun k => V.heap.size ≤ k ∧ k < V'.heap.size) V' ov' (own ++ [(c : Int)])) ?_ ?_
          · rintro e a' V' ⟨rfl, B, v26, v28, ov', rfl, hbV, hBV, hB2, hcl, hca, hco, hov'⟩
            gi_wp2
            have hkv := Jfz l i c hlt
            have hkl := Jbn l i
            have hIX : IntsIn (fun k => ¬ X k /\ k < V'.heap.size) V' ov' (own ++ [(c : Int)]) := hov'.mono (fun k hk => ⟨fun hx => by have := hX k hx; have := (hk3.trans hkV).size; omega, hk.2⟩)
            have hkV' : KeptBut X W.heap.size W V' := (hk3.trans hkV).trans (Jcx hbV)
            have hzV : W.heap.size < V.heap.size := by have := hkV.size; omega
            have hzV' := hbV.size
            have hDb : ∀ D, D ∈ Ds -> D < V'.heap.size := fun D hD => Nat.lt_of_lt_of_le (Array.getElem?_eq_some_iff.1 (hDs D hD).1).1 hzV'
            refine Jqe (gf := 88) (lb := #[.pointer (some ⟨B + 1, 0, none⟩), .pointer (some ⟨B + 1 + 1, 0, none⟩), .pointer (some ⟨B, 0, none⟩)]) rfl (enters_of Tryz.func88 (by kernel_rfl) rfl)
              (encs := Jkt) (G := Qba X) (Kp := KeptBut X (V'.heap.size + 2)) (N := (Jdc f l (Jab l i)[c] (own ++ [(c : Int)])).length) (R := Jny (Jdc f l (Jab l i)[c] (own ++ [(c : Int)]))) (fun _ => rfl)
              (fun W' hb' hs' => by
                have hkW : KeptBut X W.heap.size V' W' := Jcx hb'
                have := ih (Jab l i)[c] (own ++ [(c : Int)]) ov' B (B + 1) (B + 1 + 1) W' (by omega) (by omega) (by omega) (by simp; omega) (fun k hk => by have := hX k hk; have := (hkV'.trans hkW).size; omega)
                  (fun hx => by have := hX _ hx; omega) (fun hx => by have := hX _ hx; omega) (fun hx => by have := hX _ hx; omega)
                  (hkW.cell (p := ⟨B, 0, none⟩) (fun hx => by have := hX _ hx; simp at this; omega) hcl) (hkW.cell (p := ⟨B + 1, 0, none⟩) (fun hx => by have := hX _ hx; simp at this; omega) hca) (hkW.cell (p := ⟨B + 1 + 1, 0, none⟩) (fun hx => by have := hX _ hx; simp at this; omega) hco)
                  (SliceIn.keptBut hlv (hkV'.trans hkW)) (SliceIn.keptBut hIX hkW)
                rwa [hs'] at this)
              (fun h h' => h.trans h') (fun U q o o' h1 h2 h3 h4 _ => Jjx U q o o' h2 h3 h4)
              (fun pre U => J (xs ++ pre) true U /\ KeptBut X W.heap.size W3 U /\ (∀ D, D ∈ Ds -> U.heap[D]? = some (.deferred (some []))))
              (fun cc pre U => cc = .ret /\ J (xs ++ pre) false U /\ (∀ D, D ∈ Ds -> U.heap[D]? = some (.deferred (some []))))
              ?hI ?hIx ?hG ?h0
              (fun x => { tmps := #[.func (.yield lp) #[] #[], .pointer (some ⟨Ba, 0, none⟩), .pointer (some ⟨Bo, 0, none⟩), .pointer (some ⟨Bl, 0, none⟩), .pointer (some ⟨W.heap.size, 0, none⟩), .int .i64 c, .int .i64 (Jab l i)[c], .int .i64 x.1, x.2.1, .func (.yield lp) #[] #[], .int .i64 i, ov, .bool true, .bool false, lv, .int .i64 i, .slice (some ⟨bk, ok, none⟩) (Jab l i).length ck, .int .i64 (Jab l i).length, .int .i64 c, .bool true, .int .i64 c, .pointer (some ⟨bk, ok + c, none⟩), .int .i64 (Jab l i)[c], lv, .int .i64 (Jab l i)[c], ov, v26, .int .i64 c, v28, ov', .func (.func 88) #[] #[.pointer (some ⟨B + 1, 0, none⟩), .pointer (some ⟨B + 1 + 1, 0, none⟩), .pointer (some ⟨B, 0, none⟩)], .int .i64 x.1, x.2.1, u33, u34, u35, u36, u37, u38], defers := [] }) ?assign ?body ?done ?stop
            case hI =>
              exact OwnFrom.and (fun pre A C row hs hg hr => hJ true (xs ++ pre) A C row hs hg (fun r e => by obtain ⟨h1, h2⟩ := hr r e; exact ⟨by omega, h2⟩))
                (OwnFrom.and (Js3 (by have := hkV.size; have := hbV.size; omega)) (fun pre A C row hs hg hr D hD => Jlj (β := Unit) (hDb D hD) () A C row (hs D hD) hg hr))
            case hIx =>
              exact fun cc => OwnFrom.and (fun _ _ _ _ hs _ _ => hs) <| OwnFrom.and (fun pre A C row hs hg hr => hJ false (xs ++ pre) A C row hs hg (fun r e => by obtain ⟨h1, h2⟩ := hr r e; exact ⟨by omega, h2⟩))
                (fun pre A C row hs hg hr D hD => Jlj (β := Unit) (hDb D hD) () A C row (hs D hD) hg hr)
            case hG => exact fun x => Jib
            case h0 =>
              refine ⟨by rw [List.append_nil]; exact Jem (hJ true) hJV hbV, hkV.trans (Jcx hbV), fun D hD => ?_⟩
              exact (hbV.block D (Array.getElem?_eq_some_iff.1 (hDs D hD).1).1).trans (hDs D hD).1
            case assign =>
              intro lq x U K hK
              dsimp only [Jkt]
              gi_wp2
              exact hK
            case body =>
              rintro lq pre x U ⟨hJU, hkU, hDU⟩ hgx hlen
              have hlen2 : (xs ++ pre).length < (Jdc (f + 1) l i own).length := by
                have h1 := (Jnz f l i own (c + 1)).length_le
                rw [Jjf f l i own c hlt] at h1
                have h2 := congrArg List.length hxs.out
                simp only [List.length_map, List.length_cons, List.length_append] at h1 h2 ⊢
                omega
              obtain ⟨fn2, tmps2, as2, bd2, hy2, hR2⟩ := hY (xs ++ pre) x U hJU hgx hlen2
              dsimp only [Jkt] at hy2
              have hbyU := hkU.cell (p := ⟨W.heap.size, 0, none⟩) (fun hx => absurd (hX _ hx) (Nat.lt_irrefl _)) hby3
              gi_wp2
              refine (Jub hR2).mono ?_
              rintro e U2 ⟨b, rfl, hJ2, hkp2⟩
              have hkf : KeepsFrom V'.heap.size U U2 := ⟨hkp2.size, fun k o hB hk ho => hkp2.other k o (by omega) hk ho⟩
              have hd2 : ∀ D, D ∈ Ds -> U2.heap[D]? = some (.deferred (some [])) := fun D hD => hkp2.other D _ (hDs D hD).2 (hDU D hD) rfl
              rw [List.append_assoc] at hJ2
              cases b with
              | true =>
                gi_wp2
                exact ⟨hkf, hkp2.mono (by omega), hJ2, hkU.trans hkp2, hd2⟩
              | false =>
                gi_wp2
                exact ⟨hkf, hkp2.mono (by omega), rfl, hJ2, hd2⟩
            case done =>
              rintro D ys U hD hR ⟨hJU, hkU, hDU⟩ hK
              gi_wp2
              have hzU := hkU.size
              refine ⟨⟨c + 1, D :: Ds, xs ++ ys, _, _, _, _, _, _, _, _, _, _, _, _, _, _, _, _, _, _, _, _, _, _, _, _, rfl, hlt, List.nodup_cons.2 ⟨fun h => by have := hDb D h; omega, hnd⟩, ?_, ?_, hJU, hkU⟩, ?_⟩
              · intro E hE
                rcases List.mem_cons.1 hE with rfl | hE
                · exact ⟨hK, by omega⟩
                · exact ⟨hDU E hE, (hDs E hE).2⟩
              · refine Lib.hid ?_
                have hR' : ys.map stepOf = Jdc f l (Jab l i)[c] (own ++ [(c : Int)]) := by simpa [Jny] using hR
                rw [List.map_append, hxs.out, hR', Jjf f l i own c hlt, List.cons_append]
              · simp [intOf]
                omega
            case stop =>
              rintro D cc ys U hD hR ⟨rfl, hJU, hDU⟩ hK
              gi_wp2
              have hR' : ys.map stepOf <+: Jdc f l (Jab l i)[c] (own ++ [(c : Int)]) := by simpa [Jny] using hR
              refine Jmg _ (J (xs ++ ys) false) (D :: Ds) U (List.nodup_cons.2 ⟨fun h => by have := hDb D h; omega, hnd⟩) ?_ ?_ hJU
                (fun W' hj => ⟨results_none rfl _ _ _, ⟨_, rfl⟩, xs ++ ys, false, ?_, hj⟩)
              · intro E hE
                rcases List.mem_cons.1 hE with rfl | hE
                · exact hK
                · exact hDU E hE
              · intro A E hE ho hj
                refine (hJ false).putObj _ hj ?_ ho rfl
                rcases List.mem_cons.1 hE with rfl | hE
                · omega
                · exact (hDs E hE).2
              · rw [Jny, if_neg (by decide), List.map_append, hxs.out]
                exact Js0 f l i own c hlt _ hR'
          · have hmix : Tryz.prog.follows .mixedOrders = true := by kernel_rfl
            obtain ⟨Inv, hInv⟩ : ∃ Inv : (Nat -> Bool) -> Act -> World -> Prop, Inv = (fun d a' V' => ∃ (v23 v24 v25 v26 v27 v28 v29 v30 : Value), a' = { tmps := #[.func (.yield lp) #[] #[], .pointer (some ⟨Ba, 0, none⟩), .pointer (some ⟨Bo, 0, none⟩), .pointer (some ⟨Bl, 0, none⟩), .pointer (some ⟨W.heap.size, 0, none⟩), .int .i64 c, .int .i64 (Jab l i)[c], u7, u8, .func (.yield lp) #[] #[], .int .i64 i, ov, .bool true, .bool false, lv, .int .i64 i, .slice (some ⟨bk, ok, none⟩) (Jab l i).length ck, .int .i64 (Jab l i).length, .int .i64 c, .bool true, .int .i64 c, .pointer (some ⟨bk, ok + c, none⟩), .int .i64 (Jab l i)[c], v23, v24, v25, v26, v27, v28, v29, v30, u31, u32, u33, u34, u35, u36, u37, u38], defers := marks Ds } /\ Below V.heap.size V V' /\
              (d 0 = true -> v23 = lv) /\ (d 1 = true -> v24 = .int .i64 (Jab l i)[c]) /\ (d 2 = true -> v25 = ov) /\ (d 3 = true -> d 6 = false -> V'.ownsRow V.heap.size 3 1 v26 own.length (own.map (Value.int .i64))) /\
              (d 4 = true -> v27 = .int .i64 c) /\ (d 5 = true -> d 6 = false -> ∃ b5, v28 = .slice (some ⟨b5, 0, none⟩) 1 1 /\ V'.cell? ⟨b5, 0, none⟩ = some (.int .i64 c) /\ b5 < V'.heap.size) /\
              (d 6 = true -> IntsIn (fun k => V.heap.size <= k /\ k < V'.heap.size) V' v29 (own ++ [(c : Int)])) /\
              (d 7 = true -> d 6 = true /\ ∃ B, v30 = .func (.func 88) #[] #[.pointer (some ⟨B + 1, 0, none⟩), .pointer (some ⟨B + 1 + 1, 0, none⟩), .pointer (some ⟨B, 0, none⟩)] /\ V.heap.size <= B /\ B + 2 < V'.heap.size /\
                V'.cell? ⟨B, 0, none⟩ = some lv ∧ V'.cell? ⟨B + 1, 0, none⟩ = some (.int .i64 (Jab   l i)[c]) ∧ V'.cell? ⟨B + 1 + 1, 0, none⟩ = some v29)) := ⟨_, rfl⟩
            have HI := Lib.hid hInv
            clear hInv
            refine Jqd hmix Inv (by kernel_rfl) ?_ ?_ ?_
            · rw [HI.out]
              exact ⟨_, _, _, _, _, _, _, _, rfl, (Below.refl _ _).drew, (fun h => by cases h), (fun h => by cases h), (fun h => by cases h), (fun h => by cases h), (fun h => by cases h), (fun h => by cases h), (fun h => by cases h), (fun h => by cases h)⟩
            · refine ⟨?_, ?_, ?_, ?_, ?_, ?_, ?_, ?_, trivial⟩
              · intro d a' V' K hd hdep hI hK
                rw [HI.out] at hI
                obtain ⟨v23, v24, v25, v26, v27, v28, v29, v30, rfl, hB, f0, f1, f2, f3, f4, f5, f6, f7⟩ := hI
                rw [if_pos (show Region.wanted _ _ = true from rfl)]
                have hx := (hB.cell (p := ⟨Bl, 0, none⟩) hltl).trans hblV
                gi_wp2
                rw [HI.out]
                exact ⟨_, _, _, _, _, _, _, _, rfl, hB, (fun _ => rfl), (Jb7 (by decide) f1), (Jb7 (by decide) f2), (Je0 (by decide) (by decide) f3), (Jb7 (by decide) f4), (Je0 (by decide) (by decide) f5), (Jb7 (by decide) f6), (fun h => by obtain ⟨g1, g2⟩ := f7 (by rwa [Jbl d (by decide)] at h); exact ⟨by rw [Jbl d (by decide)]; exact g1, g2⟩)⟩
              · intro d a' V' K hd hdep hI hK
                rw [HI.out] at hI
                obtain ⟨v23, v24, v25, v26, v27, v28, v29, v30, rfl, hB, f0, f1, f2, f3, f4, f5, f6, f7⟩ := hI
                rw [if_pos (show Region.wanted _ _ = true from rfl)]
                gi_wp2
                rw [HI.out]
                exact ⟨_, _, _, _, _, _, _, _, rfl, hB, (Jb7 (by decide) f0), (fun _ => rfl), (Jb7 (by decide) f2), (Je0 (by decide) (by decide) f3), (Jb7 (by decide) f4), (Je0 (by decide) (by decide) f5), (Jb7 (by decide) f6), (fun h => by obtain ⟨g1, g2⟩ := f7 (by rwa [Jbl d (by decide)] at h); exact ⟨by rw [Jbl d (by decide)]; exact g1, g2⟩)⟩
              · intro d a' V' K hd hdep hI hK
                rw [HI.out] at hI
                obtain ⟨v23, v24, v25, v26, v27, v28, v29, v30, rfl, hB, f0, f1, f2, f3, f4, f5, f6, f7⟩ := hI
                rw [if_pos (show Region.wanted _ _ = true from rfl)]
                have hx := (hB.cell (p := ⟨Bo, 0, none⟩) hlto).trans hboV
                gi_wp2
                rw [HI.out]
                exact ⟨_, _, _, _, _, _, _, _, rfl, hB, (Jb7 (by decide) f0), (Jb7 (by decide) f1), (fun _ => rfl), (Je0 (by decide) (by decide) f3), (Jb7 (by decide) f4), (Je0 (by decide) (by decide) f5), (Jb7 (by decide) f6), (fun h => by obtain ⟨g1, g2⟩ := f7 (by rwa [Jbl d (by decide)] at h); exact ⟨by rw [Jbl d (by decide)]; exact g1, g2⟩)⟩
              · intro d a' V' K hd hdep hI hK
                rw [HI.out] at hI
                obtain ⟨v23, v24, v25, v26, v27, v28, v29, v30, rfl, hB, f0, f1, f2, f3, f4, f5, f6, f7⟩ := hI
                rw [if_pos (show Region.wanted _ _ = true from rfl)]
                obtain rfl := f2 (hdep ⟨2, .data⟩ (by simp) rfl)
                have hovV : IntsIn (fun k => ¬ X k /\ k < V.heap.size) V' v25 own := hovW.kept (Jg3 hB (fun k hk => hk.2))
                gi_wp2_with (gi_at_call 73; refine (callsIn_wide.2 (Qbj own _ _ _ (fun k hk => Nat.lt_of_lt_of_le hk.2 hB.size) hovV (by omega))).mono ?_; rintro e V2 ⟨u2, rfl, hr2, hb2⟩)
                rw [HI.out]
                exact ⟨_, _, _, _, _, _, _, _, rfl, hB.trans (hb2.mono hB.size), (Jb7 (by decide) f0), (Jb7 (by decide) f1), (fun _ => rfl), (fun _ _ => ownsRow_base hr2 hB.size), (Jb7 (by decide) f4), (Je0 (by decide) (by decide) (fun h h' => by obtain ⟨b5, g1, g2, g3⟩ := f5 h h'; exact ⟨b5, g1, (hb2.cell (p := ⟨b5, 0, none⟩) g3).trans g2, Nat.lt_of_lt_of_le g3 hb2.size⟩)), (Jb7 (by decide) (fun h => Jqn (f6 h) hb2)), (fun h => by obtain ⟨g0, B, g1, g2, g3, g4, g5, g6⟩ := f7 (by rwa [Jbl d (by decide)] at h); have hz2 := hb2.size; exact ⟨by rw [Jbl d (by decide)]; exact g0, B, g1, g2, by omega, (hb2.cell (p := ⟨B, 0, none⟩) (by show B < _; omega)).trans g4, (hb2.cell (p := ⟨B + 1, 0, none⟩) (by show B + 1 < _; omega)).trans g5, (hb2.cell (p := ⟨B + 1 + 1, 0, none⟩) (by show B + 1 + 1 < _; omega)).trans g6⟩)⟩
              · intro d a' V' K hd hdep hI hK
                rw [HI.out] at hI
                obtain ⟨v23, v24, v25, v26, v27, v28, v29, v30, rfl, hB, f0, f1, f2, f3, f4, f5, f6, f7⟩ := hI
                rw [if_pos (show Region.wanted _ _ = true from rfl)]
                gi_wp2
                rw [HI.out]
                exact ⟨_, _, _, _, _, _, _, _, rfl, hB, (Jb7 (by decide) f0), (Jb7 (by decide) f1), (Jb7 (by decide) f2), (Je0 (by decide) (by decide) f3), (fun _ => rfl), (Je0 (by decide) (by decide) f5), (Jb7 (by decide) f6), (fun h => by obtain ⟨g1, g2⟩ := f7 (by rwa [Jbl d (by decide)] at h); exact ⟨by rw [Jbl d (by decide)]; exact g1, g2⟩)⟩
              · intro d a' V' K hd hdep hI hK
                rw [HI.out] at hI
                obtain ⟨v23, v24, v25, v26, v27, v28, v29, v30, rfl, hB, f0, f1, f2, f3, f4, f5, f6, f7⟩ := hI
                rw [if_pos (show Region.wanted _ _ = true from rfl)]
                obtain rfl := f4 (hdep ⟨4, .data⟩ (by simp) rfl)
                have hb2 := below_alloc1 V' (.cells #[.int .i64 c] 3)
                gi_wp2
                rw [HI.out]
                exact ⟨_, _, _, _, _, _, _, _, rfl, hB.trans (hb2.mono hB.size), (Jb7 (by decide) f0), (Jb7 (by decide) f1), (Jb7 (by decide) f2), (Je0 (by decide) (by decide) (fun h h' => ownsRow_below (f3 h h') hb2)), (fun _ => rfl), (fun _ _ => ⟨_, rfl, by simp, by simp⟩), (Jb7 (by decide) (fun h => Jqn (f6 h) hb2)), (fun h => by obtain ⟨g0, B, g1, g2, g3, g4, g5, g6⟩ := f7 (by rwa [Jbl d (by decide)] at h); have hz2 := hb2.size; exact ⟨by rw [Jbl d (by decide)]; exact g0, B, g1, g2, by omega, (hb2.cell (p := ⟨B, 0, none⟩) (by show B < _; omega)).trans g4, (hb2.cell (p := ⟨B + 1, 0, none⟩) (by show B + 1 < _; omega)).trans g5, (hb2.cell (p := ⟨B + 1 + 1, 0, none⟩) (by show B + 1 + 1 < _; omega)).trans g6⟩)⟩
              · intro d a' V' K hd hdep hI hK
                rw [HI.out] at hI
                obtain ⟨v23, v24, v25, v26, v27, v28, v29, v30, rfl, hB, f0, f1, f2, f3, f4, f5, f6, f7⟩ := hI
                rw [if_pos (show Region.wanted _ _ = true from rfl)]
                have hrow := f3 (hdep ⟨3, .data⟩ (by simp) rfl) hd
                obtain ⟨b5, rfl, hc5, hb5⟩ := f5 (hdep ⟨5, .data⟩ (by simp) rfl) hd
                have hnew : SliceIn (fun k => k < V'.heap.size) V' (.slice (some ⟨b5, 0, none⟩) 1 1) 1 [.int .i64 (c : Int)] := .inr ⟨b5, 0, 1, rfl, by omega, by omega, hb5, fun j hj => by
                  have hj0 : j = 0 := by simpa using hj
                  subst hj0; simpa using hc5⟩
                obtain ⟨v', w', hrun, r1, r2⟩ := Joz (P := Tryz.prog) V.heap.size 22 22 3 i0 (.int .i64 0) 1 8 Tryz.underlying22 hi hz0 hz1 hz2 rfl (by decide) v26 own.length _ hrow _ 1 _ hnew (by simp) (by simp [Value.oneCell']) (by unfold maxLen; omega) (by omega) hB.size
                refine Qbo rfl hrun rfl rfl (hK _ _ ?_)
                rw [HI.out]
                have hb2 : Below V.heap.size V w' := hB.grown r2 hB.size (fun j hj => (hrow.lt j hj).1)
                have hi6 : IntsIn (fun k => V.heap.size <= k /\ k < w'.heap.size) w' v' (own ++ [(c : Int)]) := Jhi (by simpa using r1)
                exact ⟨_, _, _, _, _, _, _, _, rfl, hb2, Jb7 (by decide) f0, Jb7 (by decide) f1, Jb7 (by decide) f2, (fun _ h => by rw [Jee] at h; cases h), Jb7 (by decide) f4, (fun _ h => by rw [Jee] at h; cases h), (fun _ => hi6), (fun h => by have := (f7 (by rwa [Jbl d (by decide)] at h)).1; rw [hd] at this; cases this)⟩
              · intro d a' V' K hd hdep hI hK
                rw [HI.out] at hI
                obtain ⟨v23, v24, v25, v26, v27, v28, v29, v30, rfl, hB, f0, f1, f2, f3, f4, f5, f6, f7⟩ := hI
                rw [if_pos (show Region.wanted _ _ = true from rfl)]
                obtain rfl := f0 (hdep ⟨0, .data⟩ (by simp) rfl)
                obtain rfl := f1 (hdep ⟨1, .data⟩ (by simp) rfl)
                have h6 := hdep ⟨6, .data⟩ (by simp) rfl
                have hi6 := f6 h6
                have h9 := IntsIn.isSlice hi6
                have hls := NodesIn.isSlice hlv
                gi_wp2_with (gi_at_call 45; refine (callsIn_wide.2 (Jzb _ _ _ hls h9 _)).mono ?_; rintro e V2 ⟨rfl, rfl⟩)
                rw [HI.out]
                exact by
                  have hb2 : Below V'.heap.size V' (((V'.alloc (.cells #[v23] 23)).alloc (.cells #[.int .i64 (Jab l i)[c]] 3)).alloc (.cells #[v29] 22)) := (((Below.refl _ _).alloc (Nat.le_refl _) _).alloc (by simp) _).alloc (by simp; omega) _
                  exact ⟨_, _, _, _, _, _, _, _, rfl, hB.trans (hb2.mono hB.size), (fun _ => rfl), (fun _ => rfl), (Jb7 (by decide) f2), (Je0 (by decide) (by decide) (fun h h' => ownsRow_below (f3 h h') hb2)), (Jb7 (by decide) f4), (fun _ h => by rw [Jbl d (by decide), h6] at h; cases h), (fun _ => Jqn hi6 hb2), (fun _ => ⟨by rw [Jbl d (by decide)]; exact h6, V'.heap.size, rfl, hB.size, by simp, Jtz _ _ _ _ _ _ _⟩)⟩
            · intro d a' V' hall hI
              rw [HI.out] at hI
              obtain ⟨v23, v24, v25, v26, v27, v28, v29, v30, rfl, hB, f0, f1, f2, f3, f4, f5, f6, f7⟩ := hI
              obtain rfl := f0 (hall 0 (by decide))
              obtain rfl := f1 (hall 1 (by decide))
              obtain rfl := f2 (hall 2 (by decide))
              obtain rfl := f4 (hall 4 (by decide))
              obtain ⟨_, B, rfl, g1, g2, g3, g4, g5⟩ := f7 (hall 7 (by decide))
              exact ⟨rfl, B, v26, v28, v29, rfl, hB, g1, g2, g3, g4, g5, f6 (hall 6 (by decide))⟩
        · gi_wp2
          obtain rfl : c = (Jab l i).length := by omega
          exact Jmg _ (J xs true) Ds V hnd (fun D hD => (hDs D hD).1) (fun A D hD ho hj => (hJ true).putObj _ hj (hDs D hD).2 ho rfl) hJV
            (fun W' hj => ⟨results_none rfl _ _ _, ⟨_, rfl⟩, xs, true, by rw [Jny, if_pos rfl, hxs.out, Js1], hj⟩)
end Go.Proofs.YtinnbafplhcnpaaGreat
end
section
namespace Go.Proofs.YtinnbafplhcnpaaGreat
def cmpI (x y : Int) : Int := if x < y then -1 else if y < x then 1 else 0
def cmpL : List Int -> List Int -> Int
  | [], [] => 0
  | [], _ :: _ => -1
  | _ :: _, [] => 1
  | x :: a, y :: b => if x < y then -1 else if y < x then 1 else cmpL a b
theorem Qam (a b : List Int) (k : Nat) (h1 : k < a.length) (h2 : k < b.length) (h : a[k] = b[k]) : cmpL (a.drop k) (b.drop k) = cmpL (a.drop (k + 1)) (b.drop (k + 1)) := by
  rw [List.drop_eq_getElem_cons h1, List.drop_eq_getElem_cons h2, cmpL, h, if_neg (by omega), if_neg (by omega)]
theorem Jqu (a b : List Int) (k : Nat) (h1 : k < a.length) (h2 : k < b.length) (h : a[k] ≠ b[k]) : cmpL (a.drop k) (b.drop k) = cmpI a[k] b[k] := by
  rw [List.drop_eq_getElem_cons h1, List.drop_eq_getElem_cons h2, cmpL, cmpI]
  split
  · rfl
  · rw [if_pos (by omega), if_pos (by omega)]
theorem Qfu (a b : List Int) (k : Nat) (h1 : k <= a.length) (h2 : k <= b.length) (h : k = a.length \/ k = b.length) : cmpL (a.drop k) (b.drop k) = cmpI a.length b.length := by
  rcases h with rfl | rfl
  · rw [List.drop_length]
    by_cases h3 : b.length = a.length
    · rw [<- h3, List.drop_length]; simp [cmpL, cmpI]
    · rw [List.drop_eq_getElem_cons (by omega), cmpL, cmpI, if_pos (by omega)]
  · rw [List.drop_length]
    by_cases h3 : b.length = a.length
    · rw [h3, List.drop_length]; simp [cmpL, cmpI]
    · rw [List.drop_eq_getElem_cons (by omega), cmpL, cmpI, if_neg (by omega), if_pos (by omega)]
def Jel (l : List Nd) : Int -> List Int -> Int
  | i, [] => i
  | i, n :: r => if 0 <= n /\ n.toNat < (Jab l i).length then Jel l ((Jab l i).getD n.toNat 0) r else -1
def Je6 (l : List Nd) (p : List Int) : Int := if endv l 0 = l.length then Jel l 0 p else -1
theorem Jfc (l : List Nd) (i : Int) (n : Int) (r : List Int) (j : Nat) (hn : n = j) (hj : j < (Jab l i).length) : Jel l i (n :: r) = Jel l (Jab l i)[j] r := by
  subst hn
  rw [Jel, if_pos ⟨by omega, by simpa using hj⟩]
  simp [hj]
theorem Jfn (l : List Nd) (i : Int) (n : Int) (r : List Int) (h : ¬ (0 <= n /\ n.toNat < (Jab l i).length)) : Jel l i (n :: r) = -1 := by rw [Jel, if_neg h]
def ofv (l : List Nd) (i : Int) : Option (List Int) := if endv l 0 = l.length then ((Jdc (l.length + 1) l 0 []).find? fun x => x.1 == i).map (·.2) else none
theorem Qeq (l : List Nd) (i : Int) (h : endv l 0 ≠ l.length) : ofv l i = none := by rw [ofv, if_neg h]
theorem Qal : ∀ a b : List Int, cmpL b a = - cmpL a b
  | [], [] => rfl
  | [], _ :: _ => rfl
  | _ :: _, [] => rfl
  | x :: a, y :: b => by
    have := Qal a b
    simp only [cmpL]
    rcases Int.lt_trichotomy x y with h | h | h
    · rw [if_pos h, if_neg (by omega), if_pos h]; rfl
    · rw [if_neg (by omega), if_neg (by omega), if_neg (by omega), if_neg (by omega)]; exact this
    · rw [if_pos h, if_neg (by omega), if_pos h]
theorem Jtv : ∀ a b : List Int, cmpL a b = 0 ↔ a = b
  | [], [] => by simp [cmpL]
  | [], _ :: _ => by simp [cmpL]
  | _ :: _, [] => by simp [cmpL]
  | x :: a, y :: b => by
    have := Jtv a b
    simp only [cmpL, List.cons.injEq]
    rcases Int.lt_trichotomy x y with h | h | h
    · rw [if_pos h]; exact ⟨fun h' => by omega, fun h' => by omega⟩
    · rw [if_neg (by omega), if_neg (by omega), this]; exact ⟨fun h' => ⟨h, h'⟩, fun h' => h'.2⟩
    · rw [if_neg (by omega), if_pos h]; exact ⟨fun h' => by omega, fun h' => by omega⟩
end Go.Proofs.YtinnbafplhcnpaaGreat
end
section
namespace Go.Proofs.YtinnbafplhcnpaaGreat
open Go.RowKit
set_option maxHeartbeats 2000000 in
theorem Qpr      (l : List Nd) (p : List Int) (v u : Value) (w : World) (hv : Jbz     w v l) (hu : Jmu    w u p) (hl : l.length ≤ 4000000) (hp : p.length ≤ 4000000) :
    Calls Tryz.prog 26 #[v, u] w fun e w' => e = .returned (.int .i64 (Je6 l p)) /\ Below w.heap.size w w' := by
  obtain ⟨pu, cu, hus⟩ := hu.slice
  subst hus
  obtain ⟨pv, cv, hvs⟩ := hv.slice
  subst hvs
  by_cases hE : endv l 0 = l.length
  · have hE' : (endv l 0 != (l.length : Int)) = false := by simp [hE]
    have HF : Hid (Je6 l p = Jel l 0 p) := Lib.hid (by rw [Je6, if_pos hE])
    clear hE
    go_enter Tryz.func26, Tryz.ntmps26
    go_wp2
    go_step3
    go_wp2_with (go_at_call 44; refine (Jej l _ _ _ hv hl).mono ?_; rintro e w1 ⟨rfl, hb1⟩)
    go_step3
    go_wp2
    go_loopw [5, 16] (fun x i wr => ∃ (k : Nat) (z : Int), i = .int .i64 k /\ x = .int .i64 z /\ k <= p.length /\ Hid (Jel l 0 p = Jel l z (p.drop k)) /\ Below w.heap.size w wr) (fun _ i _ => p.length - (intOf i).toNat)
    case atStart => exact ⟨0, 0, rfl, rfl, Nat.zero_le _, Lib.hid rfl, hb1⟩
    case round =>
      obtain ⟨k, z, rfl, rfl, hk, ht, hB⟩ := hrel
      by_cases hlt : k < p.length
      · rcases hu.open with ⟨rfl, _⟩ | ⟨b1, o1, c1, hs1, hp1, hc1, hbb1, hx1⟩
        · simp at hlt
        obtain ⟨rfl, rfl⟩ : pu = some ⟨b1, o1, none⟩ /\ cu = c1 := by simpa using hs1
        have g1 := (hB.cell (p := ⟨b1, o1 + k, none⟩) hbb1).trans (hx1 k hlt)
        clear hx1 hs1
        have hsz := hB.size
        have hvr := NodesIn.below hv hB
        have hpk := Lib.hid (List.drop_eq_getElem_cons hlt)
        have hkl := Jbn l z
        by_cases hn : 0 <= p[k] /\ p[k].toNat < (Jab l z).length
        · obtain ⟨j, hj⟩ := Int.eq_ofNat_of_zero_le hn.1
          have hjl : j < (Jab l z).length := by omega
          have HJ := Lib.hid hj
          have hn1 : ¬ p[k] < 0 := by omega
          have hn2 : ¬ ((Jab l z).length : Int) <= p[k] := by omega
          have hdn := Lib.hid (Jfc l z p[k] (p.drop (k + 1)) j hj hjl)
          clear hn
          rw [hj] at g1 hn1 hn2
          clear hj
          go_wp2_with (go_at_call 48; refine (Jpt l _ _ _ hvr hl).mono ?_; rintro e w2 ⟨q, rfl, hq, hb2⟩; (rcases hq.open with ⟨h0, _⟩ | ⟨bq, oq, cq, hqs, hqp, hqc, hqb, hqx⟩; (exfalso; rw [h0] at hjl; simp at hjl)); have gq := hqx j hjl; clear hqx; subst hqs)
          go_roundw
          case rel => exact ⟨k + 1, (Jab l z)[j], by go_num, rfl, by omega, Lib.hid (by rw [ht.out, hpk.out, hdn.out]), hB.trans (hb2.mono hsz)⟩
          case measure => simp [intOf]; omega
        · have hdn := Lib.hid (Jfn l z p[k] (p.drop (k + 1)) hn)
          by_cases hn1 : p[k] < 0
          · clear hn
            go_wp2_with (go_at_call 48; refine (Jpt l _ _ _ hvr hl).mono ?_; rintro e w2 ⟨q, rfl, hq, hb2⟩; obtain ⟨pq, cq, hqs⟩ := hq.slice; subst hqs)
            rw [Exit.noGoto_ret]
            go_ret
            exact ⟨Ja7 (by rw [HF.out, ht.out, hpk.out, hdn.out]), hB.trans (hb2.mono hsz)⟩
          · have hn2 : ((Jab l z).length : Int) <= p[k] := by omega
            clear hn
            go_wp2_with (go_at_call 48; refine (Jpt l _ _ _ hvr hl).mono ?_; rintro e w2 ⟨q, rfl, hq, hb2⟩; obtain ⟨pq, cq, hqs⟩ := hq.slice; subst hqs)
            rw [Exit.noGoto_ret]
            go_ret
            exact ⟨Ja7 (by rw [HF.out, ht.out, hpk.out, hdn.out]), hB.trans (hb2.mono hsz)⟩
      · go_wp2
        rw [Exit.noGoto_ret]
        go_ret
        exact ⟨Ja7 (by rw [HF.out, ht.out, List.drop_of_length_le (by omega)]; rfl), hB⟩
  · have hE' : (endv l 0 != (l.length : Int)) = true := by simp [hE]
    have HF : Hid (Je6 l p = -1) := Lib.hid (by rw [Je6, if_neg hE])
    clear hE
    go_enter Tryz.func26, Tryz.ntmps26
    go_wp2
    go_step3
    go_wp2_with (go_at_call 44; refine (Jej l _ _ _ hv hl).mono ?_; rintro e w1 ⟨rfl, hb1⟩)
    rw [Exit.noGoto_ret]
    go_ret
    exact ⟨Ja7 HF.out.symm, hb1⟩
end Go.Proofs.YtinnbafplhcnpaaGreat
end
section
namespace Go.Proofs.YtinnbafplhcnpaaGreat
open Go.RowKit
theorem Jzw (x : Int) (w : World) : Calls Tryz.prog 89 #[.int .i64 x] w fun e w' => e = .returned (.bool false) /\ w = w' := by
  go_enter Tryz.func89, Tryz.ntmps89
  have h : (x != x) = false := by simp
  go_wp2
  go_ret
  exact ⟨rfl, rfl⟩
theorem Jsc (x y : Int) (w : World) : Calls Tryz.prog 46 #[.int .i64 x, .int .i64 y] w fun e w' => e = .returned (.int .i64 (cmpI x y)) /\ w' = w := by
  go_enter Tryz.func46, Tryz.ntmps46
  go_wp2_with (fail)
  refine (Jzw x _).mono ?_
  rintro e w' ⟨rfl, rfl⟩
  go_wp2_with (fail)
  refine (Jzw y _).mono ?_
  rintro e w' ⟨rfl, rfl⟩
  go_wp2_with (fail)
  all_goals go_ret
  · exact ⟨Ja7 (by rw [cmpI, if_pos (by assumption)]), rfl⟩
  · exact ⟨Ja7 (by rw [cmpI, if_neg (by omega), if_pos (by assumption)]), rfl⟩
  · exact ⟨Ja7 (by rw [cmpI, if_neg (by omega), if_neg (by omega)]), rfl⟩
set_option maxHeartbeats 1000000 in
theorem Qdw         (a b : List Int) (u v : Value) (w : World) (hu : Jmu    w u a) (hv : Jmu    w v b) (ha : a.length ≤ 4000000) (hb : b.length ≤ 4000000) :
    Calls Tryz.prog 22 #[u, v] w fun e w' => e = .returned (.int .i64 (cmpL a b)) /\ Below w.heap.size w w' := by
  obtain ⟨pu, cu, hus⟩ := hu.slice
  obtain ⟨pv, cv, hvs⟩ := hv.slice
  subst hus
  subst hvs
  obtain ⟨m, hm⟩ : ∃ m, m = min a.length b.length := ⟨_, rfl⟩
  have hm1 : m <= a.length := by omega
  have hm2 : m <= b.length := by omega
  have hm3 : m = a.length \/ m = b.length := by omega
  have Hm := Lib.hid hm
  clear hm
  go_enter Tryz.func22, Tryz.ntmps22
  go_wp2
  all_goals
    go_loopw [12] (fun i wr => ∃ k : Nat, i = .int .i64 k /\ k <= m /\ Hid (cmpL a b = cmpL (a.drop k) (b.drop k)) /\ Below w.heap.size w wr) (fun i _ => m - (intOf i).toNat)
    case atStart => exact ⟨0, rfl, Nat.zero_le _, Lib.hid rfl, Below.refl _ _⟩
    case round =>
      obtain ⟨k, rfl, hk, ht, hB⟩ := hrel
      by_cases hkm : k < m
      · have hlt : k < a.length := by omega
        have hltb : k < b.length := by omega
        rcases hu.open with ⟨rfl, _⟩ | ⟨b1, o1, c1, hs1, hp1, hc1, hb1, hx1⟩
        · simp at hlt
        rcases hv.open with ⟨rfl, _⟩ | ⟨b2, o2, c2, hs2, hp2, hc2, hb2, hx2⟩
        · simp at hltb
        obtain ⟨rfl, rfl⟩ : pu = some ⟨b1, o1, none⟩ /\ cu = c1 := by simpa using hs1
        obtain ⟨rfl, rfl⟩ : pv = some ⟨b2, o2, none⟩ /\ cv = c2 := by simpa using hs2
        have g1 := (hB.cell (p := ⟨b1, o1 + k, none⟩) hb1).trans (hx1 k hlt)
        have g2 := (hB.cell (p := ⟨b2, o2 + k, none⟩) hb2).trans (hx2 k hltb)
        clear hx1 hx2 hs1 hs2
        have n1 : (k : Int) < (a.length : Int) := by omega
        have n2 : (k : Int) < (b.length : Int) := by omega
        by_cases he : a[k] = b[k]
        · have heb : (cmpI a[k] b[k] != 0) = false := by simp [cmpI, he]
          have HE := Lib.hid he
          clear he
          go_wp2
          go_quiet ((go_at_call 46; exact Calls.quiet_of_same (Jsc _ _ _)))
          go_wp2
          go_roundw
          case rel => exact ⟨k + 1, by go_num, by omega, Lib.hid (by rw [ht.out, Qam a b k hlt hltb HE.out]), below_drewN hB _⟩
          case measure => simp [intOf]; omega
        · have heb : (cmpI a[k] b[k] != 0) = true := by rw [bne_iff_ne]; unfold cmpI; split; omega; split <;> omega
          have HE := Lib.hid he
          clear he
          go_wp2
          go_quiet ((go_at_call 46; exact Calls.quiet_of_same (Jsc _ _ _)))
          go_wp2
          go_ret
          exact ⟨Ja7 (by rw [ht.out, Jqu a b k hlt hltb HE.out]), below_drewN hB _⟩
      · go_wp2_with (go_at_call 46; refine (Jsc _ _ _).mono ?_; rintro e w' ⟨rfl, rfl⟩)
        go_ret
        exact ⟨Ja7 (by rw [ht.out, Qfu a b k (by omega) (by omega) (by omega)]), hB⟩
end Go.Proofs.YtinnbafplhcnpaaGreat
end
section
namespace Go.Proofs.YtinnbafplhcnpaaGreat
open Go.RowKit
set_option maxHeartbeats 2000000 in
theorem Qco         (l : List Nd) (p : List Int) (v u : Value) (w : World) (hv : Jbz     w v l) (hu : Jmu    w u p) (hl : l.length ≤ 4000000) (hp : p.length ≤ 4000000) :
    Calls Tryz.prog 74 #[v, u] w fun e w' => e = .returned (.int .i64 (Je6 l p)) /\ Below w.heap.size w w' := by
  obtain ⟨pu, cu, hus⟩ := hu.slice
  subst hus
  obtain ⟨pv, cv, hvs⟩ := hv.slice
  subst hvs
  by_cases hE : endv l 0 = l.length
  · have hE' : (endv l 0 != (l.length : Int)) = false := by simp [hE]
    have HF : Hid (Je6 l p = Jel l 0 p) := Lib.hid (by rw [Je6, if_pos hE])
    clear hE
    go_enter Tryz.func74, Tryz.ntmps74
    go_wp2_with (go_at_call 60; refine (Jcn l _ _ _ hv hl).mono ?_; rintro e w1 ⟨rfl, hb1⟩)
    go_loopw [5, 6] (fun x i wr => ∃ (k : Nat) (z : Int), i = .int .i64 k /\ x = .int .i64 z /\ k <= p.length /\ Hid (Jel l 0 p = Jel l z (p.drop k)) /\ Below w.heap.size w wr) (fun _ i _ => p.length - (intOf i).toNat)
    case atStart => exact ⟨0, 0, rfl, rfl, Nat.zero_le _, Lib.hid rfl, hb1⟩
    case round =>
      obtain ⟨k, z, rfl, rfl, hk, ht, hB⟩ := hrel
      by_cases hlt : k < p.length
      · rcases hu.open with ⟨rfl, _⟩ | ⟨b1, o1, c1, hs1, hp1, hc1, hbb1, hx1⟩
        · simp at hlt
        obtain ⟨rfl, rfl⟩ : pu = some ⟨b1, o1, none⟩ /\ cu = c1 := by simpa using hs1
        have g1 := (hB.cell (p := ⟨b1, o1 + k, none⟩) hbb1).trans (hx1 k hlt)
        have hbb2 : b1 < wr.heap.size := Nat.lt_of_lt_of_le hbb1 hB.size
        clear hx1 hs1
        have hsz := hB.size
        have hvr := NodesIn.below hv hB
        have hpk := Lib.hid (List.drop_eq_getElem_cons hlt)
        have hkl := Jbn l z
        by_cases hn : 0 <= p[k] /\ p[k].toNat < (Jab l z).length
        · obtain ⟨j, hj⟩ := Int.eq_ofNat_of_zero_le hn.1
          have hjl : j < (Jab l z).length := by omega
          have HJ := Lib.hid hj
          have hn1 : ¬ p[k] < 0 := by omega
          have hn2 : ¬ ((Jab l z).length : Int) <= p[k] := by omega
          have hdn := Lib.hid (Jfc l z p[k] (p.drop (k + 1)) j hj hjl)
          clear hn
          rw [hj] at g1 hn1 hn2
          clear hj
          go_wp2_with (go_at_call 99; refine (Jg1 l _ _ _ hvr hl).mono ?_; rintro e w2 ⟨q, rfl, hq, hb2⟩; (rcases hq.open with ⟨h0, _⟩ | ⟨bq, oq, cq, hqs, hqp, hqc, hqb, hqx⟩; (exfalso; rw [h0] at hjl; simp at hjl)); have gq := hqx j hjl; clear hqx; subst hqs; have g2 := (hb2.cell (p := ⟨b1, o1 + k, none⟩) hbb2).trans g1)
          go_round
          case rel => exact ⟨k + 1, (Jab l z)[j], by go_num, rfl, by omega, Lib.hid (by rw [ht.out, hpk.out, hdn.out]), hB.trans (hb2.mono hsz)⟩
          case measure => simp [intOf]; omega
        · have hdn := Lib.hid (Jfn l z p[k] (p.drop (k + 1)) hn)
          by_cases hn1 : p[k] < 0
          · clear hn
            go_wp2_with (go_at_call 99; refine (Jg1 l _ _ _ hvr hl).mono ?_; rintro e w2 ⟨q, rfl, hq, hb2⟩; obtain ⟨pq, cq, hqs⟩ := hq.slice; subst hqs; have g2 := (hb2.cell (p := ⟨b1, o1 + k, none⟩) hbb2).trans g1)
            go_ret
            exact ⟨Ja7 (by rw [HF.out, ht.out, hpk.out, hdn.out]), hB.trans (hb2.mono hsz)⟩
          · have hn2 : ((Jab l z).length : Int) <= p[k] := by omega
            clear hn
            go_wp2_with (go_at_call 99; refine (Jg1 l _ _ _ hvr hl).mono ?_; rintro e w2 ⟨q, rfl, hq, hb2⟩; obtain ⟨pq, cq, hqs⟩ := hq.slice; subst hqs; have g2 := (hb2.cell (p := ⟨b1, o1 + k, none⟩) hbb2).trans g1)
            go_ret
            exact ⟨Ja7 (by rw [HF.out, ht.out, hpk.out, hdn.out]), hB.trans (hb2.mono hsz)⟩
      · go_wp2
        go_ret
        exact ⟨Ja7 (by rw [HF.out, ht.out, List.drop_of_length_le (by omega)]; rfl), hB⟩
  · have hE' : (endv l 0 != (l.length : Int)) = true := by simp [hE]
    have HF : Hid (Je6 l p = -1) := Lib.hid (by rw [Je6, if_neg hE])
    clear hE
    go_enter Tryz.func74, Tryz.ntmps74
    go_wp2_with (go_at_call 60; refine (Jcn l _ _ _ hv hl).mono ?_; rintro e w1 ⟨rfl, hb1⟩)
    go_ret
    exact ⟨Ja7 HF.out.symm, hb1⟩
end Go.Proofs.YtinnbafplhcnpaaGreat
end
section
namespace Go.Proofs.YtinnbafplhcnpaaGreat
open Go.RowKit
set_option maxHeartbeats 2000000 in
theorem Juu            (a b : List Int) (u v : Value) (w : World) (hu : Jmu    w u a) (hv : Jmu    w v b) (ha : a.length ≤ 4000000) (hb : b.length ≤ 4000000) :
    Calls Tryz.prog 64 #[u, v] w fun e w' => e = .returned (.int .i64 (cmpL a b)) /\ Below w.heap.size w w' := by
  obtain ⟨pu, cu, hus⟩ := hu.slice
  obtain ⟨pv, cv, hvs⟩ := hv.slice
  subst hus
  subst hvs
  go_enter Tryz.func64, Tryz.ntmps64
  go_wp2
  go_loopw [5] (fun i wr => ∃ k : Nat, i = .int .i64 k /\ k <= a.length /\ k <= b.length /\ Hid (cmpL a b = cmpL (a.drop k) (b.drop k)) /\ Below w.heap.size w wr) (fun i _ => a.length - (intOf i).toNat)
  case atStart => exact ⟨0, rfl, Nat.zero_le _, Nat.zero_le _, Lib.hid rfl, Below.refl _ _⟩
  case round =>
    obtain ⟨k, rfl, hk, hk2, ht, hB⟩ := hrel
    by_cases hkm : k < a.length /\ k < b.length
    · obtain ⟨hlt, hltb⟩ := hkm
      rcases hu.open with ⟨rfl, _⟩ | ⟨b1, o1, c1, hs1, hp1, hc1, hb1, hx1⟩
      · simp at hlt
      rcases hv.open with ⟨rfl, _⟩ | ⟨b2, o2, c2, hs2, hp2, hc2, hb2, hx2⟩
      · simp at hltb
      obtain ⟨rfl, rfl⟩ : pu = some ⟨b1, o1, none⟩ /\ cu = c1 := by simpa using hs1
      obtain ⟨rfl, rfl⟩ : pv = some ⟨b2, o2, none⟩ /\ cv = c2 := by simpa using hs2
      have g1 := (hB.cell (p := ⟨b1, o1 + k, none⟩) hb1).trans (hx1 k hlt)
      have g2 := (hB.cell (p := ⟨b2, o2 + k, none⟩) hb2).trans (hx2 k hltb)
      clear hx1 hx2 hs1 hs2
      have n1 : (k : Int) < (a.length : Int) := by omega
      have n2 : (k : Int) < (b.length : Int) := by omega
      rcases Int.lt_trichotomy a[k] b[k] with he | he | he
      · go_wp2
        go_quiet (fail)
        go_wp2
        go_ret
        exact ⟨Ja7 (by rw [ht.out, Jqu a b k hlt hltb (by omega), cmpI, if_pos he]), below_drewN hB _⟩
      · have h1 : ¬ a[k] < b[k] := by omega
        have h2 : ¬ b[k] < a[k] := by omega
        have HE := Lib.hid he
        clear he
        go_wp2
        go_quiet (fail)
        go_wp2
        go_quiet (fail)
        go_wp2
        go_roundw
        case rel => exact ⟨k + 1, by go_num, by omega, by omega, Lib.hid (by rw [ht.out, Qam a b k hlt hltb HE.out]), by first | exact below_drewN hB _ | exact below_drewN (below_drewN hB _) _⟩
        case measure => simp [intOf]; omega
      · have h1 : ¬ a[k] < b[k] := by omega
        go_wp2
        go_quiet (fail)
        go_wp2
        go_quiet (fail)
        go_wp2
        go_ret
        exact ⟨Ja7 (by rw [ht.out, Jqu a b k hlt hltb (by omega), cmpI, if_neg (by omega), if_pos he]), below_drewN (below_drewN hB _) _⟩
    · have he : cmpL a b = cmpI a.length b.length := by rw [ht.out, Qfu a b k (by omega) (by omega) (by omega)]
      have HE := Lib.hid he
      clear he
      by_cases h3 : k < a.length
      all_goals
        go_wp2
        all_goals
          go_ret
          exact ⟨Ja7 (by rw [HE.out, cmpI]; first | rw [if_pos (by omega)] | rw [if_neg (by omega), if_pos (by omega)] | rw [if_neg (by omega), if_neg (by omega)]), hB⟩
end Go.Proofs.YtinnbafplhcnpaaGreat
end
section
namespace Go.Proofs.YtinnbafplhcnpaaGreat
open Go.RowKit
set_option linter.unusedVariables false
set_option linter.unusedSimpArgs false
section
variable {P : Program}
theorem Jia           (w : World) (t ty e : TypeId) (i : TypeInfo) (ht : P.underlying t = some (.slice e)) (hi : P.info? e = some i) (b o n dc : Nat) (cur : Array Value) (t' : TypeId) (hb : w.heap[b]? = some (.cells cur t' (0, 0)))
    (a : Addr) (m sc : Nat) (vs : List Value) (hl : vs.length = Nat.min m n * i.size) (hc : ∀ j v, vs[j]? = some v -> w.cell? (a.add j) = some v) (h1 : ∀ v ∈ vs, v.oneCell' = true) (hfit : o + vs.length <= cur.size) :
    (Builtin.copy_ #[t, t] ty #[.slice (some ⟨b, o, none⟩) n dc, .slice (some a) m sc]).run P w = .ok (.int .i64 (Nat.min m n : Nat)) (w.setRow b (cur.toList.take o ++ vs ++ cur.toList.drop (o + vs.length)).toArray) := by
  have hf := run_firstCells_some (P := P) w i.size (Nat.min m n) a m sc vs hl hc
  have hst := run_storeCells_at P b o t' vs 0 cur w hb (by simpa using hfit) h1
  simp only [Nat.add_zero] at hst
  simp [Builtin.copy_, run_underlying ht, Builtin.lenOf, sizeOf, typeInfo, hi, _root_.Go.goInt, hf, hst]
end
theorem Qa6 (w : World) (A R : Array Value) (t : TypeId) : (w.alloc (.cells A t)).setRow w.heap.size R = w.alloc (.cells R t) := by
  unfold World.setRow World.alloc
  congr 1
  apply Array.ext
  · simp
  · intro k h1 h2
    simp only [Array.size_modify, Array.size_push] at h1
    rw [Array.getElem_modify]
    by_cases hk : k < w.heap.size
    · rw [if_neg (by omega), Array.getElem_push_lt hk, Array.getElem_push_lt hk]
    · have : k = w.heap.size := by omega
      subst this
      simp
theorem Qke       (arr : List Value) (n i : Nat) (v : List Value) (hv : v.length = 2) (hi : i < n) (hn : 2 * (n + 1) ≤ arr.length) :
    let r1 := arr.take (2 * (i + 1)) ++ (arr.drop (2 * i)).take (2 * (n - i)) ++ arr.drop (2 * (i + 1) + 2 * (n - i))
    (r1.take (2 * i) ++ v ++ r1.drop (2 * i + 2)).take (2 * (n + 1)) = arr.take (2 * i) ++ v ++ (arr.take (2 * n)).drop (2 * i) := by
  intro r1
  have e1 : r1.take (2 * i) = arr.take (2 * i) := by
    show (arr.take (2 * (i + 1)) ++ _ ++ _).take (2 * i) = _
    rw [List.append_assoc, List.take_append_of_le_length (by simp; omega), List.take_take]
    congr 1; omega
  have e2 : r1.drop (2 * i + 2) = (arr.drop (2 * i)).take (2 * (n - i)) ++ arr.drop (2 * (i + 1) + 2 * (n - i)) := by
    show (arr.take (2 * (i + 1)) ++ _ ++ _).drop (2 * i + 2) = _
    rw [List.append_assoc]
    exact List.drop_left' (by simp; omega)
  rw [e1, e2]
  have e3 : (arr.drop (2 * i)).take (2 * (n - i)) = (arr.take (2 * n)).drop (2 * i) := by
    rw [List.drop_take]; congr 1; omega
  rw [e3, <- List.append_assoc]
  exact List.take_left' (by simp; omega)
structure InsCalls (P : Program) (f : FuncId) (t : TypeId) : Prop where
  body : ∃ fn, P.funcs[f]? = some fn /\ fn.name ≠ "runtime.NumGoroutine" /\ fn.body.isSome = true
  room : ∀ (b n c i vb vc : Nat) (arr arrv : Array Value) (tv : TypeId) (v0 v1 : Value) (w : World), i < n -> n + 1 <= c -> c <= maxLen -> w.heap[b]? = some (.cells arr t (0, 0)) -> arr.size = c * 2 -> w.heap[vb]? = some (.cells arrv tv (0, 0)) -> arrv[0]? = some v0 -> arrv[1]? = some v1 ->
    v0.oneCell' = true -> v1.oneCell' = true -> vb ≠ b -> (∀ x ∈ arr.toList.take (2 * n), x.oneCell' = true) ->
    Calls P f #[.slice (some ⟨b, 0, none⟩) n c, .int .i64 i, .slice (some ⟨vb, 0, none⟩) 1 vc] w fun e w' => ∃ A : Array Value, e = .returned (.slice (some ⟨b, 0, none⟩) (n + 1) c) /\ w' = w.drew.setRow b A /\ A.size = c * 2 /\
      A.toList.take (2 * (n + 1)) = arr.toList.take (2 * i) ++ [v0, v1] ++ (arr.toList.take (2 * n)).drop (2 * i)
  grow : ∀ (b n c i vb vc : Nat) (arr arrv : Array Value) (tv : TypeId) (v0 v1 : Value) (w : World), i < n -> n <= c -> c < n + 1 -> n <= 1000000 -> w.heap[b]? = some (.cells arr t (0, 0)) -> arr.size = c * 2 -> w.heap[vb]? = some (.cells arrv tv (0, 0)) -> arrv[0]? = some v0 -> arrv[1]? = some v1 ->
    v0.oneCell' = true -> v1.oneCell' = true -> vb ≠ b -> (∀ x ∈ arr.toList.take (2 * n), x.oneCell' = true) ->
    Calls P f #[.slice (some ⟨b, 0, none⟩) n c, .int .i64 i, .slice (some ⟨vb, 0, none⟩) 1 vc] w fun e w' => ∃ (A : Array Value) (c' : Nat), e = .returned (.slice (some ⟨w.heap.size, 0, none⟩) (n + 1) c') /\ w' = w.drew.drew.alloc (.cells A t) /\ n + 1 <= c' /\ c' <= maxLen /\ A.size = c' * 2 /\
      A.toList.take (2 * (n + 1)) = arr.toList.take (2 * i) ++ [v0, v1] ++ (arr.toList.take (2 * n)).drop (2 * i)
end Go.Proofs.YtinnbafplhcnpaaGreat
end
section
namespace Go.Proofs.YtinnbafplhcnpaaGreat
open Go.RowKit Go.Lib Go.Shelf
set_option linter.unusedVariables false
set_option linter.unusedSimpArgs false
set_option maxHeartbeats 4000000 in
set_option maxRecDepth 100000 in
theorem Qcy         (b n c i vb vc : Nat) (arr arrv : Array Value) (tv : TypeId) (v0 v1 : Value) (w : World) (hi : i < n) (hroom : n + 1 ≤ c) (hcm : c ≤ maxLen) (hb : w.heap[b]? = some (.cells arr 54 (0, 0))) (hsz : arr.size = c * 2)
    (hvb : w.heap[vb]? = some (.cells arrv tv (0, 0))) (h0 : arrv[0]? = some v0) (h1 : arrv[1]? = some v1) (o0 : v0.oneCell' = true) (o1 : v1.oneCell' = true) (hne : vb ≠ b) (hone : ∀ x ∈ arr.toList.take (2 * n), x.oneCell' = true) :
    Calls Tryz.prog 109 #[.slice (some ⟨b, 0, none⟩) n c, .int .i64 i, .slice (some ⟨vb, 0, none⟩) 1 vc] w fun e w' => ∃ A : Array Value, e = .returned (.slice (some ⟨b, 0, none⟩) (n + 1) c) /\ w' = w.drew.setRow b A /\ A.size = c * 2 /\
      A.toList.take (2 * (n + 1)) = arr.toList.take (2 * i) ++ [v0, v1] ++ (arr.toList.take (2 * n)).drop (2 * i) := by
  obtain ⟨i0, hi0, hz0, hz1, hz2⟩ := info_parts Jpg
  have hzz : ∀ w, (Go.sizeOf 54).run Tryz.prog w = .ok 2 w := fun w => by simp [sizeOf, typeInfo, hi0, hz1]
  have hc63 : c <= 9223372036854775807 := by unfold maxLen at hcm; omega
  have hy2 : ¬ ((i : Int) = (n : Int)) := by omega
  have hov : ∀ lb cb, (callFunc 128 #[.slice (some ⟨vb, 0, none⟩) 1 vc, .slice (some ⟨b, (i + 1) * 2, none⟩) lb cb]).run Tryz.prog w = .ok (.value (.bool false)) w := fun lb cb => by
    rw [run_callFunc_extern Tryz.func128 (by kernel_rfl) (by kernel_rfl) (by kernel_rfl) (e := Extern.SlicesOverlaps.overlaps #[23, 23] #[4]) (by kernel_rfl),
      Lib.run_overlaps_apart w 23 4 54 Tryz.underlying23 2 hzz ⟨vb, 0, none⟩ ⟨b, (i + 1) * 2, none⟩ 1 vc lb cb hne tv 54 arrv.size arr.size (by simp [World.shape?, hvb]) (by simp [World.shape?, hb]) (by omega) (by simp [World.frozen?, hvb]) (by simp [World.frozen?, hvb])]
    rfl
  have hsl : arr.toList.length = c * 2 := by simp [hsz]
  have hw1 : IntKind.i64.wrap ((i : Int) + 1) = (i : Int) + 1 := by rw [IntKind.wrap_i64]; omega
  have hw2 : IntKind.i64.wrap ((n : Int) + 1) = (n : Int) + 1 := by rw [IntKind.wrap_i64]; omega
  have hb1 : (0 : Int) <= (i : Int) + 1 := by omega
  have hin : i <= n := by omega
  have htn : ((i : Int) + 1).toNat = i + 1 := by omega
  have hb2 : ¬ (c = i + 1) := by omega
  have hb3 : (i : Int) <= (n : Int) + 1 := by omega
  have hb4 : ¬ (c = i) := by omega
  obtain ⟨R1, hR1⟩ : ∃ R1 : List Value, R1 = arr.toList.take (2 * (i + 1)) ++ (arr.toList.drop (2 * i)).take (2 * (n - i)) ++ arr.toList.drop (2 * (i + 1) + 2 * (n - i)) := ⟨_, rfl⟩
  have hR1l : R1.length = c * 2 := by rw [hR1]; simp; omega
  have hml : ((arr.toList.drop (2 * i)).take (2 * (n - i))).length = 2 * (n - i) := by simp; omega
  have hcp1 : ∀ ty dc sc, (Builtin.copy_ #[23, 23] ty #[.slice (some ⟨b, (i + 1) * 2, none⟩) (n - i) dc, .slice (some ⟨b, i * 2, none⟩) (n + 1 - i) sc]).run Tryz.prog w.drew = .ok (.int .i64 ((n - i : Nat) : Int)) (w.drew.setRow b R1.toArray) := fun ty dc sc => by
    have hmin : Nat.min (n + 1 - i) (n - i) = n - i := by simp only [Nat.min_def]; split <;> omega
    have h := Jia (P := Tryz.prog) w.drew 23 ty 54 i0 Tryz.underlying23 hi0 b ((i + 1) * 2) (n - i) dc arr 54 hb ⟨b, i * 2, none⟩ (n + 1 - i) sc ((arr.toList.drop (2 * i)).take (2 * (n - i))) (by rw [hmin, hz1, hml]; omega) (fun j v hj => by
      rw [Addr.add_lit]
      have hlt := (List.getElem?_eq_some_iff.1 hj).1
      rw [List.getElem?_take_of_lt (by rw [hml] at hlt; exact hlt), List.getElem?_drop] at hj
      rw [show w.drew.cell? ⟨b, i * 2 + j, none⟩ = w.cell? ⟨b, i * 2 + j, none⟩ from rfl, cell_of_heap hb, Nat.mul_comm i 2]
      simpa using hj) (fun v hv => by
      have e : (arr.toList.drop (2 * i)).take (2 * (n - i)) = (arr.toList.take (2 * n)).drop (2 * i) := by rw [List.drop_take]; congr 1; omega
      rw [e] at hv
      exact hone v (List.mem_of_mem_drop hv)) (by rw [hml]; omega)
    rw [hmin, hml, Nat.mul_comm (i + 1) 2] at h
    rw [hR1]
    rw [Nat.mul_comm (i + 1) 2]
    exact h
  have hcp2 : ∀ (W : World), W.heap = (w.drew.setRow b R1.toArray).heap -> ∀ ty dc, (Builtin.copy_ #[23, 23] ty #[.slice (some ⟨b, i * 2, none⟩) (n + 1 - i) dc, .slice (some ⟨vb, 0, none⟩) 1 vc]).run Tryz.prog W = .ok (.int .i64 1) (W.setRow b (R1.take (2 * i) ++ [v0, v1] ++ R1.drop (2 * i + 2)).toArray) := fun W hW ty dc => by
    have hmin : Nat.min 1 (n + 1 - i) = 1 := by simp only [Nat.min_def]; split <;> omega
    have hWb : W.heap[b]? = some (.cells R1.toArray 54 (0, 0)) := by rw [hW]; exact setRow_heap w.drew b arr _ _ _ hb
    have hWv : W.heap[vb]? = some (.cells arrv tv (0, 0)) := by rw [hW, setRow_other w.drew b vb _ hne]; exact hvb
    have h := Jia (P := Tryz.prog) W 23 ty 54 i0 Tryz.underlying23 hi0 b (i * 2) (n + 1 - i) dc R1.toArray 54 hWb ⟨vb, 0, none⟩ 1 vc [v0, v1] (by rw [hmin, hz1]; rfl) (fun j v hj => by
      rw [Addr.add_lit, cell_of_heap hWv]
      match j, hj with
      | 0, hj => rw [<- hj]; exact h0
      | 1, hj => rw [<- hj]; exact h1
      | j + 2, hj => simp at hj) (fun v hv => by
      simp only [List.mem_cons, List.not_mem_nil, or_false] at hv
      rcases hv with rfl | rfl
      · exact o0
      · exact o1) (by simp; omega)
    rw [hmin] at h
    rw [Nat.mul_comm 2 i]
    exact h
  have hfin : (R1.take (2 * i) ++ [v0, v1] ++ R1.drop (2 * i + 2)).toArray.size = c * 2 := by simp; omega
  have hend : (R1.take (2 * i) ++ [v0, v1] ++ R1.drop (2 * i + 2)).take (2 * (n + 1)) = arr.toList.take (2 * i) ++ [v0, v1] ++ (arr.toList.take (2 * n)).drop (2 * i) := by
    rw [hR1]
    exact Qke arr.toList n i [v0, v1] rfl hi (by omega)
  have hmix : Tryz.prog.follows .mixedOrders = true := by kernel_rfl
  go_enter Tryz.func109, Tryz.ntmps109
  go_wp2_with (simp only [hov])
  go_region_law_o (refine step_copy_runI rfl _ _ 23 23 rfl _ _ (by simp [Act.eval, Act.put]) (by simp [Act.eval, Act.put]) (hcp1 _ _ _) ?_)
  go_wp2_with (at_builtin; refine wpList_copy_runI _ rfl _ _ 23 23 rfl _ _ rfl rfl (hcp2 _ rfl _ _) ?_)
  go_ret
  refine ⟨_, rfl, ?_, hfin, hend⟩
  rw [setRow_setRow, hR1]
  simp only [List.append_assoc, List.cons_append, List.nil_append]
theorem Qhn        (arr z : List Value) (n i : Nat) (v : List Value) (hv : v.length = 2) (hi : i < n) (hn : 2 * n ≤ arr.length) (hz : 2 * (n + 1) ≤ 2 * i + z.length) :
    let r0 := arr.take (2 * i) ++ z
    let r1 := r0.take (2 * i) ++ v ++ r0.drop (2 * i + 2)
    (r1.take (2 * (i + 1)) ++ (arr.take (2 * n)).drop (2 * i) ++ r1.drop (2 * (i + 1) + 2 * (n - i))).take (2 * (n + 1)) = arr.take (2 * i) ++ v ++ (arr.take (2 * n)).drop (2 * i) /\
    r1.length = r0.length /\ (r1.take (2 * (i + 1)) ++ (arr.take (2 * n)).drop (2 * i) ++ r1.drop (2 * (i + 1) + 2 * (n - i))).length = r0.length := by
  intro r0 r1
  have hl0 : r0.length = 2 * i + z.length := by
    show (arr.take (2 * i) ++ z).length = _
    simp; omega
  have e0 : r0.take (2 * i) = arr.take (2 * i) := List.take_left' (by simp; omega)
  have hl1 : r1.length = r0.length := by
    show (r0.take (2 * i) ++ v ++ r0.drop (2 * i + 2)).length = _
    simp; omega
  have e1 : r1.take (2 * (i + 1)) = arr.take (2 * i) ++ v := by
    show (r0.take (2 * i) ++ v ++ _).take _ = _
    rw [e0]
    exact List.take_left' (by simp; omega)
  refine ⟨?_, hl1, by simp; omega⟩
  rw [e1]
  exact List.take_left' (by simp; omega)
set_option maxHeartbeats 4000000 in
set_option maxRecDepth 100000 in
theorem Qcz         (b n c i vb vc : Nat) (arr arrv : Array Value) (tv : TypeId) (v0 v1 : Value) (w : World) (hi : i < n) (hnc : n ≤ c) (hroom : c < n + 1) (hn : n ≤ 1000000) (hb : w.heap[b]? = some (.cells arr 54 (0, 0))) (hsz : arr.size = c * 2)
    (hvb : w.heap[vb]? = some (.cells arrv tv (0, 0))) (h0 : arrv[0]? = some v0) (h1 : arrv[1]? = some v1) (o0 : v0.oneCell' = true) (o1 : v1.oneCell' = true) (hne : vb ≠ b) (hone : ∀ x ∈ arr.toList.take (2 * n), x.oneCell' = true) :
    Calls Tryz.prog 109 #[.slice (some ⟨b, 0, none⟩) n c, .int .i64 i, .slice (some ⟨vb, 0, none⟩) 1 vc] w fun e w' => ∃ (A : Array Value) (c' : Nat), e = .returned (.slice (some ⟨w.heap.size, 0, none⟩) (n + 1) c') /\ w' = w.drew.drew.alloc (.cells A 54) /\ n + 1 <= c' /\ c' <= maxLen /\ A.size = c' * 2 /\
      A.toList.take (2 * (n + 1)) = arr.toList.take (2 * i) ++ [v0, v1] ++ (arr.toList.take (2 * n)).drop (2 * i) := by
  obtain ⟨i0, hi0, hz0, hz1, hz2⟩ := info_parts Jpg
  have hy2 : ¬ ((i : Int) = (n : Int)) := by omega
  have hy3 : (c : Int) < (n : Int) + 1 := by omega
  have hsl : arr.toList.length = c * 2 := by simp [hsz]
  have hw1 : IntKind.i64.wrap ((i : Int) + 1) = (i : Int) + 1 := by rw [IntKind.wrap_i64]; omega
  have hw2 : IntKind.i64.wrap ((n : Int) + 1) = (n : Int) + 1 := by rw [IntKind.wrap_i64]; omega
  have hkk : (n : Int) + 1 - (i : Int) = ((n + 1 - i : Nat) : Int) := by omega
  have hik : i + (n + 1 - i) = n + 1 := by omega
  have hbw : b < w.heap.size := (Array.getElem?_eq_some_iff.1 hb).1
  have hvw : vb < w.heap.size := (Array.getElem?_eq_some_iff.1 hvb).1
  have hold : (Builtin.firstCells i0.size i (.slice (some ⟨b, 0, none⟩) i c)).run Tryz.prog w.drew = .ok (arr.toList.take (2 * i)).toArray w.drew :=
    run_firstCells_some w.drew i0.size i ⟨b, 0, none⟩ i c (arr.toList.take (2 * i)) (by rw [hz1]; simp; omega) (fun j v hj => by
      rw [Addr.add_lit, Nat.zero_add]
      have hlt := (List.getElem?_eq_some_iff.1 hj).1
      rw [List.getElem?_take_of_lt (by simp at hlt; omega)] at hj
      rw [show w.drew.cell? ⟨b, j, none⟩ = w.cell? ⟨b, j, none⟩ from rfl, cell_of_heap hb]
      simpa using hj)
  obtain ⟨G, hG⟩ : ∃ G, G = grownCap w (n + 1) c 54 := ⟨_, rfl⟩
  have hGn : n + 1 <= G := by rw [hG]; exact grownCap_ge w _ _ _
  have hGm : G <= maxLen := by rw [hG]; exact grownCap_le_maxLen w (n + 1) c 54 (by unfold maxLen; omega)
  have hG63 : G <= 9223372036854775807 := by unfold maxLen at hGm; omega
  obtain ⟨Z, hZ⟩ : ∃ Z : Array Value, Z = Builtin.zeroCells (Value.agg #[.int .i64 0, .int .i64 0]).cells (n + 1 - i) ++ Builtin.zeroCells (Value.agg #[.int .i64 0, .int .i64 0]).cells (G - (n + 1)) := ⟨_, rfl⟩
  have hZl : Z.size = 2 * (G - i) := by
    rw [hZ]
    simp only [Array.size_append, size_zeroCells, Value.cells]
    simp; omega
  have hrz : ∀ ty, (Builtin.append_ #[23, 3] ty #[.slice (some ⟨b, 0, none⟩) i c, .int .i64 ((n : Int) + 1 - (i : Int))]).run Tryz.prog w =
      .ok (.slice (some ⟨w.heap.size, 0, none⟩) (n + 1) G) (w.drew.alloc (.cells (arr.toList.take (2 * i) ++ Z.toList).toArray 54)) := fun ty => by
    have h := Lib.run_append_grow_zeros w 23 3 ty 54 i0 _ .i64 .i64 Tryz.underlying23 Tryz.underlying3 hi0 hz0 (some ⟨b, 0, none⟩) i c (arr.toList.take (2 * i)) hold (n + 1 - i) (by omega) (by omega) (by omega) (by omega) (by rw [hz2]; omega) (by rw [hz2, hik]; exact growslice_fits hroom (by omega))
    rw [hik, <- hG] at h
    rw [hkk, h, hZ]
    congr 3
    simp
  obtain ⟨R0, hR0⟩ : ∃ R0 : List Value, R0 = arr.toList.take (2 * i) ++ Z.toList := ⟨_, rfl⟩
  rw [<- hR0] at hrz
  obtain ⟨R1, hR1⟩ : ∃ R1 : List Value, R1 = R0.take (2 * i) ++ [v0, v1] ++ R0.drop (2 * i + 2) := ⟨_, rfl⟩
  obtain ⟨R2, hR2⟩ : ∃ R2 : List Value, R2 = R1.take (2 * (i + 1)) ++ (arr.toList.take (2 * n)).drop (2 * i) ++ R1.drop (2 * (i + 1) + 2 * (n - i)) := ⟨_, rfl⟩
  have hall := Qhn arr.toList Z.toList n i [v0, v1] rfl hi (by omega) (by simp [hZl]; omega)
  simp only at hall
  rw [<- hR0, <- hR1, <- hR2] at hall
  obtain ⟨hend, hl1, hl2⟩ := hall
  have hl0 : R0.length = G * 2 := by rw [hR0]; simp [hZl]; omega
  have hcp1 : ∀ (W : World), W.heap = (w.drew.alloc (.cells R0.toArray 54)).heap -> ∀ ty dc, (Builtin.copy_ #[23, 23] ty #[.slice (some ⟨w.heap.size, i * 2, none⟩) (n + 1 - i) dc, .slice (some ⟨vb, 0, none⟩) 1 vc]).run Tryz.prog W = .ok (.int .i64 1) (W.setRow w.heap.size R1.toArray) := fun W hW ty dc => by
    have hmin : Nat.min 1 (n + 1 - i) = 1 := by simp only [Nat.min_def]; split <;> omega
    have hWb : W.heap[w.heap.size]? = some (.cells R0.toArray 54 (0, 0)) := by rw [hW]; exact heap_alloc_new w.drew _
    have hWv : W.heap[vb]? = some (.cells arrv tv (0, 0)) := by rw [hW, Jjg w.drew _ hvw]; exact hvb
    have h := Jia (P := Tryz.prog) W 23 ty 54 i0 Tryz.underlying23 hi0 w.heap.size (i * 2) (n + 1 - i) dc R0.toArray 54 hWb ⟨vb, 0, none⟩ 1 vc [v0, v1] (by rw [hmin, hz1]; rfl) (fun j v hj => by
      rw [Addr.add_lit, cell_of_heap hWv]
      match j, hj with
      | 0, hj => rw [<- hj]; exact h0
      | 1, hj => rw [<- hj]; exact h1
      | j + 2, hj => simp at hj) (fun v hv => by
      simp only [List.mem_cons, List.not_mem_nil, or_false] at hv
      rcases hv with rfl | rfl
      · exact o0
      · exact o1) (by simp; omega)
    rw [hmin] at h
    rw [hR1, Nat.mul_comm 2 i]
    exact h
  have hml : ((arr.toList.take (2 * n)).drop (2 * i)).length = 2 * (n - i) := by simp; omega
  have hcp2 : ∀ (W : World), W.heap = ((w.drew.alloc (.cells R0.toArray 54)).setRow w.heap.size R1.toArray).heap -> ∀ ty dc sc, (Builtin.copy_ #[23, 23] ty #[.slice (some ⟨w.heap.size, (i + 1) * 2, none⟩) (n - i) dc, .slice (some ⟨b, i * 2, none⟩) (n - i) sc]).run Tryz.prog W = .ok (.int .i64 ((n - i : Nat) : Int)) (W.setRow w.heap.size R2.toArray) := fun W hW ty dc sc => by
    have hmin : Nat.min (n - i) (n - i) = n - i := Nat.min_self _
    have hWb : W.heap[w.heap.size]? = some (.cells R1.toArray 54 (0, 0)) := by rw [hW]; exact setRow_heap _ _ R0.toArray _ _ _ (heap_alloc_new w.drew _)
    have hWo : W.heap[b]? = some (.cells arr 54 (0, 0)) := by rw [hW, setRow_other _ _ b _ (by omega), Jjg w.drew _ hbw]; exact hb
    have h := Jia (P := Tryz.prog) W 23 ty 54 i0 Tryz.underlying23 hi0 w.heap.size ((i + 1) * 2) (n - i) dc R1.toArray 54 hWb ⟨b, i * 2, none⟩ (n - i) sc ((arr.toList.take (2 * n)).drop (2 * i)) (by rw [hmin, hz1, hml]; omega) (fun j v hj => by
      rw [Addr.add_lit, cell_of_heap hWo, Nat.mul_comm i 2]
      have hlt := (List.getElem?_eq_some_iff.1 hj).1
      rw [List.getElem?_drop, List.getElem?_take_of_lt (by rw [hml] at hlt; omega)] at hj
      simpa using hj) (fun v hv => hone v (List.mem_of_mem_drop hv)) (by rw [hml]; simp; omega)
    rw [hmin, hml, Nat.mul_comm (i + 1) 2] at h
    rw [hR2]
    rw [Nat.mul_comm (i + 1) 2]
    exact h
  have hb1 : (0 : Int) <= (i : Int) + 1 := by omega
  have hin : i <= n := by omega
  have htn : ((i : Int) + 1).toNat = i + 1 := by omega
  have hGi : ¬ (G = i) := by omega
  have hGim : ¬ (G = i + 1) := by omega
  have hci : ¬ (c = i) := by omega
  have hb3 : (i : Int) <= (n : Int) := by omega
  have hfin : R2.toArray.size = G * 2 := by simp; omega
  have hmix : Tryz.prog.follows .mixedOrders = true := by kernel_rfl
  have hlast : ∀ X : World, X = ((w.drew.drew.alloc (.cells R0.toArray 54)).setRow w.heap.size R1.toArray).setRow w.heap.size R2.toArray -> X = w.drew.drew.alloc (.cells R2.toArray 54) := fun X hX => by
    rw [hX, setRow_setRow]
    exact Qa6 w.drew.drew R0.toArray R2.toArray _
  have hA := hcp1 ((w.alloc (.cells R0.toArray 54)).drew) rfl
  have hB := hcp2 (((w.alloc (.cells R0.toArray 54)).drew.setRow w.heap.size R1.toArray).drew) rfl
  clear hkk hik hold hG hZ hZl hR0 hR1 hR2 hl0 hl1 hl2 hml
  go_enter Tryz.func109, Tryz.ntmps109
  go_wp2_with (first
    | (at_builtin; refine Lib.wpList_append_run _ rfl _ _ _ _ rfl _ _ rfl rfl _ _ (hrz _) ?_)
    | simp only [hA])
  go_region_law_o (refine step_copy_runI rfl _ _ 23 23 rfl (.slice (some ⟨w.heap.size, (i + 1) * 2, none⟩) (n - i) (G - (i + 1))) (.slice (some ⟨b, i * 2, none⟩) (n - i) (c - i)) (by simp [Act.eval, Act.put]) (by simp [Act.eval, Act.put]) (hB _ _ _) ?_)
  go_wp2
  go_ret
  exact ⟨_, _, rfl, hlast _ rfl, hGn, hGm, hfin, hend⟩
theorem insCalls : InsCalls Tryz.prog 109 54 := ⟨⟨_, Tryz.func109, by decide, rfl⟩, Qcy, Qcz⟩
end Go.Proofs.YtinnbafplhcnpaaGreat
end
section
namespace Go.Proofs.YtinnbafplhcnpaaGreat
open Go.RowKit
set_option linter.unusedVariables false
set_option linter.unusedSimpArgs false
def Jp2 : List D -> Option D
  | [x0, x1] => (Jbw x0).bind fun l => (Jdr x1).bind fun p => if l.length <= 3000000 /\ p.length <= 3000000 then some (iD (Je6 l p)) else none
  | _ => none
theorem C_Find : CallOk Tryz.prog 26 Jp2 := by
  refine ⟨⟨_, Tryz.func26, by decide, rfl⟩, fun ds d hF S vs W hS hv => ?_⟩
  unfold Jp2 at hF
  split at hF
  · rename_i x0 x1
    rcases hd0 : Jbw x0 with _ | l
    · rw [hd0] at hF; cases hF
    rw [hd0, Option.bind_some] at hF
    rcases hd1 : Jdr x1 with _ | p
    · rw [hd1] at hF; cases hF
    rw [hd1, Option.bind_some] at hF
    split at hF
    rotate_left
    · cases hF
    rename_i G
    cases hF
    simp only [RepA] at hv
    obtain ⟨v_l, t0, rfl, r0, ⟨v_p, t1, rfl, r1, rfl⟩⟩ := hv
    have h_l := (Jb9 hd0 r0).mono hS
    have h_p := (Jgp hd1 r1).mono hS
    refine (Qpr l p v_l v_p W h_l h_p (by omega) (by omega)).mono ?_
    rintro e w1 ⟨rfl, hb⟩
    exact ⟨_, rfl, by simp only [Rep], hb⟩
  · cases hF
def Jhv : List D -> Option D
  | [x0, x1] => (Jbw x0).bind fun l => (Jdr x1).bind fun p => if l.length <= 3000000 /\ p.length <= 3000000 then some (iD (Je6 l p)) else none
  | _ => none
theorem Qms : CallOk Tryz.prog 74 Jhv := by
  refine ⟨⟨_, Tryz.func74, by decide, rfl⟩, fun ds d hF S vs W hS hv => ?_⟩
  unfold Jhv at hF
  split at hF
  · rename_i x0 x1
    rcases hd0 : Jbw x0 with _ | l
    · rw [hd0] at hF; cases hF
    rw [hd0, Option.bind_some] at hF
    rcases hd1 : Jdr x1 with _ | p
    · rw [hd1] at hF; cases hF
    rw [hd1, Option.bind_some] at hF
    split at hF
    rotate_left
    · cases hF
    rename_i G
    cases hF
    simp only [RepA] at hv
    obtain ⟨v_l, t0, rfl, r0, ⟨v_p, t1, rfl, r1, rfl⟩⟩ := hv
    have h_l := (Jb9 hd0 r0).mono hS
    have h_p := (Jgp hd1 r1).mono hS
    refine (Qco l p v_l v_p W h_l h_p (by omega) (by omega)).mono ?_
    rintro e w1 ⟨rfl, hb⟩
    exact ⟨_, rfl, by simp only [Rep], hb⟩
  · cases hF
def Jkr : List D -> Option D
  | [x0, x1] => (Jdr x0).bind fun a => (Jdr x1).bind fun b => if a.length <= 3000000 /\ b.length <= 3000000 then some (iD (cmpL a b)) else none
  | _ => none
theorem Qmw : CallOk Tryz.prog 22 Jkr := by
  refine ⟨⟨_, Tryz.func22, by decide, rfl⟩, fun ds d hF S vs W hS hv => ?_⟩
  unfold Jkr at hF
  split at hF
  · rename_i x0 x1
    rcases hd0 : Jdr x0 with _ | a
    · rw [hd0] at hF; cases hF
    rw [hd0, Option.bind_some] at hF
    rcases hd1 : Jdr x1 with _ | b
    · rw [hd1] at hF; cases hF
    rw [hd1, Option.bind_some] at hF
    split at hF
    rotate_left
    · cases hF
    rename_i G
    cases hF
    simp only [RepA] at hv
    obtain ⟨v_a, t0, rfl, r0, ⟨v_b, t1, rfl, r1, rfl⟩⟩ := hv
    have h_a := (Jgp hd0 r0).mono hS
    have h_b := (Jgp hd1 r1).mono hS
    refine (Qdw a b v_a v_b W h_a h_b (by omega) (by omega)).mono ?_
    rintro e w1 ⟨rfl, hb⟩
    exact ⟨_, rfl, by simp only [Rep], hb⟩
  · cases hF
def Jf2 : List D -> Option D
  | [x0, x1] => (Jdr x0).bind fun a => (Jdr x1).bind fun b => if a.length <= 3000000 /\ b.length <= 3000000 then some (iD (cmpL a b)) else none
  | _ => none
theorem Qbl : CallOk Tryz.prog 64 Jf2 := by
  refine ⟨⟨_, Tryz.func64, by decide, rfl⟩, fun ds d hF S vs W hS hv => ?_⟩
  unfold Jf2 at hF
  split at hF
  · rename_i x0 x1
    rcases hd0 : Jdr x0 with _ | a
    · rw [hd0] at hF; cases hF
    rw [hd0, Option.bind_some] at hF
    rcases hd1 : Jdr x1 with _ | b
    · rw [hd1] at hF; cases hF
    rw [hd1, Option.bind_some] at hF
    split at hF
    rotate_left
    · cases hF
    rename_i G
    cases hF
    simp only [RepA] at hv
    obtain ⟨v_a, t0, rfl, r0, ⟨v_b, t1, rfl, r1, rfl⟩⟩ := hv
    have h_a := (Jgp hd0 r0).mono hS
    have h_b := (Jgp hd1 r1).mono hS
    refine (Juu a b v_a v_b W h_a h_b (by omega) (by omega)).mono ?_
    rintro e w1 ⟨rfl, hb⟩
    exact ⟨_, rfl, by simp only [Rep], hb⟩
  · cases hF
def Jum : List D -> Option D
  | [x0, x1] => (asInt x0).bind fun x => (asInt x1).bind fun y => some (iD (cmpI x y))
  | _ => none
theorem C_cmpI : CallOk Tryz.prog 46 Jum := by
  refine ⟨⟨_, Tryz.func46, by decide, rfl⟩, fun ds d hF S vs W hS hv => ?_⟩
  unfold Jum at hF
  split at hF
  · rename_i x0 x1
    rcases hd0 : asInt x0 with _ | x
    · rw [hd0] at hF; cases hF
    rw [hd0, Option.bind_some] at hF
    rcases hd1 : asInt x1 with _ | y
    · rw [hd1] at hF; cases hF
    rw [hd1, Option.bind_some] at hF
    cases hF
    simp only [RepA] at hv
    obtain ⟨v_x, t0, rfl, r0, ⟨v_y, t1, rfl, r1, rfl⟩⟩ := hv
    obtain rfl := Jfs hd0 r0
    obtain rfl := Jfs hd1 r1
    refine ((Jsc x y W).mono (R' := fun e w' => e = .returned (.int .i64 (cmpI x y)) /\ Below W.heap.size W w') (by rintro e w' ⟨rfl, rfl⟩; exact ⟨rfl, Below.refl _ _⟩)).mono ?_
    rintro e w1 ⟨rfl, hb⟩
    exact ⟨_, rfl, by simp only [Rep], hb⟩
  · cases hF
def Jjo : List D -> Option D
  | [x0] => (Jdr x0).bind fun l => if l.length <= 3000000 then some (Jag l) else none
  | _ => none
theorem Qpm : CallNew Tryz.prog 73 Jjo := by
  refine ⟨⟨_, Tryz.func73, by decide, rfl⟩, fun ds d hF S vs W hS hv => ?_⟩
  unfold Jjo at hF
  split at hF
  · rename_i x0
    rcases hd0 : Jdr x0 with _ | l
    · rw [hd0] at hF; cases hF
    rw [hd0, Option.bind_some] at hF
    split at hF
    rotate_left
    · cases hF
    rename_i G
    cases hF
    simp only [RepA] at hv
    obtain ⟨v_l, t0, rfl, r0, rfl⟩ := hv
    have h_l := Jgp hd0 r0
    refine (Qbj l v_l W S hS h_l (by omega)).mono ?_
    rintro e w1 ⟨u, rfl, hu, hb⟩
    exact ⟨u, rfl, Jkf (Jhi hu), hb⟩
  · cases hF
def Qr9 : List Entry := (26, true, Jae Jp2) :: (74, true, Jae Jhv) :: (22, true, Jae Jkr) :: (64, true, Jae Jf2) :: (46, true, Jae Jum) :: (73, true, Jc8 Jjo) :: (108, true, Jc8 Jdb) :: fs08
theorem Qfe : ∀ p ∈ Qr9, Jbu Tryz.prog p := Jac (Jal C_Find) <| Jac (Jal Qms) <| Jac (Jal Qmw) <| Jac (Jal Qbl) <| Jac (Jal C_cmpI) <| Jac (Jgk Qpm) <| Jac (Jgk Qlw) <| Qc0
def T12a : Tab := ⟨Qr9, noYl⟩
theorem Jq1 : TabOk Tryz.prog T12a := Jb4 Qfe
end Go.Proofs.YtinnbafplhcnpaaGreat
end
section
namespace Go.Proofs.YtinnbafplhcnpaaGreat
open Go.RowKit
set_option linter.unusedVariables false
set_option linter.unusedSimpArgs false
def b8 (n : Int) : UInt8 := UInt8.ofNat (n % 256).toNat
@[simp] theorem cells_agg (cs : List D) : cellsD (.agg cs) = some cs := rfl
@[simp] theorem cells_int (k : IntKind) (n : Int) : cellsD (.v (.int k n)) = some [.v (.int k n)] := rfl
@[simp] theorem Qsr (l : List Nd) : cellsD (Jaf l) = some [Jaf l] := rfl
@[simp] theorem cells_ints (l : List Int) : cellsD (Jag l) = some [Jag l] := rfl
@[simp] theorem cells_hs (i n : Nat) : cellsD (.hs i n) = some [.hs i n] := rfl
@[simp] theorem cells_hp (i n : Nat) : cellsD (.hp i n) = some [.hp i n] := rfl
@[simp] theorem cells_clo (f : Fn) (a b : List D) : cellsD (.clo f a b) = some [.clo f a b] := rfl
@[simp] theorem ext0 (a : D) (l : List D) : Jat (.tup (a :: l)) 0 = some a := rfl
@[simp] theorem ext1 (a b : D) (l : List D) : Jat (.tup (a :: b :: l)) 1 = some b := rfl
@[simp] theorem ext2 (a b c : D) (l : List D) : Jat (.tup (a :: b :: c :: l)) 2 = some c := rfl
@[simp] theorem nilD_hp (i o : Nat) : nilD (.hp i o) = some (.hp i o) := rfl
theorem Qfl : ∀ l : List Int, eqR (l.map oneI) (l.map oneI) = true
  | [] => rfl
  | n :: r => by simp [eqR, Qfl r, oneI, eqL, eqB, eqV]
theorem Qah : ∀ l : List Nd, eqR (l.map Jax) (l.map Jax) = true
  | [] => rfl
  | n :: r => by simp [eqR, Qah r, Jax, eqL, eqB, eqV]
@[simp] theorem eqB_int (k : IntKind) (n : Int) : eqB (.v (.int k n)) (.v (.int k n)) = true := by simp [eqB, eqV]
@[simp] theorem eqB_bool (b : Bool) : eqB (.v (.bool b)) (.v (.bool b)) = true := by simp [eqB, eqV]
@[simp] theorem eqB_ints (l : List Int) : eqB (Jag l) (Jag l) = true := by simp [Jag, eqB, Qfl]
@[simp] theorem eqB_nodes (l : List Nd) : eqB (Jaf l) (Jaf l) = true := by simp [Jaf, eqB, Qah]
@[simp] theorem eqB_hs (i n : Nat) : eqB (.hs i n) (.hs i n) = true := by simp [eqB]
@[simp] theorem eqB_hp (i n : Nat) : eqB (.hp i n) (.hp i n) = true := by simp [eqB]
@[simp] theorem eqB_nil : eqB (.v (.slice none 0 0)) (.v (.slice none 0 0)) = true := rfl
@[simp] theorem eqL_nil : eqL [] [] = true := rfl
@[simp] theorem eqL_cons (a b : D) (r s : List D) : eqL (a :: r) (b :: s) = (eqB a b && eqL r s) := by simp [eqL]
@[simp] theorem Qmy : Jcc (D.v Value.nilFunc) = true := rfl
end Go.Proofs.YtinnbafplhcnpaaGreat
end
