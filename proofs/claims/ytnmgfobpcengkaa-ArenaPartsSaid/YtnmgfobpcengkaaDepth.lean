/-
  arena.Depth: what it computes.
-/
import Derived.Test.YtnmgfobpcengkaaKidsIter
import Derived.Test.YtnmgfobpcengkaaDepthV
import Derived.Test.YtnmgfobpcengkaaKidsAny
namespace Go.Proofs.Ytnmgfobpcengkaa
set_option maxRecDepth 100000
open Go.RowKit Go.Shelf
set_option linter.unusedVariables false
attribute [local go_sem] Oper.semAt_some

theorem ownFrom_true {β : Type} (B : Nat) (p : β → Prop) : OwnFrom B (fun (s : β) (_ : World) => p s) := fun _ _ _ _ hs _ _ => hs

/-- A round: a call that makes memory alone, and a store into one's own box. -/
theorem depth_round {W U w3 : World} {B Bn Bx : Nat} {t t' : TypeId} {u v : Value} {a : Int} {f : Nat} {l : List Nd} {ks : List Int} (hx : W.heap.size ≤ Bn ∧ Bx ≠ Bn) (e1 : Boxed U Bn t u) (e2 : Boxed U Bx t' v) (hBU : Below W.heap.size W U) (hb3 : Below U.drew.heap.size U.drew w3)
    (h : a = depTo f l ks) : KeepsFrom B U (w3.setCell ⟨Bn, 0, none⟩ (.int .i64 a)) ∧ KeptBut (fun j => j = Bn) (B + 2) U (w3.setCell ⟨Bn, 0, none⟩ (.int .i64 a)) ∧
      (Boxed (w3.setCell ⟨Bn, 0, none⟩ (.int .i64 a)) Bn t (.int .i64 (depTo f l ks)) ∧ Boxed (w3.setCell ⟨Bn, 0, none⟩ (.int .i64 a)) Bx t' v ∧ Below W.heap.size W (w3.setCell ⟨Bn, 0, none⟩ (.int .i64 a))) := by
  subst h
  have hb : Below U.heap.size U w3 := ⟨hb3.os, hb3.tape, hb3.output, hb3.size, hb3.block⟩
  have k1 : KeepsFrom B U w3 := ⟨hb.size, fun k o _ hk _ => (hb.block k (Array.getElem?_eq_some_iff.1 hk).1).trans hk⟩
  have d1 : Boxed w3 Bn t u := (hb.block _ e1.lt).trans e1
  have d2 : Boxed w3 Bx t' v := (hb.block _ e2.lt).trans e2
  exact ⟨k1.trans ((KeepsOthers.setCell _ _ _).from _), (keptBut_below hb).trans (keptBut_setCell (X := fun j => j = Bn) w3 (p := ⟨Bn, 0, none⟩) rfl _), d1.set _, d2.other hx.2 _, (hBU.trans (hb.mono hBU.size)).setCell (p := ⟨Bn, 0, none⟩) hx.1 _⟩

set_option maxRecDepth 100000 in
set_option maxHeartbeats 4000000 in
theorem Depth_any (l : List Nd) (hl : l.length ≤ 4000000) : ∀ (f : Nat) (i : Int) (v : Value) (w : World), f ≤ 4000001 → ((l.length : Int) ≤ i + f ∨ i < 0) → NodesAt w v l →
    Calls Try.prog 36 #[v, .int .i64 i] w fun e w' => e = .returned (.int .i64 (depV f l i)) ∧ Below w.heap.size w w' := by
  intro f
  induction f with
  | zero =>
    intro i v w hf hi hv
    have hlt : endv l i < 0 := by
      rcases endv_bound l i with hE | hE
      · omega
      · obtain ⟨h1, h2⟩ := endv_in l i hE; omega
    obtain ⟨p, cap, hsl⟩ := hv.slice
    subst hsl
    have hv0 := hv.below (below_alloc1 w (.cells #[.slice p l.length cap] 22))
    go_enter Try.func36, Try.ntmps36
    go_wp2_with (go_at_call 19; refine (End_any l _ _ _ hv0 hl).mono ?_; rintro e w1 ⟨rfl, hb⟩)
    go_ret
    exact ⟨rfl, (below_alloc1 w _).trans (hb.mono (by simp))⟩
  | succ f ih =>
    intro i v w hf hi hv
    obtain ⟨p, cap, hsl⟩ := hv.slice
    subst hsl
    have hv0 := hv.below (below_alloc1 w (.cells #[.slice p l.length cap] 22))
    refine callsIn_wide.1 (?_ : CallsIn Fence.wide 1 _ _ _ _ _)
    refine callsIn_of_wp_marks Try.func36 rfl trivial ?_ rfl
    simp only [Try.ntmps36, List.size_toArray, List.length_cons, List.length_nil, Nat.reduceAdd, Nat.reduceSub, Array.replicate_succ, Array.replicate_zero, List.push_toArray, List.append_toArray, List.nil_append, List.cons_append]
    rcases endv_bound l i with hE | hE
    · have hlt : endv l i < 0 := by omega
      have HK := Lib.hid (depV_no (f + 1) l i hlt)
      clear hE hi
      gi_wp2_with (gi_at_call 19; refine (callsIn_wide.2 (End_any l _ _ _ hv0 hl)).mono ?_; rintro e w1 ⟨rfl, hb⟩)
      exact ⟨_, results_tmp rfl _ _ _, by rw [HK.out]; rfl, (below_alloc1 w _).trans (hb.mono (by simp))⟩
    · obtain ⟨hi0, hil⟩ := endv_in l i hE
      obtain ⟨k, rfl⟩ := Int.eq_ofNat_of_zero_le hi0
      have hkl : k < l.length := by simpa using hil
      have HI : Hid ((l.length : Int) ≤ k + (f + 1 : Nat)) := Lib.hid (by omega)
      have HY := Lib.hid (depV_yes f l k hE)
      have hnlt : ¬ endv l k < 0 := by omega
      clear hi
      gi_wp2_with (first | (gi_at_call 19; refine (callsIn_wide.2 (End_any l _ _ _ hv0 hl)).mono ?_; rintro e w1 ⟨rfl, hb⟩; have hx := (hb.block w.heap.size (by simp)).trans (Boxed.new w 22 (.slice p l.length cap)); have hxc := Boxed.cell (Boxed.alloc hx (.cells #[.int .i64 0] 3))) | (gi_at_call 41; refine (kids_in _ _ _ _ _ rfl _ _).mono ?_; rintro e w2 ⟨rfl, rfl⟩))
      have hsz1 := hb.size
      rw [World.size_alloc] at hsz1
      have hBw : Below w.heap.size w w1 := (below_alloc1 w _).trans (hb.mono (by simp))
      have bN := Boxed.new w1 3 (.int .i64 0)
      have bL := Boxed.new (w1.alloc (.cells #[.int .i64 0] 3)) 22 (.slice p l.length cap)
      have bA := Boxed.new ((w1.alloc (.cells #[.int .i64 0] 3)).alloc (.cells #[.slice p l.length cap] 22)) 3 (.int .i64 k)
      rw [World.size_alloc] at bL
      rw [World.size_alloc, World.size_alloc] at bA
      obtain ⟨W0, hW0⟩ : ∃ W0, ((w1.alloc (.cells #[.int .i64 0] 3)).alloc (.cells #[.slice p l.length cap] 22)).alloc (.cells #[.int .i64 k] 3) = W0 := ⟨_, rfl⟩
      have bN := (bN.alloc (.cells #[.slice p l.length cap] 22)).alloc (.cells #[.int .i64 k] 3)
      have bL := bL.alloc (.cells #[.int .i64 k] 3)
      have hB0 : Below w1.heap.size w1 W0 := by rw [← hW0]; exact (((Below.refl _ w1).alloc (Nat.le_refl _) _).alloc (by simp) _).alloc (by simp; omega) _
      have hS0 : W0.heap.size = w1.heap.size + 3 := by rw [← hW0]; simp
      have hB1 : Below w.heap.size w W0 := hBw.trans (hB0.mono (by omega))
      have bX : Boxed W0 w.heap.size 22 (.slice p l.length cap) := (hB0.block _ (by omega)).trans hx
      rw [hW0] at bN bL bA ⊢
      refine range_rule (gf := 50) (lb := #[.pointer (some ⟨w1.heap.size + 1 + 1, 0, none⟩), .pointer (some ⟨w1.heap.size + 1, 0, none⟩)]) rfl (enters_of Try.func50 (by kernel_rfl) rfl)
        (encs := fun x : Int => #[Value.int .i64 x]) (G := fun x _ => x ∈ kidsv l k) (Kp := KeptBut (fun j => j = w1.heap.size) (W0.heap.size + 2)) (N := (kidsv l k).length) (R := wholeOr (kidsv l k)) (fun _ => rfl)
        (fun W' hb' hs' => by
          have hkW : KeptBut (fun j => j = w1.heap.size) W0.heap.size W0 W' := keptBut_below hb'
          have := kids_iter l (.slice p l.length cap) hl (fun j => j = w1.heap.size) k (w1.heap.size + 1) (w1.heap.size + 1 + 1) W' hE (fun j hj => by omega) (by omega) (by omega)
            (hkW.cell (p := ⟨w1.heap.size + 1, 0, none⟩) (by show ¬ (_ = _); simp) bL.cell) (hkW.cell (p := ⟨w1.heap.size + 1 + 1, 0, none⟩) (by show ¬ (w1.heap.size + 1 + 1 = w1.heap.size); omega) bA.cell)
            ((hv.kept (kept_below (hB1.trans (hb'.mono hB1.size)))).mono (fun j hj => ⟨by omega, by have := hB1.size; omega⟩))
          rwa [hs'] at this)
        (fun h h' => h.trans h') (fun U q o o' h1 h2 h3 h4 _ => keptBut_putObj U q o o' h2 h3 h4)
        (fun pre U => Boxed U w1.heap.size 3 (.int .i64 (depTo f l pre)) ∧ Boxed U w.heap.size 22 (.slice p l.length cap) ∧ Below w.heap.size w U)
        (fun _ _ _ => False)
        (OwnFrom.and (Own.from (boxed_own _ _ _) _) (OwnFrom.and (Own.from (boxed_own _ _ _) _) (ownFrom_below (Nat.le_refl _) (by omega))))
        (fun _ _ _ _ _ hs _ _ => hs) (fun _ _ _ _ _ hs _ _ => hs)
        ⟨bN, bX, hB1⟩
        (fun x => { tmps := #[.slice p l.length cap, .int .i64 k, .pointer (some ⟨w.heap.size, 0, none⟩), undef, .int .i64 0, .pointer (some ⟨w1.heap.size, 0, none⟩), .int .i64 x, .slice p l.length cap, .int .i64 k, .int .i64 (endv l k), .bool (decide (endv l k < 0)), .slice p l.length cap, .int .i64 k, .func (.func 50) #[] #[.pointer (some ⟨w1.heap.size + 1 + 1, 0, none⟩), .pointer (some ⟨w1.heap.size + 1, 0, none⟩)], .int .i64 x, undef, undef, undef, undef, undef, undef, undef], defers := [] }) ?assign ?body ?done ?stop
      case assign =>
        intro lp x U K hK
        gi_wp2
        exact hK
      case body =>
        rintro lp pre x U ⟨e1, e2, hBU⟩ hgx hlen
        have hkm := kidsv_mem l k x hgx
        have hxf : (l.length : Int) ≤ x + f := by have := HI.out; omega
        have hvU : NodesAt U.drew (.slice p l.length cap) l := (hv.below hBU).below ((Below.refl _ _).drew)
        have g1 := e1.cell
        have g2 := e2.cell
        have f1 := e1.frozen
        have hmx : Try.prog.follows .mixedOrders = true := by kernel_rfl
        clear hkm
        gi_wp2
        gi_region_with_o (gi_at_call 36; refine (CallsIn.inRound lp (callsIn_wide.2 (ih x _ _ (by omega) (.inl hxf) hvU))).mono ?_; rintro e w3 ⟨rfl, hb3⟩; have d0 := Boxed.cell ((hb3.block _ e1.lt).trans e1); have d1 := Boxed.frozen ((hb3.block _ e1.lt).trans e1))
        all_goals gi_wp2
        all_goals exact depth_round (by omega) e1 e2 hBU hb3 (by first | (rw [depTo_snoc]; omega) | rw [depTo_snoc])
      case done =>
        rintro D ys U hD hR ⟨e1, e2, hBU⟩ hK
        have g1 := e1.cell
        have hR' : ys = kidsv l k := hR
        subst hR'
        have hbd := depTo_bound f l (kidsv l k)
        gi_wp2
        refine ⟨by simp, .inl ⟨_, _, rfl, run_takeDeferred hK, ?_⟩⟩
        exact ⟨_, results_tmp rfl _ _ _, by rw [HY.out]; rfl, hBU.trans (belowK_b (w := w) (Nat.le_refl _) U D _ _ (by omega) hK rfl rfl)⟩
      case stop =>
        rintro D c pre U _ _ h _
        exact h.elim
end Go.Proofs.Ytnmgfobpcengkaa
