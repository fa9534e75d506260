/-
  arena.kids: the iterator over a node's kids, and arena.Kids: what they compute.
-/
import Derived.RangeFuncNested
import Derived.RangeFuncBound
import Derived.RangeFuncCalls
import Derived.RangeFuncLeaves
import Derived.RangeFuncBox
import Derived.Shelf.Abstract
import Derived.Shelf.RegionOpen
import Derived.OwnWalkIn
import Derived.TacticsInMore
import Derived.LoopNIn
import Derived.LoopIn
import Derived.Maps.AppendAt
import Derived.Test.YtnmgfobpcengkaaArenaB
namespace Go.Proofs.Ytnmgfobpcengkaa
open Go.RowKit Go.Shelf
set_option linter.unusedVariables false
attribute [local go_sem] Oper.semAt_some
@[go_sem] theorem wide_fn (f : FuncId) : Fence.wide.fn f = True := rfl
@[go_sem] theorem wide_depth : Fence.wide.depth = none := rfl

set_option maxRecDepth 100000 in
set_option maxHeartbeats 2000000 in
/-- The closure of arena.kids: for every loop body that keeps the blocks of S. -/
theorem kids1_in (n : Nat) (lp Bl Ba : Nat) (S : Nat → Prop) (l : List Nd) (i : Nat) (v : Value) (J Jx : List Int → World → Prop) (hi : i < l.length) (har : 0 ≤ arAt l i) (hl : l.length ≤ 4000000) (hSl : S Bl) (hSa : S Ba)
    (hY : ∀ pre x W, J pre W → pre.length < (arAt l i).toNat → YieldAt Fence.wide (n - 1) Try.prog lp #[.int .i64 x] W fun e W' =>
      (e = .returned (.bool true) ∧ J (pre ++ [x]) W' ∧ Kept S W W') ∨ (e = .returned (.bool false) ∧ Jx (pre ++ [x]) W'))
    (W : World) (hSW : ∀ k, S k → k < W.heap.size) (hJ : ∀ pre A B, J pre A → Below A.heap.size A B → J pre B) (hbl : W.cell? ⟨Bl, 0, none⟩ = some v) (hba : W.cell? ⟨Ba, 0, none⟩ = some (.int .i64 i)) (hv : NodesIn S W v l) (h0 : J [] W) :
    CallsIn Fence.wide n Try.prog 50 #[.func (.yield lp) #[] #[], .pointer (some ⟨Ba, 0, none⟩), .pointer (some ⟨Bl, 0, none⟩)] W fun e W' => (∃ v, e = .returned v) ∧
      ((∃ ys, ys = upto (kth l (i + 1)) (arAt l i).toNat ∧ J ys W') ∨ (∃ pre, (∃ k, k ≤ (arAt l i).toNat ∧ pre = upto (kth l (i + 1)) k) ∧ Jx pre W')) := by
  refine callsIn_of_wp Try.func50 rfl trivial ?_ rfl
  simp only [Try.ntmps50, List.size_toArray, List.length_cons, List.length_nil, Nat.reduceAdd, Nat.reduceSub, Array.replicate_succ, Array.replicate_zero, List.push_toArray, List.append_toArray, List.nil_append, List.cons_append]
  rcases hv.open with ⟨rfl, _⟩ | ⟨b, o, cap, rfl, hpos, hcap, hbs, hcell⟩
  · simp at hi
  · obtain ⟨hc0, hc1⟩ := hcell i hi
    have hab := ar_bound l[i]
    rw [arAt_in l i hi] at har hY ⊢
    have hSB : ∀ B : World, W.heap.size ≤ B.heap.size → ∀ k, S k → k < B.heap.size := fun B h k hk => Nat.lt_of_lt_of_le (hSW k hk) h
    gi_wp2_with (gi_at_call 25; refine (callsIn_wide.2 (Arity_any l[i] _)).mono ?_; rintro e w1 ⟨rfl, hb⟩)
    gi_loopw [4, 12] (fun k c wr => ∃ m : Nat, (m : Int) ≤ ar l[i] ∧ c = .int .i64 m ∧ k = .int .i64 (kth l (i + 1) m) ∧ J (upto (kth l (i + 1)) m) wr ∧ Kept S W wr) (fun _ c _ => (ar l[i] - intOf c).toNat)
    case atStart =>
      exact ⟨0, har, rfl, rfl, hJ _ _ _ h0 hb, kept_of hb hSW⟩
    case round =>
      obtain ⟨m, hm, rfl, rfl, hJs, hkw⟩ := hrel
      by_cases hlt : (m : Int) < ar l[i]
      · obtain ⟨fn, tmps, assign, body, hy, hR⟩ := hY _ (kth l (i + 1) m) wr hJs (by rw [upto_length]; omega)
        gi_wp2
        refine hR.mono ?_
        rintro e W3 (⟨rfl, hJ3, hk3⟩ | ⟨rfl, hJx3⟩)
        · have hk3' := hkw.trans hk3
          have hbl3 : W3.cell? ⟨Bl, 0, none⟩ = some (.slice (some ⟨b, o, none⟩) l.length cap) := (hk3'.cell (p := ⟨Bl, 0, none⟩) hSl).trans hbl
          have hv3 : NodesAt W3 (.slice (some ⟨b, o, none⟩) l.length cap) l := (hv.kept hk3').mono (hSB W3 hk3'.size)
          gi_wp2_with (gi_at_call 19; refine (callsIn_wide.2 (End_any l _ _ _ hv3 hl)).mono ?_; rintro e w4 ⟨rfl, hb4⟩)
          go_roundw
          case rel => exact ⟨m + 1, by omega, by go_num, rfl, by rw [upto_succ]; exact hJ _ _ _ hJ3 hb4, hk3'.trans (kept_of hb4 (hSB W3 hk3'.size))⟩
          case measure => simp [intOf]; omega
        · gi_wp2
          refine bodyPost_ret (results_none rfl _ _ _) rfl ?_
          exact ⟨⟨_, rfl⟩, .inr ⟨_, ⟨m + 1, by omega, (upto_succ _ _).symm⟩, hJx3⟩⟩
      · gi_wp2
        go_end0
        exact ⟨⟨_, rfl⟩, .inl (by rw [show (ar l[i]).toNat = m from by omega]; exact hJs)⟩

/-- arena.kids hands back a value that goes over a node's kids. -/
theorem kids_in (n : Nat) (v : Value) (p : Option Addr) (len cap : Nat) (hv : v = .slice p len cap) (i : Int) (w : World) :
    CallsIn Fence.wide n Try.prog 41 #[v, .int .i64 i] w fun e w' =>
      e = .returned (.func (.func 50) #[] #[.pointer (some ⟨w.heap.size + 1, 0, none⟩), .pointer (some ⟨w.heap.size, 0, none⟩)]) ∧
      w' = (w.alloc (.cells #[v] 22)).alloc (.cells #[.int .i64 i] 3) := by
  subst hv
  refine callsIn_of_wp Try.func41 rfl trivial ?_ rfl
  simp only [Try.ntmps41, List.size_toArray, List.length_cons, List.length_nil, Nat.reduceAdd, Nat.reduceSub, Array.replicate_succ, Array.replicate_zero, List.push_toArray, List.append_toArray, List.nil_append, List.cons_append]
  gi_wp2
  go_ret
  exact ⟨rfl, rfl⟩

/-- AbidesFrom carries an invariant over whatever makes memory alone. -/
theorem abides_below {β : Type} {B : Nat} {J : β → World → Prop} (h : AbidesFrom B J) {s : β} {A C : World} (hj : J s A) (hb : Below A.heap.size A C) : J s C :=
  h s A C none hj ⟨hb.os, hb.tape, hb.output, hb.size, fun k hk _ => hb.block k hk⟩ (fun r e => by cases e)

theorem kids_stops (n : Nat) (Bl Ba : Nat) (S : Nat → Prop) (l : List Nd) (i : Nat) (v : Value) (hi : i < l.length) (har : 0 ≤ arAt l i) (hl : l.length ≤ 4000000) (hSl : S Bl) (hSa : S Ba)
    (w : World) (hSW : ∀ k, S k → k < w.heap.size) (hbl : w.cell? ⟨Bl, 0, none⟩ = some v) (hba : w.cell? ⟨Ba, 0, none⟩ = some (.int .i64 i)) (hv : NodesIn S w v l) :
    SeqStopsK Fence.wide n Try.prog 50 #[.pointer (some ⟨Ba, 0, none⟩), .pointer (some ⟨Bl, 0, none⟩)] (fun x : Int => #[Value.int .i64 x]) (Kept S)
      (fun ys => ys = upto (kth l (i + 1)) (arAt l i).toNat) (fun pre => ∃ k, k ≤ (arAt l i).toNat ∧ pre = upto (kth l (i + 1)) k) (arAt l i).toNat w := fun lp J Jx W hW hJ hJx hY h0 => by
  have hk : Kept S w W := kept_of hW hSW
  exact kids1_in n lp Bl Ba S l i v J Jx hi har hl hSl hSa hY W (fun k hs => Nat.lt_of_lt_of_le (hSW k hs) hk.size) (fun pre A B hj hb => abides_below hJ hj hb)
    ((hk.cell (p := ⟨Bl, 0, none⟩) hSl).trans hbl) ((hk.cell (p := ⟨Ba, 0, none⟩) hSa).trans hba) (hv.kept hk) h0

/-- 'out = append(out, x)', out in a box ahead of n₀: what becomes of everything. -/
theorem boxed_appended {W w1 : World} {n₀ B : Nat} {t e : TypeId} {size : Nat} {v v' : Value} {k m : Nat} {xs ys : List Value} {tmp : Obj}
    (hv : Boxed W B t v) (hte : t ≠ e) (hrow : W.ownsRow n₀ e size v k xs) (hn₀ : n₀ ≤ W.heap.size)
    (hown' : w1.ownsRow n₀ e size v' m ys) (hgrow : (W.alloc tmp).grownBy w1 v.ownBlock) :
    Boxed w1 B t v ∧ Boxed (w1.setCell ⟨B, 0, none⟩ v') B t v' ∧ (w1.setCell ⟨B, 0, none⟩ v').ownsRow n₀ e size v' m ys ∧ KeepsOthers W (w1.setCell ⟨B, 0, none⟩ v') ∧
      (∀ S : Nat → Prop, (∀ j, S j → j < n₀ ∧ j ≠ B) → Kept S W (w1.setCell ⟨B, 0, none⟩ v')) ∧ (∀ B0, B0 ≤ B → B0 ≤ n₀ → Below B0 W (w1.setCell ⟨B, 0, none⟩ v')) := by
  have hv1 : Boxed w1 B t v := (hv.alloc tmp).kept hgrow (hv.not_row hte hrow)
  have hbl : ∀ j, v.ownBlock = some j → n₀ ≤ j := fun j ej => (hrow.lt j ej).1
  refine ⟨hv1, hv1.set v', hown'.kept (grownBy_setCell' w1 B v') (.inr (hv1.not_row hte hown').symm), ?_, ?_, ?_⟩
  · refine ((KeepsOthers.alloc W tmp).trans (KeepsOthers.of_grownBy hgrow fun j o ej hj => ?_)).trans (KeepsOthers.setCell _ _ _)
    rcases (hrow.alloc tmp).2 with ⟨rfl, _⟩ | ⟨g, cap, cur, rfl, _, hgb, _⟩
    · simp [Value.ownBlock] at ej
    · obtain rfl : g = j := by simpa [Value.ownBlock] using ej
      rw [hgb] at hj; cases hj; rfl
  · intro S hS
    refine kept_setCell (kept_grown (kept_alloc (Kept.refl S W) (fun j hj => by have := (hS j hj).1; omega) tmp) hgrow (fun j hj => by have := (hS j hj).1; simp; omega) (fun j ej hj => ?_)) (fun hj => (hS _ hj).2 rfl) _
    have := hbl j ej; have := (hS j hj).1; omega
  · intro B0 h1 h2
    refine (((Below.refl B0 W).alloc (by omega) tmp).grown hgrow (by simp; omega) fun j ej => ?_).setCell (p := ⟨B, 0, none⟩) h1 v'
    have := hbl j ej; omega

theorem ownFrom_size {β : Type} (B m : Nat) : OwnFrom B (fun (_ : β) W => m ≤ W.heap.size) := fun _ _ _ _ hs hg _ => Nat.le_trans hs hg.size

theorem grown_of_below {w w' : World} (hb : Below w.heap.size w w') (row : Option Nat) : w.grownBy w' row := ⟨hb.os, hb.tape, hb.output, hb.size, fun k hk _ => hb.block k hk⟩
theorem ownsRow_below {w w' : World} {base : Nat} {e : TypeId} {size : Nat} {v : Value} {n : Nat} {xs : List Value} (h : w.ownsRow base e size v n xs) (hb : Below w.heap.size w w') : w'.ownsRow base e size v n xs :=
  h.kept (grown_of_below hb none) (by cases v.ownBlock <;> simp)

/-- A row of ints that the call owns reads as the ints. -/
theorem ownsRow_ints {w : World} {base : Nat} {e : TypeId} {v : Value} {l : List Int} (h : w.ownsRow base e 1 v l.length (l.map (Value.int .i64))) : IntsIn (fun k => base ≤ k ∧ k < w.heap.size) w v l := by
  by_cases hl : l.length = 0
  · refine .inl ?_
    rcases h.2 with ⟨rfl, _⟩ | ⟨g, cap, cur, rfl, _⟩
    · exact ⟨none, 0, rfl, hl, by simpa using hl, fun _ => rfl⟩
    · exact ⟨some ⟨g, 0, none⟩, cap, by rw [hl], hl, by simpa using hl, fun h => by cases h⟩
  · have hlt := h.lt
    rcases h.2 with ⟨_, h0⟩ | ⟨g, cap, cur, rfl, hb, hg, hc, _⟩
    · exact absurd h0 hl
    · refine .inr ⟨g, 0, cap, rfl, by omega, hc, ⟨hb, (hlt g rfl).2⟩, fun j hj => ?_⟩
      have := h.cellAt j (by simpa using hj)
      simpa using this

theorem infoInt : (Try.prog.info? 3).map (fun i => (i.zero, i.size, i.bytes)) = some (some (.int .i64 0), 1, 8) := by kernel_rfl

set_option maxRecDepth 100000 in
set_option maxHeartbeats 2000000 in
theorem Kids_in (n : Nat) (hn : 3 ≤ n) (l : List Nd) (i : Int) (v : Value) (w : World) (hv : NodesAt w v l) (hl : l.length ≤ 4000000) :
    CallsIn Fence.wide n Try.prog 22 #[v, .int .i64 i] w fun e W' => ∃ u, e = .returned u ∧ IntsIn (fun k => w.heap.size ≤ k ∧ k < W'.heap.size) W' u (kidsv l i) ∧ Below w.heap.size w W' := by
  have h1 : 1 ≤ n := by omega
  obtain ⟨i0, hi, hz0, hz1, hz2⟩ := info_parts infoInt
  refine callsIn_of_wp_marks Try.func22 rfl trivial ?_ rfl
  simp only [Try.ntmps22, List.size_toArray, List.length_cons, List.length_nil, Nat.reduceAdd, Nat.reduceSub, Array.replicate_succ, Array.replicate_zero, List.push_toArray, List.append_toArray, List.nil_append, List.cons_append]
  rcases endv_bound l i with hE | hE
  · have hlt : endv l i < 0 := by omega
    have HK := Lib.hid (kidsv_no l i hlt)
    clear hE
    gi_wp2_with (gi_at_call 19; refine (callsIn_wide.2 (End_any l _ _ _ hv hl)).mono ?_; rintro e w1 ⟨rfl, hb⟩)
    exact ⟨_, results_tmp rfl _ _ _, _, rfl, by rw [HK.out]; exact .inl ⟨none, 0, rfl, rfl, rfl, fun _ => rfl⟩, hb⟩
  · obtain ⟨hi0, hil⟩ := endv_in l i hE
    obtain ⟨k, rfl⟩ := Int.eq_ofNat_of_zero_le hi0
    have hnlt : ¬ endv l k < 0 := by omega
    have hkl : k < l.length := by simpa using hil
    have hab := arAt_bound l k
    have har := endv_ar l k hE
    obtain ⟨p, cap, rfl⟩ := hv.slice
    have HK := Lib.hid (kidsv_eq l k hE)
    gi_wp2_with (first | (gi_at_call 19; refine (callsIn_wide.2 (End_any l _ _ _ hv hl)).mono ?_; rintro e w1 ⟨rfl, hb⟩) | (gi_at_call 41; refine (kids_in _ _ _ _ _ rfl _ _).mono ?_; rintro e w2 ⟨rfl, rfl⟩))
    have hsz := hb.size
    have bO := Boxed.new w1 23 (.slice none 0 0)
    have bL := Boxed.new (w1.alloc (.cells #[.slice none 0 0] 23)) 22 (.slice p l.length cap)
    have bA := Boxed.new ((w1.alloc (.cells #[.slice none 0 0] 23)).alloc (.cells #[.slice p l.length cap] 22)) 3 (.int .i64 k)
    rw [World.size_alloc] at bL
    rw [World.size_alloc, World.size_alloc] at bA
    obtain ⟨W0, hW0⟩ : ∃ W0, ((w1.alloc (.cells #[.slice none 0 0] 23)).alloc (.cells #[.slice p l.length cap] 22)).alloc (.cells #[.int .i64 k] 3) = W0 := ⟨_, rfl⟩
    have bO := (bO.alloc (.cells #[.slice p l.length cap] 22)).alloc (.cells #[.int .i64 k] 3)
    have bL := bL.alloc (.cells #[.int .i64 k] 3)
    have hB0 : Below w1.heap.size w1 W0 := by rw [← hW0]; exact (((Below.refl _ w1).alloc (Nat.le_refl _) _).alloc (by simp) _).alloc (by simp; omega) _
    have hS0 : W0.heap.size = w1.heap.size + 3 := by rw [← hW0]; simp
    have hBw : Below w.heap.size w W0 := hb.trans (hB0.mono hsz)
    rw [hW0] at bO bL bA ⊢
    refine wpIn_rangeFunc_ownG rfl h1 (gf := 50) (lb := #[.pointer (some ⟨w1.heap.size + 1 + 1, 0, none⟩), .pointer (some ⟨w1.heap.size + 1, 0, none⟩)]) rfl trivial (enters_of Try.func50 (by kernel_rfl) rfl)
      (kids_stops (n - 1) (w1.heap.size + 1) (w1.heap.size + 1 + 1) (fun j => j < w1.heap.size + 3 ∧ j ≠ w1.heap.size) l k _ hkl har hl ⟨by omega, by omega⟩ ⟨by omega, by omega⟩ W0 (fun j hj => by have := hj.1; omega) bL.cell bA.cell
        ((hv.kept (kept_below hBw)).mono (fun j hj => ⟨by omega, by omega⟩)))
      (fun h h' => h.trans h') (fun W lp o o' hlp ho _ _ => ⟨by simp, fun j hj => World.putObj_heap_other (by have := hj.1; omega)⟩) (Below.refl _ _) (fun _ => rfl)
      (fun pre W => (∃ u, Boxed W w1.heap.size 23 u ∧ W.ownsRow (w1.heap.size + 3) 3 1 u pre.length (pre.map (Value.int .i64)) ∧ True) ∧ Below w.heap.size w W ∧ w1.heap.size + 3 ≤ W.heap.size)
      (fun _ _ _ => False)
      (OwnFrom.and (Own.from (holdsRow_own (w1.heap.size + 3) w1.heap.size 23 3 1 (fun pre : List Int => pre.length) (fun pre => pre.map (Value.int .i64)) (fun _ _ => True)) _) (OwnFrom.and (ownFrom_below (Nat.le_refl _) (by omega)) (ownFrom_size _ _)))
      (fun _ _ _ _ _ hs _ _ => hs)
      ⟨⟨_, bO, World.ownsRow_nil _ _ _ _, trivial⟩, hBw, by omega⟩
      (fun x => { tmps := #[.slice p l.length cap, .int .i64 k, undef, undef, .slice none 0 0, .pointer (some ⟨w1.heap.size, 0, none⟩), .int .i64 x, .slice p l.length cap, .int .i64 k, .int .i64 (endv l k), .bool (decide (endv l k < 0)), .slice p l.length cap, .int .i64 k, .func (.func 50) #[] #[.pointer (some ⟨w1.heap.size + 1 + 1, 0, none⟩), .pointer (some ⟨w1.heap.size + 1, 0, none⟩)], .int .i64 x, undef, undef, undef, undef, undef], defers := [] }) ?assign ?body ?done ?stop
    case assign =>
      intro lp x W K hK
      gi_wp2
      exact hK
    case body =>
      rintro lp pre x W ⟨⟨u, hv1, hrow, _⟩, hB, hWs⟩ hlt
      have hc := hv1.cell
      have hN : pre.length < 200 := by omega
      gi_wp2_with (gi_at_builtin; refine wpListIn_append_own _ rfl _ _ 23 rfl (w1.heap.size + 3) 3 i0 (.int .i64 0) 1 8 Try.underlying23 hi hz0 hz1 hz2 rfl (by decide) _ _ _ rfl (hrow.alloc _) ⟨W.heap.size, 0, none⟩ 1 1 [.int .i64 x] rfl rfl (cell_one_new _ _ _) (by simp [Value.oneCell']) (by unfold maxLen; omega) (by omega) (by simp; omega) ?_; intro v' w3 hown' hgrow _; obtain ⟨g', cap', rfl⟩ := ownsRow_succ hown'; obtain ⟨hv3, hv4, hr4, hk4, hS4, hB4⟩ := boxed_appended hv1 (by decide) hrow hWs hown' hgrow; have hc3 := hv3.cell; have hf3 := hv3.frozen)
      exact ⟨hk4.from _, hS4 _ (fun j hj => hj), ⟨_, hv4, by simpa using hr4, trivial⟩, hB.trans (hB4 _ (by omega) (by omega)), Nat.le_trans hWs (hB4 0 (by omega) (by omega)).size⟩
    case done =>
      rintro D ys W hD rfl ⟨⟨u, hv1, hrow, _⟩, hB, hWs⟩ hK
      have hc := hv1.cell
      gi_wp2
      refine ⟨by simp, .inl ⟨_, _, rfl, run_takeDeferred hK, ?_⟩⟩
      refine ⟨_, results_tmp rfl _ _ _, u, rfl, ?_, hB.trans (belowK_b (w := w) (Nat.le_refl _) W D _ _ (by omega) hK rfl rfl)⟩
      rw [HK.out]
      exact (ownsRow_ints (ownsRow_putObj hrow _ hK rfl)).mono (fun j hj => ⟨by omega, hj.2⟩)
    case stop =>
      rintro D c pre W _ _ h _
      exact h.elim
end Go.Proofs.Ytnmgfobpcengkaa
