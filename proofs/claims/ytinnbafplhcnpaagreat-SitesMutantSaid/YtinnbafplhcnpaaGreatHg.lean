import Derived.Test.YtinnbafplhcnpaaGreatProg
import Derived.BigQuiet
import Derived.Deep.QuietTactic
import Derived.RangeFuncNested
import Derived.RangeFuncBound
import Derived.RangeFuncCalls
import Derived.RangeFuncLeaves
import Derived.RangeFuncBox
import Derived.Shelf.Abstract
import Derived.Shelf.RegionOpen
import Derived.OwnWalkIn
import Derived.TacticsInMore
import Derived.LoopNIn
import Derived.LoopIn
import Derived.Maps.AppendAt
import Derived.Test.YtinnbafplhcnpaaGreatHa
section
namespace Go.Proofs.YtinnbafplhcnpaaGreat
open Go.RowKit
set_option maxHeartbeats 1000000 in
theorem Qhh        (t n : Int) (w : World) :
    Calls Tryz.prog 114 #[.agg #[.int .i64 t, .int .i64 n]] w fun e w' => e = .returned (.tuple #[.int .i64 (lim t n).1, .int .i64 (lim t n).2]) /\ Below w.heap.size w w' := by
  go_enter Tryz.func114, Tryz.ntmps114
  go_wp2
  all_goals first
    | (go_ret2; refine ⟨Js2 ?_, (Below.refl _ _).alloc (Nat.le_refl _) _⟩; simp only [beq_iff_eq, beq_eq_false_iff_ne] at *; simp [lim, *]; done)
    | (go_ret2; refine ⟨Js2 ?_, (Below.refl _ _).alloc (Nat.le_refl _) _⟩; simp only [beq_eq_false_iff_ne] at *; rw [lim]; simp only [*, if_false, or_false]; rw [if_neg (by omega)])
    | skip
  go_quiet (fail)
  go_wp2
  go_ret2
  refine ⟨Js2 ?_, below_drewN ((Below.refl _ _).alloc (Nat.le_refl _) _) _⟩
  simp only [beq_iff_eq, beq_eq_false_iff_ne] at *
  simp [lim, *]
set_option maxHeartbeats 1000000 in
theorem Jm1       (x : Nd) (w : World) :
    Calls Tryz.prog 79 #[.agg #[.int .i64 x.1, .int .i64 x.2]] w fun e w' => e = .returned (.int .i64 (ar x)) /\ Below w.heap.size w w' := by
  obtain ⟨t, n⟩ := x
  go_enter Tryz.func79, Tryz.ntmps79
  go_wp2_with (go_at_call 114; refine (Qhh _ _ _).mono ?_; rintro e w1 ⟨rfl, hb⟩; obtain ⟨hc, hf⟩ := bcell hb)
  all_goals go_ret
  · refine ⟨Ja7 ?_, (Below.refl _ _).alloc (Nat.le_refl _) _⟩
    simp_all [ar]
  all_goals
    refine ⟨Ja7 ?_, ((Below.refl _ _).alloc (Nat.le_refl _) _).trans (hb.mono (by simp))⟩
    simp only [beq_eq_false_iff_ne, ne_eq, ar] at *
    rw [if_neg (by assumption)]
    first | rw [if_pos (by omega)] | rw [if_neg (by omega)]
end Go.Proofs.YtinnbafplhcnpaaGreat
end
section
namespace Go.Proofs.YtinnbafplhcnpaaGreat
open Go.RowKit
set_option maxHeartbeats 1000000 in
theorem Jej     (l : List Nd) (i : Int) (v : Value) (w : World) (hv : Jbz     w v l) (hl : l.length ≤ 4000000) :
    Calls Tryz.prog 44 #[v, .int .i64 i] w fun e w' => e = .returned (.int .i64 (endv l i)) /\ Below w.heap.size w w' := by
  by_cases h0 : i < 0
  · go_enter Tryz.func44, Tryz.ntmps44
    go_wp2
    go_step3
    go_wp2
    rw [Exit.noGoto_ret]
    go_ret
    exact ⟨Ja7 (Jsa l i h0).symm, Below.refl _ _⟩
  · obtain ⟨k0, rfl⟩ := Int.eq_ofNat_of_zero_le (Int.not_lt.1 h0)
    rcases hv.open with ⟨rfl, p, cap, rfl⟩ | ⟨b, o, cap, rfl, hpos, hcap, hbs, hcell⟩
    · go_enter Tryz.func44, Tryz.ntmps44
      go_wp2
      go_step3
      go_wp2
      go_step3
      go_wp2
      rw [Exit.noGoto_ret]
      go_ret
      exact ⟨Ja7 (by rw [Jla, Jto _ _ _ (by omega) (by simp)]), Below.refl _ _⟩
    · clear hv
      go_enter Tryz.func44, Tryz.ntmps44
      go_wp2
      refine wp_scope_jumps 0 (fun a' w' => Below w.heap.size w w' /\ ∃ (k : Nat) (t : Int) (u7 u8 u9 u10 u11 u12 u13 u14 u15 u16 u17 u18 u19 u20 u21 u22 u23 u24 u25 u26 u27 u28 u29 u30 : Value),
        a' = { tmps := #[.slice (some ⟨b, o, none⟩) l.length cap, .int .i64 k0, undef, undef, .int .i64 0, .int .i64 k, .int .i64 t, u7, u8, u9, u10, u11, u12, u13, u14, u15, u16, u17, u18, u19, u20, u21, u22, u23, u24, u25, u26, u27, u28, u29, u30], defers := [] } /\
        1 ≤ t ∧ t ≤ 1 + 200 * (k - k0) ∧ k0 ≤ k ∧ (k ≤ l.length ∨ k = k0) ∧ endv l k0 = fin k (scan t.toNat (l.drop k))) (fun a' _ => l.length - (intOf (a'.tmps.getD 5 undef)).toNat) rfl ?_ ?_
      · have he := Lib.hid (Jla l k0)
        by_cases hk : k0 < l.length
        · obtain ⟨hc0, hc1⟩ := hcell k0 hk
          clear hcell
          go_wp2
          go_step3
          have hab := Jjl l[k0]
          go_wp2_with (go_at_call 79; refine (Jm1 l[k0] _).mono ?_; rintro e w1 ⟨rfl, hb⟩)
          · simp only [Exit.jump]
            go_ret
            exact ⟨Ja7 (by rw [he.out, Jxs l k0 1 (by omega) hk (by assumption)]), hb⟩
          · go_step3
            exact ⟨rfl, hb, k0 + 1, _, _, _, _, _, _, _, _, _, _, _, _, _, _, _, _, _, _, _, _, _, _, _, _, _, rfl, by omega, by omega, by omega, .inl (by omega), by rw [he.out, Qku l k0 1 (by omega) hk (by assumption)]⟩
          · simp only [Exit.jump]
            go_ret
            exact ⟨Ja7 (by rw [he.out, Jxq l k0 1 (by omega) hk (by assumption) (by assumption)]), hb⟩
        · clear hcell
          go_wp2
          go_step3
          go_wp2
          simp only [Exit.jump]
          go_ret
          exact ⟨Ja7 (by rw [he.out, Jto l k0 1 (by omega) (by omega)]), Below.refl _ _⟩
      · rintro a' w' ⟨hB, k, t, u7, u8, u9, u10, u11, u12, u13, u14, u15, u16, u17, u18, u19, u20, u21, u22, u23, u24, u25, u26, u27, u28, u29, u30, rfl, ht1, ht2, hk0, hkl, he⟩
        have he := Lib.hid he
        by_cases hk : k < l.length
        · obtain ⟨hc0, hc1⟩ := hcell k hk
          have hc0 : w'.cell? ⟨b, o + k * 2, none⟩ = some (.int .i64 l[k].1) := (hB.cell (p := ⟨b, o + k * 2, none⟩) hbs).trans hc0
          have hc1 : w'.cell? ⟨b, o + k * 2 + 1, none⟩ = some (.int .i64 l[k].2) := (hB.cell (p := ⟨b, o + k * 2 + 1, none⟩) hbs).trans hc1
          clear hcell
          have hab := Jjl l[k]
          go_wp2_with (go_at_call 79; refine (Jm1 l[k] _).mono ?_; rintro e w1 ⟨rfl, hb⟩)
          · simp only [Exit.jump]
            go_ret
            exact ⟨Ja7 (by rw [he.out, Jxs l k t ht1 hk (by assumption)]), hB.trans (hb.mono hB.size)⟩
          · go_step3
            refine ⟨rfl, ⟨hB.trans (hb.mono hB.size), k + 1, _, _, _, _, _, _, _, _, _, _, _, _, _, _, _, _, _, _, _, _, _, _, _, _, _, rfl, by omega, by omega, by omega, .inl (by omega), by rw [he.out, Qku l k t ht1 hk (by assumption)]⟩, ?_⟩
            simp [intOf]
            omega
          · simp only [Exit.jump]
            go_ret
            exact ⟨Ja7 (by rw [he.out, Jxq l k t ht1 hk (by assumption) (by assumption)]), hB.trans (hb.mono hB.size)⟩
        · clear hcell
          go_wp2
          simp only [Exit.jump]
          go_ret
          exact ⟨Ja7 (by rw [he.out, Jto l k t ht1 (by omega)]), hB⟩
end Go.Proofs.YtinnbafplhcnpaaGreat
end
section
namespace Go.Proofs.YtinnbafplhcnpaaGreat
open Go.RowKit Go.Shelf
set_option linter.unusedVariables false
attribute [local go_sem] Oper.semAt_some
@[go_sem] theorem wide_fn (f : FuncId) : Fence.wide.fn f = True := rfl
@[go_sem] theorem wide_depth : Fence.wide.depth = none := rfl
set_option maxRecDepth 100000 in
set_option maxHeartbeats 2000000 in
theorem Qn8      (n : Nat) (lp Bl Ba : Nat) (S : Nat → Prop) (l : List Nd) (i : Nat) (v : Value) (J Jx : List Int → World → Prop) (hi : i < l.length) (har : 0 ≤ arAt l i) (hl : l.length ≤ 4000000) (hSl : S Bl) (hSa : S Ba)
    (hY : ∀ pre x W, J pre W -> pre.length < (arAt l i).toNat -> YieldAt Fence.wide (n - 1) Tryz.prog lp #[.int .i64 x] W fun e W' =>
      (e = .returned (.bool true) ∧ J (pre ++ [x]) W' ∧ Kept S W W') ∨ (e = .returned (.bool false) ∧ Jx (pre ++ [x]) W'))
    (W : World) (hSW : ∀ k, S k -> k < W.heap.size) (hJ : ∀ pre A B, J pre A -> Below A.heap.size A B -> J pre B) (hbl : W.cell? ⟨Bl, 0, none⟩ = some v) (hba : W.cell? ⟨Ba, 0, none⟩ = some (.int .i64 i)) (hv : NodesIn S W v l) (h0 : J [] W) :
    CallsIn Fence.wide n Tryz.prog 120 #[.func (.yield lp) #[] #[], .pointer (some ⟨Ba, 0, none⟩), .pointer (some ⟨Bl, 0, none⟩)] W fun e W' => (∃ v, e = .returned v) /\
      ((∃ ys, ys = upto (kth l (i + 1)) (arAt l i).toNat /\ J ys W') \/ (∃ pre, (∃ k, k <= (arAt l i).toNat /\ pre = upto (kth l (i + 1)) k) /\ Jx pre W')) := by
  refine callsIn_of_wp Tryz.func120 rfl trivial ?_ rfl
  simp only [Tryz.ntmps120, List.size_toArray, List.length_cons, List.length_nil, Nat.reduceAdd, Nat.reduceSub, Array.replicate_succ, Array.replicate_zero, List.push_toArray, List.append_toArray, List.nil_append, List.cons_append]
  rcases hv.open with ⟨rfl, _⟩ | ⟨b, o, cap, rfl, hpos, hcap, hbs, hcell⟩
  · simp at hi
  · obtain ⟨hc0, hc1⟩ := hcell i hi
    have hab := Jjl l[i]
    rw [Jb1 l i hi] at har hY ⊢
    have hSB : ∀ B : World, W.heap.size <= B.heap.size -> ∀ k, S k -> k < B.heap.size := fun B h k hk => Nat.lt_of_lt_of_le (hSW k hk) h
    gi_wp2_with (gi_at_call 79; refine (callsIn_wide.2 (Jm1 l[i] _)).mono ?_; rintro e w1 ⟨rfl, hb⟩)
    gi_loopw [4, 12] (fun k c wr => ∃ m : Nat, (m : Int) <= ar l[i] /\ c = .int .i64 m /\ k = .int .i64 (kth l (i + 1) m) /\ J (upto (kth l (i + 1)) m) wr /\ Kept S W wr) (fun _ c _ => (ar l[i] - intOf c).toNat)
    case atStart =>
      exact ⟨0, har, rfl, rfl, hJ _ _ _ h0 hb, Jg3 hb hSW⟩
    case round =>
      obtain ⟨m, hm, rfl, rfl, hJs, hkw⟩ := hrel
      by_cases hlt : (m : Int) < ar l[i]
      · obtain ⟨fn, tmps, assign, body, hy, hR⟩ := hY _ (kth l (i + 1) m) wr hJs (by rw [upto_length]; omega)
        gi_wp2
        refine hR.mono ?_
        rintro e W3 (⟨rfl, hJ3, hk3⟩ | ⟨rfl, hJx3⟩)
        · have hk3' := hkw.trans hk3
          have hbl3 : W3.cell? ⟨Bl, 0, none⟩ = some (.slice (some ⟨b, o, none⟩) l.length cap) := (hk3'.cell (p := ⟨Bl, 0, none⟩) hSl).trans hbl
          have hv3 : Jbz W3 (.slice (some ⟨b, o, none⟩) l.length cap) l := (hv.kept hk3').mono (hSB W3 hk3'.size)
          gi_wp2_with (gi_at_call 44; refine (callsIn_wide.2 (Jej l _ _ _ hv3 hl)).mono ?_; rintro e w4 ⟨rfl, hb4⟩)
          go_roundw
          case rel => exact ⟨m + 1, by omega, by go_num, rfl, by rw [upto_succ]; exact hJ _ _ _ hJ3 hb4, hk3'.trans (Jg3 hb4 (hSB W3 hk3'.size))⟩
          case measure => simp [intOf]; omega
        · gi_wp2
          refine bodyPost_ret (results_none rfl _ _ _) rfl ?_
          exact ⟨⟨_, rfl⟩, .inr ⟨_, ⟨m + 1, by omega, (upto_succ _ _).symm⟩, hJx3⟩⟩
      · gi_wp2
        go_end0
        exact ⟨⟨_, rfl⟩, .inl (by rw [show (ar l[i]).toNat = m from by omega]; exact hJs)⟩
theorem Qkb     (n : Nat) (v : Value) (p : Option Addr) (len cap : Nat) (hv : v = .slice p len cap) (i : Int) (w : World) :
    CallsIn Fence.wide n Tryz.prog 91 #[v, .int .i64 i] w fun e w' =>
      e = .returned (.func (.func 120) #[] #[.pointer (some ⟨w.heap.size + 1, 0, none⟩), .pointer (some ⟨w.heap.size, 0, none⟩)]) /\
      w' = (w.alloc (.cells #[v] 23)).alloc (.cells #[.int .i64 i] 3) := by
  subst hv
  refine callsIn_of_wp Tryz.func91 rfl trivial ?_ rfl
  simp only [Tryz.ntmps91, List.size_toArray, List.length_cons, List.length_nil, Nat.reduceAdd, Nat.reduceSub, Array.replicate_succ, Array.replicate_zero, List.push_toArray, List.append_toArray, List.nil_append, List.cons_append]
  gi_wp2
  go_ret
  exact ⟨rfl, rfl⟩
theorem Qa9 {β : Type} {B : Nat} {J : β -> World -> Prop} (h : AbidesFrom B J) {s : β} {A C : World} (hj : J s A) (hb : Below A.heap.size A C) : J s C :=
  h s A C none hj ⟨hb.os, hb.tape, hb.output, hb.size, fun k hk _ => hb.block k hk⟩ (fun r e => by cases e)
theorem Qhj        (n : Nat) (Bl Ba : Nat) (S : Nat → Prop) (l : List Nd) (i : Nat) (v : Value) (hi : i < l.length) (har : 0 ≤ arAt l i) (hl : l.length ≤ 4000000) (hSl : S Bl) (hSa : S Ba)
    (w : World) (hSW : ∀ k, S k -> k < w.heap.size) (hbl : w.cell? ⟨Bl, 0, none⟩ = some v) (hba : w.cell? ⟨Ba, 0, none⟩ = some (.int .i64 i)) (hv : NodesIn S w v l) :
    SeqStopsK Fence.wide n Tryz.prog 120 #[.pointer (some ⟨Ba, 0, none⟩), .pointer (some ⟨Bl, 0, none⟩)] (fun x : Int => #[Value.int .i64 x]) (Kept S)
      (fun ys => ys = upto (kth l (i + 1)) (arAt l i).toNat) (fun pre => ∃ k, k <= (arAt l i).toNat /\ pre = upto (kth l (i + 1)) k) (arAt l i).toNat w := fun lp J Jx W hW hJ hJx hY h0 => by
  have hk : Kept S w W := Jg3 hW hSW
  exact Qn8 n lp Bl Ba S l i v J Jx hi har hl hSl hSa hY W (fun k hs => Nat.lt_of_lt_of_le (hSW k hs) hk.size) (fun pre A B hj hb => Qa9 hJ hj hb)
    ((hk.cell (p := ⟨Bl, 0, none⟩) hSl).trans hbl) ((hk.cell (p := ⟨Ba, 0, none⟩) hSa).trans hba) (hv.kept hk) h0
theorem Ju0            {W w1 : World} {n₀ B : Nat} {t e : TypeId} {size : Nat} {v v' : Value} {k m : Nat} {xs ys : List Value} {tmp : Obj}
    (hv : Boxed W B t v) (hte : t ≠ e) (hrow : W.ownsRow n₀ e size v k xs) (hn₀ : n₀ <= W.heap.size)
    (hown' : w1.ownsRow n₀ e size v' m ys) (hgrow : (W.alloc tmp).grownBy w1 v.ownBlock) :
    Boxed w1 B t v /\ Boxed (w1.setCell ⟨B, 0, none⟩ v') B t v' /\ (w1.setCell ⟨B, 0, none⟩ v').ownsRow n₀ e size v' m ys /\ KeepsOthers W (w1.setCell ⟨B, 0, none⟩ v') /\
      (∀ S : Nat -> Prop, (∀ j, S j -> j < n₀ /\ j ≠ B) -> Kept S W (w1.setCell ⟨B, 0, none⟩ v')) /\ (∀ B0, B0 <= B -> B0 <= n₀ -> Below B0 W (w1.setCell ⟨B, 0, none⟩ v')) := by
  have hv1 : Boxed w1 B t v := (hv.alloc tmp).kept hgrow (hv.not_row hte hrow)
  have hbl : ∀ j, v.ownBlock = some j -> n₀ <= j := fun j ej => (hrow.lt j ej).1
  refine ⟨hv1, hv1.set v', hown'.kept (grownBy_setCell' w1 B v') (.inr (hv1.not_row hte hown').symm), ?_, ?_, ?_⟩
  · refine ((KeepsOthers.alloc W tmp).trans (KeepsOthers.of_grownBy hgrow fun j o ej hj => ?_)).trans (KeepsOthers.setCell _ _ _)
    rcases (hrow.alloc tmp).2 with ⟨rfl, _⟩ | ⟨g, cap, cur, rfl, _, hgb, _⟩
    · simp [Value.ownBlock] at ej
    · obtain rfl : g = j := by simpa [Value.ownBlock] using ej
      rw [hgb] at hj; cases hj; rfl
  · intro S hS
    refine Jzt (Qhk (kept_alloc (Kept.refl S W) (fun j hj => by have := (hS j hj).1; omega) tmp) hgrow (fun j hj => by have := (hS j hj).1; simp; omega) (fun j ej hj => ?_)) (fun hj => (hS _ hj).2 rfl) _
    have := hbl j ej; have := (hS j hj).1; omega
  · intro B0 h1 h2
    refine (((Below.refl B0 W).alloc (by omega) tmp).grown hgrow (by simp; omega) fun j ej => ?_).setCell (p := ⟨B, 0, none⟩) h1 v'
    have := hbl j ej; omega
theorem Jzd {β : Type} (B m : Nat) : OwnFrom B (fun (_ : β) W => m <= W.heap.size) := fun _ _ _ _ hs hg _ => Nat.le_trans hs hg.size
theorem Jn4 {w w' : World} (hb : Below w.heap.size w w') (row : Option Nat) : w.grownBy w' row := ⟨hb.os, hb.tape, hb.output, hb.size, fun k hk _ => hb.block k hk⟩
theorem ownsRow_below {w w' : World} {base : Nat} {e : TypeId} {size : Nat} {v : Value} {n : Nat} {xs : List Value} (h : w.ownsRow base e size v n xs) (hb : Below w.heap.size w w') : w'.ownsRow base e size v n xs :=
  h.kept (Jn4 hb none) (by cases v.ownBlock <;> simp)
theorem Jhi {w : World} {base : Nat} {e : TypeId} {v : Value} {l : List Int} (h : w.ownsRow base e 1 v l.length (l.map (Value.int .i64))) : IntsIn (fun k => base <= k /\ k < w.heap.size) w v l := by
  by_cases hl : l.length = 0
  · refine .inl ?_
    rcases h.2 with ⟨rfl, _⟩ | ⟨g, cap, cur, rfl, _⟩
    · exact ⟨none, 0, rfl, hl, by simpa using hl, fun _ => rfl⟩
    · exact ⟨some ⟨g, 0, none⟩, cap, by rw [hl], hl, by simpa using hl, fun h => by cases h⟩
  · have hlt := h.lt
    rcases h.2 with ⟨_, h0⟩ | ⟨g, cap, cur, rfl, hb, hg, hc, _⟩
    · exact absurd h0 hl
    · refine .inr ⟨g, 0, cap, rfl, by omega, hc, ⟨hb, (hlt g rfl).2⟩, fun j hj => ?_⟩
      have := h.cellAt j (by simpa using hj)
      simpa using this
theorem Jtj : (Tryz.prog.info? 3).map (fun i => (i.zero, i.size, i.bytes)) = some (some (.int .i64 0), 1, 8) := by kernel_rfl
set_option maxRecDepth 100000 in
set_option maxHeartbeats 2000000 in
theorem Qtn     (n : Nat) (hn : 3 ≤ n) (l : List Nd) (i : Int) (v : Value) (w : World) (hv : Jbz     w v l) (hl : l.length ≤ 4000000) :
    CallsIn Fence.wide n Tryz.prog 48 #[v, .int .i64 i] w fun e W' => ∃ u, e = .returned u /\ IntsIn (fun k => w.heap.size <= k /\ k < W'.heap.size) W' u (Jab l i) /\ Below w.heap.size w W' := by
  have h1 : 1 <= n := by omega
  obtain ⟨i0, hi, hz0, hz1, hz2⟩ := info_parts Jtj
  refine callsIn_of_wp_marks Tryz.func48 rfl trivial ?_ rfl
  simp only [Tryz.ntmps48, List.size_toArray, List.length_cons, List.length_nil, Nat.reduceAdd, Nat.reduceSub, Array.replicate_succ, Array.replicate_zero, List.push_toArray, List.append_toArray, List.nil_append, List.cons_append]
  rcases Jdo l i with hE | hE
  · have hlt : endv l i < 0 := by omega
    have HK := Lib.hid (Jpd l i hlt)
    clear hE
    gi_wp2_with (gi_at_call 44; refine (callsIn_wide.2 (Jej l _ _ _ hv hl)).mono ?_; rintro e w1 ⟨rfl, hb⟩)
    exact ⟨_, results_tmp rfl _ _ _, _, rfl, by rw [HK.out]; exact .inl ⟨none, 0, rfl, rfl, rfl, fun _ => rfl⟩, hb⟩
  · obtain ⟨hi0, hil⟩ := Ja2 l i hE
    obtain ⟨k, rfl⟩ := Int.eq_ofNat_of_zero_le hi0
    have hnlt : ¬ endv l k < 0 := by omega
    have hkl : k < l.length := by simpa using hil
    have hab := Jv6 l k
    have har := Jck l k hE
    obtain ⟨p, cap, rfl⟩ := hv.slice
    have HK := Lib.hid (Jcb l k hE)
    gi_wp2_with (first | (gi_at_call 44; refine (callsIn_wide.2 (Jej l _ _ _ hv hl)).mono ?_; rintro e w1 ⟨rfl, hb⟩) | (gi_at_call 91; refine (Qkb _ _ _ _ _ rfl _ _).mono ?_; rintro e w2 ⟨rfl, rfl⟩))
    have hsz := hb.size
    have bO := Boxed.new w1 22 (.slice none 0 0)
    have bL := Boxed.new (w1.alloc (.cells #[.slice none 0 0] 22)) 23 (.slice p l.length cap)
    have bA := Boxed.new ((w1.alloc (.cells #[.slice none 0 0] 22)).alloc (.cells #[.slice p l.length cap] 23)) 3 (.int .i64 k)
    rw [World.size_alloc] at bL
    rw [World.size_alloc, World.size_alloc] at bA
    obtain ⟨W0, hW0⟩ : ∃ W0, ((w1.alloc (.cells #[.slice none 0 0] 22)).alloc (.cells #[.slice p l.length cap] 23)).alloc (.cells #[.int .i64 k] 3) = W0 := ⟨_, rfl⟩
    have bO := (bO.alloc (.cells #[.slice p l.length cap] 23)).alloc (.cells #[.int .i64 k] 3)
    have bL := bL.alloc (.cells #[.int .i64 k] 3)
    have hB0 : Below w1.heap.size w1 W0 := by rw [<- hW0]; exact (((Below.refl _ w1).alloc (Nat.le_refl _) _).alloc (by simp) _).alloc (by simp; omega) _
    have hS0 : W0.heap.size = w1.heap.size + 3 := by rw [<- hW0]; simp
    have hBw : Below w.heap.size w W0 := hb.trans (hB0.mono hsz)
    rw [hW0] at bO bL bA ⊢
    refine wpIn_rangeFunc_ownG rfl h1 (gf := 120) (lb := #[.pointer (some ⟨w1.heap.size + 1 + 1, 0, none⟩), .pointer (some ⟨w1.heap.size + 1, 0, none⟩)]) rfl trivial (enters_of Tryz.func120 (by kernel_rfl) rfl)
      (Qhj (n - 1) (w1.heap.size + 1) (w1.heap.size + 1 + 1) (fun j => j < w1.heap.size + 3 /\ j ≠ w1.heap.size) l k _ hkl har hl ⟨by omega, by omega⟩ ⟨by omega, by omega⟩ W0 (fun j hj => by have := hj.1; omega) bL.cell bA.cell
        ((hv.kept (Jih        hBw)).mono (fun j hj => ⟨by omega, by omega⟩)))
      (fun h h' => h.trans h') (fun W lp o o' hlp ho _ _ => ⟨by simp, fun j hj => World.putObj_heap_other (by have := hj.1; omega)⟩) (Below.refl _ _) (fun _ => rfl)
      (fun pre W => (∃ u, Boxed W w1.heap.size 22 u /\ W.ownsRow (w1.heap.size + 3) 3 1 u pre.length (pre.map (Value.int .i64)) /\ True) /\ Below w.heap.size w W /\ w1.heap.size + 3 <= W.heap.size)
      (fun _ _ _ => False)
      (OwnFrom.and (Own.from (holdsRow_own (w1.heap.size + 3) w1.heap.size 22 3 1 (fun pre : List Int => pre.length) (fun pre => pre.map (Value.int .i64)) (fun _ _ => True)) _) (OwnFrom.and (ownFrom_below (Nat.le_refl _) (by omega)) (Jzd _ _)))
      (fun _ _ _ _ _ hs _ _ => hs)
      ⟨⟨_, bO, World.ownsRow_nil _ _ _ _, trivial⟩, hBw, by omega⟩
      (fun x => { tmps := #[.slice p l.length cap, .int .i64 k, undef, undef, .slice none 0 0, .pointer (some ⟨w1.heap.size, 0, none⟩), .int .i64 x, .slice p l.length cap, .int .i64 k, .int .i64 (endv l k), .bool (decide (endv l k < 0)), .slice p l.length cap, .int .i64 k, .func (.func 120) #[] #[.pointer (some ⟨w1.heap.size + 1 + 1, 0, none⟩), .pointer (some ⟨w1.heap.size + 1, 0, none⟩)], .int .i64 x, undef, undef, undef, undef, undef], defers := [] }) ?assign ?body ?done ?stop
    case assign =>
      intro lp x W K hK
      gi_wp2
      exact hK
    case body =>
      rintro lp pre x W ⟨⟨u, hv1, hrow, _⟩, hB, hWs⟩ hlt
      have hc := hv1.cell
      have hN : pre.length < 200 := by omega
      gi_wp2_with (gi_at_builtin; refine wpListIn_append_own _ rfl _ _ 22 rfl (w1.heap.size + 3) 3 i0 (.int .i64 0) 1 8 Tryz.underlying22 hi hz0 hz1 hz2 rfl (by decide) _ _ _ rfl (hrow.alloc _) ⟨W.heap.size, 0, none⟩ 1 1 [.int .i64 x] rfl rfl (cell_one_new _ _ _) (by simp [Value.oneCell']) (by unfold maxLen; omega) (by omega) (by simp; omega) ?_; intro v' w3 hown' hgrow _; obtain ⟨g', cap', rfl⟩ := ownsRow_succ hown'; obtain ⟨hv3, hv4, hr4, hk4, hS4, hB4⟩ := Ju0 hv1 (by decide) hrow hWs hown' hgrow; have hc3 := hv3.cell; have hf3 := hv3.frozen)
      exact ⟨hk4.from _, hS4 _ (fun j hj => hj), ⟨_, hv4, by simpa using hr4, trivial⟩, hB.trans (hB4 _ (by omega) (by omega)), Nat.le_trans hWs (hB4 0 (by omega) (by omega)).size⟩
    case done =>
      rintro D ys W hD rfl ⟨⟨u, hv1, hrow, _⟩, hB, hWs⟩ hK
      have hc := hv1.cell
      gi_wp2
      refine ⟨by simp, .inl ⟨_, _, rfl, run_takeDeferred hK, ?_⟩⟩
      refine ⟨_, results_tmp rfl _ _ _, u, rfl, ?_, hB.trans (belowK_b (w := w) (Nat.le_refl _) W D _ _ (by omega) hK rfl rfl)⟩
      rw [HK.out]
      exact (Jhi (ownsRow_putObj hrow _ hK rfl)).mono (fun j hj => ⟨by omega, hj.2⟩)
    case stop =>
      rintro D c pre W _ _ h _
      exact h.elim
end Go.Proofs.YtinnbafplhcnpaaGreat
end
section
namespace Go.Proofs.YtinnbafplhcnpaaGreat
open Go.RowKit Go.Shelf
set_option linter.unusedVariables false
section
variable {P : Program}
def Iter {α : Type} (P : Program) (gf : Nat) (lb : Array Value) (encs : α -> Array Value) (G : α -> World -> Prop) (Kp : World -> World -> Prop) (N : Nat) (R : List α -> Bool -> Prop) (W : World) : Prop :=
  ∀ (lp : Nat) (J : List α -> Bool -> World -> Prop), (∀ b, OwnFrom W.heap.size (fun xs V => J xs b V)) ->
    (∀ pre x W1, J pre true W1 -> G x W1 -> pre.length < N -> YieldAt Fence.wide 0 P lp (encs x) W1 fun e W' => ∃ b, e = .returned (.bool b) /\ J (pre ++ [x]) b W' /\ Kp W1 W') ->
    J [] true W ->
    CallsIn Fence.wide 0 P gf (#[.func (.yield lp) #[] #[]] ++ lb) W fun e W' => (∃ v, e = .returned v) /\ ∃ xs b, R xs b /\ J xs b W'
theorem Jem {β : Type} {B : Nat} {I : β -> World -> Prop} (h : OwnFrom B I) {s : β} {A C : World} (hi : I s A) (hb : Below A.heap.size A C) : I s C :=
  h s A C none hi (Jn4 hb none) (fun r e => by cases e)
def Qq6 (fn : FuncId) (a : Act) (ps : Array Tmp) (assign body : Code) (D : Nat) (st : LoopState) (pe : Option Code) : Loop :=
  { state := st, pending := pe, fn, tmps := a.tmps, params := ps, assign, body, defers := D }
def Qef {α : Type} (B : Nat) (Kp : World -> World -> Prop) (I : List α -> World -> Prop) (Ix : Code -> List α -> World -> Prop) (xs : List α) (W : World) : Exit -> Act -> World -> Prop
  | .normal, _, W' => KeepsFrom B W W' /\ Kp W W' /\ I xs W'
  | .ret, _, W' => KeepsFrom B W W' /\ Kp W W' /\ Ix .ret xs W'
  | .exit id, _, W' => KeepsFrom B W W' /\ Kp W W' /\ Ix (.exit id) xs W'
  | .goto t, _, W' => KeepsFrom B W W' /\ Kp W W' /\ Ix (.goto t) xs W'
  | .panic _, _, _ => False
  | .outgrown, _, _ => False
theorem Qgj        {α : Type} {B lp D : Nat} {Kp : World → World → Prop} {I : List α → World → Prop} {Ix : Code → List α → World → Prop} {xs : List α} {r : Loop} {W : World} {e : Exit} {a : Act} {W3 : World}
    (hI : OwnFrom B I) (hIx : ∀ c, OwnFrom B (Ix c)) (hKt : ∀ {A C E : World}, Kp A C -> Kp C E -> Kp A E)
    (hKb : ∀ (W : World) (l : Nat) (o o' : Obj), B <= l -> l < B + 2 -> W.heap[l]? = some o -> o.isCells = false -> o.isWalk = false -> Kp W (W.putObj l o'))
    (hB : B <= lp) (hB2 : lp < B + 2) (hD : B <= D) (hne : D ≠ lp) (hl : W.heap[lp]? = some (.loop r)) (hk : W.heap[D]? = some (.deferred (some [])))
    (h : Qef B Kp I Ix xs W e a W3) :
    roundPost P lp (fun e W' => ∃ b, e = .returned (.bool b) /\
      ((b = true /\ I xs W' /\ W'.heap[lp]? = some (.loop { r with state := .ready, pending := none }) /\ W'.heap[D]? = some (.deferred (some [])) /\ Kp W W') \/
       (b = false ∧ ∃ c, Ix c xs W' ∧ W'.heap[lp]? = some (.loop { r with state := .done, pending := some c }) ∧ W'.heap[D]? = some (.deferred (some [])) ∧ Kp W W'))) e a W3 := by
  have go : ∀ j, KeepsFrom B W W3 → (Instr.endRound lp j).run P W3 = .ok (.bool j.isNone) (W3.putObj lp (.loop { r with state := if j.isNone then .ready else .done, pending := j })) ∧
      (W3.putObj lp (.loop { r with state := if j.isNone then .ready else .done, pending := j })).heap[lp]? = some (.loop { r with state := if j.isNone then .ready else .done, pending := j }) /\
      (W3.putObj lp (.loop { r with state := if j.isNone then .ready else .done, pending := j })).heap[D]? = some (.deferred (some [])) /\ W3.heap[lp]? = some (.loop r) := fun j hkf => by
    have h3 := hkf.same lp _ hB hl rfl
    exact ⟨run_endRound j h3, World.putObj_heap_same (Array.getElem?_eq_some_iff.1 h3).1, (World.putObj_heap_other hne).trans (hkf.same D _ hD hk rfl), h3⟩
  cases e with
  | normal =>
    obtain ⟨hkf, hkp, hi⟩ := h
    obtain ⟨r1, r2, r3, r4⟩ := go none hkf
    exact ⟨_, _, r1, true, rfl, .inl ⟨rfl, hI.putObj _ hi hB r4 rfl, r2, r3, hKt hkp (hKb _ _ _ _ hB hB2 r4 rfl rfl)⟩⟩
  | ret =>
    obtain ⟨hkf, hkp, hi⟩ := h
    obtain ⟨r1, r2, r3, r4⟩ := go (some .ret) hkf
    exact ⟨_, _, r1, false, rfl, .inr ⟨rfl, _, (hIx _).putObj _ hi hB r4 rfl, r2, r3, hKt hkp (hKb _ _ _ _ hB hB2 r4 rfl rfl)⟩⟩
  | exit id =>
    obtain ⟨hkf, hkp, hi⟩ := h
    obtain ⟨r1, r2, r3, r4⟩ := go (some (.exit id)) hkf
    exact ⟨_, _, r1, false, rfl, .inr ⟨rfl, _, (hIx _).putObj _ hi hB r4 rfl, r2, r3, hKt hkp (hKb _ _ _ _ hB hB2 r4 rfl rfl)⟩⟩
  | goto t =>
    obtain ⟨hkf, hkp, hi⟩ := h
    obtain ⟨r1, r2, r3, r4⟩ := go (some (.goto t)) hkf
    exact ⟨_, _, r1, false, rfl, .inr ⟨rfl, _, (hIx _).putObj _ hi hB r4 rfl, r2, r3, hKt hkp (hKb _ _ _ _ hB hB2 r4 rfl rfl)⟩⟩
  | panic _ => exact h.elim
  | outgrown => exact h.elim
theorem Jqe        {α : Type} {g : Operand} {ps : Array Tmp} {assign body : Code} {Q : Exit → Act → World → Prop} {a : Act} {w : World} {n : Nat}
    {gf : Nat} {lb : Array Value} (hg : a.eval g = .func (.func gf) #[] lb) (eg : ∀ args w, (callFunc gf args).run P w = .ok (.enter gf args) w)
    {encs : α -> Array Value} {G : α -> World -> Prop} {Kp : World -> World -> Prop} {N : Nat} {R : List α -> Bool -> Prop} (hps : ∀ x, (encs x).size = ps.size)
    (hit : ∀ W', Below w.heap.size w W' -> W'.heap.size = w.heap.size + 2 -> Iter P gf lb encs G Kp N R W')
    (hKt : ∀ {A C E : World}, Kp A C -> Kp C E -> Kp A E)
    (hKb : ∀ (W : World) (l : Nat) (o o' : Obj), w.heap.size <= l -> l < w.heap.size + 2 -> W.heap[l]? = some o -> o.isCells = false -> o.isWalk = false -> Kp W (W.putObj l o'))
    (I : List α -> World -> Prop) (Ix : Code -> List α -> World -> Prop) (hI : OwnFrom w.heap.size I) (hIx : ∀ c, OwnFrom w.heap.size (Ix c)) (hG : ∀ x, OwnFrom w.heap.size (fun (_ : Unit) W => G x W)) (h0 : I [] w)
    (a₁ : α -> Act)
    (hassign : ∀ (lp : Nat) (x : α) (W : World) (K : Act -> World -> Prop), K (a₁ x) W ->
      assign.wpIn (Fence.wide.inRound lp) 0 P (Exit.then K (fun _ _ _ => False)) { tmps := (ps.zip (encs x)).foldl (fun t (p, v) => t.setIfInBounds p v) a.tmps, defers := [] } W)
    (hbody : ∀ (lp : Nat) (pre : List α) (x : α) (W : World), I pre W -> G x W -> pre.length < N -> body.wpIn (Fence.wide.inRound lp) 0 P (Qef w.heap.size Kp I Ix (pre ++ [x]) W) (a₁ x) W)
    (hend : ∀ (D : Nat) (xs : List α) (W : World), w.heap.size <= D -> R xs true -> I xs W -> W.heap[D]? = some (.deferred (some [])) -> Q .normal { a with defers := { target := .collected D, args := #[] } :: a.defers } W)
    (hout : ∀ (D : Nat) (c : Code) (xs : List α) (W : World), w.heap.size <= D -> R xs false -> Ix c xs W -> W.heap[D]? = some (.deferred (some [])) -> c.wpIn Fence.wide n P Q { a with defers := { target := .collected D, args := #[] } :: a.defers } W) :
    (Code.rangeFunc g ps assign body).wpIn Fence.wide n P Q a w := by
  refine wpIn_rangeFunc fun fn hfn => ?_
  let D := w.heap.size
  let lp := w.heap.size + 1
  let rc := Qq6 fn a ps assign body D
  let W1 := (w.alloc (.deferred (some []))).alloc (.loop (rc .ready none))
  have hb1 : Below w.heap.size w W1 := ((Below.refl _ w).alloc (Nat.le_refl _) _).alloc (by simp) _
  have hL : W1.heap[lp]? = some (.loop (rc .ready none)) := by
    have := World.alloc_heap_new (w.alloc (.deferred (some []))) (.loop (rc .ready none)); rwa [World.size_alloc] at this
  have hK : W1.heap[D]? = some (.deferred (some [])) := (Below.heap_alloc _ _ _ (by simp [D])).trans (World.alloc_heap_new w _)
  refine ⟨lp, [{ target := .collected D, args := #[] }], W1, { target := .fn (.func gf) lb, args := #[.func (.yield lp) #[] #[]] }, W1, gf, #[.func (.yield lp) #[] #[]] ++ lb, W1,
    run_enterLoop_outer _ _ _ _ _, by simp only [resolve, hg]; simp [go_sem], fun _ _ => trivial, by simp [invoke, go_sem, eg], (fun h => by cases h), ?_⟩
  refine CallsIn.more (n := 0) ?_ (Nat.zero_le _)
  have hsz : W1.heap.size = w.heap.size + 2 := by simp [W1]
  refine (hit W1 hb1 hsz lp (fun xs b W => (b = true /\ I xs W /\ W.heap[lp]? = some (.loop (rc .ready none)) /\ W.heap[D]? = some (.deferred (some []))) \/
    (b = false ∧ ∃ c, Ix c xs W ∧ W.heap[lp]? = some (.loop (rc .done (some c))) ∧ W.heap[D]? = some (.deferred (some [])))) ?_ ?_ (.inl ⟨rfl, ?_, hL, hK⟩)).mono ?_
  · intro b xs A B row hs hgr hr
    have hkeep : ∀ {k : Nat} {o : Obj}, k < w.heap.size + 2 -> A.heap[k]? = some o -> B.heap[k]? = some o := fun hk2 hk =>
      (hgr.block _ (Array.getElem?_eq_some_iff.1 hk).1 (fun e => by have := (hr _ e.symm).1; omega)).trans hk
    have hr' : ∀ r, row = some r -> w.heap.size <= r /\ ∃ o : Obj, A.heap[r]? = some o /\ o.isCells = false := fun r e => by obtain ⟨h1, h2⟩ := hr r e; exact ⟨by omega, h2⟩
    rcases hs with ⟨rfl, hi, hl, hk⟩ | ⟨rfl, c, hi, hl, hk⟩
    · exact .inl ⟨rfl, hI xs A B row hi hgr hr', hkeep (by simp [lp]) hl, hkeep (by simp [D]) hk⟩
    · exact .inr ⟨rfl, c, hIx c xs A B row hi hgr hr', hkeep (by simp [lp]) hl, hkeep (by simp [D]) hk⟩
  · rintro pre x W (⟨_, hi, hl, hk⟩ | ⟨h, _⟩) hgx hlen
    case inr => cases h
    refine ⟨fn, _, assign, body, run_yield hl (hps x), roundIn_of_wpIn hfn (hassign lp x W _ ⟨_, run_beginRound hl rfl, ?_⟩)⟩
    have hl2 : (W.putObj lp (.loop { rc .ready none with state := .busy })).heap[lp]? = some (.loop { rc .ready none with state := .busy }) := World.putObj_heap_same (Array.getElem?_eq_some_iff.1 hl).1
    have hk2 : (W.putObj lp (.loop { rc .ready none with state := .busy })).heap[D]? = some (.deferred (some [])) := (World.putObj_heap_other (by simp [D, lp])).trans hk
    have hw2 : Kp W (W.putObj lp (.loop { rc .ready none with state := .busy })) := hKb _ _ _ _ (by simp [lp]) (by simp [lp]) hl rfl rfl
    refine wpIn_mono (hbody lp pre x _ (hI.putObj _ hi (by simp [lp]) hl rfl) ((hG x).putObj (s := ()) _ hgx (by simp [lp]) hl rfl) hlen) fun e a3 W3 hp => ?_
    have := Qgj (P := P) (lp := lp) (D := D) (Kp := Kp) (I := I) (Ix := Ix) (xs := pre ++ [x]) hI hIx (fun {A C E} h k => hKt h k) hKb (by simp [lp]) (by simp [lp]) (Nat.le_refl _) (by simp [D, lp]) hl2 hk2 hp
    revert this
    have key : ∀ (e : Ending) (W' : World), (∃ b, e = .returned (.bool b) ∧
        ((b = true /\ I (pre ++ [x]) W' /\ W'.heap[lp]? = some (.loop { ({ rc .ready none with state := .busy } : Loop) with state := .ready, pending := none }) /\ W'.heap[D]? = some (.deferred (some [])) /\ Kp (W.putObj lp (.loop { rc .ready none with state := .busy })) W') \/
         (b = false ∧ ∃ c, Ix c (pre ++ [x]) W' ∧ W'.heap[lp]? = some (.loop { ({ rc .ready none with state := .busy } : Loop) with state := .done, pending := some c }) ∧ W'.heap[D]? = some (.deferred (some [])) ∧ Kp (W.putObj lp (.loop { rc .ready none with state := .busy })) W'))) →
        ∃ b, e = .returned (.bool b) /\ ((b = true /\ I (pre ++ [x]) W' /\ W'.heap[lp]? = some (.loop (rc .ready none)) /\ W'.heap[D]? = some (.deferred (some []))) \/
          (b = false ∧ ∃ c, Ix c (pre ++ [x]) W' ∧ W'.heap[lp]? = some (.loop (rc .done (some c))) ∧ W'.heap[D]? = some (.deferred (some [])))) ∧ Kp W W' := by
      rintro e W' ⟨b, rfl, ⟨rfl, h1, h2, h3, h4⟩ | ⟨rfl, c, h1, h2, h3, h4⟩⟩
      · exact ⟨true, rfl, .inl ⟨rfl, h1, h2, h3⟩, hKt hw2 h4⟩
      · exact ⟨false, rfl, .inr ⟨rfl, c, h1, h2, h3⟩, hKt hw2 h4⟩
    intro this
    cases e with
    | normal => obtain ⟨v, w', r1, r2⟩ := this; exact ⟨v, w', r1, key _ _ r2⟩
    | ret => obtain ⟨v, w', r1, r2⟩ := this; exact ⟨v, w', r1, key _ _ r2⟩
    | exit id => obtain ⟨v, w', r1, r2⟩ := this; exact ⟨v, w', r1, key _ _ r2⟩
    | goto t => obtain ⟨v, w', r1, r2⟩ := this; exact ⟨v, w', r1, key _ _ r2⟩
    | panic _ => exact this.elim
    | outgrown => exact this.elim
  · exact Jem hI h0 hb1
  · rintro e W2 ⟨⟨v, rfl⟩, xs, b, hR, ⟨rfl, hi, hl, hk⟩ | ⟨rfl, c, hi, hl, hk⟩⟩
    · exact ⟨none, _, run_endLoop hl (by simp [rc, Qq6]), hend D xs _ (Nat.le_refl _) hR (hI.putObj _ hi (by simp [lp]) hl rfl) ((World.putObj_heap_other (by simp [D, lp])).trans hk)⟩
    · exact ⟨some c, _, run_endLoop hl (by simp [rc, Qq6]), hout D c xs _ (Nat.le_refl _) hR ((hIx c).putObj _ hi (by simp [lp]) hl rfl) ((World.putObj_heap_other (by simp [D, lp])).trans hk)⟩
def marks (Ds : List Nat) : List Deferred := Ds.map fun D => { target := .collected D, args := #[] }
theorem Jmg          {F : Fence} {n : Nat} {fn : Func} {tmps : Array Value} {R : Ending → World → Prop} (v : Value) (Inv : World → Prop) : ∀ (Ds : List Nat) (W : World), Ds.Nodup → (∀ D, D ∈ Ds → W.heap[D]? = some (.deferred (some []))) →
    (∀ A D, D ∈ Ds -> A.heap[D]? = some (.deferred (some [])) -> Inv A -> Inv (A.putObj D (.deferred none))) -> Inv W ->
    (∀ W', Inv W' -> (results fn tmps).run P W' = .ok v W' /\ R (.returned v) W') ->
    LeavesInM F n P fn tmps R (marks Ds) .returning W
  | [], W, _, _, _, h0, h => by
    obtain ⟨h1, h2⟩ := h W h0
    exact ⟨v, h1, h2⟩
  | D :: Ds, W, hnd, hD, hs, h0, h => by
    have hnd' := List.nodup_cons.1 hnd
    refine ⟨by simp, .inl ⟨D, _, rfl, run_takeDeferred (hD D (by simp)), ?_⟩⟩
    exact Jmg v Inv Ds _ hnd'.2 (fun E hE => (World.putObj_heap_other (by rintro rfl; exact hnd'.1 hE)).trans (hD E (by simp [hE])))
      (fun A E hE => hs A E (by simp [hE])) (hs W D (by simp) (hD D (by simp)) h0) h
structure KeptBut (X : Nat -> Prop) (B : Nat) (W W' : World) : Prop where
  size : W.heap.size <= W'.heap.size
  cells : ∀ k o, ¬ X k -> W.heap[k]? = some o -> o.isCells = true -> W'.heap[k]? = some o
  other : ∀ k o, B <= k -> W.heap[k]? = some o -> o.isCells = false -> W'.heap[k]? = some o
theorem KeptBut.refl (X : Nat -> Prop) (B : Nat) (W : World) : KeptBut X B W W := ⟨Nat.le_refl _, fun _ _ _ h _ => h, fun _ _ _ h _ => h⟩
theorem KeptBut.trans {X : Nat -> Prop} {B : Nat} {a b c : World} (h : KeptBut X B a b) (k : KeptBut X B b c) : KeptBut X B a c :=
  ⟨Nat.le_trans h.size k.size, fun i o hx hi ho => k.cells i o hx (h.cells i o hx hi ho) ho, fun i o hb hi ho => k.other i o hb (h.other i o hb hi ho) ho⟩
theorem KeptBut.mono {X : Nat -> Prop} {B B' : Nat} {a b : World} (h : KeptBut X B a b) (hb : B <= B') : KeptBut X B' a b := ⟨h.size, h.cells, fun k o hk => h.other k o (Nat.le_trans hb hk)⟩
theorem Jcx {X : Nat -> Prop} {B : Nat} {a b : World} (h : Below a.heap.size a b) : KeptBut X B a b :=
  ⟨h.size, fun k o _ hk _ => (h.block k (Array.getElem?_eq_some_iff.1 hk).1).trans hk, fun k o _ hk _ => (h.block k (Array.getElem?_eq_some_iff.1 hk).1).trans hk⟩
theorem Jjx {X : Nat -> Prop} {B : Nat} (W : World) (l : Nat) (o o' : Obj) (hl : l < B) (h : W.heap[l]? = some o) (ho : o.isCells = false) : KeptBut X B W (W.putObj l o') :=
  ⟨by simp, fun k u _ hk hu => (World.putObj_heap_other (by rintro rfl; rw [h] at hk; cases hk; rw [ho] at hu; cases hu)).trans hk, fun k u hB hk _ => (World.putObj_heap_other (by omega)).trans hk⟩
theorem cells_of_cell {W : World} {p : Addr} {v : Value} (h : W.cell? p = some v) : ∃ o, W.heap[p.block]? = some o /\ o.isCells = true := by
  unfold World.cell? at h
  split at h
  · rename_i c t s he; exact ⟨_, he, rfl⟩
  · cases h
theorem KeptBut.cell {X : Nat -> Prop} {B : Nat} {a b : World} (h : KeptBut X B a b) {p : Addr} {v : Value} (hx : ¬ X p.block) (hv : a.cell? p = some v) : b.cell? p = some v := by
  obtain ⟨o, ho, hc⟩ := cells_of_cell hv
  exact (World.cell?_of_block (w := a) ((h.cells _ o hx ho hc).trans ho.symm)).trans hv
theorem SliceIn.keptBut {X : Nat -> Prop} {B : Nat} {a b : World} {v : Value} {n : Nat} {xs : List Value} (h : SliceIn (fun k => ¬ X k /\ k < a.heap.size) a v n xs) (hk : KeptBut X B a b) : SliceIn (fun k => ¬ X k /\ k < b.heap.size) b v n xs := by
  rcases h with h | ⟨bk, o, cap, h1, h2, h3, h4, h5⟩
  · exact .inl h
  · refine .inr ⟨bk, o, cap, h1, h2, h3, ⟨h4.1, Nat.lt_of_lt_of_le h4.2 hk.size⟩, fun j hj => ?_⟩
    have h6 := h5 j hj
    rw [List.getElem?_eq_getElem hj] at h6 ⊢
    exact hk.cell (p := ⟨bk, o + j, none⟩) h4.1 h6
theorem Js3 {β : Type} {X : Nat -> Prop} {B B' : Nat} {W : World} (hB : W.heap.size <= B') : OwnFrom B' (fun (_ : β) V => KeptBut X B W V) := by
  intro s A C row hs hg hr
  refine ⟨Nat.le_trans hs.size hg.size, fun k o hx hk ho => ?_, fun k o hb hk ho => ?_⟩
  · have hlt := (Array.getElem?_eq_some_iff.1 hk).1
    exact (hg.block k (Nat.lt_of_lt_of_le hlt hs.size) (fun e => by have := (hr _ e.symm).1; omega)).trans (hs.cells k o hx hk ho)
  · have hlt := (Array.getElem?_eq_some_iff.1 hk).1
    exact (hg.block k (Nat.lt_of_lt_of_le hlt hs.size) (fun e => by have := (hr _ e.symm).1; omega)).trans (hs.other k o hb hk ho)
theorem Jib {X : Nat -> Prop} {B : Nat} {v : Value} {n : Nat} {xs : List Value} : OwnFrom B (fun (_ : Unit) W => SliceIn (fun k => ¬ X k /\ k < W.heap.size) W v n xs) := by
  intro s A C row hs hg hr
  refine SliceIn.keptBut (B := C.heap.size) hs ⟨hg.size, fun k o _ hk ho => ?_, fun k o hb hk _ => ?_⟩
  · refine (hg.block k (Array.getElem?_eq_some_iff.1 hk).1 (fun e => ?_)).trans hk
    obtain ⟨_, u, hu, hc⟩ := hr _ e.symm
    rw [hk] at hu; cases hu; rw [ho] at hc; cases hc
  · have := (Array.getElem?_eq_some_iff.1 hk).1; have := hg.size; omega
theorem Jlj {β : Type} {B D : Nat} (hD : D < B) : OwnFrom B (fun (_ : β) W => W.heap[D]? = some (.deferred (some []))) := by
  intro s A C row hs hg hr
  exact (hg.block D (Array.getElem?_eq_some_iff.1 hs).1 (fun e => by have := (hr _ e.symm).1; omega)).trans hs
theorem Jub {F : Fence} {n : Nat} {l lp : Nat} {f : FuncId} {tmps : Array Value} {assign body : Code} {w : World} {R : Ending -> World -> Prop} (h : RoundIn F n P l f tmps assign body w R) : RoundIn (F.inRound lp) n P l f tmps assign body w R := h
end
theorem keptBut_setCell {X : Nat -> Prop} {B : Nat} (W : World) {p : Addr} (hx : X p.block) (u : Value) : KeptBut X B W (W.setCell p u) := by
  refine ⟨by simp [World.setCell], fun k o hk ho _ => ?_, fun k o _ hk ho => ?_⟩
  · rw [Below.heap_setCell W p u k (fun e => hk (e ▸ hx))]; exact ho
  · obtain ⟨b, o', sp⟩ := p
    simp only [World.setCell, Array.getElem?_modify, hk]
    split
    · rename_i h0
      cases o <;> first | rfl | (cases ho)
    · rfl
theorem Jjk {W : World} {b D : Nat} {t : TypeId} {v : Value} (h : Boxed W b t v) (o : Obj) (hne : b ≠ D) : Boxed (W.putObj D o) b t v := h.kept (grownBy_putObj' W D o) (by intro e; cases e; exact hne rfl)
end Go.Proofs.YtinnbafplhcnpaaGreat
end
section
namespace Go.Proofs.YtinnbafplhcnpaaGreat
theorem Jm3 (a b : Nat) (l : List Nd) : scan (a + b) l = (scan a l).bind fun m => (scan b (l.drop m)).map (m + ·) := by
  induction l generalizing a with
  | nil =>
    cases a with
    | zero => simp [Jd5]
    | succ a =>
      rw [Jky _ (by omega), Jky _ (by omega)]
      rfl
  | cons x r ih =>
    cases a with
    | zero => simp [Jd5]
    | succ a =>
      rw [show a + 1 + b = (a + b) + 1 from by omega, Jc6, Jc6]
      by_cases hx : ar x < 0
      · rw [if_pos hx, if_pos hx]; rfl
      · rw [if_neg hx, if_neg hx, show a + b + (ar x).toNat = (a + (ar x).toNat) + b from by omega, ih]
        cases scan (a + (ar x).toNat) r with
        | none => rfl
        | some m =>
          simp only [Option.bind_some, Option.map_some, List.drop_succ_cons]
          cases scan b (r.drop m) with
          | none => rfl
          | some c => simp only [Option.map_some, Option.some.injEq]; omega
theorem Qiz (k : Nat) (l : List Nd) (m : Nat) (h : scan k l = some m) : m <= l.length := by
  induction l generalizing k m with
  | nil =>
    cases k with
    | zero => rw [Jd5] at h; cases h; simp
    | succ k => rw [Jky _ (by omega)] at h; cases h
  | cons x r ih =>
    cases k with
    | zero => rw [Jd5] at h; cases h; simp
    | succ k =>
      rw [Jc6] at h
      by_cases hx : ar x < 0
      · rw [if_pos hx] at h; cases h
      · rw [if_neg hx] at h
        cases hs : scan (k + (ar x).toNat) r with
        | none => rw [hs] at h; cases h
        | some c =>
          rw [hs] at h
          have := ih _ _ hs
          simp only [Option.map_some, Option.some.injEq] at h
          simp only [List.length_cons]
          omega
theorem Qi0 (k : Nat) (l : List Nd) (m : Nat) (h : scan k l = some m) : k <= m := by
  induction l generalizing k m with
  | nil =>
    cases k with
    | zero => omega
    | succ k => rw [Jky _ (by omega)] at h; cases h
  | cons x r ih =>
    cases k with
    | zero => omega
    | succ k =>
      rw [Jc6] at h
      by_cases hx : ar x < 0
      · rw [if_pos hx] at h; cases h
      · rw [if_neg hx] at h
        cases hs : scan (k + (ar x).toNat) r with
        | none => rw [hs] at h; cases h
        | some c =>
          rw [hs] at h
          have := ih _ _ hs
          simp only [Option.map_some, Option.some.injEq] at h
          omega
theorem Jl6 (k : Nat) (l : List Nd) (m : Nat) (h : scan k l = some m) (r' : List Nd) : scan k (l.take m ++ r') = some m := by
  induction l generalizing k m with
  | nil =>
    cases k with
    | zero => rw [Jd5] at h ⊢; exact h
    | succ k => rw [Jky _ (by omega)] at h; cases h
  | cons x r ih =>
    cases k with
    | zero => rw [Jd5] at h ⊢; exact h
    | succ k =>
      rw [Jc6] at h
      by_cases hx : ar x < 0
      · rw [if_pos hx] at h; cases h
      · rw [if_neg hx] at h
        cases hs : scan (k + (ar x).toNat) r with
        | none => rw [hs] at h; cases h
        | some c =>
          rw [hs] at h
          simp only [Option.map_some, Option.some.injEq] at h
          subst h
          rw [List.take_succ_cons, List.cons_append, Jc6, if_neg hx, ih _ _ hs]
          rfl
theorem Jki (l : List Nd) (k m : Nat) (h : scan 1 (l.drop k) = some m) : endv l k = ((k + m : Nat) : Int) := by
  rw [Jla]; show fin k (scan 1 (l.drop k)) = _; rw [h]; simp [fin]
theorem Jdw (l : List Nd) (k : Nat) (h : 0 <= endv l k) : ∃ m, scan 1 (l.drop k) = some m /\ endv l k = ((k + m : Nat) : Int) := by
  cases hs : scan 1 (l.drop k) with
  | none => rw [Jla] at h; change 0 <= fin k (scan 1 (l.drop k)) at h; rw [hs] at h; simp [fin] at h
  | some m => exact ⟨m, rfl, Jki l k m hs⟩
theorem Jgl (l : List Nd) (i : Int) : endv l i <= l.length := by
  rcases Jdo l i with h | h
  · omega
  · obtain ⟨h0, hl⟩ := Ja2 l i h
    obtain ⟨k, rfl⟩ := Int.eq_ofNat_of_zero_le h0
    obtain ⟨m, hs, he⟩ := Jdw l k h
    have := Qiz _ _ _ hs
    simp only [List.length_drop] at this
    have hk : k < l.length := by simpa using hl
    omega
theorem Jd2 (l : List Nd) (i : Int) (h : 0 <= endv l i) : i < endv l i := by
  obtain ⟨h0, hl⟩ := Ja2 l i h
  obtain ⟨k, rfl⟩ := Int.eq_ofNat_of_zero_le h0
  obtain ⟨m, hs, he⟩ := Jdw l k h
  have := Qi0 _ _ _ hs
  omega
theorem Jyz (l : List Nd) (k : Nat) (h : 0 <= endv l k) : ∃ c, scan (arAt l k).toNat (l.drop (k + 1)) = some c /\ endv l k = ((k + 1 + c : Nat) : Int) := by
  obtain ⟨m, hs, he⟩ := Jdw l k h
  have hk : k < l.length := by have := (Ja2 l k h).2; simpa using this
  have har := Jck l k h
  rw [Jb1 l k hk] at har ⊢
  rw [List.drop_eq_getElem_cons hk, show (1 : Nat) = 0 + 1 from rfl, Jc6, if_neg (by omega), Nat.zero_add] at hs
  cases hc : scan (ar l[k]).toNat (l.drop (k + 1)) with
  | none => rw [hc] at hs; cases hs
  | some c =>
    rw [hc] at hs
    simp only [Option.map_some, Option.some.injEq] at hs
    exact ⟨c, rfl, by rw [he]; omega⟩
theorem Qqd (l : List Nd) (k : Nat) (h : 0 <= endv l k) (j : Nat) (hj : j <= (arAt l k).toNat) : ∃ m, scan j (l.drop (k + 1)) = some m /\ kth l (k + 1) j = ((k + 1 + m : Nat) : Int) := by
  obtain ⟨c, hc, _⟩ := Jyz l k h
  induction j with
  | zero => exact ⟨0, Jd5 _, rfl⟩
  | succ j ih =>
    obtain ⟨m, hm, hkm⟩ := ih (by omega)
    have hle := Jm3 (j + 1) ((arAt l k).toNat - (j + 1)) (l.drop (k + 1))
    rw [show j + 1 + ((arAt l k).toNat - (j + 1)) = (arAt l k).toNat from by omega, hc] at hle
    cases hs : scan (j + 1) (l.drop (k + 1)) with
    | none => rw [hs] at hle; cases hle
    | some m' =>
      refine ⟨m', rfl, ?_⟩
      rw [Jm3, hm] at hs
      simp only [Option.bind_some, List.drop_drop] at hs
      cases h1 : scan 1 (l.drop (k + 1 + m)) with
      | none => rw [h1] at hs; cases hs
      | some d =>
        rw [h1] at hs
        simp only [Option.map_some, Option.some.injEq] at hs
        show endv l (kth l (k + 1) j) = _
        rw [hkm, Jki l _ d h1]
        omega
theorem Jr3 (l : List Nd) (k : Nat) (h : 0 <= endv l k) : kth l (k + 1) (arAt l k).toNat = endv l k := by
  obtain ⟨c, hc, he⟩ := Jyz l k h
  obtain ⟨m, hm, hk⟩ := Qqd l k h _ (Nat.le_refl _)
  rw [hc] at hm
  cases hm
  rw [hk, he]
theorem Jxe (l : List Nd) (k : Nat) (h : 0 <= endv l k) (j : Nat) (hj : j < (arAt l k).toNat) : kth l (k + 1) j < kth l (k + 1) (j + 1) /\ endv l (kth l (k + 1) j) = kth l (k + 1) (j + 1) := by
  refine ⟨?_, rfl⟩
  obtain ⟨m, _, hk⟩ := Qqd l k h (j + 1) hj
  exact Jd2 l _ (show 0 <= endv l (kth l (k + 1) j) by have : kth l (k + 1) (j + 1) = endv l (kth l (k + 1) j) := rfl; omega)
theorem Jr2 (l : List Nd) (k : Nat) (h : 0 <= endv l k) (j d : Nat) (hj : j + d <= (arAt l k).toNat) : kth l (k + 1) j + d <= kth l (k + 1) (j + d) := by
  induction d with
  | zero => simp
  | succ d ih =>
    have h1 := ih (by omega)
    have h2 := (Jxe l k h (j + d) (by omega)).1
    rw [show j + (d + 1) = j + d + 1 from by omega]
    omega
theorem Jd8 (l : List Nd) (k : Nat) (h : 0 <= endv l k) (j : Nat) (hj : j < (arAt l k).toNat) : (k : Int) < kth l (k + 1) j /\ kth l (k + 1) j < endv l k /\ 0 <= endv l (kth l (k + 1) j) /\ endv l (kth l (k + 1) j) <= endv l k := by
  have h0 := Jr2 l k h 0 j (by omega)
  have h1 := Jxe l k h j hj
  have h2 := Jr2 l k h (j + 1) ((arAt l k).toNat - (j + 1)) (by omega)
  rw [show j + 1 + ((arAt l k).toNat - (j + 1)) = (arAt l k).toNat from by omega, Jr3 l k h] at h2
  have h3 : kth l (k + 1) 0 = k + 1 := rfl
  rw [Nat.zero_add] at h0
  omega
theorem Jzk (l : List Nd) (k : Nat) (x : Int) (hx : x ∈ Jab l k) : 0 <= endv l k /\ ∃ j, j < (arAt l k).toNat /\ x = kth l (k + 1) j := by
  by_cases h : endv l k < 0
  · rw [Jpd l k h] at hx; cases hx
  · have h' : 0 <= endv l k := by omega
    rw [Jcb l k h'] at hx
    simp only [upto, List.mem_map, List.mem_range] at hx
    obtain ⟨j, hj, rfl⟩ := hx
    exact ⟨h', j, hj, rfl⟩
theorem Jfz (l : List Nd) (i : Int) (c : Nat) (h : c < (Jab l i).length) : i < (Jab l i)[c] /\ 0 <= i /\ (Jab l i)[c] <= l.length := by
  have hm := List.getElem_mem h
  have hp : 0 <= endv l i := by
    rcases Jdo l i with h1 | h1
    · rw [Jpd l i (by omega)] at h; simp at h
    · exact h1
  obtain ⟨h0, _⟩ := Ja2 l i hp
  obtain ⟨k, rfl⟩ := Int.eq_ofNat_of_zero_le h0
  obtain ⟨_, j, hj, hx⟩ := Jzk l k _ hm
  have := Jd8 l k hp j hj
  have := Jgl l k
  omega
theorem Jbn (l : List Nd) (i : Int) : (Jab l i).length <= 200 := by
  unfold Jab
  split
  · simp
  · have := Jv6 l i
    rw [List.length_map, List.length_range]
    omega
end Go.Proofs.YtinnbafplhcnpaaGreat
end
section
namespace Go.Proofs.YtinnbafplhcnpaaGreat
set_option maxRecDepth 100000
open Go.RowKit Go.Shelf
set_option linter.unusedVariables false
attribute [local go_sem] Oper.semAt_some
def Jwe (ys xs : List Int) (b : Bool) : Prop := if b = true then xs = ys else xs <+: ys
theorem Qbq {α : Type} (f : Nat -> α) (m d : Nat) : upto f m <+: upto f (m + d) := by
  rw [upto, upto, List.range_add, List.map_append]
  exact List.prefix_append _ _
set_option maxRecDepth 100000 in
set_option maxHeartbeats 4000000 in
theorem Qka       (l : List Nd) (v : Value) (hl : l.length ≤ 4000000) (X : Nat → Prop) (i Bl Ba : Nat) (W : World) (hE : 0 ≤ endv l i) (hX : ∀ k, X k → k < W.heap.size) (hxl : ¬ X Bl) (hxa : ¬ X Ba)
    (hbl : W.cell? ⟨Bl, 0, none⟩ = some v) (hba : W.cell? ⟨Ba, 0, none⟩ = some (.int .i64 i)) (hv : NodesIn (fun k => ¬ X k /\ k < W.heap.size) W v l) :
    Iter Tryz.prog 120 #[.pointer (some ⟨Ba, 0, none⟩), .pointer (some ⟨Bl, 0, none⟩)] (fun x : Int => #[Value.int .i64 x]) (fun x _ => x ∈ Jab l i) (KeptBut X W.heap.size) (Jab l i).length (Jwe (Jab l i)) W := by
  intro lp J hJ hY h0
  refine callsIn_of_wp Tryz.func120 rfl trivial ?_ rfl
  simp only [Tryz.ntmps120, List.size_toArray, List.length_cons, List.length_nil, Nat.reduceAdd, Nat.reduceSub, Array.replicate_succ, Array.replicate_zero, List.push_toArray, List.append_toArray, List.nil_append, List.cons_append]
  have hi : i < l.length := by simpa using (Ja2 l i hE).2
  have har := Jck l i hE
  have HK := Lib.hid (Jcb l i hE)
  rcases hv.open with ⟨rfl, _⟩ | ⟨b, o, cap, rfl, hpos, hcap, hbs, hcell⟩
  · simp at hi
  · obtain ⟨hc0, hc1⟩ := hcell i hi
    have hab := Jjl l[i]
    have HA := Lib.hid (Jb1 l i hi)
    rw [HA.out] at har
    gi_wp2_with (gi_at_call 79; refine (callsIn_wide.2 (Jm1 l[i] _)).mono ?_; rintro e w1 ⟨rfl, hb⟩)
    gi_loopw [4, 12] (fun k c wr => ∃ m : Nat, (m : Int) <= ar l[i] /\ c = .int .i64 m /\ k = .int .i64 (kth l (i + 1) m) /\ J (upto (kth l (i + 1)) m) true wr /\ KeptBut X W.heap.size W wr) (fun _ c _ => (ar l[i] - intOf c).toNat)
    case atStart =>
      exact ⟨0, har, rfl, rfl, Jem (hJ true) h0 hb, Jcx hb⟩
    case round =>
      obtain ⟨m, hm, rfl, rfl, hJs, hkw⟩ := hrel
      by_cases hlt : (m : Int) < ar l[i]
      · obtain ⟨fn, tmps, assign, body, hy, hR⟩ := hY _ (kth l (i + 1) m) wr hJs (by rw [HK.out]; exact List.mem_map.2 ⟨m, List.mem_range.2 (by rw [HA.out]; omega), rfl⟩) (by rw [upto_length, HK.out, upto_length, HA.out]; omega)
        gi_wp2
        refine hR.mono ?_
        rintro e W3 ⟨bb, rfl, hJ3, hk3⟩
        cases bb with
        | true =>
          have hk3' := hkw.trans hk3
          have hbl3 : W3.cell? ⟨Bl, 0, none⟩ = some (.slice (some ⟨b, o, none⟩) l.length cap) := hk3'.cell (p := ⟨Bl, 0, none⟩) hxl hbl
          have hv3 : Jbz W3 (.slice (some ⟨b, o, none⟩) l.length cap) l := NodesIn.mono (SliceIn.keptBut hv hk3') (fun _ h => h.2)
          gi_wp2_with (gi_at_call 44; refine (callsIn_wide.2 (Jej l _ _ _ hv3 hl)).mono ?_; rintro e w4 ⟨rfl, hb4⟩)
          go_roundw
          case rel => exact ⟨m + 1, by omega, by go_num, rfl, by rw [upto_succ]; exact Jem (hJ true) hJ3 hb4, hk3'.trans (Jcx hb4)⟩
          case measure => simp [intOf]; omega
        | false =>
          gi_wp2
          refine bodyPost_ret (results_none rfl _ _ _) rfl ?_
          refine ⟨⟨_, rfl⟩, _, false, ?_, hJ3⟩
          rw [Jwe, if_neg (by decide), HK.out, HA.out, <- upto_succ]
          obtain ⟨d, hd⟩ : ∃ d, (ar l[i]).toNat = (m + 1) + d := ⟨(ar l[i]).toNat - (m + 1), by omega⟩
          rw [hd]
          exact Qbq _ _ _
      · gi_wp2
        go_end0
        refine ⟨⟨_, rfl⟩, _, .inr ⟨?_, hJs⟩⟩
        rw [Jwe, if_pos rfl, HK.out, HA.out, show (ar l[i]).toNat = m from by omega]
end Go.Proofs.YtinnbafplhcnpaaGreat
end
section
namespace Go.Proofs.YtinnbafplhcnpaaGreat
def depV : Nat -> List Nd -> Int -> Int
  | 0, _, _ => 0
  | f + 1, l, i => if endv l i < 0 then 0 else (Jab l i).foldl (fun m k => max m (depV f l k)) 0 + 1
def Jrv (f : Nat) (l : List Nd) (ks : List Int) : Int := ks.foldl (fun m k => max m (depV f l k)) 0
theorem Jqs (f : Nat) (l : List Nd) (ks : List Int) (x : Int) : Jrv f l (ks ++ [x]) = max (Jrv f l ks) (depV f l x) := by simp [Jrv]
theorem Qc8 (f : Nat) (l : List Nd) (i : Int) (h : endv l i < 0) : depV f l i = 0 := by
  cases f with
  | zero => rfl
  | succ f => rw [depV, if_pos h]
theorem Jxy (f : Nat) (l : List Nd) (i : Int) (h : 0 <= endv l i) : depV (f + 1) l i = Jrv f l (Jab l i) + 1 := by
  rw [depV, if_neg (by omega)]; rfl
theorem Jnc : ∀ (f : Nat) (l : List Nd) (i : Int), 0 <= depV f l i /\ depV f l i <= f := by
  intro f
  induction f with
  | zero => intro l i; exact ⟨Int.le_refl _, Int.le_refl _⟩
  | succ f ih =>
    intro l i
    have key : ∀ (ks : List Int) (m : Int), 0 <= m -> m <= f -> 0 <= ks.foldl (fun m k => max m (depV f l k)) m /\ ks.foldl (fun m k => max m (depV f l k)) m <= f := by
      intro ks
      induction ks with
      | nil => intro m h1 h2; exact ⟨h1, h2⟩
      | cons k ks ihk => intro m h1 h2; have := ih l k; exact ihk _ (by show 0 <= max _ _; omega) (by show max _ _ <= _; omega)
    by_cases h : endv l i < 0
    · rw [Qc8 _ _ _ h]; omega
    · rw [depV, if_neg h]
      have := key (Jab l i) 0 (by omega) (by omega)
      omega
theorem Jon (f : Nat) (l : List Nd) (ks : List Int) : 0 <= Jrv f l ks /\ Jrv f l ks <= f := by
  have key : ∀ (ks : List Int) (m : Int), 0 <= m -> m <= f -> 0 <= ks.foldl (fun m k => max m (depV f l k)) m /\ ks.foldl (fun m k => max m (depV f l k)) m <= f := by
    intro ks
    induction ks with
    | nil => intro m h1 h2; exact ⟨h1, h2⟩
    | cons k ks ihk => intro m h1 h2; have := Jnc f l k; exact ihk _ (by show 0 <= max _ _; omega) (by show max _ _ <= _; omega)
  exact key ks 0 (by omega) (by omega)
theorem Qj9 (l : List Nd) (i : Int) (x : Int) (h : x ∈ Jab l i) : i < x /\ 0 <= i /\ x <= l.length := by
  obtain ⟨c, hc, rfl⟩ := List.getElem_of_mem h
  exact Jfz l i c hc
end Go.Proofs.YtinnbafplhcnpaaGreat
end
section
namespace Go.Proofs.YtinnbafplhcnpaaGreat
open Go.RowKit Go.Shelf
theorem Jpt      (l : List Nd) (i : Int) (v : Value) (w : World) (hv : Jbz     w v l) (hl : l.length ≤ 4000000) :
    Calls Tryz.prog 48 #[v, .int .i64 i] w fun e W' => ∃ u, e = .returned u /\ IntsIn (fun k => w.heap.size <= k /\ k < W'.heap.size) W' u (Jab l i) /\ Below w.heap.size w W' :=
  callsIn_wide.1 (Qtn 3 (Nat.le_refl _) l i v w hv hl)
end Go.Proofs.YtinnbafplhcnpaaGreat
end
section
namespace Go.Proofs.YtinnbafplhcnpaaGreat
set_option maxRecDepth 100000
open Go.RowKit Go.Shelf
set_option linter.unusedVariables false
attribute [local go_sem] Oper.semAt_some
theorem Qc7         {W U w3 : World} {B Bn Bx : Nat} {t t' : TypeId} {u v : Value} {a : Int} {f : Nat} {l : List Nd} {ks : List Int} (hx : W.heap.size ≤ Bn ∧ Bx ≠ Bn) (e1 : Boxed U Bn t u) (e2 : Boxed U Bx t' v) (hBU : Below W.heap.size W U) (hb3 : Below U.drew.heap.size U.drew w3)
    (h : a = Jrv f l ks) : KeepsFrom B U (w3.setCell ⟨Bn, 0, none⟩ (.int .i64 a)) /\ KeptBut (fun j => j = Bn) (B + 2) U (w3.setCell ⟨Bn, 0, none⟩ (.int .i64 a)) /\
      (Boxed (w3.setCell ⟨Bn, 0, none⟩ (.int .i64 a)) Bn t (.int .i64 (Jrv f l ks)) /\ Boxed (w3.setCell ⟨Bn, 0, none⟩ (.int .i64 a)) Bx t' v /\ Below W.heap.size W (w3.setCell ⟨Bn, 0, none⟩ (.int .i64 a))) := by
  subst h
  have hb : Below U.heap.size U w3 := ⟨hb3.os, hb3.tape, hb3.output, hb3.size, hb3.block⟩
  have k1 : KeepsFrom B U w3 := ⟨hb.size, fun k o _ hk _ => (hb.block k (Array.getElem?_eq_some_iff.1 hk).1).trans hk⟩
  have d1 : Boxed w3 Bn t u := (hb.block _ e1.lt).trans e1
  have d2 : Boxed w3 Bx t' v := (hb.block _ e2.lt).trans e2
  exact ⟨k1.trans ((KeepsOthers.setCell _ _ _).from _), (Jcx hb).trans (keptBut_setCell (X := fun j => j = Bn) w3 (p := ⟨Bn, 0, none⟩) rfl _), d1.set _, d2.other hx.2 _, (hBU.trans (hb.mono hBU.size)).setCell (p := ⟨Bn, 0, none⟩) hx.1 _⟩
set_option maxRecDepth 100000 in
set_option maxHeartbeats 4000000 in
theorem Qbi       (l : List Nd) (hl : l.length ≤ 4000000) : ∀ (f : Nat) (i : Int) (v : Value) (w : World), f ≤ 4000001 → ((l.length : Int) ≤ i + f ∨ i < 0) → Jbz     w v l →
    Calls Tryz.prog 80 #[v, .int .i64 i] w fun e w' => e = .returned (.int .i64 (depV f l i)) /\ Below w.heap.size w w' := by
  intro f
  induction f with
  | zero =>
    intro i v w hf hi hv
    have hlt : endv l i < 0 := by
      rcases Jdo l i with hE | hE
      · omega
      · obtain ⟨h1, h2⟩ := Ja2 l i hE; omega
    obtain ⟨p, cap, hsl⟩ := hv.slice
    subst hsl
    have hv0 := hv.below (below_alloc1 w (.cells #[.slice p l.length cap] 23))
    go_enter Tryz.func80, Tryz.ntmps80
    go_wp2_with (go_at_call 44; refine (Jej l _ _ _ hv0 hl).mono ?_; rintro e w1 ⟨rfl, hb⟩)
    go_ret
    exact ⟨rfl, (below_alloc1 w _).trans (hb.mono (by simp))⟩
  | succ f ih =>
    intro i v w hf hi hv
    obtain ⟨p, cap, hsl⟩ := hv.slice
    subst hsl
    have hv0 := hv.below (below_alloc1 w (.cells #[.slice p l.length cap] 23))
    refine callsIn_wide.1 (?_ : CallsIn Fence.wide 1 _ _ _ _ _)
    refine callsIn_of_wp_marks Tryz.func80 rfl trivial ?_ rfl
    simp only [Tryz.ntmps80, List.size_toArray, List.length_cons, List.length_nil, Nat.reduceAdd, Nat.reduceSub, Array.replicate_succ, Array.replicate_zero, List.push_toArray, List.append_toArray, List.nil_append, List.cons_append]
    rcases Jdo l i with hE | hE
    · have hlt : endv l i < 0 := by omega
      have HK := Lib.hid (Qc8 (f + 1) l i hlt)
      clear hE hi
      gi_wp2_with (gi_at_call 44; refine (callsIn_wide.2 (Jej l _ _ _ hv0 hl)).mono ?_; rintro e w1 ⟨rfl, hb⟩)
      exact ⟨_, results_tmp rfl _ _ _, by rw [HK.out]; rfl, (below_alloc1 w _).trans (hb.mono (by simp))⟩
    · obtain ⟨hi0, hil⟩ := Ja2 l i hE
      obtain ⟨k, rfl⟩ := Int.eq_ofNat_of_zero_le hi0
      have hkl : k < l.length := by simpa using hil
      have HI : Hid ((l.length : Int) <= k + (f + 1 : Nat)) := Lib.hid (by omega)
      have HY := Lib.hid (Jxy f l k hE)
      have hnlt : ¬ endv l k < 0 := by omega
      clear hi
      gi_wp2_with (first | (gi_at_call 44; refine (callsIn_wide.2 (Jej l _ _ _ hv0 hl)).mono ?_; rintro e w1 ⟨rfl, hb⟩; have hx := (hb.block w.heap.size (by simp)).trans (Boxed.new w 23 (.slice p l.length cap)); have hxc := Boxed.cell (Boxed.alloc hx (.cells #[.int .i64 0] 3))) | (gi_at_call 91; refine (Qkb _ _ _ _ _ rfl _ _).mono ?_; rintro e w2 ⟨rfl, rfl⟩))
      have hsz1 := hb.size
      rw [World.size_alloc] at hsz1
      have hBw : Below w.heap.size w w1 := (below_alloc1 w _).trans (hb.mono (by simp))
      have bN := Boxed.new w1 3 (.int .i64 0)
      have bL := Boxed.new (w1.alloc (.cells #[.int .i64 0] 3)) 23 (.slice p l.length cap)
      have bA := Boxed.new ((w1.alloc (.cells #[.int .i64 0] 3)).alloc (.cells #[.slice p l.length cap] 23)) 3 (.int .i64 k)
      rw [World.size_alloc] at bL
      rw [World.size_alloc, World.size_alloc] at bA
      obtain ⟨W0, hW0⟩ : ∃ W0, ((w1.alloc (.cells #[.int .i64 0] 3)).alloc (.cells #[.slice p l.length cap] 23)).alloc (.cells #[.int .i64 k] 3) = W0 := ⟨_, rfl⟩
      have bN := (bN.alloc (.cells #[.slice p l.length cap] 23)).alloc (.cells #[.int .i64 k] 3)
      have bL := bL.alloc (.cells #[.int .i64 k] 3)
      have hB0 : Below w1.heap.size w1 W0 := by rw [<- hW0]; exact (((Below.refl _ w1).alloc (Nat.le_refl _) _).alloc (by simp) _).alloc (by simp; omega) _
      have hS0 : W0.heap.size = w1.heap.size + 3 := by rw [<- hW0]; simp
      have hB1 : Below w.heap.size w W0 := hBw.trans (hB0.mono (by omega))
      have bX : Boxed W0 w.heap.size 23 (.slice p l.length cap) := (hB0.block _ (by omega)).trans hx
      rw [hW0] at bN bL bA ⊢
      refine Jqe (gf := 120) (lb := #[.pointer (some ⟨w1.heap.size + 1 + 1, 0, none⟩), .pointer (some ⟨w1.heap.size + 1, 0, none⟩)]) rfl (enters_of Tryz.func120 (by kernel_rfl) rfl)
        (encs := fun x : Int => #[Value.int .i64 x]) (G := fun x _ => x ∈ Jab l k) (Kp := KeptBut (fun j => j = w1.heap.size) (W0.heap.size + 2)) (N := (Jab l k).length) (R := Jwe (Jab l k)) (fun _ => rfl)
        (fun W' hb' hs' => by
          have hkW : KeptBut (fun j => j = w1.heap.size) W0.heap.size W0 W' := Jcx hb'
          have := Qka l (.slice p l.length cap) hl (fun j => j = w1.heap.size) k (w1.heap.size + 1) (w1.heap.size + 1 + 1) W' hE (fun j hj => by omega) (by omega) (by omega)
            (hkW.cell (p := ⟨w1.heap.size + 1, 0, none⟩) (by show ¬ (_ = _); simp) bL.cell) (hkW.cell (p := ⟨w1.heap.size + 1 + 1, 0, none⟩) (by show ¬ (w1.heap.size + 1 + 1 = w1.heap.size); omega) bA.cell)
            ((hv.kept (Jih (hB1.trans (hb'.mono hB1.size)))).mono (fun j hj => ⟨by omega, by have := hB1.size; omega⟩))
          rwa [hs'] at this)
        (fun h h' => h.trans h') (fun U q o o' h1 h2 h3 h4 _ => Jjx U q o o' h2 h3 h4)
        (fun pre U => Boxed U w1.heap.size 3 (.int .i64 (Jrv f l pre)) /\ Boxed U w.heap.size 23 (.slice p l.length cap) /\ Below w.heap.size w U)
        (fun _ _ _ => False)
        (OwnFrom.and (Own.from (boxed_own _ _ _) _) (OwnFrom.and (Own.from (boxed_own _ _ _) _) (ownFrom_below (Nat.le_refl _) (by omega))))
        (fun _ _ _ _ _ hs _ _ => hs) (fun _ _ _ _ _ hs _ _ => hs)
        ⟨bN, bX, hB1⟩
        (fun x => { tmps := #[.slice p l.length cap, .int .i64 k, .pointer (some ⟨w.heap.size, 0, none⟩), undef, .int .i64 0, .pointer (some ⟨w1.heap.size, 0, none⟩), .int .i64 x, .slice p l.length cap, .int .i64 k, .int .i64 (endv l k), .bool (decide (endv l k < 0)), .slice p l.length cap, .int .i64 k, .func (.func 120) #[] #[.pointer (some ⟨w1.heap.size + 1 + 1, 0, none⟩), .pointer (some ⟨w1.heap.size + 1, 0, none⟩)], .int .i64 x, undef, undef, undef, undef, undef, undef, undef], defers := [] }) ?assign ?body ?done ?stop
      case assign =>
        intro lp x U K hK
        gi_wp2
        exact hK
      case body =>
        rintro lp pre x U ⟨e1, e2, hBU⟩ hgx hlen
        have hkm := Qj9 l k x hgx
        have hxf : (l.length : Int) <= x + f := by have := HI.out; omega
        have hvU : Jbz U.drew (.slice p l.length cap) l := (hv.below hBU).below ((Below.refl _ _).drew)
        have g1 := e1.cell
        have g2 := e2.cell
        have f1 := e1.frozen
        have hmx : Tryz.prog.follows .mixedOrders = true := by kernel_rfl
        clear hkm
        gi_wp2
        gi_region_with_o (gi_at_call 80; refine (CallsIn.inRound lp (callsIn_wide.2 (ih x _ _ (by omega) (.inl hxf) hvU))).mono ?_; rintro e w3 ⟨rfl, hb3⟩; have d0 := Boxed.cell ((hb3.block _ e1.lt).trans e1); have d1 := Boxed.frozen ((hb3.block _ e1.lt).trans e1))
        all_goals gi_wp2
        all_goals exact Qc7 (by omega) e1 e2 hBU hb3 (by first | (rw [Jqs]; omega) | rw [Jqs])
      case done =>
        rintro D ys U hD hR ⟨e1, e2, hBU⟩ hK
        have g1 := e1.cell
        have hR' : ys = Jab l k := hR
        subst hR'
        have hbd := Jon f l (Jab l k)
        gi_wp2
        refine ⟨by simp, .inl ⟨_, _, rfl, run_takeDeferred hK, ?_⟩⟩
        exact ⟨_, results_tmp rfl _ _ _, by rw [HY.out]; rfl, hBU.trans (belowK_b (w := w) (Nat.le_refl _) U D _ _ (by omega) hK rfl rfl)⟩
      case stop =>
        rintro D c pre U _ _ h _
        exact h.elim
end Go.Proofs.YtinnbafplhcnpaaGreat
end
section
namespace Go.Proofs.YtinnbafplhcnpaaGreat
set_option maxRecDepth 100000
open Go.RowKit
set_option maxHeartbeats 4000000 in
theorem Jeb          (x : Nd) (w : World) :
    Calls Tryz.prog 97 #[.agg #[.int .i64 x.1, .int .i64 x.2]] w fun e w' => e = .returned (.int .i64 (ar x)) /\ Below w.heap.size w w' := by
  obtain ⟨t, n⟩ := x
  have ht : t = 1 \/ t = 2 \/ t = 3 \/ t = 4 \/ t = 5 \/ t = 6 \/ t = 7 \/ t = 8 \/ t = 9 \/ t = 10 \/ t = 11 \/ t = 12 \/ t = 13 \/ t = 14 \/ t = 15 \/ t = 16 \/ t = 17 \/ t = 18 \/ t = 19 \/ t = 20 \/ t = 21 \/ t = 22 \/ t = 23 \/ t = 24 \/ t = 25 \/ t = 26 \/ (t < 1 \/ 26 < t) := by omega
  rcases ht with rfl | rfl | rfl | rfl | rfl | rfl | rfl | rfl | rfl | rfl | rfl | rfl | rfl | rfl | rfl | rfl | rfl | rfl | rfl | rfl | rfl | rfl | rfl | rfl | rfl | rfl | ht
  · go_enter Tryz.func97, Tryz.ntmps97
    go_wp2
    all_goals
      go_ret
      refine ⟨Ja7 ?_, below_alloc1 _ _⟩
      first | rfl | (simp only [ar, lim]; simp; done) | (simp only [ar, lim]; simp; omega) | (simp only [ar, lim]; simp; split <;> omega)
  · go_enter Tryz.func97, Tryz.ntmps97
    go_wp2
    all_goals
      go_ret
      refine ⟨Ja7 ?_, below_alloc1 _ _⟩
      first | rfl | (simp only [ar, lim]; simp; done) | (simp only [ar, lim]; simp; omega) | (simp only [ar, lim]; simp; split <;> omega)
  · go_enter Tryz.func97, Tryz.ntmps97
    go_wp2
    all_goals
      go_ret
      refine ⟨Ja7 ?_, below_alloc1 _ _⟩
      first | rfl | (simp only [ar, lim]; simp; done) | (simp only [ar, lim]; simp; omega) | (simp only [ar, lim]; simp; split <;> omega)
  · go_enter Tryz.func97, Tryz.ntmps97
    go_wp2
    all_goals
      go_ret
      refine ⟨Ja7 ?_, below_alloc1 _ _⟩
      first | rfl | (simp only [ar, lim]; simp; done) | (simp only [ar, lim]; simp; omega) | (simp only [ar, lim]; simp; split <;> omega)
  · go_enter Tryz.func97, Tryz.ntmps97
    go_wp2
    all_goals
      go_ret
      refine ⟨Ja7 ?_, below_alloc1 _ _⟩
      first | rfl | (simp only [ar, lim]; simp; done) | (simp only [ar, lim]; simp; omega) | (simp only [ar, lim]; simp; split <;> omega)
  · go_enter Tryz.func97, Tryz.ntmps97
    go_wp2
    all_goals
      go_ret
      refine ⟨Ja7 ?_, below_alloc1 _ _⟩
      first | rfl | (simp only [ar, lim]; simp; done) | (simp only [ar, lim]; simp; omega) | (simp only [ar, lim]; simp; split <;> omega)
  · go_enter Tryz.func97, Tryz.ntmps97
    go_wp2
    all_goals
      go_ret
      refine ⟨Ja7 ?_, below_alloc1 _ _⟩
      first | rfl | (simp only [ar, lim]; simp; done) | (simp only [ar, lim]; simp; omega) | (simp only [ar, lim]; simp; split <;> omega)
  · go_enter Tryz.func97, Tryz.ntmps97
    go_wp2
    all_goals
      go_ret
      refine ⟨Ja7 ?_, below_alloc1 _ _⟩
      first | rfl | (simp only [ar, lim]; simp; done) | (simp only [ar, lim]; simp; omega) | (simp only [ar, lim]; simp; split <;> omega)
  · go_enter Tryz.func97, Tryz.ntmps97
    go_wp2
    all_goals
      go_ret
      refine ⟨Ja7 ?_, below_alloc1 _ _⟩
      first | rfl | (simp only [ar, lim]; simp; done) | (simp only [ar, lim]; simp; omega) | (simp only [ar, lim]; simp; split <;> omega)
  · go_enter Tryz.func97, Tryz.ntmps97
    go_wp2
    all_goals
      go_ret
      refine ⟨Ja7 ?_, below_alloc1 _ _⟩
      first | rfl | (simp only [ar, lim]; simp; done) | (simp only [ar, lim]; simp; omega) | (simp only [ar, lim]; simp; split <;> omega)
  · go_enter Tryz.func97, Tryz.ntmps97
    go_wp2
    all_goals
      go_ret
      refine ⟨Ja7 ?_, below_alloc1 _ _⟩
      first | rfl | (simp only [ar, lim]; simp; done) | (simp only [ar, lim]; simp; omega) | (simp only [ar, lim]; simp; split <;> omega)
  · go_enter Tryz.func97, Tryz.ntmps97
    go_wp2
    all_goals
      go_ret
      refine ⟨Ja7 ?_, below_alloc1 _ _⟩
      first | rfl | (simp only [ar, lim]; simp; done) | (simp only [ar, lim]; simp; omega) | (simp only [ar, lim]; simp; split <;> omega)
  · go_enter Tryz.func97, Tryz.ntmps97
    go_wp2
    all_goals
      go_ret
      refine ⟨Ja7 ?_, below_alloc1 _ _⟩
      first | rfl | (simp only [ar, lim]; simp; done) | (simp only [ar, lim]; simp; omega) | (simp only [ar, lim]; simp; split <;> omega)
  · go_enter Tryz.func97, Tryz.ntmps97
    go_wp2
    all_goals
      go_ret
      refine ⟨Ja7 ?_, below_alloc1 _ _⟩
      first | rfl | (simp only [ar, lim]; simp; done) | (simp only [ar, lim]; simp; omega) | (simp only [ar, lim]; simp; split <;> omega)
  · go_enter Tryz.func97, Tryz.ntmps97
    go_wp2
    all_goals
      go_ret
      refine ⟨Ja7 ?_, below_alloc1 _ _⟩
      first | rfl | (simp only [ar, lim]; simp; done) | (simp only [ar, lim]; simp; omega) | (simp only [ar, lim]; simp; split <;> omega)
  · go_enter Tryz.func97, Tryz.ntmps97
    go_wp2
    all_goals
      go_ret
      refine ⟨Ja7 ?_, below_alloc1 _ _⟩
      first | rfl | (simp only [ar, lim]; simp; done) | (simp only [ar, lim]; simp; omega) | (simp only [ar, lim]; simp; split <;> omega)
  · go_enter Tryz.func97, Tryz.ntmps97
    go_wp2
    all_goals
      go_ret
      refine ⟨Ja7 ?_, below_alloc1 _ _⟩
      first | rfl | (simp only [ar, lim]; simp; done) | (simp only [ar, lim]; simp; omega) | (simp only [ar, lim]; simp; split <;> omega)
  · go_enter Tryz.func97, Tryz.ntmps97
    go_wp2
    all_goals
      go_ret
      refine ⟨Ja7 ?_, below_alloc1 _ _⟩
      first | rfl | (simp only [ar, lim]; simp; done) | (simp only [ar, lim]; simp; omega) | (simp only [ar, lim]; simp; split <;> omega)
  · go_enter Tryz.func97, Tryz.ntmps97
    go_wp2
    all_goals
      go_ret
      refine ⟨Ja7 ?_, below_alloc1 _ _⟩
      first | rfl | (simp only [ar, lim]; simp; done) | (simp only [ar, lim]; simp; omega) | (simp only [ar, lim]; simp; split <;> omega)
  · go_enter Tryz.func97, Tryz.ntmps97
    go_wp2
    all_goals
      go_ret
      refine ⟨Ja7 ?_, below_alloc1 _ _⟩
      first | rfl | (simp only [ar, lim]; simp; done) | (simp only [ar, lim]; simp; omega) | (simp only [ar, lim]; simp; split <;> omega)
  · go_enter Tryz.func97, Tryz.ntmps97
    go_wp2
    all_goals
      go_ret
      refine ⟨Ja7 ?_, below_alloc1 _ _⟩
      first | rfl | (simp only [ar, lim]; simp; done) | (simp only [ar, lim]; simp; omega) | (simp only [ar, lim]; simp; split <;> omega)
  · go_enter Tryz.func97, Tryz.ntmps97
    go_wp2
    all_goals
      go_ret
      refine ⟨Ja7 ?_, below_alloc1 _ _⟩
      first | rfl | (simp only [ar, lim]; simp; done) | (simp only [ar, lim]; simp; omega) | (simp only [ar, lim]; simp; split <;> omega)
  · go_enter Tryz.func97, Tryz.ntmps97
    go_wp2
    all_goals
      go_ret
      refine ⟨Ja7 ?_, below_alloc1 _ _⟩
      first | rfl | (simp only [ar, lim]; simp; done) | (simp only [ar, lim]; simp; omega) | (simp only [ar, lim]; simp; split <;> omega)
  · go_enter Tryz.func97, Tryz.ntmps97
    go_wp2
    all_goals
      go_ret
      refine ⟨Ja7 ?_, below_alloc1 _ _⟩
      first | rfl | (simp only [ar, lim]; simp; done) | (simp only [ar, lim]; simp; omega) | (simp only [ar, lim]; simp; split <;> omega)
  · go_enter Tryz.func97, Tryz.ntmps97
    go_wp2
    all_goals
      go_ret
      refine ⟨Ja7 ?_, below_alloc1 _ _⟩
      first | rfl | (simp only [ar, lim]; simp; done) | (simp only [ar, lim]; simp; omega) | (simp only [ar, lim]; simp; split <;> omega)
  · go_enter Tryz.func97, Tryz.ntmps97
    go_wp2
    all_goals
      go_ret
      refine ⟨Ja7 ?_, below_alloc1 _ _⟩
      first | rfl | (simp only [ar, lim]; simp; done) | (simp only [ar, lim]; simp; omega) | (simp only [ar, lim]; simp; split <;> omega)
  have hl : lim t n = (-1, -1) := by
    unfold lim
    repeat rw [if_neg (by omega)]
  have har : ar (t, n) = -1 := by
    simp only [ar, hl]
    rw [if_neg (by omega)]
    split <;> rfl
  have HA := Lib.hid har
  clear har hl
  have e1 : (t == 1) = false := beq_eq_false_iff_ne.2 (by omega)
  have e2 : (t == 2) = false := beq_eq_false_iff_ne.2 (by omega)
  have e3 : (t == 3) = false := beq_eq_false_iff_ne.2 (by omega)
  have e4 : (t == 4) = false := beq_eq_false_iff_ne.2 (by omega)
  have e5 : (t == 5) = false := beq_eq_false_iff_ne.2 (by omega)
  have e6 : (t == 6) = false := beq_eq_false_iff_ne.2 (by omega)
  have e7 : (t == 7) = false := beq_eq_false_iff_ne.2 (by omega)
  have e8 : (t == 8) = false := beq_eq_false_iff_ne.2 (by omega)
  have e9 : (t == 9) = false := beq_eq_false_iff_ne.2 (by omega)
  have e10 : (t == 10) = false := beq_eq_false_iff_ne.2 (by omega)
  have e11 : (t == 11) = false := beq_eq_false_iff_ne.2 (by omega)
  have e12 : (t == 12) = false := beq_eq_false_iff_ne.2 (by omega)
  have e13 : (t == 13) = false := beq_eq_false_iff_ne.2 (by omega)
  have e14 : (t == 14) = false := beq_eq_false_iff_ne.2 (by omega)
  have e15 : (t == 15) = false := beq_eq_false_iff_ne.2 (by omega)
  have e16 : (t == 16) = false := beq_eq_false_iff_ne.2 (by omega)
  have e17 : (t == 17) = false := beq_eq_false_iff_ne.2 (by omega)
  have e18 : (t == 18) = false := beq_eq_false_iff_ne.2 (by omega)
  have e19 : (t == 19) = false := beq_eq_false_iff_ne.2 (by omega)
  have e20 : (t == 20) = false := beq_eq_false_iff_ne.2 (by omega)
  have e21 : (t == 21) = false := beq_eq_false_iff_ne.2 (by omega)
  have e22 : (t == 22) = false := beq_eq_false_iff_ne.2 (by omega)
  have e23 : (t == 23) = false := beq_eq_false_iff_ne.2 (by omega)
  have e24 : (t == 24) = false := beq_eq_false_iff_ne.2 (by omega)
  have e25 : (t == 25) = false := beq_eq_false_iff_ne.2 (by omega)
  have e26 : (t == 26) = false := beq_eq_false_iff_ne.2 (by omega)
  clear ht
  go_enter Tryz.func97, Tryz.ntmps97
  go_wp2
  all_goals
    go_ret
    refine ⟨Ja7 ?_, below_alloc1 _ _⟩
    rw [HA.out]
end Go.Proofs.YtinnbafplhcnpaaGreat
end
section
namespace Go.Proofs.YtinnbafplhcnpaaGreat
open Go.RowKit
set_option maxHeartbeats 1000000 in
theorem Jcn        (l : List Nd) (i : Int) (v : Value) (w : World) (hv : Jbz     w v l) (hl : l.length ≤ 4000000) :
    Calls Tryz.prog 60 #[v, .int .i64 i] w fun e w' => e = .returned (.int .i64 (endv l i)) /\ Below w.heap.size w w' := by
  by_cases h0 : i < 0
  · go_enter Tryz.func60, Tryz.ntmps60
    go_wp2
    go_ret
    exact ⟨Ja7 (Jsa l i h0).symm, Below.refl _ _⟩
  · obtain ⟨k0, rfl⟩ := Int.eq_ofNat_of_zero_le (Int.not_lt.1 h0)
    have he0 := Lib.hid (Jla l k0)
    obtain ⟨p, cap, rfl⟩ := hv.slice
    go_enter Tryz.func60, Tryz.ntmps60
    go_wp2
    go_loopw [5, 6] (fun t i wr => ∃ (k : Nat) (z : Int), i = .int .i64 k /\ t = .int .i64 z /\ 1 <= z /\ z <= 1 + 200 * (k - k0) /\ k0 <= k /\ (k <= l.length \/ k = k0) /\ Hid (endv l k0 = fin k (scan z.toNat (l.drop k))) /\ Below w.heap.size w wr)
      (fun _ i _ => l.length - (intOf i).toNat)
    case atStart => exact ⟨k0, 1, rfl, rfl, by omega, by omega, by omega, .inr rfl, he0, Below.refl _ _⟩
    case round =>
      obtain ⟨k, z, rfl, rfl, hz1, hz2, hk0, hkl, he, hB⟩ := hrel
      by_cases hk : k < l.length
      · rcases hv.open with ⟨rfl, _⟩ | ⟨b, o, cap', hsl, hpos, hcap, hbs, hcell⟩
        · simp at hk
        · obtain ⟨rfl, rfl⟩ : p = some ⟨b, o, none⟩ /\ cap = cap' := by simpa using hsl
          obtain ⟨hc0, hc1⟩ := hcell k hk
          have hc0 : wr.cell? ⟨b, o + k * 2, none⟩ = some (.int .i64 l[k].1) := (hB.cell (p := ⟨b, o + k * 2, none⟩) hbs).trans hc0
          have hc1 : wr.cell? ⟨b, o + k * 2 + 1, none⟩ = some (.int .i64 l[k].2) := (hB.cell (p := ⟨b, o + k * 2 + 1, none⟩) hbs).trans hc1
          clear hcell hsl
          have hab := Jjl l[k]
          go_wp2_with (go_at_call 97; refine (Jeb l[k] _).mono ?_; rintro e w1 ⟨rfl, hb⟩)
          · go_ret
            exact ⟨Ja7 (by rw [he.out, Jxs l k z hz1 hk (by assumption)]), hB.trans (hb.mono hB.size)⟩
          · have hz0 : z - 1 + ar l[k] = 0 := by first | assumption | exact beq_iff_eq.1 (by assumption)
            go_ret
            exact ⟨Ja7 (by rw [he.out, Jxq l k z hz1 hk (by omega) (by omega)]), hB.trans (hb.mono hB.size)⟩
          · have hz0 : z - 1 + ar l[k] ≠ 0 := by first | assumption | exact beq_eq_false_iff_ne.1 (by assumption)
            go_round
            case rel => exact ⟨k + 1, z + (ar l[k] - 1), by go_num, by rw [show z - 1 + ar l[k] = z + (ar l[k] - 1) from by omega], by omega, by omega, by omega, .inl (by omega), Lib.hid (by rw [he.out, Qku l k z hz1 hk (by omega)]), hB.trans (hb.mono hB.size)⟩
            case measure => simp [intOf]; omega
      · go_wp2
        go_ret
        exact ⟨Ja7 (by rw [he.out, Jto l k z hz1 (by omega)]), hB⟩
end Go.Proofs.YtinnbafplhcnpaaGreat
end
section
namespace Go.Proofs.YtinnbafplhcnpaaGreat
set_option maxRecDepth 100000
open Go.RowKit
set_option maxHeartbeats 1000000 in
theorem Jg1         (l : List Nd) (i : Int) (v : Value) (w : World) (hv : Jbz     w v l) (hl : l.length ≤ 4000000) :
    Calls Tryz.prog 99 #[v, .int .i64 i] w fun e W' => ∃ u, e = .returned u /\ IntsIn (fun k => w.heap.size <= k /\ k < W'.heap.size) W' u (Jab l i) /\ Below w.heap.size w W' := by
  obtain ⟨i0, hi, hz0, hz1, hz2⟩ := info_parts Jtj
  rcases Jdo l i with hE | hE
  · have hlt : endv l i < 0 := by omega
    have HK := Lib.hid (Jpd l i hlt)
    clear hE
    go_enter Tryz.func99, Tryz.ntmps99
    go_wp2_with (go_at_call 60; refine (Jcn l _ _ _ hv hl).mono ?_; rintro e w1 ⟨rfl, hb⟩)
    go_ret
    exact ⟨_, rfl, by rw [HK.out]; exact .inl ⟨none, 0, rfl, rfl, rfl, fun _ => rfl⟩, hb⟩
  · obtain ⟨hi0, hil⟩ := Ja2 l i hE
    obtain ⟨k, rfl⟩ := Int.eq_ofNat_of_zero_le hi0
    have hnlt : ¬ endv l k < 0 := by omega
    have hkl : k < l.length := by simpa using hil
    have har := Jck l k hE
    have HK := Lib.hid (Jcb l k hE)
    rcases hv.open with ⟨rfl, _⟩ | ⟨b, o, cap, rfl, hpos, hcap, hbs, hcell⟩
    · simp at hkl
    have HA := Lib.hid (Jb1 l k hkl)
    have hab := Jjl l[k]
    rw [HA.out] at har
    obtain ⟨hc0, hc1⟩ := hcell k hkl
    go_enter Tryz.func99, Tryz.ntmps99
    go_wp2_with (go_at_call 60; refine (Jcn l _ _ _ hv hl).mono ?_; rintro e w1 ⟨rfl, hb⟩)
    go_loopw [5, 6, 7] (fun u kk c wr => ∃ m : Nat, (m : Int) <= ar l[k] /\ c = .int .i64 m /\ kk = .int .i64 (kth l (k + 1) m) /\ wr.ownsRow w.heap.size 3 1 u (upto (kth l (k + 1)) m).length ((upto (kth l (k + 1)) m).map (Value.int .i64)) /\ Below w.heap.size w wr)
      (fun _ _ c _ => (ar l[k] - intOf c).toNat)
    case atStart => exact ⟨0, har, rfl, rfl, World.ownsRow_nil _ _ _ _, hb⟩
    case round =>
      obtain ⟨m, hm, rfl, rfl, hrow, hB⟩ := hrel
      have hc0 : wr.cell? ⟨b, o + k * 2, none⟩ = some (.int .i64 l[k].1) := (hB.cell (p := ⟨b, o + k * 2, none⟩) hbs).trans hc0
      have hc1 : wr.cell? ⟨b, o + k * 2 + 1, none⟩ = some (.int .i64 l[k].2) := (hB.cell (p := ⟨b, o + k * 2 + 1, none⟩) hbs).trans hc1
      have hsz := hB.size
      have hul := Lib.hid (upto_length (kth l (k + 1)) m)
      by_cases hlt : (m : Int) < ar l[k]
      · go_wp2_with (first
          | (go_at_call 97; refine (Jeb l[k] _).mono ?_; rintro e w2 ⟨rfl, hb2⟩; have hrow2 := ownsRow_below hrow hb2; have hsz2 := hb2.size)
          | (at_builtin; refine wpList_append_own _ rfl _ _ 22 rfl w.heap.size 3 i0 (.int .i64 0) 1 8 Tryz.underlying22 hi hz0 hz1 hz2 rfl (by decide) _ _ _ rfl (hrow2.alloc _) ⟨w2.heap.size, 0, none⟩ 1 1 [.int .i64 (kth l (k + 1) m)] rfl rfl (cell_one_new _ _ _) (by simp [Value.oneCell']) (by rw [hul.out]; unfold maxLen; omega) (by rw [hul.out]; omega) (by simp; omega) ?_; intro v' w3 hown' hgrow _; have hB3 : Below w.heap.size w w3 := ((hB.trans (hb2.mono hsz)).alloc (by omega) _).grown hgrow (by simp; omega) (fun j hj => (hrow2.lt j hj).1); have hv3 := hv.below hB3; have hsz3 := hB3.size)
          | (go_at_call 60; refine (Jcn        l _ _ _ hv3 hl).mono ?_; rintro e w4 ⟨rfl, hb4⟩))
        go_round
        case rel => exact ⟨m + 1, by omega, by go_num, rfl, by rw [upto_succ]; simpa using ownsRow_below hown' hb4, hB3.trans (hb4.mono hsz3)⟩
        case measure => simp [intOf]; omega
      · go_wp2_with (go_at_call 97; refine (Jeb l[k] _).mono ?_; rintro e w2 ⟨rfl, hb2⟩; have hrow2 := ownsRow_below hrow hb2)
        go_ret
        refine ⟨_, rfl, ?_, hB.trans (hb2.mono hsz)⟩
        rw [HK.out, HA.out, show (ar l[k]).toNat = m from by omega]
        exact Jhi hrow2
end Go.Proofs.YtinnbafplhcnpaaGreat
end
