import Derived.Test.YtinnbafplhcnpaaGreatProg
import Derived.Tactics
import Derived.Tactics2
import Derived.Defers
import Derived.Laws.Pointers
import Derived.Laws.LoneSync
import Derived.RegionTactic
import Derived.RegionCalls
import Derived.ChangeAlike
import Derived.Laws.NewBlocks
import Derived.Laws.Rows
import Derived.Test.YtinnbafplhcnpaaGreatHb
import Derived.Test.YtinnbafplhcnpaaGreatHe
import Derived.Test.YtinnbafplhcnpaaGreatHf
import Derived.Test.YtinnbafplhcnpaaGreatHg
import Derived.Test.YtinnbafplhcnpaaGreatHi
import Derived.Test.YtinnbafplhcnpaaGreatHk
import Derived.Test.YtinnbafplhcnpaaGreatHm
import Derived.Test.YtinnbafplhcnpaaGreatHp
import Derived.Test.YtinnbafplhcnpaaGreatHq
section
namespace Go.Proofs.YtinnbafplhcnpaaGreat
open Go.RowKit Go.Shelf
attribute [local go_sem] Oper.semAt_some
theorem Qri (l : List Nd) (i : Int) (h : endv l 0 = l.length) (xs : List Step) (hx : xs.map stepOf = Jdc (l.length + 1) l 0 []) (hn : ∀ x ∈ xs, x.1 ≠ i) : ofv l i = none := by
  rw [ofv, if_pos h, <- hx, Option.map_eq_none_iff, List.find?_eq_none]
  intro y hy
  obtain ⟨x, hx, rfl⟩ := List.mem_map.1 hy
  simpa [stepOf] using hn x hx
theorem Qnv (l : List Nd) (i : Int) (h : endv l 0 = l.length) (pre : List Step) (x : Step) (hx : (pre ++ [x]).map stepOf <+: Jdc (l.length + 1) l 0 []) (hn : ∀ x ∈ pre, x.1 ≠ i) (hi : x.1 = i) : ofv l i = some x.2.2 := by
  obtain ⟨r, hr⟩ := hx
  rw [ofv, if_pos h, <- hr, List.map_append, List.append_assoc, List.find?_append]
  have h0 : (pre.map stepOf).find? (fun x => x.1 == i) = none := by
    rw [List.find?_eq_none]
    intro y hy
    obtain ⟨x, hx, rfl⟩ := List.mem_map.1 hy
    simpa [stepOf] using hn x hx
  rw [h0]
  simp [stepOf, hi]
theorem Jg0               {fn : Func} {p q : Tmp} {tp tq : TypeId} (h : fn.results = #[.cell p tp, .cell q tq]) (tmps : Array Value) (P : Program) (w : World) {a b : Addr} {v u : Value}
    (hp : tmps.getD p undef = .pointer (some a)) (hq : tmps.getD q undef = .pointer (some b)) (hv : (loadVar tp a).run P w = .ok v w) (hu : (loadVar tq b).run P w = .ok u w) : (results fn tmps).run P w = .ok (.tuple #[v, u]) w := by
  rw [Array.getD_eq_getD_getElem?] at hp hq
  simp only [results, h]
  simp [Sem.run_bind, Result.andThen, hp, hq, asAddr, hv, hu]
theorem Jk7 (w : World) (b : Nat) (v : Value) (h : Boxed w b 22 v) : (loadVar 22 ⟨b, 0, none⟩).run Tryz.prog w = .ok v w := by
  have hc := h.cell
  simp [loadVar, go_sem, hc]
theorem Jmd (w : World) (b : Nat) (v : Value) (h : Boxed w b 4 v) : (loadVar 4 ⟨b, 0, none⟩).run Tryz.prog w = .ok v w := by
  have hc := h.cell
  simp [loadVar, go_sem, hc]
def OfX (S : Nat -> Prop) (s : Nat) (k : Nat) : Prop := k = s + 1 \/ k = s + 1 + 1 \/ (k < s /\ ¬ S k)
theorem Qp8 {S : Nat -> Prop} {s k : Nat} (h : OfX S s k) : k < s + 3 := by unfold OfX at h; omega
theorem Jvg {S : Nat -> Prop} {s k : Nat} (h : s + 3 <= k) : ¬ OfX S s k := fun q => by have := Qp8 q; omega
theorem Qrl {S : Nat -> Prop} {s k : Nat} (h : S k) (hk : k < s) : ¬ OfX S s k := by
  rintro (q | q | ⟨_, q⟩)
  · omega
  · omega
  · exact q h
theorem Qrk {S : Nat -> Prop} {s n k : Nat} (h : ¬ OfX S s k /\ k < n) : S k \/ (s <= k /\ k < n) := by
  by_cases hk : k < s
  · by_cases hs : S k
    · exact .inl hs
    · exact absurd (.inr (.inr ⟨hk, hs⟩)) h.1
  · exact .inr ⟨by omega, h.2⟩
set_option maxRecDepth 100000 in
set_option maxHeartbeats 4000000 in
theorem Of_in (l : List Nd) (i : Int) (v : Value) (w : World) (S : Nat → Prop) (hS : ∀ k, S k → k < w.heap.size) (hv : NodesIn S w v l) (hl : l.length ≤ 3000000) :
    Calls Tryz.prog 21 #[v, .int .i64 i] w fun e w' => ∃ u, e = .returned (.tuple #[u, .bool (ofv l i).isSome]) /\ IntsIn (fun k => S k \/ (w.heap.size <= k /\ k < w'.heap.size)) w' u ((ofv l i).getD []) /\ Below w.heap.size w w' := by
  refine (callsIn_wide (n := 0)).1 ?_
  refine callsIn_of_wp_marks Tryz.func21 rfl trivial ?_ rfl
  simp only [Tryz.ntmps21, List.size_toArray, List.length_cons, List.length_nil, Nat.reduceAdd, Nat.reduceSub, Array.replicate_succ, Array.replicate_zero, List.push_toArray, List.append_toArray, List.nil_append, List.cons_append]
  have hvA : Jbz w v l := hv.mono hS
  have hls := NodesIn.isSlice hv
  have hlen : l.length <= 4000000 := by omega
  obtain ⟨W0, hW0⟩ : ∃ W0, ((w.alloc (.cells #[.int .i64 i] 3)).alloc (.cells #[.slice none 0 0] 22)).alloc (.cells #[.bool false] 4) = W0 := ⟨_, rfl⟩
  have b1 : Boxed W0 w.heap.size 3 (.int .i64 i) := by rw [<- hW0]; exact ((Boxed.new _ _ _).alloc _).alloc _
  have b2 : Boxed W0 (w.heap.size + 1) 22 (.slice none 0 0) := by rw [<- hW0]; have := Boxed.new (w.alloc (.cells #[.int .i64 i] 3)) 22 (.slice none 0 0); rw [World.size_alloc] at this; exact this.alloc _
  have b3 : Boxed W0 (w.heap.size + 1 + 1) 4 (.bool false) := by rw [<- hW0]; have := Boxed.new ((w.alloc (.cells #[.int .i64 i] 3)).alloc (.cells #[.slice none 0 0] 22)) 4 (.bool false); rwa [World.size_alloc, World.size_alloc] at this
  have hB0 : Below w.heap.size w W0 := by rw [<- hW0]; exact (((Below.refl _ w).alloc (Nat.le_refl _) _).alloc (by simp) _).alloc (by simp; omega) _
  have hv0 : Jbz W0 v l := NodesIn.below hvA hB0
  have HW := Lib.hid hW0
  clear hW0
  have hc1 := b1.cell
  by_cases hE : endv l 0 = l.length
  · have hE' : (endv l 0 != (l.length : Int)) = false := by simp [hE]
    have hEH := Lib.hid hE
    clear hE
    obtain ⟨pv, cv, hvs⟩ := NodesIn.slice hv
    subst hvs
    gi_wp2_with (fail)
    rw [HW.out]
    refine (callsIn_wide.2 (Jej l _ _ _ hv0 hlen)).mono ?_
    rintro e w1 ⟨rfl, hb1⟩
    have hB1 : Below w.heap.size w w1 := hB0.trans (hb1.mono hB0.size)
    have hz0 : w.heap.size + 2 < W0.heap.size := b3.lt
    have c1 := (hb1.cell (p := ⟨w.heap.size, 0, none⟩) (by show w.heap.size < _; omega)).trans b1.cell
    have hk1 := Jih hb1
    have b1' : Boxed w1 w.heap.size 3 (.int .i64 i) := (hb1.block _ (by omega)).trans b1
    have b2' : Boxed w1 (w.heap.size + 1) 22 (.slice none 0 0) := (hb1.block _ (by omega)).trans b2
    have b3' : Boxed w1 (w.heap.size + 1 + 1) 4 (.bool false) := (hb1.block _ (by omega)).trans b3
    gi_wp2_with (gi_at_call 45; refine (callsIn_wide.2 (Jzb _ _ _ hls ⟨none, 0, 0, rfl⟩ _)).mono ?_; rintro e w2 ⟨rfl, rfl⟩)
    obtain ⟨w2, hw2⟩ : ∃ w2, ((w1.alloc (.cells #[.slice pv l.length cv] 23)).alloc (.cells #[.int .i64 0] 3)).alloc (.cells #[.slice none 0 0] 22) = w2 := ⟨_, rfl⟩
    rw [hw2]
    have hsz1 := hb1.size
    obtain ⟨q1, q2, q3⟩ := Jtz w1 (.slice pv l.length cv) (.int .i64 0) (.slice none 0 0) 23 3 22
    rw [hw2] at q1 q2 q3
    have hb2 : Below w1.heap.size w1 w2 := by rw [<- hw2]; exact (((Below.refl _ w1).alloc (Nat.le_refl _) _).alloc (by simp) _).alloc (by simp; omega) _
    have hz2 : w2.heap.size = w1.heap.size + 3 := by rw [<- hw2]; simp
    have hB2 : Below w.heap.size w w2 := hB1.trans (hb2.mono hB1.size)
    clear hw2
    have d1 : Boxed w2 w.heap.size 3 (.int .i64 i) := (hb2.block _ (by omega)).trans b1'
    have d2 : Boxed w2 (w.heap.size + 1) 22 (.slice none 0 0) := (hb2.block _ (by omega)).trans b2'
    have d3 : Boxed w2 (w.heap.size + 1 + 1) 4 (.bool false) := (hb2.block _ (by omega)).trans b3'
    have hXv : NodesIn (fun k => ¬ OfX S w.heap.size k /\ k < w2.heap.size) w2 (.slice pv l.length cv) l := (NodesIn.kept hv (Jg3 hB2 hS)).mono (fun k hk => ⟨Qrl hk (hS k hk), by have := hS k hk; omega⟩)
    refine Jqe (gf := 88) (lb := #[.pointer (some ⟨w1.heap.size + 1, 0, none⟩), .pointer (some ⟨w1.heap.size + 1 + 1, 0, none⟩), .pointer (some ⟨w1.heap.size, 0, none⟩)]) rfl (enters_of Tryz.func88 (by kernel_rfl) rfl)
      (encs := Jkt) (G := Qba (OfX S w.heap.size)) (Kp := KeptBut (OfX S w.heap.size) (w2.heap.size + 2)) (N := (Jdc (l.length + 1) l 0 []).length) (R := Jny (Jdc (l.length + 1) l 0 [])) (fun _ => rfl)
      (fun W' hb' hs' => by
        have hkW : KeptBut (OfX S w.heap.size) w2.heap.size w2 W' := Jcx hb'
        have := Qgz l (.slice pv l.length cv) hlen (OfX S w.heap.size) (l.length + 1) 0 [] (.slice none 0 0) w1.heap.size (w1.heap.size + 1) (w1.heap.size + 1 + 1) W' (by omega) (by omega) (by omega) (by simp; omega) (fun k hk => by have := Qp8 hk; omega)
          (Jvg (by omega)) (Jvg (by omega)) (Jvg (by omega)) (hkW.cell (p := ⟨w1.heap.size, 0, none⟩) (Jvg (by show _ <= w1.heap.size; omega)) q1) (hkW.cell (p := ⟨w1.heap.size + 1, 0, none⟩) (Jvg (by show _ <= w1.heap.size + 1; omega)) q2) (hkW.cell (p := ⟨w1.heap.size + 1 + 1, 0, none⟩) (Jvg (by show _ <= w1.heap.size + 1 + 1; omega)) q3)
          (SliceIn.keptBut hXv hkW) (.inl ⟨none, 0, rfl, rfl, rfl, fun _ => rfl⟩)
        rwa [hs'] at this)
      (fun h h' => h.trans h') (fun U q o o' h1 h2 h3 h4 _ => Jjx U q o o' h2 h3 h4)
      (fun pre U => (∀ x, x ∈ pre -> x.1 ≠ i) /\ Below w.heap.size w U /\ Boxed U w.heap.size 3 (.int .i64 i) /\ Boxed U (w.heap.size + 1) 22 (.slice none 0 0) /\ Boxed U (w.heap.size + 1 + 1) 4 (.bool false))
      (fun cc pre U => cc = .ret /\ Below w.heap.size w U /\ ∃ (pre0 : List Step) (x : Step), pre = pre0 ++ [x] /\ (∀ x, x ∈ pre0 -> x.1 ≠ i) /\ x.1 = i /\ Boxed U (w.heap.size + 1) 22 x.2.1 /\ Boxed U (w.heap.size + 1 + 1) 4 (.bool true) /\ Qba (OfX S w.heap.size) x U)
      ?hI ?hIx ?hG ?h0
      (fun x => { tmps := #[.slice pv l.length cv, .int .i64 i, undef, .pointer (some ⟨w.heap.size, 0, none⟩), .pointer (some ⟨w.heap.size + 1, 0, none⟩), .pointer (some ⟨w.heap.size + 1 + 1, 0, none⟩), .int .i64 x.1, x.2.1, .slice pv l.length cv, .int .i64 (endv l 0), .slice pv l.length cv, .int .i64 l.length, .bool false, .slice pv l.length cv, .func (.func 88) #[] #[.pointer (some ⟨w1.heap.size + 1, 0, none⟩), .pointer (some ⟨w1.heap.size + 1 + 1, 0, none⟩), .pointer (some ⟨w1.heap.size, 0, none⟩)], .int .i64 x.1, x.2.1, undef, undef, undef, undef], defers := [] }) ?assign ?body ?done ?stop
    case hI =>
      exact OwnFrom.and (ownFrom_pure _ _) (OwnFrom.and (ownFrom_below (Nat.le_refl _) (by omega)) (OwnFrom.and (Own.from (boxed_own _ _ _) _) (OwnFrom.and (Own.from (boxed_own _ _ _) _) (Own.from (boxed_own _ _ _) _))))
    case hIx =>
      intro cc
      refine OwnFrom.and (ownFrom_pure _ _) (OwnFrom.and (ownFrom_below (Nat.le_refl _) (by omega)) ?_)
      rintro pre A C row ⟨pre0, x, h1, h2, h3, h4, h5, h6⟩ hg hr
      exact ⟨pre0, x, h1, h2, h3, (Own.from (boxed_own _ _ (fun _ : Unit => x.2.1)) _) () A C row h4 hg hr, (Own.from (boxed_own _ _ (fun _ : Unit => Value.bool true)) _) () A C row h5 hg hr, Jib () A C row h6 hg hr⟩
    case hG => exact fun x => Jib
    case h0 => exact ⟨(fun _ h => by cases h), hB2, d1, d2, d3⟩
    case assign =>
      intro lq x U K hK
      dsimp only [Jkt]
      gi_wp2
      exact hK
    case body =>
      rintro lq pre ⟨xi, xv, xp⟩ U ⟨hn, hBU, e1, e2, e3⟩ hgx hlenN
      obtain ⟨px, cx, hxs⟩ := IntsIn.slice hgx
      dsimp only at hxs
      subst hxs
      have g1 := e1.cell
      by_cases hxi : xi = i
      · have hxb : (xi == i) = true := by simp [hxi]
        have HX := Lib.hid hxi
        clear hxi
        have g2 := e2.cell
        have g3 := e3.cell
        have f2 := e2.frozen
        have f3 := e3.frozen
        gi_wp2
        have k1 : KeptBut (OfX S w.heap.size) (w2.heap.size + 2) U (U.setCell ⟨w.heap.size + 1, 0, none⟩ (.slice px xp.length cx)) := keptBut_setCell U (.inl rfl) _
        have k2 : KeptBut (OfX S w.heap.size) (w2.heap.size + 2) U ((U.setCell ⟨w.heap.size + 1, 0, none⟩ (.slice px xp.length cx)).setCell ⟨w.heap.size + 1 + 1, 0, none⟩ (.bool true)) := k1.trans (keptBut_setCell _ (.inr (.inl rfl)) _)
        refine ⟨((KeepsOthers.setCell _ _ _).trans (KeepsOthers.setCell _ _ _)).from _, k2, rfl, (hBU.setCell (p := ⟨w.heap.size + 1, 0, none⟩) (by show _ <= w.heap.size + 1; omega) _).setCell (p := ⟨w.heap.size + 1 + 1, 0, none⟩) (by show _ <= w.heap.size + 1 + 1; omega) _, pre, (xi, .slice px xp.length cx, xp), rfl, hn, HX.out, ?_, ?_, SliceIn.keptBut hgx k2⟩
        · exact (e2.set _).other (by omega) _
        · exact (e3.other (by omega) _).set _
      · have hxb : (xi == i) = false := by simp [hxi]
        gi_wp2
        refine ⟨KeepsFrom.refl _ _, KeptBut.refl _ _ _, fun y hy => ?_, hBU, e1, e2, e3⟩
        rcases List.mem_append.1 hy with hy | hy
        · exact hn y hy
        · obtain rfl : y = (xi, .slice px xp.length cx, xp) := by simpa using hy
          exact hxi
    case done =>
      rintro D ys U hD hR ⟨hn, hBU, e1, e2, e3⟩ hK
      have g2 := e2.cell
      have g3 := e3.cell
      have f2 := e2.frozen
      have f3 := e3.frozen
      gi_wp2
      have hs1 := (e2.set (.slice none 0 0)).other (B' := w.heap.size + 1 + 1) (by omega) (.bool false)
      have hs2 := (e3.other (B' := w.heap.size + 1) (by omega) (.slice none 0 0)).set (.bool false)
      have hK' := ((KeepsOthers.setCell U ⟨w.heap.size + 1, 0, none⟩ (.slice none 0 0)).trans (KeepsOthers.setCell _ ⟨w.heap.size + 1 + 1, 0, none⟩ (.bool false))).same D _ hK rfl
      refine ⟨by simp, .inl ⟨_, _, rfl, run_takeDeferred hK', ?_⟩⟩
      have HO : ofv l i = none := Qri l i hEH.out ys (by simpa [Jny] using hR) hn
      have hBs := (hBU.setCell (p := ⟨w.heap.size + 1, 0, none⟩) (by show _ <= w.heap.size + 1; omega) (.slice none 0 0)).setCell (p := ⟨w.heap.size + 1 + 1, 0, none⟩) (by show _ <= w.heap.size + 1 + 1; omega) (.bool false)
      exact ⟨_, Jg0 rfl _ _ _ rfl rfl (Jk7 _ _ _ (Jjk hs1 _ (by omega))) (Jmd _ _ _ (Jjk hs2 _ (by omega))), .slice none 0 0, by rw [HO]; rfl, by rw [HO]; exact .inl ⟨none, 0, rfl, rfl, rfl, fun _ => rfl⟩,
        hBs.trans (belowK_b (w := w) (Nat.le_refl _) _ D _ _ (by omega) hK' rfl rfl)⟩
    case stop =>
      rintro D cc ys U hD hR ⟨rfl, hBU, pre0, x, h1, h2, h3, h4, h5, h6⟩ hK
      gi_wp2
      refine ⟨by simp, .inl ⟨_, _, rfl, run_takeDeferred hK, ?_⟩⟩
      have HO : ofv l i = some x.2.2 := Qnv l i hEH.out pre0 x (by rw [<- h1]; simpa [Jny] using hR) h2 h3
      have h6' : Qba (OfX S w.heap.size) x (U.putObj D (.deferred none)) := Jib (B := w.heap.size) () U _ (some D) h6 (grownBy_putObj' U D _) (fun r e => by cases e; exact ⟨by omega, _, hK, rfl⟩)
      exact ⟨_, Jg0 rfl _ _ _ rfl rfl (Jk7 _ _ _ (Jjk h4 _ (by omega))) (Jmd _ _ _ (Jjk h5 _ (by omega))), x.2.1, by rw [HO]; rfl, by rw [HO]; exact IntsIn.mono h6' (fun k hk => Qrk hk),
        hBU.trans (belowK_b (w := w) (Nat.le_refl _) U D _ _ (by omega) hK rfl rfl)⟩
  · have hE' : (endv l 0 != (l.length : Int)) = true := by simp [hE]
    have HO := Lib.hid (Qeq l i hE)
    clear hE
    obtain ⟨pv, cv, hvs⟩ := NodesIn.slice hv
    subst hvs
    gi_wp2_with (fail)
    rw [HW.out]
    refine (callsIn_wide.2 (Jej l _ _ _ hv0 hlen)).mono ?_
    rintro e w1 ⟨rfl, hb1⟩
    have hB1 : Below w.heap.size w w1 := hB0.trans (hb1.mono hB0.size)
    have hz0 : w.heap.size + 2 < W0.heap.size := b3.lt
    have b2' : Boxed w1 (w.heap.size + 1) 22 (.slice none 0 0) := (hb1.block _ (by omega)).trans b2
    have b3' : Boxed w1 (w.heap.size + 1 + 1) 4 (.bool false) := (hb1.block _ (by omega)).trans b3
    have c2 := b2'.cell
    have c3 := b3'.cell
    have f2 := b2'.frozen
    have f3 := b3'.frozen
    gi_wp2_with (fail)
    have hs1 := (b2'.set (.slice none 0 0)).other (B' := w.heap.size + 1 + 1) (by omega) (.bool false)
    have hs2 := (b3'.other (B' := w.heap.size + 1) (by omega) (.slice none 0 0)).set (.bool false)
    exact ⟨_, Jg0 rfl _ _ _ rfl rfl (Jk7 _ _ _ hs1) (Jmd _ _ _ hs2), .slice none 0 0, by rw [HO.out]; rfl, by rw [HO.out]; exact .inl ⟨none, 0, rfl, rfl, rfl, fun _ => rfl⟩,
      (hB1.setCell (p := ⟨w.heap.size + 1, 0, none⟩) (by show _ ≤ w.heap.size + 1; omega) _).setCell (p := ⟨w.heap.size + 1 + 1, 0, none⟩) (by show _ ≤ w.heap.size + 1 + 1; omega) _⟩
end Go.Proofs.YtinnbafplhcnpaaGreat
end
section
namespace Go.Proofs.YtinnbafplhcnpaaGreat
open Go.RowKit
def upV (l : List Nd) (t : Int) : Nat -> Nat -> Int × Int
  | 0, _ => (-1, 0)
  | n + 1, i => match (Jab l i).findIdx? (· == t) with | some k => ((i : Int), (k : Int)) | none => upV l t n (i + 1)
theorem Qqr (l : List Nd) (t : Int) (n i k : Nat) (hk : k < (Jab l i).length) (h : (Jab l i)[k] = t) (hn : ∀ j, (hj : j < k) -> (Jab l i)[j]'(by omega) ≠ t) : upV l t (n + 1) i = ((i : Int), (k : Int)) := by
  have : (Jab l i).findIdx? (· == t) = some k := by
    rw [List.findIdx?_eq_some_iff_getElem]
    exact ⟨hk, by simpa using h, fun j hj => by simpa using hn j hj⟩
  rw [upV, this]
theorem Qmz (l : List Nd) (t : Int) (n i : Nat) (hn : ∀ j, (hj : j < (Jab l i).length) -> (Jab l i)[j] ≠ t) : upV l t (n + 1) i = upV l t n (i + 1) := by
  have : (Jab l i).findIdx? (· == t) = none := by
    rw [List.findIdx?_eq_none_iff]
    intro x hx
    obtain ⟨j, hj, rfl⟩ := List.getElem_of_mem hx
    simpa using hn j hj
  rw [upV, this]
set_option maxHeartbeats 4000000 in
theorem up_any (l : List Nd) (t : Nat) (v : Value) (w : World) (hv : Jbz     w v l) (hl : l.length ≤ 4000000) (ht : t ≤ 4000000) :
    Calls Tryz.prog 61 #[v, .int .i64 t] w fun e w' => e = .returned (.tuple #[.int .i64 (upV l t t 0).1, .int .i64 (upV l t t 0).2]) /\ Below w.heap.size w w' := by
  obtain ⟨pv, cv, hvs⟩ := hv.slice
  subst hvs
  go_enter Tryz.func61, Tryz.ntmps61
  go_wp2
  go_loopw [6] (fun i wr => ∃ k : Nat, i = .int .i64 k /\ k <= t /\ Hid (upV l t t 0 = upV l t (t - k) k) /\ Below w.heap.size w wr) (fun i _ => t - (intOf i).toNat)
  case atStart => exact ⟨0, rfl, Nat.zero_le _, Lib.hid rfl, Below.refl _ _⟩
  case round =>
    obtain ⟨k, rfl, hk, hu, hB⟩ := hrel
    have hsz := hB.size
    by_cases hlt : k < t
    · have hvr := NodesIn.below hv hB
      have hkl := Jbn l k
      go_wp2_with (go_at_call 99; refine (Jg1 l _ _ _ hvr hl).mono ?_; rintro e w2 ⟨q, rfl, hq, hb2⟩; obtain ⟨pq, cq, hqs⟩ := hq.slice; subst hqs)
      obtain ⟨wo, rfl⟩ : ∃ wo : World, wo = wr := ⟨_, rfl⟩
      go_loopw [8] (fun c wi => ∃ j : Nat, c = .int .i64 j /\ j <= (Jab l k).length /\ Hid (∀ i, (hi : i < j) -> ∀ (h : i < (Jab l k).length), (Jab l k)[i] ≠ t) /\ wi = w2) (fun c _ => (Jab l k).length - (intOf c).toNat)
      case atStart => exact ⟨0, rfl, Nat.zero_le _, Lib.hid (fun i hi => by omega), rfl⟩
      case round =>
        obtain ⟨j, rfl, hj, hno, rfl⟩ := hrel
        by_cases hlj : j < (Jab l k).length
        · rcases hq.open with ⟨h0, _⟩ | ⟨bq, oq, cq', hqs, hqp, hqc, hqb, hqx⟩
          · exfalso; rw [h0] at hlj; simp at hlj
          obtain ⟨rfl, rfl⟩ : pq = some ⟨bq, oq, none⟩ /\ cq = cq' := by simpa using hqs
          have gq := hqx j hlj
          clear hqx hqs
          by_cases he : (Jab l k)[j] = t
          · have heb : ((Jab l k)[j] == (t : Int)) = true := by simp [he]
            have HE := Lib.hid he
            clear he
            go_wp2
            go_ret2
            exact ⟨Js2 (by rw [hu.out, show t - k = (t - k - 1) + 1 from by omega, Qqr l t (t - k - 1) k j hlj HE.out (fun i hi => hno.out i hi (by omega))]), hB.trans (hb2.mono hsz)⟩
          · have heb : ((Jab l k)[j] == (t : Int)) = false := by simp [he]
            have HE := Lib.hid he
            clear he
            go_wp2
            go_round
            case rel =>
              refine ⟨j + 1, by go_num, by omega, Lib.hid (fun i hi h => ?_), trivial⟩
              by_cases hij : i = j
              · subst hij; exact HE.out
              · exact hno.out i (by omega) h
            case measure => simp [intOf]; omega
        · go_wp2
          go_round
          case rel => exact ⟨k + 1, by go_num, by omega, Lib.hid (by rw [hu.out, show t - k = (t - (k + 1)) + 1 from by omega, Qmz l t (t - (k + 1)) k (fun i hi => hno.out i (by omega) hi)]), hB.trans (hb2.mono hsz)⟩
          case measure => simp [intOf]; omega
    · go_wp2
      go_ret2
      exact ⟨Js2 (by rw [hu.out, show t - k = 0 from by omega]; rfl), hB⟩
end Go.Proofs.YtinnbafplhcnpaaGreat
end
section
namespace Go.Proofs.YtinnbafplhcnpaaGreat
open Go.RowKit
def Jpm (l : List Nd) : Nat -> Int -> Option (List Int)
  | 0, _ => none
  | f + 1, i => if endv l 0 = l.length /\ 0 <= i /\ i < l.length then (if i = 0 then some [] else (Jpm l f (upV l i i.toNat 0).1).map (· ++ [(upV l i i.toNat 0).2])) else none
theorem Qim (l : List Nd) (t : Int) : ∀ (n i : Nat), (upV l t n i).1 < i + n /\ -1 <= (upV l t n i).1
  | 0, i => by simp only [upV]; omega
  | n + 1, i => by
    have := Qim l t n (i + 1)
    rw [upV]
    split
    · simp only []; omega
    · omega
theorem Jx2 (l : List Nd) (f : Nat) (i : Int) (h : ¬ (endv l 0 = l.length /\ 0 <= i /\ i < l.length)) : Jpm l f i = none := by
  cases f with
  | zero => rfl
  | succ f => rw [Jpm, if_neg h]
theorem Jqw (l : List Nd) (f : Nat) (h : endv l 0 = l.length /\ (0 : Int) <= 0 /\ (0 : Int) < l.length) : Jpm l (f + 1) 0 = some [] := by rw [Jpm, if_pos h, if_pos rfl]
theorem Jqv (l : List Nd) (f : Nat) (i : Int) (h : endv l 0 = l.length /\ 0 <= i /\ i < l.length) (h0 : i ≠ 0) : Jpm l (f + 1) i = (Jpm l f (upV l i i.toNat 0).1).map (· ++ [(upV l i i.toNat 0).2]) := by rw [Jpm, if_pos h, if_neg h0]
set_option maxRecDepth 100000
set_option maxHeartbeats 1000000 in
theorem Qej      (l : List Nd) (v : Value) (hl : l.length ≤ 4000000) (i : Int) (w : World) (hv : Jbz     w v l) (h : ¬ (endv l 0 = l.length ∧ 0 ≤ i ∧ i < l.length)) :
    Calls Tryz.prog 32 #[v, .int .i64 i] w fun e w' => e = .returned (.tuple #[.slice none 0 0, .bool false]) /\ Below w.heap.size w w' := by
  obtain ⟨pv, cv, hvs⟩ := hv.slice
  subst hvs
  by_cases hE : endv l 0 = l.length
  · have hE' : (endv l 0 != (l.length : Int)) = false := by simp [hE]
    have hr : ¬ (0 <= i /\ i < l.length) := fun h2 => h ⟨hE, h2⟩
    clear hE h
    by_cases hn : i < 0
    · clear hr
      go_enter Tryz.func32, Tryz.ntmps32
      go_wp2_with (go_at_call 60; refine (Jcn l _ _ _ hv hl).mono ?_; rintro e w1 ⟨rfl, hb1⟩)
      go_ret2
      exact ⟨rfl, hb1⟩
    · have hn2 : (l.length : Int) <= i := by omega
      clear hr
      go_enter Tryz.func32, Tryz.ntmps32
      go_wp2_with (go_at_call 60; refine (Jcn l _ _ _ hv hl).mono ?_; rintro e w1 ⟨rfl, hb1⟩)
      go_ret2
      exact ⟨rfl, hb1⟩
  · have hE' : (endv l 0 != (l.length : Int)) = true := by simp [hE]
    clear hE h
    go_enter Tryz.func32, Tryz.ntmps32
    go_wp2_with (go_at_call 60; refine (Jcn l _ _ _ hv hl).mono ?_; rintro e w1 ⟨rfl, hb1⟩)
    go_ret2
    exact ⟨rfl, hb1⟩
set_option maxHeartbeats 4000000 in
theorem Qja       (l : List Nd) (v : Value) (hl : l.length ≤ 3000000) : ∀ (f : Nat) (i : Int) (w : World), -1 ≤ i → i + 1 < f → Jbz     w v l →
    Calls Tryz.prog 32 #[v, .int .i64 i] w fun e w' => ∃ u, e = .returned (.tuple #[u, .bool (Jpm l f i).isSome]) /\ IntsIn (fun k => w.heap.size <= k /\ k < w'.heap.size) w' u ((Jpm l f i).getD []) /\ ((((Jpm l f i).getD []).length : Int) <= i + 1) /\ Below w.heap.size w w' := by
  obtain ⟨i0, hi0, hz0, hz1, hz2⟩ := info_parts Jtj
  intro f
  induction f with
  | zero => intro i w h1 h2; omega
  | succ f ih =>
    intro i w hi1 hif hv
    by_cases hr : endv l 0 = l.length /\ 0 <= i /\ i < l.length
    · have hE' : (endv l 0 != (l.length : Int)) = false := by simp [hr.1]
      have hr2 : ¬ i < 0 := by omega
      have hr3 : ¬ (l.length : Int) <= i := by omega
      by_cases h0 : i = 0
      · subst h0
        have HC := Lib.hid (Jqw l f hr)
        have hne : ¬ l = [] := by rintro rfl; simp at hr
        have hned : decide (l = []) = false := by simp [hne]
        clear hr
        obtain ⟨pv, cv, hvs⟩ := hv.slice
        subst hvs
        go_enter Tryz.func32, Tryz.ntmps32
        go_wp2_with (go_at_call 60; refine (Jcn l _ _ _ hv (by omega)).mono ?_; rintro e w1 ⟨rfl, hb1⟩)
        go_ret2
        exact ⟨.slice none 0 0, by rw [HC.out]; rfl, by rw [HC.out]; exact .inl ⟨none, 0, rfl, rfl, rfl, fun _ => rfl⟩, by rw [HC.out]; simp, hb1⟩
      · have h0b : (i == 0) = false := by simp [h0]
        have HC := Lib.hid (Jqv l f i hr h0)
        obtain ⟨t, rfl⟩ := Int.eq_ofNat_of_zero_le hr.2.1
        have htl : t < l.length := by omega
        have hup := Qim l t t 0
        clear hr h0
        obtain ⟨pv, cv, hvs⟩ := hv.slice
        subst hvs
        rw [Int.toNat_natCast] at HC
        obtain ⟨x, hx⟩ : ∃ x, (upV l t t 0).1 = x := ⟨_, rfl⟩
        obtain ⟨y, hy⟩ : ∃ y, (upV l t t 0).2 = y := ⟨_, rfl⟩
        have hU := up_any l t (.slice pv l.length cv)
        rw [hx] at hup HC hU
        rw [hy] at HC hU
        clear hx hy
        have HU := Lib.hid hU
        clear hU
        cases hc : Jpm l f x with
        | none =>
          rw [hc] at HC
          have hih := fun w h => ih x w hup.2 (by omega) h
          rw [hc] at hih
          have HI := Lib.hid hih
          clear hih hc ih
          go_enter Tryz.func32, Tryz.ntmps32
          go_wp2_with (first
            | (go_at_call 60; refine (Jcn l _ _ _ hv (by omega)).mono ?_; rintro e w1 ⟨rfl, hb1⟩; have hv1 := NodesIn.below hv hb1)
            | (go_at_call 61; refine (HU.out _ hv1 (by omega) (by omega)).mono ?_; rintro e w2 ⟨rfl, hb2⟩; have hv2 := NodesIn.below hv1 hb2)
            | (go_at_call 32; refine (HI.out _ hv2).mono ?_; rintro e w3 ⟨u3, rfl, hu3, hn3, hb3⟩))
          go_ret2
          exact ⟨.slice none 0 0, by rw [HC.out]; rfl, by rw [HC.out]; exact .inl ⟨none, 0, rfl, rfl, rfl, fun _ => rfl⟩, by rw [HC.out]; simp; omega, hb1.trans ((hb2.mono hb1.size).trans (hb3.mono (Nat.le_trans hb1.size hb2.size)))⟩
        | some q =>
          rw [hc] at HC
          have hih := fun w h => ih x w hup.2 (by omega) h
          rw [hc] at hih
          have HI := Lib.hid hih
          clear hih hc ih
          go_enter Tryz.func32, Tryz.ntmps32
          go_wp2_with (first
            | (go_at_call 60; refine (Jcn l _ _ _ hv (by omega)).mono ?_; rintro e w1 ⟨rfl, hb1⟩; have hv1 := NodesIn.below hv hb1)
            | (go_at_call 61; refine (HU.out _ hv1 (by omega) (by omega)).mono ?_; rintro e w2 ⟨rfl, hb2⟩; have hv2 := NodesIn.below hv1 hb2)
            | (go_at_call 32; refine (HI.out _ hv2).mono ?_; rintro e w3 ⟨u3, rfl, hu3, hn3, hb3⟩; have hs1 := hb1.size; have hs2 := hb2.size; have hs3 := hb3.size; have hu3' := SliceIn.kept hu3 (Jg3 (below_alloc1 w3 (.cells #[] 3)) (fun k hk => hk.2)); dsimp only [Option.getD_some] at hu3' hn3)
            | (at_builtin; refine Jek rfl (.tmp 41) (.tmp 42) 22 rfl w.heap.size 3 i0 (.int .i64 0) 1 8 Tryz.underlying22 hi0 hz0 hz1 hz2 rfl (by decide) _ _ _ rfl (Je9 w3 w.heap.size 3 1 (by omega)) _ q.length _ rfl hu3' (by simp) (Qe0 q) (by unfold maxLen; omega) (by omega) (by simp; omega) ?_; intro v4 w4 hown4 hgrow4; have hs4 := hgrow4.size; rw [World.size_alloc] at hs4)
            | (at_builtin; refine Jek              rfl (.tmp 43) (.tmp 45) 22 rfl w.heap.size 3 i0 (.int .i64 0) 1 8 Tryz.underlying22 hi0 hz0 hz1 hz2 rfl (by decide) _ _ _ rfl (hown4.alloc _) _ 1 [.int .i64 y] rfl (Joe         w4 (.int .i64 y) 3) (by simp) (by simp [Value.oneCell']) (by unfold maxLen; omega) (by omega) (by simp; omega) ?_; intro v5 w5 hown5 hgrow5))
          go_ret2
          have hown5' : w5.ownsRow w.heap.size 3 1 v5 (q ++ [y]).length ((q ++ [y]).map (Value.int .i64)) := by simpa using hown5
          have hB3 : Below w.heap.size w w3 := hb1.trans ((hb2.mono hs1).trans (hb3.mono (Nat.le_trans hs1 hs2)))
          have hB4 : Below w.heap.size w w4 := (hB3.alloc (by omega) _).grown hgrow4 (by simp; omega) (fun j hj => ((Je9 w3 w.heap.size 3 1 (by omega)).lt j hj).1)
          have hB5 : Below w.heap.size w w5 := (hB4.alloc (by omega) _).grown hgrow5 (by simp; omega) (fun j hj => (hown4.lt j hj).1)
          exact ⟨v5, by rw [HC.out]; rfl, by rw [HC.out]; exact Jhi hown5', by rw [HC.out]; simp; omega, hB5⟩
    · have HC := Lib.hid (Jx2 l (f + 1) i hr)
      refine (Qej l v (by omega) i w hv hr).mono ?_
      rintro e w' ⟨rfl, hb⟩
      exact ⟨.slice none 0 0, by rw [HC.out]; rfl, by rw [HC.out]; exact .inl ⟨none, 0, rfl, rfl, rfl, fun _ => rfl⟩, by rw [HC.out]; simp; omega, hb⟩
end Go.Proofs.YtinnbafplhcnpaaGreat
end
section
namespace Go.Proofs.YtinnbafplhcnpaaGreat
theorem Qd6      (l : List Nd) (t : Int) : ∀ (n i : Nat), (∃ j c : Nat, i ≤ j ∧ j < i + n ∧ ∃ hc : c < (Jab   l j).length, (Jab   l j)[c] = t) →
    ∃ j c : Nat, i <= j /\ j < i + n /\ upV l t n i = ((j : Int), (c : Int)) /\ ∃ hc : c < (Jab l j).length, (Jab l j)[c] = t
  | 0, i, ⟨j, c, h1, h2, _⟩ => by omega
  | n + 1, i, ⟨j, c, h1, h2, hc, he⟩ => by
    cases hx : (Jab l i).findIdx? (· == t) with
    | some k =>
      obtain ⟨hk, hk2, _⟩ := List.findIdx?_eq_some_iff_getElem.1 hx
      exact ⟨i, k, Nat.le_refl _, by omega, by rw [upV, hx], hk, by simpa using hk2⟩
    | none =>
      have hno := List.findIdx?_eq_none_iff.1 hx
      have hji : j ≠ i := by
        rintro rfl
        have := hno _ (List.getElem_mem hc)
        rw [he] at this
        simp at this
      obtain ⟨j', c', g1, g2, g3, g4⟩ := Qd6 l t n (i + 1) ⟨j, c, by omega, by omega, hc, he⟩
      exact ⟨j', c', by omega, by omega, by rw [upV, hx]; exact g3, g4⟩
theorem Jtw (l : List Nd) : ∀ (f : Nat) (i : Int), -1 <= i -> i + 1 < f -> Jpm l f i = ofv l i
  | 0, i, h1, h2 => by omega
  | f + 1, i, h1, h2 => by
    by_cases hr : endv l 0 = l.length /\ 0 <= i /\ i < l.length
    · obtain ⟨hw, hr1, hr2⟩ := hr
      by_cases h0 : i = 0
      · subst h0
        rw [Jqw l f ⟨hw, hr1, hr2⟩, Jxx hw (i := 0) (p := []) (by omega) rfl]
      · obtain ⟨t, rfl⟩ := Int.eq_ofNat_of_zero_le hr1
        obtain ⟨j, n, g1, g2, g3⟩ := Qg3 hw (i := t) (by omega) hr2
        obtain ⟨j', c', e1, e2, e3, e4, e5⟩ := Qd6 l t t 0 ⟨j, n, by omega, by omega, g2, g3⟩
        rw [Jqv l f t ⟨hw, hr1, hr2⟩ h0, Int.toNat_natCast, e3]
        simp only []
        rw [Jtw l f j' (by omega) (by omega)]
        obtain ⟨p, hp⟩ := Option.isSome_iff_exists.1 ((Jec hw (j' : Int)).2 ⟨by omega, by omega⟩)
        have := Qrh hw hp c' e4
        rw [e5] at this
        rw [hp, this]; rfl
    · rw [Jx2 l _ i hr]
      by_cases hw : endv l 0 = l.length
      · cases ho : ofv l i with
        | none => rfl
        | some p => exact absurd ⟨hw, (Jec hw i).1 (by rw [ho]; rfl)⟩ hr
      · rw [Qeq l i hw]
end Go.Proofs.YtinnbafplhcnpaaGreat
end
section
namespace Go.Proofs.YtinnbafplhcnpaaGreat
open Go.RowKit
set_option linter.unusedVariables false
set_option linter.unusedSimpArgs false
set_option maxRecDepth 100000
def Jp1 : List D -> Option D := F2 nodesT intT fun l i => if l.length <= 3000000 then some (.tup [Jag ((ofv l i).getD []), bD (ofv l i).isSome]) else none
theorem Qeh {S : Nat -> Prop} {w : World} {u : Value} {p : List Int} {b : Bool} (hu : IntsIn S w u p) : Rep S [] w (.tuple #[u, .bool b]) (.tup [Jag p, bD b]) := by
  simp only [Rep]
  exact ⟨[u, .bool b], rfl, RepA.cons (Jkf hu) (RepA.cons (by simp only [Rep]) RepA.nil)⟩
theorem C_Of11 : CallOk Tryz.prog 21 Jp1 := by
  refine ⟨⟨_, Tryz.func21, by decide, rfl⟩, fun ds d hF S vs W hS hv => ?_⟩
  unfold Jp1 F2 at hF
  split at hF
  · rename_i x0 x1
    obtain ⟨l, h0, hF⟩ := Option.bind_eq_some_iff.1 hF
    obtain ⟨i, h1, hF⟩ := Option.bind_eq_some_iff.1 hF
    simp only at hF
    split at hF
    case isFalse => cases hF
    rename_i G
    cases hF
    simp only [RepA] at hv
    obtain ⟨v_l, t0, rfl, r0, ⟨v_i, t1, rfl, r1, rfl⟩⟩ := hv
    have h_l : NodesIn S W v_l l := Jb9 h0 r0
    obtain rfl := Jfs h1 r1
    refine (Of_in l i v_l W S hS h_l (by omega)).mono ?_
    rintro e w1 ⟨u, rfl, hu, hb⟩
    exact ⟨_, rfl, Qeh hu, hb⟩
  · cases hF
theorem Qnk      (l : List Nd) (v : Value) (hl : l.length ≤ 3000000) (i : Int) (w : World) (hv : Jbz     w v l) :
    Calls Tryz.prog 32 #[v, .int .i64 i] w fun e w' => ∃ u, e = .returned (.tuple #[u, .bool (ofv l i).isSome]) /\ IntsIn (fun k => w.heap.size <= k /\ k < w'.heap.size) w' u ((ofv l i).getD []) /\ Below w.heap.size w w' := by
  by_cases hi : -1 <= i
  · have h := Qja l v hl (i + 2).toNat i w hi (by omega) hv
    rw [Jtw l (i + 2).toNat i hi (by omega)] at h
    exact h.mono fun e w' ⟨u, h1, h2, _, h3⟩ => ⟨u, h1, h2, h3⟩
  · have ho : ofv l i = none := by
      by_cases hw : endv l 0 = l.length
      · cases hc : ofv l i with
        | none => rfl
        | some p =>
          have := (Jec hw i).1 (by rw [hc]; rfl)
          omega
      · exact Qeq l i hw
    have h := Qej l v (by omega) i w hv (by omega)
    rw [ho]
    exact h.mono fun e w' ⟨h1, h3⟩ => ⟨.slice none 0 0, h1, .inl ⟨none, 0, rfl, rfl, rfl, fun _ => rfl⟩, h3⟩
theorem Qmp : CallOk Tryz.prog 32 Jp1 := by
  refine ⟨⟨_, Tryz.func32, by decide, rfl⟩, fun ds d hF S vs W hS hv => ?_⟩
  unfold Jp1 F2 at hF
  split at hF
  · rename_i x0 x1
    obtain ⟨l, h0, hF⟩ := Option.bind_eq_some_iff.1 hF
    obtain ⟨i, h1, hF⟩ := Option.bind_eq_some_iff.1 hF
    simp only at hF
    split at hF
    case isFalse => cases hF
    rename_i G
    cases hF
    simp only [RepA] at hv
    obtain ⟨v_l, t0, rfl, r0, ⟨v_i, t1, rfl, r1, rfl⟩⟩ := hv
    have h_l : Jbz W v_l l := (Jb9 h0 r0).mono hS
    obtain rfl := Jfs h1 r1
    refine (Qnk l v_l (by omega) i W h_l).mono ?_
    rintro e w1 ⟨u, rfl, hu, hb⟩
    exact ⟨_, rfl, Qeh (hu.mono fun k hk => .inr hk), hb⟩
  · cases hF
theorem Qjm (l : List Nd) (i : Int) (h : l.length <= 3000000) (H : Heap) : Jae Jp1 [Jaf l, iD i] H = some (.tup [Jag ((ofv l i).getD []), bD (ofv l i).isSome], H) := by
  rw [Jar _ _ _ rfl]
  have : Jp1 [Jaf l, iD i] = _ := Jht (A := nodesT) (B := intT) _ l i
  rw [this, if_pos h]; rfl
def Qoi (P : Program) : List Entry := (21, true, Jae Jp1) :: (32, true, Jae Jp1) :: (19, true, Jae Jhe) :: (31, true, Jae Jhe) :: (29, true, Jae Jun) :: (28, true, Jae Jhy) :: (18, true, Jae Jhy) :: (11, true, Jae Qbh) :: fs13n P
theorem Jxj : ∀ p ∈ Qoi Tryz.prog, Jbu Tryz.prog p := Jac (Jal C_Of11) <| Jac (Jal Qmp) <| Jac (Jal Qp4) <| Jac (Jal Qd1) <| Jac (Jal C_Of9) <| Jac (Jal Qmj) <| Jac (Jal Jwd) <| Jac (Jal C_Few) <| Qoj
def T14a (P : Program) : Tab := ⟨Qoi P, noYl⟩
theorem Jyg : TabOk Tryz.prog (T14a Tryz.prog) := Jb4 Jxj
end Go.Proofs.YtinnbafplhcnpaaGreat
end
section
namespace Go.Proofs.YtinnbafplhcnpaaGreat
open Go.RowKit
set_option linter.unusedVariables false
set_option maxRecDepth 100000
def Jfu : List Nat := []
theorem Jog (n : Nat) (x0 : D) (h : Heap) : Jap Tryz.prog (T14a Tryz.prog) Jfu n Tryz.f96 [x0] h =
(thnH (boxH 55 x0 h) fun y0 h1 =>
some ((.clo (.func 126) [] [y0]), h1)) := by kernel_rfl
def Jfb : List Nat := [0, 3, 5, 6, 7]
theorem Jwo (n : Nat) (x0 x1 : D) (h : Heap) : Jap Tryz.prog (T14a Tryz.prog) Jfb n Tryz.f23 [x0, x1] h =
(thnH (boxH 34 x1 h) fun y0 h1 =>
thn (lenH .sl x0) fun y2 =>
Jdl (Jds Tryz.prog (T14a Tryz.prog) Jfb n Tryz.f23 0 [x0, y0, (iD 0), y2, (iD (-1))] h1) (fun j3 s4 h5 =>
Jew j3 0
(some ((s4.getD 4 .undef), h5))
(none)) (fun s4 h5 =>
some (.undef, h5))) := by kernel_rfl
theorem Je1 (n : Nat) (s0 s1 s2 s3 s4 : D) (h : Heap) : Jdu Tryz.prog (T14a Tryz.prog) Jfb n Tryz.f23 0 [s0, s1, s2, s3, s4] h =
(thn (binK .int .lss s2 s3) fun y0 =>
Jah y0
(thn (binK .int .sub s3 s2) fun y1 =>
thn (binK .int .quo y1 (iD 2)) fun y2 =>
thn (binK .int .add s2 y2) fun y3 =>
thn (idxH 3 s0 y3) fun y4 =>
thn (Jad (some 3) h y4) fun y5 =>
thn (Jad (some 3) h s1) fun y6 =>
thnH (Jae Jg7 [y5, y6] h) fun y7 h8 =>
thn (binK .int .eql y7 (iD 0)) fun y9 =>
Jah y9
(some ((.exit 0), [s0, s1, s2, s3, y3], h8))
(thn (binK .int .lss y7 (iD 0)) fun y10 =>
Jah y10
(thn (binK .int .add y3 (iD 1)) fun y11 =>
some (.normal, [s0, s1, y11, s3, s4], h8))
(some (.normal, [s0, s1, s2, y3, s4], h8))))
(some ((.exit 0), [s0, s1, s2, s3, s4], h))) := by kernel_rfl
def Jiy : List Nat := []
theorem Joh (n : Nat) (x0 x1 : D) (h : Heap) : Jap Tryz.prog (T14a Tryz.prog) Jiy n Tryz.f36 [x0, x1] h =
(thnH (boxH 25 x0 h) fun y0 h1 =>
thnH (boxH 34 x1 h1) fun y2 h3 =>
thn (Jaa 2 y0) fun y4 =>
thn (Jad none h3 y4) fun y5 =>
thn (Jaa 0 y2) fun y6 =>
thn (Jad none h3 y6) fun y7 =>
thnH (Jae Jhv [y5, y7] h3) fun y8 h9 =>
thn (Jad (some 3) h9 y0) fun y10 =>
thnH (Jae Jhe [y10] h9) fun y11 h12 =>
thn (binK .int .eql y11 (iD 0)) fun y13 =>
Jah y13
(thn (binK .int .geq y8 (iD 0)) fun y14 =>
Jah y14
(thn (Jaa 2 y0) fun y15 =>
thn (Jad none h12 y15) fun y16 =>
thn (Jaa 1 y2) fun y17 =>
thn (Jad none h12 y17) fun y18 =>
thn (Jaa 2 y2) fun y19 =>
thn (Jad none h12 y19) fun y20 =>
thnH (Jae Jp3 [y16, y8, y18, y20] h12) fun y21 h22 =>
some (y21, h22))
(some ((bD false), h12)))
(some ((bD false), h12))) := by kernel_rfl
def Jdi : List Nat := [0, 2, 3]
theorem Jff (n : Nat) (x0 : D) (h : Heap) : Jap Tryz.prog (T14a Tryz.prog) Jdi n Tryz.f15 [x0] h =
(thn (lenH .sl x0) fun y0 =>
thn (binK .int .gtr y0 (iD 300)) fun y1 =>
Jah y1
(some ((bD false), h))
(Jdl (Jds Tryz.prog (T14a Tryz.prog) Jdi n Tryz.f15 0 [x0, (bD false), (iD 0)] h) (fun j2 s3 h4 =>
Jew j2 0
(some ((bD true), h4))
(none)) (fun s3 h4 =>
some ((s3.getD 1 .undef), h4)))) := by kernel_rfl
theorem Jer (n : Nat) (s0 s1 s2 : D) (h : Heap) : Jdu Tryz.prog (T14a Tryz.prog) Jdi n Tryz.f15 0 [s0, s1, s2] h =
(thn (lenH .sl s0) fun y0 =>
thn (binK .int .lss s2 y0) fun y1 =>
Jah y1
(thn (idxH 3 s0 s2) fun y2 =>
thn (Jaa 0 y2) fun y3 =>
thn (Jad none h y3) fun y4 =>
thn (lenH .sl y4) fun y5 =>
thn (binK .int .gtr y5 (iD 60)) fun y6 =>
Jah y6
(some (.ret, [s0, (bD false), s2], h))
(thn (binK .int .add s2 (iD 1)) fun y7 =>
some (.normal, [s0, s1, y7], h)))
(some ((.exit 0), [s0, s1, s2], h))) := by kernel_rfl
end Go.Proofs.YtinnbafplhcnpaaGreat
end
section
namespace Go.Proofs.YtinnbafplhcnpaaGreat
open Go.RowKit
set_option linter.unusedVariables false
set_option linter.unusedSimpArgs false
set_option maxRecDepth 100000
def Qbc (P : Program) : List D -> Heap -> Option (D × Heap) := Jgr P (T14a P) Jfu 0 96
theorem Ql4 (ds : List D) (H : Heap) : Qbc Tryz.prog ds H = Jap Tryz.prog (T14a Tryz.prog) Jfu 0 Tryz.f96 ds H := Jct Tryz.func96 ds H
theorem C_each : HCallOk Tryz.prog 96 (Qbc Tryz.prog) := Jdf Jyg mixed Tryz.func96 (by kernel_rfl) (by decide)
def Qkn (P : Program) : List Entry := (96, false, Qbc P) :: Qoi P
theorem Jr7 : ∀ p ∈ Qkn Tryz.prog, Jbu Tryz.prog p := Jac (Jcg C_each) <| Jxj
def T14y (P : Program) (Y : Nat -> List D -> Heap -> Option (D × Heap)) : Tab := ⟨Qkn P, Y⟩
theorem Qs7 (Y : Nat -> List D -> Heap -> Option (D × Heap)) (hY : YOk Tryz.prog Y) : TabOk Tryz.prog (T14y Tryz.prog Y) := ⟨Jr7, hY⟩
end Go.Proofs.YtinnbafplhcnpaaGreat
end
section
namespace Go.Proofs.YtinnbafplhcnpaaGreat
open Go.RowKit
set_option linter.unusedVariables false
set_option maxRecDepth 100000
variable (Y : Nat -> List D -> Heap -> Option (D × Heap))
def Jbm : List Nat := [0, 1, 4, 13, 14, 33, 34, 35]
theorem Jlv (n : Nat) (x0 x1 : D) (h : Heap) : Jap Tryz.prog (T14y Tryz.prog Y) Jbm n Tryz.f126 [x0, x1] h =
(thn (Jad none h x1) fun y0 =>
thn (nilD y0) fun y1 =>
thn (Jaa 0 y1) fun y2 =>
thn (Jaa 2 y2) fun y3 =>
thn (Jad none h y3) fun y4 =>
thn (lenH .sl y4) fun y5 =>
Jdl (Jds Tryz.prog (T14y Tryz.prog Y) Jbm n Tryz.f126 0 [x0, x1, .undef, y5, (iD 0), .undef, .undef, .undef] h) (fun j6 s7 h8 =>
Jew j6 0
(some (.tup [], h8))
(none)) (fun s7 h8 =>
some (.tup [], h8))) := by kernel_rfl
theorem Jf5 (n : Nat) (s0 s1 s2 s3 s4 s5 s6 s7 : D) (h : Heap) : Jdu Tryz.prog (T14y Tryz.prog Y) Jbm n Tryz.f126 0 [s0, s1, s2, s3, s4, s5, s6, s7] h =
(thn (binK .int .lss s4 s3) fun y0 =>
Jah y0
(thn (Jad none h s1) fun y1 =>
thn (nilD y1) fun y2 =>
thn (Jaa 0 y2) fun y3 =>
thn (Jaa 2 y3) fun y4 =>
thn (Jad none h y4) fun y5 =>
thnH (Jae Jp1 [y5, s4] h) fun y6 h7 =>
thn (Jat y6 0) fun y8 =>
thn (Jat y6 1) fun y9 =>
thn (Jad none h7 s1) fun y10 =>
thn (nilD y10) fun y11 =>
thn (Jaa 0 y11) fun y12 =>
thn (Jaa 2 y12) fun y13 =>
thn (Jad none h7 y13) fun y14 =>
thnH (Jc8 Jks [y14, s4] h7) fun y15 h16 =>
thn (lenH .sl y15) fun y17 =>
Jdl (Jds Tryz.prog (T14y Tryz.prog Y) Jbm n Tryz.f126 1 [s0, s1, y8, s3, s4, y15, y17, (iD 0)] h16) (fun j18 s19 h20 =>
Jew j18 2
(thn (binK .int .add (s19.getD 4 .undef) (iD 1)) fun y21 =>
some (.normal, [(s19.getD 0 .undef), (s19.getD 1 .undef), (s19.getD 2 .undef), (s19.getD 3 .undef), y21, (s19.getD 5 .undef), (s19.getD 6 .undef), (s19.getD 7 .undef)], h20))
(Jew j18 1
(thn (binK .int .add (s19.getD 4 .undef) (iD 1)) fun y22 =>
some (.normal, [(s19.getD 0 .undef), (s19.getD 1 .undef), (s19.getD 2 .undef), (s19.getD 3 .undef), y22, (s19.getD 5 .undef), (s19.getD 6 .undef), (s19.getD 7 .undef)], h20))
(some ((.exit j18), [(s19.getD 0 .undef), (s19.getD 1 .undef), (s19.getD 2 .undef), (s19.getD 3 .undef), (s19.getD 4 .undef), (s19.getD 5 .undef), (s19.getD 6 .undef), (s19.getD 7 .undef)], h20)))) (fun s19 h20 =>
some (.ret, [(s19.getD 0 .undef), (s19.getD 1 .undef), (s19.getD 2 .undef), (s19.getD 3 .undef), (s19.getD 4 .undef), (s19.getD 5 .undef), (s19.getD 6 .undef), (s19.getD 7 .undef)], h20)))
(some ((.exit 0), [s0, s1, s2, s3, s4, s5, s6, s7], h))) := by kernel_rfl
theorem Jf4 (n : Nat) (s0 s1 s2 s3 s4 s5 s6 s7 : D) (h : Heap) : Jdu Tryz.prog (T14y Tryz.prog Y) Jbm n Tryz.f126 1 [s0, s1, s2, s3, s4, s5, s6, s7] h =
(thn (binK .int .lss s7 s6) fun y0 =>
Jah y0
(thn (idxH 3 s5 s7) fun y1 =>
thn (Jad (some 3) h y1) fun y2 =>
thnH (Jaz 34 [(.v (.slice none 0 0)), (iD 0), (iD 0)] h) fun y3 h4 =>
thnH (setH 3 y3 y2 h4) fun y5 h6 =>
thnH (Jd3 3 1 (.v (.slice none 0 0)) s2 h6) fun y7 h8 =>
thn (Jaa 0 y3) fun y9 =>
thnH (setH 1 y9 y7 h8) fun y10 h11 =>
thn (Jad (some 3) h11 y3) fun y12 =>
thnH (Jdq (T14y Tryz.prog Y) s0 [y12] h11) fun y13 h14 =>
thn (notD y13) fun y15 =>
Jah y15
(some (.ret, [s0, s1, s2, s3, s4, s5, s6, s7], h14))
(thn (binK .int .add s7 (iD 1)) fun y16 =>
some (.normal, [s0, s1, s2, s3, s4, s5, s6, y16], h14)))
(some ((.exit 2), [s0, s1, s2, s3, s4, s5, s6, s7], h))) := by kernel_rfl
end Go.Proofs.YtinnbafplhcnpaaGreat
end
section
namespace Go.Proofs.YtinnbafplhcnpaaGreat
open Go.RowKit
set_option linter.unusedVariables false
set_option linter.unusedSimpArgs false
set_option maxRecDepth 100000
def Jug (P : Program) (Y : Nat -> List D -> Heap -> Option (D × Heap)) : List D -> Heap -> Option (D × Heap) := Jgr P (T14y P Y) Jbm 300 126
theorem Qib (Y : Nat -> List D -> Heap -> Option (D × Heap)) (ds : List D) (H : Heap) : Jug Tryz.prog Y ds H = Jap Tryz.prog (T14y Tryz.prog Y) Jbm 300 Tryz.f126 ds H := Jct Tryz.func126 ds H
theorem Qt0 (Y : Nat -> List D -> Heap -> Option (D × Heap)) (hY : YOk Tryz.prog Y) : HCallOk Tryz.prog 126 (Jug Tryz.prog Y) := Jdf (Qs7 Y hY) mixed Tryz.func126 (by kernel_rfl) (by decide)
def T14f (P : Program) (Y : Nat -> List D -> Heap -> Option (D × Heap)) : Tab := ⟨(126, false, Jug P Y) :: Qkn P, Y⟩
theorem Qlq (Y : Nat -> List D -> Heap -> Option (D × Heap)) (hY : YOk Tryz.prog Y) : TabOk Tryz.prog (T14f Tryz.prog Y) := ⟨Jac (Jcg (Qt0 Y hY)) Jr7, hY⟩
def Y14 (P : Program) : Nat -> List D -> Heap -> Option (D × Heap) := Yn P (T14f P) 0 1
theorem Y14_ok : YOk Tryz.prog (Y14 Tryz.prog) := Qs6 Qlq mixed 0 1
end Go.Proofs.YtinnbafplhcnpaaGreat
end
section
namespace Go.Proofs.YtinnbafplhcnpaaGreat
open Go.RowKit
set_option linter.unusedVariables false
set_option maxRecDepth 100000
variable (Y : Nat -> List D -> Heap -> Option (D × Heap))
def Jb5 : List Nat := [1]
theorem Jof (n : Nat) (x0 : D) (h : Heap) : Jap Tryz.prog (T14f Tryz.prog Y) Jb5 n Tryz.f56 [x0] h =
(thnH (boxH 55 x0 h) fun y0 h1 =>
thn (Jad none h1 y0) fun y2 =>
thnH ((Qbc Tryz.prog) [y2] h1) fun y3 h4 =>
Jmh (rangeS (T14f Tryz.prog Y) y3 [5] (Jli Tryz.f56 0) (Jje Tryz.f56 0) 16 Jb5 [y0] h4) (fun h6 =>
some (.tup [], h6)) (fun l5 h6 =>
Jew l5 0
(some (.tup [], h6))
(none)) (fun h6 =>
some (.tup [], h6))) := by kernel_rfl
theorem Jl9 (n id : Nat) (s0 : D) (a0 : D) (h : Heap) : Jvd Tryz.prog (T14f Tryz.prog Y) n id [5] (Jli Tryz.f56 0) (Jje Tryz.f56 0) 16 Jb5 [s0] [a0] h =
(thnH (Jaz 34 [(.v (.slice none 0 0)), (iD 0), (iD 0)] h) fun y0 h1 =>
thnH (setH 3 y0 a0 h1) fun y2 h3 =>
Jx7 id h3 fun h4 =>
thn (Jad none h4 s0) fun y5 =>
thn (Jad none h4 s0) fun y6 =>
thn (nilD y6) fun y7 =>
thn (Jaa 6 y7) fun y8 =>
thn (Jad none h4 y8) fun y9 =>
thn (Jad (some 3) h4 y0) fun y10 =>
thnH (rowH 34 3 1 [(.v (.slice none 0 0)), (iD 0), (iD 0)] [(0, y10)] h4) fun y11 h12 =>
thnH (Jd3 34 3 y9 y11 h12) fun y13 h14 =>
thn (nilD y5) fun y15 =>
thn (Jaa 6 y15) fun y16 =>
thnH (setH 1 y16 y13 h14) fun y17 h18 =>
Jmt s0 y9
(endR id .normal h18)) := by kernel_rfl
end Go.Proofs.YtinnbafplhcnpaaGreat
end
section
namespace Go.Proofs.YtinnbafplhcnpaaGreat
open Go.RowKit
set_option linter.unusedVariables false
set_option linter.unusedSimpArgs false
def CellsOf (e : TypeId) (H : Heap) (B : Nat) : List D -> List Dl -> Prop
  | [], [] => True
  | pd :: o :: n :: r, x :: ls => (Buf e 1 H B pd x.path.length (Jbg x.path) /\ o = iD x.op /\ n = iD x.n) /\ CellsOf e H B r ls
  | _, _ => False
theorem CellsOf.nil (e : TypeId) (H : Heap) (B : Nat) : CellsOf e H B [] [] := trivial
theorem CellsOf.len {e : TypeId} {H : Heap} {B : Nat} : ∀ {cs : List D} {ls : List Dl}, CellsOf e H B cs ls -> cs.length = ls.length * 3
  | [], [], _ => rfl
  | pd :: o :: n :: r, x :: ls, h => by
    have := CellsOf.len h.2
    simp only [List.length_cons]
    omega
  | [], _ :: _, h => h.elim
  | [_], _, h => by cases h
  | [_, _], _, h => by cases h
  | _ :: _ :: _ :: _, [], h => h.elim
theorem CellsOf.keep {e : TypeId} {H H' : Heap} {B : Nat} (k : ∀ (r : Nat) (l : List Int), H[r]? = some (.cells e 1 (Jbg l)) -> H'[r]? = H[r]?) : ∀ {cs : List D} {ls : List Dl}, CellsOf e H B cs ls -> CellsOf e H' B cs ls
  | [], [], _ => trivial
  | pd :: o :: n :: r, x :: ls, h => by
    refine ⟨⟨?_, h.1.2⟩, CellsOf.keep k h.2⟩
    rcases h.1.1 with q | ⟨q, q1, q2, q3, q4⟩
    · exact .inl q
    · exact .inr ⟨q, q1, q2, (k q _ q3).trans q3, q4⟩
  | [], _ :: _, h => h.elim
  | [_], _, h => by cases h
  | [_, _], _, h => by cases h
  | _ :: _ :: _ :: _, [], h => h.elim
theorem CellsOf.app {e : TypeId} {H : Heap} {B : Nat} {pd : D} {x : Dl} (hx : Buf e 1 H B pd x.path.length (Jbg x.path)) : ∀ {cs : List D} {ls : List Dl}, CellsOf e H B cs ls -> CellsOf e H B (cs ++ [pd, iD x.op, iD x.n]) (ls ++ [x])
  | [], [], _ => ⟨⟨hx, rfl, rfl⟩, trivial⟩
  | pd' :: o :: n :: r, y :: ls, h => ⟨h.1, CellsOf.app hx h.2⟩
  | [], _ :: _, h => h.elim
  | [_], _, h => by cases h
  | [_, _], _, h => by cases h
  | _ :: _ :: _ :: _, [], h => h.elim
theorem Jtu (H : Heap) (n id k : Nat) (t : TypeId) (sz : Nat) (cs : List D) (h : H[id]? = some (.cells t sz cs)) (hk : k * sz <= cs.length) : Jbs H (n + 1) (.hs id k) = ((cs.take (k * sz)).mapM (Jbs H n)).map fun es => .sl sz (chunks sz k es) := by
  simp only [Jbs, h]
  rw [if_pos hk]
theorem CellsOf.own {e : TypeId} {H : Heap} {B0 B : Nat} {S : Nat -> Prop} {L : List (Nat × Nat)} {w : World} (hr : HRel B0 S L w H) : ∀ {cs : List D} {ls : List Dl}, CellsOf e H B cs ls -> ∀ xs, RepA S L w xs cs -> RepA (fun k => B0 <= k /\ k < w.heap.size) [] w xs (ls.map dlC).flatten
  | [], [], _, xs, hx => by simpa only [List.map_nil, List.flatten_nil, RepA] using hx
  | pd :: o :: m :: r, x :: ls, h, xs, hx => by
    obtain ⟨⟨h1, rfl, rfl⟩, h4⟩ := h
    have e2 : ((x :: ls).map dlC).flatten = Jag x.path :: iD x.op :: iD x.n :: (ls.map dlC).flatten := rfl
    rw [e2]
    simp only [RepA] at hx ⊢
    obtain ⟨a, t, q1, q2, b, u, q3, q4, c, v, q5, q6, q7⟩ := hx
    refine ⟨a, t, q1, ?_, b, u, q3, by simpa only [Rep] using q4, c, v, q5, by simpa only [Rep] using q6, CellsOf.own hr h4 v q7⟩
    have hb0 : Buf e 1 H 0 pd x.path.length (Jbg x.path) := by
      rcases h1 with z | ⟨z, _, z2⟩
      · exact .inl z
      · exact .inr ⟨z, Nat.zero_le _, z2⟩
    refine Jwx hr (by omega) hb0 (els := x.path.map oneI) (by simp) (fun e he => by obtain ⟨y, _, rfl⟩ := List.mem_map.1 he; rfl) (fun ys hy => ?_) q2
    have : (x.path.map oneI).flatten = Jbg x.path := by
      generalize x.path = p
      induction p with
      | nil => rfl
      | cons y r ih => rw [List.map_cons, List.flatten_cons, ih]; rfl
    rw [this]
    clear this hb0 q2 q1 h1
    revert ys
    generalize x.path = p
    induction p with
    | nil => intro ys hy; simpa only [Jbg, List.map_nil, RepA] using hy
    | cons y r ih =>
      intro ys hy
      have e3 : Jbg (y :: r) = iD y :: Jbg r := rfl
      rw [e3] at hy ⊢
      simp only [RepA, Rep] at hy ⊢
      obtain ⟨a, t, z1, z2, z3⟩ := hy
      exact ⟨a, t, z1, z2, ih t z3⟩
  | [], _ :: _, h, _, _ => h.elim
  | [_], _, h, _, _ => by cases h
  | [_, _], _, h, _, _ => by cases h
  | _ :: _ :: _ :: _, [], h, _, _ => h.elim
theorem Qnf (t : TypeId) (pd : D) (a b : Int) (H : Heap) (h : Jcc pd = true) : rowH t 3 1 [.v (.slice none 0 0), iD 0, iD 0] [(0, .agg [pd, iD a, iD b])] H = some (.hs H.length 1, H ++ [.cells t 3 [pd, iD a, iD b]]) := by
  show ((newH t 3 [pd, iD a, iD b] H).map fun r => (D.hs r.1 1, r.2)) = _
  unfold newH
  rw [if_pos (by simp [h])]; rfl
theorem Qec (t : TypeId) (pd x y z : D) (a b : Int) (H : Heap) (i : Nat) (hi : H[i]? = some (.cells t 3 [x, y, z])) (h : Jcc pd = true) : setH 3 (.hp i 0) (.agg [pd, iD a, iD b]) H = some (.v undef, H.set i (.cells t 3 [pd, iD a, iD b])) := by
  simp [setH, Jhz, hi, cellsD, h]
theorem Jhj (t : TypeId) (x y z : D) (H : Heap) (i : Nat) (hi : H[i]? = some (.cells t 3 [x, y, z])) : Jad (some 3) H (.hp i 0) = some (.agg [x, y, z]) := by
  simp [Jad, hi, Jqf]
theorem Jyy (H : Heap) (o o' : HO) : (H ++ [o]).set H.length o' = H ++ [o'] := by
  rw [List.set_append_right _ _ (Nat.le_refl _)]; simp
theorem Qm5 (H : Heap) (l : List Int) : srcH 1 H (Jag l) = some (Jbg l) := by
  show (elsD 1 (.sl 1 (l.map oneI))).map List.flatten = _
  have : elsD 1 (.sl 1 (l.map oneI)) = some (l.map oneI) := Jvw l
  rw [this, Option.map_some]
  congr 1
  induction l with
  | nil => rfl
  | cons y r ih => rw [List.map_cons, List.flatten_cons, ih (Jvw r)]; rfl
theorem Buf.low {e : TypeId} {sz : Nat} {H : Heap} {B : Nat} {d : D} {n : Nat} {cs : List D} (h : Buf e sz H B d n cs) : Buf e sz H 0 d n cs := by
  rcases h with h | ⟨r, _, h⟩
  · exact .inl h
  · exact .inr ⟨r, Nat.zero_le _, h⟩
theorem CellsOf.low {e : TypeId} {H : Heap} {B : Nat} : ∀ {cs : List D} {ls : List Dl}, CellsOf e H B cs ls -> CellsOf e H 0 cs ls
  | [], [], _ => trivial
  | pd :: o :: n :: r, x :: ls, h => ⟨⟨h.1.1.low, h.1.2⟩, CellsOf.low h.2⟩
  | [], _ :: _, h => h.elim
  | [_], _, h => by cases h
  | [_, _], _, h => by cases h
  | _ :: _ :: _ :: _, [], h => h.elim
end Go.Proofs.YtinnbafplhcnpaaGreat
end
section
namespace Go.Proofs.YtinnbafplhcnpaaGreat
theorem Jvx (l : List Nd) : ∀ (a b : List Int) (r : Int), 0 <= endv l r -> 0 <= Jel l r a -> 0 <= Jel l r b -> Jel l r a < Jel l r b -> cmpL a b < 0
  | [], [], r, _, _, _, h => by omega
  | [], _ :: _, r, _, _, _, _ => by simp [cmpL]
  | m :: a, [], r, hr, h1, _, h => by
    have := Ji4 l (m :: a) r hr h1
    have h2 : Jel l r [] = r := rfl
    omega
  | m :: a, n :: b, r, hr, h1, h2, h => by
    by_cases hm : 0 <= m /\ m.toNat < (Jab l r).length
    · by_cases hn : 0 <= n /\ n.toNat < (Jab l r).length
      · obtain ⟨j, rfl⟩ := Int.eq_ofNat_of_zero_le hm.1
        obtain ⟨k, rfl⟩ := Int.eq_ofNat_of_zero_le hn.1
        have hj : j < (Jab l r).length := by simpa using hm.2
        have hk : k < (Jab l r).length := by simpa using hn.2
        obtain ⟨h0, _⟩ := Ja2 l r hr
        obtain ⟨t, rfl⟩ := Int.eq_ofNat_of_zero_le h0
        obtain ⟨ej, hja⟩ := Jpe l t hr j hj
        obtain ⟨ek, hka⟩ := Jpe l t hr k hk
        have rj := Jd8 l t hr j hja
        have rk := Jd8 l t hr k hka
        rw [Jfc l t j a j rfl hj, ej] at h1 h
        rw [Jfc l t k b k rfl hk, ek] at h2 h
        rcases Nat.lt_trichotomy j k with hjk | rfl | hjk
        · rw [cmpL, if_pos (by omega)]; omega
        · rw [cmpL, if_neg (by omega), if_neg (by omega)]
          exact Jvx l a b _ rj.2.2.1 h1 h2 h
        · have g1 := Ji4 l a _ rj.2.2.1 h1
          have g2 := Ji4 l b _ rk.2.2.1 h2
          have g3 := Jr2 l t hr (k + 1) (j - (k + 1)) (by omega)
          rw [show k + 1 + (j - (k + 1)) = j from by omega] at g3
          have g4 : endv l (kth l (t + 1) k) = kth l (t + 1) (k + 1) := rfl
          omega
      · rw [Jfn l r n b hn] at h2; omega
    · rw [Jfn l r m a hm] at h1; omega
section whole
variable {l : List Nd} (hw : endv l 0 = l.length)
include hw
theorem Qjl {i k : Int} {a b : List Int} (ha : ofv l i = some a) (hb : ofv l k = some b) (h : i < k) : cmpL a b < 0 := by
  have h1 := Jo4 hw ha
  have h2 := Jo4 hw hb
  have i1 := (Jec hw i).1 (by rw [ha]; rfl)
  have k1 := (Jec hw k).1 (by rw [hb]; rfl)
  exact Jvx l a b 0 (by omega) (by omega) (by omega) (by omega)
end whole
end Go.Proofs.YtinnbafplhcnpaaGreat
end
section
namespace Go.Proofs.YtinnbafplhcnpaaGreat
open Go.RowKit
set_option linter.unusedVariables false
set_option linter.unusedSimpArgs false
theorem Qhu {a b : Dl} (h : a.path = b.path) (hl : lexR (a.op, a.n) (b.op, b.n)) : Jgs a b < 0 := by
  unfold Jgs
  rw [if_neg (by simpa using (Jtv _ _).2 h)]
  unfold lexR at hl
  rcases hl with hl | hl
  · have := (Qk7 a.op b.op).2 hl
    rw [if_pos (by omega)]
    exact this
  · simp only at hl
    rw [if_neg (by simpa using (Jmq _ _).2 hl.1)]
    exact (Qk7 _ _).2 hl.2
def Jrq (l : List Nd) (k : Int) : List Dl := (Jdd l k).map fun e => ⟨(ofv l k).getD [], e.1, e.2⟩
def Jfe (l : List Nd) : List Dl := (List.range l.length).flatMap fun k : Nat => Jrq l k
section whole
variable {l : List Nd} (hl : endv l 0 = l.length)
include hl
theorem Jo7 (k : Int) (d : Dl) : d ∈ Jrq l k ↔ ofv l k = some d.path /\ isC l k d.op d.n := by
  unfold Jrq
  rw [List.mem_map]
  constructor
  · rintro ⟨⟨o, n⟩, h, rfl⟩
    rw [Jv1] at h
    refine ⟨?_, h⟩
    obtain ⟨p, hp⟩ := Option.isSome_iff_exists.1 ((Jec hl k).2 ⟨(Ja2 l k h.1).1, by have := (Ja2 l k h.1).2; omega⟩)
    rw [hp]; rfl
  · rintro ⟨h1, h2⟩
    exact ⟨(d.op, d.n), (Jv1 l k d.op d.n).2 h2, by rw [h1]; rfl⟩
theorem Jka (k : Int) (hk : 0 <= k) (p : List Int) : ofv l k = some p ↔ Je6 l p = k := by
  rw [Je6, if_pos hl]
  exact ⟨fun h => Jo4 hl h, fun h => Jxx hl hk h⟩
theorem Jna (d : Dl) : d ∈ Jfe l ↔ 0 <= Je6 l d.path /\ isC l (Je6 l d.path) d.op d.n := by
  unfold Jfe
  rw [List.mem_flatMap]
  constructor
  · rintro ⟨k, hk, h⟩
    obtain ⟨h1, h2⟩ := (Jo7 hl k d).1 h
    rw [Jka hl k (by omega)] at h1
    rw [h1]
    exact ⟨by omega, h2⟩
  · rintro ⟨h1, h2⟩
    obtain ⟨k, hk⟩ := Int.eq_ofNat_of_zero_le h1
    refine ⟨k, ?_, ?_⟩
    · rw [List.mem_range]
      have := (Ja2 l _ h2.1).2
      omega
    · rw [Jo7 hl, Jka hl k (by omega), <- hk]
      exact ⟨rfl, h2⟩
omit hl in
theorem Jyt (k : Int) : (Jrq l k).Pairwise fun a b => Jgs a b < 0 := by
  unfold Jrq
  rw [List.pairwise_map]
  exact (Juz l k).imp fun {a b} h => Qhu (a := ⟨_, a.1, a.2⟩) (b := ⟨_, b.1, b.2⟩) rfl h
theorem Jwn : (Jfe l).Pairwise fun a b => Jgs a b < 0 := by
  unfold Jfe
  rw [List.pairwise_flatMap]
  refine ⟨fun k _ => Jyt k, ?_⟩
  refine (List.pairwise_lt_range (n := l.length)).imp fun {i k} h a ha b hb => ?_
  have h1 := ((Jo7 hl i a).1 ha).1
  have h2 := ((Jo7 hl k b).1 hb).1
  exact Qhv (Qjl hl h1 h2 (by omega))
end whole
theorem Jyu (l : List Nd) (k : Int) : (Jrq l k).length = (Jdd l k).length := by simp [Jrq]
theorem Qf9 (l : List Nd) : (Jfe l).length = ((List.range l.length).map fun k : Nat => (Jdd l k).length).sum := by
  unfold Jfe
  rw [List.length_flatMap]
  congr 1
  exact List.map_congr_left fun k _ => Jyu l k
theorem Jys (l : List Nd) : (Jfe l).length <= 5 * l.length := by
  rw [Qf9]
  have : ∀ n : Nat, ((List.range n).map fun k : Nat => (Jdd l k).length).sum <= 5 * n := by
    intro n
    induction n with
    | zero => simp
    | succ n ih =>
      rw [List.range_succ, List.map_append, List.sum_append]
      have := Jlb l n
      simp
      omega
  exact this _
def bsV (l : List Dl) (d : Dl) : Nat -> Nat -> Nat -> Int
  | 0, _, _ => -1
  | f + 1, lo, hi =>
    if lo < hi then
      (if Jgs (l.getD (lo + (hi - lo) / 2) default) d = 0 then ((lo + (hi - lo) / 2 : Nat) : Int) else
        if Jgs   (l.getD (lo + (hi - lo) / 2) default) d < 0 then bsV l d f (lo + (hi - lo) / 2 + 1) hi else bsV l d f lo (lo + (hi - lo) / 2))
    else -1
def Jxp (l : List Dl) (d : Dl) : Int := bsV l d (l.length + 1) 0 l.length
theorem Qdh (l : List Dl) (d : Dl) : ∀ (f lo hi : Nat), bsV l d f lo hi = -1 \/ ∃ k : Nat, bsV l d f lo hi = k /\ lo <= k /\ k < hi /\ l.getD k default = d
  | 0, _, _ => .inl rfl
  | f + 1, lo, hi => by
    unfold bsV
    split
    · split
      · rename_i h1 h2
        exact .inr ⟨_, rfl, by omega, by omega, (Jnd _ _).1 h2⟩
      · split
        · rcases Qdh l d f (lo + (hi - lo) / 2 + 1) hi with h | ⟨k, h, h1, h2, h3⟩
          · exact .inl h
          · exact .inr ⟨k, h, by omega, h2, h3⟩
        · rcases Qdh l d f lo (lo + (hi - lo) / 2) with h | ⟨k, h, h1, h2, h3⟩
          · exact .inl h
          · exact .inr ⟨k, h, h1, by omega, h3⟩
    · exact .inl rfl
theorem Jx8 (l : List Dl) (d : Dl) (hs : l.Pairwise fun a b => Jgs a b < 0) : ∀ (f lo hi : Nat), hi <= l.length -> hi < lo + f -> (∃ i, lo <= i /\ i < hi /\ l.getD i default = d) -> bsV l d f lo hi ≠ -1
  | 0, lo, hi, _, h1, ⟨i, h2, h3, _⟩ => by omega
  | f + 1, lo, hi, hhi, h1, ⟨i, h2, h3, h4⟩ => by
    have get : ∀ j, j < hi -> l.getD j default = l[j]! := fun j hj => by simp [List.getD_eq_getElem?_getD, List.getElem?_eq_getElem (show j < l.length by omega), List.getElem!_eq_getElem?_getD]
    have ord : ∀ i j, i < j -> j < l.length -> Jgs (l.getD i default) (l.getD j default) < 0 := fun i j hij hj => by
      have := (List.pairwise_iff_getElem.1 hs) i j (by omega) hj hij
      simpa [List.getD_eq_getElem?_getD, List.getElem?_eq_getElem hj, List.getElem?_eq_getElem (show i < l.length by omega)] using this
    unfold bsV
    rw [if_pos (by omega)]
    split
    · omega
    · rename_i hne
      have hm : lo + (hi - lo) / 2 ≠ i := by
        rintro rfl
        exact hne ((Jnd _ _).2 h4)
      split
      · rename_i hlt
        refine Jx8 l d hs f _ hi hhi (by omega) ⟨i, ?_, h3, h4⟩
        refine Decidable.byContradiction fun hc => ?_
        have := ord i (lo + (hi - lo) / 2) (by omega) (by omega)
        rw [h4, Qht] at this
        omega
      · rename_i hge
        refine Jx8 l d hs f lo _ (by omega) (by omega) ⟨i, h2, ?_, h4⟩
        refine Decidable.byContradiction fun hc => ?_
        have := ord (lo + (hi - lo) / 2) i (by omega) (by omega)
        rw [h4] at this
        omega
theorem Qaf (l : List Dl) (d : Dl) : Jxp l d = -1 \/ ∃ k : Nat, Jxp l d = k /\ k < l.length /\ l[k]? = some d := by
  rcases Qdh l d (l.length + 1) 0 l.length with h | ⟨k, h, _, h2, h3⟩
  · exact .inl h
  · refine .inr ⟨k, h, h2, ?_⟩
    rw [List.getElem?_eq_getElem h2]
    simpa [List.getD_eq_getElem?_getD, List.getElem?_eq_getElem h2] using h3
theorem Qkt (l : List Dl) (d : Dl) (hs : l.Pairwise fun a b => Jgs a b < 0) : 0 <= Jxp l d ↔ d ∈ l := by
  constructor
  · intro h
    rcases Qaf l d with e | ⟨k, _, hk, e⟩
    · omega
    · exact List.mem_of_getElem? e
  · intro h
    obtain ⟨i, hi, e⟩ := List.mem_iff_getElem.1 h
    have := Jx8 l d hs (l.length + 1) 0 l.length (Nat.le_refl _) (by omega) ⟨i, by omega, hi, by simp [List.getD_eq_getElem?_getD, List.getElem?_eq_getElem hi, e]⟩
    rcases Qaf l d with e2 | ⟨k, e2, _⟩
    · exact absurd e2 this
    · omega
theorem Jsd (p : Pg) (d : Dl) (hl : endv p.body 0 = p.body.length) (h : d ∈ Jfe p.body) : ∃ k : Nat, Je6 p.body d.path = k /\ k < p.body.length /\ isC p.body k d.op d.n /\ Jcy p d = (⟨p.params, p.vars, Jaw p.body k (nodeAt p.body k) d.op d.n⟩, 0) := by
  obtain ⟨h1, h2⟩ := (Jna hl d).1 h
  obtain ⟨k, hk⟩ := Int.eq_ofNat_of_zero_le h1
  rw [hk] at h2
  refine ⟨k, hk, by have := (Ja2 _ _ h2.1).2; omega, h2, ?_⟩
  unfold Jcy
  rw [hk, if_neg (by omega), if_pos (Jvq _ k _ _ h2).1]
  simp
theorem Jmc (p : Pg) (d : Dl) (hc : chk9 p = 0) (hb : p.body.length <= 60) (h : d ∈ Jfe p.body) : (Jcy p d).2 = 0 /\ (Jcy p d).1.body ≠ p.body /\ knd (Jcy p d).1 0 = 2 /\ (chk9 (Jcy p d).1 = 0 \/ chk9 (Jcy p d).1 = 13) := by
  have hw := Jty (Qde hc).1
  obtain ⟨k, h1, h2, h3, h4⟩ := Jsd p d hw h
  have hx : p.body[k]? = some (nodeAt p.body k) := by rw [Jc7 _ _ h2]; exact List.getElem?_eq_getElem h2
  have := Qc9 hc hb h3.1 hx (Jvq _ _ _ _ h3).1
  rw [h4]
  exact ⟨rfl, Jrh _ _ _ _ h3, this.1, by rcases this.2.2 with e | e; exact .inl e; exact .inr e.1⟩
theorem Jw8 (p : Pg) (a b : Dl) (hl : endv p.body 0 = p.body.length) (ha : a ∈ Jfe p.body) (hb : b ∈ Jfe p.body) (hab : a ≠ b) (ho : a.op = b.op) (h4 : a.op <= 4) : (Jcy p a).1.body ≠ (Jcy p b).1.body /\ (Jcy p a).1.body.length = p.body.length := by
  obtain ⟨k, f1, k1, c1, e1⟩ := Jsd p a hl ha
  obtain ⟨m, f2, k2, c2, e2⟩ := Jsd p b hl hb
  have gx : ∀ j : Nat, j < p.body.length -> p.body[j]? = some (nodeAt p.body j) := fun j hj => by rw [Jc7 _ _ hj]; exact List.getElem?_eq_getElem hj
  obtain ⟨y, y1, y2, y3⟩ := Jg6 c1.1 _ (gx k k1) (Jvq _ _ _ _ c1).1 h4
  obtain ⟨z, z1, z2, z3⟩ := Jg6 c2.1 _ (gx m k2) (Jvq _ _ _ _ c2).1 (by omega)
  have o1 := Jrh _ _ _ _ c1
  rw [e1, e2]
  simp only
  rw [y1] at o1 ⊢
  rw [z1]
  refine ⟨fun e => ?_, by simp⟩
  by_cases hkm : k = m
  · subst hkm
    have hp : a.path = b.path := by
      have q1 := (Jka hl k (by omega) a.path).2 f1
      have q2 := (Jka hl k (by omega) b.path).2 f2
      rw [q1] at q2
      exact Option.some.inj q2
    have hn : a.n ≠ b.n := fun hn => hab (by obtain ⟨_, _, _⟩ := a; obtain ⟨_, _, _⟩ := b; simp_all)
    have hyz : y = z := by
      have := congrArg (fun l => l[k]?) e
      simpa [List.getElem?_set_self k1] using this
    apply hn
    rcases y3 with ⟨o3, rfl⟩ | ⟨o4, rfl⟩
    · rcases z3 with ⟨_, rfl⟩ | ⟨o, _⟩
      · exact congrArg Prod.fst hyz
      · omega
    · rcases z3 with ⟨o, _⟩ | ⟨_, rfl⟩
      · omega
      · exact congrArg Prod.snd hyz
  · apply o1
    apply List.ext_getElem?
    intro j
    by_cases hj : k = j
    · subst hj
      rw [e, List.getElem?_set_ne (by omega)]
    · rw [List.getElem?_set_ne hj]
end Go.Proofs.YtinnbafplhcnpaaGreat
end
section
namespace Go.Proofs.YtinnbafplhcnpaaGreat
open Go.RowKit
set_option linter.unusedVariables false
set_option linter.unusedSimpArgs false
set_option maxRecDepth 100000
def Jnv (fn : Func) (st : LS) : HO := .loop st [5] (Jli fn 0) (Jje fn 0) 16 Jb5 [.hp 2 0]
def bookC (p : Pg) (d : D) : List D := [iD p.params, Jag p.vars, Jaf p.body, .v (.int .u32 0), .v (.int .i32 1), .v (.int .u32 0), d]
structure SInv (p : Pg) (H : Heap) (ls : List Dl) : Prop where
  len : 5 <= H.length
  book : ∃ d cs, H[1]? = some (.cells 69 7 (bookC p d)) /\ Buf 34 3 H 5 d ls.length cs /\ CellsOf 3 H 5 cs ls
  own : H[2]? = some (.cells 55 1 [.hp 1 0])
  ptr : H[3]? = some (.cells 55 1 [.hp 1 0])
  loop : H[4]? = some (Jnv Tryz.f56 .ready)
theorem Qlg {t e : TypeId} {sz : Nat} {H : Heap} {B n : Nat} {d : D} {cs : List D} (h : Buf t sz H B d n cs) (hsz : sz ≠ 1) (r : Nat) (l : List Int) (hr : H[r]? = some (.cells e 1 (Jbg l))) (q : Nat) : d ≠ .hs r q := by
  rintro rfl
  rcases h with ⟨h, _⟩ | ⟨r', h1, h2, h3, h4⟩
  · cases h
  · cases h2
    rw [hr] at h3
    cases h3
    exact hsz rfl
theorem Qhp        (p : Pg) (H : Heap) (ls : List Dl) (pd : D) (x : Dl) (h : SInv p H ls) (hpd : Buf 3 1 H 5 pd x.path.length (Jbg   x.path)) (hl : ls.length ≤ 100000) :
    ∃ H', Y14 Tryz.prog 4 [.agg [pd, iD x.op, iD x.n]] H = some (bD true, H') /\ SInv p H' (ls ++ [x]) := by
  obtain ⟨h0, ⟨d, cs, h1, h2, h3⟩, h4, h5, h6⟩ := h
  have hok := hpd.ok
  have hY : Y14 Tryz.prog 4 [.agg [pd, iD x.op, iD x.n]] H = Jo2 Tryz.prog (T14f Tryz.prog noYl) 0 4 [.agg [pd, iD x.op, iD x.n]] H := rfl
  have hk : Jo2 Tryz.prog (T14f Tryz.prog noYl) 0 4 [.agg [pd, iD x.op, iD x.n]] H = Jvd Tryz.prog (T14f Tryz.prog noYl) 0 4 [5] (Jli Tryz.f56 0) (Jje Tryz.f56 0) 16 Jb5 [.hp 2 0] [.agg [pd, iD x.op, iD x.n]] H := by
    unfold Jo2
    rw [h6]
    simp only [Jnv]
    rw [if_pos]
    refine ⟨rfl, ?_, ?_, ?_, ?_⟩ <;> kernel_rfl
  rw [hY, hk, Jl9]
  -- the round's own delta
  have al : Jaz 34 [.v (.slice none 0 0), iD 0, iD 0] H = some (.hp H.length 0, H ++ [.cells 34 3 [.v (.slice none 0 0), iD 0, iD 0]]) := rfl
  have st1 := Qec 34 pd (.v (.slice none 0 0)) (iD 0) (iD 0) x.op x.n (H ++ [.cells 34 3 [.v (.slice none 0 0), iD 0, iD 0]]) H.length (by simp) hok
  rw [Jyy] at st1
  have g : ∀ k, k < H.length -> (H ++ [HO.cells 34 3 [pd, iD x.op, iD x.n]])[k]? = H[k]? := fun k hk => List.getElem?_append_left hk
  have gm : (H ++ [HO.cells 34 3 [pd, iD x.op, iD x.n]])[H.length]? = some (.cells 34 3 [pd, iD x.op, iD x.n]) := by simp
  have gl : (H ++ [HO.cells 34 3 [pd, iD x.op, iD x.n]]).length = H.length + 1 := by simp
  have gb : Buf 34 3 (H ++ [HO.cells 34 3 [pd, iD x.op, iD x.n]]) 5 d ls.length cs := h2.app _
  have gp : Buf 3 1 (H ++ [HO.cells 34 3 [pd, iD x.op, iD x.n]]) 5 pd x.path.length (Jbg x.path) := hpd.app _
  have gc : CellsOf 3 (H ++ [HO.cells 34 3 [pd, iD x.op, iD x.n]]) 5 cs ls := h3.keep fun r l hr => g r (List.getElem?_eq_some_iff.1 hr).1
  generalize H ++ [HO.cells 34 3 [pd, iD x.op, iD x.n]] = H1 at *
  have g6 : H1[4]? = some (Jnv Tryz.f56 .ready) := (g 4 (by omega)).trans h6
  have hb : Jx7 (α := D × Heap) 4 H1 = fun k => k (H1.set 4 (Jnv Tryz.f56 .busy)) := by
    funext k
    unfold Jx7
    rw [g6]
    rfl
  have q : ∀ k, k ≠ 4 -> (H1.set 4 (Jnv Tryz.f56 .busy))[k]? = H1[k]? := fun k hk => List.getElem?_set_ne (Ne.symm hk)
  have q4 : (H1.set 4 (Jnv Tryz.f56 .busy))[4]? = some (Jnv Tryz.f56 .busy) := List.getElem?_set_self (by omega)
  have ql : (H1.set 4 (Jnv Tryz.f56 .busy)).length = H1.length := by simp
  have qb : Buf 34 3 (H1.set 4 (Jnv Tryz.f56 .busy)) 5 d ls.length cs := gb.set 4 _ (by omega)
  have qp : Buf 3 1 (H1.set 4 (Jnv Tryz.f56 .busy)) 5 pd x.path.length (Jbg x.path) := gp.set 4 _ (by omega)
  have qc : CellsOf 3 (H1.set 4 (Jnv Tryz.f56 .busy)) 5 cs ls := gc.keep fun r l hr => q r (fun e => by subst e; rw [g6] at hr; cases hr)
  generalize H1.set 4 (Jnv Tryz.f56 .busy) = H2 at *
  have b2 : H2[2]? = some (.cells 55 1 [.hp 1 0]) := by rw [q 2 (by omega), g 2 (by omega)]; exact h4
  have b3 : H2[3]? = some (.cells 55 1 [.hp 1 0]) := by rw [q 3 (by omega), g 3 (by omega)]; exact h5
  have b1 : H2[1]? = some (.cells 69 7 (bookC p d)) := by rw [q 1 (by omega), g 1 (by omega)]; exact h1
  have bm : H2[H.length]? = some (.cells 34 3 [pd, iD x.op, iD x.n]) := by rw [q H.length (by omega)]; exact gm
  have l2 := Jd7 H2 2 _ _ _ _ b2
  have nd : nilD (.hp 1 0) = some (.hp 1 0) := rfl
  have f6 : Jaa 6 (.hp 1 0) = some (.hp 1 6) := rfl
  have l6 : Jad none H2 (.hp 1 6) = some d := Jcr _ _ _ _ _ _ _ b1 rfl
  have lm := Jhj 34 pd (iD x.op) (iD x.n) H2 H.length bm
  have rw1 := Qnf 34 pd x.op x.n H2 hok
  have hcl := qc.len
  obtain ⟨d', H3, a1, a2, a3, a4, a5, a6⟩ := Qdk (new := [pd, iD x.op, iD x.n]) qb (by omega) rfl (by simp [hok]) (by simp; omega) (by omega)
  have c1 : H3[1]? = some (.cells 69 7 (bookC p d)) := by rw [a3.2 1 (by omega)]; exact b1
  have st := Jl5 H3 1 6 _ _ _ d' c1 (by simp [bookC]) a2.cells a2.ok
  have hset : (bookC p d).set 6 d' = bookC p d' := rfl
  rw [hset] at st
  have hkeep : ∀ (r : Nat) (l : List Int), H2[r]? = some (.cells 3 1 (Jbg l)) -> H3[r]? = H2[r]? := fun r l hr => a5 r (List.getElem?_eq_some_iff.1 hr).1 (fun z => Qlg qb (by omega) r l hr z)
  have c4 : (H3.set 1 (.cells 69 7 (bookC p d')))[4]? = some (Jnv Tryz.f56 .busy) := by rw [List.getElem?_set_ne (by omega), a3.2 4 (by omega)]; exact q4
  have hap : Jmt (α := D × Heap) (.hp 2 0) d = fun k => k := by
    funext k
    rcases qb with ⟨rfl, _⟩ | ⟨r, r1, rfl, _⟩
    · exact Qdn 2 0 _ k
    · rw [Qa2, if_neg (by omega)]
  have hlen3 : 5 <= H3.length := by omega
  refine ⟨(H3.set 1 (.cells 69 7 (bookC p d'))).set 4 (Jnv Tryz.f56 .ready), ?_, by simpa using hlen3, ⟨d', cs ++ [pd, iD x.op, iD x.n], ?_, ?_, ?_⟩, ?_, ?_, ?_⟩
  · rw [al]
    simp only [Jan, st1, hb, l2, Jaj, nd, f6, l6, lm, rw1, a1, st, hap]
    unfold endR
    rw [c4]
    rfl
  · rw [List.getElem?_set_ne (by omega), List.getElem?_set_self (by omega)]
  · rw [List.length_append]; exact (a2.set 1 _ (by omega)).set 4 _ (by omega)
  · have z1 : CellsOf 3 H3 5 (cs ++ [pd, iD x.op, iD x.n]) (ls ++ [x]) := CellsOf.app (qp.keep fun r m e => by
      subst e
      rcases qp with ⟨z, _⟩ | ⟨r', z1, z2, z3, z4⟩
      · cases z
      · cases z2; exact hkeep r _ z3) (qc.keep hkeep)
    have z2 : CellsOf 3 (H3.set 1 (.cells 69 7 (bookC p d'))) 5 (cs ++ [pd, iD x.op, iD x.n]) (ls ++ [x]) := z1.keep fun r l hr => List.getElem?_set_ne (fun e => by subst e; rw [c1] at hr; cases hr)
    exact z2.keep fun r l hr => List.getElem?_set_ne (fun e => by subst e; rw [c4] at hr; cases hr)
  · rw [List.getElem?_set_ne (by omega), List.getElem?_set_ne (by omega), a3.2 2 (by omega)]; exact b2
  · rw [List.getElem?_set_ne (by omega), List.getElem?_set_ne (by omega), a3.2 3 (by omega)]; exact b3
  · exact List.getElem?_set_self (by simp; omega)
end Go.Proofs.YtinnbafplhcnpaaGreat
end
section
namespace Go.Proofs.YtinnbafplhcnpaaGreat
open Go.RowKit
set_option linter.unusedVariables false
set_option linter.unusedSimpArgs false
set_option maxRecDepth 100000
theorem HRel.setCell {B : Nat} {S : Nat → Prop} {L : List (Nat × Nat)} {w : World} {H : Heap} (h : HRel B S L w H) {id : Nat} {t : TypeId} {sz : Nat} {cs : List D} (hid : H[id]? = some (HO.cells t sz cs)) {b c : Nat} (hL : L[id]? = some (b, c)) (off : Nat) {x : Value} {d : D} (ho : off < cs.length) (hx : x.oneCell' = true) (hd : Rep S L w x d) :
    HRel B S L (w.setCell ⟨b, off, none⟩ x) (H.set id (.cells t sz (cs.set off d))) /\ Later B S S L L w (w.setCell ⟨b, off, none⟩ x) := by
  obtain ⟨b', c', arr, h1, h2, h3, h4, h5, h6, h7, h8⟩ := h.live id t sz cs hid
  rw [hL] at h1
  cases h1
  rw [setCell_eq_setRow w b off arr t (0, 0) x h4]
  refine h.write hid hL (arr.setIfInBounds off x) (cs.set off d) (by simpa using h5) (by simpa using h7) fun j d' hj => ?_
  by_cases e : j = off
  · subst e
    rw [List.getElem?_set_self ho] at hj
    cases hj
    exact ⟨x, by rw [Array.getElem?_setIfInBounds_self_of_lt (by omega)], hx, hd⟩
  · rw [List.getElem?_set_ne (Ne.symm e)] at hj
    obtain ⟨y, q1, q2, q3⟩ := h8 j d' hj
    exact ⟨y, by rw [Array.getElem?_setIfInBounds_ne (Ne.symm e)]; exact q1, q2, q3⟩
theorem disable (w : World) : (callFunc 153 #[]).run Tryz.prog w = .ok (.value (.tuple #[])) w := run_call_mark0 Tryz.func153 (by kernel_rfl) (by kernel_rfl) (by kernel_rfl) .disable (by kernel_rfl) w
theorem enable (w : World) : (callFunc 155 #[]).run Tryz.prog w = .ok (.value (.tuple #[])) w := run_call_mark0 Tryz.func155 (by kernel_rfl) (by kernel_rfl) (by kernel_rfl) .enable (by kernel_rfl) w
theorem acquire (a : Addr) (w : World) : (callFunc 156 #[.pointer (some a)]).run Tryz.prog w = .ok (.value (.tuple #[])) w := run_call_marked Tryz.func156 (by kernel_rfl) (by kernel_rfl) (by kernel_rfl) .acquire (by kernel_rfl) a w
theorem releaseMerge (a : Addr) (w : World) : (callFunc 158 #[.pointer (some a)]).run Tryz.prog w = .ok (.value (.tuple #[])) w := run_call_marked Tryz.func158 (by kernel_rfl) (by kernel_rfl) (by kernel_rfl) .releaseMerge (by kernel_rfl) a w
theorem store_deferred (a : Addr) (x : Value) (u : FrameMode) (w : World) (hc : w.cell? a = some x) (hz : w.frozen? a = false) :
    CallsD Tryz.prog 125 #[.pointer (some a), .bool true] u w fun e u' w' => u' = u /\ (e = .returned (.tuple #[]) /\ w' = w.drew.setCell a (.int .u32 1)) := by
  have hc' : w.drew.cell? a = some x := by go_simp
  have hz' : w.drew.frozen? a = false := by go_simp
  have hst := run_call_store (P := Tryz.prog) Tryz.func137 (by kernel_rfl) (by kernel_rfl) (by kernel_rfl) (by kernel_rfl) (k := .u32) (y := 1) hc' hz'
  go_enter_d Tryz.func125, Tryz.ntmps125
  go_wp2
  go_region_calls
  all_goals (go_end0; exact ⟨rfl, rfl⟩)
theorem unlock_deferred (a : Addr) (u : FrameMode) (w : World) (hc : w.cell? a = some (.int .i32 1)) (hz : w.frozen? a = false) :
    CallsD Tryz.prog 124 #[.pointer (some a)] u w fun e u' w' => u' = u /\ (e = .returned (.tuple #[]) /\ w' = w.setCell a (.int .i32 0)) := by
  have hd := disable
  have he := enable
  have hr := releaseMerge
  have hadd := run_call_add (P := Tryz.prog) Tryz.func159 (by kernel_rfl) (by kernel_rfl) (by kernel_rfl) .i32 (by kernel_rfl) (y := -1) (s := 0) hc hz (by simp [go_sem]; rfl)
  have hcv := run_convert_to_unsafe (P := Tryz.prog) (src := 177) (dst := 181) Tryz.underlying177 Tryz.underlying181 (by kernel_rfl) hc
  go_enter_d Tryz.func124, Tryz.ntmps124
  go_wp2
  go_end0
  go_wp2
  go_end0
  exact ⟨rfl, rfl⟩
theorem lock_free (a : Addr) (w : World) (hc : w.cell? a = some (.int .i32 0)) (hz : w.frozen? a = false) :
    Calls Tryz.prog 123 #[.pointer (some a)] w fun e w' => e = .returned (.tuple #[]) /\ w' = w.setCell a (.int .i32 1) := by
  have hd := disable
  have he := enable
  have ha := acquire
  have hcas := run_call_cas_hit (P := Tryz.prog) Tryz.func154 (by kernel_rfl) (by kernel_rfl) (by kernel_rfl) .i32 (by kernel_rfl) (y := 1) hc hz
  have hc' : (w.setCell a (.int .i32 1)).cell? a = some (.int .i32 1) := World.cell?_setCell_same w a _ hc
  have hcv := run_convert_to_unsafe (P := Tryz.prog) (src := 177) (dst := 181) Tryz.underlying177 Tryz.underlying181 (by kernel_rfl) hc'
  go_enter Tryz.func123, Tryz.ntmps123
  go_wp2
  first | go_end0 | (simp only [Exit.inBlock, Exit.then]; refine bodyPost_ret (results_none rfl _ _ _) rfl ?_) | refine bodyPost_ret (results_none rfl _ _ _) rfl ?_
  go_wp2
  go_end0
  exact ⟨rfl, rfl⟩
def Qg2 (Gf : List D -> Heap -> Option (D × Heap)) (b off : Nat) (x : D) (H : Heap) : Option (D × Heap) :=
  match H[b]? with
  | some (.cells t sz cs) =>
    match cs[off]?, cs[off + 1]? with
    | some (.v (.int .u32 0)), some (.v (.int .i32 0)) =>
      match Gf [x] (H.set b (.cells t sz (cs.set (off + 1) (.v (.int .i32 1))))) with
      | some (.tup [], H2) =>
        match H2[b]? with
        | some (.cells t2 sz2 cs2) =>
          match cs2[off]?, cs2[off + 1]? with
          | some (.v y), some (.v (.int .i32 1)) => some (.tup [], (H2.set b (.cells t2 sz2 (cs2.set off (.v (.int .u32 1))))).set b (.cells t2 sz2 ((cs2.set off (.v (.int .u32 1))).set (off + 1) (.v (.int .i32 0)))))
          | _, _ => none
        | _ => none
      | _ => none
    | _, _ => none
  | _ => none
theorem Jvf        {Gf : List D → Heap → Option (D × Heap)} {b off : Nat} {x d : D} {H H' : Heap} (h : Qg2   Gf b off x H = some (d, H')) :
    ∃ t sz cs H2 t2 sz2 cs2 y, H[b]? = some (.cells t sz cs) /\ cs[off]? = some (.v (.int .u32 0)) /\ cs[off + 1]? = some (.v (.int .i32 0)) /\ Gf [x] (H.set b (.cells t sz (cs.set (off + 1) (.v (.int .i32 1))))) = some (.tup [], H2) /\
      H2[b]? = some (.cells t2 sz2 cs2) /\ cs2[off]? = some (.v y) /\ cs2[off + 1]? = some (.v (.int .i32 1)) /\ d = .tup [] /\ H' = (H2.set b (.cells t2 sz2 (cs2.set off (.v (.int .u32 1))))).set b (.cells t2 sz2 ((cs2.set off (.v (.int .u32 1))).set (off + 1) (.v (.int .i32 0)))) := by
  unfold Qg2 at h
  split at h
  · rename_i t sz cs h1
    split at h
    · rename_i h2 h3
      split at h
      · rename_i H2 h4
        split at h
        · rename_i t2 sz2 cs2 h5
          split at h
          · rename_i y h6 h7
            cases h
            exact ⟨t, sz, cs, H2, t2, sz2, cs2, y, h1, h2, h3, h4, h5, h6, h7, rfl, rfl⟩
          · cases h
        · cases h
      · cases h
    · cases h
  · cases h
end Go.Proofs.YtinnbafplhcnpaaGreat
end
section
namespace Go.Proofs.YtinnbafplhcnpaaGreat
open Go.RowKit
set_option linter.unusedVariables false
set_option linter.unusedSimpArgs false
theorem Jo1      {B : Nat} {S : Nat → Prop} {L : List (Nat × Nat)} {w : World} {H : Heap} (h : HRel B S L w H) {id : Nat} {t : TypeId} {sz : Nat} {cs : List D} (hid : H[id]? = some (HO.cells t sz cs)) {b c : Nat} (hL : L[id]? = some (b, c)) (off : Nat) {y : Value} (hy : cs[off]? = some (.v y)) :
    w.cell? ⟨b, off, none⟩ = some y /\ w.frozen? ⟨b, off, none⟩ = false := by
  obtain ⟨b', c', arr, h1, h2, h3, h4, h5, h6, h7, h8⟩ := h.live id t sz cs hid
  rw [hL] at h1
  cases h1
  obtain ⟨x, q1, q2, q3⟩ := h8 off _ hy
  simp only [Rep] at q3
  subst q3
  exact ⟨(cell_of_heap h4 off).trans q1, frozen_of_row w b off arr t h4⟩
set_option maxRecDepth 100000 in
set_option maxHeartbeats 1600000 in
theorem slow_any {Gf : List D → Heap → Option (D × Heap)} (hf : HCallOk Tryz.prog 56 Gf) {B : Nat} {S : Nat → Prop} {L : List (Nat × Nat)} {w : World} {H : Heap} (hr : HRel B S L w H)
    {b off : Nat} {x d : D} {H' : Heap} (h : Qg2 Gf b off x H = some (d, H')) {blk c : Nat} (hL : L[b]? = some (blk, c)) {xv : Value} (hx : Rep S L w xv x) :
    Calls Tryz.prog 95 #[.pointer (some ⟨blk, off, none⟩), .func (.func 56) #[xv] #[]] w fun e w' => ∃ S' L', e = .returned (.tuple #[]) /\ HRel B S' L' w' H' /\ Later B S S' L L' w w' := by
  obtain ⟨t, sz, cs, H2, t2, sz2, cs2, y, k1, k2, k3, k4, k5, k6, k7, rfl, rfl⟩ := Jvf h
  have hlt0 := (List.getElem?_eq_some_iff.1 k2).1
  have hlt1 := (List.getElem?_eq_some_iff.1 k3).1
  obtain ⟨h0, f0⟩ := Jo1 hr k1 hL off k2
  obtain ⟨h1, f1⟩ := Jo1 hr k1 hL (off + 1) k3
  obtain ⟨hr1, la1⟩ := hr.setCell k1 hL (off + 1) hlt1 (x := .int .i32 1) (d := .v (.int .i32 1)) rfl (by simp only [Rep])
  have hl := run_call_load (P := Tryz.prog) Tryz.func122 (by kernel_rfl) (by kernel_rfl) (by kernel_rfl) .u32 (by kernel_rfl) (w := w.setCell ⟨blk, off + 1, none⟩ (.int .i32 1)) (a := ⟨blk, off, none⟩) (x := 0) ((World.cell?_setCell_other _ ⟨blk, off + 1, none⟩ ⟨blk, off, none⟩ _ (by simp)).trans h0)
  have hnot : ∀ (x : Bool) (w : World), (Op.unary .not (.bool x)).run Tryz.prog w = .ok (.bool (!x)) w := fun _ _ => rfl
  have hcall := hf.calls [x] _ (.tup []) H2 k4 B S L [xv] _ hr1 (RepA.cons (la1.rep hx) RepA.nil)
  go_enter_defers Tryz.func95, Tryz.ntmps95
  go_wp2_with (first
    | (go_at_call 123; refine (lock_free ⟨blk, off + 1, none⟩ _ (by go_simp) (by go_simp)).mono ?_; rintro e w' ⟨rfl, rfl⟩)
    | (go_at_call 94; go_in)
    | (go_at_call 56; refine hcall.mono ?_; rintro e w' ⟨v, S2, L2, rfl, hv, hr2, la2⟩))
  have hL2 : L2[b]? = some (blk, c) := Je8 la2.pre _ _ hL
  obtain ⟨g0, e0⟩ := Jo1 hr2 k5 hL2 off k6
  have hm0 := (List.getElem?_eq_some_iff.1 k6).1
  have hm1 := (List.getElem?_eq_some_iff.1 k7).1
  obtain ⟨hr3, la3⟩ := hr2.drew
  obtain ⟨hr4, la4⟩ := hr3.setCell k5 hL2 off hm0 (x := .int .u32 1) (d := .v (.int .u32 1)) rfl (by simp only [Rep])
  have k8 : (H2.set b (.cells t2 sz2 (cs2.set off (.v (.int .u32 1)))))[b]? = some (.cells t2 sz2 (cs2.set off (.v (.int .u32 1)))) := List.getElem?_set_self (List.getElem?_eq_some_iff.1 k5).1
  obtain ⟨g1, e1⟩ := Jo1 hr4 k8 hL2 (off + 1) (y := .int .i32 1) (by rw [List.getElem?_set_ne (by omega)]; exact k7)
  obtain ⟨hr5, la5⟩ := hr4.setCell k8 hL2 (off + 1) (by simpa using hm1) (x := .int .i32 0) (d := .v (.int .i32 0)) rfl (by simp only [Rep])
  refine leaves_cons (f := 125) (args := #[.pointer (some ⟨blk, off, none⟩), .bool true]) (by simp) (by simp [go_sem]) ?_
  refine (store_deferred ⟨blk, off, none⟩ y .returning _ g0 e0).mono ?_
  rintro e u' w'' ⟨rfl, rfl, rfl⟩
  refine leaves_cons (f := 124) (args := #[.pointer (some ⟨blk, off + 1, none⟩)]) (by simp [settle]) (by simp [go_sem]) ?_
  refine (unlock_deferred ⟨blk, off + 1, none⟩ _ _ g1 e1).mono ?_
  rintro e u' w'' ⟨rfl, rfl, rfl⟩
  simp only [Leaves, settle, results, Tryz.results95]
  refine ⟨_, by simp, S2, L2, rfl, hr5, la1.trans (la2.trans (la3.trans (la4.trans la5)))⟩
def G_Do (Gf : List D -> Heap -> Option (D × Heap)) : List D -> Heap -> Option (D × Heap)
  | [.hp b off, .clo (.func g) [x] []], H => if g = 56 then Qg2 Gf b off x H else none
  | _, _ => none
set_option maxRecDepth 100000 in
set_option maxHeartbeats 1600000 in
theorem C_Do {Gf : List D -> Heap -> Option (D × Heap)} (hf : HCallOk Tryz.prog 56 Gf) : HCallOk Tryz.prog 55 (G_Do Gf) := by
  refine ⟨⟨_, Tryz.func55, by decide, rfl⟩, fun ds H d H' h B S L vs w hr hv => ?_⟩
  unfold G_Do at h
  split at h
  · rename_i b off g x
    split at h
    case isFalse => cases h
    rename_i hg
    subst hg
    simp only [RepA] at hv
    obtain ⟨u0, t0, rfl, r0, u1, t1, rfl, r1, rfl⟩ := hv
    simp only [Rep] at r0 r1
    obtain ⟨blk, c, hL, rfl⟩ := r0
    obtain ⟨ys, zs, rfl, hy, hz⟩ := r1
    simp only [RepA] at hy hz
    obtain ⟨xv, t2, rfl, hx, rfl⟩ := hy
    subst hz
    obtain ⟨t, sz, cs, H2, t2, sz2, cs2, y, k1, k2, k3, k4, k5, k6, k7, hd, hH'⟩ := Jvf h
    obtain ⟨h0, f0⟩ := Jo1 hr k1 hL off k2
    have hl := run_call_load (P := Tryz.prog) Tryz.func122 (by kernel_rfl) (by kernel_rfl) (by kernel_rfl) .u32 (by kernel_rfl) h0
    have hnot : ∀ (x : Bool) (w : World), (Op.unary .not (.bool x)).run Tryz.prog w = .ok (.bool (!x)) w := fun _ _ => rfl
    have hslow := slow_any hf hr h hL hx
    subst hd
    clear h k1 k2 k3 k4 k5 k6 k7 hH' hx hf
    go_enter Tryz.func55, Tryz.ntmps55
    go_wp2_with (first
      | (go_at_call 95; refine hslow.mono ?_; rintro e w' ⟨S2, L2, rfl, hr2, la2⟩)
      | (go_at_call 94; go_in))
    go_end0
    exact ⟨.tuple #[], S2, L2, rfl, by simp only [Rep]; exact ⟨[], rfl, RepA.nil⟩, hr2, la2⟩
  · cases h
end Go.Proofs.YtinnbafplhcnpaaGreat
end
