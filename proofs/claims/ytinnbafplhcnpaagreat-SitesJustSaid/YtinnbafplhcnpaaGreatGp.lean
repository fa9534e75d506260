/-
  Parts joined into one text: Sh14c, SiteC, PathOrd, Sites, T14d, Once, OnceDo, T14e, Sh14d, T14f, Sh14e, OfLen, T14g. No condition.
-/
import Derived.Test.YtinnbafplhcnpaaGreatProg
import Derived.Tactics
import Derived.Tactics2
import Derived.Defers
import Derived.Laws.Pointers
import Derived.Laws.LoneSync
import Derived.RegionTactic
import Derived.RegionCalls
import Derived.ChangeAlike
import Derived.Laws.NewBlocks
import Derived.Laws.Rows
import Derived.Test.YtinnbafplhcnpaaGreatGe
import Derived.Test.YtinnbafplhcnpaaGreatGf
import Derived.Test.YtinnbafplhcnpaaGreatGj
import Derived.Test.YtinnbafplhcnpaaGreatGk
import Derived.Test.YtinnbafplhcnpaaGreatGn
import Derived.Test.YtinnbafplhcnpaaGreatGo

section
namespace Go.Proofs.YtinnbafplhcnpaaGreat
open Go.RowKit
set_option linter.unusedVariables false
set_option maxRecDepth 100000
variable (Y : Nat → List D → Heap → Option (D × Heap))

def kp_sites_book__fill : List Nat := [1]
theorem sh_sites_book__fill (n : Nat) (x0 : D) (h : Heap) : textK Tryz.prog (T14f Tryz.prog Y) kp_sites_book__fill n Tryz.f56 [x0] h =
(thnH (boxH 55 x0 h) fun y0 h1 =>
thn (loadH none h1 y0) fun y2 =>
thnH ((G_each Tryz.prog) [y2] h1) fun y3 h4 =>
leaveR3 (rangeS (T14f Tryz.prog Y) y3 [5] (rangeA Tryz.f56 0) (rangeB Tryz.f56 0) 16 kp_sites_book__fill [y0] h4) (fun h6 =>
some (.tup [], h6)) (fun l5 h6 =>
condN l5 0
(some (.tup [], h6))
(none)) (fun h6 =>
some (.tup [], h6))) := by kernel_rfl

theorem rd_sites_book__fill_0 (n id : Nat) (s0 : D) (a0 : D) (h : Heap) : roundB Tryz.prog (T14f Tryz.prog Y) n id [5] (rangeA Tryz.f56 0) (rangeB Tryz.f56 0) 16 kp_sites_book__fill [s0] [a0] h =
(thnH (allocH 34 [(.v (.slice none 0 0)), (iD 0), (iD 0)] h) fun y0 h1 =>
thnH (setH 3 y0 a0 h1) fun y2 h3 =>
busyK id h3 fun h4 =>
thn (loadH none h4 s0) fun y5 =>
thn (loadH none h4 s0) fun y6 =>
thn (nilD y6) fun y7 =>
thn (fieldAtH 6 y7) fun y8 =>
thn (loadH none h4 y8) fun y9 =>
thn (loadH (some 3) h4 y0) fun y10 =>
thnH (rowH 34 3 1 [(.v (.slice none 0 0)), (iD 0), (iD 0)] [(0, y10)] h4) fun y11 h12 =>
thnH (appendH 34 3 y9 y11 h12) fun y13 h14 =>
thn (nilD y5) fun y15 =>
thn (fieldAtH 6 y15) fun y16 =>
thnH (setH 1 y16 y13 h14) fun y17 h18 =>
apartK s0 y9
(endR id .normal h18)) := by kernel_rfl

end Go.Proofs.YtinnbafplhcnpaaGreat
end

section
namespace Go.Proofs.YtinnbafplhcnpaaGreat
open Go.RowKit
set_option linter.unusedVariables false
set_option linter.unusedSimpArgs false

/-- The cells of deltas: each path in a row of ints (of type e) of its own, or nil. -/
def CellsOf (e : TypeId) (H : Heap) (B : Nat) : List D → List Dl → Prop
  | [], [] => True
  | pd :: o :: n :: r, x :: ls => (Buf e 1 H B pd x.path.length (intsC x.path) ∧ o = iD x.op ∧ n = iD x.n) ∧ CellsOf e H B r ls
  | _, _ => False
theorem CellsOf.nil (e : TypeId) (H : Heap) (B : Nat) : CellsOf e H B [] [] := trivial
theorem CellsOf.len {e : TypeId} {H : Heap} {B : Nat} : ∀ {cs : List D} {ls : List Dl}, CellsOf e H B cs ls → cs.length = ls.length * 3
  | [], [], _ => rfl
  | pd :: o :: n :: r, x :: ls, h => by
    have := CellsOf.len h.2
    simp only [List.length_cons]
    omega
  | [], _ :: _, h => h.elim
  | [_], _, h => by cases h
  | [_, _], _, h => by cases h
  | _ :: _ :: _ :: _, [], h => h.elim
theorem CellsOf.keep {e : TypeId} {H H' : Heap} {B : Nat} (k : ∀ (r : Nat) (l : List Int), H[r]? = some (.cells e 1 (intsC l)) → H'[r]? = H[r]?) : ∀ {cs : List D} {ls : List Dl}, CellsOf e H B cs ls → CellsOf e H' B cs ls
  | [], [], _ => trivial
  | pd :: o :: n :: r, x :: ls, h => by
    refine ⟨⟨?_, h.1.2⟩, CellsOf.keep k h.2⟩
    rcases h.1.1 with q | ⟨q, q1, q2, q3, q4⟩
    · exact .inl q
    · exact .inr ⟨q, q1, q2, (k q _ q3).trans q3, q4⟩
  | [], _ :: _, h => h.elim
  | [_], _, h => by cases h
  | [_, _], _, h => by cases h
  | _ :: _ :: _ :: _, [], h => h.elim
theorem CellsOf.app {e : TypeId} {H : Heap} {B : Nat} {pd : D} {x : Dl} (hx : Buf e 1 H B pd x.path.length (intsC x.path)) : ∀ {cs : List D} {ls : List Dl}, CellsOf e H B cs ls → CellsOf e H B (cs ++ [pd, iD x.op, iD x.n]) (ls ++ [x])
  | [], [], _ => ⟨⟨hx, rfl, rfl⟩, trivial⟩
  | pd' :: o :: n :: r, y :: ls, h => ⟨h.1, CellsOf.app hx h.2⟩
  | [], _ :: _, h => h.elim
  | [_], _, h => by cases h
  | [_, _], _, h => by cases h
  | _ :: _ :: _ :: _, [], h => h.elim
/-- Read by value. -/
theorem CellsOf.deref {e : TypeId} {H : Heap} {B : Nat} (n : Nat) : ∀ {cs : List D} {ls : List Dl}, CellsOf e H B cs ls → ∃ es, cs.mapM (derefN H (n + 1)) = some es ∧ (chunks 3 ls.length es).mapM asDlC = some ls
  | [], [], _ => ⟨[], rfl, rfl⟩
  | pd :: o :: m :: r, x :: ls, h => by
    obtain ⟨⟨h1, rfl, rfl⟩, h4⟩ := h
    obtain ⟨es, q1, q2⟩ := CellsOf.deref n h4
    obtain ⟨d', z1, z2⟩ := h1.ints n
    refine ⟨d' :: iD x.op :: iD x.n :: es, ?_, ?_⟩
    · rw [List.mapM_cons, List.mapM_cons, List.mapM_cons, z1, derefN_pure H (n + 1) _ rfl, derefN_pure H (n + 1) _ rfl, q1]; rfl
    · rw [List.length_cons, chunks]
      simp only [List.take_succ_cons, List.take_zero, List.drop_succ_cons, List.drop_zero, List.mapM_cons]
      rw [q2]
      have : asDlC [d', iD x.op, iD x.n] = some x := by simp [asDlC, z2, asInt]
      rw [this]; rfl
  | [], _ :: _, h => h.elim
  | [_], _, h => by cases h
  | [_, _], _, h => by cases h
  | _ :: _ :: _ :: _, [], h => h.elim
theorem derefN_hs (H : Heap) (n id k : Nat) (t : TypeId) (sz : Nat) (cs : List D) (h : H[id]? = some (.cells t sz cs)) (hk : k * sz ≤ cs.length) : derefN H (n + 1) (.hs id k) = ((cs.take (k * sz)).mapM (derefN H n)).map fun es => .sl sz (chunks sz k es) := by
  simp only [derefN, h]
  rw [if_pos hk]
theorem CellsOf.dls {e t : TypeId} {H : Heap} {B : Nat} {d : D} {cs : List D} {ls : List Dl} (hb : Buf t 3 H B d ls.length cs) (hc : CellsOf e H B cs ls) (n : Nat) : ∃ d', derefN H (n + 2) d = some d' ∧ asDls d' = some ls := by
  rcases hb with ⟨rfl, h1, _⟩ | ⟨r, h1, rfl, h3, h4⟩
  · have : ls = [] := List.length_eq_zero_iff.1 h1
    subst this
    exact ⟨_, derefN_pure H (n + 2) _ rfl, rfl⟩
  · obtain ⟨es, q1, q2⟩ := hc.deref n
    refine ⟨.sl 3 (chunks 3 ls.length es), ?_, q2⟩
    have hl := hc.len
    rw [derefN_hs H (n + 1) r ls.length t 3 cs h3 (by omega), List.take_of_length_le (by omega), q1]; rfl
/-- In memory of its own. -/
theorem CellsOf.own {e : TypeId} {H : Heap} {B0 B : Nat} {S : Nat → Prop} {L : List (Nat × Nat)} {w : World} (hr : HRel B0 S L w H) : ∀ {cs : List D} {ls : List Dl}, CellsOf e H B cs ls → ∀ xs, RepA S L w xs cs → RepA (fun k => B0 ≤ k ∧ k < w.heap.size) [] w xs (ls.map dlC).flatten
  | [], [], _, xs, hx => by simpa only [List.map_nil, List.flatten_nil, RepA] using hx
  | pd :: o :: m :: r, x :: ls, h, xs, hx => by
    obtain ⟨⟨h1, rfl, rfl⟩, h4⟩ := h
    have e2 : ((x :: ls).map dlC).flatten = intsD x.path :: iD x.op :: iD x.n :: (ls.map dlC).flatten := rfl
    rw [e2]
    simp only [RepA] at hx ⊢
    obtain ⟨a, t, q1, q2, b, u, q3, q4, c, v, q5, q6, q7⟩ := hx
    refine ⟨a, t, q1, ?_, b, u, q3, by simpa only [Rep] using q4, c, v, q5, by simpa only [Rep] using q6, CellsOf.own hr h4 v q7⟩
    have hb0 : Buf e 1 H 0 pd x.path.length (intsC x.path) := by
      rcases h1 with z | ⟨z, _, z2⟩
      · exact .inl z
      · exact .inr ⟨z, Nat.zero_le _, z2⟩
    refine rep_rowG hr (by omega) hb0 (els := x.path.map oneI) (by simp) (fun e he => by obtain ⟨y, _, rfl⟩ := List.mem_map.1 he; rfl) (fun ys hy => ?_) q2
    have : (x.path.map oneI).flatten = intsC x.path := by
      generalize x.path = p
      induction p with
      | nil => rfl
      | cons y r ih => rw [List.map_cons, List.flatten_cons, ih]; rfl
    rw [this]
    clear this hb0 q2 q1 h1
    revert ys
    generalize x.path = p
    induction p with
    | nil => intro ys hy; simpa only [intsC, List.map_nil, RepA] using hy
    | cons y r ih =>
      intro ys hy
      have e3 : intsC (y :: r) = iD y :: intsC r := rfl
      rw [e3] at hy ⊢
      simp only [RepA, Rep] at hy ⊢
      obtain ⟨a, t, z1, z2, z3⟩ := hy
      exact ⟨a, t, z1, z2, ih t z3⟩
  | [], _ :: _, h, _, _ => h.elim
  | [_], _, h, _, _ => by cases h
  | [_, _], _, h, _, _ => by cases h
  | _ :: _ :: _ :: _, [], h, _, _ => h.elim
theorem row_delP (t : TypeId) (pd : D) (a b : Int) (H : Heap) (h : cellOk pd = true) : rowH t 3 1 [.v (.slice none 0 0), iD 0, iD 0] [(0, .agg [pd, iD a, iD b])] H = some (.hs H.length 1, H ++ [.cells t 3 [pd, iD a, iD b]]) := by
  show ((newH t 3 [pd, iD a, iD b] H).map fun r => (D.hs r.1 1, r.2)) = _
  unfold newH
  rw [if_pos (by simp [h])]; rfl
theorem set_delP (t : TypeId) (pd x y z : D) (a b : Int) (H : Heap) (i : Nat) (hi : H[i]? = some (.cells t 3 [x, y, z])) (h : cellOk pd = true) : setH 3 (.hp i 0) (.agg [pd, iD a, iD b]) H = some (.v undef, H.set i (.cells t 3 [pd, iD a, iD b])) := by
  simp [setH, storeH, hi, cellsD, h]
theorem load_delP (t : TypeId) (x y z : D) (H : Heap) (i : Nat) (hi : H[i]? = some (.cells t 3 [x, y, z])) : loadH (some 3) H (.hp i 0) = some (.agg [x, y, z]) := by
  simp [loadH, hi, partS]
theorem set_lastH (H : Heap) (o o' : HO) : (H ++ [o]).set H.length o' = H ++ [o'] := by
  rw [List.set_append_right _ _ (Nat.le_refl _)]; simp
theorem src_ints (H : Heap) (l : List Int) : srcH 1 H (intsD l) = some (intsC l) := by
  show (elsD 1 (.sl 1 (l.map oneI))).map List.flatten = _
  have : elsD 1 (.sl 1 (l.map oneI)) = some (l.map oneI) := elsD_intsD l
  rw [this, Option.map_some]
  congr 1
  induction l with
  | nil => rfl
  | cons y r ih => rw [List.map_cons, List.flatten_cons, ih (elsD_intsD r)]; rfl
theorem Buf.low {e : TypeId} {sz : Nat} {H : Heap} {B : Nat} {d : D} {n : Nat} {cs : List D} (h : Buf e sz H B d n cs) : Buf e sz H 0 d n cs := by
  rcases h with h | ⟨r, _, h⟩
  · exact .inl h
  · exact .inr ⟨r, Nat.zero_le _, h⟩
theorem CellsOf.low {e : TypeId} {H : Heap} {B : Nat} : ∀ {cs : List D} {ls : List Dl}, CellsOf e H B cs ls → CellsOf e H 0 cs ls
  | [], [], _ => trivial
  | pd :: o :: n :: r, x :: ls, h => ⟨⟨h.1.1.low, h.1.2⟩, CellsOf.low h.2⟩
  | [], _ :: _, h => h.elim
  | [_], _, h => by cases h
  | [_, _], _, h => by cases h
  | _ :: _ :: _ :: _, [], h => h.elim
end Go.Proofs.YtinnbafplhcnpaaGreat
end

section
namespace Go.Proofs.YtinnbafplhcnpaaGreat

theorem down_order (l : List Nd) : ∀ (a b : List Int) (r : Int), 0 ≤ endv l r → 0 ≤ downV l r a → 0 ≤ downV l r b → downV l r a < downV l r b → cmpL a b < 0
  | [], [], r, _, _, _, h => by omega
  | [], _ :: _, r, _, _, _, _ => by simp [cmpL]
  | m :: a, [], r, hr, h1, _, h => by
    have := downV_range l (m :: a) r hr h1
    have h2 : downV l r [] = r := rfl
    omega
  | m :: a, n :: b, r, hr, h1, h2, h => by
    by_cases hm : 0 ≤ m ∧ m.toNat < (kidsv l r).length
    · by_cases hn : 0 ≤ n ∧ n.toNat < (kidsv l r).length
      · obtain ⟨j, rfl⟩ := Int.eq_ofNat_of_zero_le hm.1
        obtain ⟨k, rfl⟩ := Int.eq_ofNat_of_zero_le hn.1
        have hj : j < (kidsv l r).length := by simpa using hm.2
        have hk : k < (kidsv l r).length := by simpa using hn.2
        obtain ⟨h0, _⟩ := endv_in l r hr
        obtain ⟨t, rfl⟩ := Int.eq_ofNat_of_zero_le h0
        obtain ⟨ej, hja⟩ := kidsv_get l t hr j hj
        obtain ⟨ek, hka⟩ := kidsv_get l t hr k hk
        have rj := kth_range l t hr j hja
        have rk := kth_range l t hr k hka
        rw [downV_in l t j a j rfl hj, ej] at h1 h
        rw [downV_in l t k b k rfl hk, ek] at h2 h
        rcases Nat.lt_trichotomy j k with hjk | rfl | hjk
        · rw [cmpL, if_pos (by omega)]; omega
        · rw [cmpL, if_neg (by omega), if_neg (by omega)]
          exact down_order l a b _ rj.2.2.1 h1 h2 h
        · have g1 := downV_range l a _ rj.2.2.1 h1
          have g2 := downV_range l b _ rk.2.2.1 h2
          have g3 := kth_mono l t hr (k + 1) (j - (k + 1)) (by omega)
          rw [show k + 1 + (j - (k + 1)) = j from by omega] at g3
          have g4 : endv l (kth l (t + 1) k) = kth l (t + 1) (k + 1) := rfl
          omega
      · rw [downV_out l r n b hn] at h2; omega
    · rw [downV_out l r m a hm] at h1; omega

section whole
variable {l : List Nd} (hw : endv l 0 = l.length)
include hw
theorem ofv_order {i k : Int} {a b : List Int} (ha : ofv l i = some a) (hb : ofv l k = some b) (h : i < k) : cmpL a b < 0 := by
  have h1 := ofv_down hw ha
  have h2 := ofv_down hw hb
  have i1 := (ofv_some_iff hw i).1 (by rw [ha]; rfl)
  have k1 := (ofv_some_iff hw k).1 (by rw [hb]; rfl)
  exact down_order l a b 0 (by omega) (by omega) (by omega) (by omega)
end whole

end Go.Proofs.YtinnbafplhcnpaaGreat
end

section
namespace Go.Proofs.YtinnbafplhcnpaaGreat
open Go.RowKit
set_option linter.unusedVariables false
set_option linter.unusedSimpArgs false

theorem cmpDl_same {a b : Dl} (h : a.path = b.path) (hl : lexR (a.op, a.n) (b.op, b.n)) : cmpDl a b < 0 := by
  unfold cmpDl
  rw [if_neg (by simpa using (cmpL_zero _ _).2 h)]
  unfold lexR at hl
  rcases hl with hl | hl
  · have := (cmpI_lt a.op b.op).2 hl
    rw [if_pos (by omega)]
    exact this
  · simp only at hl
    rw [if_neg (by simpa using (cmpI_zero _ _).2 hl.1)]
    exact (cmpI_lt _ _).2 hl.2

/-- The mutants at a node. -/
def siteV (l : List Nd) (k : Int) : List Dl := (choicesV l k).map fun e => ⟨(ofv l k).getD [], e.1, e.2⟩
/-- All mutants of a program. -/
def sitesV (l : List Nd) : List Dl := (List.range l.length).flatMap fun k : Nat => siteV l k
section whole
variable {l : List Nd} (hl : endv l 0 = l.length)
include hl
theorem mem_siteV (k : Int) (d : Dl) : d ∈ siteV l k ↔ ofv l k = some d.path ∧ isC l k d.op d.n := by
  unfold siteV
  rw [List.mem_map]
  constructor
  · rintro ⟨⟨o, n⟩, h, rfl⟩
    rw [choices_is] at h
    refine ⟨?_, h⟩
    obtain ⟨p, hp⟩ := Option.isSome_iff_exists.1 ((ofv_some_iff hl k).2 ⟨(endv_in l k h.1).1, by have := (endv_in l k h.1).2; omega⟩)
    rw [hp]; rfl
  · rintro ⟨h1, h2⟩
    exact ⟨(d.op, d.n), (choices_is l k d.op d.n).2 h2, by rw [h1]; rfl⟩
theorem ofv_findv (k : Int) (hk : 0 ≤ k) (p : List Int) : ofv l k = some p ↔ findv l p = k := by
  rw [findv, if_pos hl]
  exact ⟨fun h => ofv_down hl h, fun h => down_ofv hl hk h⟩
theorem mem_sitesV (d : Dl) : d ∈ sitesV l ↔ 0 ≤ findv l d.path ∧ isC l (findv l d.path) d.op d.n := by
  unfold sitesV
  rw [List.mem_flatMap]
  constructor
  · rintro ⟨k, hk, h⟩
    obtain ⟨h1, h2⟩ := (mem_siteV hl k d).1 h
    rw [ofv_findv hl k (by omega)] at h1
    rw [h1]
    exact ⟨by omega, h2⟩
  · rintro ⟨h1, h2⟩
    obtain ⟨k, hk⟩ := Int.eq_ofNat_of_zero_le h1
    refine ⟨k, ?_, ?_⟩
    · rw [List.mem_range]
      have := (endv_in l _ h2.1).2
      omega
    · rw [mem_siteV hl, ofv_findv hl k (by omega), ← hk]
      exact ⟨rfl, h2⟩
omit hl in
theorem siteV_sorted (k : Int) : (siteV l k).Pairwise fun a b => cmpDl a b < 0 := by
  unfold siteV
  rw [List.pairwise_map]
  exact (choices_sorted l k).imp fun {a b} h => cmpDl_same (a := ⟨_, a.1, a.2⟩) (b := ⟨_, b.1, b.2⟩) rfl h
theorem sitesV_sorted : (sitesV l).Pairwise fun a b => cmpDl a b < 0 := by
  unfold sitesV
  rw [List.pairwise_flatMap]
  refine ⟨fun k _ => siteV_sorted k, ?_⟩
  refine (List.pairwise_lt_range (n := l.length)).imp fun {i k} h a ha b hb => ?_
  have h1 := ((mem_siteV hl i a).1 ha).1
  have h2 := ((mem_siteV hl k b).1 hb).1
  exact cmpDl_path (ofv_order hl h1 h2 (by omega))
/-- The mutants of one path are those at its node. -/
theorem sitesV_own (i : Int) (p : List Int) (h : ofv l i = some p) : ((sitesV l).filter fun d => decide (d.path = p)) = siteV l i := by
  apply pw_unique (fun a b => cmpDl a b < 0)
  · intro a; have := (cmpDl_zero a a).2 rfl; omega
  · intro a b h; have := cmpDl_swap a b; omega
  · exact (sitesV_sorted hl).filter _
  · exact siteV_sorted i
  · intro d
    have hi := (ofv_some_iff hl i).1 (by rw [h]; rfl)
    rw [List.mem_filter, mem_sitesV hl, mem_siteV hl, ofv_findv hl i hi.1]
    rw [ofv_findv hl i hi.1] at h
    simp only [decide_eq_true_eq]
    constructor
    · rintro ⟨⟨h1, h2⟩, rfl⟩
      rw [h] at h2
      exact ⟨h, h2⟩
    · rintro ⟨h1, h2⟩
      have : d.path = p := by
        have e1 := (ofv_findv hl i hi.1 d.path).2 h1
        have e2 := (ofv_findv hl i hi.1 p).2 h
        rw [e1] at e2
        exact Option.some.inj e2
      rw [this, h]
      exact ⟨⟨hi.1, h2⟩, rfl⟩
end whole
theorem siteV_len (l : List Nd) (k : Int) : (siteV l k).length = (choicesV l k).length := by simp [siteV]
theorem sitesV_len (l : List Nd) : (sitesV l).length = ((List.range l.length).map fun k : Nat => (choicesV l k).length).sum := by
  unfold sitesV
  rw [List.length_flatMap]
  congr 1
  exact List.map_congr_left fun k _ => siteV_len l k
theorem sitesV_short (l : List Nd) : (sitesV l).length ≤ 5 * l.length := by
  rw [sitesV_len]
  have : ∀ n : Nat, ((List.range n).map fun k : Nat => (choicesV l k).length).sum ≤ 5 * n := by
    intro n
    induction n with
    | zero => simp
    | succ n ih =>
      rw [List.range_succ, List.map_append, List.sum_append]
      have := choices_short l n
      simp
      omega
  exact this _
/-- Where a delta stands, between two places. -/
def bsV (l : List Dl) (d : Dl) : Nat → Nat → Nat → Int
  | 0, _, _ => -1
  | f + 1, lo, hi =>
    if lo < hi then
      (if cmpDl (l.getD (lo + (hi - lo) / 2) default) d = 0 then ((lo + (hi - lo) / 2 : Nat) : Int) else
        if cmpDl (l.getD (lo + (hi - lo) / 2) default) d < 0 then bsV l d f (lo + (hi - lo) / 2 + 1) hi else bsV l d f lo (lo + (hi - lo) / 2))
    else -1
def findD (l : List Dl) (d : Dl) : Int := bsV l d (l.length + 1) 0 l.length
theorem bsV_hit (l : List Dl) (d : Dl) : ∀ (f lo hi : Nat), bsV l d f lo hi = -1 ∨ ∃ k : Nat, bsV l d f lo hi = k ∧ lo ≤ k ∧ k < hi ∧ l.getD k default = d
  | 0, _, _ => .inl rfl
  | f + 1, lo, hi => by
    unfold bsV
    split
    · split
      · rename_i h1 h2
        exact .inr ⟨_, rfl, by omega, by omega, (cmpDl_zero _ _).1 h2⟩
      · split
        · rcases bsV_hit l d f (lo + (hi - lo) / 2 + 1) hi with h | ⟨k, h, h1, h2, h3⟩
          · exact .inl h
          · exact .inr ⟨k, h, by omega, h2, h3⟩
        · rcases bsV_hit l d f lo (lo + (hi - lo) / 2) with h | ⟨k, h, h1, h2, h3⟩
          · exact .inl h
          · exact .inr ⟨k, h, h1, by omega, h3⟩
    · exact .inl rfl
theorem bsV_find (l : List Dl) (d : Dl) (hs : l.Pairwise fun a b => cmpDl a b < 0) : ∀ (f lo hi : Nat), hi ≤ l.length → hi < lo + f → (∃ i, lo ≤ i ∧ i < hi ∧ l.getD i default = d) → bsV l d f lo hi ≠ -1
  | 0, lo, hi, _, h1, ⟨i, h2, h3, _⟩ => by omega
  | f + 1, lo, hi, hhi, h1, ⟨i, h2, h3, h4⟩ => by
    have get : ∀ j, j < hi → l.getD j default = l[j]! := fun j hj => by simp [List.getD_eq_getElem?_getD, List.getElem?_eq_getElem (show j < l.length by omega), List.getElem!_eq_getElem?_getD]
    have ord : ∀ i j, i < j → j < l.length → cmpDl (l.getD i default) (l.getD j default) < 0 := fun i j hij hj => by
      have := (List.pairwise_iff_getElem.1 hs) i j (by omega) hj hij
      simpa [List.getD_eq_getElem?_getD, List.getElem?_eq_getElem hj, List.getElem?_eq_getElem (show i < l.length by omega)] using this
    unfold bsV
    rw [if_pos (by omega)]
    split
    · omega
    · rename_i hne
      have hm : lo + (hi - lo) / 2 ≠ i := by
        rintro rfl
        exact hne ((cmpDl_zero _ _).2 h4)
      split
      · rename_i hlt
        refine bsV_find l d hs f _ hi hhi (by omega) ⟨i, ?_, h3, h4⟩
        refine Decidable.byContradiction fun hc => ?_
        have := ord i (lo + (hi - lo) / 2) (by omega) (by omega)
        rw [h4, cmpDl_swap] at this
        omega
      · rename_i hge
        refine bsV_find l d hs f lo _ (by omega) (by omega) ⟨i, h2, ?_, h4⟩
        refine Decidable.byContradiction fun hc => ?_
        have := ord (lo + (hi - lo) / 2) i (by omega) (by omega)
        rw [h4] at this
        omega
theorem findD_hit (l : List Dl) (d : Dl) : findD l d = -1 ∨ ∃ k : Nat, findD l d = k ∧ k < l.length ∧ l[k]? = some d := by
  rcases bsV_hit l d (l.length + 1) 0 l.length with h | ⟨k, h, _, h2, h3⟩
  · exact .inl h
  · refine .inr ⟨k, h, h2, ?_⟩
    rw [List.getElem?_eq_getElem h2]
    simpa [List.getD_eq_getElem?_getD, List.getElem?_eq_getElem h2] using h3
theorem findD_iff (l : List Dl) (d : Dl) (hs : l.Pairwise fun a b => cmpDl a b < 0) : 0 ≤ findD l d ↔ d ∈ l := by
  constructor
  · intro h
    rcases findD_hit l d with e | ⟨k, _, hk, e⟩
    · omega
    · exact List.mem_of_getElem? e
  · intro h
    obtain ⟨i, hi, e⟩ := List.mem_iff_getElem.1 h
    have := bsV_find l d hs (l.length + 1) 0 l.length (Nat.le_refl _) (by omega) ⟨i, by omega, hi, by simp [List.getD_eq_getElem?_getD, List.getElem?_eq_getElem hi, e]⟩
    rcases findD_hit l d with e2 | ⟨k, e2, _⟩
    · exact absurd e2 this
    · omega

end Go.Proofs.YtinnbafplhcnpaaGreat
end

section
namespace Go.Proofs.YtinnbafplhcnpaaGreat
open Go.RowKit
set_option linter.unusedVariables false
set_option linter.unusedSimpArgs false
set_option maxRecDepth 100000

def loopS (fn : Func) (st : LS) : HO := .loop st [5] (rangeA fn 0) (rangeB fn 0) 16 kp_sites_book__fill [.hp 2 0]
def bookC (p : Pg) (d : D) : List D := [iD p.params, intsD p.vars, nodesD p.body, .v (.int .u32 0), .v (.int .i32 1), .v (.int .u32 0), d]
structure SInv (p : Pg) (H : Heap) (ls : List Dl) : Prop where
  len : 5 ≤ H.length
  book : ∃ d cs, H[1]? = some (.cells 69 7 (bookC p d)) ∧ Buf 34 3 H 5 d ls.length cs ∧ CellsOf 3 H 5 cs ls
  own : H[2]? = some (.cells 55 1 [.hp 1 0])
  ptr : H[3]? = some (.cells 55 1 [.hp 1 0])
  loop : H[4]? = some (loopS Tryz.f56 .ready)
theorem buf_other {t e : TypeId} {sz : Nat} {H : Heap} {B n : Nat} {d : D} {cs : List D} (h : Buf t sz H B d n cs) (hsz : sz ≠ 1) (r : Nat) (l : List Int) (hr : H[r]? = some (.cells e 1 (intsC l))) (q : Nat) : d ≠ .hs r q := by
  rintro rfl
  rcases h with ⟨h, _⟩ | ⟨r', h1, h2, h3, h4⟩
  · cases h
  · cases h2
    rw [hr] at h3
    cases h3
    exact hsz rfl
/-- A round: a mutant is put behind the others. -/
theorem fill_round (p : Pg) (H : Heap) (ls : List Dl) (pd : D) (x : Dl) (h : SInv p H ls) (hpd : Buf 3 1 H 5 pd x.path.length (intsC x.path)) (hl : ls.length ≤ 100000) :
    ∃ H', Y14 Tryz.prog 4 [.agg [pd, iD x.op, iD x.n]] H = some (bD true, H') ∧ SInv p H' (ls ++ [x]) := by
  obtain ⟨h0, ⟨d, cs, h1, h2, h3⟩, h4, h5, h6⟩ := h
  have hok := hpd.ok
  have hY : Y14 Tryz.prog 4 [.agg [pd, iD x.op, iD x.n]] H = roundK Tryz.prog (T14f Tryz.prog noYl) 0 4 [.agg [pd, iD x.op, iD x.n]] H := rfl
  have hk : roundK Tryz.prog (T14f Tryz.prog noYl) 0 4 [.agg [pd, iD x.op, iD x.n]] H = roundB Tryz.prog (T14f Tryz.prog noYl) 0 4 [5] (rangeA Tryz.f56 0) (rangeB Tryz.f56 0) 16 kp_sites_book__fill [.hp 2 0] [.agg [pd, iD x.op, iD x.n]] H := by
    unfold roundK
    rw [h6]
    simp only [loopS]
    rw [if_pos]
    refine ⟨rfl, ?_, ?_, ?_, ?_⟩ <;> kernel_rfl
  rw [hY, hk, rd_sites_book__fill_0]
  -- the round's own delta
  have al : allocH 34 [.v (.slice none 0 0), iD 0, iD 0] H = some (.hp H.length 0, H ++ [.cells 34 3 [.v (.slice none 0 0), iD 0, iD 0]]) := rfl
  have st1 := set_delP 34 pd (.v (.slice none 0 0)) (iD 0) (iD 0) x.op x.n (H ++ [.cells 34 3 [.v (.slice none 0 0), iD 0, iD 0]]) H.length (by simp) hok
  rw [set_lastH] at st1
  have g : ∀ k, k < H.length → (H ++ [HO.cells 34 3 [pd, iD x.op, iD x.n]])[k]? = H[k]? := fun k hk => List.getElem?_append_left hk
  have gm : (H ++ [HO.cells 34 3 [pd, iD x.op, iD x.n]])[H.length]? = some (.cells 34 3 [pd, iD x.op, iD x.n]) := by simp
  have gl : (H ++ [HO.cells 34 3 [pd, iD x.op, iD x.n]]).length = H.length + 1 := by simp
  have gb : Buf 34 3 (H ++ [HO.cells 34 3 [pd, iD x.op, iD x.n]]) 5 d ls.length cs := h2.app _
  have gp : Buf 3 1 (H ++ [HO.cells 34 3 [pd, iD x.op, iD x.n]]) 5 pd x.path.length (intsC x.path) := hpd.app _
  have gc : CellsOf 3 (H ++ [HO.cells 34 3 [pd, iD x.op, iD x.n]]) 5 cs ls := h3.keep fun r l hr => g r (List.getElem?_eq_some_iff.1 hr).1
  generalize H ++ [HO.cells 34 3 [pd, iD x.op, iD x.n]] = H1 at *
  have g6 : H1[4]? = some (loopS Tryz.f56 .ready) := (g 4 (by omega)).trans h6
  have hb : busyK (α := D × Heap) 4 H1 = fun k => k (H1.set 4 (loopS Tryz.f56 .busy)) := by
    funext k
    unfold busyK
    rw [g6]
    rfl
  have q : ∀ k, k ≠ 4 → (H1.set 4 (loopS Tryz.f56 .busy))[k]? = H1[k]? := fun k hk => List.getElem?_set_ne (Ne.symm hk)
  have q4 : (H1.set 4 (loopS Tryz.f56 .busy))[4]? = some (loopS Tryz.f56 .busy) := List.getElem?_set_self (by omega)
  have ql : (H1.set 4 (loopS Tryz.f56 .busy)).length = H1.length := by simp
  have qb : Buf 34 3 (H1.set 4 (loopS Tryz.f56 .busy)) 5 d ls.length cs := gb.set 4 _ (by omega)
  have qp : Buf 3 1 (H1.set 4 (loopS Tryz.f56 .busy)) 5 pd x.path.length (intsC x.path) := gp.set 4 _ (by omega)
  have qc : CellsOf 3 (H1.set 4 (loopS Tryz.f56 .busy)) 5 cs ls := gc.keep fun r l hr => q r (fun e => by subst e; rw [g6] at hr; cases hr)
  generalize H1.set 4 (loopS Tryz.f56 .busy) = H2 at *
  have b2 : H2[2]? = some (.cells 55 1 [.hp 1 0]) := by rw [q 2 (by omega), g 2 (by omega)]; exact h4
  have b3 : H2[3]? = some (.cells 55 1 [.hp 1 0]) := by rw [q 3 (by omega), g 3 (by omega)]; exact h5
  have b1 : H2[1]? = some (.cells 69 7 (bookC p d)) := by rw [q 1 (by omega), g 1 (by omega)]; exact h1
  have bm : H2[H.length]? = some (.cells 34 3 [pd, iD x.op, iD x.n]) := by rw [q H.length (by omega)]; exact gm
  have l2 := load_cell0 H2 2 _ _ _ _ b2
  have nd : nilD (.hp 1 0) = some (.hp 1 0) := rfl
  have f6 : fieldAtH 6 (.hp 1 0) = some (.hp 1 6) := rfl
  have l6 : loadH none H2 (.hp 1 6) = some d := load_cellN _ _ _ _ _ _ _ b1 rfl
  have lm := load_delP 34 pd (iD x.op) (iD x.n) H2 H.length bm
  have rw1 := row_delP 34 pd x.op x.n H2 hok
  have hcl := qc.len
  obtain ⟨d', H3, a1, a2, a3, a4, a5, a6⟩ := app_one (new := [pd, iD x.op, iD x.n]) qb (by omega) rfl (by simp [hok]) (by simp; omega) (by omega)
  have c1 : H3[1]? = some (.cells 69 7 (bookC p d)) := by rw [a3.2 1 (by omega)]; exact b1
  have st := set_cellN H3 1 6 _ _ _ d' c1 (by simp [bookC]) a2.cells a2.ok
  have hset : (bookC p d).set 6 d' = bookC p d' := rfl
  rw [hset] at st
  have hkeep : ∀ (r : Nat) (l : List Int), H2[r]? = some (.cells 3 1 (intsC l)) → H3[r]? = H2[r]? := fun r l hr => a5 r (List.getElem?_eq_some_iff.1 hr).1 (fun z => buf_other qb (by omega) r l hr z)
  have c4 : (H3.set 1 (.cells 69 7 (bookC p d')))[4]? = some (loopS Tryz.f56 .busy) := by rw [List.getElem?_set_ne (by omega), a3.2 4 (by omega)]; exact q4
  have hap : apartK (α := D × Heap) (.hp 2 0) d = fun k => k := by
    funext k
    rcases qb with ⟨rfl, _⟩ | ⟨r, r1, rfl, _⟩
    · exact apartK_hp_v 2 0 _ k
    · rw [apartK_hp_hs, if_neg (by omega)]
  have hlen3 : 5 ≤ H3.length := by omega
  refine ⟨(H3.set 1 (.cells 69 7 (bookC p d'))).set 4 (loopS Tryz.f56 .ready), ?_, by simpa using hlen3, ⟨d', cs ++ [pd, iD x.op, iD x.n], ?_, ?_, ?_⟩, ?_, ?_, ?_⟩
  · rw [al]
    simp only [thnH_some, st1, hb, l2, thn_some, nd, f6, l6, lm, rw1, a1, st, hap]
    unfold endR
    rw [c4]
    rfl
  · rw [List.getElem?_set_ne (by omega), List.getElem?_set_self (by omega)]
  · rw [List.length_append]; exact (a2.set 1 _ (by omega)).set 4 _ (by omega)
  · have z1 : CellsOf 3 H3 5 (cs ++ [pd, iD x.op, iD x.n]) (ls ++ [x]) := CellsOf.app (qp.keep fun r m e => by
      subst e
      rcases qp with ⟨z, _⟩ | ⟨r', z1, z2, z3, z4⟩
      · cases z
      · cases z2; exact hkeep r _ z3) (qc.keep hkeep)
    have z2 : CellsOf 3 (H3.set 1 (.cells 69 7 (bookC p d'))) 5 (cs ++ [pd, iD x.op, iD x.n]) (ls ++ [x]) := z1.keep fun r l hr => List.getElem?_set_ne (fun e => by subst e; rw [c1] at hr; cases hr)
    exact z2.keep fun r l hr => List.getElem?_set_ne (fun e => by subst e; rw [c4] at hr; cases hr)
  · rw [List.getElem?_set_ne (by omega), List.getElem?_set_ne (by omega), a3.2 2 (by omega)]; exact b2
  · rw [List.getElem?_set_ne (by omega), List.getElem?_set_ne (by omega), a3.2 3 (by omega)]; exact b3
  · exact List.getElem?_set_self (by simp; omega)
end Go.Proofs.YtinnbafplhcnpaaGreat
end

section
namespace Go.Proofs.YtinnbafplhcnpaaGreat
open Go.RowKit
set_option linter.unusedVariables false
set_option linter.unusedSimpArgs false
set_option maxRecDepth 100000

theorem HRel.setCell {B : Nat} {S : Nat → Prop} {L : List (Nat × Nat)} {w : World} {H : Heap} (h : HRel B S L w H) {id : Nat} {t : TypeId} {sz : Nat} {cs : List D} (hid : H[id]? = some (HO.cells t sz cs)) {b c : Nat} (hL : L[id]? = some (b, c)) (off : Nat) {x : Value} {d : D} (ho : off < cs.length) (hx : x.oneCell' = true) (hd : Rep S L w x d) :
    HRel B S L (w.setCell ⟨b, off, none⟩ x) (H.set id (.cells t sz (cs.set off d))) ∧ Later B S S L L w (w.setCell ⟨b, off, none⟩ x) := by
  obtain ⟨b', c', arr, h1, h2, h3, h4, h5, h6, h7, h8⟩ := h.live id t sz cs hid
  rw [hL] at h1
  cases h1
  rw [setCell_eq_setRow w b off arr t (0, 0) x h4]
  refine h.write hid hL (arr.setIfInBounds off x) (cs.set off d) (by simpa using h5) (by simpa using h7) fun j d' hj => ?_
  by_cases e : j = off
  · subst e
    rw [List.getElem?_set_self ho] at hj
    cases hj
    exact ⟨x, by rw [Array.getElem?_setIfInBounds_self_of_lt (by omega)], hx, hd⟩
  · rw [List.getElem?_set_ne (Ne.symm e)] at hj
    obtain ⟨y, q1, q2, q3⟩ := h8 j d' hj
    exact ⟨y, by rw [Array.getElem?_setIfInBounds_ne (Ne.symm e)]; exact q1, q2, q3⟩

theorem disable (w : World) : (callFunc 153 #[]).run Tryz.prog w = .ok (.value (.tuple #[])) w := run_call_mark0 Tryz.func153 (by kernel_rfl) (by kernel_rfl) (by kernel_rfl) .disable (by kernel_rfl) w
theorem enable (w : World) : (callFunc 155 #[]).run Tryz.prog w = .ok (.value (.tuple #[])) w := run_call_mark0 Tryz.func155 (by kernel_rfl) (by kernel_rfl) (by kernel_rfl) .enable (by kernel_rfl) w
theorem acquire (a : Addr) (w : World) : (callFunc 156 #[.pointer (some a)]).run Tryz.prog w = .ok (.value (.tuple #[])) w := run_call_marked Tryz.func156 (by kernel_rfl) (by kernel_rfl) (by kernel_rfl) .acquire (by kernel_rfl) a w
theorem releaseMerge (a : Addr) (w : World) : (callFunc 158 #[.pointer (some a)]).run Tryz.prog w = .ok (.value (.tuple #[])) w := run_call_marked Tryz.func158 (by kernel_rfl) (by kernel_rfl) (by kernel_rfl) .releaseMerge (by kernel_rfl) a w

/-- 'Store(true)', entered as a deferred call: the cell holds 1. -/
theorem store_deferred (a : Addr) (x : Value) (u : FrameMode) (w : World) (hc : w.cell? a = some x) (hz : w.frozen? a = false) :
    CallsD Tryz.prog 125 #[.pointer (some a), .bool true] u w fun e u' w' => u' = u ∧ (e = .returned (.tuple #[]) ∧ w' = w.drew.setCell a (.int .u32 1)) := by
  have hc' : w.drew.cell? a = some x := by go_simp
  have hz' : w.drew.frozen? a = false := by go_simp
  have hst := run_call_store (P := Tryz.prog) Tryz.func137 (by kernel_rfl) (by kernel_rfl) (by kernel_rfl) (by kernel_rfl) (k := .u32) (y := 1) hc' hz'
  go_enter_d Tryz.func125, Tryz.ntmps125
  go_wp2
  go_region_calls
  all_goals (go_end0; exact ⟨rfl, rfl⟩)

/-- 'Unlock', entered as a deferred call, the lock held and nobody waiting. -/
theorem unlock_deferred (a : Addr) (u : FrameMode) (w : World) (hc : w.cell? a = some (.int .i32 1)) (hz : w.frozen? a = false) :
    CallsD Tryz.prog 124 #[.pointer (some a)] u w fun e u' w' => u' = u ∧ (e = .returned (.tuple #[]) ∧ w' = w.setCell a (.int .i32 0)) := by
  have hd := disable
  have he := enable
  have hr := releaseMerge
  have hadd := run_call_add (P := Tryz.prog) Tryz.func159 (by kernel_rfl) (by kernel_rfl) (by kernel_rfl) .i32 (by kernel_rfl) (y := -1) (s := 0) hc hz (by simp [go_sem]; rfl)
  have hcv := run_convert_to_unsafe (P := Tryz.prog) (src := 177) (dst := 181) Tryz.underlying177 Tryz.underlying181 (by kernel_rfl) hc
  go_enter_d Tryz.func124, Tryz.ntmps124
  go_wp2
  go_end0
  go_wp2
  go_end0
  exact ⟨rfl, rfl⟩

/-- 'Lock', the lock free. -/
theorem lock_free (a : Addr) (w : World) (hc : w.cell? a = some (.int .i32 0)) (hz : w.frozen? a = false) :
    Calls Tryz.prog 123 #[.pointer (some a)] w fun e w' => e = .returned (.tuple #[]) ∧ w' = w.setCell a (.int .i32 1) := by
  have hd := disable
  have he := enable
  have ha := acquire
  have hcas := run_call_cas_hit (P := Tryz.prog) Tryz.func154 (by kernel_rfl) (by kernel_rfl) (by kernel_rfl) .i32 (by kernel_rfl) (y := 1) hc hz
  have hc' : (w.setCell a (.int .i32 1)).cell? a = some (.int .i32 1) := World.cell?_setCell_same w a _ hc
  have hcv := run_convert_to_unsafe (P := Tryz.prog) (src := 177) (dst := 181) Tryz.underlying177 Tryz.underlying181 (by kernel_rfl) hc'
  go_enter Tryz.func123, Tryz.ntmps123
  go_wp2
  first | go_end0 | (simp only [Exit.inBlock, Exit.then]; refine bodyPost_ret (results_none rfl _ _ _) rfl ?_) | refine bodyPost_ret (results_none rfl _ _ _) rfl ?_
  go_wp2
  go_end0
  exact ⟨rfl, rfl⟩

/-- What a once does with a function of one argument. -/
def onceH (Gf : List D → Heap → Option (D × Heap)) (b off : Nat) (x : D) (H : Heap) : Option (D × Heap) :=
  match H[b]? with
  | some (.cells t sz cs) =>
    match cs[off]?, cs[off + 1]? with
    | some (.v (.int .u32 0)), some (.v (.int .i32 0)) =>
      match Gf [x] (H.set b (.cells t sz (cs.set (off + 1) (.v (.int .i32 1))))) with
      | some (.tup [], H2) =>
        match H2[b]? with
        | some (.cells t2 sz2 cs2) =>
          match cs2[off]?, cs2[off + 1]? with
          | some (.v y), some (.v (.int .i32 1)) => some (.tup [], (H2.set b (.cells t2 sz2 (cs2.set off (.v (.int .u32 1))))).set b (.cells t2 sz2 ((cs2.set off (.v (.int .u32 1))).set (off + 1) (.v (.int .i32 0)))))
          | _, _ => none
        | _ => none
      | _ => none
    | _, _ => none
  | _ => none
theorem onceH_some {Gf : List D → Heap → Option (D × Heap)} {b off : Nat} {x d : D} {H H' : Heap} (h : onceH Gf b off x H = some (d, H')) :
    ∃ t sz cs H2 t2 sz2 cs2 y, H[b]? = some (.cells t sz cs) ∧ cs[off]? = some (.v (.int .u32 0)) ∧ cs[off + 1]? = some (.v (.int .i32 0)) ∧ Gf [x] (H.set b (.cells t sz (cs.set (off + 1) (.v (.int .i32 1))))) = some (.tup [], H2) ∧
      H2[b]? = some (.cells t2 sz2 cs2) ∧ cs2[off]? = some (.v y) ∧ cs2[off + 1]? = some (.v (.int .i32 1)) ∧ d = .tup [] ∧ H' = (H2.set b (.cells t2 sz2 (cs2.set off (.v (.int .u32 1))))).set b (.cells t2 sz2 ((cs2.set off (.v (.int .u32 1))).set (off + 1) (.v (.int .i32 0)))) := by
  unfold onceH at h
  split at h
  · rename_i t sz cs h1
    split at h
    · rename_i h2 h3
      split at h
      · rename_i H2 h4
        split at h
        · rename_i t2 sz2 cs2 h5
          split at h
          · rename_i y h6 h7
            cases h
            exact ⟨t, sz, cs, H2, t2, sz2, cs2, y, h1, h2, h3, h4, h5, h6, h7, rfl, rfl⟩
          · cases h
        · cases h
      · cases h
    · cases h
  · cases h
end Go.Proofs.YtinnbafplhcnpaaGreat
end

section
namespace Go.Proofs.YtinnbafplhcnpaaGreat
open Go.RowKit
set_option linter.unusedVariables false
set_option linter.unusedSimpArgs false

theorem row_cell {B : Nat} {S : Nat → Prop} {L : List (Nat × Nat)} {w : World} {H : Heap} (h : HRel B S L w H) {id : Nat} {t : TypeId} {sz : Nat} {cs : List D} (hid : H[id]? = some (HO.cells t sz cs)) {b c : Nat} (hL : L[id]? = some (b, c)) (off : Nat) {y : Value} (hy : cs[off]? = some (.v y)) :
    w.cell? ⟨b, off, none⟩ = some y ∧ w.frozen? ⟨b, off, none⟩ = false := by
  obtain ⟨b', c', arr, h1, h2, h3, h4, h5, h6, h7, h8⟩ := h.live id t sz cs hid
  rw [hL] at h1
  cases h1
  obtain ⟨x, q1, q2, q3⟩ := h8 off _ hy
  simp only [Rep] at q3
  subst q3
  exact ⟨(cell_of_heap h4 off).trans q1, frozen_of_row w b off arr t h4⟩
set_option maxRecDepth 100000 in
set_option maxHeartbeats 1600000 in
theorem slow_any {Gf : List D → Heap → Option (D × Heap)} (hf : HCallOk Tryz.prog 56 Gf) {B : Nat} {S : Nat → Prop} {L : List (Nat × Nat)} {w : World} {H : Heap} (hr : HRel B S L w H)
    {b off : Nat} {x d : D} {H' : Heap} (h : onceH Gf b off x H = some (d, H')) {blk c : Nat} (hL : L[b]? = some (blk, c)) {xv : Value} (hx : Rep S L w xv x) :
    Calls Tryz.prog 95 #[.pointer (some ⟨blk, off, none⟩), .func (.func 56) #[xv] #[]] w fun e w' => ∃ S' L', e = .returned (.tuple #[]) ∧ HRel B S' L' w' H' ∧ Later B S S' L L' w w' := by
  obtain ⟨t, sz, cs, H2, t2, sz2, cs2, y, k1, k2, k3, k4, k5, k6, k7, rfl, rfl⟩ := onceH_some h
  have hlt0 := (List.getElem?_eq_some_iff.1 k2).1
  have hlt1 := (List.getElem?_eq_some_iff.1 k3).1
  obtain ⟨h0, f0⟩ := row_cell hr k1 hL off k2
  obtain ⟨h1, f1⟩ := row_cell hr k1 hL (off + 1) k3
  obtain ⟨hr1, la1⟩ := hr.setCell k1 hL (off + 1) hlt1 (x := .int .i32 1) (d := .v (.int .i32 1)) rfl (by simp only [Rep])
  have hl := run_call_load (P := Tryz.prog) Tryz.func122 (by kernel_rfl) (by kernel_rfl) (by kernel_rfl) .u32 (by kernel_rfl) (w := w.setCell ⟨blk, off + 1, none⟩ (.int .i32 1)) (a := ⟨blk, off, none⟩) (x := 0) ((World.cell?_setCell_other _ ⟨blk, off + 1, none⟩ ⟨blk, off, none⟩ _ (by simp)).trans h0)
  have hnot : ∀ (x : Bool) (w : World), (Op.unary .not (.bool x)).run Tryz.prog w = .ok (.bool (!x)) w := fun _ _ => rfl
  have hcall := hf.calls [x] _ (.tup []) H2 k4 B S L [xv] _ hr1 (RepA.cons (la1.rep hx) RepA.nil)
  go_enter_defers Tryz.func95, Tryz.ntmps95
  go_wp2_with (first
    | (go_at_call 123; refine (lock_free ⟨blk, off + 1, none⟩ _ (by go_simp) (by go_simp)).mono ?_; rintro e w' ⟨rfl, rfl⟩)
    | (go_at_call 94; go_in)
    | (go_at_call 56; refine hcall.mono ?_; rintro e w' ⟨v, S2, L2, rfl, hv, hr2, la2⟩))
  have hL2 : L2[b]? = some (blk, c) := prefix_get la2.pre _ _ hL
  obtain ⟨g0, e0⟩ := row_cell hr2 k5 hL2 off k6
  have hm0 := (List.getElem?_eq_some_iff.1 k6).1
  have hm1 := (List.getElem?_eq_some_iff.1 k7).1
  obtain ⟨hr3, la3⟩ := hr2.drew
  obtain ⟨hr4, la4⟩ := hr3.setCell k5 hL2 off hm0 (x := .int .u32 1) (d := .v (.int .u32 1)) rfl (by simp only [Rep])
  have k8 : (H2.set b (.cells t2 sz2 (cs2.set off (.v (.int .u32 1)))))[b]? = some (.cells t2 sz2 (cs2.set off (.v (.int .u32 1)))) := List.getElem?_set_self (List.getElem?_eq_some_iff.1 k5).1
  obtain ⟨g1, e1⟩ := row_cell hr4 k8 hL2 (off + 1) (y := .int .i32 1) (by rw [List.getElem?_set_ne (by omega)]; exact k7)
  obtain ⟨hr5, la5⟩ := hr4.setCell k8 hL2 (off + 1) (by simpa using hm1) (x := .int .i32 0) (d := .v (.int .i32 0)) rfl (by simp only [Rep])
  refine leaves_cons (f := 125) (args := #[.pointer (some ⟨blk, off, none⟩), .bool true]) (by simp) (by simp [go_sem]) ?_
  refine (store_deferred ⟨blk, off, none⟩ y .returning _ g0 e0).mono ?_
  rintro e u' w'' ⟨rfl, rfl, rfl⟩
  refine leaves_cons (f := 124) (args := #[.pointer (some ⟨blk, off + 1, none⟩)]) (by simp [settle]) (by simp [go_sem]) ?_
  refine (unlock_deferred ⟨blk, off + 1, none⟩ _ _ g1 e1).mono ?_
  rintro e u' w'' ⟨rfl, rfl, rfl⟩
  simp only [Leaves, settle, results, Tryz.results95]
  refine ⟨_, by simp, S2, L2, rfl, hr5, la1.trans (la2.trans (la3.trans (la4.trans la5)))⟩
/-- What Do does with a method value of a book's. -/
def G_Do (Gf : List D → Heap → Option (D × Heap)) : List D → Heap → Option (D × Heap)
  | [.hp b off, .clo (.func g) [x] []], H => if g = 56 then onceH Gf b off x H else none
  | _, _ => none
set_option maxRecDepth 100000 in
set_option maxHeartbeats 1600000 in
theorem C_Do {Gf : List D → Heap → Option (D × Heap)} (hf : HCallOk Tryz.prog 56 Gf) : HCallOk Tryz.prog 55 (G_Do Gf) := by
  refine ⟨⟨_, Tryz.func55, by decide, rfl⟩, fun ds H d H' h B S L vs w hr hv => ?_⟩
  unfold G_Do at h
  split at h
  · rename_i b off g x
    split at h
    case isFalse => cases h
    rename_i hg
    subst hg
    simp only [RepA] at hv
    obtain ⟨u0, t0, rfl, r0, u1, t1, rfl, r1, rfl⟩ := hv
    simp only [Rep] at r0 r1
    obtain ⟨blk, c, hL, rfl⟩ := r0
    obtain ⟨ys, zs, rfl, hy, hz⟩ := r1
    simp only [RepA] at hy hz
    obtain ⟨xv, t2, rfl, hx, rfl⟩ := hy
    subst hz
    obtain ⟨t, sz, cs, H2, t2, sz2, cs2, y, k1, k2, k3, k4, k5, k6, k7, hd, hH'⟩ := onceH_some h
    obtain ⟨h0, f0⟩ := row_cell hr k1 hL off k2
    have hl := run_call_load (P := Tryz.prog) Tryz.func122 (by kernel_rfl) (by kernel_rfl) (by kernel_rfl) .u32 (by kernel_rfl) h0
    have hnot : ∀ (x : Bool) (w : World), (Op.unary .not (.bool x)).run Tryz.prog w = .ok (.bool (!x)) w := fun _ _ => rfl
    have hslow := slow_any hf hr h hL hx
    subst hd
    clear h k1 k2 k3 k4 k5 k6 k7 hH' hx hf
    go_enter Tryz.func55, Tryz.ntmps55
    go_wp2_with (first
      | (go_at_call 95; refine hslow.mono ?_; rintro e w' ⟨S2, L2, rfl, hr2, la2⟩)
      | (go_at_call 94; go_in))
    go_end0
    exact ⟨.tuple #[], S2, L2, rfl, by simp only [Rep]; exact ⟨[], rfl, RepA.nil⟩, hr2, la2⟩
  · cases h
end Go.Proofs.YtinnbafplhcnpaaGreat
end

section
namespace Go.Proofs.YtinnbafplhcnpaaGreat
open Go.RowKit
set_option linter.unusedVariables false
set_option linter.unusedSimpArgs false
set_option maxRecDepth 100000

theorem SInv.kp {p : Pg} {H H' : Heap} {ls : List Dl} (h : SInv p H ls) (k : Kp H.length H H') : SInv p H' ls := by
  obtain ⟨h0, ⟨d, cs, h1, h2, h3⟩, h4, h5, h6⟩ := h
  refine ⟨Nat.le_trans h0 k.1, ⟨d, cs, by rw [k.2 1 (by omega)]; exact h1, h2.keep fun r m e => k.2 r ?_, h3.keep fun r l hr => k.2 r (List.getElem?_eq_some_iff.1 hr).1⟩, by rw [k.2 2 (by omega)]; exact h4, by rw [k.2 3 (by omega)]; exact h5, by rw [k.2 4 (by omega)]; exact h6⟩
  subst e
  exact h2.lt.2
def withP (pv : List Int) (d : Dl) : Dl := ⟨pv, d.op, d.n⟩
theorem site_with (l : List Nd) (k : Int) : (choicesD l k).map (withP ((ofv l k).getD [])) = siteV l k := by
  unfold choicesD siteV
  rw [List.map_map]; rfl
def headS (l : List Nd) (k : Nat) : List Dl := (List.range k).flatMap fun j : Nat => siteV l j
theorem headS_succ (l : List Nd) (k : Nat) : headS l (k + 1) = headS l k ++ siteV l k := by
  unfold headS
  rw [List.range_succ, List.flatMap_append]; simp
theorem headS_len (l : List Nd) : ∀ k, (headS l k).length ≤ 5 * k
  | 0 => by simp [headS]
  | k + 1 => by
    have h1 := headS_len l k
    have h2 := siteV_len l k
    have h3 := choices_short l k
    rw [headS_succ, List.length_append]
    omega
/-- One mutant is told. -/
theorem tell_site (p : Pg) (H : Heap) (ls : List Dl) (pv : List Int) (c : Dl) (h : SInv p H ls) (hpv : pv.length ≤ 3000) (hl : ls.length ≤ 90000) :
    ∃ H1 H2 H4 d', allocH 34 [.v (.slice none 0 0), iD 0, iD 0] H = some (.hp H.length 0, H ++ [.cells 34 3 [.v (.slice none 0 0), iD 0, iD 0]]) ∧
      setH 3 (.hp H.length 0) (dlD c) (H ++ [.cells 34 3 [.v (.slice none 0 0), iD 0, iD 0]]) = some (.v undef, H1) ∧ appendH 3 1 (.v (.slice none 0 0)) (intsD pv) H1 = some (d', H2) ∧
      setH 1 (.hp H.length 0) d' H2 = some (.v undef, H2.set H.length (.cells 34 3 [d', iD c.op, iD c.n])) ∧ loadH (some 3) (H2.set H.length (.cells 34 3 [d', iD c.op, iD c.n])) (.hp H.length 0) = some (.agg [d', iD c.op, iD c.n]) ∧
      Y14 Tryz.prog 4 [.agg [d', iD c.op, iD c.n]] (H2.set H.length (.cells 34 3 [d', iD c.op, iD c.n])) = some (bD true, H4) ∧ SInv p H4 (ls ++ [withP pv c]) := by
  have h0 := h.len
  have st1 := set_delP 34 (intsD c.path) (.v (.slice none 0 0)) (iD 0) (iD 0) c.op c.n (H ++ [.cells 34 3 [.v (.slice none 0 0), iD 0, iD 0]]) H.length (by simp) rfl
  rw [set_lastH] at st1
  have k1 : Kp H.length H (H ++ [HO.cells 34 3 [intsD c.path, iD c.op, iD c.n]]) := Kp.app _ _ _ (Nat.le_refl _)
  have g1 : (H ++ [HO.cells 34 3 [intsD c.path, iD c.op, iD c.n]])[H.length]? = some (.cells 34 3 [intsD c.path, iD c.op, iD c.n]) := by simp
  have gl : (H ++ [HO.cells 34 3 [intsD c.path, iD c.op, iD c.n]]).length = H.length + 1 := by simp
  refine ⟨H ++ [.cells 34 3 [intsD c.path, iD c.op, iD c.n]], ?_⟩
  generalize H ++ [HO.cells 34 3 [intsD c.path, iD c.op, iD c.n]] = H1 at *
  obtain ⟨d', H2, a1, a2, a3, a4, a5, a6⟩ := app_src (t := 3) (B := 5) (l := []) (new := pv) (d := .v (.slice none 0 0)) (x := intsD pv) (H := H1) (Buf.nil _ _ _ _) (src_ints H1 pv) (by simp; omega) (by omega)
  have k2 : ∀ k, k < H1.length → H2[k]? = H1[k]? := fun k hk => a5 k hk (fun q e => by cases e)
  have ne : ∀ q, d' ≠ .hs H.length q := fun q => a6 H.length q (by omega) (fun q e => by cases e)
  have g2 : H2[H.length]? = some (.cells 34 3 [intsD c.path, iD c.op, iD c.n]) := (k2 _ (by omega)).trans g1
  have st2 := set_cellN H2 H.length 0 _ _ _ d' g2 (by simp) a2.cells a2.ok
  have g3 : (H2.set H.length (.cells 34 3 [d', iD c.op, iD c.n]))[H.length]? = some (.cells 34 3 [d', iD c.op, iD c.n]) := List.getElem?_set_self (List.getElem?_eq_some_iff.1 g2).1
  have k3 : Kp H.length H (H2.set H.length (.cells 34 3 [d', iD c.op, iD c.n])) := ⟨by simp; omega, fun k hk => by rw [List.getElem?_set_ne (by omega), k2 k (by omega), k1.2 k hk]⟩
  have hb : Buf 3 1 (H2.set H.length (.cells 34 3 [d', iD c.op, iD c.n])) 5 d' pv.length (intsC pv) := (by simpa using a2 : Buf 3 1 H2 5 d' pv.length (intsC pv)).keep fun r m e => List.getElem?_set_ne (fun e2 => ne m (by rw [e, ← e2]))
  obtain ⟨H4, y1, y2⟩ := fill_round p _ ls d' (withP pv c) (h.kp k3) hb (by omega)
  exact ⟨H2, H4, d', rfl, st1, a1, st2, load_delP _ _ _ _ _ _ g3, y1, y2⟩
/-- All mutants at a node are told. -/
theorem each_node (p : Pg) (H : Heap) (ls : List Dl) (k : Nat) (n : D) (h : SInv p H ls) (hpv : ((ofv p.body k).getD []).length ≤ 3000) (hl : ls.length ≤ 80000) :
    ∃ H', loopF Tryz.prog (T14y Tryz.prog (Y14 Tryz.prog)) kp_sites_book__each_1 300 Tryz.f126 1 [.yld 4, .hp 3 0, intsD ((ofv p.body k).getD []), n, iD k, dlsD (choicesD p.body k), iD (choicesD p.body k).length, iD 0] H =
      some (.exit 2, [.yld 4, .hp 3 0, intsD ((ofv p.body k).getD []), n, iD k, dlsD (choicesD p.body k), iD (choicesD p.body k).length, iD (choicesD p.body k).length], H') ∧ SInv p H' (ls ++ siteV p.body k) := by
  rw [← site_with]
  have hcl := choices_short p.body k
  have hcl2 : (choicesD p.body k).length ≤ 5 := by simp [choicesD]; omega
  generalize (ofv p.body k).getD [] = pv at *
  generalize choicesD p.body k = L at *
  have key := loopF_invS (P := Tryz.prog) (T := T14y Tryz.prog (Y14 Tryz.prog)) (kp := kp_sites_book__each_1) (fn := Tryz.f126) (li := 1)
    (fun j s H => s = [.yld 4, .hp 3 0, intsD pv, n, iD k, dlsD L, iD L.length, iD j] ∧ SInv p H (ls ++ (L.take j).map (withP pv)))
    (fun r => ∃ H', r = (.exit 2, [.yld 4, .hp 3 0, intsD pv, n, iD k, dlsD L, iD L.length, iD L.length], H') ∧ SInv p H' (ls ++ L.map (withP pv))) L.length 300
    (fun j s H hj hI => by
      obtain ⟨rfl, hI⟩ := hI
      have hlt : (j : Int) < (L.length : Int) := by omega
      have i1 := idx_dls L j hj
      have l1 := load_dl H L[j]
      have e1 := intD_add (j : Int) 1 (by omega) (by omega)
      have c1 : (j : Int) + 1 = ((j + 1 : Nat) : Int) := by omega
      rw [c1] at e1
      obtain ⟨H1, H2, H4, d', q1, q2, q3, q4, q5, q6, q7⟩ := tell_site p H _ pv L[j] hI hpv (by simp; omega)
      have q6' : callClo (T14y Tryz.prog (Y14 Tryz.prog)) (.yld 4) [.agg [d', iD L[j].op, iD L[j].n]] (H2.set H.length (.cells 34 3 [d', iD L[j].op, iD L[j].n])) = some (bD true, H4) := q6
      have f0 : fieldAtH 0 (.hp H.length 0) = some (.hp H.length 0) := rfl
      refine ⟨[.yld 4, .hp 3 0, intsD pv, n, iD k, dlsD L, iD L.length, iD ((j + 1 : Nat) : Int)], H4, ?_, rfl, ?_⟩
      · rw [st_sites_book__each_1_1]
        simp only [binK_lss, hlt, decide_true, thn_some, condK_bool, if_true, i1, l1, q1, q2, q3, q4, q5, q6', thnH_some, f0, notD_bool, Bool.not_true, Bool.false_eq_true, if_false, binK_int, e1]
      · rw [List.take_succ_eq_append_getElem hj, List.map_append, ← List.append_assoc]; exact q7)
    (fun s H hI => by
      obtain ⟨rfl, hI⟩ := hI
      rw [List.take_length] at hI
      refine ⟨(.exit 2, [.yld 4, .hp 3 0, intsD pv, n, iD k, dlsD L, iD L.length, iD L.length], H), ?_, (by intro e; cases e), H, rfl, hI⟩
      rw [st_sites_book__each_1_1]
      have hlt : ¬ ((L.length : Int) < (L.length : Int)) := by omega
      simp only [binK_lss, hlt, decide_false, thn_some, condK_bool, Bool.false_eq_true, if_false])
    (by omega) (s := [.yld 4, .hp 3 0, intsD pv, n, iD k, dlsD L, iD L.length, iD 0]) (H := H) ⟨rfl, by simpa using h⟩
  obtain ⟨r, k1, H', rfl, k2⟩ := key
  exact ⟨H', k1, k2⟩
/-- All mutants of a book are told. -/
theorem each1_ok (p : Pg) (H : Heap) (h : SInv p H []) (hb : p.body.length ≤ 250) (hpv : ∀ k, ((ofv p.body k).getD []).length ≤ 3000) :
    ∃ H', G_each1 Tryz.prog (Y14 Tryz.prog) [.yld 4, .hp 3 0] H = some (.tup [], H') ∧ SInv p H' (sitesV p.body) := by
  rw [G_each1_eq, sh_sites_book__each_1]
  have hbk : ∀ (H : Heap) (ls : List Dl), SInv p H ls → loadH none H (.hp 3 0) = some (.hp 1 0) ∧ loadH none H (.hp 1 2) = some (nodesD p.body) := fun H ls h => by
    obtain ⟨h0, ⟨d, cs, h1, h2, h3⟩, h4, h5, h6⟩ := h
    exact ⟨load_cell0 _ _ _ _ _ _ h5, load_cellN _ _ _ _ _ _ _ h1 rfl⟩
  have nd : nilD (.hp 1 0) = some (.hp 1 0) := rfl
  have f0 : fieldAtH 0 (.hp 1 0) = some (.hp 1 0) := rfl
  have f2 : fieldAtH 2 (.hp 1 0) = some (.hp 1 2) := rfl
  have hsv : sitesV p.body = headS p.body p.body.length := rfl
  rw [hsv]
  have key := loopF_invS (P := Tryz.prog) (T := T14y Tryz.prog (Y14 Tryz.prog)) (kp := kp_sites_book__each_1) (fn := Tryz.f126) (li := 0)
    (fun k s H => ∃ u2 u5 u6 u7, s = [.yld 4, .hp 3 0, u2, iD p.body.length, iD k, u5, u6, u7] ∧ SInv p H (headS p.body k))
    (fun r => ∃ s H', r = (.exit 0, s, H') ∧ SInv p H' (headS p.body p.body.length)) p.body.length 300
    (fun k s H hk hI => by
      obtain ⟨u2, u5, u6, u7, rfl, hI⟩ := hI
      have hlt : (k : Int) < (p.body.length : Int) := by omega
      obtain ⟨b1, b2⟩ := hbk H _ hI
      have o1 := of11_pure p.body k (by omega) H
      have c1 := choices_pure p.body k (by omega) H
      have x0 : extractD (.tup [intsD ((ofv p.body k).getD []), bD (ofv p.body k).isSome]) 0 = some (intsD ((ofv p.body k).getD [])) := rfl
      have x1 : extractD (.tup [intsD ((ofv p.body k).getD []), bD (ofv p.body k).isSome]) 1 = some (bD (ofv p.body k).isSome) := rfl
      have hhl := headS_len p.body k
      obtain ⟨H', q1, q2⟩ := each_node p H _ k (iD p.body.length) hI (hpv k) (by omega)
      have e1 := intD_add (k : Int) 1 (by omega) (by omega)
      have cc : (k : Int) + 1 = ((k + 1 : Nat) : Int) := by omega
      rw [cc] at e1
      refine ⟨[.yld 4, .hp 3 0, intsD ((ofv p.body k).getD []), iD p.body.length, iD ((k + 1 : Nat) : Int), dlsD (choicesD p.body k), iD (choicesD p.body k).length, iD (choicesD p.body k).length], H', ?_, _, _, _, _, rfl, by rw [headS_succ]; exact q2⟩
      rw [st_sites_book__each_1_0]
      simp only [binK_lss, hlt, decide_true, thn_some, condK_bool, if_true, b1, nd, f0, f2, b2, o1, thnH_some, x0, x1, c1, lenH_dls, q1, leaveK_exit, condN_same, List.getD_cons_zero, List.getD_cons_succ, binK_int, e1])
    (fun s H hI => by
      obtain ⟨u2, u5, u6, u7, rfl, hI⟩ := hI
      refine ⟨(.exit 0, [.yld 4, .hp 3 0, u2, iD p.body.length, iD p.body.length, u5, u6, u7], H), ?_, (by intro e; cases e), _, H, rfl, hI⟩
      rw [st_sites_book__each_1_0]
      have hlt : ¬ ((p.body.length : Int) < (p.body.length : Int)) := by omega
      simp only [binK_lss, hlt, decide_false, thn_some, condK_bool, Bool.false_eq_true, if_false])
    (by omega) (s := [.yld 4, .hp 3 0, .undef, iD p.body.length, iD 0, .undef, .undef, .undef]) (H := H) ⟨_, _, _, _, rfl, by simpa [headS] using h⟩
  obtain ⟨r, k1, s, H', rfl, k2⟩ := key
  obtain ⟨b1, b2⟩ := hbk H _ h
  refine ⟨H', ?_, k2⟩
  simp only [b1, thn_some, nd, f0, f2, b2, lenH_nodes, k1, leaveK_exit, condN_same]

def G_fill (P : Program) : List D → Heap → Option (D × Heap) := textG P (T14f P (Y14 P)) kp_sites_book__fill 0 56
theorem G_fill_eq (ds : List D) (H : Heap) : G_fill Tryz.prog ds H = textK Tryz.prog (T14f Tryz.prog (Y14 Tryz.prog)) kp_sites_book__fill 0 Tryz.f56 ds H := textG_eq Tryz.func56 ds H
theorem C_fill : HCallOk Tryz.prog 56 (G_fill Tryz.prog) := hcall_G (T14f_ok (Y14 Tryz.prog) Y14_ok) mixed Tryz.func56 (by kernel_rfl) (by decide)
/-- A book is filled. -/
theorem book_filled (p : Pg) (o : HO) (hb : p.body.length ≤ 250) (hpv : ∀ k, ((ofv p.body k).getD []).length ≤ 3000) :
    ∃ H' d cs, G_fill Tryz.prog [.hp 1 0] [o, .cells 69 7 (bookC p (.v (.slice none 0 0)))] = some (.tup [], H') ∧ H'[1]? = some (.cells 69 7 (bookC p d)) ∧ Buf 34 3 H' 5 d (sitesV p.body).length cs ∧ CellsOf 3 H' 5 cs (sitesV p.body) := by
  have hinv : SInv p [o, .cells 69 7 (bookC p (.v (.slice none 0 0))), .cells 55 1 [.hp 1 0], .cells 55 1 [.hp 1 0], loopS Tryz.f56 .ready] [] :=
    ⟨by simp, ⟨_, [], rfl, Buf.nil _ _ _ _, trivial⟩, rfl, rfl, rfl⟩
  obtain ⟨H', q1, h0, ⟨d, cs, h1, h2, h3⟩, h4, h5, h6⟩ := each1_ok p _ hinv hb hpv
  have e1 : boxH 55 (.hp 1 0) [o, .cells 69 7 (bookC p (.v (.slice none 0 0)))] = some (.hp 2 0, [o, .cells 69 7 (bookC p (.v (.slice none 0 0))), .cells 55 1 [.hp 1 0]]) := rfl
  have l2 : loadH none [o, .cells 69 7 (bookC p (.v (.slice none 0 0))), .cells 55 1 [.hp 1 0]] (.hp 2 0) = some (.hp 1 0) := rfl
  have e2 : G_each Tryz.prog [.hp 1 0] [o, .cells 69 7 (bookC p (.v (.slice none 0 0))), .cells 55 1 [.hp 1 0]] = some (.clo (.func 126) [] [.hp 3 0], [o, .cells 69 7 (bookC p (.v (.slice none 0 0))), .cells 55 1 [.hp 1 0], .cells 55 1 [.hp 1 0]]) := by
    rw [G_each_eq, sh_sites_book__each]
    rfl
  have e4 : rangeS (T14f Tryz.prog (Y14 Tryz.prog)) (.clo (.func 126) [] [.hp 3 0]) [5] (rangeA Tryz.f56 0) (rangeB Tryz.f56 0) 16 kp_sites_book__fill [.hp 2 0] [o, .cells 69 7 (bookC p (.v (.slice none 0 0))), .cells 55 1 [.hp 1 0], .cells 55 1 [.hp 1 0]] = some (.normal, H'.set 4 .dead) := by
    have e5 : rangeS (T14f Tryz.prog (Y14 Tryz.prog)) (.clo (.func 126) [] [.hp 3 0]) [5] (rangeA Tryz.f56 0) (rangeB Tryz.f56 0) 16 kp_sites_book__fill [.hp 2 0] [o, .cells 69 7 (bookC p (.v (.slice none 0 0))), .cells 55 1 [.hp 1 0], .cells 55 1 [.hp 1 0]] =
      leftR (G_each1 Tryz.prog (Y14 Tryz.prog) [.yld 4, .hp 3 0] [o, .cells 69 7 (bookC p (.v (.slice none 0 0))), .cells 55 1 [.hp 1 0], .cells 55 1 [.hp 1 0], loopS Tryz.f56 .ready]) 4 := rfl
    rw [e5, q1]
    unfold leftR
    simp only [h6]
    rfl
  refine ⟨H'.set 4 .dead, d, cs, ?_, by rw [List.getElem?_set_ne (by omega)]; exact h1, h2.set 4 _ (by omega), h3.keep fun r l hr => List.getElem?_set_ne (fun e => by subst e; rw [h6] at hr; cases hr)⟩
  rw [G_fill_eq, sh_sites_book__fill]
  simp only [e1, thnH_some, l2, thn_some, e2, e4, leaveR3_normal]
def fs14g (P : Program) : List Entry := (55, false, G_Do (G_fill P)) :: fs14b P
theorem fs14g_ok : ∀ p ∈ fs14g Tryz.prog, EntryOk Tryz.prog p := entries_cons (entry_obj (C_Do C_fill)) <| fs14b_ok
def T14g (P : Program) : Tab := ⟨fs14g P, noYl⟩
theorem T14g_ok : TabOk Tryz.prog (T14g Tryz.prog) := tabOk_of fs14g_ok
end Go.Proofs.YtinnbafplhcnpaaGreat
end

section
namespace Go.Proofs.YtinnbafplhcnpaaGreat
open Go.RowKit
set_option linter.unusedVariables false
set_option maxRecDepth 100000

def kp_sites_book__all : List Nat := []
theorem sh_sites_book__all (n : Nat) (x0 : D) (h : Heap) : textK Tryz.prog (T14g Tryz.prog) kp_sites_book__all n Tryz.f30 [x0] h =
(thn (nilD x0) fun y0 =>
thn (fieldAtH 3 y0) fun y1 =>
thnH ((G_Do (G_fill Tryz.prog)) [y1, (.clo (.func 56) [x0] [])] h) fun y2 h3 =>
thn (nilD x0) fun y4 =>
thn (fieldAtH 6 y4) fun y5 =>
thn (loadH none h3 y5) fun y6 =>
some (y6, h3)) := by kernel_rfl

end Go.Proofs.YtinnbafplhcnpaaGreat
end

section
namespace Go.Proofs.YtinnbafplhcnpaaGreat
open Go.RowKit
set_option linter.unusedVariables false
set_option linter.unusedSimpArgs false
set_option maxRecDepth 100000

theorem onceH_of {Gf : List D → Heap → Option (D × Heap)} {b off : Nat} {x : D} {H H2 : Heap} {t t2 : TypeId} {sz sz2 : Nat} {cs cs2 : List D} {y : Value} (k1 : H[b]? = some (.cells t sz cs)) (k2 : cs[off]? = some (.v (.int .u32 0))) (k3 : cs[off + 1]? = some (.v (.int .i32 0)))
    (k4 : Gf [x] (H.set b (.cells t sz (cs.set (off + 1) (.v (.int .i32 1))))) = some (.tup [], H2)) (k5 : H2[b]? = some (.cells t2 sz2 cs2)) (k6 : cs2[off]? = some (.v y)) (k7 : cs2[off + 1]? = some (.v (.int .i32 1))) :
    onceH Gf b off x H = some (.tup [], (H2.set b (.cells t2 sz2 (cs2.set off (.v (.int .u32 1))))).set b (.cells t2 sz2 ((cs2.set off (.v (.int .u32 1))).set (off + 1) (.v (.int .i32 0))))) := by
  unfold onceH
  simp only [k1, k2, k3, k4, k5, k6, k7]
def G_all (P : Program) : List D → Heap → Option (D × Heap) := textG P (T14g P) kp_sites_book__all 0 30
theorem G_all_eq (ds : List D) (H : Heap) : G_all Tryz.prog ds H = textK Tryz.prog (T14g Tryz.prog) kp_sites_book__all 0 Tryz.f30 ds H := textG_eq Tryz.func30 ds H
theorem C_ball : HCallOk Tryz.prog 30 (G_all Tryz.prog) := hcall_G T14g_ok mixed Tryz.func30 (by kernel_rfl) (by decide)
def bookZ (p : Pg) : List D := [iD p.params, intsD p.vars, nodesD p.body, .v (.int .u32 0), .v (.int .i32 0), .v (.int .u32 0), .v (.slice none 0 0)]
theorem all_ok (p : Pg) (o : HO) (hb : p.body.length ≤ 250) (hpv : ∀ k, ((ofv p.body k).getD []).length ≤ 3000) :
    ∃ d cs H', G_all Tryz.prog [.hp 1 0] [o, .cells 69 7 (bookZ p)] = some (d, H') ∧ Buf 34 3 H' 0 d (sitesV p.body).length cs ∧ CellsOf 3 H' 0 cs (sitesV p.body) := by
  obtain ⟨H2, d, cs, q1, q2, q3, q4⟩ := book_filled p o hb hpv
  have k4 : G_fill Tryz.prog [.hp 1 0] (([o, .cells 69 7 (bookZ p)] : Heap).set 1 (.cells 69 7 ((bookZ p).set (3 + 1) (.v (.int .i32 1))))) = some (.tup [], H2) := q1
  have hdo := onceH_of (Gf := G_fill Tryz.prog) (b := 1) (off := 3) (x := .hp 1 0) (H := [o, .cells 69 7 (bookZ p)]) (cs := bookZ p) rfl rfl rfl k4 q2 (y := .int .u32 0) rfl rfl
  rw [List.set_set] at hdo
  have hdo' : G_Do (G_fill Tryz.prog) [.hp 1 3, .clo (.func 56) [.hp 1 0] []] [o, .cells 69 7 (bookZ p)] = _ := hdo
  have hlt := (List.getElem?_eq_some_iff.1 q2).1
  have hset : ((bookC p d).set 3 (.v (.int .u32 1))).set (3 + 1) (.v (.int .i32 0)) = [iD p.params, intsD p.vars, nodesD p.body, .v (.int .u32 1), .v (.int .i32 0), .v (.int .u32 0), d] := rfl
  rw [hset] at hdo'
  have b1 : (H2.set 1 (.cells 69 7 [iD p.params, intsD p.vars, nodesD p.body, .v (.int .u32 1), .v (.int .i32 0), .v (.int .u32 0), d]))[1]? = some (.cells 69 7 [iD p.params, intsD p.vars, nodesD p.body, .v (.int .u32 1), .v (.int .i32 0), .v (.int .u32 0), d]) := List.getElem?_set_self hlt
  have l6 : loadH none (H2.set 1 (.cells 69 7 [iD p.params, intsD p.vars, nodesD p.body, .v (.int .u32 1), .v (.int .i32 0), .v (.int .u32 0), d])) (.hp 1 6) = some d := load_cellN _ _ _ _ _ _ _ b1 rfl
  have nd : nilD (.hp 1 0) = some (.hp 1 0) := rfl
  have f3 : fieldAtH 3 (.hp 1 0) = some (.hp 1 3) := rfl
  have f6 : fieldAtH 6 (.hp 1 0) = some (.hp 1 6) := rfl
  have z1 : Buf 34 3 (H2.set 1 (.cells 69 7 [iD p.params, intsD p.vars, nodesD p.body, .v (.int .u32 1), .v (.int .i32 0), .v (.int .u32 0), d])) 5 d (sitesV p.body).length cs := q3.set 1 _ (by omega)
  have z2 : CellsOf 3 (H2.set 1 (.cells 69 7 [iD p.params, intsD p.vars, nodesD p.body, .v (.int .u32 1), .v (.int .i32 0), .v (.int .u32 0), d])) 5 cs (sitesV p.body) := q4.keep fun r l hr => List.getElem?_set_ne (fun e => by subst e; rw [q2] at hr; cases hr)
  refine ⟨d, cs, _, ?_, z1.low, z2.low⟩
  rw [G_all_eq, sh_sites_book__all]
  simp only [nd, thn_some, f3, hdo', thnH_some, f6, l6]
def fs14h (P : Program) : List Entry := (30, false, G_all P) :: fs14b P
theorem fs14h_ok : ∀ p ∈ fs14h Tryz.prog, EntryOk Tryz.prog p := entries_cons (entry_obj C_ball) <| fs14b_ok
def T14h (P : Program) : Tab := ⟨fs14h P, noYl⟩
theorem T14h_ok : TabOk Tryz.prog (T14h Tryz.prog) := tabOk_of fs14h_ok
end Go.Proofs.YtinnbafplhcnpaaGreat
end

section
namespace Go.Proofs.YtinnbafplhcnpaaGreat
open Go.RowKit
set_option linter.unusedVariables false
set_option maxRecDepth 100000

def kp_sites_All : List Nat := []
theorem sh_sites_All (n : Nat) (x0 : D) (h : Heap) : textK Tryz.prog (T14h Tryz.prog) kp_sites_All n Tryz.f12 [x0] h =
(thnH (boxH 25 x0 h) fun y0 h1 =>
thn (loadH (some 3) h1 y0) fun y2 =>
thnH (liftF F_Check9 [y2] h1) fun y3 h4 =>
thn (binK .int .neq y3 (iD 0)) fun y5 =>
condK y5
(some (.tup [(.v (.slice none 0 0)), y3], h4))
(thn (loadH (some 3) h4 y0) fun y6 =>
thn (buildR [(0, 3), (3, 3), (6, 1)] [(iD 0), (.v (.slice none 0 0)), (.v (.slice none 0 0)), (.v (.int .u32 0)), (.v (.int .i32 0)), (.v (.int .u32 0)), (.v (.slice none 0 0))] [(0, y6)]) fun y7 =>
thnH (boxH 69 y7 h4) fun y8 h9 =>
thnH ((G_all Tryz.prog) [y8] h9) fun y10 h11 =>
some (.tup [y10, (iD 0)], h11))) := by kernel_rfl

end Go.Proofs.YtinnbafplhcnpaaGreat
end

section
namespace Go.Proofs.YtinnbafplhcnpaaGreat
open Go.RowKit
set_option linter.unusedVariables false

theorem climb_len14 (l : List Nd) : ∀ (f : Nat) (i : Int) (p : List Int), climb l f i = some p → (p.length : Int) ≤ i ∧ i < l.length
  | 0, i, p, h => by cases h
  | f + 1, i, p, h => by
    by_cases hr : endv l 0 = l.length ∧ 0 ≤ i ∧ i < l.length
    · by_cases h0 : i = 0
      · subst h0
        rw [climb_root l f hr] at h
        cases h
        exact ⟨by simp, hr.2.2⟩
      · rw [climb_step l f i hr h0] at h
        obtain ⟨q, hq, rfl⟩ := Option.map_eq_some_iff.1 h
        have := climb_len14 l f _ q hq
        have h2 := upV_lt l i i.toNat 0
        refine ⟨?_, hr.2.2⟩
        simp only [List.length_append, List.length_cons, List.length_nil]
        omega
    · rw [climb_no l _ i hr] at h; cases h
theorem ofv_len14 (l : List Nd) (i : Int) (p : List Int) (h : ofv l i = some p) : p.length ≤ l.length := by
  by_cases hi : -1 ≤ i
  · rw [← climb_ofv l (i + 2).toNat i hi (by omega)] at h
    have := climb_len14 l _ i p h
    omega
  · by_cases hw : endv l 0 = l.length
    · have := (ofv_some_iff hw i).1 (by rw [h]; rfl)
      omega
    · rw [ofv_no l i hw] at h; cases h
end Go.Proofs.YtinnbafplhcnpaaGreat
end

section
namespace Go.Proofs.YtinnbafplhcnpaaGreat
open Go.RowKit
set_option linter.unusedVariables false
set_option linter.unusedSimpArgs false
set_option maxRecDepth 100000

theorem chk9_len {p : Pg} (h : chk9 p = 0) : p.body.length ≤ 200 ∧ endv p.body 0 = p.body.length := by
  have h1 := (chk9_ok h).1
  unfold checkV at h1
  split at h1
  · omega
  · split at h1
    · omega
    · split at h1
      · omega
      · split at h1
        · omega
        · rename_i a b c d
          exact ⟨by omega, by omega⟩
theorem check14_pure (p : Pg) (h : p.body.length ≤ 3000000) (H : Heap) : liftF F_Check9 [progD p] H = some (iD (chk9 p), H) := by
  rw [liftF_pure _ _ _ rfl]
  have : F_Check9 [progD p] = _ := f1_enc (A := progT) _ p
  rw [this, if_pos h]; rfl
def allV14 (p : Pg) : List Dl := if chk9 p = 0 then sitesV p.body else []
def F_SAll : List D → Option D := F1 progT fun p => if p.body.length ≤ 3000000 then some (.tup [dlsD (allV14 p), iD (chk9 p)]) else none
def G_SAll (P : Program) : List D → Heap → Option (D × Heap) := textG P (T14h P) kp_sites_All 0 12
theorem G_SAll_eq (ds : List D) (H : Heap) : G_SAll Tryz.prog ds H = textK Tryz.prog (T14h Tryz.prog) kp_sites_All 0 Tryz.f12 ds H := textG_eq Tryz.func12 ds H
theorem C_GSAll : HCallOk Tryz.prog 12 (G_SAll Tryz.prog) := hcall_G T14h_ok mixed Tryz.func12 (by kernel_rfl) (by decide)
theorem sall_text (p : Pg) (h : p.body.length ≤ 3000000) : ∃ d cs H', G_SAll Tryz.prog [progD p] [] = some (.tup [d, iD (chk9 p)], H') ∧ Buf 34 3 H' 0 d (allV14 p).length cs ∧ CellsOf 3 H' 0 cs (allV14 p) := by
  rw [G_SAll_eq, sh_sites_All]
  have hb1 : boxH 25 (progD p) [] = some (.hp 0 0, [.cells 25 3 [iD p.params, intsD p.vars, nodesD p.body]]) := rfl
  have l0 : loadH (some 3) [.cells 25 3 [iD p.params, intsD p.vars, nodesD p.body]] (.hp 0 0) = some (progD p) := rfl
  have hc := check14_pure p h [.cells 25 3 [iD p.params, intsD p.vars, nodesD p.body]]
  by_cases h0 : chk9 p = 0
  · have hv : allV14 p = sitesV p.body := by unfold allV14; rw [if_pos h0]
    obtain ⟨k1, k2⟩ := chk9_len h0
    have hpv : ∀ k, ((ofv p.body k).getD []).length ≤ 3000 := fun k => by
      cases ho : ofv p.body k with
      | none => simp
      | some q =>
        have := ofv_len14 p.body k q ho
        simp; omega
    obtain ⟨d, cs, H', q1, q2, q3⟩ := all_ok p (.cells 25 3 [iD p.params, intsD p.vars, nodesD p.body]) (by omega) hpv
    have hbu : buildR [(0, 3), (3, 3), (6, 1)] [iD 0, .v (.slice none 0 0), .v (.slice none 0 0), .v (.int .u32 0), .v (.int .i32 0), .v (.int .u32 0), .v (.slice none 0 0)] [(0, progD p)] = some (.agg (bookZ p)) := rfl
    have hb2 : boxH 69 (.agg (bookZ p)) [.cells 25 3 [iD p.params, intsD p.vars, nodesD p.body]] = some (.hp 1 0, [.cells 25 3 [iD p.params, intsD p.vars, nodesD p.body], .cells 69 7 (bookZ p)]) := rfl
    refine ⟨d, cs, H', ?_, by rw [hv]; exact q2, by rw [hv]; exact q3⟩
    have hz : ((chk9 p) != 0) = false := by rw [h0]; rfl
    simp only [hb1, thnH_some, l0, thn_some, hc, binK_neq, hz, condK_bool, Bool.false_eq_true, if_false, hbu, hb2, q1]
    rw [h0]
  · have hv : allV14 p = [] := by unfold allV14; rw [if_neg h0]
    refine ⟨.v (.slice none 0 0), [], [.cells 25 3 [iD p.params, intsD p.vars, nodesD p.body]], ?_, by rw [hv]; exact Buf.nil _ _ _ _, by rw [hv]; trivial⟩
    have hz : ((chk9 p) != 0) = true := bne_iff_ne.2 h0
    simp only [hb1, thnH_some, l0, thn_some, hc, binK_neq, hz, condK_bool, if_true]
theorem N_SAll : CallNew Tryz.prog 12 F_SAll := by
  refine ⟨C_GSAll.body, fun ds d hF S vs w hS hv => ?_⟩
  unfold F_SAll F1 at hF
  split at hF
  · obtain ⟨p, hp, hF⟩ := Option.bind_eq_some_iff.1 hF
    split at hF
    case isFalse => cases hF
    rename_i hb
    cases hF
    obtain ⟨d', cs, H', q1, q2, q3⟩ := sall_text p hb
    refine (C_GSAll.calls [progD p] [] _ H' q1 w.heap.size S [] vs w (hrel_none S w hS) ((ImpL.cons (progT.ok _ _ hp) .nil).rep hv)).mono ?_
    rintro e w' ⟨v, S', L', rfl, k1, k2, k3⟩
    simp only [Rep, RepA] at k1
    obtain ⟨xs, rfl, a, t, rfl, k4, b, u, rfl, k5, rfl⟩ := k1
    refine ⟨_, rfl, ?_, k3.below⟩
    have hrow := rep_rowG k2 (by omega) q2 (els := (allV14 p).map dlC) (by simp) (fun e he => by obtain ⟨y, _, rfl⟩ := List.mem_map.1 he; rfl) (fun xs hx => q3.own k2 xs hx) k4
    simp only [Rep, RepA]
    exact ⟨[a, b], rfl, a, [b], rfl, hrow, b, [], rfl, k5, rfl⟩
  · cases hF
theorem sall_pure (p : Pg) (h : p.body.length ≤ 3000000) (H : Heap) : liftN F_SAll [progD p] H = some (.tup [dlsD (allV14 p), iD (chk9 p)], H) := by
  rw [liftN_pure _ _ _ rfl]
  have : F_SAll [progD p] = _ := f1_enc (A := progT) _ p
  rw [this, if_pos h]; rfl
end Go.Proofs.YtinnbafplhcnpaaGreat
end
