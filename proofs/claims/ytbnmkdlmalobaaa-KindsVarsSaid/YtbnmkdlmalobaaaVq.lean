/-
  Parts joined into one text: DrawJ, AppV, VarsR. No condition.
-/
import Derived.Test.YtbnmkdlmalobaaaVi
import Derived.Test.YtbnmkdlmalobaaaVp

section
namespace Go.Proofs.Ytbnmkdlmalobaaa
open Go.RowKit
set_option linter.unusedVariables false

section
variable {P : Program} {T : Tab}
/-- A region whose operations wait for no flag: whatever order is drawn, the invariant is carried on. -/
theorem region_J (hT : TabOk P T) (hm : P.follows .mixedOrders = true) {F : Fence} (hF : Wd F) {n id B N : Nat} {ops : Array Oper} {Q : Exit → Act → World → Prop} {a : Act} {w : World} {S : Nat → Prop} {L : List (Nat × Nat)} {fr : List D} {H : Heap} (J : (Nat → Bool) → List D → Heap → Prop)
    (hac : (ops.toList.zipIdx.all fun x => x.1.after.all fun e => decide (e.on < x.2) || !Region.binds .any e) = true) (hng : (ops.toList.all fun o => o.guard.isNone) = true)
    (hr : RepF B N S L w a (fr, H)) (h0 : J (fun _ => false) fr H)
    (hstep : ∀ i o, ops.toList[i]? = some o → ∀ d fr H, d i = false → (∀ e ∈ o.after, Region.binds .any e = true → d e.on = true) → J d fr H → ∃ v H', stepD P T o.op (evalD fr) H = some (v, H') ∧ J (upd d i) (putD fr o.dst v) H')
    (hend : ∀ d fr' H' a' w' S' L', (∀ i, i < ops.size → d i = true) → J d fr' H' → RepF B N S' L' w' a' (fr', H') → Later B S S' L L' w w' → Q .normal a' w') : (Code.region id ops true).wpIn F n P Q a w := by
  obtain ⟨hdr, hlr⟩ := hr.objs.drew
  refine region_inv2 hm (fun d a' w' => ∃ S' L' fr' H', RepF B N S' L' w' a' (fr', H') ∧ Later B S S' L L' w w' ∧ J d fr' H') hac ⟨S, L, fr, H, ⟨hr.defers.later hlr, hlr.repA hr.tmps, hdr⟩, hlr, h0⟩ ?_ ?_
  · refine stepsOk_of _ 0 fun i o ho => ?_
    rw [Nat.zero_add]
    rintro d a1 w1 K hdi haft ⟨S1, L1, fr1, H1, hrep, hl1, hJ⟩ hK
    have hg : o.guard = none := by
      have := List.all_eq_true.1 hng o (List.mem_iff_getElem?.2 ⟨i, ho⟩)
      simpa using this
    have hw : Region.wanted o (yielded ops a1.tmps) = true := by unfold Region.wanted; rw [hg]
    rw [if_pos hw]
    obtain ⟨v, H', hs, hJ'⟩ := hstep i o ho d fr1 H1 hdi haft hJ
    refine stepD_ok hT hF hs (fun x => evalD_ok hrep.tmps x) hrep.objs fun u w' S' L' h1 h2 h3 => hK _ _ ⟨S', L', _, H', ⟨?_, (h3.repA hrep.tmps).put o.dst h1, h2⟩, hl1.trans h3, hJ'⟩
    rw [put_defers]
    exact hrep.defers.later h3
  · rintro d a' w' hall ⟨S', L', fr', H', hrep, hl, hJ⟩
    exact hend d fr' H' a' w' S' L' hall hJ hrep hl

/-- A body up to a place, and from there on. -/
def cutAt : Nat → Code → Code
  | 0, _ => .exit 999999
  | k + 1, .seq x y => .seq x (cutAt k y)
  | _, c => c
def tailAt : Nat → Code → Code
  | 0, c => c
  | k + 1, .seq _ y => tailAt k y
  | _, c => c
def isSeqs : Nat → Code → Bool
  | 0, _ => true
  | k + 1, .seq _ y => isSeqs k y
  | _, _ => false
/-- Nothing is left by an exit. -/
def noExit : Code → Bool
  | .skip | .region _ _ _ | .ret => true
  | .seq x y | .cond _ x y => noExit x && noExit y
  | _ => false
def heads : Nat → Code → Bool
  | 0, _ => true
  | k + 1, .seq x y => noExit x && heads k y
  | _, _ => false
theorem noExit_ok {kp : List Nat} {n : Nat} (c : Code) : ∀ {fr fr' : Fr} {j : Nat}, noExit c = true → runC P T kp n c fr ≠ some (.exit j, fr') := by
  induction c with
  | skip => intro fr fr' j _ h; simp [runC] at h
  | ret => intro fr fr' j _ h; simp [runC] at h
  | region id ops draw =>
    intro fr fr' j _ h
    simp only [runC, regD] at h
    split at h
    · cases ho : runOps P T ops.toList ops.toList fr with
      | none => rw [ho] at h; cases h
      | some f2 =>
        rw [ho] at h
        simp only [Option.bind_some] at h
        split at h
        · simp at h
        · cases h
    · cases h
  | seq x y ihx ihy =>
    intro fr fr' j hn h
    simp only [noExit, Bool.and_eq_true] at hn
    simp only [runC] at h
    cases hx : runC P T kp n x fr with
    | none => rw [hx] at h; cases h
    | some p =>
      obtain ⟨e, f1⟩ := p
      rw [hx] at h
      cases e with
      | normal => exact ihy hn.2 h
      | exit i => exact ihx hn.1 hx
      | ret => simp [thenD] at h
  | cond c x y ihx ihy =>
    intro fr fr' j hn h
    simp only [noExit, Bool.and_eq_true] at hn
    simp only [runC] at h
    unfold condD at h
    split at h
    · exact ihx hn.1 h
    · exact ihy hn.2 h
    · cases h
  | _ => intro fr fr' j hn h; cases hn
theorem cutAt_ok {kp : List Nat} (hT : TabOk P T) (hm : P.follows .mixedOrders = true) {n m B N : Nat} (hN : B ≤ N) {x : Lv} {fr' : Fr} {Q : Exit → Act → World → Prop} : ∀ (k : Nat) (c : Code) {fr : Fr} {a : Act} {w : World} {S : Nat → Prop} {L : List (Nat × Nat)}, heads k c = true → runC P T kp n (cutAt k c) fr = some (x, fr') → N ≤ w.heap.size → RepF B N S L w a fr →
    (x = .exit 999999 → ∀ a' w' S' L', RepF B N S' L' w' a' fr' → Later B S S' L L' w w' → (tailAt k c).wpIn Fence.wide m P Q a' w') →
    (x ≠ .exit 999999 → ∀ a' w' S' L', RepF B N S' L' w' a' fr' → Later B S S' L L' w w' → Q x.toExit a' w') → c.wpIn Fence.wide m P Q a w
  | 0, c, fr, a, w, S, L, hs, h, hN', hr, h1, h2 => by
    simp only [cutAt, runC, Option.some.injEq, Prod.mk.injEq] at h
    obtain ⟨rfl, rfl⟩ := h
    exact h1 rfl a w S L hr Later.refl
  | k + 1, c, fr, a, w, S, L, hs, h, hN', hr, h1, h2 => by
    cases c with
    | seq x' y =>
      simp only [heads, Bool.and_eq_true] at hs
      simp only [cutAt, runC] at h
      refine wpIn_seq ?_
      cases hx : runC P T kp n x' fr with
      | none => rw [hx] at h; cases h
      | some p =>
        obtain ⟨e1, f1⟩ := p
        refine runC_ok hT hm .wide hN x' hx (.inl rfl) hN' hr fun a' w' S' L' g1 g2 => ?_
        rw [hx] at h
        cases e1 with
        | normal => exact cutAt_ok hT hm hN k y hs.2 h (Nat.le_trans hN' g2.kept.size) g1 (fun e a'' w'' S'' L'' q1 q2 => h1 e a'' w'' S'' L'' q1 (g2.trans q2)) (fun e a'' w'' S'' L'' q1 q2 => h2 e a'' w'' S'' L'' q1 (g2.trans q2))
        | exit id => exact absurd hx (noExit_ok x' hs.1)
        | ret =>
          simp only [thenD, Option.some.injEq, Prod.mk.injEq] at h
          obtain ⟨rfl, rfl⟩ := h
          exact h2 (by intro e; cases e) a' w' S' L' g1 g2
    | _ => simp [heads] at hs

/-- A law whose body is gone through as one likes: it gives true. -/
theorem law_body {f : FuncId} {fn : Func} {c : Code} (hf : P.funcs[f]? = some fn) (hb : fn.body = some c) {ds : List D} {vs : List Value} {w : World} (hv : RepA (· < w.heap.size) [] w vs ds)
    (h : ∀ (Q : Exit → Act → World → Prop) (a : Act), RepF w.heap.size w.heap.size (· < w.heap.size) [] w a (ds ++ List.replicate (fn.ntmps - ds.length) .undef, []) →
      (∀ (lv : Lv) a' w' S' L' fr', (∀ j, lv ≠ .exit j) → resultsD P fn.results.toList fr' = some (bD true) → RepF w.heap.size w.heap.size S' L' w' a' fr' → Later w.heap.size (· < w.heap.size) S' [] L' w w' → Q lv.toExit a' w') → c.wpIn Fence.wide 1 P Q a w) :
    Calls P f vs.toArray w fun e w' => e = .returned (.bool true) ∧ Below w.heap.size w w' := by
  have ho : HRel w.heap.size (· < w.heap.size) [] w [] := hrel_none _ w fun _ hk => hk
  have hl := hv.length
  have hrep : RepF w.heap.size w.heap.size (· < w.heap.size) [] w { tmps := vs.toArray ++ Array.replicate (fn.ntmps - vs.toArray.size) undef, defers := [] } (ds ++ List.replicate (fn.ntmps - ds.length) .undef, []) := by
    refine ⟨MarksOk.nil, ?_, ho⟩
    have h2 : ∀ k, RepA (· < w.heap.size) [] w (List.replicate k undef) (List.replicate k .undef) := by
      intro k
      induction k with
      | zero => exact RepA.nil
      | succ k ih => exact RepA.cons (by simp only [Rep]) ih
    have h3 := hv.append (h2 (fn.ntmps - ds.length))
    rw [← hl] at h3 ⊢
    simpa using h3
  have fin : ∀ (a' : Act) w' S' L' (fr : Fr), resultsD P fn.results.toList fr = some (bD true) → RepF w.heap.size w.heap.size S' L' w' a' fr → Later w.heap.size (· < w.heap.size) S' [] L' w w' →
      LeavesInM Fence.wide 1 P fn a'.tmps (fun e w' => e = .returned (.bool true) ∧ Below w.heap.size w w') a'.defers .returning w' := by
    intro a' w' S' L' fr hrs h1 h2
    obtain ⟨Ds, m1, m2, m3⟩ := h1.defers
    rw [m1]
    refine leaves_marksOf (fun W => RepA S' L' W a'.tmps.toList fr.1 ∧ HRel w.heap.size S' L' W fr.2 ∧ Later w.heap.size (· < w.heap.size) S' [] L' w W) Ds w' m2 (fun D hD => (m3 D hD).2.2) ?_ ⟨h1.tmps, h1.objs, h2⟩ ?_
    · rintro A D hD hA ⟨i1, i2, i3⟩
      obtain ⟨k1, k2, k3⟩ := m3 D hD
      obtain ⟨q1, q2, q3⟩ := i2.shut hA k2 (Nat.le_trans ho.base k1) (.deferred none)
      refine ⟨RepA.kept q3 (fun _ h => h) (fun _ _ h => h) _ _ i1, q1, i3.below.trans q2, i3.kept.trans (q3.mono i3.more), i3.more, i3.pre, i3.only, fun k hk => ?_⟩
      have := (Array.getElem?_eq_some_iff.1 hk).1
      exact (World.putObj_heap_other (by rintro rfl; omega)).trans (i3.marks k hk)
    · rintro W ⟨i1, i2, i3⟩
      obtain ⟨v, h3, h4⟩ := results_ok (fn := fn) (a := ⟨a'.tmps, []⟩) (N := 0) ⟨MarksOk.nil, i1, i2⟩ hrs
      simp only [Rep] at h4
      exact ⟨v, h3, by rw [h4], i3.below⟩
  refine callsIn_wide.1 (callsIn_of_wp_marks (n := 1) hf hb trivial (h _ _ hrep fun lv a' w' S' L' fr' hlv hrs h1 h2 => ?_))
  cases lv with
  | exit id => exact absurd rfl (hlv id)
  | normal => exact fin a' w' S' L' fr' hrs h1 h2
  | ret => exact fin a' w' S' L' fr' hrs h1 h2
end
end Go.Proofs.Ytbnmkdlmalobaaa
end

section
namespace Go.Proofs.Ytbnmkdlmalobaaa
open Go.RowKit
set_option linter.unusedVariables false
set_option linter.unusedSimpArgs false

theorem flat_ints (l : List Int) : (l.map oneI).flatten = l.map iD := by
  induction l with
  | nil => rfl
  | cons x r ih => simp only [List.map_cons, List.flatten_cons, ih, oneI]; rfl
theorem ints_ok (l : List Int) : (l.map iD).all cellOk = true := by
  induction l with
  | nil => rfl
  | cons x r ih => simp only [List.map_cons, List.all_cons, ih]; rfl
/-- To a row of ints more are appended. -/
theorem appH_ints (e : TypeId) (id n : Nat) (a new : List Int) (H : Heap) (h : H[id]? = some (.cells e 1 (a.map iD))) (hn : n = a.length) (hb : a.length + new.length ≤ 4000000) : appH e 1 (.hs id n) (new.map iD) H = some (.hs H.length (a ++ new).length, (H.set id .dead) ++ [.cells e 1 ((a ++ new).map iD)]) := by
  subst hn
  rw [appH, if_neg (by rw [ints_ok]; simp)]
  simp only [h]
  rw [if_pos ⟨trivial, trivial, by simp, by simp; omega⟩]
  simp
theorem append_vals (e : TypeId) (id n : Nat) (a new : List Int) (H : Heap) (h : H[id]? = some (.cells e 1 (a.map iD))) (hn : n = a.length) (hb : a.length + new.length ≤ 4000000) : appendH e 1 (.hs id n) (intsD new) H = some (.hs H.length (a ++ new).length, (H.set id .dead) ++ [.cells e 1 ((a ++ new).map iD)]) := by
  have hs : srcH 1 H (intsD new) = some (new.map iD) := by
    show (elsD 1 (intsD new)).map List.flatten = _
    have : elsD 1 (intsD new) = some (new.map oneI) := rfl
    rw [this, Option.map_some, flat_ints]
  rw [appendH, hs, Option.bind_some]
  exact appH_ints e id n a new H h hn hb
theorem append_row (e t : TypeId) (id n id' n' : Nat) (a new : List Int) (H : Heap) (h : H[id]? = some (.cells e 1 (a.map iD))) (hn : n = a.length) (h' : H[id']? = some (.cells t 1 (new.map iD))) (hn' : n' = new.length) (hb : a.length + new.length ≤ 4000000) : appendH e 1 (.hs id n) (.hs id' n') H = some (.hs H.length (a ++ new).length, (H.set id .dead) ++ [.cells e 1 ((a ++ new).map iD)]) := by
  have hs : srcH 1 H (.hs id' n') = some (new.map iD) := by
    simp only [srcH, h']
    rw [if_pos ⟨trivial, by simp [hn']⟩, List.take_of_length_le (by simp [hn'])]
  rw [appendH, hs, Option.bind_some]
  exact appH_ints e id n a new H h hn hb

end Go.Proofs.Ytbnmkdlmalobaaa
end

section
namespace Go.Proofs.Ytbnmkdlmalobaaa
open Go.RowKit
set_option linter.unusedVariables false
set_option maxRecDepth 100000

def headOps : Code → List Oper
  | .seq (.region _ ops _) _ => ops.toList
  | _ => []
/-- The operations of the region. -/
def opsV (fn : Func) : List Oper := headOps (tailAt 5 (bodyOf fn))
def waitsV (o : Oper) : List Nat := (o.after.toList.filter (Region.binds .any ·)).map (·.on)
theorem waits_done {o : Oper} {d : Nat → Bool} (h : ∀ e ∈ o.after, Region.binds .any e = true → d e.on = true) {l : List Nat} (hl : waitsV o = l) : ∀ k ∈ l, d k = true := by
  subst hl
  intro k hk
  unfold waitsV at hk
  simp only [List.mem_map, List.mem_filter, Array.mem_toList_iff] at hk
  obtain ⟨e, ⟨h1, h2⟩, rfl⟩ := hk
  exact h e h1 h2
theorem upd_mono {d : Nat → Bool} {i k : Nat} (h : d k = true) : upd d i k = true := by
  by_cases e : k = i
  · rw [e]; exact upd_self d i
  · rw [upd_other d e]; exact h
theorem upd_back {d : Nat → Bool} {i k : Nat} (h : k ≠ i) {b : Bool} (hk : upd d i k = b) : d k = b := by rwa [upd_other d h] at hk
theorem upd_false {d : Nat → Bool} {i k : Nat} (hk : upd d i k = false) : d k = false := by
  by_cases e : k = i
  · rw [e, upd_self] at hk; cases hk
  · rwa [upd_other d e] at hk
theorem put_ne {fr : List D} {s t : Nat} (h : s ≠ t) (v : D) : (putD fr (some t) v).getD s .undef = fr.getD s .undef := by
  simp only [putD, List.getD_eq_getElem?_getD]
  rw [List.getElem?_set_ne (fun e => h e.symm)]
theorem put_eq {fr : List D} {t : Nat} (h : t < fr.length) (v : D) : (putD fr (some t) v).getD t .undef = v := by
  simp only [putD, List.getD_eq_getElem?_getD]
  rw [List.getElem?_set_self h]; rfl
theorem app_old {H : Heap} {i : Nat} {y x : HO} (h : H[i]? = some y) : (H ++ [x])[i]? = some y := by
  rw [List.getElem?_append_left (List.getElem?_eq_some_iff.1 h).1]; exact h
theorem app_new (H : Heap) (x : HO) : (H ++ [x])[H.length]? = some x := by simp
theorem set_old {H : Heap} {i a : Nat} {y x : HO} (h : H[i]? = some y) (hne : i ≠ a) : (H.set a x)[i]? = some y := by
  rw [List.getElem?_set_ne (fun e => hne e.symm)]; exact h
theorem set_new {H : Heap} {a : Nat} {y x : HO} (h : H[a]? = some y) : (H.set a x)[a]? = some x := by
  rw [List.getElem?_set_self (List.getElem?_eq_some_iff.1 h).1]
theorem setapp_old {H : Heap} {i a : Nat} {y x z : HO} (h : H[i]? = some y) (hne : i ≠ a) : (H.set a x ++ [z])[i]? = some y := app_old (set_old h hne)
theorem setapp_new (H : Heap) (a : Nat) (x z : HO) : (H.set a x ++ [z])[H.length]? = some z := by
  have : H.length = (H.set a x).length := by simp
  rw [this]; exact app_new _ _
theorem ids_ne {H : Heap} {i j : Nat} {x y : HO} (hi : H[i]? = some x) (hj : H[j]? = some y) (h : x ≠ y) : i ≠ j := by
  rintro rfl
  rw [hi] at hj; exact h (Option.some.inj hj)
theorem loadV_at {H : Heap} {id off : Nat} {t : TypeId} {sz : Nat} {cs : List D} (h : H[id]? = some (.cells t sz cs)) (s : Option Nat) : loadH s H (.hp id off) = partS s (cs.drop off) 0 := by
  simp only [loadH, h]
theorem setV_at {H : Heap} {j : Nat} {t : TypeId} {x y z a b c : D} (h : H[j]? = some (.cells t 3 [x, y, z])) (hok : [a, b, c].all cellOk = true) : setH 3 (.hp j 0) (.agg [a, b, c]) H = some (.v undef, H.set j (.cells t 3 [a, b, c])) := by
  have : storeH 3 (.hp j 0) (.agg [a, b, c]) H = some (H.set j (.cells t 3 [a, b, c])) := by
    have hc : cellsD (.agg [a, b, c]) = some [a, b, c] := rfl
    simp only [storeH, hc, h]
    rw [if_pos ⟨rfl, by simp, hok⟩]; rfl
  rw [setH, this]; rfl

/-- What is known when the operations d have been carried out. -/
structure JV (fr0 : List D) (p : Pg) (t : Int) (d : Nat → Bool) (fr : List D) (H : Heap) (i2 i5 i7 i8 j : Nat) : Prop where
  len : fr.length = 58
  keep : ∀ s, s ∉ [30, 31, 32, 33, 34, 35, 36, 37, 38, 39, 40, 41, 7] → fr.getD s .undef = fr0.getD s .undef
  v0 : d 0 = true → fr.getD 30 .undef = .hp 0 0
  v1 : d 1 = true → fr.getD 31 .undef = iD p.params
  v2 : d 2 = true → fr.getD 32 .undef = .hs i2 0
  v3 : d 3 = true → fr.getD 33 .undef = .hp 0 1
  v4 : d 4 = true → fr.getD 34 .undef = intsD p.vars
  v5 : d 5 = true → fr.getD 35 .undef = .hs i5 p.vars.length
  v6 : d 6 = true → fr.getD 36 .undef = iD t
  v7 : d 7 = true → fr.getD 37 .undef = .hs i7 1
  v8 : d 8 = true → fr.getD 38 .undef = .hs i8 (p.vars ++ [t]).length
  v9 : d 9 = true → fr.getD 39 .undef = .hp 0 2
  v10 : d 10 = true → fr.getD 40 .undef = nodesD p.body
  v11 : d 11 = true → fr.getD 41 .undef = .agg [iD p.params, .hs i8 (p.vars ++ [t]).length, nodesD p.body]
  v12 : d 12 = true → fr.getD 7 .undef = .hp j 0
  h0 : H[0]? = some (.cells 25 3 [iD p.params, intsD p.vars, nodesD p.body])
  h2 : d 2 = true → d 5 = false → H[i2]? = some (.cells 3 1 [])
  h5 : d 5 = true → d 8 = false → H[i5]? = some (.cells 3 1 (p.vars.map iD))
  h7 : d 7 = true → d 8 = false → H[i7]? = some (.cells 3 1 [iD t])
  h8 : d 8 = true → H[i8]? = some (.cells 3 1 ((p.vars ++ [t]).map iD))
  h12 : d 12 = true → d 13 = false → H[j]? = some (.cells 25 3 [iD 0, (.v (.slice none 0 0)), (.v (.slice none 0 0))])
  h13 : d 13 = true → H[j]? = some (.cells 25 3 [iD p.params, .hs i8 (p.vars ++ [t]).length, nodesD p.body])
  j0 : d 12 = true → j ≠ 0
  c8 : d 8 = true → d 5 = true
  c11 : d 11 = true → d 8 = true
  c13 : d 13 = true → d 12 = true
  c14 : d 13 = true → d 8 = true
theorem opV_0 (fr : List D) (H : Heap) : stepD Try.prog L09 ((opsV Try.f5).getD 0 default).op (evalD fr) H = same H (fieldAtH 0 (fr.getD 2 .undef)) := by kernel_rfl
theorem dstV_0 : ((opsV Try.f5).getD 0 default).dst = some 30 := by kernel_rfl
theorem waitV_0 : waitsV ((opsV Try.f5).getD 0 default) = [] := by kernel_rfl
theorem opV_1 (fr : List D) (H : Heap) : stepD Try.prog L09 ((opsV Try.f5).getD 1 default).op (evalD fr) H = same H (loadH none H (fr.getD 30 .undef)) := by kernel_rfl
theorem dstV_1 : ((opsV Try.f5).getD 1 default).dst = some 31 := by kernel_rfl
theorem waitV_1 : waitsV ((opsV Try.f5).getD 1 default) = [0] := by kernel_rfl
theorem opV_2 (fr : List D) (H : Heap) : stepD Try.prog L09 ((opsV Try.f5).getD 2 default).op (evalD fr) H = rowH 3 1 0 [iD 0] [] H := by kernel_rfl
theorem dstV_2 : ((opsV Try.f5).getD 2 default).dst = some 32 := by kernel_rfl
theorem waitV_2 : waitsV ((opsV Try.f5).getD 2 default) = [] := by kernel_rfl
theorem opV_3 (fr : List D) (H : Heap) : stepD Try.prog L09 ((opsV Try.f5).getD 3 default).op (evalD fr) H = same H (fieldAtH 1 (fr.getD 2 .undef)) := by kernel_rfl
theorem dstV_3 : ((opsV Try.f5).getD 3 default).dst = some 33 := by kernel_rfl
theorem waitV_3 : waitsV ((opsV Try.f5).getD 3 default) = [] := by kernel_rfl
theorem opV_4 (fr : List D) (H : Heap) : stepD Try.prog L09 ((opsV Try.f5).getD 4 default).op (evalD fr) H = same H (loadH none H (fr.getD 33 .undef)) := by kernel_rfl
theorem dstV_4 : ((opsV Try.f5).getD 4 default).dst = some 34 := by kernel_rfl
theorem waitV_4 : waitsV ((opsV Try.f5).getD 4 default) = [3] := by kernel_rfl
theorem opV_5 (fr : List D) (H : Heap) : stepD Try.prog L09 ((opsV Try.f5).getD 5 default).op (evalD fr) H = appendH 3 1 (fr.getD 32 .undef) (fr.getD 34 .undef) H := by kernel_rfl
theorem dstV_5 : ((opsV Try.f5).getD 5 default).dst = some 35 := by kernel_rfl
theorem waitV_5 : waitsV ((opsV Try.f5).getD 5 default) = [2, 4] := by kernel_rfl
theorem opV_6 (fr : List D) (H : Heap) : stepD Try.prog L09 ((opsV Try.f5).getD 6 default).op (evalD fr) H = some (fr.getD 1 .undef, H) := by kernel_rfl
theorem dstV_6 : ((opsV Try.f5).getD 6 default).dst = some 36 := by kernel_rfl
theorem waitV_6 : waitsV ((opsV Try.f5).getD 6 default) = [] := by kernel_rfl
theorem opV_7 (fr : List D) (H : Heap) : stepD Try.prog L09 ((opsV Try.f5).getD 7 default).op (evalD fr) H = rowH 3 1 1 [iD 0] [(0, fr.getD 36 .undef)] H := by kernel_rfl
theorem dstV_7 : ((opsV Try.f5).getD 7 default).dst = some 37 := by kernel_rfl
theorem waitV_7 : waitsV ((opsV Try.f5).getD 7 default) = [6] := by kernel_rfl
theorem opV_8 (fr : List D) (H : Heap) : stepD Try.prog L09 ((opsV Try.f5).getD 8 default).op (evalD fr) H = appendH 3 1 (fr.getD 35 .undef) (fr.getD 37 .undef) H := by kernel_rfl
theorem dstV_8 : ((opsV Try.f5).getD 8 default).dst = some 38 := by kernel_rfl
theorem waitV_8 : waitsV ((opsV Try.f5).getD 8 default) = [5, 7, 5] := by kernel_rfl
theorem opV_9 (fr : List D) (H : Heap) : stepD Try.prog L09 ((opsV Try.f5).getD 9 default).op (evalD fr) H = same H (fieldAtH 2 (fr.getD 2 .undef)) := by kernel_rfl
theorem dstV_9 : ((opsV Try.f5).getD 9 default).dst = some 39 := by kernel_rfl
theorem waitV_9 : waitsV ((opsV Try.f5).getD 9 default) = [] := by kernel_rfl
theorem opV_10 (fr : List D) (H : Heap) : stepD Try.prog L09 ((opsV Try.f5).getD 10 default).op (evalD fr) H = same H (loadH none H (fr.getD 39 .undef)) := by kernel_rfl
theorem dstV_10 : ((opsV Try.f5).getD 10 default).dst = some 40 := by kernel_rfl
theorem waitV_10 : waitsV ((opsV Try.f5).getD 10 default) = [9] := by kernel_rfl
theorem opV_11 (fr : List D) (H : Heap) : stepD Try.prog L09 ((opsV Try.f5).getD 11 default).op (evalD fr) H = same H (buildR [(0, 1), (1, 1), (2, 1)] [iD 0, (.v (.slice none 0 0)), (.v (.slice none 0 0))] [(0, fr.getD 31 .undef), (1, fr.getD 38 .undef), (2, fr.getD 40 .undef)]) := by kernel_rfl
theorem dstV_11 : ((opsV Try.f5).getD 11 default).dst = some 41 := by kernel_rfl
theorem waitV_11 : waitsV ((opsV Try.f5).getD 11 default) = [1, 8, 10] := by kernel_rfl
theorem opV_12 (fr : List D) (H : Heap) : stepD Try.prog L09 ((opsV Try.f5).getD 12 default).op (evalD fr) H = allocH 25 [iD 0, (.v (.slice none 0 0)), (.v (.slice none 0 0))] H := by kernel_rfl
theorem dstV_12 : ((opsV Try.f5).getD 12 default).dst = some 7 := by kernel_rfl
theorem waitV_12 : waitsV ((opsV Try.f5).getD 12 default) = [] := by kernel_rfl
theorem opV_13 (fr : List D) (H : Heap) : stepD Try.prog L09 ((opsV Try.f5).getD 13 default).op (evalD fr) H = setH 3 (fr.getD 7 .undef) (fr.getD 41 .undef) H := by kernel_rfl
theorem dstV_13 : ((opsV Try.f5).getD 13 default).dst = none := by kernel_rfl
theorem waitV_13 : waitsV ((opsV Try.f5).getD 13 default) = [12, 11, 8, 0, 1, 2, 3, 4, 5, 6, 7, 8, 9, 10, 11, 12] := by kernel_rfl
theorem lenV : (opsV Try.f5).length = 14 := by kernel_rfl
theorem stepV_0 {fr0 : List D} {p : Pg} {t : Int} {d : Nat → Bool} {fr : List D} {H : Heap} {i2 i5 i7 i8 j : Nat} (e1 : fr0.getD 1 .undef = iD t) (e2 : fr0.getD 2 .undef = .hp 0 0) (hb : p.vars.length ≤ 1000) (J : JV fr0 p t d fr H i2 i5 i7 i8 j) (hd : d 0 = false) (w : ∀ k ∈ waitsV ((opsV Try.f5).getD 0 default), d k = true) :
    ∃ v H' i2' i5' i7' i8' j', stepD Try.prog L09 ((opsV Try.f5).getD 0 default).op (evalD fr) H = some (v, H') ∧ JV fr0 p t (upd d 0) (putD fr ((opsV Try.f5).getD 0 default).dst v) H' i2' i5' i7' i8' j' := by
  rw [waitV_0] at w
  rw [dstV_0]
  refine ⟨.hp 0 0, H, i2, i5, i7, i8, j, by rw [opV_0, ((J.keep 2 (by decide)).trans e2)]; rfl, ?_⟩
  constructor
  case len => simp [putD, J.len]
  case keep => intro s hs; exact (put_ne (by rintro rfl; exact hs (by decide)) _).trans (J.keep s hs)
  case v0 => intro _; exact put_eq (by rw [J.len]; decide) _
  case v1 => intro h; exact (put_ne (by decide) _).trans (J.v1 (upd_back (by decide) h))
  case v2 => intro h; exact (put_ne (by decide) _).trans (J.v2 (upd_back (by decide) h))
  case v3 => intro h; exact (put_ne (by decide) _).trans (J.v3 (upd_back (by decide) h))
  case v4 => intro h; exact (put_ne (by decide) _).trans (J.v4 (upd_back (by decide) h))
  case v5 => intro h; exact (put_ne (by decide) _).trans (J.v5 (upd_back (by decide) h))
  case v6 => intro h; exact (put_ne (by decide) _).trans (J.v6 (upd_back (by decide) h))
  case v7 => intro h; exact (put_ne (by decide) _).trans (J.v7 (upd_back (by decide) h))
  case v8 => intro h; exact (put_ne (by decide) _).trans (J.v8 (upd_back (by decide) h))
  case v9 => intro h; exact (put_ne (by decide) _).trans (J.v9 (upd_back (by decide) h))
  case v10 => intro h; exact (put_ne (by decide) _).trans (J.v10 (upd_back (by decide) h))
  case v11 => intro h; exact (put_ne (by decide) _).trans (J.v11 (upd_back (by decide) h))
  case v12 => intro h; exact (put_ne (by decide) _).trans (J.v12 (upd_back (by decide) h))
  case h0 => exact J.h0
  case h2 => intro a b; exact (J.h2 (upd_back (by decide) a) (upd_false b))
  case h5 => intro a b; exact (J.h5 (upd_back (by decide) a) (upd_false b))
  case h7 => intro a b; exact (J.h7 (upd_back (by decide) a) (upd_false b))
  case h8 => intro a; exact (J.h8 (upd_back (by decide) a))
  case h12 => intro a b; exact (J.h12 (upd_back (by decide) a) (upd_false b))
  case h13 => intro a; exact (J.h13 (upd_back (by decide) a))
  case j0 => intro h; exact J.j0 (upd_back (by decide) h)
  case c8 => intro h; exact upd_mono (J.c8 (upd_back (by decide) h))
  case c11 => intro h; exact upd_mono (J.c11 (upd_back (by decide) h))
  case c13 => intro h; exact upd_mono (J.c13 (upd_back (by decide) h))
  case c14 => intro h; exact upd_mono (J.c14 (upd_back (by decide) h))
theorem stepV_1 {fr0 : List D} {p : Pg} {t : Int} {d : Nat → Bool} {fr : List D} {H : Heap} {i2 i5 i7 i8 j : Nat} (e1 : fr0.getD 1 .undef = iD t) (e2 : fr0.getD 2 .undef = .hp 0 0) (hb : p.vars.length ≤ 1000) (J : JV fr0 p t d fr H i2 i5 i7 i8 j) (hd : d 1 = false) (w : ∀ k ∈ waitsV ((opsV Try.f5).getD 1 default), d k = true) :
    ∃ v H' i2' i5' i7' i8' j', stepD Try.prog L09 ((opsV Try.f5).getD 1 default).op (evalD fr) H = some (v, H') ∧ JV fr0 p t (upd d 1) (putD fr ((opsV Try.f5).getD 1 default).dst v) H' i2' i5' i7' i8' j' := by
  rw [waitV_1] at w
  rw [dstV_1]
  refine ⟨iD p.params, H, i2, i5, i7, i8, j, by rw [opV_1, J.v0 (w 0 (by decide)), loadV_at J.h0]; rfl, ?_⟩
  constructor
  case len => simp [putD, J.len]
  case keep => intro s hs; exact (put_ne (by rintro rfl; exact hs (by decide)) _).trans (J.keep s hs)
  case v0 => intro h; exact (put_ne (by decide) _).trans (J.v0 (upd_back (by decide) h))
  case v1 => intro _; exact put_eq (by rw [J.len]; decide) _
  case v2 => intro h; exact (put_ne (by decide) _).trans (J.v2 (upd_back (by decide) h))
  case v3 => intro h; exact (put_ne (by decide) _).trans (J.v3 (upd_back (by decide) h))
  case v4 => intro h; exact (put_ne (by decide) _).trans (J.v4 (upd_back (by decide) h))
  case v5 => intro h; exact (put_ne (by decide) _).trans (J.v5 (upd_back (by decide) h))
  case v6 => intro h; exact (put_ne (by decide) _).trans (J.v6 (upd_back (by decide) h))
  case v7 => intro h; exact (put_ne (by decide) _).trans (J.v7 (upd_back (by decide) h))
  case v8 => intro h; exact (put_ne (by decide) _).trans (J.v8 (upd_back (by decide) h))
  case v9 => intro h; exact (put_ne (by decide) _).trans (J.v9 (upd_back (by decide) h))
  case v10 => intro h; exact (put_ne (by decide) _).trans (J.v10 (upd_back (by decide) h))
  case v11 => intro h; exact (put_ne (by decide) _).trans (J.v11 (upd_back (by decide) h))
  case v12 => intro h; exact (put_ne (by decide) _).trans (J.v12 (upd_back (by decide) h))
  case h0 => exact J.h0
  case h2 => intro a b; exact (J.h2 (upd_back (by decide) a) (upd_false b))
  case h5 => intro a b; exact (J.h5 (upd_back (by decide) a) (upd_false b))
  case h7 => intro a b; exact (J.h7 (upd_back (by decide) a) (upd_false b))
  case h8 => intro a; exact (J.h8 (upd_back (by decide) a))
  case h12 => intro a b; exact (J.h12 (upd_back (by decide) a) (upd_false b))
  case h13 => intro a; exact (J.h13 (upd_back (by decide) a))
  case j0 => intro h; exact J.j0 (upd_back (by decide) h)
  case c8 => intro h; exact upd_mono (J.c8 (upd_back (by decide) h))
  case c11 => intro h; exact upd_mono (J.c11 (upd_back (by decide) h))
  case c13 => intro h; exact upd_mono (J.c13 (upd_back (by decide) h))
  case c14 => intro h; exact upd_mono (J.c14 (upd_back (by decide) h))
theorem stepV_2 {fr0 : List D} {p : Pg} {t : Int} {d : Nat → Bool} {fr : List D} {H : Heap} {i2 i5 i7 i8 j : Nat} (e1 : fr0.getD 1 .undef = iD t) (e2 : fr0.getD 2 .undef = .hp 0 0) (hb : p.vars.length ≤ 1000) (J : JV fr0 p t d fr H i2 i5 i7 i8 j) (hd : d 2 = false) (w : ∀ k ∈ waitsV ((opsV Try.f5).getD 2 default), d k = true) :
    ∃ v H' i2' i5' i7' i8' j', stepD Try.prog L09 ((opsV Try.f5).getD 2 default).op (evalD fr) H = some (v, H') ∧ JV fr0 p t (upd d 2) (putD fr ((opsV Try.f5).getD 2 default).dst v) H' i2' i5' i7' i8' j' := by
  rw [waitV_2] at w
  rw [dstV_2]
  refine ⟨.hs H.length 0, H ++ [.cells 3 1 []], H.length, i5, i7, i8, j, by rw [opV_2]; rfl, ?_⟩
  constructor
  case len => simp [putD, J.len]
  case keep => intro s hs; exact (put_ne (by rintro rfl; exact hs (by decide)) _).trans (J.keep s hs)
  case v0 => intro h; exact (put_ne (by decide) _).trans (J.v0 (upd_back (by decide) h))
  case v1 => intro h; exact (put_ne (by decide) _).trans (J.v1 (upd_back (by decide) h))
  case v2 => intro _; exact put_eq (by rw [J.len]; decide) _
  case v3 => intro h; exact (put_ne (by decide) _).trans (J.v3 (upd_back (by decide) h))
  case v4 => intro h; exact (put_ne (by decide) _).trans (J.v4 (upd_back (by decide) h))
  case v5 => intro h; exact (put_ne (by decide) _).trans (J.v5 (upd_back (by decide) h))
  case v6 => intro h; exact (put_ne (by decide) _).trans (J.v6 (upd_back (by decide) h))
  case v7 => intro h; exact (put_ne (by decide) _).trans (J.v7 (upd_back (by decide) h))
  case v8 => intro h; exact (put_ne (by decide) _).trans (J.v8 (upd_back (by decide) h))
  case v9 => intro h; exact (put_ne (by decide) _).trans (J.v9 (upd_back (by decide) h))
  case v10 => intro h; exact (put_ne (by decide) _).trans (J.v10 (upd_back (by decide) h))
  case v11 => intro h; exact (put_ne (by decide) _).trans (J.v11 (upd_back (by decide) h))
  case v12 => intro h; exact (put_ne (by decide) _).trans (J.v12 (upd_back (by decide) h))
  case h0 => exact app_old J.h0
  case h2 => intro a b; exact app_new _ _
  case h5 => intro a b; exact app_old (J.h5 (upd_back (by decide) a) (upd_false b))
  case h7 => intro a b; exact app_old (J.h7 (upd_back (by decide) a) (upd_false b))
  case h8 => intro a; exact app_old (J.h8 (upd_back (by decide) a))
  case h12 => intro a b; exact app_old (J.h12 (upd_back (by decide) a) (upd_false b))
  case h13 => intro a; exact app_old (J.h13 (upd_back (by decide) a))
  case j0 => intro h; exact J.j0 (upd_back (by decide) h)
  case c8 => intro h; exact upd_mono (J.c8 (upd_back (by decide) h))
  case c11 => intro h; exact upd_mono (J.c11 (upd_back (by decide) h))
  case c13 => intro h; exact upd_mono (J.c13 (upd_back (by decide) h))
  case c14 => intro h; exact upd_mono (J.c14 (upd_back (by decide) h))
theorem stepV_3 {fr0 : List D} {p : Pg} {t : Int} {d : Nat → Bool} {fr : List D} {H : Heap} {i2 i5 i7 i8 j : Nat} (e1 : fr0.getD 1 .undef = iD t) (e2 : fr0.getD 2 .undef = .hp 0 0) (hb : p.vars.length ≤ 1000) (J : JV fr0 p t d fr H i2 i5 i7 i8 j) (hd : d 3 = false) (w : ∀ k ∈ waitsV ((opsV Try.f5).getD 3 default), d k = true) :
    ∃ v H' i2' i5' i7' i8' j', stepD Try.prog L09 ((opsV Try.f5).getD 3 default).op (evalD fr) H = some (v, H') ∧ JV fr0 p t (upd d 3) (putD fr ((opsV Try.f5).getD 3 default).dst v) H' i2' i5' i7' i8' j' := by
  rw [waitV_3] at w
  rw [dstV_3]
  refine ⟨.hp 0 1, H, i2, i5, i7, i8, j, by rw [opV_3, ((J.keep 2 (by decide)).trans e2)]; rfl, ?_⟩
  constructor
  case len => simp [putD, J.len]
  case keep => intro s hs; exact (put_ne (by rintro rfl; exact hs (by decide)) _).trans (J.keep s hs)
  case v0 => intro h; exact (put_ne (by decide) _).trans (J.v0 (upd_back (by decide) h))
  case v1 => intro h; exact (put_ne (by decide) _).trans (J.v1 (upd_back (by decide) h))
  case v2 => intro h; exact (put_ne (by decide) _).trans (J.v2 (upd_back (by decide) h))
  case v3 => intro _; exact put_eq (by rw [J.len]; decide) _
  case v4 => intro h; exact (put_ne (by decide) _).trans (J.v4 (upd_back (by decide) h))
  case v5 => intro h; exact (put_ne (by decide) _).trans (J.v5 (upd_back (by decide) h))
  case v6 => intro h; exact (put_ne (by decide) _).trans (J.v6 (upd_back (by decide) h))
  case v7 => intro h; exact (put_ne (by decide) _).trans (J.v7 (upd_back (by decide) h))
  case v8 => intro h; exact (put_ne (by decide) _).trans (J.v8 (upd_back (by decide) h))
  case v9 => intro h; exact (put_ne (by decide) _).trans (J.v9 (upd_back (by decide) h))
  case v10 => intro h; exact (put_ne (by decide) _).trans (J.v10 (upd_back (by decide) h))
  case v11 => intro h; exact (put_ne (by decide) _).trans (J.v11 (upd_back (by decide) h))
  case v12 => intro h; exact (put_ne (by decide) _).trans (J.v12 (upd_back (by decide) h))
  case h0 => exact J.h0
  case h2 => intro a b; exact (J.h2 (upd_back (by decide) a) (upd_false b))
  case h5 => intro a b; exact (J.h5 (upd_back (by decide) a) (upd_false b))
  case h7 => intro a b; exact (J.h7 (upd_back (by decide) a) (upd_false b))
  case h8 => intro a; exact (J.h8 (upd_back (by decide) a))
  case h12 => intro a b; exact (J.h12 (upd_back (by decide) a) (upd_false b))
  case h13 => intro a; exact (J.h13 (upd_back (by decide) a))
  case j0 => intro h; exact J.j0 (upd_back (by decide) h)
  case c8 => intro h; exact upd_mono (J.c8 (upd_back (by decide) h))
  case c11 => intro h; exact upd_mono (J.c11 (upd_back (by decide) h))
  case c13 => intro h; exact upd_mono (J.c13 (upd_back (by decide) h))
  case c14 => intro h; exact upd_mono (J.c14 (upd_back (by decide) h))
theorem stepV_4 {fr0 : List D} {p : Pg} {t : Int} {d : Nat → Bool} {fr : List D} {H : Heap} {i2 i5 i7 i8 j : Nat} (e1 : fr0.getD 1 .undef = iD t) (e2 : fr0.getD 2 .undef = .hp 0 0) (hb : p.vars.length ≤ 1000) (J : JV fr0 p t d fr H i2 i5 i7 i8 j) (hd : d 4 = false) (w : ∀ k ∈ waitsV ((opsV Try.f5).getD 4 default), d k = true) :
    ∃ v H' i2' i5' i7' i8' j', stepD Try.prog L09 ((opsV Try.f5).getD 4 default).op (evalD fr) H = some (v, H') ∧ JV fr0 p t (upd d 4) (putD fr ((opsV Try.f5).getD 4 default).dst v) H' i2' i5' i7' i8' j' := by
  rw [waitV_4] at w
  rw [dstV_4]
  refine ⟨intsD p.vars, H, i2, i5, i7, i8, j, by rw [opV_4, J.v3 (w 3 (by decide)), loadV_at J.h0]; rfl, ?_⟩
  constructor
  case len => simp [putD, J.len]
  case keep => intro s hs; exact (put_ne (by rintro rfl; exact hs (by decide)) _).trans (J.keep s hs)
  case v0 => intro h; exact (put_ne (by decide) _).trans (J.v0 (upd_back (by decide) h))
  case v1 => intro h; exact (put_ne (by decide) _).trans (J.v1 (upd_back (by decide) h))
  case v2 => intro h; exact (put_ne (by decide) _).trans (J.v2 (upd_back (by decide) h))
  case v3 => intro h; exact (put_ne (by decide) _).trans (J.v3 (upd_back (by decide) h))
  case v4 => intro _; exact put_eq (by rw [J.len]; decide) _
  case v5 => intro h; exact (put_ne (by decide) _).trans (J.v5 (upd_back (by decide) h))
  case v6 => intro h; exact (put_ne (by decide) _).trans (J.v6 (upd_back (by decide) h))
  case v7 => intro h; exact (put_ne (by decide) _).trans (J.v7 (upd_back (by decide) h))
  case v8 => intro h; exact (put_ne (by decide) _).trans (J.v8 (upd_back (by decide) h))
  case v9 => intro h; exact (put_ne (by decide) _).trans (J.v9 (upd_back (by decide) h))
  case v10 => intro h; exact (put_ne (by decide) _).trans (J.v10 (upd_back (by decide) h))
  case v11 => intro h; exact (put_ne (by decide) _).trans (J.v11 (upd_back (by decide) h))
  case v12 => intro h; exact (put_ne (by decide) _).trans (J.v12 (upd_back (by decide) h))
  case h0 => exact J.h0
  case h2 => intro a b; exact (J.h2 (upd_back (by decide) a) (upd_false b))
  case h5 => intro a b; exact (J.h5 (upd_back (by decide) a) (upd_false b))
  case h7 => intro a b; exact (J.h7 (upd_back (by decide) a) (upd_false b))
  case h8 => intro a; exact (J.h8 (upd_back (by decide) a))
  case h12 => intro a b; exact (J.h12 (upd_back (by decide) a) (upd_false b))
  case h13 => intro a; exact (J.h13 (upd_back (by decide) a))
  case j0 => intro h; exact J.j0 (upd_back (by decide) h)
  case c8 => intro h; exact upd_mono (J.c8 (upd_back (by decide) h))
  case c11 => intro h; exact upd_mono (J.c11 (upd_back (by decide) h))
  case c13 => intro h; exact upd_mono (J.c13 (upd_back (by decide) h))
  case c14 => intro h; exact upd_mono (J.c14 (upd_back (by decide) h))
theorem stepV_5 {fr0 : List D} {p : Pg} {t : Int} {d : Nat → Bool} {fr : List D} {H : Heap} {i2 i5 i7 i8 j : Nat} (e1 : fr0.getD 1 .undef = iD t) (e2 : fr0.getD 2 .undef = .hp 0 0) (hb : p.vars.length ≤ 1000) (J : JV fr0 p t d fr H i2 i5 i7 i8 j) (hd : d 5 = false) (w : ∀ k ∈ waitsV ((opsV Try.f5).getD 5 default), d k = true) :
    ∃ v H' i2' i5' i7' i8' j', stepD Try.prog L09 ((opsV Try.f5).getD 5 default).op (evalD fr) H = some (v, H') ∧ JV fr0 p t (upd d 5) (putD fr ((opsV Try.f5).getD 5 default).dst v) H' i2' i5' i7' i8' j' := by
  rw [waitV_5] at w
  rw [dstV_5]
  refine ⟨.hs H.length p.vars.length, (H.set i2 .dead) ++ [.cells 3 1 (p.vars.map iD)], i2, H.length, i7, i8, j, by rw [opV_5, J.v2 (w 2 (by decide)), J.v4 (w 4 (by decide))]; exact append_vals _ i2 0 [] p.vars H (J.h2 (w 2 (by decide)) hd) rfl (by simp; omega), ?_⟩
  constructor
  case len => simp [putD, J.len]
  case keep => intro s hs; exact (put_ne (by rintro rfl; exact hs (by decide)) _).trans (J.keep s hs)
  case v0 => intro h; exact (put_ne (by decide) _).trans (J.v0 (upd_back (by decide) h))
  case v1 => intro h; exact (put_ne (by decide) _).trans (J.v1 (upd_back (by decide) h))
  case v2 => intro h; exact (put_ne (by decide) _).trans (J.v2 (upd_back (by decide) h))
  case v3 => intro h; exact (put_ne (by decide) _).trans (J.v3 (upd_back (by decide) h))
  case v4 => intro h; exact (put_ne (by decide) _).trans (J.v4 (upd_back (by decide) h))
  case v5 => intro _; exact put_eq (by rw [J.len]; decide) _
  case v6 => intro h; exact (put_ne (by decide) _).trans (J.v6 (upd_back (by decide) h))
  case v7 => intro h; exact (put_ne (by decide) _).trans (J.v7 (upd_back (by decide) h))
  case v8 => intro h; exact (put_ne (by decide) _).trans (J.v8 (upd_back (by decide) h))
  case v9 => intro h; exact (put_ne (by decide) _).trans (J.v9 (upd_back (by decide) h))
  case v10 => intro h; exact (put_ne (by decide) _).trans (J.v10 (upd_back (by decide) h))
  case v11 => intro h; exact (put_ne (by decide) _).trans (J.v11 (upd_back (by decide) h))
  case v12 => intro h; exact (put_ne (by decide) _).trans (J.v12 (upd_back (by decide) h))
  case h0 => exact setapp_old J.h0 (ids_ne J.h0 (J.h2 (w 2 (by decide)) hd) (by intro e; cases e))
  case h2 => intro a b; rw [upd_self] at b; cases b
  case h5 => intro a b; exact setapp_new _ _ _ _
  case h7 => intro a b; exact setapp_old (J.h7 (upd_back (by decide) a) (upd_false b)) (ids_ne (J.h7 (upd_back (by decide) a) (upd_false b)) (J.h2 (w 2 (by decide)) hd) (by intro e; cases e))
  case h8 => intro a; have h2 := J.c8 (upd_back (by decide) a); rw [hd] at h2; cases h2
  case h12 => intro a b; exact setapp_old (J.h12 (upd_back (by decide) a) (upd_false b)) (ids_ne (J.h12 (upd_back (by decide) a) (upd_false b)) (J.h2 (w 2 (by decide)) hd) (by intro e; cases e))
  case h13 => intro a; exact setapp_old (J.h13 (upd_back (by decide) a)) (ids_ne (J.h13 (upd_back (by decide) a)) (J.h2 (w 2 (by decide)) hd) (by intro e; cases e))
  case j0 => intro h; exact J.j0 (upd_back (by decide) h)
  case c8 => intro h; exact upd_mono (J.c8 (upd_back (by decide) h))
  case c11 => intro h; exact upd_mono (J.c11 (upd_back (by decide) h))
  case c13 => intro h; exact upd_mono (J.c13 (upd_back (by decide) h))
  case c14 => intro h; exact upd_mono (J.c14 (upd_back (by decide) h))
theorem stepV_6 {fr0 : List D} {p : Pg} {t : Int} {d : Nat → Bool} {fr : List D} {H : Heap} {i2 i5 i7 i8 j : Nat} (e1 : fr0.getD 1 .undef = iD t) (e2 : fr0.getD 2 .undef = .hp 0 0) (hb : p.vars.length ≤ 1000) (J : JV fr0 p t d fr H i2 i5 i7 i8 j) (hd : d 6 = false) (w : ∀ k ∈ waitsV ((opsV Try.f5).getD 6 default), d k = true) :
    ∃ v H' i2' i5' i7' i8' j', stepD Try.prog L09 ((opsV Try.f5).getD 6 default).op (evalD fr) H = some (v, H') ∧ JV fr0 p t (upd d 6) (putD fr ((opsV Try.f5).getD 6 default).dst v) H' i2' i5' i7' i8' j' := by
  rw [waitV_6] at w
  rw [dstV_6]
  refine ⟨iD t, H, i2, i5, i7, i8, j, by rw [opV_6, (J.keep 1 (by decide)).trans e1], ?_⟩
  constructor
  case len => simp [putD, J.len]
  case keep => intro s hs; exact (put_ne (by rintro rfl; exact hs (by decide)) _).trans (J.keep s hs)
  case v0 => intro h; exact (put_ne (by decide) _).trans (J.v0 (upd_back (by decide) h))
  case v1 => intro h; exact (put_ne (by decide) _).trans (J.v1 (upd_back (by decide) h))
  case v2 => intro h; exact (put_ne (by decide) _).trans (J.v2 (upd_back (by decide) h))
  case v3 => intro h; exact (put_ne (by decide) _).trans (J.v3 (upd_back (by decide) h))
  case v4 => intro h; exact (put_ne (by decide) _).trans (J.v4 (upd_back (by decide) h))
  case v5 => intro h; exact (put_ne (by decide) _).trans (J.v5 (upd_back (by decide) h))
  case v6 => intro _; exact put_eq (by rw [J.len]; decide) _
  case v7 => intro h; exact (put_ne (by decide) _).trans (J.v7 (upd_back (by decide) h))
  case v8 => intro h; exact (put_ne (by decide) _).trans (J.v8 (upd_back (by decide) h))
  case v9 => intro h; exact (put_ne (by decide) _).trans (J.v9 (upd_back (by decide) h))
  case v10 => intro h; exact (put_ne (by decide) _).trans (J.v10 (upd_back (by decide) h))
  case v11 => intro h; exact (put_ne (by decide) _).trans (J.v11 (upd_back (by decide) h))
  case v12 => intro h; exact (put_ne (by decide) _).trans (J.v12 (upd_back (by decide) h))
  case h0 => exact J.h0
  case h2 => intro a b; exact (J.h2 (upd_back (by decide) a) (upd_false b))
  case h5 => intro a b; exact (J.h5 (upd_back (by decide) a) (upd_false b))
  case h7 => intro a b; exact (J.h7 (upd_back (by decide) a) (upd_false b))
  case h8 => intro a; exact (J.h8 (upd_back (by decide) a))
  case h12 => intro a b; exact (J.h12 (upd_back (by decide) a) (upd_false b))
  case h13 => intro a; exact (J.h13 (upd_back (by decide) a))
  case j0 => intro h; exact J.j0 (upd_back (by decide) h)
  case c8 => intro h; exact upd_mono (J.c8 (upd_back (by decide) h))
  case c11 => intro h; exact upd_mono (J.c11 (upd_back (by decide) h))
  case c13 => intro h; exact upd_mono (J.c13 (upd_back (by decide) h))
  case c14 => intro h; exact upd_mono (J.c14 (upd_back (by decide) h))
theorem stepV_7 {fr0 : List D} {p : Pg} {t : Int} {d : Nat → Bool} {fr : List D} {H : Heap} {i2 i5 i7 i8 j : Nat} (e1 : fr0.getD 1 .undef = iD t) (e2 : fr0.getD 2 .undef = .hp 0 0) (hb : p.vars.length ≤ 1000) (J : JV fr0 p t d fr H i2 i5 i7 i8 j) (hd : d 7 = false) (w : ∀ k ∈ waitsV ((opsV Try.f5).getD 7 default), d k = true) :
    ∃ v H' i2' i5' i7' i8' j', stepD Try.prog L09 ((opsV Try.f5).getD 7 default).op (evalD fr) H = some (v, H') ∧ JV fr0 p t (upd d 7) (putD fr ((opsV Try.f5).getD 7 default).dst v) H' i2' i5' i7' i8' j' := by
  rw [waitV_7] at w
  rw [dstV_7]
  refine ⟨.hs H.length 1, H ++ [.cells 3 1 [iD t]], i2, i5, H.length, i8, j, by rw [opV_7, J.v6 (w 6 (by decide))]; rfl, ?_⟩
  constructor
  case len => simp [putD, J.len]
  case keep => intro s hs; exact (put_ne (by rintro rfl; exact hs (by decide)) _).trans (J.keep s hs)
  case v0 => intro h; exact (put_ne (by decide) _).trans (J.v0 (upd_back (by decide) h))
  case v1 => intro h; exact (put_ne (by decide) _).trans (J.v1 (upd_back (by decide) h))
  case v2 => intro h; exact (put_ne (by decide) _).trans (J.v2 (upd_back (by decide) h))
  case v3 => intro h; exact (put_ne (by decide) _).trans (J.v3 (upd_back (by decide) h))
  case v4 => intro h; exact (put_ne (by decide) _).trans (J.v4 (upd_back (by decide) h))
  case v5 => intro h; exact (put_ne (by decide) _).trans (J.v5 (upd_back (by decide) h))
  case v6 => intro h; exact (put_ne (by decide) _).trans (J.v6 (upd_back (by decide) h))
  case v7 => intro _; exact put_eq (by rw [J.len]; decide) _
  case v8 => intro h; exact (put_ne (by decide) _).trans (J.v8 (upd_back (by decide) h))
  case v9 => intro h; exact (put_ne (by decide) _).trans (J.v9 (upd_back (by decide) h))
  case v10 => intro h; exact (put_ne (by decide) _).trans (J.v10 (upd_back (by decide) h))
  case v11 => intro h; exact (put_ne (by decide) _).trans (J.v11 (upd_back (by decide) h))
  case v12 => intro h; exact (put_ne (by decide) _).trans (J.v12 (upd_back (by decide) h))
  case h0 => exact app_old J.h0
  case h2 => intro a b; exact app_old (J.h2 (upd_back (by decide) a) (upd_false b))
  case h5 => intro a b; exact app_old (J.h5 (upd_back (by decide) a) (upd_false b))
  case h7 => intro a b; exact app_new _ _
  case h8 => intro a; exact app_old (J.h8 (upd_back (by decide) a))
  case h12 => intro a b; exact app_old (J.h12 (upd_back (by decide) a) (upd_false b))
  case h13 => intro a; exact app_old (J.h13 (upd_back (by decide) a))
  case j0 => intro h; exact J.j0 (upd_back (by decide) h)
  case c8 => intro h; exact upd_mono (J.c8 (upd_back (by decide) h))
  case c11 => intro h; exact upd_mono (J.c11 (upd_back (by decide) h))
  case c13 => intro h; exact upd_mono (J.c13 (upd_back (by decide) h))
  case c14 => intro h; exact upd_mono (J.c14 (upd_back (by decide) h))
theorem stepV_8 {fr0 : List D} {p : Pg} {t : Int} {d : Nat → Bool} {fr : List D} {H : Heap} {i2 i5 i7 i8 j : Nat} (e1 : fr0.getD 1 .undef = iD t) (e2 : fr0.getD 2 .undef = .hp 0 0) (hb : p.vars.length ≤ 1000) (J : JV fr0 p t d fr H i2 i5 i7 i8 j) (hd : d 8 = false) (w : ∀ k ∈ waitsV ((opsV Try.f5).getD 8 default), d k = true) :
    ∃ v H' i2' i5' i7' i8' j', stepD Try.prog L09 ((opsV Try.f5).getD 8 default).op (evalD fr) H = some (v, H') ∧ JV fr0 p t (upd d 8) (putD fr ((opsV Try.f5).getD 8 default).dst v) H' i2' i5' i7' i8' j' := by
  rw [waitV_8] at w
  rw [dstV_8]
  refine ⟨.hs H.length (p.vars ++ [t]).length, (H.set i5 .dead) ++ [.cells 3 1 ((p.vars ++ [t]).map iD)], i2, i5, i7, H.length, j, by rw [opV_8, J.v5 (w 5 (by decide)), J.v7 (w 7 (by decide))]; exact append_row _ 3 i5 _ i7 1 p.vars [t] H (J.h5 (w 5 (by decide)) hd) rfl (J.h7 (w 7 (by decide)) hd) rfl (by simp; omega), ?_⟩
  constructor
  case len => simp [putD, J.len]
  case keep => intro s hs; exact (put_ne (by rintro rfl; exact hs (by decide)) _).trans (J.keep s hs)
  case v0 => intro h; exact (put_ne (by decide) _).trans (J.v0 (upd_back (by decide) h))
  case v1 => intro h; exact (put_ne (by decide) _).trans (J.v1 (upd_back (by decide) h))
  case v2 => intro h; exact (put_ne (by decide) _).trans (J.v2 (upd_back (by decide) h))
  case v3 => intro h; exact (put_ne (by decide) _).trans (J.v3 (upd_back (by decide) h))
  case v4 => intro h; exact (put_ne (by decide) _).trans (J.v4 (upd_back (by decide) h))
  case v5 => intro h; exact (put_ne (by decide) _).trans (J.v5 (upd_back (by decide) h))
  case v6 => intro h; exact (put_ne (by decide) _).trans (J.v6 (upd_back (by decide) h))
  case v7 => intro h; exact (put_ne (by decide) _).trans (J.v7 (upd_back (by decide) h))
  case v8 => intro _; exact put_eq (by rw [J.len]; decide) _
  case v9 => intro h; exact (put_ne (by decide) _).trans (J.v9 (upd_back (by decide) h))
  case v10 => intro h; exact (put_ne (by decide) _).trans (J.v10 (upd_back (by decide) h))
  case v11 => intro h; have h2 := J.c11 (upd_back (by decide) h); rw [hd] at h2; cases h2
  case v12 => intro h; exact (put_ne (by decide) _).trans (J.v12 (upd_back (by decide) h))
  case h0 => exact setapp_old J.h0 (ids_ne J.h0 (J.h5 (w 5 (by decide)) hd) (by intro e; cases e))
  case h2 => intro a b; have h2 := upd_false b; rw [w 5 (by decide)] at h2; cases h2
  case h5 => intro a b; rw [upd_self] at b; cases b
  case h7 => intro a b; rw [upd_self] at b; cases b
  case h8 => intro a; exact setapp_new _ _ _ _
  case h12 => intro a b; exact setapp_old (J.h12 (upd_back (by decide) a) (upd_false b)) (ids_ne (J.h12 (upd_back (by decide) a) (upd_false b)) (J.h5 (w 5 (by decide)) hd) (by intro e; cases e))
  case h13 => intro a; have h2 := J.c14 (upd_back (by decide) a); rw [hd] at h2; cases h2
  case j0 => intro h; exact J.j0 (upd_back (by decide) h)
  case c8 => intro _; exact upd_mono (w 5 (by decide))
  case c11 => intro h; exact upd_mono (J.c11 (upd_back (by decide) h))
  case c13 => intro h; exact upd_mono (J.c13 (upd_back (by decide) h))
  case c14 => intro h; exact upd_mono (J.c14 (upd_back (by decide) h))
theorem stepV_9 {fr0 : List D} {p : Pg} {t : Int} {d : Nat → Bool} {fr : List D} {H : Heap} {i2 i5 i7 i8 j : Nat} (e1 : fr0.getD 1 .undef = iD t) (e2 : fr0.getD 2 .undef = .hp 0 0) (hb : p.vars.length ≤ 1000) (J : JV fr0 p t d fr H i2 i5 i7 i8 j) (hd : d 9 = false) (w : ∀ k ∈ waitsV ((opsV Try.f5).getD 9 default), d k = true) :
    ∃ v H' i2' i5' i7' i8' j', stepD Try.prog L09 ((opsV Try.f5).getD 9 default).op (evalD fr) H = some (v, H') ∧ JV fr0 p t (upd d 9) (putD fr ((opsV Try.f5).getD 9 default).dst v) H' i2' i5' i7' i8' j' := by
  rw [waitV_9] at w
  rw [dstV_9]
  refine ⟨.hp 0 2, H, i2, i5, i7, i8, j, by rw [opV_9, ((J.keep 2 (by decide)).trans e2)]; rfl, ?_⟩
  constructor
  case len => simp [putD, J.len]
  case keep => intro s hs; exact (put_ne (by rintro rfl; exact hs (by decide)) _).trans (J.keep s hs)
  case v0 => intro h; exact (put_ne (by decide) _).trans (J.v0 (upd_back (by decide) h))
  case v1 => intro h; exact (put_ne (by decide) _).trans (J.v1 (upd_back (by decide) h))
  case v2 => intro h; exact (put_ne (by decide) _).trans (J.v2 (upd_back (by decide) h))
  case v3 => intro h; exact (put_ne (by decide) _).trans (J.v3 (upd_back (by decide) h))
  case v4 => intro h; exact (put_ne (by decide) _).trans (J.v4 (upd_back (by decide) h))
  case v5 => intro h; exact (put_ne (by decide) _).trans (J.v5 (upd_back (by decide) h))
  case v6 => intro h; exact (put_ne (by decide) _).trans (J.v6 (upd_back (by decide) h))
  case v7 => intro h; exact (put_ne (by decide) _).trans (J.v7 (upd_back (by decide) h))
  case v8 => intro h; exact (put_ne (by decide) _).trans (J.v8 (upd_back (by decide) h))
  case v9 => intro _; exact put_eq (by rw [J.len]; decide) _
  case v10 => intro h; exact (put_ne (by decide) _).trans (J.v10 (upd_back (by decide) h))
  case v11 => intro h; exact (put_ne (by decide) _).trans (J.v11 (upd_back (by decide) h))
  case v12 => intro h; exact (put_ne (by decide) _).trans (J.v12 (upd_back (by decide) h))
  case h0 => exact J.h0
  case h2 => intro a b; exact (J.h2 (upd_back (by decide) a) (upd_false b))
  case h5 => intro a b; exact (J.h5 (upd_back (by decide) a) (upd_false b))
  case h7 => intro a b; exact (J.h7 (upd_back (by decide) a) (upd_false b))
  case h8 => intro a; exact (J.h8 (upd_back (by decide) a))
  case h12 => intro a b; exact (J.h12 (upd_back (by decide) a) (upd_false b))
  case h13 => intro a; exact (J.h13 (upd_back (by decide) a))
  case j0 => intro h; exact J.j0 (upd_back (by decide) h)
  case c8 => intro h; exact upd_mono (J.c8 (upd_back (by decide) h))
  case c11 => intro h; exact upd_mono (J.c11 (upd_back (by decide) h))
  case c13 => intro h; exact upd_mono (J.c13 (upd_back (by decide) h))
  case c14 => intro h; exact upd_mono (J.c14 (upd_back (by decide) h))
theorem stepV_10 {fr0 : List D} {p : Pg} {t : Int} {d : Nat → Bool} {fr : List D} {H : Heap} {i2 i5 i7 i8 j : Nat} (e1 : fr0.getD 1 .undef = iD t) (e2 : fr0.getD 2 .undef = .hp 0 0) (hb : p.vars.length ≤ 1000) (J : JV fr0 p t d fr H i2 i5 i7 i8 j) (hd : d 10 = false) (w : ∀ k ∈ waitsV ((opsV Try.f5).getD 10 default), d k = true) :
    ∃ v H' i2' i5' i7' i8' j', stepD Try.prog L09 ((opsV Try.f5).getD 10 default).op (evalD fr) H = some (v, H') ∧ JV fr0 p t (upd d 10) (putD fr ((opsV Try.f5).getD 10 default).dst v) H' i2' i5' i7' i8' j' := by
  rw [waitV_10] at w
  rw [dstV_10]
  refine ⟨nodesD p.body, H, i2, i5, i7, i8, j, by rw [opV_10, J.v9 (w 9 (by decide)), loadV_at J.h0]; rfl, ?_⟩
  constructor
  case len => simp [putD, J.len]
  case keep => intro s hs; exact (put_ne (by rintro rfl; exact hs (by decide)) _).trans (J.keep s hs)
  case v0 => intro h; exact (put_ne (by decide) _).trans (J.v0 (upd_back (by decide) h))
  case v1 => intro h; exact (put_ne (by decide) _).trans (J.v1 (upd_back (by decide) h))
  case v2 => intro h; exact (put_ne (by decide) _).trans (J.v2 (upd_back (by decide) h))
  case v3 => intro h; exact (put_ne (by decide) _).trans (J.v3 (upd_back (by decide) h))
  case v4 => intro h; exact (put_ne (by decide) _).trans (J.v4 (upd_back (by decide) h))
  case v5 => intro h; exact (put_ne (by decide) _).trans (J.v5 (upd_back (by decide) h))
  case v6 => intro h; exact (put_ne (by decide) _).trans (J.v6 (upd_back (by decide) h))
  case v7 => intro h; exact (put_ne (by decide) _).trans (J.v7 (upd_back (by decide) h))
  case v8 => intro h; exact (put_ne (by decide) _).trans (J.v8 (upd_back (by decide) h))
  case v9 => intro h; exact (put_ne (by decide) _).trans (J.v9 (upd_back (by decide) h))
  case v10 => intro _; exact put_eq (by rw [J.len]; decide) _
  case v11 => intro h; exact (put_ne (by decide) _).trans (J.v11 (upd_back (by decide) h))
  case v12 => intro h; exact (put_ne (by decide) _).trans (J.v12 (upd_back (by decide) h))
  case h0 => exact J.h0
  case h2 => intro a b; exact (J.h2 (upd_back (by decide) a) (upd_false b))
  case h5 => intro a b; exact (J.h5 (upd_back (by decide) a) (upd_false b))
  case h7 => intro a b; exact (J.h7 (upd_back (by decide) a) (upd_false b))
  case h8 => intro a; exact (J.h8 (upd_back (by decide) a))
  case h12 => intro a b; exact (J.h12 (upd_back (by decide) a) (upd_false b))
  case h13 => intro a; exact (J.h13 (upd_back (by decide) a))
  case j0 => intro h; exact J.j0 (upd_back (by decide) h)
  case c8 => intro h; exact upd_mono (J.c8 (upd_back (by decide) h))
  case c11 => intro h; exact upd_mono (J.c11 (upd_back (by decide) h))
  case c13 => intro h; exact upd_mono (J.c13 (upd_back (by decide) h))
  case c14 => intro h; exact upd_mono (J.c14 (upd_back (by decide) h))
theorem stepV_11 {fr0 : List D} {p : Pg} {t : Int} {d : Nat → Bool} {fr : List D} {H : Heap} {i2 i5 i7 i8 j : Nat} (e1 : fr0.getD 1 .undef = iD t) (e2 : fr0.getD 2 .undef = .hp 0 0) (hb : p.vars.length ≤ 1000) (J : JV fr0 p t d fr H i2 i5 i7 i8 j) (hd : d 11 = false) (w : ∀ k ∈ waitsV ((opsV Try.f5).getD 11 default), d k = true) :
    ∃ v H' i2' i5' i7' i8' j', stepD Try.prog L09 ((opsV Try.f5).getD 11 default).op (evalD fr) H = some (v, H') ∧ JV fr0 p t (upd d 11) (putD fr ((opsV Try.f5).getD 11 default).dst v) H' i2' i5' i7' i8' j' := by
  rw [waitV_11] at w
  rw [dstV_11]
  refine ⟨.agg [iD p.params, .hs i8 (p.vars ++ [t]).length, nodesD p.body], H, i2, i5, i7, i8, j, by rw [opV_11, J.v1 (w 1 (by decide)), J.v8 (w 8 (by decide)), J.v10 (w 10 (by decide))]; rfl, ?_⟩
  constructor
  case len => simp [putD, J.len]
  case keep => intro s hs; exact (put_ne (by rintro rfl; exact hs (by decide)) _).trans (J.keep s hs)
  case v0 => intro h; exact (put_ne (by decide) _).trans (J.v0 (upd_back (by decide) h))
  case v1 => intro h; exact (put_ne (by decide) _).trans (J.v1 (upd_back (by decide) h))
  case v2 => intro h; exact (put_ne (by decide) _).trans (J.v2 (upd_back (by decide) h))
  case v3 => intro h; exact (put_ne (by decide) _).trans (J.v3 (upd_back (by decide) h))
  case v4 => intro h; exact (put_ne (by decide) _).trans (J.v4 (upd_back (by decide) h))
  case v5 => intro h; exact (put_ne (by decide) _).trans (J.v5 (upd_back (by decide) h))
  case v6 => intro h; exact (put_ne (by decide) _).trans (J.v6 (upd_back (by decide) h))
  case v7 => intro h; exact (put_ne (by decide) _).trans (J.v7 (upd_back (by decide) h))
  case v8 => intro h; exact (put_ne (by decide) _).trans (J.v8 (upd_back (by decide) h))
  case v9 => intro h; exact (put_ne (by decide) _).trans (J.v9 (upd_back (by decide) h))
  case v10 => intro h; exact (put_ne (by decide) _).trans (J.v10 (upd_back (by decide) h))
  case v11 => intro _; exact put_eq (by rw [J.len]; decide) _
  case v12 => intro h; exact (put_ne (by decide) _).trans (J.v12 (upd_back (by decide) h))
  case h0 => exact J.h0
  case h2 => intro a b; exact (J.h2 (upd_back (by decide) a) (upd_false b))
  case h5 => intro a b; exact (J.h5 (upd_back (by decide) a) (upd_false b))
  case h7 => intro a b; exact (J.h7 (upd_back (by decide) a) (upd_false b))
  case h8 => intro a; exact (J.h8 (upd_back (by decide) a))
  case h12 => intro a b; exact (J.h12 (upd_back (by decide) a) (upd_false b))
  case h13 => intro a; exact (J.h13 (upd_back (by decide) a))
  case j0 => intro h; exact J.j0 (upd_back (by decide) h)
  case c8 => intro h; exact upd_mono (J.c8 (upd_back (by decide) h))
  case c11 => intro _; exact upd_mono (w 8 (by decide))
  case c13 => intro h; exact upd_mono (J.c13 (upd_back (by decide) h))
  case c14 => intro h; exact upd_mono (J.c14 (upd_back (by decide) h))
theorem stepV_12 {fr0 : List D} {p : Pg} {t : Int} {d : Nat → Bool} {fr : List D} {H : Heap} {i2 i5 i7 i8 j : Nat} (e1 : fr0.getD 1 .undef = iD t) (e2 : fr0.getD 2 .undef = .hp 0 0) (hb : p.vars.length ≤ 1000) (J : JV fr0 p t d fr H i2 i5 i7 i8 j) (hd : d 12 = false) (w : ∀ k ∈ waitsV ((opsV Try.f5).getD 12 default), d k = true) :
    ∃ v H' i2' i5' i7' i8' j', stepD Try.prog L09 ((opsV Try.f5).getD 12 default).op (evalD fr) H = some (v, H') ∧ JV fr0 p t (upd d 12) (putD fr ((opsV Try.f5).getD 12 default).dst v) H' i2' i5' i7' i8' j' := by
  rw [waitV_12] at w
  rw [dstV_12]
  refine ⟨.hp H.length 0, H ++ [.cells 25 3 [iD 0, (.v (.slice none 0 0)), (.v (.slice none 0 0))]], i2, i5, i7, i8, H.length, by rw [opV_12]; rfl, ?_⟩
  constructor
  case len => simp [putD, J.len]
  case keep => intro s hs; exact (put_ne (by rintro rfl; exact hs (by decide)) _).trans (J.keep s hs)
  case v0 => intro h; exact (put_ne (by decide) _).trans (J.v0 (upd_back (by decide) h))
  case v1 => intro h; exact (put_ne (by decide) _).trans (J.v1 (upd_back (by decide) h))
  case v2 => intro h; exact (put_ne (by decide) _).trans (J.v2 (upd_back (by decide) h))
  case v3 => intro h; exact (put_ne (by decide) _).trans (J.v3 (upd_back (by decide) h))
  case v4 => intro h; exact (put_ne (by decide) _).trans (J.v4 (upd_back (by decide) h))
  case v5 => intro h; exact (put_ne (by decide) _).trans (J.v5 (upd_back (by decide) h))
  case v6 => intro h; exact (put_ne (by decide) _).trans (J.v6 (upd_back (by decide) h))
  case v7 => intro h; exact (put_ne (by decide) _).trans (J.v7 (upd_back (by decide) h))
  case v8 => intro h; exact (put_ne (by decide) _).trans (J.v8 (upd_back (by decide) h))
  case v9 => intro h; exact (put_ne (by decide) _).trans (J.v9 (upd_back (by decide) h))
  case v10 => intro h; exact (put_ne (by decide) _).trans (J.v10 (upd_back (by decide) h))
  case v11 => intro h; exact (put_ne (by decide) _).trans (J.v11 (upd_back (by decide) h))
  case v12 => intro _; exact put_eq (by rw [J.len]; decide) _
  case h0 => exact app_old J.h0
  case h2 => intro a b; exact app_old (J.h2 (upd_back (by decide) a) (upd_false b))
  case h5 => intro a b; exact app_old (J.h5 (upd_back (by decide) a) (upd_false b))
  case h7 => intro a b; exact app_old (J.h7 (upd_back (by decide) a) (upd_false b))
  case h8 => intro a; exact app_old (J.h8 (upd_back (by decide) a))
  case h12 => intro a b; exact app_new _ _
  case h13 => intro a; have h2 := J.c13 (upd_back (by decide) a); rw [hd] at h2; cases h2
  case j0 => intro _ e; have := (List.getElem?_eq_some_iff.1 J.h0).1; omega
  case c8 => intro h; exact upd_mono (J.c8 (upd_back (by decide) h))
  case c11 => intro h; exact upd_mono (J.c11 (upd_back (by decide) h))
  case c13 => intro h; exact upd_mono (J.c13 (upd_back (by decide) h))
  case c14 => intro h; exact upd_mono (J.c14 (upd_back (by decide) h))
theorem stepV_13 {fr0 : List D} {p : Pg} {t : Int} {d : Nat → Bool} {fr : List D} {H : Heap} {i2 i5 i7 i8 j : Nat} (e1 : fr0.getD 1 .undef = iD t) (e2 : fr0.getD 2 .undef = .hp 0 0) (hb : p.vars.length ≤ 1000) (J : JV fr0 p t d fr H i2 i5 i7 i8 j) (hd : d 13 = false) (w : ∀ k ∈ waitsV ((opsV Try.f5).getD 13 default), d k = true) :
    ∃ v H' i2' i5' i7' i8' j', stepD Try.prog L09 ((opsV Try.f5).getD 13 default).op (evalD fr) H = some (v, H') ∧ JV fr0 p t (upd d 13) (putD fr ((opsV Try.f5).getD 13 default).dst v) H' i2' i5' i7' i8' j' := by
  rw [waitV_13] at w
  rw [dstV_13]
  refine ⟨.v undef, H.set j (.cells 25 3 [iD p.params, .hs i8 (p.vars ++ [t]).length, nodesD p.body]), i2, i5, i7, i8, j, by rw [opV_13, J.v12 (w 12 (by decide)), J.v11 (w 11 (by decide))]; exact setV_at (J.h12 (w 12 (by decide)) hd) rfl, ?_⟩
  constructor
  case len => exact J.len
  case keep => exact J.keep
  case v0 => intro h; exact J.v0 (upd_back (by decide) h)
  case v1 => intro h; exact J.v1 (upd_back (by decide) h)
  case v2 => intro h; exact J.v2 (upd_back (by decide) h)
  case v3 => intro h; exact J.v3 (upd_back (by decide) h)
  case v4 => intro h; exact J.v4 (upd_back (by decide) h)
  case v5 => intro h; exact J.v5 (upd_back (by decide) h)
  case v6 => intro h; exact J.v6 (upd_back (by decide) h)
  case v7 => intro h; exact J.v7 (upd_back (by decide) h)
  case v8 => intro h; exact J.v8 (upd_back (by decide) h)
  case v9 => intro h; exact J.v9 (upd_back (by decide) h)
  case v10 => intro h; exact J.v10 (upd_back (by decide) h)
  case v11 => intro h; exact J.v11 (upd_back (by decide) h)
  case v12 => intro h; exact J.v12 (upd_back (by decide) h)
  case h0 => exact set_old J.h0 (J.j0 (w 12 (by decide))).symm
  case h2 => intro a b; exact set_old (J.h2 (upd_back (by decide) a) (upd_false b)) (ids_ne (J.h2 (upd_back (by decide) a) (upd_false b)) (J.h12 (w 12 (by decide)) hd) (by intro e; cases e))
  case h5 => intro a b; exact set_old (J.h5 (upd_back (by decide) a) (upd_false b)) (ids_ne (J.h5 (upd_back (by decide) a) (upd_false b)) (J.h12 (w 12 (by decide)) hd) (by intro e; cases e))
  case h7 => intro a b; exact set_old (J.h7 (upd_back (by decide) a) (upd_false b)) (ids_ne (J.h7 (upd_back (by decide) a) (upd_false b)) (J.h12 (w 12 (by decide)) hd) (by intro e; cases e))
  case h8 => intro a; exact set_old (J.h8 (upd_back (by decide) a)) (ids_ne (J.h8 (upd_back (by decide) a)) (J.h12 (w 12 (by decide)) hd) (by intro e; cases e))
  case h12 => intro a b; rw [upd_self] at b; cases b
  case h13 => intro a; exact set_new (J.h12 (w 12 (by decide)) hd)
  case j0 => intro h; exact J.j0 (upd_back (by decide) h)
  case c8 => intro h; exact upd_mono (J.c8 (upd_back (by decide) h))
  case c11 => intro h; exact upd_mono (J.c11 (upd_back (by decide) h))
  case c13 => intro _; exact upd_mono (w 12 (by decide))
  case c14 => intro _; exact upd_mono (w 8 (by decide))
/-- Each operation, whenever it comes up. -/
theorem stepsV {fr0 : List D} {p : Pg} {t : Int} (e1 : fr0.getD 1 .undef = iD t) (e2 : fr0.getD 2 .undef = .hp 0 0) (hb : p.vars.length ≤ 1000) : ∀ i o, (opsV Try.f5)[i]? = some o → ∀ d fr H, d i = false → (∀ e ∈ o.after, Region.binds .any e = true → d e.on = true) → (∃ i2 i5 i7 i8 j, JV fr0 p t d fr H i2 i5 i7 i8 j) → ∃ v H', stepD Try.prog L09 o.op (evalD fr) H = some (v, H') ∧ ∃ i2 i5 i7 i8 j, JV fr0 p t (upd d i) (putD fr o.dst v) H' i2 i5 i7 i8 j := by
  rintro i o hi d fr H hd ha ⟨i2, i5, i7, i8, j, J⟩
  have ho : o = (opsV Try.f5).getD i default := by rw [List.getD_eq_getElem?_getD, hi]; rfl
  have hlt : i < 14 := by have := (List.getElem?_eq_some_iff.1 hi).1; rwa [lenV] at this
  have hw := waits_done ha rfl
  subst ho
  have fin : (∃ v H' i2' i5' i7' i8' j', stepD Try.prog L09 ((opsV Try.f5).getD i default).op (evalD fr) H = some (v, H') ∧ JV fr0 p t (upd d i) (putD fr ((opsV Try.f5).getD i default).dst v) H' i2' i5' i7' i8' j') → ∃ v H', stepD Try.prog L09 ((opsV Try.f5).getD i default).op (evalD fr) H = some (v, H') ∧ ∃ i2 i5 i7 i8 j, JV fr0 p t (upd d i) (putD fr ((opsV Try.f5).getD i default).dst v) H' i2 i5 i7 i8 j := by
    rintro ⟨v, H', a, b, c, e, f, h1, h2⟩
    exact ⟨v, H', h1, a, b, c, e, f, h2⟩
  apply fin
  clear fin hi ha
  match i, hlt with
  | 0, _ => exact stepV_0 e1 e2 hb J hd hw
  | 1, _ => exact stepV_1 e1 e2 hb J hd hw
  | 2, _ => exact stepV_2 e1 e2 hb J hd hw
  | 3, _ => exact stepV_3 e1 e2 hb J hd hw
  | 4, _ => exact stepV_4 e1 e2 hb J hd hw
  | 5, _ => exact stepV_5 e1 e2 hb J hd hw
  | 6, _ => exact stepV_6 e1 e2 hb J hd hw
  | 7, _ => exact stepV_7 e1 e2 hb J hd hw
  | 8, _ => exact stepV_8 e1 e2 hb J hd hw
  | 9, _ => exact stepV_9 e1 e2 hb J hd hw
  | 10, _ => exact stepV_10 e1 e2 hb J hd hw
  | 11, _ => exact stepV_11 e1 e2 hb J hd hw
  | 12, _ => exact stepV_12 e1 e2 hb J hd hw
  | 13, _ => exact stepV_13 e1 e2 hb J hd hw
end Go.Proofs.Ytbnmkdlmalobaaa
end
