/-
  Parts joined into one text: HDenRun, HDenDraw. No condition.
-/
import Derived.LoopNIn
import Derived.RangeFuncLeaves
import Derived.RangeFuncCalls
import Derived.Test.YtbnmkdlmalobaaaVd

section
namespace Go.Proofs.Ytbnmkdlmalobaaa
open Go.RowKit
set_option linter.unusedVariables false
set_option linter.unusedSimpArgs false

def evalD (fr : List D) : Operand → D
  | .tmp t => fr.getD t .undef
  | .const v => .v v
  | .global g => .v (.pointer (some ⟨g, 0, none⟩))
  | .func f => .clo (.func f) [] []
def putD (fr : List D) (dst : Option Tmp) (d : D) : List D :=
  match dst with
  | some t => fr.set t d
  | none => fr
/-- A function value, called. -/
def callClo (T : Tab) (f : D) (args : List D) (H : Heap) : Option (D × Heap) :=
  match f with
  | .clo (.func f) fs cs => look T f (fs ++ args ++ cs) H
  | .yld id => T.yl id args H
  | _ => none
/-- A method of an interface value, called. -/
def callMeth (P : Program) (T : Tab) (r : D) (name : String) (args : List D) (H : Heap) : Option (D × Heap) :=
  match r with
  | .ifc t d => (methD P t name).bind fun f => look T f (d :: args) H
  | _ => none
theorem methD_ok {P : Program} {t : TypeId} {name : String} {f : FuncId} (h : methD P t name = some f) (v : Value) (w : World) (n : Nat) : (method (n + 1) t v name).run P w = .ok (f, v) w := by
  unfold methD at h
  split at h
  · rename_i i u hi hu
    split at h
    · rename_i m hm
      split at h
      · rename_i g b hp hf
        split at h
        · rename_i hb
          cases h
          have : ∀ wr, (receiverAt t (.val v) b wr).run P w = .ok v w := by
            intro wr
            subst hb
            cases u <;> simp [receiverAt, run_underlying hu, isPtr, Place.get]
          simp [method, typeInfo, hi, hm, hp, follow, hf, this]
        · cases h
      · cases h
    · cases h
  · cases h
/-- A table whose first two entries bear one number: rows of values that a text writes down are taken by value. -/
def bvB (T : Tab) : Bool :=
  match T.fs with
  | (f, _) :: (g, _) :: _ => Nat.beq f g
  | _ => false
/-- A row by value, of plain values. -/
def rowBv (P : Program) (t : TypeId) (n : Nat) (parts : List (Nat × D)) : Option D :=
  (rowInfo P t n).bind fun r => (rowR r.2.1 n r.2.2 parts).bind fun d => (elsD r.2.1 d).bind fun els => if els.flatten.all isV = true ∧ (∀ e ∈ els, e.length = r.2.1) ∧ els.length = n ∧ 0 < n then some (.sl r.2.1 els) else none
/-- What an operation yields, be it a call or not. -/
def stepD (P : Program) (T : Tab) (op : Op) (ρ : Operand → D) (H : Heap) : Option (D × Heap) :=
  match op with
  | .call { callee := .value (.func f), args, .. } => look T f (args.toList.map ρ) H
  | .call { callee := .value (.tmp t), args, .. } => callClo T (ρ (.tmp t)) (args.toList.map ρ) H
  | .call { callee := .invoke r name, args, .. } => callMeth P T (ρ r) name (args.toList.map ρ) H
  | .buildSlice t n ps => if bvB T && Nat.blt 0 n then same H (rowBv P t n (ps.toList.map fun (i, x) => (i, ρ x))) else opH P (.buildSlice t n ps) ρ H
  | op => opH P op ρ H
/-- Is it to be carried out? -/
def wantedD (ops : List Oper) (o : Oper) (fr : List D) : Option Bool :=
  match o.guard with
  | none => some true
  | some (j, want) =>
    match ((ops[j]?).bind (·.dst)).bind (fr[·]?) with
    | some (.v (.bool b)) => some (b == want)
    | some (.v (.tuple _)) => some false
    | _ => none
def oneD (P : Program) (T : Tab) (ops : List Oper) (o : Oper) (fr : List D) (H : Heap) : Option (D × Heap) :=
  match wantedD ops o fr with
  | some true => stepD P T o.op (evalD fr) H
  | some false => some (.v undef, H)
  | none => none
abbrev Fr := List D × Heap
def runOps (P : Program) (T : Tab) (ops : List Oper) : List Oper → Fr → Option Fr
  | [], s => some s
  | o :: r, s => (oneD P T ops o s.1 s.2).bind fun d => runOps P T ops r (putD s.1 o.dst d.1, d.2)

/-- The objects ahead of each operation, and behind the last one. -/
def heapsOf (P : Program) (T : Tab) (ops : List Oper) : List Oper → Fr → List Heap
  | [], s => [s.2]
  | o :: r, s => s.2 :: (match oneD P T ops o s.1 s.2 with | some d => heapsOf P T ops r (putD s.1 o.dst d.1, d.2) | none => [])
/-- A fence that lets all in: around a call, or a round. -/
inductive Wd : Fence → Prop
  | wide : Wd Fence.wide
  | round (l : Nat) : Wd (Fence.wide.inRound l)
theorem Wd.fn {F : Fence} (h : Wd F) (f : FuncId) : F.fn f := by cases h <;> trivial
theorem Wd.depth {F : Fence} (h : Wd F) : F.depth = none := by cases h <;> rfl
theorem Wd.calls {F : Fence} (h : Wd F) {n : Nat} {P : Program} {f : FuncId} {args : Array Value} {w : World} {R : Ending → World → Prop} (hc : Calls P f args w R) : CallsIn F n P f args w R := by
  cases h with
  | wide => exact callsIn_wide.2 hc
  | round l => exact CallsIn.inRound l (callsIn_wide.2 hc)
theorem Wd.round' {F : Fence} (h : Wd F) {n : Nat} {P : Program} {l : Nat} {f : FuncId} {tmps : Array Value} {assign body : Code} {w : World} {R : Ending → World → Prop} (hc : RoundIn Fence.wide n P l f tmps assign body w R) : RoundIn F n P l f tmps assign body w R := by
  cases h with
  | wide => exact hc
  | round l => exact hc

/-- The marks of the loops over functions that were gone through; their blocks are open, and none of those that are read by value. -/
def marksOf (Ds : List Nat) : List Deferred := Ds.map fun D => { target := .collected D, args := #[] }
def MarksOk (N : Nat) (S : Nat → Prop) (w : World) (ds : List Deferred) : Prop := ∃ Ds : List Nat, ds = marksOf Ds ∧ Ds.Nodup ∧ ∀ D ∈ Ds, N ≤ D ∧ ¬ S D ∧ w.heap[D]? = some (.deferred (some []))
theorem MarksOk.nil {N : Nat} {S : Nat → Prop} {w : World} : MarksOk N S w [] := ⟨[], rfl, List.nodup_nil, fun D h => by cases h⟩
theorem MarksOk.later {N B : Nat} {S S' : Nat → Prop} {L L' : List (Nat × Nat)} {w w' : World} {ds : List Deferred} (h : MarksOk N S w ds) (hl : Later B S S' L L' w w') : MarksOk N S' w' ds := by
  obtain ⟨Ds, h1, h2, h3⟩ := h
  refine ⟨Ds, h1, h2, fun D hD => ?_⟩
  obtain ⟨k1, k2, k3⟩ := h3 D hD
  refine ⟨k1, fun hS => ?_, hl.marks D k3⟩
  rcases hl.only D hS with h | h
  · exact k2 h
  · have := (Array.getElem?_eq_some_iff.1 k3).1
    omega
/-- A frame reads as values. N: where the memory ended when it was entered. -/
structure RepF (B N : Nat) (S : Nat → Prop) (L : List (Nat × Nat)) (w : World) (a : Act) (s : Fr) : Prop where
  defers : MarksOk N S w a.defers
  tmps : RepA S L w a.tmps.toList s.1
  objs : HRel B S L w s.2

theorem RepA.put {S : Nat → Prop} {L : List (Nat × Nat)} {w : World} {a : Act} {fr : List D} (h : RepA S L w a.tmps.toList fr) (dst : Option Tmp) {v : Value} {d : D} (hv : Rep S L w v d) : RepA S L w (a.put dst v).tmps.toList (putD fr dst d) := by
  cases dst with
  | none => exact h
  | some t =>
    simp only [Act.put, putD, Array.toList_setIfInBounds]
    exact h.set t hv
theorem put_defers (a : Act) (dst : Option Tmp) (v : Value) : (a.put dst v).defers = a.defers := by
  cases dst <;> rfl
theorem RepA.getD {S : Nat → Prop} {L : List (Nat × Nat)} {w : World} {xs : List Value} {ds : List D} (h : RepA S L w xs ds) (t : Nat) (u : Value) : Rep S L w (xs.getD t u) (ds.getD t .undef) := by
  cases hd : ds[t]? with
  | none => rw [List.getD_eq_getElem?_getD, List.getD_eq_getElem?_getD, hd]; simp only [Option.getD_none, Rep]
  | some d =>
    obtain ⟨x, h1, h2⟩ := h.get t d hd
    rw [List.getD_eq_getElem?_getD, List.getD_eq_getElem?_getD, hd, h1]
    exact h2
theorem evalD_ok {S : Nat → Prop} {L : List (Nat × Nat)} {w : World} {a : Act} {fr : List D} (h : RepA S L w a.tmps.toList fr) (x : Operand) : Rep S L w (a.eval x) (evalD fr x) := by
  cases x with
  | tmp t =>
    have := h.getD t undef
    simpa [Act.eval, evalD] using this
  | func f =>
    simp only [evalD, Rep, RepA]
    exact ⟨[], [], rfl, rfl, rfl⟩
  | _ => simp only [evalD, Rep]; rfl


theorem extract_one (x : Value) (xs : Array Value) : (#[x] ++ xs).extract 1 (#[x] ++ xs).size = xs := by
  apply Array.ext
  · simp
  · intro i h1 h2
    simp only [Array.getElem_extract]
    rw [Array.getElem_append_right (by simp)]
    simp
theorem repA_v {S S' : Nat → Prop} {L L' : List (Nat × Nat)} {w w' : World} : ∀ {ds : List D} {xs : List Value}, ds.all isV = true → RepA S L w xs ds → RepA S' L' w' xs ds
  | [], xs, _, h => by simpa only [RepA] using h
  | d :: r, xs, ha, h => by
    simp only [RepA] at h ⊢
    simp only [List.all_cons, Bool.and_eq_true] at ha
    obtain ⟨x, ys, h1, h2, h3⟩ := h
    refine ⟨x, ys, h1, ?_, repA_v ha.2 h3⟩
    cases d <;> simp [isV] at ha
    simpa only [Rep] using h2
theorem row_cell (w : World) (ys : List Value) (e : TypeId) (j : Nat) (x : Value) (h : ys[j]? = some x) : (w.alloc (.cells ys.toArray e)).cell? ⟨w.heap.size, j, none⟩ = some x := by
  rw [cell_of_heap (arr := ys.toArray) (t := e) (heap_alloc_new w _)]
  simpa using h
/-- One operation, carried out. -/
theorem stepD_ok {P : Program} {T : Tab} (hT : TabOk P T) {F : Fence} (hF : Wd F) {n : Nat} {o : Oper} {d : D} {H H' : Heap} {a : Act} {w : World} {B : Nat} {S : Nat → Prop} {L : List (Nat × Nat)} {ρ : Operand → D} {K : Act → World → Prop} {Q : Exit → Act → World → Prop} (h : stepD P T o.op ρ H = some (d, H'))
    (hρ : ∀ x, Rep S L w (a.eval x) (ρ x)) (hr : HRel B S L w H) (hK : ∀ v w' S' L', Rep S' L' w' v d → HRel B S' L' w' H' → Later B S S' L L' w w' → K (a.put o.dst v) w') : o.wpIn F n P a w K Q := by
  refine ⟨fun f _ => hF.fn f, ?_⟩
  have hdep : ∀ {p : Prop}, F.depth.isSome = true → p := fun e => by rw [hF.depth] at e; cases e
  rw [Oper.semAt_eq _ _ _ (fun c e => by rw [e] at h; simp [stepD, opH] at h)]
  have call : ∀ (f : FuncId) (ds : List D) (vs : List Value), look T f ds H = some (d, H') → RepA S L w vs ds → (∀ fn, P.funcs[f]? = some fn → fn.name ≠ "runtime.NumGoroutine" → fn.body.isSome = true → (execOp a.eval o).run P w = .ok (.enter f vs.toArray) w) →
      o.uponIn F n P a K Q ((execOp a.eval o).run P w) := by
    intro f ds vs hl hv hrun
    obtain ⟨G, hG, hd, _⟩ := look_ok hT hl
    obtain ⟨fn, h1, h2, h3⟩ := hG.body
    rw [hrun fn h1 h2 h3]
    refine ⟨hdep, ?_⟩
    refine (hF.calls (hG.calls ds H d H' hd B S L vs w hr hv)).mono ?_
    rintro e w' ⟨v, S', L', rfl, h4, h5, h6⟩
    exact hK v w' S' L' h4 h5 h6
  unfold stepD at h
  split at h
  · rename_i f args ats heq
    refine call f _ (args.toList.map a.eval) h (RepA.ops hρ args.toList) fun fn h1 h2 h3 => ?_
    obtain ⟨dst, op, type, pos, after, guard⟩ := o
    simp only at heq
    subst heq
    have hb : fn.body ≠ none := by intro e; rw [e] at h3; cases h3
    simp [execOp, resolve, Act.eval, Deferred.ofValue, invoke, callFunc, run_program, h1, h2, hb]
    apply Array.ext'
    simp
  · rename_i t args ats heq
    unfold callClo at h
    split at h
    · rename_i f fs cs hc
      have hf := hρ (.tmp t)
      rw [hc] at hf
      simp only [Rep] at hf
      obtain ⟨ys, zs, hfv, hy, hz⟩ := hf
      refine call f _ (ys ++ args.toList.map a.eval ++ zs) h ((hy.append (RepA.ops hρ args.toList)).append hz) fun fn h1 h2 h3 => ?_
      obtain ⟨dst, op, type, pos, after, guard⟩ := o
      simp only at heq
      subst heq
      have hb : fn.body ≠ none := by intro e; rw [e] at h3; cases h3
      simp [execOp, resolve, hfv, Deferred.ofValue, invoke, callFunc, run_program, h1, h2, hb]
    · rename_i id hc
      have hf := hρ (.tmp t)
      rw [hc] at hf
      obtain ⟨b, c, f, tmps, assign, body, h1, h2, h3⟩ := hT.yl id _ H d H' h B S L _ w hr (RepA.ops hρ args.toList)
      simp only [Rep] at hf
      obtain ⟨b', c', h4, hfv⟩ := hf
      rw [h1] at h4
      cases h4
      have hrun : (execOp a.eval o).run P w = .ok (.round b f tmps assign body) w := by
        obtain ⟨dst, op, type, pos, after, guard⟩ := o
        simp only at heq
        subst heq
        have h2' : (Instr.yield b (Array.map a.eval args)).run P w = .ok (.round b f tmps assign body) w := by rw [← h2]; congr 2; apply Array.ext'; simp
        simp [execOp, resolve, hfv, Deferred.ofValue, invoke, h2']
      rw [hrun]
      refine ⟨hdep, ?_⟩
      refine (hF.round' (h3 (n - 1))).mono ?_
      rintro e w' ⟨v, S', L', rfl, h5, h6, h7⟩
      exact hK v w' S' L' h5 h6 h7
    · cases h
  · rename_i r name args ats heq
    unfold callMeth at h
    split at h
    · rename_i ty d hc
      obtain ⟨f, hm, h⟩ := Option.bind_eq_some_iff.1 h
      have hf := hρ r
      rw [hc] at hf
      simp only [Rep] at hf
      obtain ⟨y, hfv, hy⟩ := hf
      refine call f _ (y :: args.toList.map a.eval) h (RepA.cons hy (RepA.ops hρ args.toList)) fun fn h1 h2 h3 => ?_
      obtain ⟨dst, op, type, pos, after, guard⟩ := o
      simp only at heq
      subst heq
      have hb : fn.body ≠ none := by intro e; rw [e] at h3; cases h3
      have hme : (method (P.types.size + Made.depth) ty y name).run P w = .ok (f, y) w := methD_ok hm y w (P.types.size + 99)
      have e1 : (#[y] ++ (#[a.eval r] ++ args.map a.eval).extract 1 (#[a.eval r] ++ args.map a.eval).size : Array Value) = (y :: args.toList.map a.eval).toArray := by
        rw [extract_one]
        apply Array.ext'
        simp
      have hcm : (callMethod (.iface ty y) name ((#[a.eval r] ++ args.map a.eval).extract 1 (#[a.eval r] ++ args.map a.eval).size)).run P w = .ok (.enter f (y :: args.toList.map a.eval).toArray) w := by
        unfold callMethod
        simp only [Sem.run_bind, run_program, Result.andThen_ok, hme, e1]
        simp [callFunc, run_program, h1, h2, hb]
      simp only [execOp, resolve, Sem.run_bind, Sem.run_pure, Result.andThen_ok, invoke]
      have e0 : (#[a.eval r] ++ Array.map a.eval args)[0]? = some (a.eval r) := by rw [Array.getElem?_append_left (by simp)]; rfl
      rw [e0, hfv]
      rw [hfv] at hcm
      exact hcm
    · cases h
  · rename_i t m ps heq
    split at h
    · cases hv : rowBv P t m (ps.toList.map fun (i, x) => (i, ρ x)) with
      | none => rw [hv] at h; cases h
      | some dv =>
        rw [hv] at h
        cases h
        unfold rowBv at hv
        obtain ⟨⟨e, sz, z⟩, hi, hv⟩ := Option.bind_eq_some_iff.1 hv
        obtain ⟨dr, hrow, hv⟩ := Option.bind_eq_some_iff.1 hv
        obtain ⟨els, he, hv⟩ := Option.bind_eq_some_iff.1 hv
        split at hv
        case isFalse => cases hv
        rename_i hc
        cases hv
        obtain ⟨hall, hlen, hn, hpos⟩ := hc
        obtain ⟨ys, h1, h2, h3, h4, h5⟩ := rowlit_ok hρ m ps hi hrow he
        have hbel : Below w.heap.size w (w.alloc (.cells ys.toArray e)) := (Below.refl _ _).alloc (Nat.le_refl _) _
        obtain ⟨q1, q2⟩ := hr.call hbel
        have hrun : (execOp a.eval o).run P w = .ok (.value (.slice (some ⟨w.heap.size, 0, none⟩) m m)) (w.alloc (.cells ys.toArray e)) := by
          obtain ⟨dst, op, type, pos, after, guard⟩ := o
          simp only at heq
          subst heq
          simp [execOp, h1]
        rw [hrun]
        refine hK _ _ _ L ?_ q1 q2
        simp only [Rep]
        refine .inr ⟨w.heap.size, 0, m, by rw [hn], by omega, by omega, .inr ⟨Nat.le_refl _, by simp⟩, RepR.of hlen (RepC.of (xs := ys) (repA_v hall h2) fun j x hj => ?_)⟩
        rw [Nat.zero_add]
        exact row_cell w ys e j x hj
    · obtain ⟨x, w', L', h1, h2, h3, h4⟩ := opH_ok (o := o) (by rw [heq]; exact h) hρ hr
      rcases h1 with h1 | ⟨h1, rfl⟩
      · rw [h1]; exact hK x w' S L' h2 h3 h4
      · rw [h1]; exact hK undef w' S L' h2 h3 h4
  · obtain ⟨x, w', L', h1, h2, h3, h4⟩ := opH_ok h hρ hr
    rcases h1 with h1 | ⟨h1, rfl⟩
    · rw [h1]; exact hK x w' S L' h2 h3 h4
    · rw [h1]; exact hK undef w' S L' h2 h3 h4

theorem yielded_of {ops : Array Oper} {o : Oper} {fr : List D} {tmps : Array Value} {b : Bool} (hw : wantedD ops.toList o fr = some b)
    (hslot : ∀ j want t v, o.guard = some (j, want) → (ops.toList[j]?).bind (·.dst) = some t → fr[t]? = some (.v v) → tmps[t]? = some v) : Region.wanted o (yielded ops tmps) = b := by
  unfold wantedD at hw
  unfold Region.wanted
  split at hw
  · rename_i hg
    rw [hg]; simpa using hw
  · rename_i j want hg
    rw [hg]
    have key : ∀ v, ((ops.toList[j]?).bind (·.dst)).bind (fr[·]?) = some (.v v) → yielded ops tmps j = match v with | .bool b => some b | _ => none := by
      intro v hb
      cases hj : (ops.toList[j]?).bind (·.dst) with
      | none => rw [hj] at hb; cases hb
      | some t =>
        rw [hj, Option.bind_some] at hb
        have h1 := hslot j want t v hg hj hb
        have hj' : (ops[j]?).bind (·.dst) = some t := by rw [← Array.getElem?_toList]; exact hj
        unfold yielded
        rw [hj', Option.bind_some, h1]
        cases v <;> rfl
    split at hw
    · rename_i b' hb
      simp only [Option.some.injEq] at hw
      subst hw
      simp only [key _ hb]
      cases b' <;> cases want <;> rfl
    · rename_i b' hb
      simp only [Option.some.injEq] at hw
      subst hw
      simp only [key _ hb]
      cases want <;> rfl
    · cases hw

theorem wpListD_ok {P : Program} {T : Tab} (hT : TabOk P T) {F : Fence} (hF : Wd F) {n B N : Nat} (ops : Array Oper) {Q : Exit → Act → World → Prop} : ∀ (l : List Nat) (lo : List Oper) (a : Act) (w : World) (S : Nat → Prop) (L : List (Nat × Nat)) (s s' : Fr), l.map (ops[·]?) = lo.map some → runOps P T ops.toList lo s = some s' → RepF B N S L w a s →
    (∀ a' w' S' L', RepF B N S' L' w' a' s' → Later B S S' L L' w w' → Q .normal a' w') → wpOpsIn F n P ops Q l a w := by
  intro l
  induction l with
  | nil =>
    intro lo a w S L s s' hl h hr hQ
    cases lo with
    | nil =>
      simp only [runOps, Option.some.injEq] at h
      subst h
      exact hQ a w S L hr Later.refl
    | cons o r => cases hl
  | cons i rest ih =>
    intro lo a w S L s s' hl h hr hQ
    cases lo with
    | nil => cases hl
    | cons o r =>
      simp only [List.map_cons, List.cons.injEq] at hl
      obtain ⟨ho, hl⟩ := hl
      simp only [wpOpsIn, ho]
      simp only [runOps] at h
      cases h1 : oneD P T ops.toList o s.1 s.2 with
      | none => rw [h1] at h; cases h
      | some d =>
        rw [h1, Option.bind_some] at h
        have hwant : ∀ b, wantedD ops.toList o s.1 = some b → Region.wanted o (yielded ops a.tmps) = b := fun b hw => yielded_of hw fun j want t v _ _ hv => by
          obtain ⟨x, q1, q2⟩ := hr.tmps.get t _ hv
          simp only [Rep] at q2
          subst q2
          simpa using q1
        unfold oneD at h1
        split at h1
        · rename_i hw
          rw [hwant _ hw]
          simp only [if_true]
          obtain ⟨d, H'⟩ := d
          refine stepD_ok hT hF h1 (evalD_ok hr.tmps) hr.objs fun v w' S' L' h2 h3 h4 => ?_
          exact ih r _ _ S' L' _ _ hl h ⟨by rw [put_defers]; exact hr.defers.later h4, (h4.repA hr.tmps).put o.dst h2, h3⟩ fun a' w'' S'' L'' h5 h6 => hQ a' w'' S'' L'' h5 (h4.trans h6)
        · rename_i hw
          rw [hwant _ hw]
          simp only [Bool.false_eq_true, if_false]
          cases h1
          exact ⟨fun f _ => hF.fn f, ih r _ _ S L _ _ hl h ⟨by rw [put_defers]; exact hr.defers, hr.tmps.put o.dst (v := undef) (d := .v undef) (by simp only [Rep]), hr.objs⟩ hQ⟩
        · cases h1

theorem range_ops (ops : Array Oper) : (List.range ops.size).map (ops[·]?) = ops.toList.map some := by
  apply List.ext_getElem?
  intro i
  by_cases h : i < ops.size
  · simp [h]
  · simp [Nat.not_lt.1 h]
end Go.Proofs.Ytbnmkdlmalobaaa
end

section
namespace Go.Proofs.Ytbnmkdlmalobaaa
open Go.RowKit
set_option linter.unusedVariables false
set_option linter.unusedSimpArgs false

/-- The operands that an operation's yield hangs on. -/
def opReads : Op → List Operand
  | .move x | .assign x | .load _ x | .box _ x | .field _ x _ | .fieldAddr _ x _ | .unOp _ _ x | .convert _ _ x | .extract x _ | .makeInterface _ x | .nilCheck x | .typeAssert x _ _ _ => [x]
  | .pick c a b => [c, a, b]
  | .indexAddr _ a b | .binOp _ _ a b _ | .store _ a b | .index _ a b | .lookup _ a b _ | .makeSlice _ a b => [a, b]
  | .mapUpdate _ a b c | .insert _ a b c => [a, b, c]
  | .slice _ x lo hi _ => x :: (lo.toList ++ hi.toList)
  | .build _ ps | .buildSlice _ _ ps => ps.toList.map (·.2)
  | .makeFunc _ a b => a.toList ++ b.toList
  | .call c => c.operands.toList
  | _ => []
theorem opH_congr (P : Program) (op : Op) (ρ σ : Operand → D) (H : Heap) (h : ∀ x ∈ opReads op, ρ x = σ x) : opH P op ρ H = opH P op σ H := by
  have hp : ∀ ps : Array (Nat × Operand), (∀ x ∈ ps.toList.map (·.2), ρ x = σ x) → (ps.toList.map fun (i, x) => (i, ρ x)) = (ps.toList.map fun (i, x) => (i, σ x)) := by
    intro ps hh
    apply List.map_congr_left
    rintro ⟨i, x⟩ hx
    simp only
    rw [hh x (List.mem_map.2 ⟨_, hx, rfl⟩)]
  have hl : ∀ l : List Operand, (∀ x ∈ l, ρ x = σ x) → l.map ρ = l.map σ := fun l hh => List.map_congr_left hh
  cases op with
  | slice t x lo hi mx =>
    cases mx with
    | some m => rfl
    | none =>
      have hx := h x (by simp [opReads])
      have h1 : lo.map ρ = lo.map σ := by cases lo with
        | none => rfl
        | some y => simp [h y (by simp [opReads])]
      have h2 : hi.map ρ = hi.map σ := by cases hi with
        | none => rfl
        | some y => simp [h y (by simp [opReads])]
      simp only [opH, hx, h1, h2]
  | build t ps => simp only [opH, hp ps h]
  | buildSlice t n ps => simp only [opH, hp ps h]
  | binOp op t x y ty => simp only [opH, h x (by simp [opReads]), h y (by simp [opReads])]
  | unOp op t x =>
    have hx := h x (by simp [opReads])
    cases op <;> simp only [opH, hx]
  | call c =>
    obtain ⟨callee, args, ats⟩ := c
    cases callee with
    | builtin b =>
      have ha : ∀ x ∈ args.toList, ρ x = σ x := fun x hx => h x (by simpa [opReads, Call.operands] using hx)
      have hal := hl args.toList ha
      cases b with
      | len =>
        simp only [opH]
        split
        · rename_i x t r e1 e2
          rw [ha x (by simp [e1])]
        · rfl
      | append =>
        simp only [opH]
        split
        · rename_i x y t t' e1 e2
          rw [ha x (by simp [e1]), ha y (by simp [e1])]
        · rfl
      | copy =>
        simp only [opH]
        split
        · rename_i x y t r e1 e2
          rw [ha x (by simp [e1]), ha y (by simp [e1])]
        · rfl
      | clear =>
        simp only [opH]
        split
        · rename_i x t r e1 e2
          rw [ha x (by simp [e1])]
        · rfl
      | max => simp only [opH, hal]
      | min => simp only [opH, hal]
      | _ => rfl
    | _ => rfl
  | makeFunc f a b => simp only [opH, hl a.toList (fun x hx => h x (by simp [opReads]; exact .inl (by simpa using hx))), hl b.toList (fun x hx => h x (by simp [opReads]; exact .inr (by simpa using hx)))]
  | move x => simp only [opH, h x (by simp [opReads])]
  | assign x => simp only [opH, h x (by simp [opReads])]
  | load t x => simp only [opH, h x (by simp [opReads])]
  | box t x => simp only [opH, h x (by simp [opReads])]
  | store t x y => simp only [opH, h x (by simp [opReads]), h y (by simp [opReads])]
  | field t x f => simp only [opH, h x (by simp [opReads])]
  | fieldAddr t x f => simp only [opH, h x (by simp [opReads])]
  | convert s t x => simp only [opH, h x (by simp [opReads])]
  | extract x i => simp only [opH, h x (by simp [opReads])]
  | makeInterface t x => simp only [opH, h x (by simp [opReads])]
  | nilCheck x => simp only [opH, h x (by simp [opReads])]
  | pick c a b => simp only [opH, h c (by simp [opReads]), h a (by simp [opReads]), h b (by simp [opReads])]
  | indexAddr t a b => simp only [opH, h a (by simp [opReads]), h b (by simp [opReads])]
  | makeSlice t a b => simp only [opH, h a (by simp [opReads]), h b (by simp [opReads])]
  | index t a b => simp only [opH, h a (by simp [opReads]), h b (by simp [opReads])]
  | lookup t a b ok => simp only [opH, h a (by simp [opReads]), h b (by simp [opReads])]
  | mapUpdate t a b c => simp only [opH, h a (by simp [opReads]), h b (by simp [opReads]), h c (by simp [opReads])]
  | insert t a b c => simp only [opH, h a (by simp [opReads]), h b (by simp [opReads]), h c (by simp [opReads])]
  | typeAssert x t u ok => simp only [opH, h x (by simp [opReads])]
  | makeMap t r => cases r <;> rfl
  | _ => rfl
theorem stepD_congr (P : Program) (T : Tab) (op : Op) (ρ σ : Operand → D) (H : Heap) (h : ∀ x ∈ opReads op, ρ x = σ x) : stepD P T op ρ H = stepD P T op σ H := by
  unfold stepD
  split
  · rename_i f args ats
    rw [show args.toList.map ρ = args.toList.map σ from List.map_congr_left fun x hx => h x (by simp [opReads, Call.operands]; exact .inr (by simpa using hx))]
  · rename_i t args ats
    rw [h (.tmp t) (by simp [opReads, Call.operands]), show args.toList.map ρ = args.toList.map σ from List.map_congr_left fun x hx => h x (by simp [opReads, Call.operands]; exact .inr (by simpa using hx))]
  · rename_i r name args ats
    rw [h r (by simp [opReads, Call.operands]), show args.toList.map ρ = args.toList.map σ from List.map_congr_left fun x hx => h x (by simp [opReads, Call.operands]; exact .inr (by simpa using hx))]
  · rename_i t n ps
    have e : (ps.toList.map fun (i, x) => (i, ρ x)) = ps.toList.map fun (i, x) => (i, σ x) := List.map_congr_left fun x hx => by
      obtain ⟨a, b⟩ := x
      simp only [h b (by simp only [opReads, List.mem_map]; exact ⟨(a, b), hx, rfl⟩)]
    rw [e, opH_congr P _ ρ σ H h]
  · exact opH_congr P op ρ σ H h

def tmpOf : Operand → Option Nat
  | .tmp t => some t
  | _ => none
/-- The slots that an operation reads, its guard's too. -/
def slotsRead (ops : List Oper) (o : Oper) : List Nat :=
  (opReads o.op).filterMap tmpOf ++ (match o.guard with | none => [] | some (j, _) => ((ops[j]?).bind (·.dst)).toList)
/-- Does an operation hang on the objects? -/
def hRead : Op → Bool
  | .load _ _ | .box _ _ | .alloc _ | .store _ _ _ | .buildSlice _ _ _ | .makeSlice _ _ _ | .convert _ _ _ | .makeMap _ _ | .mapUpdate _ _ _ _ | .insert _ _ _ _ | .lookup _ _ _ _ => true
  | .call { callee := .builtin .len, .. } | .call { callee := .builtin .max, .. } | .call { callee := .builtin .min, .. } => false
  | .call _ => true
  | _ => false
/-- May it change them? -/
def hWrite (T : Tab) : Op → Bool
  | .buildSlice _ n _ => !(bvB T && Nat.blt 0 n)
  | .box _ _ | .alloc _ | .store _ _ _ | .makeSlice _ _ _ | .makeMap _ _ | .mapUpdate _ _ _ _ | .insert _ _ _ _ => true
  | .call { callee := .value (.func f), .. } => !isCalm T f
  | .call { callee := .builtin .len, .. } | .call { callee := .builtin .max, .. } | .call { callee := .builtin .min, .. } => false
  | .call _ => true
  | _ => false
/-- Does it but make a new object? -/
def hAlloc : Op → Bool
  | .box _ _ | .alloc _ | .buildSlice _ _ _ | .makeSlice _ _ _ | .makeMap _ _ => true
  | _ => false
/-- Two operations that may not change places for their slots: x stands ahead. -/
def slotClash (ops : List Oper) (x y : Oper) : Bool :=
  (match x.dst with | some t => (slotsRead ops y).contains t || y.dst == some t | none => false) ||
  (match y.dst with | some t => (slotsRead ops x).contains t | none => false)
/-- For the objects. -/
def heapClash (T : Tab) (x y : Oper) : Bool := (hWrite T x.op && hRead y.op) || (hRead x.op && hWrite T y.op && (hWrite T x.op || !hAlloc y.op))
/-- The object that a value names. -/
def idD : D → Option Nat
  | .hp id _ | .hs id _ | .ht id _ _ | .mp id => some id
  | _ => none
def apartB (a b : D) : Bool := match idD a, idD b with | some i, some j => !Nat.beq i j | _, _ => true
def wholeB (a : D) : Bool := match idD a with | none => true | some _ => false
/- Values that are surely the same. -/
def eqV : Value → Value → Bool
  | .bool a, .bool b => a == b
  | .int k a, .int k' b => decide (k = k') && decide (a = b)
  | .string a, .string b => decide (a.data.toList = b.data.toList)
  | .slice none a b, .slice none c d => Nat.beq a c && Nat.beq b d
  | .pointer none, .pointer none => true
  | .map none, .map none => true
  | .nilFunc, .nilFunc => true
  | .nilIface, .nilIface => true
  | _, _ => false
theorem eqV_eq {a b : Value} (h : eqV a b = true) : a = b := by
  unfold eqV at h
  split at h
  · simpa using h
  · simp at h; rw [h.1, h.2]
  · rename_i a b
    have := of_decide_eq_true h
    congr 1
    apply ByteArray.ext
    apply Array.ext'
    exact this
  · simp only [Bool.and_eq_true] at h
    rw [Nat.eq_of_beq_eq_true h.1, Nat.eq_of_beq_eq_true h.2]
  · rfl
  · rfl
  · rfl
  · rfl
  · cases h
mutual
def eqB : D → D → Bool
  | .v a, .v b => eqV a b
  | .sl s l, .sl s' l' => Nat.beq s s' && eqR l l'
  | .ptr a, .ptr b => eqL a b
  | .agg a, .agg b => eqL a b
  | .tup a, .tup b => eqL a b
  | .hp i o, .hp j p => Nat.beq i j && Nat.beq o p
  | .hs i o, .hs j p => Nat.beq i j && Nat.beq o p
  | .ht i o n, .ht j p m => Nat.beq i j && Nat.beq o p && Nat.beq n m
  | .ifc t d, .ifc u e => Nat.beq t u && eqB d e
  | .clo f a b, .clo g c d => decide (f = g) && eqL a c && eqL b d
  | .mp i, .mp j => Nat.beq i j
  | _, _ => false
def eqL : List D → List D → Bool
  | [], [] => true
  | a :: r, b :: s => eqB a b && eqL r s
  | _, _ => false
def eqR : List (List D) → List (List D) → Bool
  | [], [] => true
  | a :: r, b :: s => eqL a b && eqR r s
  | _, _ => false
end
mutual
theorem eqB_eq : ∀ (a b : D), eqB a b = true → a = b
  | .v a, b, h => by
    cases b <;> first | (simp only [eqB] at h; rw [eqV_eq h]) | (simp [eqB] at h; done)
  | .sl s l, b, h => by
    cases b <;> first | (simp only [eqB, Bool.and_eq_true] at h; rw [Nat.eq_of_beq_eq_true h.1, eqR_eq _ _ h.2]) | (simp [eqB] at h; done)
  | .ptr l, b, h => by
    cases b <;> first | (simp only [eqB] at h; rw [eqL_eq _ _ h]) | (simp [eqB] at h; done)
  | .agg l, b, h => by
    cases b <;> first | (simp only [eqB] at h; rw [eqL_eq _ _ h]) | (simp [eqB] at h; done)
  | .tup l, b, h => by
    cases b <;> first | (simp only [eqB] at h; rw [eqL_eq _ _ h]) | (simp [eqB] at h; done)
  | .hp i o, b, h => by
    cases b <;> first | (simp only [eqB, Bool.and_eq_true] at h; rw [Nat.eq_of_beq_eq_true h.1, Nat.eq_of_beq_eq_true h.2]) | (simp [eqB] at h; done)
  | .hs i o, b, h => by
    cases b <;> first | (simp only [eqB, Bool.and_eq_true] at h; rw [Nat.eq_of_beq_eq_true h.1, Nat.eq_of_beq_eq_true h.2]) | (simp [eqB] at h; done)
  | .ht i o n, b, h => by
    cases b <;> first | (simp only [eqB, Bool.and_eq_true] at h; rw [Nat.eq_of_beq_eq_true h.1.1, Nat.eq_of_beq_eq_true h.1.2, Nat.eq_of_beq_eq_true h.2]) | (simp [eqB] at h; done)
  | .ifc t d, b, h => by
    cases b <;> first | (simp only [eqB, Bool.and_eq_true] at h; rw [Nat.eq_of_beq_eq_true h.1, eqB_eq _ _ h.2]) | (simp [eqB] at h; done)
  | .clo f a c, b, h => by
    cases b <;> first | (simp only [eqB, Bool.and_eq_true] at h; rw [of_decide_eq_true h.1.1, eqL_eq _ _ h.1.2, eqL_eq _ _ h.2]) | (simp [eqB] at h; done)
  | .mp i, b, h => by
    cases b <;> first | (simp only [eqB] at h; rw [Nat.eq_of_beq_eq_true h]) | (simp [eqB] at h; done)
  | .undef, b, h => by cases b <;> (simp [eqB] at h; done)
  | .mv ks vs, b, h => by cases b <;> (simp [eqB] at h; done)
  | .yld i, b, h => by cases b <;> (simp [eqB] at h; done)
theorem eqL_eq : ∀ (a b : List D), eqL a b = true → a = b
  | [], b, h => by cases b with
    | nil => rfl
    | cons => simp [eqL] at h
  | a :: r, b, h => by cases b with
    | nil => simp [eqL] at h
    | cons c s => simp only [eqL, Bool.and_eq_true] at h; rw [eqB_eq _ _ h.1, eqL_eq _ _ h.2]
theorem eqR_eq : ∀ (a b : List (List D)), eqR a b = true → a = b
  | [], b, h => by cases b with
    | nil => rfl
    | cons => simp [eqR] at h
  | a :: r, b, h => by cases b with
    | nil => simp [eqR] at h
    | cons c s => simp only [eqR, Bool.and_eq_true] at h; rw [eqL_eq _ _ h.1, eqR_eq _ _ h.2]
end
/-- An object is the same in two states. -/
def sameB (i : Nat) (H H' : Heap) : Bool :=
  match H[i]?, H'[i]? with
  | some (.cells t sz cs), some (.cells t' sz' cs') => Nat.beq t t' && Nat.beq sz sz' && eqL cs cs'
  | _, _ => false
theorem sameB_eq {i : Nat} {H H' : Heap} (h : sameB i H H' = true) : H'[i]? = H[i]? ∧ i < H'.length := by
  unfold sameB at h
  split at h
  · rename_i t sz cs t' sz' cs' h1 h2
    simp only [Bool.and_eq_true] at h
    rw [h1, h2, Nat.eq_of_beq_eq_true h.1.1, Nat.eq_of_beq_eq_true h.1.2, eqL_eq _ _ h.2]
    exact ⟨rfl, (List.getElem?_eq_some_iff.1 h2).1⟩
  · cases h
/-- What must hold of values, or of the objects before and after an operation, that two operations may change places after all. -/
inductive Gd where
  | apart (a b : Operand)
  | whole (a : Operand)
  | pure (as' : List Operand)
  | same (a : Operand) (j : Nat)
def Gd.holds (ρ : Operand → D) (hs : List Heap) : Gd → Bool
  | .apart a b => apartB (ρ a) (ρ b)
  | .whole a => wholeB (ρ a)
  | .pure as' => pureL (as'.map ρ)
  | .same a j =>
    match hs[j]?, hs[j + 1]? with
    | some H, some H' => match idD (ρ a) with | none => true | some i => sameB i H H'
    | _, _ => false
/-- The objects that a write changes, by operands. -/
def wTarget : Op → Option (List Operand)
  | .store _ a _ => some [a]
  | .call { callee := .builtin .append, args, .. } => match args.toList with | s :: _ => some [s] | _ => none
  | op => if hAlloc op then some [] else none
/-- An operand that no operation from k on writes. -/
def stable (ops : List Oper) (k : Nat) : Operand → Bool
  | .tmp t => (ops.drop k).all fun o => o.dst != some t
  | _ => true
/-- A read at i and a write at m: what must hold. -/
def excuse1 (T : Tab) (ops : List Oper) (r : Oper) (i : Nat) (w : Oper) (m : Nat) : Option (List Gd) :=
  match r.op with
  | .load _ a => match wTarget w.op with | some ts => if stable ops i a && ts.all (stable ops m) then some (ts.map (.apart a)) else none | none => if stable ops i a then some [.same a m] else none
  | .convert _ _ a => if stable ops i a then some [.whole a] else none
  | .buildSlice _ n _ => if bvB T && Nat.blt 0 n then some [] else none
  | .call { callee := .value (.func f), args, .. } => if isCalm T f && args.toList.all (stable ops i) then some [.pure args.toList] else none
  | _ => none
def excuse (T : Tab) (ops : List Oper) (x : Oper) (i : Nat) (y : Oper) (j : Nat) : Option (List Gd) :=
  if !hWrite T x.op && hWrite T y.op then excuse1 T ops x i y j else if hWrite T x.op && !hWrite T y.op then excuse1 T ops y j x i else none
def ancOf (acc : List Nat) (o : Oper) : Nat :=
  o.after.toList.foldl (fun m e => if Region.binds .any e then m ||| (1 <<< e.on) ||| acc.getD e.on 0 else m) 0
def ancs : List Oper → List Nat → List Nat
  | [], acc => acc
  | o :: r, acc => ancs r (acc ++ [ancOf acc o])
def ordB (ops : List Oper) (i j : Nat) : Bool := ((ancs ops []).getD j 0).testBit i
/-- The order that is drawn makes no difference, if the guards hold. -/
def drawOk (T : Tab) (ops : List Oper) : Bool :=
  (ops.zipIdx.all fun x => x.1.after.all fun e => decide (e.on < x.2) || !Region.binds .any e) &&
  (ops.zipIdx.all fun (y, j) => (ops.take j).zipIdx.all fun (x, i) => ordB ops i j || (!slotClash ops x y && (!heapClash T x y || (excuse T ops x i y j).isSome)))
def guardsOf (T : Tab) (ops : List Oper) : List Gd :=
  (ops.zipIdx.map fun (y, j) => ((ops.take j).zipIdx.map fun (x, i) => if !heapClash T x y || ordB ops i j then [] else (excuse T ops x i y j).getD []).flatten).flatten

/-- Whatever an operation waits for has been carried out, if it has. -/
def Shut (ops : List Oper) (d : Nat → Bool) : Prop := ∀ i o, ops[i]? = some o → d i = true → ∀ e ∈ o.after, Region.binds .any e = true → d e.on = true

theorem ancs_ok (all : List Oper) (d : Nat → Bool) (hs : Shut all d) : ∀ (ops : List Oper) (acc : List Nat) (pre : List Oper), all = pre ++ ops → acc.length = pre.length →
    (∀ k m, acc[k]? = some m → ∀ j, m.testBit j = true → d k = true → d j = true) → ∀ k m, (ancs ops acc)[k]? = some m → ∀ j, m.testBit j = true → d k = true → d j = true := by
  intro ops
  induction ops with
  | nil => intro acc pre _ _ h; exact h
  | cons o r ih =>
    intro acc pre hall hlen h
    refine ih (acc ++ [ancOf acc o]) (pre ++ [o]) (by simp [hall]) (by simp [hlen]) fun k m hk j hj hd => ?_
    by_cases hlt : k < acc.length
    · rw [List.getElem?_append_left hlt] at hk
      exact h k m hk j hj hd
    · rw [List.getElem?_append_right (by omega)] at hk
      have hk0 : k = acc.length := by
        by_cases e : k - acc.length = 0
        · omega
        · obtain ⟨n, hn⟩ : ∃ n, k - acc.length = n + 1 := ⟨k - acc.length - 1, by omega⟩
          rw [hn] at hk; simp at hk
      subst hk0
      simp only [Nat.sub_self, List.getElem?_cons_zero, Option.some.injEq] at hk
      subst hk
      have ho : all[acc.length]? = some o := by rw [hall, hlen]; simp
      have hafter := hs _ o ho hd
      have key : ∀ (es : List Edge) (m : Nat), (∀ e ∈ es, Region.binds .any e = true → d e.on = true) → (m.testBit j = true → d j = true) →
          (es.foldl (fun m e => if Region.binds .any e then m ||| (1 <<< e.on) ||| acc.getD e.on 0 else m) m).testBit j = true → d j = true := by
        intro es
        induction es with
        | nil => intro m _ hm hq; exact hm hq
        | cons e t ihe =>
          intro m he hm hq
          rw [List.foldl_cons] at hq
          refine ihe _ (fun x hx => he x (by simp [hx])) ?_ hq
          intro hb
          split at hb
          · rename_i hbi
            have hde := he e (by simp) hbi
            simp only [Nat.testBit_or, Bool.or_eq_true] at hb
            rcases hb with (hb | hb) | hb
            · exact hm hb
            · rw [Nat.testBit_shiftLeft] at hb
              simp only [Bool.and_eq_true, decide_eq_true_eq] at hb
              have h1 : j - e.on = 0 := Nat.testBit_one_eq_true_iff_self_eq_zero.1 hb.2
              have : j = e.on := by omega
              rw [this]; exact hde
            · cases hg : acc[e.on]? with
              | none => rw [List.getD_eq_getElem?_getD, hg] at hb; simp at hb
              | some m' =>
                rw [List.getD_eq_getElem?_getD, hg] at hb
                exact h e.on m' hg j (by simpa using hb) hde
          · exact hm hb
      exact key o.after.toList 0 (fun e he => hafter e (by simpa using he)) (by simp) hj


theorem same_any {H : Heap} {o : Option D} {d : D} {H' : Heap} (h : same H o = some (d, H')) : H' = H ∧ ∀ H2, same H2 o = some (d, H2) := by
  unfold same at h ⊢
  cases o with
  | none => cases h
  | some e =>
    simp only [Option.map_some, Option.some.injEq, Prod.mk.injEq] at h
    exact ⟨h.2.symm, fun H2 => by simp [h.1]⟩
/-- What does not hang on the objects leaves them, whatever they are. -/
theorem opH_quiet {P : Program} {op : Op} {ρ : Operand → D} {H H' : Heap} {d : D} (hq : hRead op = false) (h : opH P op ρ H = some (d, H')) : H' = H ∧ ∀ H2, opH P op ρ H2 = some (d, H2) := by
  have bindS : ∀ {α : Type} {o : Option α} {f : α → Heap → Option (D × Heap)}, (∀ a H H' d, f a H = some (d, H') → H' = H ∧ ∀ H2, f a H2 = some (d, H2)) → (o.bind fun a => f a H) = some (d, H') → H' = H ∧ ∀ H2, (o.bind fun a => f a H2) = some (d, H2) := by
    intro α o f hf hb
    cases o with
    | none => cases hb
    | some a => exact hf a H H' d hb
  cases op with
  | load => simp [hRead] at hq
  | box => simp [hRead] at hq
  | alloc => simp [hRead] at hq
  | store => simp [hRead] at hq
  | buildSlice => simp [hRead] at hq
  | makeSlice => simp [hRead] at hq
  | convert => simp [hRead] at hq
  | makeMap => simp [hRead] at hq
  | mapUpdate => simp [hRead] at hq
  | insert => simp [hRead] at hq
  | lookup => simp [hRead] at hq
  | move x => simp only [opH, Option.some.injEq, Prod.mk.injEq] at h ⊢; exact ⟨h.2.symm, fun H2 => ⟨h.1, trivial⟩⟩
  | assign x => simp only [opH, Option.some.injEq, Prod.mk.injEq] at h ⊢; exact ⟨h.2.symm, fun H2 => ⟨h.1, trivial⟩⟩
  | pick c a b => simp only [opH] at h ⊢; exact same_any h
  | field t x f => simp only [opH] at h ⊢; exact bindS (f := fun (uo : TypeId × Nat) H => (shapeOf P uo.1).bind fun s => same H (fieldD s uo.2 (ρ x))) (fun a H H' d h => by
      cases hs : shapeOf P a.1 with
      | none => rw [hs] at h; cases h
      | some s => rw [hs] at h; simp only [Option.bind_some] at h ⊢; exact same_any h) h
  | fieldAddr t x f => simp only [opH] at h ⊢; exact bindS (f := fun (uo : TypeId × Nat) H => (P.info? uo.1).bind fun i => if i.size = 0 then none else same H (fieldAtH uo.2 (ρ x))) (fun a H H' d h => by
      cases hs : P.info? a.1 with
      | none => rw [hs] at h; cases h
      | some s =>
        rw [hs] at h
        simp only [Option.bind_some] at h ⊢
        split at h
        · cases h
        · rename_i hz
          simp only [if_neg hz]
          exact same_any h) h
  | indexAddr t x i =>
    simp only [opH] at h ⊢
    cases ha : arrD P t with
    | some a => rw [ha] at h; exact same_any h
    | none => rw [ha] at h; exact bindS (f := fun sz H => same H (idxH sz (ρ x) (ρ i))) (fun a H H' d h => same_any h) h
  | slice t x lo hi mx =>
    cases mx with
    | some m => cases h
    | none =>
      simp only [opH] at h ⊢
      split at h
      · exact same_any h
      · exact bindS (f := fun sz H => same H (cutH sz (ρ x) (lo.map ρ) (hi.map ρ))) (fun a H H' d h => same_any h) h
  | build t ps => simp only [opH] at h ⊢; exact same_any h
  | binOp op t x y ty => simp only [opH] at h ⊢; exact same_any h
  | unOp op t x => cases op <;> first | (cases h; done) | (simp only [opH] at h ⊢; exact same_any h)
  | index t x i =>
    simp only [opH] at h ⊢
    split at h
    · exact same_any h
    · cases h
  | typeAssert x t u ok =>
    simp only [opH] at h ⊢
    split at h
    · rename_i hc
      simp only [if_pos hc]
      exact bindS (f := fun z H => same H (assertD u z ok (ρ x))) (fun a H H' d h => same_any h) h
    · cases h
  | extract t i => simp only [opH] at h ⊢; exact same_any h
  | makeInterface t x =>
    simp only [opH] at h ⊢
    split at h
    · cases h
    · cases h
    · cases h
      exact ⟨rfl, fun H2 => rfl⟩
  | makeFunc f a b =>
    simp only [opH] at h ⊢
    cases h
    exact ⟨rfl, fun H2 => rfl⟩
  | nilCheck x =>
    simp only [opH] at h ⊢
    split at h
    · cases h; exact ⟨rfl, fun H2 => rfl⟩
    · cases h; exact ⟨rfl, fun H2 => rfl⟩
    · cases h
  | call c =>
    obtain ⟨callee, args, ats⟩ := c
    cases callee with
    | builtin b =>
      cases b with
      | len =>
        simp only [opH] at h ⊢
        split at h
        · exact same_any h
        · cases h
      | max => simp only [opH] at h ⊢; exact same_any h
      | min => simp only [opH] at h ⊢; exact same_any h
      | _ => simp [hRead] at hq
    | _ => simp [hRead] at hq
  | _ => cases h
theorem stepD_quiet {P : Program} {T : Tab} {op : Op} {ρ : Operand → D} {H H' : Heap} {d : D} (hq : hRead op = false) (h : stepD P T op ρ H = some (d, H')) : H' = H ∧ ∀ H2, stepD P T op ρ H2 = some (d, H2) := by
  have hop : ∀ H, stepD P T op ρ H = opH P op ρ H := by
    intro H
    unfold stepD
    split
    · simp [hRead] at hq
    · simp [hRead] at hq
    · simp [hRead] at hq
    · simp [hRead] at hq
    · rfl
  rw [hop] at h
  have := opH_quiet hq h
  exact ⟨this.1, fun H2 => by rw [hop]; exact this.2 H2⟩
/-- What does not change the objects leaves them. -/
theorem stepD_calm {P : Program} {T : Tab} (hT : TabOk P T) {op : Op} {ρ : Operand → D} {H H' : Heap} {d : D} (hq : hWrite T op = false) (h : stepD P T op ρ H = some (d, H')) : H' = H := by
  by_cases hr : hRead op = false
  · exact (stepD_quiet hr h).1
  · unfold stepD at h
    split at h
    · rename_i f args ats
      obtain ⟨G, _, _, hc⟩ := look_ok hT h
      exact (hc (by simpa [hWrite] using hq)).1
    · simp [hWrite] at hq
    · simp [hWrite] at hq
    · split at h
      · exact (same_any h).1
      · rename_i hb
        simp only [hWrite, Bool.not_eq_false'] at hq
        exact absurd hq hb
    · rename_i n1 n2 n3 n4
      cases op with
      | load t a =>
        simp only [opH] at h
        obtain ⟨s, _, h⟩ := Option.bind_eq_some_iff.1 h
        exact (same_any h).1
      | box => simp [hWrite] at hq
      | alloc => simp [hWrite] at hq
      | store => simp [hWrite] at hq
      | buildSlice t n ps => exact absurd rfl (n4 t n ps)
      | makeSlice => simp [hWrite] at hq
      | makeMap => simp [hWrite] at hq
      | mapUpdate => simp [hWrite] at hq
      | insert => simp [hWrite] at hq
      | convert s t x =>
        simp only [opH] at h
        split at h
        · exact (same_any h).1
        · split at h
          · exact (same_any h).1
          · cases h
        · exact (same_any h).1
        · cases h
      | lookup t m k ok =>
        simp only [opH] at h
        obtain ⟨e, _, h⟩ := Option.bind_eq_some_iff.1 h
        obtain ⟨z, _, h⟩ := Option.bind_eq_some_iff.1 h
        exact (same_any h).1
      | call c =>
        obtain ⟨callee, args, ats⟩ := c
        cases callee with
        | builtin b => cases b <;> first | (simp [hRead] at hr; done) | (simp [hWrite] at hq; done)
        | value f => cases f <;> first | (simp [hWrite] at hq; done) | (cases h; done)
        | invoke => simp [hWrite] at hq
      | _ => simp [hRead] at hr

/- What but reads reads the same where there is more. -/
theorem same_some {H H' : Heap} {o : Option D} {d : D} (h : same H o = some (d, H')) : o = some d := by
  unfold same at h
  cases o with
  | none => cases h
  | some e => simp only [Option.map_some, Option.some.injEq, Prod.mk.injEq] at h; rw [h.1]
theorem load_mono {s : Option Nat} {H t : Heap} {x d : D} (h : loadH s H x = some d) : loadH s (H ++ t) x = some d := by
  unfold loadH at h ⊢
  split at h
  · rename_i id off
    split at h
    · rename_i t' sz cs hid
      rw [getE_mono hid]; exact h
    · cases h
  · exact h
theorem src_mono {sz : Nat} {H t : Heap} {x : D} {cs : List D} (h : srcH sz H x = some cs) : srcH sz (H ++ t) x = some cs := by
  unfold srcH at h ⊢
  split at h
  · split at h
    · rename_i t' s cs' hid
      rw [getE_mono hid]; exact h
    · cases h
  · split at h
    · rename_i t' s cs' hid
      rw [getE_mono hid]; exact h
    · cases h
  · exact h
theorem mapOf_mono {H t : Heap} {x : D} {r : List Int × List D} (h : mapOf H x = some r) : mapOf (H ++ t) x = some r := by
  unfold mapOf at h ⊢
  split at h
  · split at h
    · rename_i ks vs hid
      rw [getE_mono hid]; exact h
    · cases h
  · exact h
  · exact h
  · cases h
theorem stepD_mono {P : Program} {T : Tab} (hT : TabOk P T) {op : Op} {ρ : Operand → D} {H H' : Heap} {d : D} (hq : hWrite T op = false) (h : stepD P T op ρ H = some (d, H')) (t : Heap) : stepD P T op ρ (H ++ t) = some (d, H ++ t) := by
  by_cases hr : hRead op = false
  · exact (stepD_quiet hr h).2 _
  · unfold stepD at h ⊢
    split at h
    · rename_i f args ats
      obtain ⟨G, _, _, hc⟩ := look_ok hT h
      exact (hc (by simpa [hWrite] using hq)).2.1 t
    · simp [hWrite] at hq
    · simp [hWrite] at hq
    · split at h
      · rename_i hb
        rw [if_pos hb]
        have := same_some h
        simp only [same, this, Option.map_some]
      · rename_i hb
        simp only [hWrite, Bool.not_eq_false'] at hq
        exact absurd hq hb
    · rename_i n1 n2 n3 n4
      cases op with
      | load ty a =>
        simp only [opH] at h ⊢
        obtain ⟨s, hs, h⟩ := Option.bind_eq_some_iff.1 h
        have := load_mono (t := t) (same_some h)
        simp only [hs, Option.bind_some, same, this, Option.map_some]
      | box => simp [hWrite] at hq
      | alloc => simp [hWrite] at hq
      | store => simp [hWrite] at hq
      | buildSlice t n ps => exact absurd rfl (n4 t n ps)
      | makeSlice => simp [hWrite] at hq
      | makeMap => simp [hWrite] at hq
      | mapUpdate => simp [hWrite] at hq
      | insert => simp [hWrite] at hq
      | convert s ty x =>
        simp only [opH] at h ⊢
        split at h
        · rename_i h1 h2
          have := same_some h
          simp only [same, this, Option.map_some]
        · rename_i e h1 h2
          split at h
          · rename_i h3
            have hb := same_some h
            unfold bytesS at hb
            obtain ⟨cs, h4, h5⟩ := Option.bind_eq_some_iff.1 hb
            have : bytesS (H ++ t) (ρ x) = some d := by unfold bytesS; rw [src_mono h4]; exact h5
            simp only [same, this, Option.map_some]
          · cases h
        · have := same_some h
          simp only [same, this, Option.map_some]
        · cases h
      | lookup ty m k ok =>
        simp only [opH] at h ⊢
        obtain ⟨e, he, h⟩ := Option.bind_eq_some_iff.1 h
        obtain ⟨z, hz, h⟩ := Option.bind_eq_some_iff.1 h
        have hl := same_some h
        unfold lookH at hl
        obtain ⟨kv, h1, hl⟩ := Option.bind_eq_some_iff.1 hl
        have : lookH z ok (H ++ t) (ρ m) (ρ k) = some d := by unfold lookH; rw [mapOf_mono h1]; exact hl
        simp only [he, hz, Option.bind_some, same, this, Option.map_some]
      | call c =>
        obtain ⟨callee, args, ats⟩ := c
        cases callee with
        | builtin b => cases b <;> first | (simp [hRead] at hr; done) | (simp [hWrite] at hq; done)
        | value f => cases f <;> first | (simp [hWrite] at hq; done) | (cases h; done)
        | invoke => simp [hWrite] at hq
      | _ => simp [hRead] at hr
/-- What but makes an object puts it behind the others. -/
theorem stepD_alloc {P : Program} {T : Tab} {op : Op} {ρ : Operand → D} {H H' : Heap} {d : D} (hq : hAlloc op = true) (h : stepD P T op ρ H = some (d, H')) : ∃ t, H' = H ++ t := by
  have new : ∀ {ty : TypeId} {sz : Nat} {cs : List D} {f : Nat × Heap → D × Heap}, (∀ r, (f r).2 = r.2) → (newH ty sz cs H).map f = some (d, H') → ∃ t, H' = H ++ t := by
    intro ty sz cs f hf h
    unfold newH at h
    split at h
    · simp only [Option.map_some, Option.some.injEq] at h
      have := hf (H.length, H ++ [.cells ty sz cs])
      rw [h] at this
      exact ⟨_, this⟩
    · cases h
  cases op with
  | box t x =>
    simp only [stepD, opH, boxH] at h
    obtain ⟨cs, _, h⟩ := Option.bind_eq_some_iff.1 h
    exact new (fun _ => rfl) h
  | alloc t =>
    simp only [stepD, opH, allocH] at h
    obtain ⟨cs, _, h⟩ := Option.bind_eq_some_iff.1 h
    exact new (fun _ => rfl) h
  | buildSlice t n ps =>
    simp only [stepD] at h
    split at h
    · exact ⟨[], by rw [(same_any h).1, List.append_nil]⟩
    simp only [opH, rowH] at h
    obtain ⟨r, _, h⟩ := Option.bind_eq_some_iff.1 h
    obtain ⟨dr, _, h⟩ := Option.bind_eq_some_iff.1 h
    obtain ⟨els, _, h⟩ := Option.bind_eq_some_iff.1 h
    exact new (fun _ => rfl) h
  | makeSlice t n m =>
    simp only [stepD, opH, makeH] at h
    obtain ⟨z, _, h⟩ := Option.bind_eq_some_iff.1 h
    split at h
    · split at h
      · exact new (fun _ => rfl) h
      · cases h
    · cases h
  | makeMap t r =>
    cases r with
    | none =>
      simp only [stepD, opH] at h
      split at h
      · unfold newM at h
        simp only [Option.some.injEq, Prod.mk.injEq] at h
        exact ⟨_, h.2.symm⟩
      · cases h
    | some r => cases h
  | _ => simp [hAlloc] at hq

/- What may change places, if guards hold. -/
theorem same_mk {H H' H2 : Heap} {o : Option D} {d : D} (h : same H o = some (d, H')) : same H2 o = some (d, H2) := by
  have := same_some h
  subst this; rfl
theorem src_free {sz : Nat} {H H2 : Heap} {x : D} (hx : idD x = none) : srcH sz H2 x = srcH sz H x := by
  cases x <;> first | rfl | (simp [idD] at hx; done)
/-- A conversion of what names no object. -/
theorem conv_free {P : Program} {T : Tab} {s t : TypeId} {a : Operand} {ρ : Operand → D} {H H' : Heap} {d : D} (hx : wholeB (ρ a) = true) (h : stepD P T (.convert s t a) ρ H = some (d, H')) (H2 : Heap) : stepD P T (.convert s t a) ρ H2 = some (d, H2) := by
  have hid : idD (ρ a) = none := by
    unfold wholeB at hx
    split at hx
    · assumption
    · cases hx
  simp only [stepD, opH] at h ⊢
  split at h
  · exact same_mk h
  · split at h
    · have hb : bytesS H2 (ρ a) = bytesS H (ρ a) := by unfold bytesS; rw [src_free hid]
      rw [hb]
      exact same_mk h
    · cases h
  · exact same_mk h
  · cases h
/-- A calm call of what names no object. -/
theorem call_free {P : Program} {T : Tab} (hT : TabOk P T) {f : FuncId} {args : Array Operand} {ats : Array TypeId} {ρ : Operand → D} {H H' : Heap} {d : D} (hc : isCalm T f = true) (hx : pureL (args.toList.map ρ) = true) (h : stepD P T (.call { callee := .value (.func f), args := args, argTypes := ats }) ρ H = some (d, H')) (H2 : Heap) :
    stepD P T (.call { callee := .value (.func f), args := args, argTypes := ats }) ρ H2 = some (d, H2) := by
  simp only [stepD] at h ⊢
  obtain ⟨G, _, _, hcc⟩ := look_ok hT h
  exact (hcc hc).2.2 hx H2
theorem load_at {s : Option Nat} {H H' : Heap} {x : D} (h : ∀ id off, x = .hp id off → H'[id]? = H[id]?) : loadH s H' x = loadH s H x := by
  cases x with
  | hp id off => simp only [loadH, h id off rfl]
  | _ => rfl
/-- What a load reads is there. -/
theorem load_in {s : Option Nat} {H : Heap} {x d : D} (h : loadH s H x = some d) : ∀ id off, x = .hp id off → id < H.length := by
  rintro id off rfl
  simp only [loadH] at h
  split at h
  · rename_i h1; exact (List.getElem?_eq_some_iff.1 h1).1
  · cases h
theorem newH_keeps {ty : TypeId} {sz : Nat} {cs : List D} {H : Heap} {r : Nat × Heap} (h : newH ty sz cs H = some r) {id : Nat} (hid : id < H.length) : r.2[id]? = H[id]? ∧ H.length ≤ r.2.length := by
  unfold newH at h
  split at h
  · cases h
    exact ⟨by rw [List.getElem?_append_left hid], by simp⟩
  · cases h
theorem appH_keeps {e : TypeId} {sz : Nat} {s : D} {new : List D} {H H' : Heap} {d : D} {id : Nat} (hid : id < H.length) (hs : idD s ≠ some id) (h : appH e sz s new H = some (d, H')) : H'[id]? = H[id]? ∧ H.length ≤ H'.length := by
  unfold appH at h
  split at h
  · cases h
  · split at h
    · split at h
      · cases h; exact ⟨rfl, Nat.le_refl _⟩
      · split at h
        · cases h
          exact ⟨by rw [List.getElem?_append_left hid], by simp⟩
        · cases h
    · rename_i id0 k0
      have h0 : id0 ≠ id := fun e => hs (by simp [idD, e])
      split at h
      · split at h
        · cases h
          exact ⟨by rw [List.getElem?_append_left (by rw [List.length_set]; exact hid), List.getElem?_set_ne h0], by simp⟩
        · cases h
      · cases h
    · cases h
/-- A write leaves the objects that it does not aim at. -/
theorem write_keeps {P : Program} {T : Tab} {op : Op} {ρ : Operand → D} {H H' : Heap} {d : D} {ts : List Operand} {id : Nat} (hid : id < H.length) (hw : wTarget op = some ts) (hb : ∀ b ∈ ts, idD (ρ b) ≠ some id) (h : stepD P T op ρ H = some (d, H')) : H'[id]? = H[id]? ∧ H.length ≤ H'.length := by
  have new : ∀ {ty : TypeId} {sz : Nat} {cs : List D} {f : Nat × Heap → D × Heap}, (∀ r, (f r).2 = r.2) → (newH ty sz cs H).map f = some (d, H') → H'[id]? = H[id]? ∧ H.length ≤ H'.length := by
    intro ty sz cs f hf h
    obtain ⟨r, hr, e⟩ := Option.map_eq_some_iff.1 h
    have e2 := hf r
    rw [e] at e2
    simp only at e2
    rw [e2]
    exact newH_keeps hr hid
  cases op with
  | store t a x =>
    simp only [wTarget, Option.some.injEq] at hw
    subst hw
    have hb' := hb a (by simp)
    simp only [stepD, opH] at h
    obtain ⟨i, _, h⟩ := Option.bind_eq_some_iff.1 h
    unfold setH at h
    obtain ⟨H3, h3, e⟩ := Option.map_eq_some_iff.1 h
    cases e
    unfold storeH at h3
    split at h3
    · rename_i id0 off ds hx hds
      rw [hx] at hb'
      have h0 : id0 ≠ id := fun e => hb' (by simp [idD, e])
      split at h3
      · split at h3
        · cases h3
          exact ⟨by rw [List.getElem?_set_ne h0], by simp⟩
        · cases h3
      · cases h3
    · cases h3
  | box t x =>
    simp only [stepD, opH, boxH] at h
    obtain ⟨cs, _, h⟩ := Option.bind_eq_some_iff.1 h
    exact new (fun _ => rfl) h
  | alloc t =>
    simp only [stepD, opH, allocH] at h
    obtain ⟨cs, _, h⟩ := Option.bind_eq_some_iff.1 h
    exact new (fun _ => rfl) h
  | buildSlice t k ps =>
    simp only [stepD] at h
    split at h
    · have e := (same_any h).1
      subst e
      exact ⟨rfl, Nat.le_refl _⟩
    simp only [opH, rowH] at h
    obtain ⟨r, _, h⟩ := Option.bind_eq_some_iff.1 h
    obtain ⟨dr, _, h⟩ := Option.bind_eq_some_iff.1 h
    obtain ⟨els, _, h⟩ := Option.bind_eq_some_iff.1 h
    exact new (fun _ => rfl) h
  | makeSlice t k m =>
    simp only [stepD, opH, makeH] at h
    obtain ⟨z, _, h⟩ := Option.bind_eq_some_iff.1 h
    split at h
    · split at h
      · exact new (fun _ => rfl) h
      · cases h
    · cases h
  | makeMap t r =>
    cases r with
    | none =>
      simp only [stepD, opH] at h
      split at h
      · unfold newM at h
        simp only [Option.some.injEq, Prod.mk.injEq] at h
        obtain ⟨rfl, rfl⟩ := h
        exact ⟨by rw [List.getElem?_append_left hid], by simp⟩
      · cases h
    | some r => cases h
  | call c =>
    obtain ⟨callee, args, ats⟩ := c
    cases callee with
    | builtin b =>
      cases b with
      | append =>
        simp only [wTarget] at hw
        simp only [stepD, opH] at h
        split at h
        · rename_i s x t t' ha hat
          rw [ha] at hw
          simp only [Option.some.injEq] at hw
          subst hw
          have hs := hb s (by simp)
          split at h
          · obtain ⟨es, _, h⟩ := Option.bind_eq_some_iff.1 h
            unfold appendH at h
            obtain ⟨new, _, h⟩ := Option.bind_eq_some_iff.1 h
            exact appH_keeps hid hs h
          · split at h
            · obtain ⟨es, _, h⟩ := Option.bind_eq_some_iff.1 h
              unfold appendS at h
              split at h
              · split at h
                · exact appH_keeps hid hs h
                · cases h
              · cases h
            · cases h
        · cases h
      | _ => simp [wTarget, hAlloc] at hw
    | _ => simp [wTarget, hAlloc] at hw
  | _ => simp [wTarget, hAlloc] at hw
end Go.Proofs.Ytbnmkdlmalobaaa
end
