/-
  Regions over values with objects, in whatever order. Nothing here names the program.
-/
import Derived.Test.YtnmgfobpcengkaaHDenCall
import Derived.Test.YtnmgfobpcengkaaRegion
import Derived.LoopNIn
import Derived.RangeFuncLeaves
import Derived.RangeFuncCalls
namespace Go.Proofs.Ytnmgfobpcengkaa
open Go.RowKit
set_option linter.unusedVariables false
set_option linter.unusedSimpArgs false

def evalD (fr : List D) : Operand → D
  | .tmp t => fr.getD t .undef
  | .const v => .v v
  | .global g => .v (.pointer (some ⟨g, 0, none⟩))
  | .func f => .clo (.func f) [] []
def putD (fr : List D) (dst : Option Tmp) (d : D) : List D :=
  match dst with
  | some t => fr.set t d
  | none => fr
/-- A function value, called. -/
def callClo (T : Tab) (f : D) (args : List D) (H : Heap) : Option (D × Heap) :=
  match f with
  | .clo (.func f) fs cs => look T f (fs ++ args ++ cs) H
  | .yld id => T.yl id args H
  | _ => none
/-- A method of an interface value, called. -/
def callMeth (P : Program) (T : Tab) (r : D) (name : String) (args : List D) (H : Heap) : Option (D × Heap) :=
  match r with
  | .ifc t d => (methD P t name).bind fun f => look T f (d :: args) H
  | _ => none
theorem methD_ok {P : Program} {t : TypeId} {name : String} {f : FuncId} (h : methD P t name = some f) (v : Value) (w : World) (n : Nat) : (method (n + 1) t v name).run P w = .ok (f, v) w := by
  unfold methD at h
  split at h
  · rename_i i u hi hu
    split at h
    · rename_i m hm
      split at h
      · rename_i g b hp hf
        split at h
        · rename_i hb
          cases h
          have : ∀ wr, (receiverAt t (.val v) b wr).run P w = .ok v w := by
            intro wr
            subst hb
            cases u <;> simp [receiverAt, run_underlying hu, isPtr, Place.get]
          simp [method, typeInfo, hi, hm, hp, follow, hf, this]
        · cases h
      · cases h
    · cases h
  · cases h
/-- What an operation yields, be it a call or not. -/
def stepD (P : Program) (T : Tab) (op : Op) (ρ : Operand → D) (H : Heap) : Option (D × Heap) :=
  match op with
  | .call { callee := .value (.func f), args, .. } => look T f (args.toList.map ρ) H
  | .call { callee := .value (.tmp t), args, .. } => callClo T (ρ (.tmp t)) (args.toList.map ρ) H
  | .call { callee := .invoke r name, args, .. } => callMeth P T (ρ r) name (args.toList.map ρ) H
  | op => opH P op ρ H
/-- Is it to be carried out? -/
def wantedD (ops : List Oper) (o : Oper) (fr : List D) : Option Bool :=
  match o.guard with
  | none => some true
  | some (j, want) =>
    match ((ops[j]?).bind (·.dst)).bind (fr[·]?) with
    | some (.v (.bool b)) => some (b == want)
    | some (.v (.tuple _)) => some false
    | _ => none
def oneD (P : Program) (T : Tab) (ops : List Oper) (o : Oper) (fr : List D) (H : Heap) : Option (D × Heap) :=
  match wantedD ops o fr with
  | some true => stepD P T o.op (evalD fr) H
  | some false => some (.v undef, H)
  | none => none
abbrev Fr := List D × Heap
def runOps (P : Program) (T : Tab) (ops : List Oper) : List Oper → Fr → Option Fr
  | [], s => some s
  | o :: r, s => (oneD P T ops o s.1 s.2).bind fun d => runOps P T ops r (putD s.1 o.dst d.1, d.2)

/-- A fence that lets all in: around a call, or a round. -/
inductive Wd : Fence → Prop
  | wide : Wd Fence.wide
  | round (l : Nat) : Wd (Fence.wide.inRound l)
theorem Wd.fn {F : Fence} (h : Wd F) (f : FuncId) : F.fn f := by cases h <;> trivial
theorem Wd.depth {F : Fence} (h : Wd F) : F.depth = none := by cases h <;> rfl
theorem Wd.calls {F : Fence} (h : Wd F) {n : Nat} {P : Program} {f : FuncId} {args : Array Value} {w : World} {R : Ending → World → Prop} (hc : Calls P f args w R) : CallsIn F n P f args w R := by
  cases h with
  | wide => exact callsIn_wide.2 hc
  | round l => exact CallsIn.inRound l (callsIn_wide.2 hc)
theorem Wd.round' {F : Fence} (h : Wd F) {n : Nat} {P : Program} {l : Nat} {f : FuncId} {tmps : Array Value} {assign body : Code} {w : World} {R : Ending → World → Prop} (hc : RoundIn Fence.wide n P l f tmps assign body w R) : RoundIn F n P l f tmps assign body w R := by
  cases h with
  | wide => exact hc
  | round l => exact hc

/-- The marks of the loops over functions that were gone through; their blocks are open, and none of those that are read by value. -/
def marksOf (Ds : List Nat) : List Deferred := Ds.map fun D => { target := .collected D, args := #[] }
def MarksOk (N : Nat) (S : Nat → Prop) (w : World) (ds : List Deferred) : Prop := ∃ Ds : List Nat, ds = marksOf Ds ∧ Ds.Nodup ∧ ∀ D ∈ Ds, N ≤ D ∧ ¬ S D ∧ w.heap[D]? = some (.deferred (some []))
theorem MarksOk.nil {N : Nat} {S : Nat → Prop} {w : World} : MarksOk N S w [] := ⟨[], rfl, List.nodup_nil, fun D h => by cases h⟩
theorem MarksOk.later {N B : Nat} {S S' : Nat → Prop} {L L' : List (Nat × Nat)} {w w' : World} {ds : List Deferred} (h : MarksOk N S w ds) (hl : Later B S S' L L' w w') : MarksOk N S' w' ds := by
  obtain ⟨Ds, h1, h2, h3⟩ := h
  refine ⟨Ds, h1, h2, fun D hD => ?_⟩
  obtain ⟨k1, k2, k3⟩ := h3 D hD
  refine ⟨k1, fun hS => ?_, hl.marks D k3⟩
  rcases hl.only D hS with h | h
  · exact k2 h
  · have := (Array.getElem?_eq_some_iff.1 k3).1
    omega
/-- A frame reads as values. N: where the memory ended when it was entered. -/
structure RepF (B N : Nat) (S : Nat → Prop) (L : List (Nat × Nat)) (w : World) (a : Act) (s : Fr) : Prop where
  defers : MarksOk N S w a.defers
  tmps : RepA S L w a.tmps.toList s.1
  objs : HRel B S L w s.2

theorem RepA.put {S : Nat → Prop} {L : List (Nat × Nat)} {w : World} {a : Act} {fr : List D} (h : RepA S L w a.tmps.toList fr) (dst : Option Tmp) {v : Value} {d : D} (hv : Rep S L w v d) : RepA S L w (a.put dst v).tmps.toList (putD fr dst d) := by
  cases dst with
  | none => exact h
  | some t =>
    simp only [Act.put, putD, Array.toList_setIfInBounds]
    exact h.set t hv
theorem put_defers (a : Act) (dst : Option Tmp) (v : Value) : (a.put dst v).defers = a.defers := by
  cases dst <;> rfl
theorem RepA.getD {S : Nat → Prop} {L : List (Nat × Nat)} {w : World} {xs : List Value} {ds : List D} (h : RepA S L w xs ds) (t : Nat) (u : Value) : Rep S L w (xs.getD t u) (ds.getD t .undef) := by
  cases hd : ds[t]? with
  | none => rw [List.getD_eq_getElem?_getD, List.getD_eq_getElem?_getD, hd]; simp only [Option.getD_none, Rep]
  | some d =>
    obtain ⟨x, h1, h2⟩ := h.get t d hd
    rw [List.getD_eq_getElem?_getD, List.getD_eq_getElem?_getD, hd, h1]
    exact h2
theorem evalD_ok {S : Nat → Prop} {L : List (Nat × Nat)} {w : World} {a : Act} {fr : List D} (h : RepA S L w a.tmps.toList fr) (x : Operand) : Rep S L w (a.eval x) (evalD fr x) := by
  cases x with
  | tmp t =>
    have := h.getD t undef
    simpa [Act.eval, evalD] using this
  | func f =>
    simp only [evalD, Rep, RepA]
    exact ⟨[], [], rfl, rfl, rfl⟩
  | _ => simp only [evalD, Rep]; rfl


theorem extract_one (x : Value) (xs : Array Value) : (#[x] ++ xs).extract 1 (#[x] ++ xs).size = xs := by
  apply Array.ext
  · simp
  · intro i h1 h2
    simp only [Array.getElem_extract]
    rw [Array.getElem_append_right (by simp)]
    simp
/-- One operation, carried out. -/
theorem stepD_ok {P : Program} {T : Tab} (hT : TabOk P T) {F : Fence} (hF : Wd F) {n : Nat} {o : Oper} {d : D} {H H' : Heap} {a : Act} {w : World} {B : Nat} {S : Nat → Prop} {L : List (Nat × Nat)} {ρ : Operand → D} {K : Act → World → Prop} {Q : Exit → Act → World → Prop} (h : stepD P T o.op ρ H = some (d, H'))
    (hρ : ∀ x, Rep S L w (a.eval x) (ρ x)) (hr : HRel B S L w H) (hK : ∀ v w' S' L', Rep S' L' w' v d → HRel B S' L' w' H' → Later B S S' L L' w w' → K (a.put o.dst v) w') : o.wpIn F n P a w K Q := by
  refine ⟨fun f _ => hF.fn f, ?_⟩
  have hdep : ∀ {p : Prop}, F.depth.isSome = true → p := fun e => by rw [hF.depth] at e; cases e
  rw [Oper.semAt_eq _ _ _ (fun c e => by rw [e] at h; simp [stepD, opH] at h)]
  have call : ∀ (f : FuncId) (ds : List D) (vs : List Value), look T f ds H = some (d, H') → RepA S L w vs ds → (∀ fn, P.funcs[f]? = some fn → fn.name ≠ "runtime.NumGoroutine" → fn.body.isSome = true → (execOp a.eval o).run P w = .ok (.enter f vs.toArray) w) →
      o.uponIn F n P a K Q ((execOp a.eval o).run P w) := by
    intro f ds vs hl hv hrun
    obtain ⟨G, hG, hd, _⟩ := look_ok hT hl
    obtain ⟨fn, h1, h2, h3⟩ := hG.body
    rw [hrun fn h1 h2 h3]
    refine ⟨hdep, ?_⟩
    refine (hF.calls (hG.calls ds H d H' hd B S L vs w hr hv)).mono ?_
    rintro e w' ⟨v, S', L', rfl, h4, h5, h6⟩
    exact hK v w' S' L' h4 h5 h6
  unfold stepD at h
  split at h
  · rename_i f args ats heq
    refine call f _ (args.toList.map a.eval) h (RepA.ops hρ args.toList) fun fn h1 h2 h3 => ?_
    obtain ⟨dst, op, type, pos, after, guard⟩ := o
    simp only at heq
    subst heq
    have hb : fn.body ≠ none := by intro e; rw [e] at h3; cases h3
    simp [execOp, resolve, Act.eval, Deferred.ofValue, invoke, callFunc, run_program, h1, h2, hb]
    apply Array.ext'
    simp
  · rename_i t args ats heq
    unfold callClo at h
    split at h
    · rename_i f fs cs hc
      have hf := hρ (.tmp t)
      rw [hc] at hf
      simp only [Rep] at hf
      obtain ⟨ys, zs, hfv, hy, hz⟩ := hf
      refine call f _ (ys ++ args.toList.map a.eval ++ zs) h ((hy.append (RepA.ops hρ args.toList)).append hz) fun fn h1 h2 h3 => ?_
      obtain ⟨dst, op, type, pos, after, guard⟩ := o
      simp only at heq
      subst heq
      have hb : fn.body ≠ none := by intro e; rw [e] at h3; cases h3
      simp [execOp, resolve, hfv, Deferred.ofValue, invoke, callFunc, run_program, h1, h2, hb]
    · rename_i id hc
      have hf := hρ (.tmp t)
      rw [hc] at hf
      obtain ⟨b, c, f, tmps, assign, body, h1, h2, h3⟩ := hT.yl id _ H d H' h B S L _ w hr (RepA.ops hρ args.toList)
      simp only [Rep] at hf
      obtain ⟨b', c', h4, hfv⟩ := hf
      rw [h1] at h4
      cases h4
      have hrun : (execOp a.eval o).run P w = .ok (.round b f tmps assign body) w := by
        obtain ⟨dst, op, type, pos, after, guard⟩ := o
        simp only at heq
        subst heq
        have h2' : (Instr.yield b (Array.map a.eval args)).run P w = .ok (.round b f tmps assign body) w := by rw [← h2]; congr 2; apply Array.ext'; simp
        simp [execOp, resolve, hfv, Deferred.ofValue, invoke, h2']
      rw [hrun]
      refine ⟨hdep, ?_⟩
      refine (hF.round' (h3 (n - 1))).mono ?_
      rintro e w' ⟨v, S', L', rfl, h5, h6, h7⟩
      exact hK v w' S' L' h5 h6 h7
    · cases h
  · rename_i r name args ats heq
    unfold callMeth at h
    split at h
    · rename_i ty d hc
      obtain ⟨f, hm, h⟩ := Option.bind_eq_some_iff.1 h
      have hf := hρ r
      rw [hc] at hf
      simp only [Rep] at hf
      obtain ⟨y, hfv, hy⟩ := hf
      refine call f _ (y :: args.toList.map a.eval) h (RepA.cons hy (RepA.ops hρ args.toList)) fun fn h1 h2 h3 => ?_
      obtain ⟨dst, op, type, pos, after, guard⟩ := o
      simp only at heq
      subst heq
      have hb : fn.body ≠ none := by intro e; rw [e] at h3; cases h3
      have hme : (method (P.types.size + Made.depth) ty y name).run P w = .ok (f, y) w := methD_ok hm y w (P.types.size + 99)
      have e1 : (#[y] ++ (#[a.eval r] ++ args.map a.eval).extract 1 (#[a.eval r] ++ args.map a.eval).size : Array Value) = (y :: args.toList.map a.eval).toArray := by
        rw [extract_one]
        apply Array.ext'
        simp
      have hcm : (callMethod (.iface ty y) name ((#[a.eval r] ++ args.map a.eval).extract 1 (#[a.eval r] ++ args.map a.eval).size)).run P w = .ok (.enter f (y :: args.toList.map a.eval).toArray) w := by
        unfold callMethod
        simp only [Sem.run_bind, run_program, Result.andThen_ok, hme, e1]
        simp [callFunc, run_program, h1, h2, hb]
      simp only [execOp, resolve, Sem.run_bind, Sem.run_pure, Result.andThen_ok, invoke]
      have e0 : (#[a.eval r] ++ Array.map a.eval args)[0]? = some (a.eval r) := by rw [Array.getElem?_append_left (by simp)]; rfl
      rw [e0, hfv]
      rw [hfv] at hcm
      exact hcm
    · cases h
  · obtain ⟨x, w', L', h1, h2, h3, h4⟩ := opH_ok h hρ hr
    rcases h1 with h1 | ⟨h1, rfl⟩
    · rw [h1]; exact hK x w' S L' h2 h3 h4
    · rw [h1]; exact hK undef w' S L' h2 h3 h4

theorem yielded_of {ops : Array Oper} {o : Oper} {fr : List D} {tmps : Array Value} {b : Bool} (hw : wantedD ops.toList o fr = some b)
    (hslot : ∀ j want t v, o.guard = some (j, want) → (ops.toList[j]?).bind (·.dst) = some t → fr[t]? = some (.v v) → tmps[t]? = some v) : Region.wanted o (yielded ops tmps) = b := by
  unfold wantedD at hw
  unfold Region.wanted
  split at hw
  · rename_i hg
    rw [hg]; simpa using hw
  · rename_i j want hg
    rw [hg]
    have key : ∀ v, ((ops.toList[j]?).bind (·.dst)).bind (fr[·]?) = some (.v v) → yielded ops tmps j = match v with | .bool b => some b | _ => none := by
      intro v hb
      cases hj : (ops.toList[j]?).bind (·.dst) with
      | none => rw [hj] at hb; cases hb
      | some t =>
        rw [hj, Option.bind_some] at hb
        have h1 := hslot j want t v hg hj hb
        have hj' : (ops[j]?).bind (·.dst) = some t := by rw [← Array.getElem?_toList]; exact hj
        unfold yielded
        rw [hj', Option.bind_some, h1]
        cases v <;> rfl
    split at hw
    · rename_i b' hb
      simp only [Option.some.injEq] at hw
      subst hw
      simp only [key _ hb]
      cases b' <;> cases want <;> rfl
    · rename_i b' hb
      simp only [Option.some.injEq] at hw
      subst hw
      simp only [key _ hb]
      cases want <;> rfl
    · cases hw

theorem wpListD_ok {P : Program} {T : Tab} (hT : TabOk P T) {F : Fence} (hF : Wd F) {n B N : Nat} (ops : Array Oper) {Q : Exit → Act → World → Prop} : ∀ (l : List Nat) (lo : List Oper) (a : Act) (w : World) (S : Nat → Prop) (L : List (Nat × Nat)) (s s' : Fr), l.map (ops[·]?) = lo.map some → runOps P T ops.toList lo s = some s' → RepF B N S L w a s →
    (∀ a' w' S' L', RepF B N S' L' w' a' s' → Later B S S' L L' w w' → Q .normal a' w') → wpOpsIn F n P ops Q l a w := by
  intro l
  induction l with
  | nil =>
    intro lo a w S L s s' hl h hr hQ
    cases lo with
    | nil =>
      simp only [runOps, Option.some.injEq] at h
      subst h
      exact hQ a w S L hr Later.refl
    | cons o r => cases hl
  | cons i rest ih =>
    intro lo a w S L s s' hl h hr hQ
    cases lo with
    | nil => cases hl
    | cons o r =>
      simp only [List.map_cons, List.cons.injEq] at hl
      obtain ⟨ho, hl⟩ := hl
      simp only [wpOpsIn, ho]
      simp only [runOps] at h
      cases h1 : oneD P T ops.toList o s.1 s.2 with
      | none => rw [h1] at h; cases h
      | some d =>
        rw [h1, Option.bind_some] at h
        have hwant : ∀ b, wantedD ops.toList o s.1 = some b → Region.wanted o (yielded ops a.tmps) = b := fun b hw => yielded_of hw fun j want t v _ _ hv => by
          obtain ⟨x, q1, q2⟩ := hr.tmps.get t _ hv
          simp only [Rep] at q2
          subst q2
          simpa using q1
        unfold oneD at h1
        split at h1
        · rename_i hw
          rw [hwant _ hw]
          simp only [if_true]
          obtain ⟨d, H'⟩ := d
          refine stepD_ok hT hF h1 (evalD_ok hr.tmps) hr.objs fun v w' S' L' h2 h3 h4 => ?_
          exact ih r _ _ S' L' _ _ hl h ⟨by rw [put_defers]; exact hr.defers.later h4, (h4.repA hr.tmps).put o.dst h2, h3⟩ fun a' w'' S'' L'' h5 h6 => hQ a' w'' S'' L'' h5 (h4.trans h6)
        · rename_i hw
          rw [hwant _ hw]
          simp only [Bool.false_eq_true, if_false]
          cases h1
          exact ⟨fun f _ => hF.fn f, ih r _ _ S L _ _ hl h ⟨by rw [put_defers]; exact hr.defers, hr.tmps.put o.dst (v := undef) (d := .v undef) (by simp only [Rep]), hr.objs⟩ hQ⟩
        · cases h1

theorem range_ops (ops : Array Oper) : (List.range ops.size).map (ops[·]?) = ops.toList.map some := by
  apply List.ext_getElem?
  intro i
  by_cases h : i < ops.size
  · simp [h]
  · simp [Nat.not_lt.1 h]
end Go.Proofs.Ytnmgfobpcengkaa
