/-
  Parts joined into one text: HDenRun, HDenDraw, HDenDrawn. No condition.
-/
import Derived.LoopNIn
import Derived.RangeFuncLeaves
import Derived.RangeFuncCalls
import Derived.Test.YtbnmkdlmalobaaaJd

section
namespace Go.Proofs.Ytbnmkdlmalobaaa
open Go.RowKit
set_option linter.unusedVariables false
set_option linter.unusedSimpArgs false

def evalD (fr : List D) : Operand → D
  | .tmp t => fr.getD t .undef
  | .const v => .v v
  | .global g => .v (.pointer (some ⟨g, 0, none⟩))
  | .func f => .clo (.func f) [] []
def putD (fr : List D) (dst : Option Tmp) (d : D) : List D :=
  match dst with
  | some t => fr.set t d
  | none => fr
/-- A function value, called. -/
def callClo (T : Tab) (f : D) (args : List D) (H : Heap) : Option (D × Heap) :=
  match f with
  | .clo (.func f) fs cs => look T f (fs ++ args ++ cs) H
  | .yld id => T.yl id args H
  | _ => none
/-- A method of an interface value, called. -/
def callMeth (P : Program) (T : Tab) (r : D) (name : String) (args : List D) (H : Heap) : Option (D × Heap) :=
  match r with
  | .ifc t d => (methD P t name).bind fun f => look T f (d :: args) H
  | _ => none
theorem methD_ok {P : Program} {t : TypeId} {name : String} {f : FuncId} (h : methD P t name = some f) (v : Value) (w : World) (n : Nat) : (method (n + 1) t v name).run P w = .ok (f, v) w := by
  unfold methD at h
  split at h
  · rename_i i u hi hu
    split at h
    · rename_i m hm
      split at h
      · rename_i g b hp hf
        split at h
        · rename_i hb
          cases h
          have : ∀ wr, (receiverAt t (.val v) b wr).run P w = .ok v w := by
            intro wr
            subst hb
            cases u <;> simp [receiverAt, run_underlying hu, isPtr, Place.get]
          simp [method, typeInfo, hi, hm, hp, follow, hf, this]
        · cases h
      · cases h
    · cases h
  · cases h
/-- What an operation yields, be it a call or not. -/
def stepD (P : Program) (T : Tab) (op : Op) (ρ : Operand → D) (H : Heap) : Option (D × Heap) :=
  match op with
  | .call { callee := .value (.func f), args, .. } => look T f (args.toList.map ρ) H
  | .call { callee := .value (.tmp t), args, .. } => callClo T (ρ (.tmp t)) (args.toList.map ρ) H
  | .call { callee := .invoke r name, args, .. } => callMeth P T (ρ r) name (args.toList.map ρ) H
  | op => opH P op ρ H
/-- Is it to be carried out? -/
def wantedD (ops : List Oper) (o : Oper) (fr : List D) : Option Bool :=
  match o.guard with
  | none => some true
  | some (j, want) =>
    match ((ops[j]?).bind (·.dst)).bind (fr[·]?) with
    | some (.v (.bool b)) => some (b == want)
    | some (.v (.tuple _)) => some false
    | _ => none
def oneD (P : Program) (T : Tab) (ops : List Oper) (o : Oper) (fr : List D) (H : Heap) : Option (D × Heap) :=
  match wantedD ops o fr with
  | some true => stepD P T o.op (evalD fr) H
  | some false => some (.v undef, H)
  | none => none
abbrev Fr := List D × Heap
def runOps (P : Program) (T : Tab) (ops : List Oper) : List Oper → Fr → Option Fr
  | [], s => some s
  | o :: r, s => (oneD P T ops o s.1 s.2).bind fun d => runOps P T ops r (putD s.1 o.dst d.1, d.2)

/-- A fence that lets all in: around a call, or a round. -/
inductive Wd : Fence → Prop
  | wide : Wd Fence.wide
  | round (l : Nat) : Wd (Fence.wide.inRound l)
theorem Wd.fn {F : Fence} (h : Wd F) (f : FuncId) : F.fn f := by cases h <;> trivial
theorem Wd.depth {F : Fence} (h : Wd F) : F.depth = none := by cases h <;> rfl
theorem Wd.calls {F : Fence} (h : Wd F) {n : Nat} {P : Program} {f : FuncId} {args : Array Value} {w : World} {R : Ending → World → Prop} (hc : Calls P f args w R) : CallsIn F n P f args w R := by
  cases h with
  | wide => exact callsIn_wide.2 hc
  | round l => exact CallsIn.inRound l (callsIn_wide.2 hc)
theorem Wd.round' {F : Fence} (h : Wd F) {n : Nat} {P : Program} {l : Nat} {f : FuncId} {tmps : Array Value} {assign body : Code} {w : World} {R : Ending → World → Prop} (hc : RoundIn Fence.wide n P l f tmps assign body w R) : RoundIn F n P l f tmps assign body w R := by
  cases h with
  | wide => exact hc
  | round l => exact hc

/-- The marks of the loops over functions that were gone through; their blocks are open, and none of those that are read by value. -/
def marksOf (Ds : List Nat) : List Deferred := Ds.map fun D => { target := .collected D, args := #[] }
def MarksOk (N : Nat) (S : Nat → Prop) (w : World) (ds : List Deferred) : Prop := ∃ Ds : List Nat, ds = marksOf Ds ∧ Ds.Nodup ∧ ∀ D ∈ Ds, N ≤ D ∧ ¬ S D ∧ w.heap[D]? = some (.deferred (some []))
theorem MarksOk.nil {N : Nat} {S : Nat → Prop} {w : World} : MarksOk N S w [] := ⟨[], rfl, List.nodup_nil, fun D h => by cases h⟩
theorem MarksOk.later {N B : Nat} {S S' : Nat → Prop} {L L' : List (Nat × Nat)} {w w' : World} {ds : List Deferred} (h : MarksOk N S w ds) (hl : Later B S S' L L' w w') : MarksOk N S' w' ds := by
  obtain ⟨Ds, h1, h2, h3⟩ := h
  refine ⟨Ds, h1, h2, fun D hD => ?_⟩
  obtain ⟨k1, k2, k3⟩ := h3 D hD
  refine ⟨k1, fun hS => ?_, hl.marks D k3⟩
  rcases hl.only D hS with h | h
  · exact k2 h
  · have := (Array.getElem?_eq_some_iff.1 k3).1
    omega
/-- A frame reads as values. N: where the memory ended when it was entered. -/
structure RepF (B N : Nat) (S : Nat → Prop) (L : List (Nat × Nat)) (w : World) (a : Act) (s : Fr) : Prop where
  defers : MarksOk N S w a.defers
  tmps : RepA S L w a.tmps.toList s.1
  objs : HRel B S L w s.2

theorem RepA.put {S : Nat → Prop} {L : List (Nat × Nat)} {w : World} {a : Act} {fr : List D} (h : RepA S L w a.tmps.toList fr) (dst : Option Tmp) {v : Value} {d : D} (hv : Rep S L w v d) : RepA S L w (a.put dst v).tmps.toList (putD fr dst d) := by
  cases dst with
  | none => exact h
  | some t =>
    simp only [Act.put, putD, Array.toList_setIfInBounds]
    exact h.set t hv
theorem put_defers (a : Act) (dst : Option Tmp) (v : Value) : (a.put dst v).defers = a.defers := by
  cases dst <;> rfl
theorem RepA.getD {S : Nat → Prop} {L : List (Nat × Nat)} {w : World} {xs : List Value} {ds : List D} (h : RepA S L w xs ds) (t : Nat) (u : Value) : Rep S L w (xs.getD t u) (ds.getD t .undef) := by
  cases hd : ds[t]? with
  | none => rw [List.getD_eq_getElem?_getD, List.getD_eq_getElem?_getD, hd]; simp only [Option.getD_none, Rep]
  | some d =>
    obtain ⟨x, h1, h2⟩ := h.get t d hd
    rw [List.getD_eq_getElem?_getD, List.getD_eq_getElem?_getD, hd, h1]
    exact h2
theorem evalD_ok {S : Nat → Prop} {L : List (Nat × Nat)} {w : World} {a : Act} {fr : List D} (h : RepA S L w a.tmps.toList fr) (x : Operand) : Rep S L w (a.eval x) (evalD fr x) := by
  cases x with
  | tmp t =>
    have := h.getD t undef
    simpa [Act.eval, evalD] using this
  | func f =>
    simp only [evalD, Rep, RepA]
    exact ⟨[], [], rfl, rfl, rfl⟩
  | _ => simp only [evalD, Rep]; rfl


theorem extract_one (x : Value) (xs : Array Value) : (#[x] ++ xs).extract 1 (#[x] ++ xs).size = xs := by
  apply Array.ext
  · simp
  · intro i h1 h2
    simp only [Array.getElem_extract]
    rw [Array.getElem_append_right (by simp)]
    simp
/-- One operation, carried out. -/
theorem stepD_ok {P : Program} {T : Tab} (hT : TabOk P T) {F : Fence} (hF : Wd F) {n : Nat} {o : Oper} {d : D} {H H' : Heap} {a : Act} {w : World} {B : Nat} {S : Nat → Prop} {L : List (Nat × Nat)} {ρ : Operand → D} {K : Act → World → Prop} {Q : Exit → Act → World → Prop} (h : stepD P T o.op ρ H = some (d, H'))
    (hρ : ∀ x, Rep S L w (a.eval x) (ρ x)) (hr : HRel B S L w H) (hK : ∀ v w' S' L', Rep S' L' w' v d → HRel B S' L' w' H' → Later B S S' L L' w w' → K (a.put o.dst v) w') : o.wpIn F n P a w K Q := by
  refine ⟨fun f _ => hF.fn f, ?_⟩
  have hdep : ∀ {p : Prop}, F.depth.isSome = true → p := fun e => by rw [hF.depth] at e; cases e
  rw [Oper.semAt_eq _ _ _ (fun c e => by rw [e] at h; simp [stepD, opH] at h)]
  have call : ∀ (f : FuncId) (ds : List D) (vs : List Value), look T f ds H = some (d, H') → RepA S L w vs ds → (∀ fn, P.funcs[f]? = some fn → fn.name ≠ "runtime.NumGoroutine" → fn.body.isSome = true → (execOp a.eval o).run P w = .ok (.enter f vs.toArray) w) →
      o.uponIn F n P a K Q ((execOp a.eval o).run P w) := by
    intro f ds vs hl hv hrun
    obtain ⟨G, hG, hd, _⟩ := look_ok hT hl
    obtain ⟨fn, h1, h2, h3⟩ := hG.body
    rw [hrun fn h1 h2 h3]
    refine ⟨hdep, ?_⟩
    refine (hF.calls (hG.calls ds H d H' hd B S L vs w hr hv)).mono ?_
    rintro e w' ⟨v, S', L', rfl, h4, h5, h6⟩
    exact hK v w' S' L' h4 h5 h6
  unfold stepD at h
  split at h
  · rename_i f args ats heq
    refine call f _ (args.toList.map a.eval) h (RepA.ops hρ args.toList) fun fn h1 h2 h3 => ?_
    obtain ⟨dst, op, type, pos, after, guard⟩ := o
    simp only at heq
    subst heq
    have hb : fn.body ≠ none := by intro e; rw [e] at h3; cases h3
    simp [execOp, resolve, Act.eval, Deferred.ofValue, invoke, callFunc, run_program, h1, h2, hb]
    apply Array.ext'
    simp
  · rename_i t args ats heq
    unfold callClo at h
    split at h
    · rename_i f fs cs hc
      have hf := hρ (.tmp t)
      rw [hc] at hf
      simp only [Rep] at hf
      obtain ⟨ys, zs, hfv, hy, hz⟩ := hf
      refine call f _ (ys ++ args.toList.map a.eval ++ zs) h ((hy.append (RepA.ops hρ args.toList)).append hz) fun fn h1 h2 h3 => ?_
      obtain ⟨dst, op, type, pos, after, guard⟩ := o
      simp only at heq
      subst heq
      have hb : fn.body ≠ none := by intro e; rw [e] at h3; cases h3
      simp [execOp, resolve, hfv, Deferred.ofValue, invoke, callFunc, run_program, h1, h2, hb]
    · rename_i id hc
      have hf := hρ (.tmp t)
      rw [hc] at hf
      obtain ⟨b, c, f, tmps, assign, body, h1, h2, h3⟩ := hT.yl id _ H d H' h B S L _ w hr (RepA.ops hρ args.toList)
      simp only [Rep] at hf
      obtain ⟨b', c', h4, hfv⟩ := hf
      rw [h1] at h4
      cases h4
      have hrun : (execOp a.eval o).run P w = .ok (.round b f tmps assign body) w := by
        obtain ⟨dst, op, type, pos, after, guard⟩ := o
        simp only at heq
        subst heq
        have h2' : (Instr.yield b (Array.map a.eval args)).run P w = .ok (.round b f tmps assign body) w := by rw [← h2]; congr 2; apply Array.ext'; simp
        simp [execOp, resolve, hfv, Deferred.ofValue, invoke, h2']
      rw [hrun]
      refine ⟨hdep, ?_⟩
      refine (hF.round' (h3 (n - 1))).mono ?_
      rintro e w' ⟨v, S', L', rfl, h5, h6, h7⟩
      exact hK v w' S' L' h5 h6 h7
    · cases h
  · rename_i r name args ats heq
    unfold callMeth at h
    split at h
    · rename_i ty d hc
      obtain ⟨f, hm, h⟩ := Option.bind_eq_some_iff.1 h
      have hf := hρ r
      rw [hc] at hf
      simp only [Rep] at hf
      obtain ⟨y, hfv, hy⟩ := hf
      refine call f _ (y :: args.toList.map a.eval) h (RepA.cons hy (RepA.ops hρ args.toList)) fun fn h1 h2 h3 => ?_
      obtain ⟨dst, op, type, pos, after, guard⟩ := o
      simp only at heq
      subst heq
      have hb : fn.body ≠ none := by intro e; rw [e] at h3; cases h3
      have hme : (method (P.types.size + Made.depth) ty y name).run P w = .ok (f, y) w := methD_ok hm y w (P.types.size + 99)
      have e1 : (#[y] ++ (#[a.eval r] ++ args.map a.eval).extract 1 (#[a.eval r] ++ args.map a.eval).size : Array Value) = (y :: args.toList.map a.eval).toArray := by
        rw [extract_one]
        apply Array.ext'
        simp
      have hcm : (callMethod (.iface ty y) name ((#[a.eval r] ++ args.map a.eval).extract 1 (#[a.eval r] ++ args.map a.eval).size)).run P w = .ok (.enter f (y :: args.toList.map a.eval).toArray) w := by
        unfold callMethod
        simp only [Sem.run_bind, run_program, Result.andThen_ok, hme, e1]
        simp [callFunc, run_program, h1, h2, hb]
      simp only [execOp, resolve, Sem.run_bind, Sem.run_pure, Result.andThen_ok, invoke]
      have e0 : (#[a.eval r] ++ Array.map a.eval args)[0]? = some (a.eval r) := by rw [Array.getElem?_append_left (by simp)]; rfl
      rw [e0, hfv]
      rw [hfv] at hcm
      exact hcm
    · cases h
  · obtain ⟨x, w', L', h1, h2, h3, h4⟩ := opH_ok h hρ hr
    rcases h1 with h1 | ⟨h1, rfl⟩
    · rw [h1]; exact hK x w' S L' h2 h3 h4
    · rw [h1]; exact hK undef w' S L' h2 h3 h4

theorem yielded_of {ops : Array Oper} {o : Oper} {fr : List D} {tmps : Array Value} {b : Bool} (hw : wantedD ops.toList o fr = some b)
    (hslot : ∀ j want t v, o.guard = some (j, want) → (ops.toList[j]?).bind (·.dst) = some t → fr[t]? = some (.v v) → tmps[t]? = some v) : Region.wanted o (yielded ops tmps) = b := by
  unfold wantedD at hw
  unfold Region.wanted
  split at hw
  · rename_i hg
    rw [hg]; simpa using hw
  · rename_i j want hg
    rw [hg]
    have key : ∀ v, ((ops.toList[j]?).bind (·.dst)).bind (fr[·]?) = some (.v v) → yielded ops tmps j = match v with | .bool b => some b | _ => none := by
      intro v hb
      cases hj : (ops.toList[j]?).bind (·.dst) with
      | none => rw [hj] at hb; cases hb
      | some t =>
        rw [hj, Option.bind_some] at hb
        have h1 := hslot j want t v hg hj hb
        have hj' : (ops[j]?).bind (·.dst) = some t := by rw [← Array.getElem?_toList]; exact hj
        unfold yielded
        rw [hj', Option.bind_some, h1]
        cases v <;> rfl
    split at hw
    · rename_i b' hb
      simp only [Option.some.injEq] at hw
      subst hw
      simp only [key _ hb]
      cases b' <;> cases want <;> rfl
    · rename_i b' hb
      simp only [Option.some.injEq] at hw
      subst hw
      simp only [key _ hb]
      cases want <;> rfl
    · cases hw

theorem wpListD_ok {P : Program} {T : Tab} (hT : TabOk P T) {F : Fence} (hF : Wd F) {n B N : Nat} (ops : Array Oper) {Q : Exit → Act → World → Prop} : ∀ (l : List Nat) (lo : List Oper) (a : Act) (w : World) (S : Nat → Prop) (L : List (Nat × Nat)) (s s' : Fr), l.map (ops[·]?) = lo.map some → runOps P T ops.toList lo s = some s' → RepF B N S L w a s →
    (∀ a' w' S' L', RepF B N S' L' w' a' s' → Later B S S' L L' w w' → Q .normal a' w') → wpOpsIn F n P ops Q l a w := by
  intro l
  induction l with
  | nil =>
    intro lo a w S L s s' hl h hr hQ
    cases lo with
    | nil =>
      simp only [runOps, Option.some.injEq] at h
      subst h
      exact hQ a w S L hr Later.refl
    | cons o r => cases hl
  | cons i rest ih =>
    intro lo a w S L s s' hl h hr hQ
    cases lo with
    | nil => cases hl
    | cons o r =>
      simp only [List.map_cons, List.cons.injEq] at hl
      obtain ⟨ho, hl⟩ := hl
      simp only [wpOpsIn, ho]
      simp only [runOps] at h
      cases h1 : oneD P T ops.toList o s.1 s.2 with
      | none => rw [h1] at h; cases h
      | some d =>
        rw [h1, Option.bind_some] at h
        have hwant : ∀ b, wantedD ops.toList o s.1 = some b → Region.wanted o (yielded ops a.tmps) = b := fun b hw => yielded_of hw fun j want t v _ _ hv => by
          obtain ⟨x, q1, q2⟩ := hr.tmps.get t _ hv
          simp only [Rep] at q2
          subst q2
          simpa using q1
        unfold oneD at h1
        split at h1
        · rename_i hw
          rw [hwant _ hw]
          simp only [if_true]
          obtain ⟨d, H'⟩ := d
          refine stepD_ok hT hF h1 (evalD_ok hr.tmps) hr.objs fun v w' S' L' h2 h3 h4 => ?_
          exact ih r _ _ S' L' _ _ hl h ⟨by rw [put_defers]; exact hr.defers.later h4, (h4.repA hr.tmps).put o.dst h2, h3⟩ fun a' w'' S'' L'' h5 h6 => hQ a' w'' S'' L'' h5 (h4.trans h6)
        · rename_i hw
          rw [hwant _ hw]
          simp only [Bool.false_eq_true, if_false]
          cases h1
          exact ⟨fun f _ => hF.fn f, ih r _ _ S L _ _ hl h ⟨by rw [put_defers]; exact hr.defers, hr.tmps.put o.dst (v := undef) (d := .v undef) (by simp only [Rep]), hr.objs⟩ hQ⟩
        · cases h1

theorem range_ops (ops : Array Oper) : (List.range ops.size).map (ops[·]?) = ops.toList.map some := by
  apply List.ext_getElem?
  intro i
  by_cases h : i < ops.size
  · simp [h]
  · simp [Nat.not_lt.1 h]
end Go.Proofs.Ytbnmkdlmalobaaa
end

section
namespace Go.Proofs.Ytbnmkdlmalobaaa
open Go.RowKit
set_option linter.unusedVariables false
set_option linter.unusedSimpArgs false

/-- The operands that an operation's yield hangs on. -/
def opReads : Op → List Operand
  | .move x | .assign x | .load _ x | .box _ x | .field _ x _ | .fieldAddr _ x _ | .unOp _ _ x | .convert _ _ x | .extract x _ | .makeInterface _ x | .nilCheck x | .typeAssert x _ _ _ => [x]
  | .pick c a b => [c, a, b]
  | .indexAddr _ a b | .binOp _ _ a b _ | .store _ a b | .index _ a b | .lookup _ a b _ | .makeSlice _ a b => [a, b]
  | .mapUpdate _ a b c | .insert _ a b c => [a, b, c]
  | .slice _ x lo hi _ => x :: (lo.toList ++ hi.toList)
  | .build _ ps | .buildSlice _ _ ps => ps.toList.map (·.2)
  | .makeFunc _ a b => a.toList ++ b.toList
  | .call c => c.operands.toList
  | _ => []
theorem opH_congr (P : Program) (op : Op) (ρ σ : Operand → D) (H : Heap) (h : ∀ x ∈ opReads op, ρ x = σ x) : opH P op ρ H = opH P op σ H := by
  have hp : ∀ ps : Array (Nat × Operand), (∀ x ∈ ps.toList.map (·.2), ρ x = σ x) → (ps.toList.map fun (i, x) => (i, ρ x)) = (ps.toList.map fun (i, x) => (i, σ x)) := by
    intro ps hh
    apply List.map_congr_left
    rintro ⟨i, x⟩ hx
    simp only
    rw [hh x (List.mem_map.2 ⟨_, hx, rfl⟩)]
  have hl : ∀ l : List Operand, (∀ x ∈ l, ρ x = σ x) → l.map ρ = l.map σ := fun l hh => List.map_congr_left hh
  cases op with
  | slice t x lo hi mx =>
    cases mx with
    | some m => rfl
    | none =>
      have hx := h x (by simp [opReads])
      have h1 : lo.map ρ = lo.map σ := by cases lo with
        | none => rfl
        | some y => simp [h y (by simp [opReads])]
      have h2 : hi.map ρ = hi.map σ := by cases hi with
        | none => rfl
        | some y => simp [h y (by simp [opReads])]
      simp only [opH, hx, h1, h2]
  | build t ps => simp only [opH, hp ps h]
  | buildSlice t n ps => simp only [opH, hp ps h]
  | binOp op t x y ty => simp only [opH, h x (by simp [opReads]), h y (by simp [opReads])]
  | unOp op t x =>
    have hx := h x (by simp [opReads])
    cases op <;> simp only [opH, hx]
  | call c =>
    obtain ⟨callee, args, ats⟩ := c
    cases callee with
    | builtin b =>
      have ha : ∀ x ∈ args.toList, ρ x = σ x := fun x hx => h x (by simpa [opReads, Call.operands] using hx)
      have hal := hl args.toList ha
      cases b with
      | len =>
        simp only [opH]
        split
        · rename_i x t r e1 e2
          rw [ha x (by simp [e1])]
        · rfl
      | append =>
        simp only [opH]
        split
        · rename_i x y t t' e1 e2
          rw [ha x (by simp [e1]), ha y (by simp [e1])]
        · rfl
      | copy =>
        simp only [opH]
        split
        · rename_i x y t r e1 e2
          rw [ha x (by simp [e1]), ha y (by simp [e1])]
        · rfl
      | clear =>
        simp only [opH]
        split
        · rename_i x t r e1 e2
          rw [ha x (by simp [e1])]
        · rfl
      | max => simp only [opH, hal]
      | min => simp only [opH, hal]
      | _ => rfl
    | _ => rfl
  | makeFunc f a b => simp only [opH, hl a.toList (fun x hx => h x (by simp [opReads]; exact .inl (by simpa using hx))), hl b.toList (fun x hx => h x (by simp [opReads]; exact .inr (by simpa using hx)))]
  | move x => simp only [opH, h x (by simp [opReads])]
  | assign x => simp only [opH, h x (by simp [opReads])]
  | load t x => simp only [opH, h x (by simp [opReads])]
  | box t x => simp only [opH, h x (by simp [opReads])]
  | store t x y => simp only [opH, h x (by simp [opReads]), h y (by simp [opReads])]
  | field t x f => simp only [opH, h x (by simp [opReads])]
  | fieldAddr t x f => simp only [opH, h x (by simp [opReads])]
  | convert s t x => simp only [opH, h x (by simp [opReads])]
  | extract x i => simp only [opH, h x (by simp [opReads])]
  | makeInterface t x => simp only [opH, h x (by simp [opReads])]
  | nilCheck x => simp only [opH, h x (by simp [opReads])]
  | pick c a b => simp only [opH, h c (by simp [opReads]), h a (by simp [opReads]), h b (by simp [opReads])]
  | indexAddr t a b => simp only [opH, h a (by simp [opReads]), h b (by simp [opReads])]
  | makeSlice t a b => simp only [opH, h a (by simp [opReads]), h b (by simp [opReads])]
  | index t a b => simp only [opH, h a (by simp [opReads]), h b (by simp [opReads])]
  | lookup t a b ok => simp only [opH, h a (by simp [opReads]), h b (by simp [opReads])]
  | mapUpdate t a b c => simp only [opH, h a (by simp [opReads]), h b (by simp [opReads]), h c (by simp [opReads])]
  | insert t a b c => simp only [opH, h a (by simp [opReads]), h b (by simp [opReads]), h c (by simp [opReads])]
  | typeAssert x t u ok => simp only [opH, h x (by simp [opReads])]
  | makeMap t r => cases r <;> rfl
  | _ => rfl
theorem stepD_congr (P : Program) (T : Tab) (op : Op) (ρ σ : Operand → D) (H : Heap) (h : ∀ x ∈ opReads op, ρ x = σ x) : stepD P T op ρ H = stepD P T op σ H := by
  unfold stepD
  split
  · rename_i f args ats
    rw [show args.toList.map ρ = args.toList.map σ from List.map_congr_left fun x hx => h x (by simp [opReads, Call.operands]; exact .inr (by simpa using hx))]
  · rename_i t args ats
    rw [h (.tmp t) (by simp [opReads, Call.operands]), show args.toList.map ρ = args.toList.map σ from List.map_congr_left fun x hx => h x (by simp [opReads, Call.operands]; exact .inr (by simpa using hx))]
  · rename_i r name args ats
    rw [h r (by simp [opReads, Call.operands]), show args.toList.map ρ = args.toList.map σ from List.map_congr_left fun x hx => h x (by simp [opReads, Call.operands]; exact .inr (by simpa using hx))]
  · exact opH_congr P op ρ σ H h

def tmpOf : Operand → Option Nat
  | .tmp t => some t
  | _ => none
/-- The slots that an operation reads, its guard's too. -/
def slotsRead (ops : List Oper) (o : Oper) : List Nat :=
  (opReads o.op).filterMap tmpOf ++ (match o.guard with | none => [] | some (j, _) => ((ops[j]?).bind (·.dst)).toList)
/-- Does an operation hang on the objects? -/
def hRead : Op → Bool
  | .load _ _ | .box _ _ | .alloc _ | .store _ _ _ | .buildSlice _ _ _ | .makeSlice _ _ _ | .convert _ _ _ | .makeMap _ _ | .mapUpdate _ _ _ _ | .insert _ _ _ _ | .lookup _ _ _ _ => true
  | .call { callee := .builtin .len, .. } | .call { callee := .builtin .max, .. } | .call { callee := .builtin .min, .. } => false
  | .call _ => true
  | _ => false
/-- May it change them? -/
def hWrite (T : Tab) : Op → Bool
  | .box _ _ | .alloc _ | .store _ _ _ | .buildSlice _ _ _ | .makeSlice _ _ _ | .makeMap _ _ | .mapUpdate _ _ _ _ | .insert _ _ _ _ => true
  | .call { callee := .value (.func f), .. } => !isCalm T f
  | .call { callee := .builtin .len, .. } | .call { callee := .builtin .max, .. } | .call { callee := .builtin .min, .. } => false
  | .call _ => true
  | _ => false
/-- Does it but make a new object? -/
def hAlloc : Op → Bool
  | .box _ _ | .alloc _ | .buildSlice _ _ _ | .makeSlice _ _ _ | .makeMap _ _ => true
  | _ => false
/-- Two operations that may not change places: x stands ahead. -/
def clash (T : Tab) (ops : List Oper) (x y : Oper) : Bool :=
  (match x.dst with | some t => (slotsRead ops y).contains t || y.dst == some t | none => false) ||
  (match y.dst with | some t => (slotsRead ops x).contains t | none => false) ||
  (hWrite T x.op && hRead y.op) || (hRead x.op && hWrite T y.op && (hWrite T x.op || !hAlloc y.op))
def ancOf (acc : List Nat) (o : Oper) : Nat :=
  o.after.toList.foldl (fun m e => if Region.binds .any e then m ||| (1 <<< e.on) ||| acc.getD e.on 0 else m) 0
def ancs : List Oper → List Nat → List Nat
  | [], acc => acc
  | o :: r, acc => ancs r (acc ++ [ancOf acc o])
/-- The order that is drawn makes no difference. -/
def drawOk (T : Tab) (ops : List Oper) : Bool :=
  (ops.zipIdx.all fun x => x.1.after.all fun e => e.on < x.2) &&
  (ops.zipIdx.all fun (y, j) => (ops.take j).zipIdx.all fun (x, i) => !clash T ops x y || ((ancs ops []).getD j 0).testBit i)

/-- Whatever an operation waits for has been carried out, if it has. -/
def Shut (ops : List Oper) (d : Nat → Bool) : Prop := ∀ i o, ops[i]? = some o → d i = true → ∀ e ∈ o.after, Region.binds .any e = true → d e.on = true

theorem ancs_ok (all : List Oper) (d : Nat → Bool) (hs : Shut all d) : ∀ (ops : List Oper) (acc : List Nat) (pre : List Oper), all = pre ++ ops → acc.length = pre.length →
    (∀ k m, acc[k]? = some m → ∀ j, m.testBit j = true → d k = true → d j = true) → ∀ k m, (ancs ops acc)[k]? = some m → ∀ j, m.testBit j = true → d k = true → d j = true := by
  intro ops
  induction ops with
  | nil => intro acc pre _ _ h; exact h
  | cons o r ih =>
    intro acc pre hall hlen h
    refine ih (acc ++ [ancOf acc o]) (pre ++ [o]) (by simp [hall]) (by simp [hlen]) fun k m hk j hj hd => ?_
    by_cases hlt : k < acc.length
    · rw [List.getElem?_append_left hlt] at hk
      exact h k m hk j hj hd
    · rw [List.getElem?_append_right (by omega)] at hk
      have hk0 : k = acc.length := by
        by_cases e : k - acc.length = 0
        · omega
        · obtain ⟨n, hn⟩ : ∃ n, k - acc.length = n + 1 := ⟨k - acc.length - 1, by omega⟩
          rw [hn] at hk; simp at hk
      subst hk0
      simp only [Nat.sub_self, List.getElem?_cons_zero, Option.some.injEq] at hk
      subst hk
      have ho : all[acc.length]? = some o := by rw [hall, hlen]; simp
      have hafter := hs _ o ho hd
      have key : ∀ (es : List Edge) (m : Nat), (∀ e ∈ es, Region.binds .any e = true → d e.on = true) → (m.testBit j = true → d j = true) →
          (es.foldl (fun m e => if Region.binds .any e then m ||| (1 <<< e.on) ||| acc.getD e.on 0 else m) m).testBit j = true → d j = true := by
        intro es
        induction es with
        | nil => intro m _ hm hq; exact hm hq
        | cons e t ihe =>
          intro m he hm hq
          rw [List.foldl_cons] at hq
          refine ihe _ (fun x hx => he x (by simp [hx])) ?_ hq
          intro hb
          split at hb
          · rename_i hbi
            have hde := he e (by simp) hbi
            simp only [Nat.testBit_or, Bool.or_eq_true] at hb
            rcases hb with (hb | hb) | hb
            · exact hm hb
            · rw [Nat.testBit_shiftLeft] at hb
              simp only [Bool.and_eq_true, decide_eq_true_eq] at hb
              have h1 : j - e.on = 0 := Nat.testBit_one_eq_true_iff_self_eq_zero.1 hb.2
              have : j = e.on := by omega
              rw [this]; exact hde
            · cases hg : acc[e.on]? with
              | none => rw [List.getD_eq_getElem?_getD, hg] at hb; simp at hb
              | some m' =>
                rw [List.getD_eq_getElem?_getD, hg] at hb
                exact h e.on m' hg j (by simpa using hb) hde
          · exact hm hb
      exact key o.after.toList 0 (fun e he => hafter e (by simpa using he)) (by simp) hj


theorem same_any {H : Heap} {o : Option D} {d : D} {H' : Heap} (h : same H o = some (d, H')) : H' = H ∧ ∀ H2, same H2 o = some (d, H2) := by
  unfold same at h ⊢
  cases o with
  | none => cases h
  | some e =>
    simp only [Option.map_some, Option.some.injEq, Prod.mk.injEq] at h
    exact ⟨h.2.symm, fun H2 => by simp [h.1]⟩
/-- What does not hang on the objects leaves them, whatever they are. -/
theorem opH_quiet {P : Program} {op : Op} {ρ : Operand → D} {H H' : Heap} {d : D} (hq : hRead op = false) (h : opH P op ρ H = some (d, H')) : H' = H ∧ ∀ H2, opH P op ρ H2 = some (d, H2) := by
  have bindS : ∀ {α : Type} {o : Option α} {f : α → Heap → Option (D × Heap)}, (∀ a H H' d, f a H = some (d, H') → H' = H ∧ ∀ H2, f a H2 = some (d, H2)) → (o.bind fun a => f a H) = some (d, H') → H' = H ∧ ∀ H2, (o.bind fun a => f a H2) = some (d, H2) := by
    intro α o f hf hb
    cases o with
    | none => cases hb
    | some a => exact hf a H H' d hb
  cases op with
  | load => simp [hRead] at hq
  | box => simp [hRead] at hq
  | alloc => simp [hRead] at hq
  | store => simp [hRead] at hq
  | buildSlice => simp [hRead] at hq
  | makeSlice => simp [hRead] at hq
  | convert => simp [hRead] at hq
  | makeMap => simp [hRead] at hq
  | mapUpdate => simp [hRead] at hq
  | insert => simp [hRead] at hq
  | lookup => simp [hRead] at hq
  | move x => simp only [opH, Option.some.injEq, Prod.mk.injEq] at h ⊢; exact ⟨h.2.symm, fun H2 => ⟨h.1, trivial⟩⟩
  | assign x => simp only [opH, Option.some.injEq, Prod.mk.injEq] at h ⊢; exact ⟨h.2.symm, fun H2 => ⟨h.1, trivial⟩⟩
  | pick c a b => simp only [opH] at h ⊢; exact same_any h
  | field t x f => simp only [opH] at h ⊢; exact bindS (f := fun (uo : TypeId × Nat) H => (shapeOf P uo.1).bind fun s => same H (fieldD s uo.2 (ρ x))) (fun a H H' d h => by
      cases hs : shapeOf P a.1 with
      | none => rw [hs] at h; cases h
      | some s => rw [hs] at h; simp only [Option.bind_some] at h ⊢; exact same_any h) h
  | fieldAddr t x f => simp only [opH] at h ⊢; exact bindS (f := fun (uo : TypeId × Nat) H => (P.info? uo.1).bind fun i => if i.size = 0 then none else same H (fieldAtH uo.2 (ρ x))) (fun a H H' d h => by
      cases hs : P.info? a.1 with
      | none => rw [hs] at h; cases h
      | some s =>
        rw [hs] at h
        simp only [Option.bind_some] at h ⊢
        split at h
        · cases h
        · rename_i hz
          simp only [if_neg hz]
          exact same_any h) h
  | indexAddr t x i => simp only [opH] at h ⊢; exact bindS (f := fun sz H => same H (idxH sz (ρ x) (ρ i))) (fun a H H' d h => same_any h) h
  | slice t x lo hi mx =>
    cases mx with
    | some m => cases h
    | none =>
      simp only [opH] at h ⊢
      split at h
      · exact same_any h
      · exact bindS (f := fun sz H => same H (cutH sz (ρ x) (lo.map ρ) (hi.map ρ))) (fun a H H' d h => same_any h) h
  | build t ps => simp only [opH] at h ⊢; exact same_any h
  | binOp op t x y ty => simp only [opH] at h ⊢; exact same_any h
  | unOp op t x => cases op <;> first | (cases h; done) | (simp only [opH] at h ⊢; exact same_any h)
  | index t x i =>
    simp only [opH] at h ⊢
    split at h
    · exact same_any h
    · cases h
  | typeAssert x t u ok =>
    simp only [opH] at h ⊢
    split at h
    · rename_i hc
      simp only [if_pos hc]
      exact bindS (f := fun z H => same H (assertD u z ok (ρ x))) (fun a H H' d h => same_any h) h
    · cases h
  | extract t i => simp only [opH] at h ⊢; exact same_any h
  | makeInterface t x =>
    simp only [opH] at h ⊢
    split at h
    · cases h
    · cases h
    · cases h
      exact ⟨rfl, fun H2 => rfl⟩
  | makeFunc f a b =>
    simp only [opH] at h ⊢
    cases h
    exact ⟨rfl, fun H2 => rfl⟩
  | nilCheck x =>
    simp only [opH] at h ⊢
    split at h
    · cases h; exact ⟨rfl, fun H2 => rfl⟩
    · cases h; exact ⟨rfl, fun H2 => rfl⟩
    · cases h
  | call c =>
    obtain ⟨callee, args, ats⟩ := c
    cases callee with
    | builtin b =>
      cases b with
      | len =>
        simp only [opH] at h ⊢
        split at h
        · exact same_any h
        · cases h
      | max => simp only [opH] at h ⊢; exact same_any h
      | min => simp only [opH] at h ⊢; exact same_any h
      | _ => simp [hRead] at hq
    | _ => simp [hRead] at hq
  | _ => cases h
theorem stepD_quiet {P : Program} {T : Tab} {op : Op} {ρ : Operand → D} {H H' : Heap} {d : D} (hq : hRead op = false) (h : stepD P T op ρ H = some (d, H')) : H' = H ∧ ∀ H2, stepD P T op ρ H2 = some (d, H2) := by
  have hop : ∀ H, stepD P T op ρ H = opH P op ρ H := by
    intro H
    unfold stepD
    split
    · simp [hRead] at hq
    · simp [hRead] at hq
    · simp [hRead] at hq
    · rfl
  rw [hop] at h
  have := opH_quiet hq h
  exact ⟨this.1, fun H2 => by rw [hop]; exact this.2 H2⟩
/-- What does not change the objects leaves them. -/
theorem stepD_calm {P : Program} {T : Tab} (hT : TabOk P T) {op : Op} {ρ : Operand → D} {H H' : Heap} {d : D} (hq : hWrite T op = false) (h : stepD P T op ρ H = some (d, H')) : H' = H := by
  by_cases hr : hRead op = false
  · exact (stepD_quiet hr h).1
  · unfold stepD at h
    split at h
    · rename_i f args ats
      obtain ⟨G, _, _, hc⟩ := look_ok hT h
      exact (hc (by simpa [hWrite] using hq)).1
    · simp [hWrite] at hq
    · simp [hWrite] at hq
    · cases op with
      | load t a =>
        simp only [opH] at h
        obtain ⟨s, _, h⟩ := Option.bind_eq_some_iff.1 h
        exact (same_any h).1
      | box => simp [hWrite] at hq
      | alloc => simp [hWrite] at hq
      | store => simp [hWrite] at hq
      | buildSlice => simp [hWrite] at hq
      | makeSlice => simp [hWrite] at hq
      | makeMap => simp [hWrite] at hq
      | mapUpdate => simp [hWrite] at hq
      | insert => simp [hWrite] at hq
      | convert s t x =>
        simp only [opH] at h
        split at h
        · exact (same_any h).1
        · split at h
          · exact (same_any h).1
          · cases h
        · exact (same_any h).1
        · cases h
      | lookup t m k ok =>
        simp only [opH] at h
        obtain ⟨e, _, h⟩ := Option.bind_eq_some_iff.1 h
        obtain ⟨z, _, h⟩ := Option.bind_eq_some_iff.1 h
        exact (same_any h).1
      | call c =>
        obtain ⟨callee, args, ats⟩ := c
        cases callee with
        | builtin b => cases b <;> first | (simp [hRead] at hr; done) | (simp [hWrite] at hq; done)
        | value f => cases f <;> first | (simp [hWrite] at hq; done) | (cases h; done)
        | invoke => simp [hWrite] at hq
      | _ => simp [hRead] at hr

/- What but reads reads the same where there is more. -/
theorem same_some {H H' : Heap} {o : Option D} {d : D} (h : same H o = some (d, H')) : o = some d := by
  unfold same at h
  cases o with
  | none => cases h
  | some e => simp only [Option.map_some, Option.some.injEq, Prod.mk.injEq] at h; rw [h.1]
theorem load_mono {s : Option Nat} {H t : Heap} {x d : D} (h : loadH s H x = some d) : loadH s (H ++ t) x = some d := by
  unfold loadH at h ⊢
  split at h
  · rename_i id off
    split at h
    · rename_i t' sz cs hid
      rw [getE_mono hid]; exact h
    · cases h
  · exact h
theorem src_mono {sz : Nat} {H t : Heap} {x : D} {cs : List D} (h : srcH sz H x = some cs) : srcH sz (H ++ t) x = some cs := by
  unfold srcH at h ⊢
  split at h
  · split at h
    · rename_i t' s cs' hid
      rw [getE_mono hid]; exact h
    · cases h
  · split at h
    · rename_i t' s cs' hid
      rw [getE_mono hid]; exact h
    · cases h
  · exact h
theorem mapOf_mono {H t : Heap} {x : D} {r : List Int × List D} (h : mapOf H x = some r) : mapOf (H ++ t) x = some r := by
  unfold mapOf at h ⊢
  split at h
  · split at h
    · rename_i ks vs hid
      rw [getE_mono hid]; exact h
    · cases h
  · exact h
  · exact h
  · cases h
theorem stepD_mono {P : Program} {T : Tab} (hT : TabOk P T) {op : Op} {ρ : Operand → D} {H H' : Heap} {d : D} (hq : hWrite T op = false) (h : stepD P T op ρ H = some (d, H')) (t : Heap) : stepD P T op ρ (H ++ t) = some (d, H ++ t) := by
  by_cases hr : hRead op = false
  · exact (stepD_quiet hr h).2 _
  · unfold stepD at h ⊢
    split at h
    · rename_i f args ats
      obtain ⟨G, _, _, hc⟩ := look_ok hT h
      exact (hc (by simpa [hWrite] using hq)).2 t
    · simp [hWrite] at hq
    · simp [hWrite] at hq
    · cases op with
      | load ty a =>
        simp only [opH] at h ⊢
        obtain ⟨s, hs, h⟩ := Option.bind_eq_some_iff.1 h
        have := load_mono (t := t) (same_some h)
        simp only [hs, Option.bind_some, same, this, Option.map_some]
      | box => simp [hWrite] at hq
      | alloc => simp [hWrite] at hq
      | store => simp [hWrite] at hq
      | buildSlice => simp [hWrite] at hq
      | makeSlice => simp [hWrite] at hq
      | makeMap => simp [hWrite] at hq
      | mapUpdate => simp [hWrite] at hq
      | insert => simp [hWrite] at hq
      | convert s ty x =>
        simp only [opH] at h ⊢
        split at h
        · rename_i h1 h2
          have := same_some h
          simp only [same, this, Option.map_some]
        · rename_i e h1 h2
          split at h
          · rename_i h3
            have hb := same_some h
            unfold bytesS at hb
            obtain ⟨cs, h4, h5⟩ := Option.bind_eq_some_iff.1 hb
            have : bytesS (H ++ t) (ρ x) = some d := by unfold bytesS; rw [src_mono h4]; exact h5
            simp only [same, this, Option.map_some]
          · cases h
        · have := same_some h
          simp only [same, this, Option.map_some]
        · cases h
      | lookup ty m k ok =>
        simp only [opH] at h ⊢
        obtain ⟨e, he, h⟩ := Option.bind_eq_some_iff.1 h
        obtain ⟨z, hz, h⟩ := Option.bind_eq_some_iff.1 h
        have hl := same_some h
        unfold lookH at hl
        obtain ⟨kv, h1, hl⟩ := Option.bind_eq_some_iff.1 hl
        have : lookH z ok (H ++ t) (ρ m) (ρ k) = some d := by unfold lookH; rw [mapOf_mono h1]; exact hl
        simp only [he, hz, Option.bind_some, same, this, Option.map_some]
      | call c =>
        obtain ⟨callee, args, ats⟩ := c
        cases callee with
        | builtin b => cases b <;> first | (simp [hRead] at hr; done) | (simp [hWrite] at hq; done)
        | value f => cases f <;> first | (simp [hWrite] at hq; done) | (cases h; done)
        | invoke => simp [hWrite] at hq
      | _ => simp [hRead] at hr
/-- What but makes an object puts it behind the others. -/
theorem stepD_alloc {P : Program} {T : Tab} {op : Op} {ρ : Operand → D} {H H' : Heap} {d : D} (hq : hAlloc op = true) (h : stepD P T op ρ H = some (d, H')) : ∃ t, H' = H ++ t := by
  have new : ∀ {ty : TypeId} {sz : Nat} {cs : List D} {f : Nat × Heap → D × Heap}, (∀ r, (f r).2 = r.2) → (newH ty sz cs H).map f = some (d, H') → ∃ t, H' = H ++ t := by
    intro ty sz cs f hf h
    unfold newH at h
    split at h
    · simp only [Option.map_some, Option.some.injEq] at h
      have := hf (H.length, H ++ [.cells ty sz cs])
      rw [h] at this
      exact ⟨_, this⟩
    · cases h
  cases op with
  | box t x =>
    simp only [stepD, opH, boxH] at h
    obtain ⟨cs, _, h⟩ := Option.bind_eq_some_iff.1 h
    exact new (fun _ => rfl) h
  | alloc t =>
    simp only [stepD, opH, allocH] at h
    obtain ⟨cs, _, h⟩ := Option.bind_eq_some_iff.1 h
    exact new (fun _ => rfl) h
  | buildSlice t n ps =>
    simp only [stepD, opH, rowH] at h
    obtain ⟨r, _, h⟩ := Option.bind_eq_some_iff.1 h
    obtain ⟨dr, _, h⟩ := Option.bind_eq_some_iff.1 h
    obtain ⟨els, _, h⟩ := Option.bind_eq_some_iff.1 h
    exact new (fun _ => rfl) h
  | makeSlice t n m =>
    simp only [stepD, opH, makeH] at h
    obtain ⟨z, _, h⟩ := Option.bind_eq_some_iff.1 h
    split at h
    · split at h
      · exact new (fun _ => rfl) h
      · cases h
    · cases h
  | makeMap t r =>
    cases r with
    | none =>
      simp only [stepD, opH] at h
      split at h
      · unfold newM at h
        simp only [Option.some.injEq, Prod.mk.injEq] at h
        exact ⟨_, h.2.symm⟩
      · cases h
    | some r => cases h
  | _ => simp [hAlloc] at hq
end Go.Proofs.Ytbnmkdlmalobaaa
end

section
namespace Go.Proofs.Ytbnmkdlmalobaaa
open Go.RowKit
set_option linter.unusedVariables false
set_option linter.unusedSimpArgs false

/-- The frame when k operations are over. -/
theorem runOps_take {P : Program} {T : Tab} {all : List Oper} : ∀ (ops : List Oper) (s s' : Fr), runOps P T all ops s = some s' → ∃ tr : Nat → Fr, tr 0 = s ∧ tr ops.length = s' ∧
    ∀ i o, ops[i]? = some o → ∃ d, oneD P T all o (tr i).1 (tr i).2 = some d ∧ tr (i + 1) = (putD (tr i).1 o.dst d.1, d.2)
  | [], s, s', h => by
    simp only [runOps, Option.some.injEq] at h
    exact ⟨fun _ => s, rfl, h, fun i o hi => by simp at hi⟩
  | o :: r, s, s', h => by
    simp only [runOps] at h
    cases h1 : oneD P T all o s.1 s.2 with
    | none => rw [h1] at h; cases h
    | some d =>
      rw [h1, Option.bind_some] at h
      obtain ⟨tr, t0, t1, t2⟩ := runOps_take r _ _ h
      refine ⟨fun k => match k with | 0 => s | k + 1 => tr k, rfl, t1, fun i x hi => ?_⟩
      cases i with
      | zero =>
        obtain rfl : o = x := by simpa using hi
        exact ⟨d, h1, t0⟩
      | succ i => exact t2 i x (by simpa using hi)

theorem putD_length (fr : List D) (dst : Option Tmp) (d : D) : (putD fr dst d).length = fr.length := by
  cases dst <;> simp [putD]
theorem putD_other (fr : List D) (dst : Option Tmp) (d : D) (s : Nat) (h : dst ≠ some s) : (putD fr dst d)[s]? = fr[s]? := by
  cases dst with
  | none => rfl
  | some t => simp only [putD]; rw [List.getElem?_set_ne (fun e => h (by rw [e]))]

section
variable {P : Program} {T : Tab} {all : List Oper} {tr : Nat → Fr}
theorem tr_length (ht : ∀ i o, all[i]? = some o → ∃ d, oneD P T all o (tr i).1 (tr i).2 = some d ∧ tr (i + 1) = (putD (tr i).1 o.dst d.1, d.2)) (k : Nat) (hk : k ≤ all.length) : (tr k).1.length = (tr 0).1.length := by
  induction k with
  | zero => rfl
  | succ k ih =>
    obtain ⟨d, _, h⟩ := ht k all[k] (List.getElem?_eq_getElem (by omega))
    rw [h]
    simp only
    rw [putD_length, ih (by omega)]
/-- A slot that nobody writes stays. -/
theorem tr_stays (ht : ∀ i o, all[i]? = some o → ∃ d, oneD P T all o (tr i).1 (tr i).2 = some d ∧ tr (i + 1) = (putD (tr i).1 o.dst d.1, d.2)) (s : Nat) (k m : Nat) (hkm : k ≤ m) (hm : m ≤ all.length)
    (h : ∀ j o, k ≤ j → j < m → all[j]? = some o → o.dst ≠ some s) : (tr m).1[s]? = (tr k).1[s]? := by
  induction m with
  | zero => rw [show k = 0 from by omega]
  | succ m ih =>
    by_cases he : k = m + 1
    · rw [he]
    · obtain ⟨d, _, h1⟩ := ht m all[m] (List.getElem?_eq_getElem (by omega))
      rw [h1]
      simp only
      rw [putD_other _ _ _ _ (h m _ (by omega) (by omega) (List.getElem?_eq_getElem (by omega)))]
      exact ih (by omega) (by omega) fun j o h1 h2 h3 => h j o h1 (by omega) h3
/-- So do the objects. -/
theorem tr_objs (hT : TabOk P T) (ht : ∀ i o, all[i]? = some o → ∃ d, oneD P T all o (tr i).1 (tr i).2 = some d ∧ tr (i + 1) = (putD (tr i).1 o.dst d.1, d.2)) (k m : Nat) (hkm : k ≤ m) (hm : m ≤ all.length)
    (h : ∀ j o, k ≤ j → j < m → all[j]? = some o → hWrite T o.op = false) : (tr m).2 = (tr k).2 := by
  induction m with
  | zero => rw [show k = 0 from by omega]
  | succ m ih =>
    by_cases he : k = m + 1
    · rw [he]
    · obtain ⟨d, h0, h1⟩ := ht m all[m] (List.getElem?_eq_getElem (by omega))
      rw [h1]
      simp only
      have hq := h m all[m] (by omega) (by omega) (List.getElem?_eq_getElem (by omega))
      have : d.2 = (tr m).2 := by
        unfold oneD at h0
        split at h0
        · exact stepD_calm hT hq (show stepD P T all[m].op (evalD (tr m).1) (tr m).2 = some (d.1, d.2) from h0)
        · cases h0; rfl
        · cases h0
      rw [this]
      exact ih (by omega) (by omega) fun j o h1 h2 h3 => h j o h1 (by omega) h3
end

/-- Each slot holds what it held when some operation had last written it, of those that have been carried out; so do the objects. -/
structure DrawInv (ds0 : List Deferred) (T : Tab) (ops : List Oper) (tr : Nat → Fr) (B : Nat) (S0 : Nat → Prop) (L0 : List (Nat × Nat)) (w0 : World) (d : Nat → Bool) (a : Act) (w : World) : Prop where
  defers : a.defers = ds0
  size : a.tmps.size = (tr 0).1.length
  shut : Shut ops d
  state : ∃ (S : Nat → Prop) (L : List (Nat × Nat)), Later B S0 S L0 L w0 w ∧
    (∃ k, k ≤ ops.length ∧ (k = 0 ∨ ∃ o, ops[k - 1]? = some o ∧ hWrite T o.op = true ∧ d (k - 1) = true ∧ 0 < k) ∧ (∀ j o, k ≤ j → ops[j]? = some o → hWrite T o.op = true → d j = false) ∧ HRel B S L w (tr k).2) ∧
    ∀ s, s < a.tmps.size → ∃ k, k ≤ ops.length ∧ (k = 0 ∨ ∃ o, ops[k - 1]? = some o ∧ o.dst = some s ∧ d (k - 1) = true ∧ 0 < k) ∧ (∀ j o, k ≤ j → ops[j]? = some o → o.dst = some s → d j = false) ∧
      Rep S L w (a.tmps.getD s undef) ((tr k).1.getD s .undef)

theorem stepsOk_of {F : Fence} {n : Nat} {P : Program} {ops : Array Oper} {Q : Exit → Act → World → Prop} {Inv : (Nat → Bool) → Act → World → Prop} : ∀ (l : List Oper) (k : Nat), (∀ j o, l[j]? = some o → StepOk F n P ops Q Inv (k + j) o) → stepsOk F n P ops Q Inv l k
  | [], k, h => trivial
  | o :: r, k, h => ⟨h 0 o rfl, stepsOk_of r (k + 1) fun j x hj => by
    have := h (j + 1) x (by simpa using hj)
    rwa [show k + (j + 1) = k + 1 + j from by omega] at this⟩

theorem put_getD (a : Act) (dst : Option Tmp) (v : Value) (s : Nat) (hs : s < a.tmps.size) : (a.put dst v).tmps.getD s undef = if dst = some s then v else a.tmps.getD s undef := by
  cases dst with
  | none => simp [Act.put]
  | some t =>
    simp only [Act.put, Option.some.injEq]
    rw [Array.getD_eq_getD_getElem?, Array.getElem?_setIfInBounds]
    by_cases he : t = s
    · subst he
      simp [hs]
    · simp [he]
theorem put_size (a : Act) (dst : Option Tmp) (v : Value) : (a.put dst v).tmps.size = a.tmps.size := by
  cases dst <;> simp [Act.put]
theorem HRel.drew {B : Nat} {S : Nat → Prop} {L : List (Nat × Nat)} {w : World} {H : Heap} (h : HRel B S L w H) : HRel B S L w.drew H ∧ Later B S S L L w w.drew := by
  have hl : Later B S S L L w w.drew := ⟨(Below.refl _ _).drew, kept_drew (Kept.refl _ _), fun _ h => h, List.prefix_refl _, fun _ h => .inl h, fun _ h => h⟩
  refine ⟨⟨h.len, h.small, h.base, fun id o hid ho => ?_, h.inj⟩, hl⟩
  obtain ⟨b, c, h1, h2, h3, h4⟩ := h.obj id o hid ho
  exact ⟨b, c, h1, h2, h3, h4.kept rfl (fun _ _ => hl.rep) (fun _ _ => hl.repA)⟩

set_option maxHeartbeats 1000000 in
theorem draw_ok {P : Program} {T : Tab} (hT : TabOk P T) (hm : P.follows .mixedOrders = true) {F : Fence} (hF : Wd F) {n id B N : Nat} {ops : Array Oper} {Q : Exit → Act → World → Prop} {a : Act} {w : World} {S : Nat → Prop} {L : List (Nat × Nat)} {fr fr' : Fr}
    (hd : drawOk T ops.toList = true) (h : runOps P T ops.toList ops.toList fr = some fr') (hr : RepF B N S L w a fr) (hQ : ∀ a' w' S' L', RepF B N S' L' w' a' fr' → Later B S S' L L' w w' → Q .normal a' w') : (Code.region id ops true).wpIn F n P Q a w := by
  simp only [drawOk, Bool.and_eq_true] at hd
  obtain ⟨hac, hcl⟩ := hd
  obtain ⟨tr, t0, tn, ht⟩ := runOps_take ops.toList fr fr' h
  have hlen : (tr 0).1.length = a.tmps.size := by rw [t0, ← hr.tmps.length, Array.length_toList]
  have hclash : ∀ i j x y, ops.toList[i]? = some x → ops.toList[j]? = some y → i < j → clash T ops.toList x y = true → ∀ d : Nat → Bool, Shut ops.toList d → d j = true → d i = true := by
    intro i j x y hi hj hij hc d hs hdj
    have h1 := List.all_eq_true.1 hcl (y, j) (by rw [List.mem_zipIdx_iff_getElem?]; simpa using hj)
    have h2 := List.all_eq_true.1 h1 (x, i) (by rw [List.mem_zipIdx_iff_getElem?]; simp [List.getElem?_take, hij]; simpa using hi)
    simp only [hc, Bool.not_true, Bool.false_or] at h2
    cases hg : (ancs ops.toList [])[j]? with
    | none => rw [List.getD_eq_getElem?_getD, hg] at h2; simp at h2
    | some m =>
      rw [List.getD_eq_getElem?_getD, hg] at h2
      exact ancs_ok ops.toList d hs ops.toList [] [] rfl rfl (by simp) j m hg i (by simpa using h2) hdj
  obtain ⟨hdr, hlr⟩ := hr.objs.drew
  refine region_inv hm (DrawInv a.defers T ops.toList tr B S L w) hac ?_ ?_ ?_
  · refine ⟨rfl, hlen.symm, fun i o _ h => by simp at h, S, L, hlr, ⟨0, Nat.zero_le _, .inl rfl, fun _ _ _ _ _ => rfl, by rw [t0]; exact hdr⟩, fun s hs => ⟨0, Nat.zero_le _, .inl rfl, fun _ _ _ _ _ => rfl, ?_⟩⟩
    have := (hlr.repA hr.tmps).getD s undef
    rw [t0]
    simpa using this
  · refine stepsOk_of _ 0 fun i o ho => ?_
    rw [Nat.zero_add]
    intro d a1 w1 K hdi haft hinv hK
    obtain ⟨dd, h1, h2⟩ := ht i o ho
    have hilen : i < ops.toList.length := (List.getElem?_eq_some_iff.1 ho).1
    obtain ⟨S1, L1, hlat, ⟨kh, hkh, hkh1, hkh2, hobj⟩, hslot⟩ := hinv.state
    have hshut' : Shut ops.toList (upd d i) := by
      intro i' o' ho' hd' e he hb
      by_cases hii : i' = i
      · subst hii
        rw [ho] at ho'
        cases ho'
        have := haft e he hb
        by_cases hei : e.on = i'
        · rw [hei, upd_self]
        · rw [upd_other d hei]; exact this
      · rw [upd_other d hii] at hd'
        have := hinv.shut i' o' ho' hd' e he hb
        by_cases hei : e.on = i
        · rw [hei, upd_self]
        · rw [upd_other d hei]; exact this
    -- nobody that clashes stands on the wrong side
    have before : ∀ j x, j < i → ops.toList[j]? = some x → clash T ops.toList x o = true → d j = true := by
      intro j x hj hx hc
      have := hclash j i x o hx ho hj hc (upd d i) hshut' (upd_self d i)
      rwa [upd_other d (by omega)] at this
    have behind : ∀ j x, i < j → ops.toList[j]? = some x → clash T ops.toList o x = true → d j = false := by
      intro j x hj hx hc
      cases hdj : d j with
      | false => rfl
      | true =>
        have := hclash i j o x ho hx hj hc d hinv.shut hdj
        rw [hdi] at this; cases this
    -- what is read
    have hread : ∀ s ∈ slotsRead ops.toList o, Rep S1 L1 w1 (a1.tmps.getD s undef) ((tr i).1.getD s .undef) := by
      intro s hs
      by_cases hss : s < a1.tmps.size
      · obtain ⟨k, hk, hk1, hk2, hk3⟩ := hslot s hss
        have heq : (tr i).1[s]? = (tr k).1[s]? := by
          by_cases hki : k ≤ i
          · refine tr_stays ht s k i hki (by omega) fun j x hj1 hj2 hx hxs => ?_
            have h3 := before j x hj2 hx (by simp [clash, hxs, hs])
            rw [hk2 j x hj1 hx hxs] at h3; cases h3
          · rcases hk1 with h0 | ⟨x, hx, hxs, hdx, hpos⟩
            · omega
            · exfalso
              have hne : k - 1 ≠ i := by intro e; rw [e] at hdx; rw [hdi] at hdx; cases hdx
              have := behind (k - 1) x (by omega) hx (by simp [clash, hxs, hs])
              rw [this] at hdx; cases hdx
        rw [List.getD_eq_getElem?_getD, heq, ← List.getD_eq_getElem?_getD]
        exact hk3
      · have : (tr i).1[s]? = none := by
          rw [List.getElem?_eq_none]
          have := tr_length ht i (by omega)
          have := hinv.size
          omega
        rw [List.getD_eq_getElem?_getD, this]
        simp only [Option.getD_none, Rep]
    -- what has been carried out of it, if it but reads: objects are made alone
    have hgrown : hRead o.op = true → hWrite T o.op = false → ∃ t, (tr kh).2 = (tr i).2 ++ t := by
      intro hrd hwo
      by_cases hki : kh ≤ i
      · refine ⟨[], ?_⟩
        rw [List.append_nil]
        refine (tr_objs hT ht kh i hki (by omega) fun j x hj1 hj2 hx => ?_).symm
        cases hwx : hWrite T x.op with
        | false => rfl
        | true =>
          have h3 := before j x hj2 hx (by simp [clash, hwx, hrd])
          rw [hkh2 j x hj1 hx hwx] at h3; cases h3
      · -- each write between was carried out, and so clashes not
        have hwr : ∀ j x, i < j → j < kh → ops.toList[j]? = some x → hWrite T x.op = true → hAlloc x.op = true := by
          intro j x hj1 hj2 hx hwx
          cases hal : hAlloc x.op with
          | true => rfl
          | false =>
            exfalso
            have hnd := behind j x hj1 hx (by simp [clash, hrd, hwx, hal])
            -- yet it was
            rcases hkh1 with h0 | ⟨y, hy, hwy, hdy, hpos⟩
            · omega
            · by_cases hjk : j = kh - 1
              · rw [hjk] at hnd; rw [hnd] at hdy; cases hdy
              · have := hclash j (kh - 1) x y hx hy (by omega) (by
                  have hry : hRead y.op = true := by
                    cases hq : hRead y.op with
                    | true => rfl
                    | false =>
                      exfalso
                      cases hyo : y.op with
                      | call c =>
                        rw [hyo] at hq hwy
                        obtain ⟨callee, args, ats⟩ := c
                        cases callee with
                        | builtin b => cases b <;> first | (simp [hRead] at hq; done) | (simp [hWrite] at hwy; done)
                        | value f => simp [hRead] at hq
                        | invoke => simp [hRead] at hq
                      | _ => rw [hyo] at hq hwy; first | (simp [hRead] at hq; done) | (simp [hWrite] at hwy; done)
                  simp [clash, hwx, hry]) d hinv.shut hdy
                rw [hnd] at this; cases this
        have hio : (tr (i + 1)).2 = (tr i).2 := by
          have := tr_objs hT ht i (i + 1) (by omega) (by omega) fun j x hj1 hj2 hx => by
            have : j = i := by omega
            subst this
            rw [ho] at hx; cases hx; exact hwo
          exact this
        have grow : ∀ m, i + 1 ≤ m → m ≤ kh → ∃ t, (tr m).2 = (tr i).2 ++ t := by
          intro m
          induction m with
          | zero => intro h; omega
          | succ m ih =>
            intro h1 h2
            by_cases he : m = i
            · subst he; exact ⟨[], by rw [hio, List.append_nil]⟩
            · obtain ⟨t, ht1⟩ := ih (by omega) (by omega)
              obtain ⟨dm, hm1, hm2⟩ := ht m ops.toList[m] (List.getElem?_eq_getElem (by omega))
              rw [hm2]
              simp only
              unfold oneD at hm1
              split at hm1
              · cases hwm : hWrite T ops.toList[m].op with
                | false =>
                  have := stepD_calm hT hwm (show stepD P T ops.toList[m].op (evalD (tr m).1) (tr m).2 = some (dm.1, dm.2) from hm1)
                  exact ⟨t, by rw [this, ht1]⟩
                | true =>
                  obtain ⟨t2, ht2⟩ := stepD_alloc (hwr m _ (by omega) (by omega) (List.getElem?_eq_getElem (by omega)) hwm) (show stepD P T ops.toList[m].op (evalD (tr m).1) (tr m).2 = some (dm.1, dm.2) from hm1)
                  exact ⟨t ++ t2, by rw [ht2, ht1, List.append_assoc]⟩
              · cases hm1; exact ⟨t, ht1⟩
              · cases hm1
        exact grow kh (by omega) (Nat.le_refl _)
    -- the objects, if it hangs on them
    have hobjs : hRead o.op = true → hWrite T o.op = true → (tr kh).2 = (tr i).2 := by
      intro hrd hwo
      by_cases hki : kh ≤ i
      · refine (tr_objs hT ht kh i hki (by omega) fun j x hj1 hj2 hx => ?_).symm
        cases hwx : hWrite T x.op with
        | false => rfl
        | true =>
          have h3 := before j x hj2 hx (by simp [clash, hwx, hrd])
          rw [hkh2 j x hj1 hx hwx] at h3; cases h3
      · rcases hkh1 with h0 | ⟨x, hx, hwx, hdx, hpos⟩
        · omega
        · exfalso
          have hne : kh - 1 ≠ i := by intro e; rw [e] at hdx; rw [hdi] at hdx; cases hdx
          have := behind (kh - 1) x (by omega) hx (by simp [clash, hwx, hrd, hwo])
          rw [this] at hdx; cases hdx
    have hwant : ∀ b, wantedD ops.toList o (tr i).1 = some b → Region.wanted o (yielded ops a1.tmps) = b := fun b hw => yielded_of hw fun j want t v hg hj hb => by
      have h3 := hread t (List.mem_append.2 (.inr (by simp only [hg, hj]; simp)))
      rw [List.getD_eq_getElem?_getD, hb] at h3
      simp only [Option.getD_some, Rep] at h3
      have hts : t < a1.tmps.size := by
        have h5 := (List.getElem?_eq_some_iff.1 hb).1
        exact Nat.lt_of_lt_of_eq h5 ((tr_length ht i (by omega)).trans hinv.size.symm)
      rw [Array.getD_eq_getD_getElem?, Array.getElem?_eq_getElem hts] at h3
      simp only [Option.getD_some] at h3
      rw [Array.getElem?_eq_getElem hts, h3]
    -- what comes behind
    have hnext : ∀ v w' S' L', Rep S' L' w' v dd.1 → Later B S1 S' L1 L' w1 w' →
        ((hWrite T o.op = true ∧ HRel B S' L' w' dd.2) ∨ (hWrite T o.op = false ∧ HRel B S' L' w' (tr kh).2)) → K (a1.put o.dst v) w' := by
      intro v w' S' L' hv hl hob
      refine hK _ _ ⟨by rw [put_defers]; exact hinv.defers, by rw [put_size]; exact hinv.size, hshut', S', L', hlat.trans hl, ?_, fun s hs => ?_⟩
      · rcases hob with ⟨hw, hob⟩ | ⟨hw, hob⟩
        · refine ⟨i + 1, by omega, .inr ⟨o, by simpa using ho, hw, by simp [upd_self], by omega⟩, fun j x hj hx hwx => ?_, by rw [h2]; exact hob⟩
          rw [upd_other d (by omega)]
          have hrx : hRead o.op = true ∨ True := .inr trivial
          refine behind j x (by omega) hx ?_
          have hrd : hRead x.op = true := by
            cases hq : hRead x.op with
            | true => rfl
            | false =>
              exfalso
              cases hxo : x.op with
              | call c =>
                rw [hxo] at hq hwx
                obtain ⟨callee, args, ats⟩ := c
                cases callee with
                | builtin b => cases b <;> first | (simp [hRead] at hq; done) | (simp [hWrite] at hwx; done)
                | value f => simp [hRead] at hq
                | invoke => simp [hRead] at hq
              | _ => rw [hxo] at hq hwx; first | (simp [hRead] at hq; done) | (simp [hWrite] at hwx; done)
          simp [clash, hw, hrd]
        · refine ⟨kh, hkh, ?_, fun j x hj hx hwx => ?_, hob⟩
          · rcases hkh1 with h0 | ⟨x, hx, hxs, hdx, hpos⟩
            · exact .inl h0
            · exact .inr ⟨x, hx, hxs, by by_cases e : kh - 1 = i; (rw [e, upd_self]); (rw [upd_other d e]; exact hdx), hpos⟩
          · by_cases e : j = i
            · subst e
              rw [ho] at hx; cases hx
              rw [hw] at hwx; cases hwx
            · rw [upd_other d e]; exact hkh2 j x hj hx hwx
      · rw [put_size] at hs
        rw [put_getD _ _ _ _ hs]
        by_cases hds : o.dst = some s
        · rw [if_pos hds]
          refine ⟨i + 1, by omega, .inr ⟨o, by simpa using ho, hds, by simp [upd_self], by omega⟩, fun j x hj hx hxs => ?_, ?_⟩
          · rw [upd_other d (by omega)]
            exact behind j x (by omega) hx (by simp [clash, hds, hxs])
          · rw [h2, hds]
            simp only [putD]
            have hsl : s < (tr i).1.length := by
              have := tr_length ht i (by omega)
              have := hinv.size
              omega
            rw [List.getD_eq_getElem?_getD, List.getElem?_set_self hsl]
            exact hv
        · rw [if_neg hds]
          obtain ⟨k, hk, hk1, hk2, hk3⟩ := hslot s hs
          refine ⟨k, hk, ?_, fun j x hj hx hxs => ?_, hl.rep hk3⟩
          · rcases hk1 with h0 | ⟨x, hx, hxs, hdx, hpos⟩
            · exact .inl h0
            · exact .inr ⟨x, hx, hxs, by by_cases e : k - 1 = i; (rw [e, upd_self]); (rw [upd_other d e]; exact hdx), hpos⟩
          · by_cases e : j = i
            · subst e
              rw [ho] at hx; cases hx
              exact absurd hxs hds
            · rw [upd_other d e]; exact hk2 j x hj hx hxs
    unfold oneD at h1
    split at h1
    · rename_i hw
      rw [hwant _ hw]
      simp only [if_true]
      let ρ : Operand → D := fun x => match x with
        | .tmp t => if t ∈ slotsRead ops.toList o then (tr i).1.getD t .undef else .undef
        | x => evalD (tr i).1 x
      have hρc : stepD P T o.op ρ (tr i).2 = some (dd.1, dd.2) := by
        rw [← show stepD P T o.op (evalD (tr i).1) (tr i).2 = some (dd.1, dd.2) from h1]
        refine stepD_congr P T o.op _ _ _ fun x hx => ?_
        cases x with
        | tmp t =>
          have : t ∈ slotsRead ops.toList o := by
            simp only [slotsRead, List.mem_append, List.mem_filterMap]
            exact .inl ⟨_, hx, rfl⟩
          simp only [ρ, if_pos this, evalD]
        | _ => rfl
      have hρr : ∀ x, Rep S1 L1 w1 (a1.eval x) (ρ x) := by
        intro x
        cases x with
        | tmp t =>
          simp only [ρ, Act.eval]
          split
          · rename_i hm
            exact hread t hm
          · simp only [Rep]
        | func f =>
          simp only [ρ, evalD, Rep, RepA]
          exact ⟨[], [], rfl, rfl, rfl⟩
        | _ => simp only [ρ, evalD, Rep]; rfl
      cases hrd : hRead o.op with
      | false =>
        obtain ⟨_, hall⟩ := stepD_quiet hrd hρc
        have hwr : hWrite T o.op = false := by
          cases hxo : o.op with
          | call c =>
            rw [hxo] at hrd
            obtain ⟨callee, args, ats⟩ := c
            cases callee with
            | builtin b => cases b <;> first | (simp [hRead] at hrd; done) | rfl
            | value f => simp [hRead] at hrd
            | invoke => simp [hRead] at hrd
          | _ => rw [hxo] at hrd; first | rfl | (simp [hRead] at hrd; done)
        exact stepD_ok hT hF (hall (tr kh).2) hρr hobj fun v w' S' L' q1 q2 q3 => hnext v w' S' L' q1 q3 (.inr ⟨hwr, q2⟩)
      | true =>
        cases hwr : hWrite T o.op with
        | true =>
          have hob' : HRel B S1 L1 w1 (tr i).2 := by rw [← hobjs hrd hwr]; exact hobj
          exact stepD_ok hT hF hρc hρr hob' fun v w' S' L' q1 q2 q3 => hnext v w' S' L' q1 q3 (.inl ⟨hwr, q2⟩)
        | false =>
          obtain ⟨t, htt⟩ := hgrown hrd hwr
          have hcalm := stepD_calm hT hwr hρc
          have hmono := stepD_mono hT hwr hρc t
          rw [← htt] at hmono
          exact stepD_ok hT hF hmono hρr hobj fun v w' S' L' q1 q2 q3 => hnext v w' S' L' q1 q3 (.inr ⟨hwr, q2⟩)
    · rename_i hw
      rw [hwant _ hw]
      simp only [Bool.false_eq_true, if_false]
      cases h1
      refine ⟨fun f _ => hF.fn f, ?_⟩
      have hput : ∀ (b : Bool), hWrite T o.op = b → K (a1.put o.dst undef) w1 := by
        intro b hb
        cases b with
        | false => exact hnext _ _ S1 L1 (by simp only [Rep]) Later.refl (.inr ⟨hb, hobj⟩)
        | true =>
          refine hnext _ _ S1 L1 (by simp only [Rep]) Later.refl (.inl ⟨hb, ?_⟩)
          have hrd : hRead o.op = true := by
            cases hq : hRead o.op with
            | true => rfl
            | false =>
              exfalso
              cases hxo : o.op with
              | call c =>
                rw [hxo] at hq hb
                obtain ⟨callee, args, ats⟩ := c
                cases callee with
                | builtin b => cases b <;> first | (simp [hRead] at hq; done) | (simp [hWrite] at hb; done)
                | value f => simp [hRead] at hq
                | invoke => simp [hRead] at hq
              | _ => rw [hxo] at hq hb; first | (simp [hRead] at hq; done) | (simp [hWrite] at hb; done)
          rw [← hobjs hrd hb]; exact hobj
      exact hput _ rfl
    · cases h1
  · intro d a1 w1 hall hinv
    obtain ⟨S1, L1, hlat, ⟨kh, hkh, hkh1, hkh2, hobj⟩, hslot⟩ := hinv.state
    have hsz := hinv.size
    have hfl : fr'.1.length = a1.tmps.size := by rw [← tn, tr_length ht _ (Nat.le_refl _), hsz]
    have hobj' : HRel B S1 L1 w1 fr'.2 := by
      have : (tr ops.toList.length).2 = (tr kh).2 := by
        refine tr_objs hT ht kh _ hkh (Nat.le_refl _) fun j x hj1 hj2 hx => ?_
        cases hwx : hWrite T x.op with
        | false => rfl
        | true =>
          have h1 := hkh2 j x hj1 hx hwx
          rw [hall j (by simpa using hj2)] at h1; cases h1
      rw [← tn, this]; exact hobj
    refine hQ _ _ S1 L1 ⟨by rw [hinv.defers]; exact hr.defers.later hlat, ?_, hobj'⟩ hlat
    have key : ∀ s, s < a1.tmps.size → Rep S1 L1 w1 (a1.tmps.getD s undef) (fr'.1.getD s .undef) := by
      intro s hs
      obtain ⟨k, hk, hk1, hk2, hk3⟩ := hslot s hs
      have heq : (tr ops.toList.length).1[s]? = (tr k).1[s]? := by
        refine tr_stays ht s k _ hk (Nat.le_refl _) fun j x hj1 hj2 hx hxs => ?_
        have h1 := hk2 j x hj1 hx hxs
        rw [hall j (by simpa using hj2)] at h1; cases h1
      rw [← tn, List.getD_eq_getElem?_getD, heq, ← List.getD_eq_getElem?_getD]
      exact hk3
    have build : ∀ (xs : List Value) (ds : List D), xs.length = ds.length → (∀ s, s < xs.length → Rep S1 L1 w1 (xs.getD s undef) (ds.getD s .undef)) → RepA S1 L1 w1 xs ds := by
      intro xs
      induction xs with
      | nil => intro ds hl _; cases ds with
        | nil => exact RepA.nil
        | cons => simp at hl
      | cons x r ih =>
        intro ds hl hh
        cases ds with
        | nil => simp at hl
        | cons e t => exact RepA.cons (by simpa using hh 0 (by simp)) (ih t (by simpa using hl) fun s hs => by simpa using hh (s + 1) (by simpa using hs))
    refine build _ _ (by rw [Array.length_toList, hfl]) fun s hs => ?_
    have := key s (by simpa using hs)
    simpa using this
end Go.Proofs.Ytbnmkdlmalobaaa
end
