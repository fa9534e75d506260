/-
  The program's code, run over values without addresses; what comes of it, comes of the program. Nothing here names the program.
-/
import Derived.Test.YtnmgfobpcengkaaDenOk
import Derived.Test.YtnmgfobpcengkaaRegion
import Derived.LoopNIn
namespace Go.Proofs.Ytnmgfobpcengkaa
open Go.RowKit
set_option linter.unusedVariables false
set_option linter.unusedSimpArgs false

/-- What is known of functions: what each gives for what. -/
abbrev Tab := List (FuncId × (List D → Option D))
def look : Tab → FuncId → List D → Option D
  | [], _, _ => none
  | (g, F) :: r, f, ds => if f = g then F ds else look r f ds

/-- A function gives what is said. -/
structure CallOk (P : Program) (f : FuncId) (F : List D → Option D) : Prop where
  body : ∃ fn, P.funcs[f]? = some fn ∧ fn.name ≠ "runtime.NumGoroutine" ∧ fn.body.isSome = true
  calls : ∀ ds d, F ds = some d → ∀ (vs : List Value) (w : World), RepA (· < w.heap.size) w vs ds → Calls P f vs.toArray w fun e w' => ∃ v, e = .returned v ∧ RepAt w' v d ∧ Below w.heap.size w w'
def TabOk (P : Program) (T : Tab) : Prop := ∀ p ∈ T, CallOk P p.1 p.2

theorem look_ok {P : Program} {T : Tab} (h : TabOk P T) {f : FuncId} {ds : List D} {d : D} (hl : look T f ds = some d) : ∃ F, CallOk P f F ∧ F ds = some d := by
  induction T with
  | nil => cases hl
  | cons p r ih =>
    obtain ⟨g, F⟩ := p
    simp only [look] at hl
    split at hl
    · rename_i he
      subst he
      exact ⟨F, h (f, F) (by simp), hl⟩
    · exact ih (fun q hq => h q (by simp [hq])) hl

def evalD (fr : List D) : Operand → D
  | .tmp t => fr.getD t .undef
  | .const v => .v v
  | .global g => .v (.pointer (some ⟨g, 0, none⟩))
  | .func f => .v (.func (.func f) #[] #[])
def putD (fr : List D) (dst : Option Tmp) (d : D) : List D :=
  match dst with
  | some t => fr.set t d
  | none => fr
/-- What an operation yields, be it a call or not. -/
def stepD (P : Program) (T : Tab) (op : Op) (ρ : Operand → D) : Option D :=
  match op with
  | .call { callee := .value (.func f), args, .. } => look T f (args.toList.map ρ)
  | op => opD P op ρ
/-- Is it to be carried out? -/
def wantedD (ops : List Oper) (o : Oper) (fr : List D) : Option Bool :=
  match o.guard with
  | none => some true
  | some (j, want) =>
    match ((ops[j]?).bind (·.dst)).bind (fr[·]?) with
    | some (.v (.bool b)) => some (b == want)
    | some (.v (.tuple _)) => some false
    | _ => none
def oneD (P : Program) (T : Tab) (ops : List Oper) (o : Oper) (fr : List D) : Option D :=
  match wantedD ops o fr with
  | some true => stepD P T o.op (evalD fr)
  | some false => some (.v undef)
  | none => none
def runOps (P : Program) (T : Tab) (ops : List Oper) : List Oper → List D → Option (List D)
  | [], fr => some fr
  | o :: r, fr => (oneD P T ops o fr).bind fun d => runOps P T ops r (putD fr o.dst d)

/-- A frame reads as values without addresses. -/
structure RepF (w : World) (a : Act) (fr : List D) : Prop where
  defers : a.defers = []
  tmps : RepA (· < w.heap.size) w a.tmps.toList fr

theorem RepF.below {w w' : World} {a : Act} {fr : List D} (h : RepF w a fr) (hb : Below w.heap.size w w') : RepF w' a fr := ⟨h.defers, h.tmps.below hb⟩
theorem RepF.put {w : World} {a : Act} {fr : List D} (h : RepF w a fr) (dst : Option Tmp) {v : Value} {d : D} (hv : RepAt w v d) : RepF w (a.put dst v) (putD fr dst d) := by
  cases dst with
  | none => exact h
  | some t =>
    refine ⟨h.defers, ?_⟩
    simp only [Act.put, putD, Array.toList_setIfInBounds]
    exact h.tmps.set t hv
theorem RepA.getD {S : Nat → Prop} {w : World} {xs : List Value} {ds : List D} (h : RepA S w xs ds) (t : Nat) (u : Value) : Rep S w (xs.getD t u) (ds.getD t .undef) := by
  cases hd : ds[t]? with
  | none => rw [List.getD_eq_getElem?_getD, List.getD_eq_getElem?_getD, hd]; simp only [Option.getD_none, Rep]
  | some d =>
    obtain ⟨x, h1, h2⟩ := h.get t d hd
    rw [List.getD_eq_getElem?_getD, List.getD_eq_getElem?_getD, hd, h1]
    exact h2
theorem evalD_ok {S : Nat → Prop} {w : World} {a : Act} {fr : List D} (h : RepA S w a.tmps.toList fr) (x : Operand) : Rep S w (a.eval x) (evalD fr x) := by
  cases x with
  | tmp t =>
    have := h.getD t undef
    simpa [Act.eval, evalD] using this
  | _ => simp only [evalD, Rep]; rfl

theorem callsIn_reg {P : Program} {f : FuncId} {F : List D → Option D} (h : CallOk P f F) {ds : List D} {d : D} (hF : F ds = some d) {vs : List Value} {w : World} (hv : RepA (· < w.heap.size) w vs ds) (n : Nat) :
    CallsIn Fence.wide n P f vs.toArray w fun e w' => ∃ v, e = .returned v ∧ RepAt w' v d ∧ Below w.heap.size w w' := callsIn_wide.2 (h.calls ds d hF vs w hv)

theorem semAt_wide (o : Oper) (ρ : Operand → Value) : Oper.semAt Fence.wide.round ρ o = execOp ρ o := rfl

/-- One operation, carried out. -/
theorem stepD_ok {P : Program} {T : Tab} (hT : TabOk P T) {n : Nat} {o : Oper} {d : D} {a : Act} {w : World} {ρ : Operand → D} {K : Act → World → Prop} {Q : Exit → Act → World → Prop} (h : stepD P T o.op ρ = some d)
    (hρ : ∀ x, RepAt w (a.eval x) (ρ x)) (hK : ∀ v w', RepAt w' v d → Below w.heap.size w w' → K (a.put o.dst v) w') : o.wpIn Fence.wide n P a w K Q := by
  refine ⟨fun _ _ => trivial, ?_⟩
  rw [semAt_wide]
  unfold stepD at h
  split at h
  · rename_i f args ats heq
    obtain ⟨F, hF, hd⟩ := look_ok hT h
    obtain ⟨fn, h1, h2, h3⟩ := hF.body
    have hrun : (execOp a.eval o).run P w = .ok (.enter f (args.toList.map a.eval).toArray) w := by
      obtain ⟨dst, op, type, pos, after, guard⟩ := o
      simp only at heq
      subst heq
      have hb : fn.body ≠ none := by intro e; rw [e] at h3; cases h3
      simp [execOp, resolve, Act.eval, Deferred.ofValue, invoke, callFunc, run_program, h1, h2, hb]
      apply Array.ext'
      simp
    rw [hrun]
    refine ⟨(fun e => by cases e), ?_⟩
    refine (callsIn_reg hF hd (RepA.ops hρ args.toList) _).mono ?_
    rintro e w' ⟨v, rfl, h4, h5⟩
    exact hK v w' h4 h5
  · obtain ⟨x, w', h1, h2, h3⟩ := opD_ok h hρ
    rw [h1]
    exact hK x w' h2 h3

theorem wantedD_ok {w : World} {a : Act} {fr : List D} {ops : Array Oper} {o : Oper} {b : Bool} {S : Nat → Prop} (h : RepA S w a.tmps.toList fr) (hw : wantedD ops.toList o fr = some b) : Region.wanted o (yielded ops a.tmps) = b := by
  unfold wantedD at hw
  unfold Region.wanted
  split at hw
  · rename_i hg
    rw [hg]; simpa using hw
  · rename_i j want hg
    rw [hg]
    split at hw
    · rename_i b' hb
      simp only [Option.some.injEq] at hw
      subst hw
      cases hj : (ops.toList[j]?).bind (·.dst) with
      | none => rw [hj] at hb; cases hb
      | some t =>
        rw [hj, Option.bind_some] at hb
        obtain ⟨x, h1, h2⟩ := h.get t _ hb
        simp only [Rep] at h2
        subst h2
        have hj' : (ops[j]?).bind (·.dst) = some t := by rw [← Array.getElem?_toList]; exact hj
        have : yielded ops a.tmps j = some b' := by
          unfold yielded
          rw [hj', Option.bind_some, ← Array.getElem?_toList, h1]
        simp only [this]
        cases b' <;> cases want <;> rfl
    · rename_i b' hb
      simp only [Option.some.injEq] at hw
      subst hw
      cases hj : (ops.toList[j]?).bind (·.dst) with
      | none => rw [hj] at hb; cases hb
      | some t =>
        rw [hj, Option.bind_some] at hb
        obtain ⟨x, h1, h2⟩ := h.get t _ hb
        simp only [Rep] at h2
        subst h2
        have hj' : (ops[j]?).bind (·.dst) = some t := by rw [← Array.getElem?_toList]; exact hj
        have : yielded ops a.tmps j = none := by
          unfold yielded
          rw [hj', Option.bind_some, ← Array.getElem?_toList, h1]
        simp only [this]
        cases want <;> rfl
    · cases hw

theorem wpListD_ok {P : Program} {T : Tab} (hT : TabOk P T) {n : Nat} (ops : Array Oper) {Q : Exit → Act → World → Prop} : ∀ (l : List Nat) (lo : List Oper) (a : Act) (w : World) (fr fr' : List D), l.map (ops[·]?) = lo.map some → runOps P T ops.toList lo fr = some fr' → RepF w a fr →
    (∀ a' w', RepF w' a' fr' → Below w.heap.size w w' → Q .normal a' w') → wpOpsIn Fence.wide n P ops Q l a w := by
  intro l
  induction l with
  | nil =>
    intro lo a w fr fr' hl h hr hQ
    cases lo with
    | nil =>
      simp only [runOps, Option.some.injEq] at h
      subst h
      exact hQ a w hr (Below.refl _ _)
    | cons o r => cases hl
  | cons i rest ih =>
    intro lo a w fr fr' hl h hr hQ
    cases lo with
    | nil => cases hl
    | cons o r =>
      simp only [List.map_cons, List.cons.injEq] at hl
      obtain ⟨ho, hl⟩ := hl
      simp only [wpOpsIn, ho]
      simp only [runOps] at h
      cases h1 : oneD P T ops.toList o fr with
      | none => rw [h1] at h; cases h
      | some d =>
        rw [h1, Option.bind_some] at h
        unfold oneD at h1
        split at h1
        · rename_i hw
          rw [wantedD_ok hr.tmps hw]
          simp only [if_true]
          refine stepD_ok hT h1 (evalD_ok hr.tmps) fun v w' h2 h3 => ?_
          exact ih r _ _ _ _ hl h ((hr.below h3).put o.dst h2) fun a' w'' h4 h5 => hQ a' w'' h4 (h3.trans (h5.mono h3.size))
        · rename_i hw
          rw [wantedD_ok hr.tmps hw]
          simp only [Bool.false_eq_true, if_false]
          cases h1
          exact ⟨fun _ _ => trivial, ih r _ _ _ _ hl h (hr.put o.dst (v := undef) (d := .v undef) (by simp only [RepAt, Rep])) hQ⟩
        · cases h1

theorem range_ops (ops : Array Oper) : (List.range ops.size).map (ops[·]?) = ops.toList.map some := by
  apply List.ext_getElem?
  intro i
  by_cases h : i < ops.size
  · simp [h]
  · simp [Nat.not_lt.1 h]

/- Regions that draw their order. -/
/-- The operands that an operation's yield hangs on. -/
def opReads : Op → List Operand
  | .move x | .assign x | .load _ x | .box _ x | .field _ x _ | .fieldAddr _ x _ | .unOp _ _ x | .convert _ _ x | .extract x _ => [x]
  | .pick c a b => [c, a, b]
  | .indexAddr _ a b | .binOp _ _ a b _ => [a, b]
  | .slice _ x lo hi _ => x :: (lo.toList ++ hi.toList)
  | .build _ ps | .buildSlice _ _ ps => ps.toList.map (·.2)
  | .call c => c.args.toList
  | _ => []
theorem opD_congr (P : Program) (op : Op) (ρ σ : Operand → D) (h : ∀ x ∈ opReads op, ρ x = σ x) : opD P op ρ = opD P op σ := by
  have hp : ∀ ps : Array (Nat × Operand), (∀ x ∈ ps.toList.map (·.2), ρ x = σ x) → (ps.toList.map fun (i, x) => (i, ρ x)) = (ps.toList.map fun (i, x) => (i, σ x)) := by
    intro ps hh
    apply List.map_congr_left
    rintro ⟨i, x⟩ hx
    simp only
    rw [hh x (List.mem_map.2 ⟨_, hx, rfl⟩)]
  have hl : ∀ l : List Operand, (∀ x ∈ l, ρ x = σ x) → l.map ρ = l.map σ := fun l hh => List.map_congr_left hh
  cases op with
  | slice t x lo hi mx =>
    cases mx with
    | some m => rfl
    | none =>
      have hx := h x (by simp [opReads])
      have h1 : lo.map ρ = lo.map σ := by cases lo with
        | none => rfl
        | some y => simp [h y (by simp [opReads])]
      have h2 : hi.map ρ = hi.map σ := by cases hi with
        | none => rfl
        | some y => simp [h y (by simp [opReads])]
      simp only [opD, hx, h1, h2]
  | build t ps => simp only [opD, hp ps h]
  | buildSlice t n ps => simp only [opD, hp ps h]
  | binOp op t x y ty =>
    have hx := h x (by simp [opReads])
    have hy := h y (by simp [opReads])
    cases op <;> simp only [opD, hx, hy]
  | unOp op t x =>
    have hx := h x (by simp [opReads])
    cases op <;> simp only [opD, hx]
  | call c =>
    obtain ⟨callee, args, ats⟩ := c
    have ha := hl args.toList h
    cases callee with
    | builtin b =>
      cases b with
      | len =>
        simp only [opD]
        split
        · rename_i x t r e1 e2
          rw [h x (by simp [opReads, e1])]
        · rfl
      | max => simp only [opD, ha]
      | min => simp only [opD, ha]
      | _ => rfl
    | _ => rfl
  | move x => simp only [opD, h x (by simp [opReads])]
  | assign x => simp only [opD, h x (by simp [opReads])]
  | load t x => simp only [opD, h x (by simp [opReads])]
  | box t x => simp only [opD, h x (by simp [opReads])]
  | field t x f => simp only [opD, h x (by simp [opReads])]
  | fieldAddr t x f => simp only [opD, h x (by simp [opReads])]
  | convert s t x => simp only [opD, h x (by simp [opReads])]
  | extract x i => simp only [opD, h x (by simp [opReads])]
  | pick c a b => simp only [opD, h c (by simp [opReads]), h a (by simp [opReads]), h b (by simp [opReads])]
  | indexAddr t a b => simp only [opD, h a (by simp [opReads]), h b (by simp [opReads])]
  | _ => rfl
theorem stepD_congr (P : Program) (T : Tab) (op : Op) (ρ σ : Operand → D) (h : ∀ x ∈ opReads op, ρ x = σ x) : stepD P T op ρ = stepD P T op σ := by
  unfold stepD
  split
  · rename_i f args ats
    rw [show args.toList.map ρ = args.toList.map σ from List.map_congr_left h]
  · exact opD_congr P op ρ σ h

def tmpOf : Operand → Option Nat
  | .tmp t => some t
  | _ => none
/-- The slots that an operation reads, its guard's too. -/
def slotsRead (ops : List Oper) (o : Oper) : List Nat :=
  (opReads o.op).filterMap tmpOf ++ (match o.guard with | none => [] | some (j, _) => ((ops[j]?).bind (·.dst)).toList)
/-- Two operations that may not change places. -/
def clash (ops : List Oper) (x y : Oper) : Bool :=
  (match x.dst with | some t => (slotsRead ops y).contains t || y.dst == some t | none => false) ||
  (match y.dst with | some t => (slotsRead ops x).contains t | none => false)
def ancOf (acc : List Nat) (o : Oper) : Nat :=
  o.after.toList.foldl (fun m e => if Region.binds .any e then m ||| (1 <<< e.on) ||| acc.getD e.on 0 else m) 0
def ancs : List Oper → List Nat → List Nat
  | [], acc => acc
  | o :: r, acc => ancs r (acc ++ [ancOf acc o])
/-- The order that is drawn makes no difference. -/
def drawOk (ops : List Oper) : Bool :=
  (ops.zipIdx.all fun x => x.1.after.all fun e => e.on < x.2) &&
  (ops.zipIdx.all fun (y, j) => (ops.take j).zipIdx.all fun (x, i) => !clash ops x y || ((ancs ops []).getD j 0).testBit i)

/-- Whatever an operation waits for has been carried out, if it has. -/
def Shut (ops : List Oper) (d : Nat → Bool) : Prop := ∀ i o, ops[i]? = some o → d i = true → ∀ e ∈ o.after, Region.binds .any e = true → d e.on = true

theorem ancs_ok (all : List Oper) (d : Nat → Bool) (hs : Shut all d) : ∀ (ops : List Oper) (acc : List Nat) (pre : List Oper), all = pre ++ ops → acc.length = pre.length →
    (∀ k m, acc[k]? = some m → ∀ j, m.testBit j = true → d k = true → d j = true) → ∀ k m, (ancs ops acc)[k]? = some m → ∀ j, m.testBit j = true → d k = true → d j = true := by
  intro ops
  induction ops with
  | nil => intro acc pre _ _ h; exact h
  | cons o r ih =>
    intro acc pre hall hlen h
    refine ih (acc ++ [ancOf acc o]) (pre ++ [o]) (by simp [hall]) (by simp [hlen]) fun k m hk j hj hd => ?_
    by_cases hlt : k < acc.length
    · rw [List.getElem?_append_left hlt] at hk
      exact h k m hk j hj hd
    · rw [List.getElem?_append_right (by omega)] at hk
      have hk0 : k = acc.length := by
        by_cases e : k - acc.length = 0
        · omega
        · obtain ⟨n, hn⟩ : ∃ n, k - acc.length = n + 1 := ⟨k - acc.length - 1, by omega⟩
          rw [hn] at hk; simp at hk
      subst hk0
      simp only [Nat.sub_self, List.getElem?_cons_zero, Option.some.injEq] at hk
      subst hk
      have ho : all[acc.length]? = some o := by rw [hall, hlen]; simp
      have hafter := hs _ o ho hd
      have key : ∀ (es : List Edge) (m : Nat), (∀ e ∈ es, Region.binds .any e = true → d e.on = true) → (m.testBit j = true → d j = true) →
          (es.foldl (fun m e => if Region.binds .any e then m ||| (1 <<< e.on) ||| acc.getD e.on 0 else m) m).testBit j = true → d j = true := by
        intro es
        induction es with
        | nil => intro m _ hm hq; exact hm hq
        | cons e t ihe =>
          intro m he hm hq
          rw [List.foldl_cons] at hq
          refine ihe _ (fun x hx => he x (by simp [hx])) ?_ hq
          intro hb
          split at hb
          · rename_i hbi
            have hde := he e (by simp) hbi
            simp only [Nat.testBit_or, Bool.or_eq_true] at hb
            rcases hb with (hb | hb) | hb
            · exact hm hb
            · rw [Nat.testBit_shiftLeft] at hb
              simp only [Bool.and_eq_true, decide_eq_true_eq] at hb
              have h1 : j - e.on = 0 := Nat.testBit_one_eq_true_iff_self_eq_zero.1 hb.2
              have : j = e.on := by omega
              rw [this]; exact hde
            · cases hg : acc[e.on]? with
              | none => rw [List.getD_eq_getElem?_getD, hg] at hb; simp at hb
              | some m' =>
                rw [List.getD_eq_getElem?_getD, hg] at hb
                exact h e.on m' hg j (by simpa using hb) hde
          · exact hm hb
      exact key o.after.toList 0 (fun e he => hafter e (by simpa using he)) (by simp) hj

/-- The frame when k operations are over. -/
theorem runOps_take {P : Program} {T : Tab} {all : List Oper} : ∀ (ops : List Oper) (fr fr' : List D), runOps P T all ops fr = some fr' → ∃ tr : Nat → List D, tr 0 = fr ∧ tr ops.length = fr' ∧
    ∀ i o, ops[i]? = some o → ∃ d, oneD P T all o (tr i) = some d ∧ tr (i + 1) = putD (tr i) o.dst d
  | [], fr, fr', h => by
    simp only [runOps, Option.some.injEq] at h
    exact ⟨fun _ => fr, rfl, h, fun i o hi => by simp at hi⟩
  | o :: r, fr, fr', h => by
    simp only [runOps] at h
    cases h1 : oneD P T all o fr with
    | none => rw [h1] at h; cases h
    | some d =>
      rw [h1, Option.bind_some] at h
      obtain ⟨tr, t0, t1, t2⟩ := runOps_take r _ _ h
      refine ⟨fun k => match k with | 0 => fr | k + 1 => tr k, rfl, t1, fun i x hi => ?_⟩
      cases i with
      | zero =>
        obtain rfl : o = x := by simpa using hi
        exact ⟨d, h1, t0⟩
      | succ i => exact t2 i x (by simpa using hi)

theorem putD_length (fr : List D) (dst : Option Tmp) (d : D) : (putD fr dst d).length = fr.length := by
  cases dst <;> simp [putD]
theorem putD_other (fr : List D) (dst : Option Tmp) (d : D) (s : Nat) (h : dst ≠ some s) : (putD fr dst d)[s]? = fr[s]? := by
  cases dst with
  | none => rfl
  | some t => simp only [putD]; rw [List.getElem?_set_ne (fun e => h (by rw [e]))]

section
variable {P : Program} {T : Tab} {all : List Oper} {tr : Nat → List D}
theorem tr_length (ht : ∀ i o, all[i]? = some o → ∃ d, oneD P T all o (tr i) = some d ∧ tr (i + 1) = putD (tr i) o.dst d) (k : Nat) (hk : k ≤ all.length) : (tr k).length = (tr 0).length := by
  induction k with
  | zero => rfl
  | succ k ih =>
    obtain ⟨d, _, h⟩ := ht k all[k] (List.getElem?_eq_getElem (by omega))
    rw [h, putD_length, ih (by omega)]
/-- A slot that nobody writes stays. -/
theorem tr_stays (ht : ∀ i o, all[i]? = some o → ∃ d, oneD P T all o (tr i) = some d ∧ tr (i + 1) = putD (tr i) o.dst d) (s : Nat) (k m : Nat) (hkm : k ≤ m) (hm : m ≤ all.length)
    (h : ∀ j o, k ≤ j → j < m → all[j]? = some o → o.dst ≠ some s) : (tr m)[s]? = (tr k)[s]? := by
  induction m with
  | zero => rw [show k = 0 from by omega]
  | succ m ih =>
    by_cases he : k = m + 1
    · rw [he]
    · obtain ⟨d, _, h1⟩ := ht m all[m] (List.getElem?_eq_getElem (by omega))
      rw [h1, putD_other _ _ _ _ (h m _ (by omega) (by omega) (List.getElem?_eq_getElem (by omega)))]
      exact ih (by omega) (by omega) fun j o h1 h2 h3 => h j o h1 (by omega) h3
end

/-- Each slot holds what it held when some operation had last written it, of those that have been carried out. -/
structure DrawInv (ops : List Oper) (tr : Nat → List D) (w0 : World) (d : Nat → Bool) (a : Act) (w : World) : Prop where
  defers : a.defers = []
  size : a.tmps.size = (tr 0).length
  shut : Shut ops d
  below : Below w0.heap.size w0 w
  slot : ∀ s, s < a.tmps.size → ∃ k, k ≤ ops.length ∧ (k = 0 ∨ ∃ o, ops[k - 1]? = some o ∧ o.dst = some s ∧ d (k - 1) = true ∧ 0 < k) ∧ (∀ j o, k ≤ j → ops[j]? = some o → o.dst = some s → d j = false) ∧
    RepAt w (a.tmps.getD s undef) ((tr k).getD s .undef)

theorem stepsOk_of {F : Fence} {n : Nat} {P : Program} {ops : Array Oper} {Q : Exit → Act → World → Prop} {Inv : (Nat → Bool) → Act → World → Prop} : ∀ (l : List Oper) (k : Nat), (∀ j o, l[j]? = some o → StepOk F n P ops Q Inv (k + j) o) → stepsOk F n P ops Q Inv l k
  | [], k, h => trivial
  | o :: r, k, h => ⟨h 0 o rfl, stepsOk_of r (k + 1) fun j x hj => by
    have := h (j + 1) x (by simpa using hj)
    rwa [show k + (j + 1) = k + 1 + j from by omega] at this⟩

theorem put_getD (a : Act) (dst : Option Tmp) (v : Value) (s : Nat) (hs : s < a.tmps.size) : (a.put dst v).tmps.getD s undef = if dst = some s then v else a.tmps.getD s undef := by
  cases dst with
  | none => simp [Act.put]
  | some t =>
    simp only [Act.put, Option.some.injEq]
    rw [Array.getD_eq_getD_getElem?, Array.getElem?_setIfInBounds]
    by_cases he : t = s
    · subst he
      simp [hs]
    · simp [he]
theorem put_size (a : Act) (dst : Option Tmp) (v : Value) : (a.put dst v).tmps.size = a.tmps.size := by
  cases dst <;> simp [Act.put]
theorem put_defers (a : Act) (dst : Option Tmp) (v : Value) : (a.put dst v).defers = a.defers := by
  cases dst <;> rfl

theorem draw_ok {P : Program} {T : Tab} (hT : TabOk P T) (hm : P.follows .mixedOrders = true) {n id : Nat} {ops : Array Oper} {Q : Exit → Act → World → Prop} {a : Act} {w : World} {fr fr' : List D}
    (hd : drawOk ops.toList = true) (h : runOps P T ops.toList ops.toList fr = some fr') (hr : RepF w a fr) (hQ : ∀ a' w', RepF w' a' fr' → Below w.heap.size w w' → Q .normal a' w') : (Code.region id ops true).wpIn Fence.wide n P Q a w := by
  simp only [drawOk, Bool.and_eq_true] at hd
  obtain ⟨hac, hcl⟩ := hd
  obtain ⟨tr, t0, tn, ht⟩ := runOps_take ops.toList fr fr' h
  have hlen : (tr 0).length = a.tmps.size := by rw [t0, ← hr.tmps.length, Array.length_toList]
  have hclash : ∀ i j x y, ops.toList[i]? = some x → ops.toList[j]? = some y → i < j → clash ops.toList x y = true → ∀ d : Nat → Bool, Shut ops.toList d → d j = true → d i = true := by
    intro i j x y hi hj hij hc d hs hdj
    have h1 := List.all_eq_true.1 hcl (y, j) (by rw [List.mem_zipIdx_iff_getElem?]; simpa using hj)
    have h2 := List.all_eq_true.1 h1 (x, i) (by rw [List.mem_zipIdx_iff_getElem?]; simp [List.getElem?_take, hij]; simpa using hi)
    simp only [hc, Bool.not_true, Bool.false_or] at h2
    cases hg : (ancs ops.toList [])[j]? with
    | none => rw [List.getD_eq_getElem?_getD, hg] at h2; simp at h2
    | some m =>
      rw [List.getD_eq_getElem?_getD, hg] at h2
      exact ancs_ok ops.toList d hs ops.toList [] [] rfl rfl (by simp) j m hg i (by simpa using h2) hdj
  refine region_inv hm (DrawInv ops.toList tr w) hac ?_ ?_ ?_
  · refine ⟨hr.defers, hlen.symm, fun i o _ h => by simp at h, (Below.refl _ _).drew, fun s hs => ⟨0, Nat.zero_le _, .inl rfl, fun _ _ _ _ _ => rfl, ?_⟩⟩
    have := (hr.tmps.below (Below.refl w.heap.size w).drew).getD s undef
    rw [t0]
    have h2 : Rep (· < w.heap.size) w.drew (a.tmps.getD s undef) (fr.getD s .undef) := by simpa using this
    exact h2
  · refine stepsOk_of _ 0 fun i o ho => ?_
    rw [Nat.zero_add]
    intro d a1 w1 K hdi haft hinv hK
    obtain ⟨dd, h1, h2⟩ := ht i o ho
    have hilen : i < ops.toList.length := (List.getElem?_eq_some_iff.1 ho).1
    -- what is read
    have hread : ∀ s ∈ slotsRead ops.toList o, RepAt w1 (a1.tmps.getD s undef) ((tr i).getD s .undef) := by
      intro s hs
      by_cases hss : s < a1.tmps.size
      · obtain ⟨k, hk, hk1, hk2, hk3⟩ := hinv.slot s hss
        have heq : (tr i)[s]? = (tr k)[s]? := by
          by_cases hki : k ≤ i
          · refine tr_stays ht s k i hki (by omega) fun j x hj1 hj2 hx hxs => ?_
            have hdj := hclash j i x o hx ho hj2 (by simp [clash, hxs, hs])
            -- j has been carried out: o may not come ahead of it
            have := hk2 j x hj1 hx hxs
            have hshut' : Shut ops.toList (upd d i) := by
              intro i' o' ho' hd' e he hb
              by_cases hii : i' = i
              · subst hii
                rw [ho] at ho'
                cases ho'
                have := haft e he hb
                by_cases hei : e.on = i'
                · rw [hei, upd_self]
                · rw [upd_other d hei]; exact this
              · rw [upd_other d hii] at hd'
                have := hinv.shut i' o' ho' hd' e he hb
                by_cases hei : e.on = i
                · rw [hei, upd_self]
                · rw [upd_other d hei]; exact this
            have h3 := hdj (upd d i) hshut' (upd_self d i)
            rw [upd_other d (by omega)] at h3
            rw [this] at h3; cases h3
          · rcases hk1 with h0 | ⟨x, hx, hxs, hdx, hpos⟩
            · omega
            · exfalso
              have hne : k - 1 ≠ i := by intro e; rw [e] at hdx; rw [hdi] at hdx; cases hdx
              have := hclash i (k - 1) o x ho hx (by omega) (by simp [clash, hxs, hs]) d hinv.shut hdx
              rw [hdi] at this; cases this
        rw [List.getD_eq_getElem?_getD, heq, ← List.getD_eq_getElem?_getD]
        exact hk3
      · have : (tr i)[s]? = none := by
          rw [List.getElem?_eq_none]
          have := tr_length ht i (by omega)
          have := hinv.size
          omega
        rw [List.getD_eq_getElem?_getD, this]
        simp only [Option.getD_none, RepAt, Rep]
    have hwant : ∀ b, wantedD ops.toList o (tr i) = some b → Region.wanted o (yielded ops a1.tmps) = b := by
      intro b hw
      unfold wantedD at hw
      unfold Region.wanted
      split at hw
      · rename_i hg
        rw [hg]; simpa using hw
      · rename_i j want hg
        rw [hg]
        split at hw
        · rename_i b' hb
          simp only [Option.some.injEq] at hw
          subst hw
          cases hj : (ops.toList[j]?).bind (·.dst) with
          | none => rw [hj] at hb; cases hb
          | some t =>
            rw [hj, Option.bind_some] at hb
            have h3 := hread t (List.mem_append.2 (.inr (by simp only [hg, hj]; simp)))
            rw [List.getD_eq_getElem?_getD, hb] at h3
            simp only [Option.getD_some, RepAt, Rep] at h3
            have hts : t < a1.tmps.size := by
              have h5 := (List.getElem?_eq_some_iff.1 hb).1
              exact Nat.lt_of_lt_of_eq h5 ((tr_length ht i (by omega)).trans hinv.size.symm)
            have hj' : (ops[j]?).bind (·.dst) = some t := by rw [← Array.getElem?_toList]; exact hj
            have : yielded ops a1.tmps j = some b' := by
              unfold yielded
              rw [Array.getD_eq_getD_getElem?, Array.getElem?_eq_getElem hts] at h3
              simp only [Option.getD_some] at h3
              rw [hj', Option.bind_some, Array.getElem?_eq_getElem hts, h3]
            simp only [this]
            cases b' <;> cases want <;> rfl
        · rename_i b' hb
          simp only [Option.some.injEq] at hw
          subst hw
          cases hj : (ops.toList[j]?).bind (·.dst) with
          | none => rw [hj] at hb; cases hb
          | some t =>
            rw [hj, Option.bind_some] at hb
            have h3 := hread t (List.mem_append.2 (.inr (by simp only [hg, hj]; simp)))
            rw [List.getD_eq_getElem?_getD, hb] at h3
            simp only [Option.getD_some, RepAt, Rep] at h3
            have hts : t < a1.tmps.size := by
              have h5 := (List.getElem?_eq_some_iff.1 hb).1
              exact Nat.lt_of_lt_of_eq h5 ((tr_length ht i (by omega)).trans hinv.size.symm)
            have hj' : (ops[j]?).bind (·.dst) = some t := by rw [← Array.getElem?_toList]; exact hj
            have : yielded ops a1.tmps j = none := by
              unfold yielded
              rw [Array.getD_eq_getD_getElem?, Array.getElem?_eq_getElem hts] at h3
              simp only [Option.getD_some] at h3
              rw [hj', Option.bind_some, Array.getElem?_eq_getElem hts, h3]
            simp only [this]
            cases want <;> rfl
        · cases hw
    have hnext : ∀ v w', RepAt w' v dd → Below w1.heap.size w1 w' → K (a1.put o.dst v) w' := by
      intro v w' hv hb
      refine hK _ _ ⟨by rw [put_defers]; exact hinv.defers, by rw [put_size]; exact hinv.size, ?_, hinv.below.trans (hb.mono hinv.below.size), fun s hs => ?_⟩
      · intro i' o' ho' hd' e he hbi
        by_cases hii : i' = i
        · subst hii
          rw [ho] at ho'
          cases ho'
          have := haft e he hbi
          by_cases hei : e.on = i'
          · rw [hei, upd_self]
          · rw [upd_other d hei]; exact this
        · rw [upd_other d hii] at hd'
          have := hinv.shut i' o' ho' hd' e he hbi
          by_cases hei : e.on = i
          · rw [hei, upd_self]
          · rw [upd_other d hei]; exact this
      · rw [put_size] at hs
        rw [put_getD _ _ _ _ hs]
        by_cases hds : o.dst = some s
        · rw [if_pos hds]
          refine ⟨i + 1, by omega, .inr ⟨o, by simpa using ho, hds, by simp [upd_self], by omega⟩, fun j x hj hx hxs => ?_, ?_⟩
          · rw [upd_other d (by omega)]
            cases hdj : d j with
            | false => rfl
            | true =>
              have := hclash i j o x ho hx (by omega) (by simp [clash, hds, hxs]) d hinv.shut hdj
              rw [hdi] at this; cases this
          · rw [h2, hds]
            simp only [putD]
            have hsl : s < (tr i).length := by
              have := tr_length ht i (by omega)
              have := hinv.size
              omega
            rw [List.getD_eq_getElem?_getD, List.getElem?_set_self hsl]
            exact hv
        · rw [if_neg hds]
          obtain ⟨k, hk, hk1, hk2, hk3⟩ := hinv.slot s hs
          refine ⟨k, hk, ?_, fun j x hj hx hxs => ?_, hk3.below hb⟩
          · rcases hk1 with h0 | ⟨x, hx, hxs, hdx, hpos⟩
            · exact .inl h0
            · exact .inr ⟨x, hx, hxs, by by_cases e : k - 1 = i; (rw [e, upd_self]); (rw [upd_other d e]; exact hdx), hpos⟩
          · by_cases e : j = i
            · subst e
              rw [ho] at hx; cases hx
              exact absurd hxs hds
            · rw [upd_other d e]; exact hk2 j x hj hx hxs
    unfold oneD at h1
    split at h1
    · rename_i hw
      rw [hwant _ hw]
      simp only [if_true]
      let ρ : Operand → D := fun x => match x with
        | .tmp t => if t ∈ slotsRead ops.toList o then (tr i).getD t .undef else .undef
        | x => evalD (tr i) x
      have hρc : stepD P T o.op ρ = some dd := by
        rw [← h1]
        refine stepD_congr P T o.op _ _ fun x hx => ?_
        cases x with
        | tmp t =>
          have : t ∈ slotsRead ops.toList o := by
            simp only [slotsRead, List.mem_append, List.mem_filterMap]
            exact .inl ⟨_, hx, rfl⟩
          simp only [ρ, if_pos this, evalD]
        | _ => rfl
      refine stepD_ok hT hρc (fun x => ?_) hnext
      cases x with
      | tmp t =>
        simp only [ρ, Act.eval]
        split
        · rename_i hm
          exact hread t hm
        · simp only [RepAt, Rep]
      | _ => simp only [ρ, evalD, RepAt, Rep]; rfl
    · rename_i hw
      rw [hwant _ hw]
      simp only [Bool.false_eq_true, if_false]
      cases h1
      exact ⟨fun _ _ => trivial, hnext _ _ (by simp only [RepAt, Rep]) (Below.refl _ _)⟩
    · cases h1
  · intro d a1 w1 hall hinv
    refine hQ _ _ ⟨hinv.defers, ?_⟩ hinv.below
    have hsz := hinv.size
    have hfl : fr'.length = a1.tmps.size := by rw [← tn, tr_length ht _ (Nat.le_refl _), hsz]
    have key : ∀ s, s < a1.tmps.size → RepAt w1 (a1.tmps.getD s undef) (fr'.getD s .undef) := by
      intro s hs
      obtain ⟨k, hk, hk1, hk2, hk3⟩ := hinv.slot s hs
      have heq : (tr ops.toList.length)[s]? = (tr k)[s]? := by
        refine tr_stays ht s k _ hk (Nat.le_refl _) fun j x hj1 hj2 hx hxs => ?_
        have h1 := hk2 j x hj1 hx hxs
        rw [hall j (by simpa using hj2)] at h1; cases h1
      rw [← tn, List.getD_eq_getElem?_getD, heq, ← List.getD_eq_getElem?_getD]
      exact hk3
    have build : ∀ (xs : List Value) (ds : List D), xs.length = ds.length → (∀ s, s < xs.length → RepAt w1 (xs.getD s undef) (ds.getD s .undef)) → RepA (· < w1.heap.size) w1 xs ds := by
      intro xs
      induction xs with
      | nil => intro ds hl _; cases ds with
        | nil => exact RepA.nil
        | cons => simp at hl
      | cons x r ih =>
        intro ds hl hh
        cases ds with
        | nil => simp at hl
        | cons e t => exact RepA.cons (by simpa using hh 0 (by simp)) (ih t (by simpa using hl) fun s hs => by simpa using hh (s + 1) (by simpa using hs))
    refine build _ _ (by rw [Array.length_toList, hfl]) fun s hs => ?_
    have := key s (by simpa using hs)
    simpa using this
end Go.Proofs.Ytnmgfobpcengkaa
