/-
  Whole bodies of code over values without addresses; what a function gives. Nothing here names the program.
-/
import Derived.Test.YtnmgfobpcengkaaDenRun
namespace Go.Proofs.Ytnmgfobpcengkaa
open Go.RowKit
set_option linter.unusedVariables false
set_option linter.unusedSimpArgs false

/-- How code is left. -/
inductive Lv where
  | normal
  | exit (id : Nat)
  | ret
  deriving DecidableEq
def Lv.toExit : Lv → Exit
  | .normal => .normal
  | .exit id => .exit id
  | .ret => .ret

def iterD (body : List D → Option (Lv × List D)) : Nat → List D → Option (Lv × List D)
  | 0, _ => none
  | n + 1, fr =>
    match body fr with
    | some (.normal, fr') => iterD body n fr'
    | r => r
def thenD (r : Option (Lv × List D)) (k : List D → Option (Lv × List D)) : Option (Lv × List D) :=
  match r with
  | some (.normal, fr) => k fr
  | r => r
def condD (c : D) (x y : Option (Lv × List D)) : Option (Lv × List D) :=
  match c with
  | .v (.bool true) => x
  | .v (.bool false) => y
  | _ => none
def blockD (id : Nat) (r : Option (Lv × List D)) : Option (Lv × List D) :=
  match r with
  | some (.exit j, fr) => some (if j = id then .normal else .exit j, fr)
  | r => r
def regD (P : Program) (T : Tab) (ops : List Oper) (draw : Bool) (fr : List D) : Option (Lv × List D) :=
  if !draw || drawOk ops then (runOps P T ops ops fr).map fun fr' => (.normal, fr') else none

/-- Code, run; each loop no more than n rounds. -/
def runC (P : Program) (T : Tab) (n : Nat) : Code → List D → Option (Lv × List D)
  | .skip, fr | .label _, fr => some (.normal, fr)
  | .region _ ops draw, fr => regD P T ops.toList draw fr
  | .seq x y, fr => thenD (runC P T n x fr) (runC P T n y)
  | .cond c x y, fr => condD (evalD fr c) (runC P T n x fr) (runC P T n y fr)
  | .block id c, fr => blockD id (runC P T n c fr)
  | .loop c, fr => iterD (runC P T n c) n fr
  | .exit id, fr => some (.exit id, fr)
  | .ret, fr => some (.ret, fr)
  | _, _ => none

theorem runOps_length {P : Program} {T : Tab} {all : List Oper} : ∀ (ops : List Oper) (fr fr' : List D), runOps P T all ops fr = some fr' → fr'.length = fr.length
  | [], fr, fr', h => by simp only [runOps, Option.some.injEq] at h; rw [h]
  | o :: r, fr, fr', h => by
    simp only [runOps] at h
    cases h1 : oneD P T all o fr with
    | none => rw [h1] at h; cases h
    | some d =>
      rw [h1, Option.bind_some] at h
      rw [runOps_length r _ _ h, putD_length]
theorem iterD_length {body : List D → Option (Lv × List D)} (hb : ∀ fr lv fr', body fr = some (lv, fr') → fr'.length = fr.length) : ∀ (n : Nat) (fr : List D) (lv : Lv) (fr' : List D), iterD body n fr = some (lv, fr') → fr'.length = fr.length
  | 0, fr, lv, fr', h => by cases h
  | n + 1, fr, lv, fr', h => by
    simp only [iterD] at h
    cases hx : body fr with
    | none => rw [hx] at h; cases h
    | some p =>
      obtain ⟨l1, f1⟩ := p
      rw [hx] at h
      have h1 := hb _ _ _ hx
      cases l1 with
      | normal => rw [iterD_length hb n f1 lv fr' h, h1]
      | exit j => cases h; exact h1
      | ret => cases h; exact h1
theorem runC_length {P : Program} {T : Tab} {n : Nat} (c : Code) : ∀ {fr fr' : List D} {lv : Lv}, runC P T n c fr = some (lv, fr') → fr'.length = fr.length := by
  induction c with
  | skip => intro fr fr' lv h; cases h; rfl
  | label l => intro fr fr' lv h; cases h; rfl
  | exit id => intro fr fr' lv h; cases h; rfl
  | ret => intro fr fr' lv h; cases h; rfl
  | region id ops draw =>
    intro fr fr' lv h
    simp only [runC, regD] at h
    split at h
    · cases ho : runOps P T ops.toList ops.toList fr with
      | none => rw [ho] at h; cases h
      | some f2 =>
        rw [ho] at h
        simp only [Option.map_some, Option.some.injEq, Prod.mk.injEq] at h
        obtain ⟨_, rfl⟩ := h
        exact runOps_length _ _ _ ho
    · cases h
  | seq x y ihx ihy =>
    intro fr fr' lv h
    simp only [runC] at h
    cases hx : runC P T n x fr with
    | none => rw [hx] at h; cases h
    | some p =>
      obtain ⟨e1, f1⟩ := p
      have h1 := ihx hx
      rw [hx] at h
      cases e1 with
      | normal => rw [ihy h, h1]
      | exit id => cases h; exact h1
      | ret => cases h; exact h1
  | cond c x y ihx ihy =>
    intro fr fr' lv h
    simp only [runC, condD] at h
    split at h
    · exact ihx h
    · exact ihy h
    · cases h
  | block id c ih =>
    intro fr fr' lv h
    simp only [runC] at h
    cases hx : runC P T n c fr with
    | none => rw [hx] at h; cases h
    | some p =>
      obtain ⟨e1, f1⟩ := p
      have h1 := ih hx
      rw [hx] at h
      cases e1 <;> (cases h; exact h1)
  | loop c ih =>
    intro fr fr' lv h
    simp only [runC] at h
    exact iterD_length (fun fr lv fr' h => ih h) n fr lv fr' h
  | _ => intro fr fr' lv h; cases h

section
variable {P : Program} {T : Tab}
theorem runC_ok (hT : TabOk P T) (hm : P.follows .mixedOrders = true) {n m : Nat} (c : Code) : ∀ {fr fr' : List D} {x : Lv} {a : Act} {w : World} {Q : Exit → Act → World → Prop}, runC P T n c fr = some (x, fr') → RepF w a fr →
    (∀ a' w', RepF w' a' fr' → Below w.heap.size w w' → Q x.toExit a' w') → c.wpIn Fence.wide m P Q a w := by
  induction c with
  | skip =>
    intro fr fr' x a w Q h hr hQ
    simp only [runC, Option.some.injEq, Prod.mk.injEq] at h
    obtain ⟨rfl, rfl⟩ := h
    exact wpIn_skip (hQ a w hr (Below.refl _ _))
  | label l =>
    intro fr fr' x a w Q h hr hQ
    simp only [runC, Option.some.injEq, Prod.mk.injEq] at h
    obtain ⟨rfl, rfl⟩ := h
    exact wpIn_label (hQ a w hr (Below.refl _ _))
  | region id ops draw =>
    intro fr fr' x a w Q h hr hQ
    simp only [runC, regD] at h
    split at h
    · rename_i hd
      cases ho : runOps P T ops.toList ops.toList fr with
      | none => rw [ho] at h; cases h
      | some f2 =>
        rw [ho] at h
        simp only [Option.map_some, Option.some.injEq, Prod.mk.injEq] at h
        obtain ⟨rfl, rfl⟩ := h
        cases draw with
        | true => exact draw_ok hT hm (by simpa using hd) ho hr hQ
        | false => exact wpIn_region (wpListD_ok hT ops _ _ a w fr _ (range_ops ops) ho hr hQ)
    · cases h
  | seq x y ihx ihy =>
    intro fr fr' e a w Q h hr hQ
    simp only [runC] at h
    refine wpIn_seq ?_
    cases hx : runC P T n x fr with
    | none => rw [hx] at h; cases h
    | some p =>
      obtain ⟨e1, f1⟩ := p
      refine ihx hx hr fun a' w' h1 h2 => ?_
      rw [hx] at h
      cases e1 with
      | normal => exact ihy h h1 fun a'' w'' h3 h4 => hQ a'' w'' h3 (h2.trans (h4.mono h2.size))
      | exit id =>
        simp only [thenD, Option.some.injEq, Prod.mk.injEq] at h
        obtain ⟨rfl, rfl⟩ := h
        exact hQ a' w' h1 h2
      | ret =>
        simp only [thenD, Option.some.injEq, Prod.mk.injEq] at h
        obtain ⟨rfl, rfl⟩ := h
        exact hQ a' w' h1 h2
  | cond c x y ihx ihy =>
    intro fr fr' e a w Q h hr hQ
    simp only [runC] at h
    have hc := evalD_ok hr.tmps c
    unfold condD at h
    split at h
    · rename_i hb
      rw [hb] at hc
      simp only [Rep] at hc
      exact wpIn_cond_true hc (ihx h hr hQ)
    · rename_i hb
      rw [hb] at hc
      simp only [Rep] at hc
      exact wpIn_cond_false hc (ihy h hr hQ)
    · cases h
  | block id c ih =>
    intro fr fr' e a w Q h hr hQ
    simp only [runC] at h
    refine wpIn_block ?_
    cases hx : runC P T n c fr with
    | none => rw [hx] at h; cases h
    | some p =>
      obtain ⟨e1, f1⟩ := p
      refine ih hx hr fun a' w' h1 h2 => ?_
      rw [hx] at h
      cases e1 with
      | normal =>
        simp only [blockD, Option.some.injEq, Prod.mk.injEq] at h
        obtain ⟨rfl, rfl⟩ := h
        exact hQ a' w' h1 h2
      | ret =>
        simp only [blockD, Option.some.injEq, Prod.mk.injEq] at h
        obtain ⟨rfl, rfl⟩ := h
        exact hQ a' w' h1 h2
      | exit j =>
        simp only [blockD, Option.some.injEq, Prod.mk.injEq] at h
        obtain ⟨rfl, rfl⟩ := h
        simp only [Lv.toExit, Exit.inBlock]
        by_cases hj : j = id
        · rw [if_pos hj] at hQ ⊢
          exact hQ a' w' h1 h2
        · rw [if_neg hj] at hQ ⊢
          exact hQ a' w' h1 h2
  | loop c ih =>
    intro fr fr' e a w Q h hr hQ
    simp only [runC] at h
    refine wpIn_loop_rounds n ?_
    have key : ∀ (k : Nat) (fr : List D) (a : Act) (w : World), iterD (runC P T n c) k fr = some (e, fr') → RepF w a fr → (∀ a' w', RepF w' a' fr' → Below w.heap.size w w' → Q e.toExit a' w') → Code.roundsIn Fence.wide m P c Q k a w := by
      intro k
      induction k with
      | zero => intro fr a w h; cases h
      | succ k ihk =>
        intro fr a w h hr hQ
        rw [roundsIn_succ]
        simp only [iterD] at h
        cases hx : runC P T n c fr with
        | none => rw [hx] at h; cases h
        | some p =>
          obtain ⟨e1, f1⟩ := p
          refine ih hx hr fun a' w' h1 h2 => ?_
          rw [hx] at h
          cases e1 with
          | normal => exact ihk f1 a' w' h h1 fun a'' w'' h3 h4 => hQ a'' w'' h3 (h2.trans (h4.mono h2.size))
          | exit id =>
            simp only [Option.some.injEq, Prod.mk.injEq] at h
            obtain ⟨rfl, rfl⟩ := h
            exact hQ a' w' h1 h2
          | ret =>
            simp only [Option.some.injEq, Prod.mk.injEq] at h
            obtain ⟨rfl, rfl⟩ := h
            exact hQ a' w' h1 h2
    exact key n fr a w h hr hQ
  | exit id =>
    intro fr fr' x a w Q h hr hQ
    simp only [runC, Option.some.injEq, Prod.mk.injEq] at h
    obtain ⟨rfl, rfl⟩ := h
    exact wpIn_exit (hQ a w hr (Below.refl _ _))
  | ret =>
    intro fr fr' x a w Q h hr hQ
    simp only [runC, Option.some.injEq, Prod.mk.injEq] at h
    obtain ⟨rfl, rfl⟩ := h
    exact wpIn_ret (hQ a w hr (Below.refl _ _))
  | _ =>
    intro fr fr' x a w Q h hr hQ
    simp only [runC] at h
    cases h
end

def resD (P : Program) (fr : List D) : ResultVar → Option D
  | .tmp t => some (fr.getD t .undef)
  | .cell a t =>
    match fr.getD a .undef with
    | .ptr cs => partD P t cs 0
    | _ => none
def resultsD (P : Program) (rs : List ResultVar) (fr : List D) : Option D :=
  match rs.mapM (resD P fr) with
  | some [d] => some d
  | some ds => some (.tup ds)
  | none => none
/-- What a function gives, of this body. -/
def runF (P : Program) (T : Tab) (n : Nat) (c : Code) (ntmps : Nat) (rs : List ResultVar) (ds : List D) : Option D :=
  match runC P T n c (ds ++ List.replicate (ntmps - ds.length) .undef) with
  | some (.exit _, _) => none
  | some (_, fr) => resultsD P rs fr
  | none => none

/-- One result. -/
def oneRes (a : Act) : ResultVar → Sem Value
  | .tmp t => pure (a.tmps.getD t undef)
  | .cell a' t => do loadVar t (← asAddr (a.tmps.getD a' undef))
theorem results_one (fn : Func) (a : Act) : results fn a.tmps = (do let vs ← fn.results.mapM (oneRes a); pure (if h : vs.size = 1 then vs[0] else .tuple vs)) := by
  unfold results
  congr 2

theorem resD_ok {P : Program} {w : World} {a : Act} {fr : List D} (hr : RepF w a fr) (r : ResultVar) (d : D) (h : resD P fr r = some d) :
    ∃ v, (oneRes a r).run P w = .ok v w ∧ RepAt w v d := by
  cases r with
  | tmp t =>
    simp only [resD, Option.some.injEq] at h
    subst h
    have := hr.tmps.getD t undef
    exact ⟨_, rfl, by simpa using this⟩
  | cell t ty =>
    simp only [resD] at h
    split at h
    · rename_i cs hc
      have := hr.tmps.getD t undef
      rw [hc] at this
      simp only [Rep] at this
      obtain ⟨b, o, h1, hb, h2⟩ := this
      obtain ⟨x, h3, h4⟩ := load_ok (P := P) h h2
      refine ⟨x, ?_, h4⟩
      have h1' : a.tmps.getD t undef = .pointer (some ⟨b, o, none⟩) := by simpa using h1
      simp only [Instr.loadAt, Instr.sureAddr, Sem.run_bind, Sem.run_pure, Result.andThen_ok] at h3
      simp [oneRes, h1', asAddr, h3]
    · cases h

theorem results_ok {P : Program} {fn : Func} {w : World} {a : Act} {fr : List D} {d : D} (hr : RepF w a fr) (h : resultsD P fn.results.toList fr = some d) : ∃ v, (results fn a.tmps).run P w = .ok v w ∧ RepAt w v d := by
  unfold resultsD at h
  have key : ∀ (rs : List ResultVar) (ds : List D), rs.mapM (resD P fr) = some ds → ∃ vs : List Value, (rs.mapM (oneRes a)).run P w = .ok vs w ∧ RepA (· < w.heap.size) w vs ds := by
    intro rs
    induction rs with
    | nil => intro ds h; simp at h; subst h; exact ⟨[], rfl, RepA.nil⟩
    | cons r t ih =>
      intro ds h
      simp only [List.mapM_cons, Option.pure_def, Option.bind_eq_bind] at h
      cases h1 : resD P fr r with
      | none => rw [h1] at h; cases h
      | some e =>
        rw [h1, Option.bind_some] at h
        cases h2 : t.mapM (resD P fr) with
        | none => rw [h2] at h; cases h
        | some es =>
          rw [h2, Option.bind_some] at h
          cases h
          obtain ⟨v, h3, h4⟩ := resD_ok hr r e h1
          obtain ⟨vs, h5, h6⟩ := ih es h2
          refine ⟨v :: vs, ?_, RepA.cons h4 h6⟩
          simp only [List.mapM_cons, Sem.run_bind]
          rw [h3]
          simp only [Result.andThen_ok, Sem.run_bind]
          rw [h5]
          rfl
  cases hm : fn.results.toList.mapM (resD P fr) with
  | none => rw [hm] at h; cases h
  | some ds =>
    rw [hm] at h
    obtain ⟨vs, h1, h2⟩ := key _ _ hm
    have hl := h2.length
    rw [results_one, Array.mapM_eq_mapM_toList]
    simp only [Sem.run_bind, Sem.run_map]
    rw [h1]
    simp only [Result.andThen_ok, Sem.run_pure]
    split at h
    · rename_i d' heq
      cases heq
      cases h
      obtain ⟨v, ys, rfl, h3, h4⟩ := by simpa only [RepA] using h2
      subst h4
      exact ⟨v, by simp, h3⟩
    · rename_i ds' hne heq
      cases heq
      cases h
      refine ⟨.tuple vs.toArray, ?_, by simp only [RepAt, Rep]; exact ⟨vs, rfl, h2⟩⟩
      have : vs.length ≠ 1 := by
        intro e
        rw [hl] at e
        obtain ⟨x, rfl⟩ := List.length_eq_one_iff.1 e
        exact hne x rfl
      simp [this]
    · rename_i heq
      cases heq

/-- A function gives what its body gives. -/
theorem callOk_of_run {P : Program} {T : Tab} (hT : TabOk P T) (hm : P.follows .mixedOrders = true) {f : FuncId} {fn : Func} {c : Code} (hf : P.funcs[f]? = some fn) (hb : fn.body = some c) (hname : fn.name ≠ "runtime.NumGoroutine") {F : List D → Option D}
    (h : ∀ ds d, F ds = some d → ∃ n, runF P T n c fn.ntmps fn.results.toList ds = some d) : CallOk P f F := by
  refine ⟨⟨fn, hf, hname, by rw [hb]; rfl⟩, fun ds d hF vs w hv => ?_⟩
  obtain ⟨n, hn⟩ := h ds d hF
  unfold runF at hn
  have hl := hv.length
  have hrep : RepF w { tmps := vs.toArray ++ Array.replicate (fn.ntmps - vs.toArray.size) undef, defers := [] } (ds ++ List.replicate (fn.ntmps - ds.length) .undef) := by
    refine ⟨rfl, ?_⟩
    have h2 : ∀ k, RepA (· < w.heap.size) w (List.replicate k undef) (List.replicate k .undef) := by
      intro k
      induction k with
      | zero => exact RepA.nil
      | succ k ih => exact RepA.cons (by simp only [Rep]) ih
    have h3 := hv.append (h2 (fn.ntmps - ds.length))
    rw [← hl] at h3 ⊢
    simpa using h3
  cases hr : runC P T n c (ds ++ List.replicate (fn.ntmps - ds.length) .undef) with
  | none => rw [hr] at hn; cases hn
  | some p =>
    obtain ⟨e, fr⟩ := p
    rw [hr] at hn
    refine callsIn_wide.1 (callsIn_of_wp (n := 1) hf hb trivial (runC_ok hT hm c hr hrep fun a' w' h1 h2 => ?_))
    cases e with
    | exit id => cases hn
    | normal =>
      obtain ⟨v, h3, h4⟩ := results_ok (fn := fn) h1 hn
      exact ⟨h1.defers, v, h3, v, rfl, h4, h2⟩
    | ret =>
      obtain ⟨v, h3, h4⟩ := results_ok (fn := fn) h1 hn
      exact ⟨h1.defers, v, h3, v, rfl, h4, h2⟩
end Go.Proofs.Ytnmgfobpcengkaa
