/-
  The same run, with what comes behind handed on: so that a way that is taken is known from there on. Nothing here names the program.
-/
import Derived.Test.YtnmgfobpcengkaaDenCode
namespace Go.Proofs.Ytnmgfobpcengkaa
open Go.RowKit
set_option linter.unusedVariables false
set_option linter.unusedSimpArgs false

/-- Slots and what they hold, the last one written ahead. -/
abbrev En := List (Nat × D)
def getE : En → Nat → D
  | [], _ => .undef
  | (s, d) :: r, t =>
    match Nat.beq s t with
    | true => d
    | false => getE r t
def evalE (e : En) : Operand → D
  | .tmp t => getE e t
  | .const v => .v v
  | .global g => .v (.pointer (some ⟨g, 0, none⟩))
  | .func f => .v (.func (.func f) #[] #[])
/-- The frame of them. -/
def toFr (sz : Nat) (e : En) : List D := (List.range sz).map (getE e)
def ofFr : List D → Nat → En
  | [], _ => []
  | d :: r, k => (k, d) :: ofFr r (k + 1)
/-- They are the frame's. -/
structure Rl (sz : Nat) (e : En) (fr : List D) : Prop where
  len : fr.length = sz
  get : ∀ t, getE e t = fr.getD t .undef

theorem getE_cons (s : Nat) (d : D) (r : En) (t : Nat) : getE ((s, d) :: r) t = if s = t then d else getE r t := by
  simp only [getE]
  by_cases h : s = t
  · subst h
    simp
  · rw [if_neg h]
    have : Nat.beq s t = false := by
      cases hb : Nat.beq s t with
      | false => rfl
      | true => exact absurd (Nat.eq_of_beq_eq_true hb) h
    rw [this]
theorem Rl.set {sz : Nat} {e : En} {fr : List D} (h : Rl sz e fr) (t : Nat) (ht : t < sz) (d : D) : Rl sz ((t, d) :: e) (fr.set t d) := by
  refine ⟨by rw [List.length_set, h.len], fun s => ?_⟩
  rw [getE_cons, List.getD_eq_getElem?_getD]
  by_cases hs : t = s
  · subst hs
    rw [if_pos rfl, List.getElem?_set_self (by rw [h.len]; exact ht)]; rfl
  · rw [if_neg hs, List.getElem?_set_ne hs, h.get s, List.getD_eq_getElem?_getD]
theorem Rl.same {sz : Nat} {e : En} {fr : List D} (h : Rl sz e fr) (t : Nat) (d : D) (hd : getE e t = d) : Rl sz ((t, d) :: e) fr := by
  refine ⟨h.len, fun s => ?_⟩
  rw [getE_cons]
  by_cases hs : t = s
  · subst hs
    rw [if_pos rfl, ← hd, h.get]
  · rw [if_neg hs, h.get]
theorem Rl.eval {sz : Nat} {e : En} {fr : List D} (h : Rl sz e fr) : evalE e = evalD fr := by
  funext x
  cases x <;> first | rfl | exact h.get _
theorem Rl.toFr {sz : Nat} {e : En} {fr : List D} (h : Rl sz e fr) : toFr sz e = fr := by
  apply List.ext_getElem?
  intro i
  by_cases hi : i < sz
  · have hf : i < fr.length := by rw [h.len]; exact hi
    simp [Go.Proofs.Ytnmgfobpcengkaa.toFr, hi, h.get, List.getElem?_eq_getElem hf]
  · have hf : fr.length ≤ i := by rw [h.len]; omega
    simp [Go.Proofs.Ytnmgfobpcengkaa.toFr, hi, List.getElem?_eq_none hf]
theorem ofFr_get (fr : List D) (k t : Nat) : getE (ofFr fr k) t = if k ≤ t then fr.getD (t - k) .undef else .undef := by
  induction fr generalizing k with
  | nil => simp [ofFr, getE]
  | cons d r ih =>
    simp only [ofFr]
    rw [getE_cons]
    by_cases h : k = t
    · subst h
      simp
    · rw [if_neg h, ih]
      by_cases hk : k ≤ t
      · rw [if_pos hk, if_pos (by omega)]
        obtain ⟨m, hm⟩ : ∃ m, t - k = m + 1 := ⟨t - k - 1, by omega⟩
        rw [hm, show t - (k + 1) = m from by omega, List.getD_cons_succ]
      · rw [if_neg hk, if_neg (by omega)]
theorem rl_ofFr (fr : List D) (sz : Nat) (h : fr.length = sz) : Rl sz (ofFr fr 0) fr := ⟨h, fun t => by rw [ofFr_get, if_pos (Nat.zero_le _), Nat.sub_zero]⟩

section
variable {α : Type}
/-- Two ways. -/
def condK (d : D) (x y : Option α) : Option α :=
  match d with
  | .v (.bool true) => x
  | .v (.bool false) => y
  | _ => none
/-- One behind the other. -/
def thn (o : Option D) (k : D → Option α) : Option α :=
  match o with
  | some d => k d
  | none => none
def setOp (e : En) (c : Operand) (b : Bool) : En :=
  match c with
  | .tmp t => (t, .v (.bool b)) :: e
  | _ => e
def putK (sz : Nat) (e : En) (dst : Option Tmp) (d : D) (k : En → Option α) : Option α :=
  match dst with
  | none => k e
  | some t =>
    match Nat.blt t sz with
    | true => k ((t, d) :: e)
    | false => none
/-- sk: the operations that were not carried out. -/
def opsK (P : Program) (T : Tab) (sz : Nat) (ops : List Oper) : List Oper → List Nat → Nat → En → (En → Option α) → Option α
  | [], sk, i, e, K => K e
  | o :: r, sk, i, e, K =>
    match o.guard with
    | none => thn (stepD P T o.op (evalE e)) fun d => putK sz e o.dst d fun e' => opsK P T sz ops r sk (i + 1) e' K
    | some (j, want) =>
      match (ops[j]?).bind (·.dst) with
      | some t =>
        match sk.contains j with
        | true =>
          match getE e t with
          | .v (.tuple _) => putK sz e o.dst (.v undef) fun e' => opsK P T sz ops r (i :: sk) (i + 1) e' K
          | _ => none
        | false =>
          match want with
          | true => condK (getE e t) (thn (stepD P T o.op (evalE ((t, .v (.bool true)) :: e))) fun d => putK sz ((t, .v (.bool true)) :: e) o.dst d fun e' => opsK P T sz ops r sk (i + 1) e' K) (putK sz ((t, .v (.bool false)) :: e) o.dst (.v undef) fun e' => opsK P T sz ops r (i :: sk) (i + 1) e' K)
          | false => condK (getE e t) (putK sz ((t, .v (.bool true)) :: e) o.dst (.v undef) fun e' => opsK P T sz ops r (i :: sk) (i + 1) e' K) (thn (stepD P T o.op (evalE ((t, .v (.bool false)) :: e))) fun d => putK sz ((t, .v (.bool false)) :: e) o.dst d fun e' => opsK P T sz ops r sk (i + 1) e' K)
      | none => none
def seqK (k : En → Option α) (K : Lv → En → Option α) : Lv → En → Option α
  | .normal, fr => k fr
  | lv, fr => K lv fr
def blockK (id : Nat) (K : Lv → En → Option α) : Lv → En → Option α
  | .exit j, fr => K (if j = id then .normal else .exit j) fr
  | lv, fr => K lv fr
def afterK (r : Option (Lv × List D)) (K : Lv → En → Option α) : Option α :=
  match r with
  | some (lv, fr) => K lv (ofFr fr 0)
  | none => none
def runK (P : Program) (T : Tab) (n sz : Nat) : Code → En → (Lv → En → Option α) → Option α
  | .skip, e, K | .label _, e, K => K .normal e
  | .region _ ops draw, e, K => if !draw || drawOk ops.toList then opsK P T sz ops.toList ops.toList [] 0 e (K .normal) else none
  | .seq x y, e, K => runK P T n sz x e (seqK (fun e' => runK P T n sz y e' K) K)
  | .cond c x y, e, K => condK (evalE e c) (runK P T n sz x (setOp e c true) K) (runK P T n sz y (setOp e c false) K)
  | .block id c, e, K => runK P T n sz c e (blockK id K)
  | .loop c, e, K => afterK (iterD (runC P T n c) n (toFr sz e)) K
  | .exit id, e, K => K (.exit id) e
  | .ret, e, K => K .ret e
  | _, _, _ => none

theorem condK_some {d : D} {x y : Option α} {r : α} (h : condK d x y = some r) : ∃ b, d = .v (.bool b) ∧ (if b then x else y) = some r := by
  unfold condK at h
  split at h
  · exact ⟨true, rfl, h⟩
  · exact ⟨false, rfl, h⟩
  · cases h
theorem putK_some {sz : Nat} {e : En} {fr : List D} {dst : Option Tmp} {d : D} {k : En → Option α} {r : α} (hr : Rl sz e fr) (h : putK sz e dst d k = some r) : ∃ e', Rl sz e' (putD fr dst d) ∧ k e' = some r := by
  unfold putK at h
  split at h
  · exact ⟨e, hr, h⟩
  · rename_i t
    split at h
    · rename_i hb
      exact ⟨_, hr.set t (by simp [Nat.blt] at hb; omega) d, h⟩
    · cases h
theorem Rl.bool {sz : Nat} {e : En} {fr : List D} (h : Rl sz e fr) {t : Nat} {v : Value} (hb : getE e t = .v v) : fr[t]? = some (.v v) := by
  rw [h.get, List.getD_eq_getElem?_getD] at hb
  cases hq : fr[t]? with
  | none => rw [hq] at hb; cases hb
  | some x => rw [hq] at hb; simp at hb; rw [hb]

/-- Where what is handed on gives something, the run gives the same. -/
theorem opsK_le {P : Program} {T : Tab} {sz : Nat} {ops : List Oper} : ∀ (l : List Oper) (sk : List Nat) (i : Nat) (e : En) (fr : List D) (K : En → Option α) (r : α), Rl sz e fr → opsK P T sz ops l sk i e K = some r →
    ∃ fr' e', runOps P T ops l fr = some fr' ∧ Rl sz e' fr' ∧ K e' = some r
  | [], sk, i, e, fr, K, r, hr, h => ⟨fr, e, rfl, hr, h⟩
  | o :: l, sk, i, e, fr, K, r, hr, h => by
    have go : ∀ (e1 : En) (sk' : List Nat) (b : Bool), Rl sz e1 fr → wantedD ops o fr = some true → (thn (stepD P T o.op (evalE e1)) fun d => putK sz e1 o.dst d fun e' => opsK P T sz ops l sk' (i + 1) e' K) = some r →
        ∃ fr' e', runOps P T ops (o :: l) fr = some fr' ∧ Rl sz e' fr' ∧ K e' = some r := by
      intro e1 sk' b hr1 hw h1
      rw [hr1.eval] at h1
      simp only [runOps, oneD, hw]
      cases hs : stepD P T o.op (evalD fr) with
      | none => rw [hs] at h1; cases h1
      | some d =>
        rw [hs] at h1
        simp only [thn] at h1
        obtain ⟨e', h2, h3⟩ := putK_some hr1 h1
        exact opsK_le l sk' (i + 1) e' _ K r h2 h3
    have skip : ∀ (e1 : En), Rl sz e1 fr → wantedD ops o fr = some false → (putK sz e1 o.dst (.v undef) fun e' => opsK P T sz ops l (i :: sk) (i + 1) e' K) = some r →
        ∃ fr' e', runOps P T ops (o :: l) fr = some fr' ∧ Rl sz e' fr' ∧ K e' = some r := by
      intro e1 hr1 hw h1
      simp only [runOps, oneD, hw]
      obtain ⟨e', h2, h3⟩ := putK_some hr1 h1
      exact opsK_le l _ (i + 1) e' _ K r h2 h3
    simp only [opsK] at h
    split at h
    · rename_i hg
      exact go e sk true hr (by unfold wantedD; rw [hg]) h
    · rename_i j want hg
      split at h
      · rename_i t hj
        have hw : ∀ v, getE e t = .v v → wantedD ops o fr = match v with | .bool b => some (b == want) | .tuple _ => some false | _ => none := by
          intro v hv
          have := hr.bool hv
          unfold wantedD
          simp only [hg, hj, Option.bind_some, this]
          cases v <;> rfl
        split at h
        · split at h
          · rename_i x hx
            exact skip e hr (hw _ hx) h
          · cases h
        · split at h
          · obtain ⟨b, hb, hc⟩ := condK_some h
            have hwb := hw _ hb
            cases b with
            | true => exact go _ sk true (hr.same t _ hb) hwb hc
            | false => exact skip _ (hr.same t _ hb) hwb hc
          · obtain ⟨b, hb, hc⟩ := condK_some h
            have hwb := hw _ hb
            cases b with
            | true => exact skip _ (hr.same t _ hb) hwb hc
            | false => exact go _ sk true (hr.same t _ hb) hwb hc
      · cases h

theorem runK_le {P : Program} {T : Tab} {n sz : Nat} (c : Code) : ∀ (e : En) (fr : List D) (K : Lv → En → Option α) (r : α), Rl sz e fr → runK P T n sz c e K = some r →
    ∃ lv fr' e', runC P T n c fr = some (lv, fr') ∧ Rl sz e' fr' ∧ K lv e' = some r := by
  induction c with
  | skip => intro e fr K r hr h; exact ⟨_, _, e, rfl, hr, h⟩
  | label l => intro e fr K r hr h; exact ⟨_, _, e, rfl, hr, h⟩
  | exit id => intro e fr K r hr h; exact ⟨_, _, e, rfl, hr, h⟩
  | ret => intro e fr K r hr h; exact ⟨_, _, e, rfl, hr, h⟩
  | region id ops draw =>
    intro e fr K r hr h
    simp only [runK] at h
    simp only [runC, regD]
    split at h
    · rename_i hd
      rw [if_pos hd]
      obtain ⟨fr', e', h1, h2, h3⟩ := opsK_le _ _ _ _ _ _ _ hr h
      exact ⟨_, fr', e', by rw [h1]; rfl, h2, h3⟩
    · cases h
  | seq x y ihx ihy =>
    intro e fr K r hr h
    simp only [runK] at h
    simp only [runC]
    obtain ⟨lv, fr', e', h1, h2, h3⟩ := ihx e fr _ r hr h
    rw [h1]
    cases lv with
    | normal => exact ihy e' fr' K r h2 h3
    | exit id => exact ⟨_, fr', e', rfl, h2, h3⟩
    | ret => exact ⟨_, fr', e', rfl, h2, h3⟩
  | cond c x y ihx ihy =>
    intro e fr K r hr h
    simp only [runK] at h
    simp only [runC]
    obtain ⟨b, hb, hc⟩ := condK_some h
    have hset : Rl sz (setOp e c b) fr := by
      cases c with
      | tmp t => exact hr.same t _ hb
      | _ => exact hr
    rw [hr.eval] at hb
    rw [hb]
    cases b with
    | true => exact ihx _ fr K r hset hc
    | false => exact ihy _ fr K r hset hc
  | block id c ih =>
    intro e fr K r hr h
    simp only [runK] at h
    simp only [runC]
    obtain ⟨lv, fr', e', h1, h2, h3⟩ := ih e fr _ r hr h
    rw [h1]
    cases lv <;> exact ⟨_, fr', e', rfl, h2, h3⟩
  | loop c ih =>
    intro e fr K r hr h
    simp only [runK, hr.toFr] at h
    simp only [runC]
    cases hx : iterD (runC P T n c) n fr with
    | none => rw [hx] at h; cases h
    | some p =>
      rw [hx] at h
      have hl : p.2.length = sz := by
        have := iterD_length (fun fr lv fr' h => runC_length c h) n fr p.1 p.2 hx
        rw [this, hr.len]
      exact ⟨p.1, p.2, _, rfl, rl_ofFr p.2 sz hl, h⟩
  | _ => intro e fr K r hr h; cases h

def resK (P : Program) (e : En) : ResultVar → Option D
  | .tmp t => some (getE e t)
  | .cell a t => (shapeOf P t).bind fun s => loadD s (getE e a)
def resKs (P : Program) (e : En) : List ResultVar → Option D
  | [r] => resK P e r
  | [r1, r2] => thn (resK P e r1) fun d1 => thn (resK P e r2) fun d2 => some (.tup [d1, d2])
  | [r1, r2, r3] => thn (resK P e r1) fun d1 => thn (resK P e r2) fun d2 => thn (resK P e r3) fun d3 => some (.tup [d1, d2, d3])
  | _ => none
/-- What a function gives. -/
def endK (P : Program) (rs : List ResultVar) : Lv → En → Option D
  | .exit _, _ => none
  | _, e => resKs P e rs
def funK (P : Program) (T : Tab) (n : Nat) (c : Code) (ntmps : Nat) (rs : List ResultVar) (ds : List D) : Option D :=
  if ds.length ≤ ntmps then runK P T n ntmps c (ofFr ds 0) (endK P rs) else none
end
theorem resK_eq {P : Program} {sz : Nat} {e : En} {fr : List D} (hr : Rl sz e fr) (r : ResultVar) : resK P e r = resD P fr r := by
  cases r with
  | tmp t => simp only [resK, resD, hr.get]
  | cell a t =>
    simp only [resK, resD, hr.get, partD]
    cases shapeOf P t with
    | none => cases fr.getD a .undef <;> rfl
    | some s =>
      simp only [Option.bind_some, loadD]
      cases fr.getD a .undef <;> rfl
theorem funK_le {P : Program} {T : Tab} {n : Nat} {c : Code} {ntmps : Nat} {rs : List ResultVar} {ds : List D} {d : D} (h : funK P T n c ntmps rs ds = some d) : runF P T n c ntmps rs ds = some d := by
  unfold funK at h
  unfold runF
  split at h
  · rename_i hle
    have hr : Rl ntmps (ofFr ds 0) (ds ++ List.replicate (ntmps - ds.length) .undef) := by
      refine ⟨by simp; omega, fun t => ?_⟩
      rw [ofFr_get, if_pos (Nat.zero_le _), Nat.sub_zero, List.getD_eq_getElem?_getD, List.getD_eq_getElem?_getD]
      by_cases ht : t < ds.length
      · rw [List.getElem?_append_left ht]
      · rw [List.getElem?_append_right (by omega), List.getElem?_eq_none (by omega)]
        simp only [List.getElem?_replicate]
        split <;> rfl
    obtain ⟨lv, fr, e, h1, h2, h3⟩ := runK_le _ _ _ _ _ hr h
    rw [h1]
    have key : ∀ lv : Lv, (∀ j, lv ≠ .exit j) → endK P rs lv e = some d → resultsD P rs fr = some d := by
      intro lv hlv he
      have he' : resKs P e rs = some d := by
        cases lv with
        | exit j => exact absurd rfl (hlv j)
        | normal => exact he
        | ret => exact he
      clear he h h3
      unfold resKs at he'
      unfold resultsD
      split at he'
      · rename_i r1
        rw [resK_eq h2] at he'
        simp [he']
      · rename_i r1 r2
        rw [resK_eq h2, resK_eq h2] at he'
        cases hd1 : resD P fr r1 with
        | none => rw [hd1] at he'; cases he'
        | some d1 =>
          cases hd2 : resD P fr r2 with
          | none => rw [hd1, hd2] at he'; cases he'
          | some d2 =>
            rw [hd1, hd2] at he'
            simp only [thn] at he'
            simp [hd1, hd2, he']
      · rename_i r1 r2 r3
        rw [resK_eq h2, resK_eq h2, resK_eq h2] at he'
        cases hd1 : resD P fr r1 with
        | none => rw [hd1] at he'; cases he'
        | some d1 =>
          cases hd2 : resD P fr r2 with
          | none => rw [hd1, hd2] at he'; cases he'
          | some d2 =>
            cases hd3 : resD P fr r3 with
            | none => rw [hd1, hd2, hd3] at he'; cases he'
            | some d3 =>
              rw [hd1, hd2, hd3] at he'
              simp only [thn] at he'
              simp [hd1, hd2, hd3]
              exact Option.some.inj he'
      · cases he'
    cases lv with
    | exit j => cases h3
    | normal => exact key _ (by intro j hj; cases hj) h3
    | ret => exact key _ (by intro j hj; cases hj) h3
  · cases h
/-- A body, if there is one. -/
def bodyOf (fn : Func) : Code := fn.body.getD .skip
/-- What the function fn gives, by its text. -/
def textK (P : Program) (T : Tab) (n : Nat) (fn : Func) (ds : List D) : Option D := funK P T n (bodyOf fn) fn.ntmps fn.results.toList ds
theorem callOk_text {P : Program} {T : Tab} (hT : TabOk P T) (hm : P.follows .mixedOrders = true) {f : FuncId} {fn : Func} (hf : P.funcs[f]? = some fn) (hb : fn.body.isSome = true) (hname : fn.name ≠ "runtime.NumGoroutine") {F : List D → Option D}
    (h : ∀ ds d, F ds = some d → ∃ n, textK P T n fn ds = some d) : CallOk P f F := by
  cases hc : fn.body with
  | none => rw [hc] at hb; cases hb
  | some c =>
    refine callOk_of_run hT hm hf hc hname fun ds d hF => ?_
    obtain ⟨n, hn⟩ := h ds d hF
    refine ⟨n, ?_⟩
    unfold textK bodyOf at hn
    rw [hc] at hn
    exact funK_le hn
end Go.Proofs.Ytnmgfobpcengkaa
