/-
  The same run, with what comes behind handed on: so that a way that is taken is known from there on. Nothing here names the program.
-/
import Derived.Test.YtnmgfobpcengkaaHDenCode
namespace Go.Proofs.Ytnmgfobpcengkaa
open Go.RowKit
set_option linter.unusedVariables false
set_option linter.unusedSimpArgs false

/-- Slots and what they hold, the last one written ahead. -/
abbrev En := List (Nat × D)
def getE : En → Nat → D
  | [], _ => .undef
  | (s, d) :: r, t =>
    match Nat.beq s t with
    | true => d
    | false => getE r t
def evalE (e : En) : Operand → D
  | .tmp t => getE e t
  | .const v => .v v
  | .global g => .v (.pointer (some ⟨g, 0, none⟩))
  | .func f => .clo (.func f) [] []
/-- The frame of them. -/
def toFr (sz : Nat) (e : En) : List D := (List.range sz).map (getE e)
def ofFr : List D → Nat → En
  | [], _ => []
  | d :: r, k => (k, d) :: ofFr r (k + 1)
/-- They are the frame's. -/
structure Rl (sz : Nat) (e : En) (fr : List D) : Prop where
  len : fr.length = sz
  get : ∀ t, getE e t = fr.getD t .undef

theorem getE_cons (s : Nat) (d : D) (r : En) (t : Nat) : getE ((s, d) :: r) t = if s = t then d else getE r t := by
  simp only [getE]
  by_cases h : s = t
  · subst h
    simp
  · rw [if_neg h]
    have : Nat.beq s t = false := by
      cases hb : Nat.beq s t with
      | false => rfl
      | true => exact absurd (Nat.eq_of_beq_eq_true hb) h
    rw [this]
theorem Rl.set {sz : Nat} {e : En} {fr : List D} (h : Rl sz e fr) (t : Nat) (ht : t < sz) (d : D) : Rl sz ((t, d) :: e) (fr.set t d) := by
  refine ⟨by rw [List.length_set, h.len], fun s => ?_⟩
  rw [getE_cons, List.getD_eq_getElem?_getD]
  by_cases hs : t = s
  · subst hs
    rw [if_pos rfl, List.getElem?_set_self (by rw [h.len]; exact ht)]; rfl
  · rw [if_neg hs, List.getElem?_set_ne hs, h.get s, List.getD_eq_getElem?_getD]
theorem Rl.same {sz : Nat} {e : En} {fr : List D} (h : Rl sz e fr) (t : Nat) (d : D) (hd : getE e t = d) : Rl sz ((t, d) :: e) fr := by
  refine ⟨h.len, fun s => ?_⟩
  rw [getE_cons]
  by_cases hs : t = s
  · subst hs
    rw [if_pos rfl, ← hd, h.get]
  · rw [if_neg hs, h.get]
theorem Rl.eval {sz : Nat} {e : En} {fr : List D} (h : Rl sz e fr) : evalE e = evalD fr := by
  funext x
  cases x <;> first | rfl | exact h.get _
theorem Rl.toFr {sz : Nat} {e : En} {fr : List D} (h : Rl sz e fr) : toFr sz e = fr := by
  apply List.ext_getElem?
  intro i
  by_cases hi : i < sz
  · have hf : i < fr.length := by rw [h.len]; exact hi
    simp [Go.Proofs.Ytnmgfobpcengkaa.toFr, hi, h.get, List.getElem?_eq_getElem hf]
  · have hf : fr.length ≤ i := by rw [h.len]; omega
    simp [Go.Proofs.Ytnmgfobpcengkaa.toFr, hi, List.getElem?_eq_none hf]
theorem ofFr_get (fr : List D) (k t : Nat) : getE (ofFr fr k) t = if k ≤ t then fr.getD (t - k) .undef else .undef := by
  induction fr generalizing k with
  | nil => simp [ofFr, getE]
  | cons d r ih =>
    simp only [ofFr]
    rw [getE_cons]
    by_cases h : k = t
    · subst h
      simp
    · rw [if_neg h, ih]
      by_cases hk : k ≤ t
      · rw [if_pos hk, if_pos (by omega)]
        obtain ⟨m, hm⟩ : ∃ m, t - k = m + 1 := ⟨t - k - 1, by omega⟩
        rw [hm, show t - (k + 1) = m from by omega, List.getD_cons_succ]
      · rw [if_neg hk, if_neg (by omega)]
theorem rl_ofFr (fr : List D) (sz : Nat) (h : fr.length = sz) : Rl sz (ofFr fr 0) fr := ⟨h, fun t => by rw [ofFr_get, if_pos (Nat.zero_le _), Nat.sub_zero]⟩

/-- Operations that leave the objects alone. -/
def quietOp : Op → Bool
  | .move _ | .assign _ | .pick _ _ _ | .load _ _ | .field _ _ _ | .fieldAddr _ _ _ | .indexAddr _ _ _ | .build _ _ | .binOp _ _ _ _ _ | .convert _ _ _ | .extract _ _ | .makeInterface _ _ | .makeFunc _ _ _ | .nilCheck _ => true
  | .slice _ _ _ _ none | .index _ _ _ | .typeAssert _ _ _ _ | .lookup _ _ _ _ => true
  | .unOp .not _ _ | .unOp .neg _ _ | .unOp .xor _ _ => true
  | .call { callee := .builtin .len, .. } | .call { callee := .builtin .max, .. } | .call { callee := .builtin .min, .. } => true
  | _ => false
def nilD : D → Option D
  | .hp i o => some (.hp i o)
  | .ptr cs => some (.ptr cs)
  | _ => none
/-- Two operands; nil is spoken of among interface values alone. -/
def binQ (c : Bool) (k : Kd) (op : BinOp) (x y : D) : Option D :=
  match k with
  | .ifc => binN c .ifc op x y
  | k => binK k op x y
theorem binQ_eq (c : Bool) (k : Kd) (op : BinOp) (x y : D) : binQ c k op x y = binN c k op x y := by
  have key : k ≠ .ifc → binK k op x y = binN c k op x y := by
    intro hk
    unfold binN
    split
    · cases k <;> first | (exact absurd rfl hk) | (cases op <;> cases c <;> rfl)
    · rfl
  cases k <;> first | rfl | exact key (fun e => by cases e)
def strId (x : D) : Option D := (strOf x).map fun s => .v (.string s)
/-- What they yield. -/
def opQ (P : Program) (op : Op) (ρ : Operand → D) (H : Heap) : Option D :=
  match op with
  | .move x | .assign x => some (ρ x)
  | .pick c a b => pickD (ρ c) (ρ a) (ρ b)
  | .load t a => (shapeOf P t).bind fun s => loadH s H (ρ a)
  | .field t x f => (fldD P t f).bind fun uo => (shapeOf P uo.1).bind fun s => fieldD s uo.2 (ρ x)
  | .fieldAddr t x f => (fldD P t f).bind fun uo => (P.info? uo.1).bind fun i => if i.size = 0 then none else fieldAtH uo.2 (ρ x)
  | .indexAddr t x i => (elemSz P t).bind fun sz => idxH sz (ρ x) (ρ i)
  | .slice t x lo hi none =>
    match P.underlying t with
    | some .string => cutS (ρ x) (lo.map ρ) (hi.map ρ)
    | _ => (elemSz P t).bind fun sz => cutH sz (ρ x) (lo.map ρ) (hi.map ρ)
  | .build t ps => buildD P t (ps.toList.map fun (i, x) => (i, ρ x))
  | .binOp op t x y _ => binQ (isConst x || isConst y) (kindOf P t) op (ρ x) (ρ y)
  | .index t x i => match P.underlying t with | some .string => idxS (ρ x) (ρ i) | _ => none
  | .lookup t m k ok => (mapElem P t).bind fun e => (zeroVD P e).bind fun z => lookH z ok H (ρ m) (ρ k)
  | .typeAssert x _ u ok => if isConc P u then (zeroVD P u).bind fun z => assertD u z ok (ρ x) else none
  | .unOp .not _ x => notD (ρ x)
  | .unOp .neg _ x => negD (ρ x)
  | .unOp .xor _ x => xorD (ρ x)
  | .convert s t x =>
    match P.underlying s, P.underlying t with
    | some (.int _), some (.int k) => intOf64 k (ρ x)
    | some (.slice e), some .string =>
      match P.underlying e with
      | some (.int .u8) => bytesS H (ρ x)
      | _ => none
    | some .string, some .string => strId (ρ x)
    | _, _ => none
  | .extract t i => extractD (ρ t) i
  | .makeInterface t x => match P.underlying t with | some (.interface _) | none => none | _ => some (.ifc t (ρ x))
  | .makeFunc f a b => some (.clo f (a.toList.map ρ) (b.toList.map ρ))
  | .nilCheck x => nilD (ρ x)
  | .call { callee := .builtin .len, args, argTypes } =>
    match args.toList, argTypes.toList with
    | [x], t :: _ => lenH (kindOf P t) (ρ x)
    | _, _ => none
  | .call { callee := .builtin .max, args, .. } => maxD (args.toList.map ρ)
  | .call { callee := .builtin .min, args, .. } => minD (args.toList.map ρ)
  | _ => none
theorem opQ_ok {P : Program} {T : Tab} {op : Op} {ρ : Operand → D} {H : Heap} (hq : quietOp op = true) {d : D} (h : opQ P op ρ H = some d) : stepD P T op ρ H = some (d, H) := by
  have hop : opH P op ρ H = same H (opQ P op ρ H) := by
    cases op with
    | slice t x lo hi mx =>
      cases mx with
      | none =>
        simp only [opH, opQ, same]
        cases P.underlying t with
        | none => cases elemSz P t <;> rfl
        | some u => cases u <;> first | rfl | (cases elemSz P t <;> rfl)
      | some m => simp [quietOp] at hq
    | unOp o t x => cases o <;> first | rfl | (simp [quietOp] at hq; done)
    | load t a => simp only [opH, opQ, same]; cases shapeOf P t <;> rfl
    | field t x f =>
      simp only [opH, opQ, same]
      cases fldD P t f with
      | none => rfl
      | some uo => simp only [Option.bind_some]; cases shapeOf P uo.1 <;> rfl
    | fieldAddr t x f =>
      simp only [opH, opQ, same]
      cases fldD P t f with
      | none => rfl
      | some uo =>
        simp only [Option.bind_some]
        cases P.info? uo.1 with
        | none => rfl
        | some i => simp only [Option.bind_some]; split <;> rfl
    | indexAddr t x i => simp only [opH, opQ, same]; cases elemSz P t <;> rfl
    | convert s t x =>
      simp only [opH, opQ, same]
      rcases P.underlying s with _ | u <;> rcases P.underlying t with _ | v
      · rfl
      · rfl
      · cases u <;> rfl
      · cases u <;> cases v <;> first | rfl | (rename_i e; dsimp only; rcases P.underlying e with _ | z; rfl; cases z <;> first | rfl | (rename_i k; cases k <;> rfl))
    | index t x i =>
      simp only [opH, opQ, same]
      cases P.underlying t with
      | none => rfl
      | some u => cases u <;> rfl
    | lookup t m k ok =>
      simp only [opH, opQ, same]
      cases mapElem P t with
      | none => rfl
      | some e => simp only [Option.bind_some]; cases zeroVD P e <;> rfl
    | typeAssert x t u ok =>
      simp only [opH, opQ, same]
      split
      · cases zeroVD P u <;> rfl
      · rfl
    | makeInterface t x =>
      simp only [opH, opQ, same]
      cases P.underlying t with
      | none => rfl
      | some u => cases u <;> rfl
    | nilCheck x =>
      simp only [opH, opQ, nilD, same]
      cases ρ x <;> rfl
    | call c =>
      obtain ⟨callee, args, ats⟩ := c
      cases callee with
      | builtin b =>
        cases b with
        | len =>
          simp only [opH, opQ, same]
          cases args.toList with
          | nil => rfl
          | cons x r =>
            cases r with
            | nil => cases ats.toList <;> rfl
            | cons y z => rfl
        | max => rfl
        | min => rfl
        | _ => simp [quietOp] at hq
      | _ => simp [quietOp] at hq
    | move x => rfl
    | assign x => rfl
    | pick c a b => rfl
    | build t ps => rfl
    | binOp o t x y u => simp only [opH, opQ, binQ_eq, same]
    | extract t i => rfl
    | makeFunc f a b => rfl
    | _ => simp [quietOp] at hq
  have hst : stepD P T op ρ H = opH P op ρ H := by
    unfold stepD
    split
    · simp [quietOp] at hq
    · simp [quietOp] at hq
    · simp [quietOp] at hq
    · rfl
  rw [hst, hop, h]; rfl

section
variable {α : Type}
/-- Two ways. -/
def condK (d : D) (x y : Option α) : Option α :=
  match d with
  | .v (.bool true) => x
  | .v (.bool false) => y
  | _ => none
/-- One behind the other. -/
def thn (o : Option D) (k : D → Option α) : Option α :=
  match o with
  | some d => k d
  | none => none
def thnH (o : Option (D × Heap)) (k : D → Heap → Option α) : Option α :=
  match o with
  | some r => k r.1 r.2
  | none => none
def setOp (e : En) (c : Operand) (b : Bool) : En :=
  match c with
  | .tmp t => (t, .v (.bool b)) :: e
  | _ => e
def putK (sz : Nat) (e : En) (dst : Option Tmp) (d : D) (k : En → Option α) : Option α :=
  match dst with
  | none => k e
  | some t =>
    match Nat.blt t sz with
    | true => k ((t, d) :: e)
    | false => none
def stepK (P : Program) (T : Tab) (op : Op) (e : En) (H : Heap) (k : D → Heap → Option α) : Option α :=
  match quietOp op with
  | true => thn (opQ P op (evalE e) H) fun d => k d H
  | false => thnH (stepD P T op (evalE e) H) k
/-- sk: the operations that were not carried out. -/
def opsK (P : Program) (T : Tab) (sz : Nat) (ops : List Oper) : List Oper → List Nat → Nat → En → Heap → (En → Heap → Option α) → Option α
  | [], sk, i, e, H, K => K e H
  | o :: r, sk, i, e, H, K =>
    match o.guard with
    | none => stepK P T o.op e H fun d H' => putK sz e o.dst d fun e' => opsK P T sz ops r sk (i + 1) e' H' K
    | some (j, want) =>
      match (ops[j]?).bind (·.dst) with
      | some t =>
        match sk.contains j with
        | true =>
          match getE e t with
          | .v (.tuple _) => putK sz e o.dst (.v undef) fun e' => opsK P T sz ops r (i :: sk) (i + 1) e' H K
          | _ => none
        | false =>
          match want with
          | true => condK (getE e t) (stepK P T o.op ((t, .v (.bool true)) :: e) H fun d H' => putK sz ((t, .v (.bool true)) :: e) o.dst d fun e' => opsK P T sz ops r sk (i + 1) e' H' K) (putK sz ((t, .v (.bool false)) :: e) o.dst (.v undef) fun e' => opsK P T sz ops r (i :: sk) (i + 1) e' H K)
          | false => condK (getE e t) (putK sz ((t, .v (.bool true)) :: e) o.dst (.v undef) fun e' => opsK P T sz ops r (i :: sk) (i + 1) e' H K) (stepK P T o.op ((t, .v (.bool false)) :: e) H fun d H' => putK sz ((t, .v (.bool false)) :: e) o.dst d fun e' => opsK P T sz ops r sk (i + 1) e' H' K)
      | none => none
def seqK (k : En → Heap → Option α) (K : Lv → En → Heap → Option α) : Lv → En → Heap → Option α
  | .normal, e, H => k e H
  | lv, e, H => K lv e H
/-- Is it the exit of this block? -/
def condN (j id : Nat) (x y : Option α) : Option α :=
  match Nat.beq j id with
  | true => x
  | false => y
def blockK (id : Nat) (K : Lv → En → Heap → Option α) : Lv → En → Heap → Option α
  | .exit j, e, H => condN j id (K .normal e H) (K (.exit j) e H)
  | lv, e, H => K lv e H
def lvK (lv : Lv) (x : Nat → Option α) (r : Option α) : Option α :=
  match lv with
  | .normal => none
  | .exit j => x j
  | .ret => r
/-- Behind a loop. -/
def leaveK (r : Option (Lv × List D × Heap)) (x : Nat → List D → Heap → Option α) (y : List D → Heap → Option α) : Option α :=
  match r with
  | some (lv, s, H) => lvK lv (fun j => x j s H) (y s H)
  | none => none
/-- Behind a loop over a function. -/
def leaveR3 (r : Option (Lv × Heap)) (x : Heap → Option α) (y : Nat → Heap → Option α) (z : Heap → Option α) : Option α :=
  match r with
  | some (.normal, H) => x H
  | some (.exit j, H) => y j H
  | some (.ret, H) => z H
  | none => none
end
def mkE : List Nat → List D → Nat → En
  | [], _, _ => []
  | t :: r, s, i => (t, s.getD i .undef) :: mkE r s (i + 1)
/-- Rounds of a loop, over what is kept. -/
def iterS (step : List D → Heap → Option (Lv × List D × Heap)) : Nat → List D → Heap → Option (Lv × List D × Heap)
  | 0, _, _ => none
  | m + 1, s, H =>
    match step s H with
    | some (.normal, s', H') => iterS step m s' H'
    | r => r
def runK (P : Program) (T : Tab) (kp : List Nat) (n sz : Nat) : Code → {α : Type} → En → Heap → (Lv → En → Heap → Option α) → Option α
  | .skip, _, e, H, K | .label _, _, e, H, K => K .normal e H
  | .region _ ops draw, _, e, H, K => if !draw || drawOk T ops.toList then opsK P T sz ops.toList ops.toList [] 0 e H (K .normal) else none
  | .seq x y, _, e, H, K => runK P T kp n sz x e H (seqK (fun e' H' => runK P T kp n sz y e' H' K) K)
  | .cond c x y, _, e, H, K => condK (evalE e c) (runK P T kp n sz x (setOp e c true) H K) (runK P T kp n sz y (setOp e c false) H K)
  | .block id c, _, e, H, K => runK P T kp n sz c e H (blockK id K)
  | .loop c, _, e, H, K => leaveK (iterS (fun s H => runK P T kp n sz c (mkE kp s 0) H fun lv e H => some (lv, kp.map (getE e), H)) n (kp.map (getE e)) H) (fun j s H' => K (.exit j) (mkE kp s 0) H') fun s H' => K .ret (mkE kp s 0) H'
  | .exit id, _, e, H, K => K (.exit id) e H
  | .ret, _, e, H, K => K .ret e H
  | .scope c, _, e, H, K => runK P T kp n sz c e H K
  | .rangeFunc g ps as bd, _, e, H, K => leaveR3 (rangeS T (evalE e g) ps.toList as bd sz kp (kp.map (getE e)) H) (fun H' => K .normal e H') (fun j H' => K (.exit j) e H') (fun H' => K .ret e H')
  | _, _, _, _, _ => none
/-- One round of a loop. -/
def stepS (P : Program) (T : Tab) (kp : List Nat) (n sz : Nat) (c : Code) (s : List D) (H : Heap) : Option (Lv × List D × Heap) := runK P T kp n sz c (mkE kp s 0) H fun lv e H => some (lv, kp.map (getE e), H)

/-- The loops' bodies, as they stand in the text. -/
def loopsOf : Code → List Code
  | .seq x y => loopsOf x ++ loopsOf y
  | .cond _ x y => loopsOf x ++ loopsOf y
  | .block _ c | .scope c => loopsOf c
  | .loop c => c :: loopsOf c
  | _ => []
/-- The i-th loop of a function, over what is kept. -/
def loopF (P : Program) (T : Tab) (kp : List Nat) (n : Nat) (fn : Func) (i : Nat) (s : List D) (H : Heap) : Option (Lv × List D × Heap) :=
  iterS (stepS P T kp n fn.ntmps ((loopsOf (fn.body.getD .skip)).getD i .skip)) n s H
def stepF (P : Program) (T : Tab) (kp : List Nat) (n : Nat) (fn : Func) (i : Nat) (s : List D) (H : Heap) : Option (Lv × List D × Heap) :=
  stepS P T kp n fn.ntmps ((loopsOf (fn.body.getD .skip)).getD i .skip) s H

theorem mkE_get (g : Nat → D) : ∀ (kp : List Nat) (s : List D) (i t : Nat), (∀ j u, kp[j]? = some u → s.getD (i + j) .undef = g u) → getE (mkE kp s i) t = if kp.contains t then g t else .undef
  | [], s, i, t, h => by simp [mkE, getE]
  | u :: r, s, i, t, h => by
    have h0 := h 0 u rfl
    rw [Nat.add_zero] at h0
    simp only [mkE]
    rw [getE_cons, h0]
    by_cases hu : u = t
    · subst hu
      simp
    · rw [if_neg hu, mkE_get g r s (i + 1) t fun j v hj => by
        have := h (j + 1) v (by simpa using hj)
        rwa [show i + 1 + j = i + (j + 1) from by omega]]
      have : (u :: r).contains t = r.contains t := by
        simp only [List.contains_cons]
        have : (t == u) = false := by simp; exact fun h => hu h.symm
        rw [this, Bool.false_or]
      rw [this]
theorem Rl.kept {sz : Nat} {e : En} {fr : List D} (h : Rl sz e fr) (kp : List Nat) : Rl sz (mkE kp (kp.map (getE e)) 0) (forgetL kp fr 0) := by
  refine ⟨by rw [forgetL_length, h.len], fun t => ?_⟩
  rw [forgetL_get, Nat.zero_add, mkE_get (getE e) kp _ 0 t (fun j u hj => by
    rw [List.getD_eq_getElem?_getD, Nat.zero_add, List.getElem?_map, hj]; rfl), h.get]

section
variable {α : Type}
theorem condK_some {d : D} {x y : Option α} {r : α} (h : condK d x y = some r) : ∃ b, d = .v (.bool b) ∧ (if b then x else y) = some r := by
  unfold condK at h
  split at h
  · exact ⟨true, rfl, h⟩
  · exact ⟨false, rfl, h⟩
  · cases h
theorem putK_some {sz : Nat} {e : En} {fr : List D} {dst : Option Tmp} {d : D} {k : En → Option α} {r : α} (hr : Rl sz e fr) (h : putK sz e dst d k = some r) : ∃ e', Rl sz e' (putD fr dst d) ∧ k e' = some r := by
  unfold putK at h
  split at h
  · exact ⟨e, hr, h⟩
  · rename_i t
    split at h
    · rename_i hb
      exact ⟨_, hr.set t (by simp [Nat.blt] at hb; omega) d, h⟩
    · cases h
theorem stepK_some {P : Program} {T : Tab} {op : Op} {e : En} {H : Heap} {k : D → Heap → Option α} {r : α} (h : stepK P T op e H k = some r) : ∃ d H', stepD P T op (evalE e) H = some (d, H') ∧ k d H' = some r := by
  unfold stepK at h
  split at h
  · rename_i hq
    cases ho : opQ P op (evalE e) H with
    | none => rw [ho] at h; cases h
    | some d => rw [ho] at h; exact ⟨d, H, opQ_ok hq ho, h⟩
  · cases ho : stepD P T op (evalE e) H with
    | none => rw [ho] at h; cases h
    | some p => rw [ho] at h; exact ⟨p.1, p.2, rfl, h⟩
theorem Rl.bool {sz : Nat} {e : En} {fr : List D} (h : Rl sz e fr) {t : Nat} {v : Value} (hb : getE e t = .v v) : fr[t]? = some (.v v) := by
  rw [h.get, List.getD_eq_getElem?_getD] at hb
  cases hq : fr[t]? with
  | none => rw [hq] at hb; cases hb
  | some x => rw [hq] at hb; simp at hb; rw [hb]

/-- Where what is handed on gives something, the run gives the same. -/
theorem opsK_le {P : Program} {T : Tab} {sz : Nat} {ops : List Oper} : ∀ (l : List Oper) (sk : List Nat) (i : Nat) (e : En) (H : Heap) (fr : List D) (K : En → Heap → Option α) (r : α), Rl sz e fr → opsK P T sz ops l sk i e H K = some r →
    ∃ fr' e', runOps P T ops l (fr, H) = some fr' ∧ Rl sz e' fr'.1 ∧ K e' fr'.2 = some r
  | [], sk, i, e, H, fr, K, r, hr, h => ⟨(fr, H), e, rfl, hr, h⟩
  | o :: l, sk, i, e, H, fr, K, r, hr, h => by
    have go : ∀ (e1 : En) (sk' : List Nat), Rl sz e1 fr → wantedD ops o fr = some true → (stepK P T o.op e1 H fun d H' => putK sz e1 o.dst d fun e' => opsK P T sz ops l sk' (i + 1) e' H' K) = some r →
        ∃ fr' e', runOps P T ops (o :: l) (fr, H) = some fr' ∧ Rl sz e' fr'.1 ∧ K e' fr'.2 = some r := by
      intro e1 sk' hr1 hw h1
      obtain ⟨d, H', hs, h1⟩ := stepK_some h1
      rw [hr1.eval] at hs
      simp only [runOps, oneD, hw, hs, Option.bind_some]
      obtain ⟨e', h2, h3⟩ := putK_some hr1 h1
      exact opsK_le l sk' (i + 1) e' H' _ K r h2 h3
    have skip : ∀ (e1 : En), Rl sz e1 fr → wantedD ops o fr = some false → (putK sz e1 o.dst (.v undef) fun e' => opsK P T sz ops l (i :: sk) (i + 1) e' H K) = some r →
        ∃ fr' e', runOps P T ops (o :: l) (fr, H) = some fr' ∧ Rl sz e' fr'.1 ∧ K e' fr'.2 = some r := by
      intro e1 hr1 hw h1
      simp only [runOps, oneD, hw, Option.bind_some]
      obtain ⟨e', h2, h3⟩ := putK_some hr1 h1
      exact opsK_le l _ (i + 1) e' H _ K r h2 h3
    simp only [opsK] at h
    split at h
    · rename_i hg
      exact go e sk hr (by unfold wantedD; rw [hg]) h
    · rename_i j want hg
      split at h
      · rename_i t hj
        have hw : ∀ v, getE e t = .v v → wantedD ops o fr = match v with | .bool b => some (b == want) | .tuple _ => some false | _ => none := by
          intro v hv
          have := hr.bool hv
          unfold wantedD
          simp only [hg, hj, Option.bind_some, this]
          cases v <;> rfl
        split at h
        · split at h
          · rename_i x hx
            exact skip e hr (hw _ hx) h
          · cases h
        · split at h
          · obtain ⟨b, hb, hc⟩ := condK_some h
            have hwb := hw _ hb
            cases b with
            | true => exact go _ sk (hr.same t _ hb) hwb hc
            | false => exact skip _ (hr.same t _ hb) hwb hc
          · obtain ⟨b, hb, hc⟩ := condK_some h
            have hwb := hw _ hb
            cases b with
            | true => exact skip _ (hr.same t _ hb) hwb hc
            | false => exact go _ sk (hr.same t _ hb) hwb hc
      · cases h

theorem runK_le {P : Program} {T : Tab} {kp : List Nat} {n sz : Nat} (c : Code) : ∀ {α : Type} (e : En) (H : Heap) (fr : List D) (K : Lv → En → Heap → Option α) (r : α), Rl sz e fr → runK P T kp n sz c e H K = some r →
    ∃ lv fr' e', runC P T kp n c (fr, H) = some (lv, fr') ∧ Rl sz e' fr'.1 ∧ K lv e' fr'.2 = some r := by
  induction c with
  | skip => intro α e H fr K r hr h; exact ⟨_, _, e, rfl, hr, h⟩
  | label l => intro α e H fr K r hr h; exact ⟨_, _, e, rfl, hr, h⟩
  | exit id => intro α e H fr K r hr h; exact ⟨_, _, e, rfl, hr, h⟩
  | ret => intro α e H fr K r hr h; exact ⟨_, _, e, rfl, hr, h⟩
  | region id ops draw =>
    intro α e H fr K r hr h
    simp only [runK] at h
    simp only [runC, regD]
    split at h
    · rename_i hd
      rw [if_pos hd]
      obtain ⟨fr', e', h1, h2, h3⟩ := opsK_le _ _ _ _ _ _ _ _ hr h
      exact ⟨_, fr', e', by rw [h1]; rfl, h2, h3⟩
    · cases h
  | seq x y ihx ihy =>
    intro α e H fr K r hr h
    simp only [runK] at h
    simp only [runC]
    obtain ⟨lv, fr', e', h1, h2, h3⟩ := ihx e H fr _ r hr h
    rw [h1]
    cases lv with
    | normal => exact ihy e' fr'.2 fr'.1 K r h2 h3
    | exit id => exact ⟨_, fr', e', rfl, h2, h3⟩
    | ret => exact ⟨_, fr', e', rfl, h2, h3⟩
  | cond c x y ihx ihy =>
    intro α e H fr K r hr h
    simp only [runK] at h
    simp only [runC]
    obtain ⟨b, hb, hc⟩ := condK_some h
    have hset : Rl sz (setOp e c b) fr := by
      cases c with
      | tmp t => exact hr.same t _ hb
      | _ => exact hr
    rw [hr.eval] at hb
    rw [hb]
    cases b with
    | true => exact ihx _ H fr K r hset hc
    | false => exact ihy _ H fr K r hset hc
  | block id c ih =>
    intro α e H fr K r hr h
    simp only [runK] at h
    simp only [runC]
    obtain ⟨lv, fr', e', h1, h2, h3⟩ := ih e H fr _ r hr h
    rw [h1]
    cases lv with
    | normal => exact ⟨_, fr', e', rfl, h2, h3⟩
    | ret => exact ⟨_, fr', e', rfl, h2, h3⟩
    | exit j =>
      simp only [blockK, condN] at h3
      by_cases hj : j = id
      · subst hj
        simp only [Nat.beq_refl] at h3
        exact ⟨.normal, fr', e', by simp [blockD], h2, h3⟩
      · have hb : Nat.beq j id = false := by
          cases hb : Nat.beq j id with
          | false => rfl
          | true => exact absurd (Nat.eq_of_beq_eq_true hb) hj
        rw [hb] at h3
        exact ⟨.exit j, fr', e', by simp [blockD, hj], h2, h3⟩
  | loop c ih =>
    intro α e H fr K r hr h
    simp only [runK] at h
    simp only [runC]
    have key : ∀ (m : Nat) (e : En) (H : Heap) (fr : List D) (lv : Lv) (s : List D) (H' : Heap), Rl sz e fr →
        iterS (fun s H => runK P T kp n sz c (mkE kp s 0) H fun lv e H => some (lv, kp.map (getE e), H)) m (kp.map (getE e)) H = some (lv, s, H') →
        ∃ fr0 e0, iterD (fun fr => runC P T kp n c (forget kp fr)) m (fr, H) = some (lv, (fr0, H')) ∧ Rl sz e0 fr0 ∧ s = kp.map (getE e0) := by
      intro m
      induction m with
      | zero => intro e H fr lv s H' _ h; cases h
      | succ m ihm =>
        intro e H fr lv s H' hr h
        simp only [iterS] at h
        cases hx : (runK P T kp n sz c (mkE kp (kp.map (getE e)) 0) H fun lv e H => some (lv, kp.map (getE e), H)) with
        | none => rw [hx] at h; cases h
        | some q =>
          obtain ⟨lv1, fr1, e1, h1, h2, h3⟩ := ih _ H _ _ q (hr.kept kp) hx
          cases h3
          have hf : forget kp (fr, H) = (forgetL kp fr 0, H) := rfl
          simp only [iterD, hf, h1]
          rw [hx] at h
          cases lv1 with
          | normal =>
            obtain ⟨fr0, e0, q1, q2, q3⟩ := ihm e1 fr1.2 fr1.1 lv s H' h2 h
            exact ⟨fr0, e0, q1, q2, q3⟩
          | exit j => cases h; exact ⟨fr1.1, e1, rfl, h2, rfl⟩
          | ret => cases h; exact ⟨fr1.1, e1, rfl, h2, rfl⟩
    cases hx : iterS (fun s H => runK P T kp n sz c (mkE kp s 0) H fun lv e H => some (lv, kp.map (getE e), H)) n (kp.map (getE e)) H with
    | none => rw [hx] at h; cases h
    | some q =>
      obtain ⟨lv, s, H'⟩ := q
      rw [hx] at h
      obtain ⟨fr0, e0, q1, q2, rfl⟩ := key n e H fr lv s H' hr hx
      rw [q1]
      have h' : K lv (mkE kp (kp.map (getE e0)) 0) H' = some r := by
        cases lv with
        | normal => cases h
        | exit j => exact h
        | ret => exact h
      exact ⟨lv, _, _, rfl, q2.kept kp, h'⟩
  | scope c ih => intro α e H fr K r hr h; exact ih e H fr K r hr h
  | rangeFunc g ps as bd iha ihc =>
    intro α e H fr K r hr h
    simp only [runK] at h
    simp only [runC]
    have hs : kp.map (getE e) = kp.map (fr.getD · .undef) := List.map_congr_left fun t _ => hr.get t
    rw [hr.eval, hs, ← hr.len] at h
    cases hx : rangeS T (evalD fr g) ps.toList as bd fr.length kp (kp.map (fr.getD · .undef)) H with
    | none => rw [hx] at h; cases h
    | some q =>
      obtain ⟨lv, H'⟩ := q
      rw [hx] at h
      refine ⟨lv, (fr, H'), e, rfl, hr, ?_⟩
      cases lv <;> exact h
  | _ => intro α e H fr K r hr h; cases h

def resK (P : Program) (e : En) (H : Heap) : ResultVar → Option D
  | .tmp t => some (getE e t)
  | .cell a t => (shapeOf P t).bind fun s => loadH s H (getE e a)
def resKs (P : Program) (e : En) (H : Heap) : List ResultVar → Option (D × Heap)
  | [r] => thn (resK P e H r) fun d => some (d, H)
  | [r1, r2] => thn (resK P e H r1) fun d1 => thn (resK P e H r2) fun d2 => some (.tup [d1, d2], H)
  | [r1, r2, r3] => thn (resK P e H r1) fun d1 => thn (resK P e H r2) fun d2 => thn (resK P e H r3) fun d3 => some (.tup [d1, d2, d3], H)
  | [] => some (.tup [], H)
  | _ => none
/-- What a function gives. -/
def endK (P : Program) (rs : List ResultVar) : Lv → En → Heap → Option (D × Heap)
  | .exit _, _, _ => none
  | _, e, H => resKs P e H rs
def funK (P : Program) (T : Tab) (kp : List Nat) (n : Nat) (c : Code) (ntmps : Nat) (rs : List ResultVar) (ds : List D) (H : Heap) : Option (D × Heap) :=
  if ds.length ≤ ntmps then runK P T kp n ntmps c (ofFr ds 0) H (endK P rs) else none
/-- The bodies of the loops over functions, as they stand in the text: what is put, and the round itself. -/
def rangesOf : Code → List (List Nat × Code × Code)
  | .seq x y | .cond _ x y => rangesOf x ++ rangesOf y
  | .block _ c | .loop c | .scope c => rangesOf c
  | .rangeFunc _ ps as bd => (ps.toList, as, bd) :: (rangesOf as ++ rangesOf bd)
  | _ => []
def rangeA (fn : Func) (i : Nat) : Code := ((rangesOf (fn.body.getD .skip)).getD i ([], .skip, .skip)).2.1
def rangeB (fn : Func) (i : Nat) : Code := ((rangesOf (fn.body.getD .skip)).getD i ([], .skip, .skip)).2.2
end
theorem resK_eq {P : Program} {sz : Nat} {e : En} {H : Heap} {fr : List D} (hr : Rl sz e fr) (r : ResultVar) : resK P e H r = resD P (fr, H) r := by
  cases r with
  | tmp t => simp only [resK, resD, hr.get]
  | cell a t => simp only [resK, resD, hr.get]
theorem funK_le {P : Program} {T : Tab} {kp : List Nat} {n : Nat} {c : Code} {ntmps : Nat} {rs : List ResultVar} {ds : List D} {H H' : Heap} {d : D} (h : funK P T kp n c ntmps rs ds H = some (d, H')) : runF P T kp n c ntmps rs ds H = some (d, H') := by
  unfold funK at h
  unfold runF
  split at h
  · rename_i hle
    have hr : Rl ntmps (ofFr ds 0) (ds ++ List.replicate (ntmps - ds.length) .undef) := by
      refine ⟨by simp; omega, fun t => ?_⟩
      rw [ofFr_get, if_pos (Nat.zero_le _), Nat.sub_zero, List.getD_eq_getElem?_getD, List.getD_eq_getElem?_getD]
      by_cases ht : t < ds.length
      · rw [List.getElem?_append_left ht]
      · rw [List.getElem?_append_right (by omega), List.getElem?_eq_none (by omega)]
        simp only [List.getElem?_replicate]
        split <;> rfl
    obtain ⟨lv, fr, e, h1, h2, h3⟩ := runK_le _ _ _ _ _ _ hr h
    rw [h1]
    have key : ∀ lv : Lv, (∀ j, lv ≠ .exit j) → endK P rs lv e fr.2 = some (d, H') → (resultsD P rs fr).map (fun d => (d, fr.2)) = some (d, H') := by
      intro lv hlv he
      have he' : resKs P e fr.2 rs = some (d, H') := by
        cases lv with
        | exit j => exact absurd rfl (hlv j)
        | normal => exact he
        | ret => exact he
      clear he h h3
      have hres : ∀ r, resK P e fr.2 r = resD P fr r := fun r => resK_eq h2 r
      unfold resKs at he'
      unfold resultsD
      split at he'
      · rename_i r1
        rw [hres] at he'
        cases hd1 : resD P fr r1 with
        | none => rw [hd1] at he'; cases he'
        | some d1 =>
          rw [hd1] at he'
          simp only [thn] at he'
          simp [hd1, he']
      · rename_i r1 r2
        rw [hres, hres] at he'
        cases hd1 : resD P fr r1 with
        | none => rw [hd1] at he'; cases he'
        | some d1 =>
          cases hd2 : resD P fr r2 with
          | none => rw [hd1, hd2] at he'; cases he'
          | some d2 =>
            rw [hd1, hd2] at he'
            simp only [thn] at he'
            simp [hd1, hd2]
            exact Prod.mk.inj (Option.some.inj he')
      · rename_i r1 r2 r3
        rw [hres, hres, hres] at he'
        cases hd1 : resD P fr r1 with
        | none => rw [hd1] at he'; cases he'
        | some d1 =>
          cases hd2 : resD P fr r2 with
          | none => rw [hd1, hd2] at he'; cases he'
          | some d2 =>
            cases hd3 : resD P fr r3 with
            | none => rw [hd1, hd2, hd3] at he'; cases he'
            | some d3 =>
              rw [hd1, hd2, hd3] at he'
              simp only [thn] at he'
              simp [hd1, hd2, hd3]
              exact Prod.mk.inj (Option.some.inj he')
      · simp
        exact Prod.mk.inj (Option.some.inj he')
      · cases he'
    cases lv with
    | exit j => cases h3
    | normal => exact key _ (by intro j hj; cases hj) h3
    | ret => exact key _ (by intro j hj; cases hj) h3
  · cases h
/-- A body, if there is one. -/
def bodyOf (fn : Func) : Code := fn.body.getD .skip
/-- What the function fn gives, by its text, and what it does to the objects. -/
def textK (P : Program) (T : Tab) (kp : List Nat) (n : Nat) (fn : Func) (ds : List D) (H : Heap) : Option (D × Heap) := funK P T kp n (bodyOf fn) fn.ntmps fn.results.toList ds H
theorem hcall_text {P : Program} {T : Tab} {kp : List Nat} (hT : TabOk P T) (hm : P.follows .mixedOrders = true) {f : FuncId} {fn : Func} (hf : P.funcs[f]? = some fn) (hb : fn.body.isSome = true) (hname : fn.name ≠ "runtime.NumGoroutine") {G : List D → Heap → Option (D × Heap)}
    (h : ∀ ds H d H', G ds H = some (d, H') → ∃ n, textK P T kp n fn ds H = some (d, H')) : HCallOk P f G := by
  cases hc : fn.body with
  | none => rw [hc] at hb; cases hb
  | some c =>
    refine hcall_run (kp := kp) hT hm hf hc hname fun ds H d H' hF => ?_
    obtain ⟨n, hn⟩ := h ds H d H' hF
    refine ⟨n, ?_⟩
    unfold textK bodyOf at hn
    rw [hc] at hn
    exact funK_le hn
theorem call_text {P : Program} {T : Tab} {kp : List Nat} (hT : TabOk P T) (hm : P.follows .mixedOrders = true) {f : FuncId} {fn : Func} (hf : P.funcs[f]? = some fn) (hb : fn.body.isSome = true) (hname : fn.name ≠ "runtime.NumGoroutine") {F : List D → Option D}
    (h : ∀ ds d, F ds = some d → ∃ n, outD (textK P T kp n fn ds []) = some d) : CallOk P f F := by
  cases hc : fn.body with
  | none => rw [hc] at hb; cases hb
  | some c =>
    refine call_run (kp := kp) hT hm hf hc hname fun ds d hF => ?_
    obtain ⟨n, hn⟩ := h ds d hF
    refine ⟨n, ?_⟩
    unfold outD at hn ⊢
    obtain ⟨⟨d', H'⟩, h1, h2⟩ := Option.bind_eq_some_iff.1 hn
    unfold textK bodyOf at h1
    rw [hc] at h1
    exact Option.bind_eq_some_iff.2 ⟨_, funK_le h1, h2⟩
end Go.Proofs.Ytnmgfobpcengkaa
