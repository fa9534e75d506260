/-
  Parts joined into one text: HDenK, HDenKit, HDenYld. No condition.
-/
import Derived.Test.YtbnmkdlmalobaaaVg

section
namespace Go.Proofs.Ytbnmkdlmalobaaa
open Go.RowKit
set_option linter.unusedVariables false
set_option linter.unusedSimpArgs false

/-- Slots and what they hold, the last one written ahead. -/
abbrev En := List (Nat × D)
def getE : En → Nat → D
  | [], _ => .undef
  | (s, d) :: r, t =>
    match Nat.beq s t with
    | true => d
    | false => getE r t
def evalE (e : En) : Operand → D
  | .tmp t => getE e t
  | .const v => .v v
  | .global g => .v (.pointer (some ⟨g, 0, none⟩))
  | .func f => .clo (.func f) [] []
/-- The frame of them. -/
def toFr (sz : Nat) (e : En) : List D := (List.range sz).map (getE e)
def ofFr : List D → Nat → En
  | [], _ => []
  | d :: r, k => (k, d) :: ofFr r (k + 1)
/-- They are the frame's. -/
structure Rl (sz : Nat) (e : En) (fr : List D) : Prop where
  len : fr.length = sz
  get : ∀ t, getE e t = fr.getD t .undef

theorem getE_cons (s : Nat) (d : D) (r : En) (t : Nat) : getE ((s, d) :: r) t = if s = t then d else getE r t := by
  simp only [getE]
  by_cases h : s = t
  · subst h
    simp
  · rw [if_neg h]
    have : Nat.beq s t = false := by
      cases hb : Nat.beq s t with
      | false => rfl
      | true => exact absurd (Nat.eq_of_beq_eq_true hb) h
    rw [this]
theorem Rl.set {sz : Nat} {e : En} {fr : List D} (h : Rl sz e fr) (t : Nat) (ht : t < sz) (d : D) : Rl sz ((t, d) :: e) (fr.set t d) := by
  refine ⟨by rw [List.length_set, h.len], fun s => ?_⟩
  rw [getE_cons, List.getD_eq_getElem?_getD]
  by_cases hs : t = s
  · subst hs
    rw [if_pos rfl, List.getElem?_set_self (by rw [h.len]; exact ht)]; rfl
  · rw [if_neg hs, List.getElem?_set_ne hs, h.get s, List.getD_eq_getElem?_getD]
theorem Rl.same {sz : Nat} {e : En} {fr : List D} (h : Rl sz e fr) (t : Nat) (d : D) (hd : getE e t = d) : Rl sz ((t, d) :: e) fr := by
  refine ⟨h.len, fun s => ?_⟩
  rw [getE_cons]
  by_cases hs : t = s
  · subst hs
    rw [if_pos rfl, ← hd, h.get]
  · rw [if_neg hs, h.get]
theorem Rl.eval {sz : Nat} {e : En} {fr : List D} (h : Rl sz e fr) : evalE e = evalD fr := by
  funext x
  cases x <;> first | rfl | exact h.get _
theorem Rl.toFr {sz : Nat} {e : En} {fr : List D} (h : Rl sz e fr) : toFr sz e = fr := by
  apply List.ext_getElem?
  intro i
  by_cases hi : i < sz
  · have hf : i < fr.length := by rw [h.len]; exact hi
    simp [Go.Proofs.Ytbnmkdlmalobaaa.toFr, hi, h.get, List.getElem?_eq_getElem hf]
  · have hf : fr.length ≤ i := by rw [h.len]; omega
    simp [Go.Proofs.Ytbnmkdlmalobaaa.toFr, hi, List.getElem?_eq_none hf]
theorem ofFr_get (fr : List D) (k t : Nat) : getE (ofFr fr k) t = if k ≤ t then fr.getD (t - k) .undef else .undef := by
  induction fr generalizing k with
  | nil => simp [ofFr, getE]
  | cons d r ih =>
    simp only [ofFr]
    rw [getE_cons]
    by_cases h : k = t
    · subst h
      simp
    · rw [if_neg h, ih]
      by_cases hk : k ≤ t
      · rw [if_pos hk, if_pos (by omega)]
        obtain ⟨m, hm⟩ : ∃ m, t - k = m + 1 := ⟨t - k - 1, by omega⟩
        rw [hm, show t - (k + 1) = m from by omega, List.getD_cons_succ]
      · rw [if_neg hk, if_neg (by omega)]
theorem rl_ofFr (fr : List D) (sz : Nat) (h : fr.length = sz) : Rl sz (ofFr fr 0) fr := ⟨h, fun t => by rw [ofFr_get, if_pos (Nat.zero_le _), Nat.sub_zero]⟩

/-- Operations that leave the objects alone. -/
def quietOp : Op → Bool
  | .move _ | .assign _ | .pick _ _ _ | .load _ _ | .field _ _ _ | .fieldAddr _ _ _ | .indexAddr _ _ _ | .build _ _ | .binOp _ _ _ _ _ | .convert _ _ _ | .extract _ _ | .makeInterface _ _ | .makeFunc _ _ _ | .nilCheck _ => true
  | .slice _ _ _ _ none | .index _ _ _ | .typeAssert _ _ _ _ | .lookup _ _ _ _ => true
  | .unOp .not _ _ | .unOp .neg _ _ | .unOp .xor _ _ => true
  | .call { callee := .builtin .len, .. } | .call { callee := .builtin .max, .. } | .call { callee := .builtin .min, .. } => true
  | _ => false
def nilD : D → Option D
  | .hp i o => some (.hp i o)
  | .ptr cs => some (.ptr cs)
  | _ => none
/-- Two operands; nil is spoken of among interface values alone. -/
def binQ (c : Bool) (k : Kd) (op : BinOp) (x y : D) : Option D :=
  match k with
  | .ifc => binN c .ifc op x y
  | k => binK k op x y
theorem binQ_eq (c : Bool) (k : Kd) (op : BinOp) (x y : D) : binQ c k op x y = binN c k op x y := by
  have key : k ≠ .ifc → binK k op x y = binN c k op x y := by
    intro hk
    unfold binN
    split
    · cases k <;> first | (exact absurd rfl hk) | (cases op <;> cases c <;> rfl)
    · rfl
  cases k <;> first | rfl | exact key (fun e => by cases e)
def strId (x : D) : Option D := (strOf x).map fun s => .v (.string s)
/-- What they yield. -/
def opQ (P : Program) (op : Op) (ρ : Operand → D) (H : Heap) : Option D :=
  match op with
  | .move x | .assign x => some (ρ x)
  | .pick c a b => pickD (ρ c) (ρ a) (ρ b)
  | .load t a => (shapeOf P t).bind fun s => loadH s H (ρ a)
  | .field t x f => (fldD P t f).bind fun uo => (shapeOf P uo.1).bind fun s => fieldD s uo.2 (ρ x)
  | .fieldAddr t x f => (fldD P t f).bind fun uo => (P.info? uo.1).bind fun i => if i.size = 0 then none else fieldAtH uo.2 (ρ x)
  | .indexAddr t x i => match arrD P t with | some a => idxA a.1 a.2 (ρ x) (ρ i) | none => (elemSz P t).bind fun sz => idxH sz (ρ x) (ρ i)
  | .slice t x lo hi none =>
    match P.underlying t with
    | some .string => cutS (ρ x) (lo.map ρ) (hi.map ρ)
    | _ => (elemSz P t).bind fun sz => cutH sz (ρ x) (lo.map ρ) (hi.map ρ)
  | .build t ps => buildD P t (ps.toList.map fun (i, x) => (i, ρ x))
  | .binOp op t x y _ => binQ (isConst x || isConst y) (kindOf P t) op (ρ x) (ρ y)
  | .index t x i => match P.underlying t with | some .string => idxS (ρ x) (ρ i) | _ => none
  | .lookup t m k ok => (mapElem P t).bind fun e => (zeroVD P e).bind fun z => lookH z ok H (ρ m) (ρ k)
  | .typeAssert x _ u ok => if isConc P u then (zeroVD P u).bind fun z => assertD u z ok (ρ x) else none
  | .unOp .not _ x => notD (ρ x)
  | .unOp .neg _ x => negD (ρ x)
  | .unOp .xor _ x => xorD (ρ x)
  | .convert s t x =>
    match P.underlying s, P.underlying t with
    | some (.int _), some (.int k) => intOf64 k (ρ x)
    | some (.slice e), some .string =>
      match P.underlying e with
      | some (.int .u8) => bytesS H (ρ x)
      | _ => none
    | some .string, some .string => strId (ρ x)
    | _, _ => none
  | .extract t i => extractD (ρ t) i
  | .makeInterface t x => match P.underlying t with | some (.interface _) | none => none | _ => some (.ifc t (ρ x))
  | .makeFunc f a b => some (.clo f (a.toList.map ρ) (b.toList.map ρ))
  | .nilCheck x => nilD (ρ x)
  | .call { callee := .builtin .len, args, argTypes } =>
    match args.toList, argTypes.toList with
    | [x], t :: _ => lenH (kindOf P t) (ρ x)
    | _, _ => none
  | .call { callee := .builtin .max, args, .. } => maxD (args.toList.map ρ)
  | .call { callee := .builtin .min, args, .. } => minD (args.toList.map ρ)
  | _ => none
theorem opQ_ok {P : Program} {T : Tab} {op : Op} {ρ : Operand → D} {H : Heap} (hq : quietOp op = true) {d : D} (h : opQ P op ρ H = some d) : stepD P T op ρ H = some (d, H) := by
  have hop : opH P op ρ H = same H (opQ P op ρ H) := by
    cases op with
    | slice t x lo hi mx =>
      cases mx with
      | none =>
        simp only [opH, opQ, same]
        cases P.underlying t with
        | none => cases elemSz P t <;> rfl
        | some u => cases u <;> first | rfl | (cases elemSz P t <;> rfl)
      | some m => simp [quietOp] at hq
    | unOp o t x => cases o <;> first | rfl | (simp [quietOp] at hq; done)
    | load t a => simp only [opH, opQ, same]; cases shapeOf P t <;> rfl
    | field t x f =>
      simp only [opH, opQ, same]
      cases fldD P t f with
      | none => rfl
      | some uo => simp only [Option.bind_some]; cases shapeOf P uo.1 <;> rfl
    | fieldAddr t x f =>
      simp only [opH, opQ, same]
      cases fldD P t f with
      | none => rfl
      | some uo =>
        simp only [Option.bind_some]
        cases P.info? uo.1 with
        | none => rfl
        | some i => simp only [Option.bind_some]; split <;> rfl
    | indexAddr t x i =>
      simp only [opH, opQ, same]
      cases arrD P t with
      | some a => rfl
      | none => cases elemSz P t <;> rfl
    | convert s t x =>
      simp only [opH, opQ, same]
      rcases P.underlying s with _ | u <;> rcases P.underlying t with _ | v
      · rfl
      · rfl
      · cases u <;> rfl
      · cases u <;> cases v <;> first | rfl | (rename_i e; dsimp only; rcases P.underlying e with _ | z; rfl; cases z <;> first | rfl | (rename_i k; cases k <;> rfl))
    | index t x i =>
      simp only [opH, opQ, same]
      cases P.underlying t with
      | none => rfl
      | some u => cases u <;> rfl
    | lookup t m k ok =>
      simp only [opH, opQ, same]
      cases mapElem P t with
      | none => rfl
      | some e => simp only [Option.bind_some]; cases zeroVD P e <;> rfl
    | typeAssert x t u ok =>
      simp only [opH, opQ, same]
      split
      · cases zeroVD P u <;> rfl
      · rfl
    | makeInterface t x =>
      simp only [opH, opQ, same]
      cases P.underlying t with
      | none => rfl
      | some u => cases u <;> rfl
    | nilCheck x =>
      simp only [opH, opQ, nilD, same]
      cases ρ x <;> rfl
    | call c =>
      obtain ⟨callee, args, ats⟩ := c
      cases callee with
      | builtin b =>
        cases b with
        | len =>
          simp only [opH, opQ, same]
          cases args.toList with
          | nil => rfl
          | cons x r =>
            cases r with
            | nil => cases ats.toList <;> rfl
            | cons y z => rfl
        | max => rfl
        | min => rfl
        | _ => simp [quietOp] at hq
      | _ => simp [quietOp] at hq
    | move x => rfl
    | assign x => rfl
    | pick c a b => rfl
    | build t ps => rfl
    | binOp o t x y u => simp only [opH, opQ, binQ_eq, same]
    | extract t i => rfl
    | makeFunc f a b => rfl
    | _ => simp [quietOp] at hq
  have hst : stepD P T op ρ H = opH P op ρ H := by
    unfold stepD
    split
    · simp [quietOp] at hq
    · simp [quietOp] at hq
    · simp [quietOp] at hq
    · simp [quietOp] at hq
    · rfl
  rw [hst, hop, h]; rfl

section
variable {α : Type}
/-- Two ways. -/
def condK (d : D) (x y : Option α) : Option α :=
  match d with
  | .v (.bool true) => x
  | .v (.bool false) => y
  | _ => none
/-- What must hold of values, that a drawn order makes no difference. -/
def apartK (a b : D) (k : Option α) : Option α := match apartB a b with | true => k | false => none
def wholeK (a : D) (k : Option α) : Option α := match wholeB a with | true => k | false => none
def pureK (as' : List D) (k : Option α) : Option α := match pureL as' with | true => k | false => none
def sameK (a : D) (H H' : Heap) (k : Option α) : Option α :=
  match idD a with
  | none => k
  | some i => match sameB i H H' with | true => k | false => none
def sameO (a : D) (H H' : Option Heap) (k : Option α) : Option α :=
  match H, H' with
  | some H, some H' => sameK a H H' k
  | _, _ => none
def guardsK (ρ : Operand → D) (hs : List Heap) : List Gd → Option α → Option α
  | [], k => k
  | .apart a b :: r, k => apartK (ρ a) (ρ b) (guardsK ρ hs r k)
  | .whole a :: r, k => wholeK (ρ a) (guardsK ρ hs r k)
  | .pure as' :: r, k => pureK (as'.map ρ) (guardsK ρ hs r k)
  | .same a j :: r, k => sameO (ρ a) hs[j]? hs[j + 1]? (guardsK ρ hs r k)
theorem guardsK_some {ρ : Operand → D} {hs : List Heap} : ∀ {gs : List Gd} {k : Option α} {r : α}, guardsK ρ hs gs k = some r → gs.all (Gd.holds ρ hs) = true ∧ k = some r
  | [], k, r, h => ⟨rfl, h⟩
  | .apart a b :: gs, k, r, h => by
    simp only [guardsK, apartK] at h
    split at h
    · rename_i h1
      have := guardsK_some h
      exact ⟨by rw [List.all_cons, this.1]; simp [Gd.holds, h1], this.2⟩
    · cases h
  | .whole a :: gs, k, r, h => by
    simp only [guardsK, wholeK] at h
    split at h
    · rename_i h1
      have := guardsK_some h
      exact ⟨by rw [List.all_cons, this.1]; simp [Gd.holds, h1], this.2⟩
    · cases h
  | .pure as' :: gs, k, r, h => by
    simp only [guardsK, pureK] at h
    split at h
    · rename_i h1
      have := guardsK_some h
      exact ⟨by rw [List.all_cons, this.1]; simp [Gd.holds, h1], this.2⟩
    · cases h
  | .same a j :: gs, k, r, h => by
    simp only [guardsK, sameO] at h
    split at h
    · rename_i H H' h1 h2
      unfold sameK at h
      split at h
      · rename_i h3
        have := guardsK_some h
        exact ⟨by rw [List.all_cons, this.1]; simp [Gd.holds, h1, h2, h3], this.2⟩
      · rename_i i h3
        split at h
        · rename_i h4
          have := guardsK_some h
          exact ⟨by rw [List.all_cons, this.1]; simp [Gd.holds, h1, h2, h3, h4], this.2⟩
        · cases h
    · cases h
/-- One behind the other. -/
def thn (o : Option D) (k : D → Option α) : Option α :=
  match o with
  | some d => k d
  | none => none
def thnH (o : Option (D × Heap)) (k : D → Heap → Option α) : Option α :=
  match o with
  | some r => k r.1 r.2
  | none => none
def setOp (e : En) (c : Operand) (b : Bool) : En :=
  match c with
  | .tmp t => (t, .v (.bool b)) :: e
  | _ => e
def putK (sz : Nat) (e : En) (dst : Option Tmp) (d : D) (k : En → Option α) : Option α :=
  match dst with
  | none => k e
  | some t =>
    match Nat.blt t sz with
    | true => k ((t, d) :: e)
    | false => none
def stepK (P : Program) (T : Tab) (op : Op) (e : En) (H : Heap) (k : D → Heap → Option α) : Option α :=
  match quietOp op with
  | true => thn (opQ P op (evalE e) H) fun d => k d H
  | false => thnH (stepD P T op (evalE e) H) k
/-- sk: the operations that were not carried out. -/
def opsK (P : Program) (T : Tab) (sz : Nat) (ops : List Oper) : List Oper → List Nat → Nat → En → Heap → List Heap → (En → Heap → List Heap → Option α) → Option α
  | [], sk, i, e, H, rh, K => K e H (List.reverse (H :: rh))
  | o :: r, sk, i, e, H, rh, K =>
    match o.guard with
    | none => stepK P T o.op e H fun d H' => putK sz e o.dst d fun e' => opsK P T sz ops r sk (i + 1) e' H' (H :: rh) K
    | some (j, want) =>
      match (ops[j]?).bind (·.dst) with
      | some t =>
        match sk.contains j with
        | true =>
          match getE e t with
          | .v (.tuple _) => putK sz e o.dst (.v undef) fun e' => opsK P T sz ops r (i :: sk) (i + 1) e' H (H :: rh) K
          | _ => none
        | false =>
          match want with
          | true => condK (getE e t) (stepK P T o.op ((t, .v (.bool true)) :: e) H fun d H' => putK sz ((t, .v (.bool true)) :: e) o.dst d fun e' => opsK P T sz ops r sk (i + 1) e' H' (H :: rh) K) (putK sz ((t, .v (.bool false)) :: e) o.dst (.v undef) fun e' => opsK P T sz ops r (i :: sk) (i + 1) e' H (H :: rh) K)
          | false => condK (getE e t) (putK sz ((t, .v (.bool true)) :: e) o.dst (.v undef) fun e' => opsK P T sz ops r (i :: sk) (i + 1) e' H (H :: rh) K) (stepK P T o.op ((t, .v (.bool false)) :: e) H fun d H' => putK sz ((t, .v (.bool false)) :: e) o.dst d fun e' => opsK P T sz ops r sk (i + 1) e' H' (H :: rh) K)
      | none => none
def seqK (k : En → Heap → Option α) (K : Lv → En → Heap → Option α) : Lv → En → Heap → Option α
  | .normal, e, H => k e H
  | lv, e, H => K lv e H
/-- Is it the exit of this block? -/
def condN (j id : Nat) (x y : Option α) : Option α :=
  match Nat.beq j id with
  | true => x
  | false => y
def blockK (id : Nat) (K : Lv → En → Heap → Option α) : Lv → En → Heap → Option α
  | .exit j, e, H => condN j id (K .normal e H) (K (.exit j) e H)
  | lv, e, H => K lv e H
def lvK (lv : Lv) (x : Nat → Option α) (r : Option α) : Option α :=
  match lv with
  | .normal => none
  | .exit j => x j
  | .ret => r
/-- Behind a loop. -/
def leaveK (r : Option (Lv × List D × Heap)) (x : Nat → List D → Heap → Option α) (y : List D → Heap → Option α) : Option α :=
  match r with
  | some (lv, s, H) => lvK lv (fun j => x j s H) (y s H)
  | none => none
/-- Behind a loop over a function. -/
def leaveR3 (r : Option (Lv × Heap)) (x : Heap → Option α) (y : Nat → Heap → Option α) (z : Heap → Option α) : Option α :=
  match r with
  | some (.normal, H) => x H
  | some (.exit j, H) => y j H
  | some (.ret, H) => z H
  | none => none
end
def mkE : List Nat → List D → Nat → En
  | [], _, _ => []
  | t :: r, s, i => (t, s.getD i .undef) :: mkE r s (i + 1)
/-- Rounds of a loop, over what is kept. -/
def iterS (step : List D → Heap → Option (Lv × List D × Heap)) : Nat → List D → Heap → Option (Lv × List D × Heap)
  | 0, _, _ => none
  | m + 1, s, H =>
    match step s H with
    | some (.normal, s', H') => iterS step m s' H'
    | r => r
def runK (P : Program) (T : Tab) (kp : List Nat) (n sz : Nat) : Code → {α : Type} → En → Heap → (Lv → En → Heap → Option α) → Option α
  | .skip, _, e, H, K | .label _, _, e, H, K => K .normal e H
  | .region _ ops draw, _, e, H, K => if !draw || drawOk T ops.toList then opsK P T sz ops.toList ops.toList [] 0 e H [] (fun e' H' hs => guardsK (evalE e') hs (if draw then guardsOf T ops.toList else []) (K .normal e' H')) else none
  | .seq x y, _, e, H, K => runK P T kp n sz x e H (seqK (fun e' H' => runK P T kp n sz y e' H' K) K)
  | .cond c x y, _, e, H, K => condK (evalE e c) (runK P T kp n sz x (setOp e c true) H K) (runK P T kp n sz y (setOp e c false) H K)
  | .block id c, _, e, H, K => runK P T kp n sz c e H (blockK id K)
  | .loop c, _, e, H, K => leaveK (iterS (fun s H => runK P T kp n sz c (mkE kp s 0) H fun lv e H => some (lv, kp.map (getE e), H)) n (kp.map (getE e)) H) (fun j s H' => K (.exit j) (mkE kp s 0) H') fun s H' => K .ret (mkE kp s 0) H'
  | .exit id, _, e, H, K => K (.exit id) e H
  | .ret, _, e, H, K => K .ret e H
  | .scope c, _, e, H, K => runK P T kp n sz c e H K
  | .rangeFunc g ps as' bd, _, e, H, K => leaveR3 (rangeS T (evalE e g) ps.toList as' bd sz kp (kp.map (getE e)) H) (fun H' => K .normal e H') (fun j H' => K (.exit j) e H') (fun H' => K .ret e H')
  | _, _, _, _, _ => none
/-- One round of a loop. -/
def stepS (P : Program) (T : Tab) (kp : List Nat) (n sz : Nat) (c : Code) (s : List D) (H : Heap) : Option (Lv × List D × Heap) := runK P T kp n sz c (mkE kp s 0) H fun lv e H => some (lv, kp.map (getE e), H)

/-- The loops' bodies, as they stand in the text. -/
def loopsOf : Code → List Code
  | .seq x y => loopsOf x ++ loopsOf y
  | .cond _ x y => loopsOf x ++ loopsOf y
  | .block _ c | .scope c => loopsOf c
  | .loop c => c :: loopsOf c
  | _ => []
/-- The i-th loop of a function, over what is kept. -/
def loopF (P : Program) (T : Tab) (kp : List Nat) (n : Nat) (fn : Func) (i : Nat) (s : List D) (H : Heap) : Option (Lv × List D × Heap) :=
  iterS (stepS P T kp n fn.ntmps ((loopsOf (fn.body.getD .skip)).getD i .skip)) n s H
def stepF (P : Program) (T : Tab) (kp : List Nat) (n : Nat) (fn : Func) (i : Nat) (s : List D) (H : Heap) : Option (Lv × List D × Heap) :=
  stepS P T kp n fn.ntmps ((loopsOf (fn.body.getD .skip)).getD i .skip) s H

theorem mkE_get (g : Nat → D) : ∀ (kp : List Nat) (s : List D) (i t : Nat), (∀ j u, kp[j]? = some u → s.getD (i + j) .undef = g u) → getE (mkE kp s i) t = if kp.contains t then g t else .undef
  | [], s, i, t, h => by simp [mkE, getE]
  | u :: r, s, i, t, h => by
    have h0 := h 0 u rfl
    rw [Nat.add_zero] at h0
    simp only [mkE]
    rw [getE_cons, h0]
    by_cases hu : u = t
    · subst hu
      simp
    · rw [if_neg hu, mkE_get g r s (i + 1) t fun j v hj => by
        have := h (j + 1) v (by simpa using hj)
        rwa [show i + 1 + j = i + (j + 1) from by omega]]
      have : (u :: r).contains t = r.contains t := by
        simp only [List.contains_cons]
        have : (t == u) = false := by simp; exact fun h => hu h.symm
        rw [this, Bool.false_or]
      rw [this]
theorem Rl.kept {sz : Nat} {e : En} {fr : List D} (h : Rl sz e fr) (kp : List Nat) : Rl sz (mkE kp (kp.map (getE e)) 0) (forgetL kp fr 0) := by
  refine ⟨by rw [forgetL_length, h.len], fun t => ?_⟩
  rw [forgetL_get, Nat.zero_add, mkE_get (getE e) kp _ 0 t (fun j u hj => by
    rw [List.getD_eq_getElem?_getD, Nat.zero_add, List.getElem?_map, hj]; rfl), h.get]

section
variable {α : Type}
theorem condK_some {d : D} {x y : Option α} {r : α} (h : condK d x y = some r) : ∃ b, d = .v (.bool b) ∧ (if b then x else y) = some r := by
  unfold condK at h
  split at h
  · exact ⟨true, rfl, h⟩
  · exact ⟨false, rfl, h⟩
  · cases h
theorem putK_some {sz : Nat} {e : En} {fr : List D} {dst : Option Tmp} {d : D} {k : En → Option α} {r : α} (hr : Rl sz e fr) (h : putK sz e dst d k = some r) : ∃ e', Rl sz e' (putD fr dst d) ∧ k e' = some r := by
  unfold putK at h
  split at h
  · exact ⟨e, hr, h⟩
  · rename_i t
    split at h
    · rename_i hb
      exact ⟨_, hr.set t (by simp [Nat.blt] at hb; omega) d, h⟩
    · cases h
theorem stepK_some {P : Program} {T : Tab} {op : Op} {e : En} {H : Heap} {k : D → Heap → Option α} {r : α} (h : stepK P T op e H k = some r) : ∃ d H', stepD P T op (evalE e) H = some (d, H') ∧ k d H' = some r := by
  unfold stepK at h
  split at h
  · rename_i hq
    cases ho : opQ P op (evalE e) H with
    | none => rw [ho] at h; cases h
    | some d => rw [ho] at h; exact ⟨d, H, opQ_ok hq ho, h⟩
  · cases ho : stepD P T op (evalE e) H with
    | none => rw [ho] at h; cases h
    | some p => rw [ho] at h; exact ⟨p.1, p.2, rfl, h⟩
theorem Rl.bool {sz : Nat} {e : En} {fr : List D} (h : Rl sz e fr) {t : Nat} {v : Value} (hb : getE e t = .v v) : fr[t]? = some (.v v) := by
  rw [h.get, List.getD_eq_getElem?_getD] at hb
  cases hq : fr[t]? with
  | none => rw [hq] at hb; cases hb
  | some x => rw [hq] at hb; simp at hb; rw [hb]

/-- Where what is handed on gives something, the run gives the same. -/
theorem opsK_le {P : Program} {T : Tab} {sz : Nat} {ops : List Oper} : ∀ (l : List Oper) (sk : List Nat) (i : Nat) (e : En) (H : Heap) (rh : List Heap) (fr : List D) (K : En → Heap → List Heap → Option α) (r : α), Rl sz e fr → opsK P T sz ops l sk i e H rh K = some r →
    ∃ fr' e', runOps P T ops l (fr, H) = some fr' ∧ Rl sz e' fr'.1 ∧ K e' fr'.2 (rh.reverse ++ heapsOf P T ops l (fr, H)) = some r
  | [], sk, i, e, H, rh, fr, K, r, hr, h => ⟨(fr, H), e, rfl, hr, by simpa [opsK, heapsOf] using h⟩
  | o :: l, sk, i, e, H, rh, fr, K, r, hr, h => by
    have go : ∀ (e1 : En) (sk' : List Nat), Rl sz e1 fr → wantedD ops o fr = some true → (stepK P T o.op e1 H fun d H' => putK sz e1 o.dst d fun e' => opsK P T sz ops l sk' (i + 1) e' H' (H :: rh) K) = some r →
        ∃ fr' e', runOps P T ops (o :: l) (fr, H) = some fr' ∧ Rl sz e' fr'.1 ∧ K e' fr'.2 (rh.reverse ++ heapsOf P T ops (o :: l) (fr, H)) = some r := by
      intro e1 sk' hr1 hw h1
      obtain ⟨d, H', hs, h1⟩ := stepK_some h1
      rw [hr1.eval] at hs
      simp only [runOps, oneD, hw, hs, Option.bind_some]
      obtain ⟨e', h2, h3⟩ := putK_some hr1 h1
      obtain ⟨fr2, e2, q1, q2, q3⟩ := opsK_le l sk' (i + 1) e' H' (H :: rh) _ K r h2 h3
      exact ⟨fr2, e2, q1, q2, by simpa [heapsOf, oneD, hw, hs] using q3⟩
    have skip : ∀ (e1 : En), Rl sz e1 fr → wantedD ops o fr = some false → (putK sz e1 o.dst (.v undef) fun e' => opsK P T sz ops l (i :: sk) (i + 1) e' H (H :: rh) K) = some r →
        ∃ fr' e', runOps P T ops (o :: l) (fr, H) = some fr' ∧ Rl sz e' fr'.1 ∧ K e' fr'.2 (rh.reverse ++ heapsOf P T ops (o :: l) (fr, H)) = some r := by
      intro e1 hr1 hw h1
      simp only [runOps, oneD, hw, Option.bind_some]
      obtain ⟨e', h2, h3⟩ := putK_some hr1 h1
      obtain ⟨fr2, e2, q1, q2, q3⟩ := opsK_le l _ (i + 1) e' H (H :: rh) _ K r h2 h3
      exact ⟨fr2, e2, q1, q2, by simpa [heapsOf, oneD, hw] using q3⟩
    simp only [opsK] at h
    split at h
    · rename_i hg
      exact go e sk hr (by unfold wantedD; rw [hg]) h
    · rename_i j want hg
      split at h
      · rename_i t hj
        have hw : ∀ v, getE e t = .v v → wantedD ops o fr = match v with | .bool b => some (b == want) | .tuple _ => some false | _ => none := by
          intro v hv
          have := hr.bool hv
          unfold wantedD
          simp only [hg, hj, Option.bind_some, this]
          cases v <;> rfl
        split at h
        · split at h
          · rename_i x hx
            exact skip e hr (hw _ hx) h
          · cases h
        · split at h
          · obtain ⟨b, hb, hc⟩ := condK_some h
            have hwb := hw _ hb
            cases b with
            | true => exact go _ sk (hr.same t _ hb) hwb hc
            | false => exact skip _ (hr.same t _ hb) hwb hc
          · obtain ⟨b, hb, hc⟩ := condK_some h
            have hwb := hw _ hb
            cases b with
            | true => exact skip _ (hr.same t _ hb) hwb hc
            | false => exact go _ sk (hr.same t _ hb) hwb hc
      · cases h

theorem runK_le {P : Program} {T : Tab} {kp : List Nat} {n sz : Nat} (c : Code) : ∀ {α : Type} (e : En) (H : Heap) (fr : List D) (K : Lv → En → Heap → Option α) (r : α), Rl sz e fr → runK P T kp n sz c e H K = some r →
    ∃ lv fr' e', runC P T kp n c (fr, H) = some (lv, fr') ∧ Rl sz e' fr'.1 ∧ K lv e' fr'.2 = some r := by
  induction c with
  | skip => intro α e H fr K r hr h; exact ⟨_, _, e, rfl, hr, h⟩
  | label l => intro α e H fr K r hr h; exact ⟨_, _, e, rfl, hr, h⟩
  | exit id => intro α e H fr K r hr h; exact ⟨_, _, e, rfl, hr, h⟩
  | ret => intro α e H fr K r hr h; exact ⟨_, _, e, rfl, hr, h⟩
  | region id ops draw =>
    intro α e H fr K r hr h
    simp only [runK] at h
    simp only [runC, regD]
    split at h
    · rename_i hd
      rw [if_pos hd]
      obtain ⟨fr', e', h1, h2, h3⟩ := opsK_le _ _ _ _ _ _ _ _ _ hr h
      obtain ⟨h4, h5⟩ := guardsK_some h3
      refine ⟨_, fr', e', ?_, h2, h5⟩
      rw [h1, Option.bind_some, if_pos]
      cases draw with
      | false => rfl
      | true => rw [h2.eval] at h4; simpa using h4
    · cases h
  | seq x y ihx ihy =>
    intro α e H fr K r hr h
    simp only [runK] at h
    simp only [runC]
    obtain ⟨lv, fr', e', h1, h2, h3⟩ := ihx e H fr _ r hr h
    rw [h1]
    cases lv with
    | normal => exact ihy e' fr'.2 fr'.1 K r h2 h3
    | exit id => exact ⟨_, fr', e', rfl, h2, h3⟩
    | ret => exact ⟨_, fr', e', rfl, h2, h3⟩
  | cond c x y ihx ihy =>
    intro α e H fr K r hr h
    simp only [runK] at h
    simp only [runC]
    obtain ⟨b, hb, hc⟩ := condK_some h
    have hset : Rl sz (setOp e c b) fr := by
      cases c with
      | tmp t => exact hr.same t _ hb
      | _ => exact hr
    rw [hr.eval] at hb
    rw [hb]
    cases b with
    | true => exact ihx _ H fr K r hset hc
    | false => exact ihy _ H fr K r hset hc
  | block id c ih =>
    intro α e H fr K r hr h
    simp only [runK] at h
    simp only [runC]
    obtain ⟨lv, fr', e', h1, h2, h3⟩ := ih e H fr _ r hr h
    rw [h1]
    cases lv with
    | normal => exact ⟨_, fr', e', rfl, h2, h3⟩
    | ret => exact ⟨_, fr', e', rfl, h2, h3⟩
    | exit j =>
      simp only [blockK, condN] at h3
      by_cases hj : j = id
      · subst hj
        simp only [Nat.beq_refl] at h3
        exact ⟨.normal, fr', e', by simp [blockD], h2, h3⟩
      · have hb : Nat.beq j id = false := by
          cases hb : Nat.beq j id with
          | false => rfl
          | true => exact absurd (Nat.eq_of_beq_eq_true hb) hj
        rw [hb] at h3
        exact ⟨.exit j, fr', e', by simp [blockD, hj], h2, h3⟩
  | loop c ih =>
    intro α e H fr K r hr h
    simp only [runK] at h
    simp only [runC]
    have key : ∀ (m : Nat) (e : En) (H : Heap) (fr : List D) (lv : Lv) (s : List D) (H' : Heap), Rl sz e fr →
        iterS (fun s H => runK P T kp n sz c (mkE kp s 0) H fun lv e H => some (lv, kp.map (getE e), H)) m (kp.map (getE e)) H = some (lv, s, H') →
        ∃ fr0 e0, iterD (fun fr => runC P T kp n c (forget kp fr)) m (fr, H) = some (lv, (fr0, H')) ∧ Rl sz e0 fr0 ∧ s = kp.map (getE e0) := by
      intro m
      induction m with
      | zero => intro e H fr lv s H' _ h; cases h
      | succ m ihm =>
        intro e H fr lv s H' hr h
        simp only [iterS] at h
        cases hx : (runK P T kp n sz c (mkE kp (kp.map (getE e)) 0) H fun lv e H => some (lv, kp.map (getE e), H)) with
        | none => rw [hx] at h; cases h
        | some q =>
          obtain ⟨lv1, fr1, e1, h1, h2, h3⟩ := ih _ H _ _ q (hr.kept kp) hx
          cases h3
          have hf : forget kp (fr, H) = (forgetL kp fr 0, H) := rfl
          simp only [iterD, hf, h1]
          rw [hx] at h
          cases lv1 with
          | normal =>
            obtain ⟨fr0, e0, q1, q2, q3⟩ := ihm e1 fr1.2 fr1.1 lv s H' h2 h
            exact ⟨fr0, e0, q1, q2, q3⟩
          | exit j => cases h; exact ⟨fr1.1, e1, rfl, h2, rfl⟩
          | ret => cases h; exact ⟨fr1.1, e1, rfl, h2, rfl⟩
    cases hx : iterS (fun s H => runK P T kp n sz c (mkE kp s 0) H fun lv e H => some (lv, kp.map (getE e), H)) n (kp.map (getE e)) H with
    | none => rw [hx] at h; cases h
    | some q =>
      obtain ⟨lv, s, H'⟩ := q
      rw [hx] at h
      obtain ⟨fr0, e0, q1, q2, rfl⟩ := key n e H fr lv s H' hr hx
      rw [q1]
      have h' : K lv (mkE kp (kp.map (getE e0)) 0) H' = some r := by
        cases lv with
        | normal => cases h
        | exit j => exact h
        | ret => exact h
      exact ⟨lv, _, _, rfl, q2.kept kp, h'⟩
  | scope c ih => intro α e H fr K r hr h; exact ih e H fr K r hr h
  | rangeFunc g ps as' bd iha ihc =>
    intro α e H fr K r hr h
    simp only [runK] at h
    simp only [runC]
    have hs : kp.map (getE e) = kp.map (fr.getD · .undef) := List.map_congr_left fun t _ => hr.get t
    rw [hr.eval, hs, ← hr.len] at h
    cases hx : rangeS T (evalD fr g) ps.toList as' bd fr.length kp (kp.map (fr.getD · .undef)) H with
    | none => rw [hx] at h; cases h
    | some q =>
      obtain ⟨lv, H'⟩ := q
      rw [hx] at h
      refine ⟨lv, (fr, H'), e, rfl, hr, ?_⟩
      cases lv <;> exact h
  | _ => intro α e H fr K r hr h; cases h

def resK (P : Program) (e : En) (H : Heap) : ResultVar → Option D
  | .tmp t => some (getE e t)
  | .cell a t => (shapeOf P t).bind fun s => loadH s H (getE e a)
def resKs (P : Program) (e : En) (H : Heap) : List ResultVar → Option (D × Heap)
  | [r] => thn (resK P e H r) fun d => some (d, H)
  | [r1, r2] => thn (resK P e H r1) fun d1 => thn (resK P e H r2) fun d2 => some (.tup [d1, d2], H)
  | [r1, r2, r3] => thn (resK P e H r1) fun d1 => thn (resK P e H r2) fun d2 => thn (resK P e H r3) fun d3 => some (.tup [d1, d2, d3], H)
  | [] => some (.tup [], H)
  | _ => none
/-- What a function gives. -/
def endK (P : Program) (rs : List ResultVar) : Lv → En → Heap → Option (D × Heap)
  | .exit _, _, _ => none
  | _, e, H => resKs P e H rs
def funK (P : Program) (T : Tab) (kp : List Nat) (n : Nat) (c : Code) (ntmps : Nat) (rs : List ResultVar) (ds : List D) (H : Heap) : Option (D × Heap) :=
  if ds.length ≤ ntmps then runK P T kp n ntmps c (ofFr ds 0) H (endK P rs) else none
/-- The bodies of the loops over functions, as they stand in the text: what is put, and the round itself. -/
def rangesOf : Code → List (List Nat × Code × Code)
  | .seq x y | .cond _ x y => rangesOf x ++ rangesOf y
  | .block _ c | .loop c | .scope c => rangesOf c
  | .rangeFunc _ ps as' bd => (ps.toList, as', bd) :: (rangesOf as' ++ rangesOf bd)
  | _ => []
def rangeA (fn : Func) (i : Nat) : Code := ((rangesOf (fn.body.getD .skip)).getD i ([], .skip, .skip)).2.1
def rangeB (fn : Func) (i : Nat) : Code := ((rangesOf (fn.body.getD .skip)).getD i ([], .skip, .skip)).2.2
end
theorem resK_eq {P : Program} {sz : Nat} {e : En} {H : Heap} {fr : List D} (hr : Rl sz e fr) (r : ResultVar) : resK P e H r = resD P (fr, H) r := by
  cases r with
  | tmp t => simp only [resK, resD, hr.get]
  | cell a t => simp only [resK, resD, hr.get]
theorem funK_le {P : Program} {T : Tab} {kp : List Nat} {n : Nat} {c : Code} {ntmps : Nat} {rs : List ResultVar} {ds : List D} {H H' : Heap} {d : D} (h : funK P T kp n c ntmps rs ds H = some (d, H')) : runF P T kp n c ntmps rs ds H = some (d, H') := by
  unfold funK at h
  unfold runF
  split at h
  · rename_i hle
    have hr : Rl ntmps (ofFr ds 0) (ds ++ List.replicate (ntmps - ds.length) .undef) := by
      refine ⟨by simp; omega, fun t => ?_⟩
      rw [ofFr_get, if_pos (Nat.zero_le _), Nat.sub_zero, List.getD_eq_getElem?_getD, List.getD_eq_getElem?_getD]
      by_cases ht : t < ds.length
      · rw [List.getElem?_append_left ht]
      · rw [List.getElem?_append_right (by omega), List.getElem?_eq_none (by omega)]
        simp only [List.getElem?_replicate]
        split <;> rfl
    obtain ⟨lv, fr, e, h1, h2, h3⟩ := runK_le _ _ _ _ _ _ hr h
    rw [h1]
    have key : ∀ lv : Lv, (∀ j, lv ≠ .exit j) → endK P rs lv e fr.2 = some (d, H') → (resultsD P rs fr).map (fun d => (d, fr.2)) = some (d, H') := by
      intro lv hlv he
      have he' : resKs P e fr.2 rs = some (d, H') := by
        cases lv with
        | exit j => exact absurd rfl (hlv j)
        | normal => exact he
        | ret => exact he
      clear he h h3
      have hres : ∀ r, resK P e fr.2 r = resD P fr r := fun r => resK_eq h2 r
      unfold resKs at he'
      unfold resultsD
      split at he'
      · rename_i r1
        rw [hres] at he'
        cases hd1 : resD P fr r1 with
        | none => rw [hd1] at he'; cases he'
        | some d1 =>
          rw [hd1] at he'
          simp only [thn] at he'
          simp [hd1, he']
      · rename_i r1 r2
        rw [hres, hres] at he'
        cases hd1 : resD P fr r1 with
        | none => rw [hd1] at he'; cases he'
        | some d1 =>
          cases hd2 : resD P fr r2 with
          | none => rw [hd1, hd2] at he'; cases he'
          | some d2 =>
            rw [hd1, hd2] at he'
            simp only [thn] at he'
            simp [hd1, hd2]
            exact Prod.mk.inj (Option.some.inj he')
      · rename_i r1 r2 r3
        rw [hres, hres, hres] at he'
        cases hd1 : resD P fr r1 with
        | none => rw [hd1] at he'; cases he'
        | some d1 =>
          cases hd2 : resD P fr r2 with
          | none => rw [hd1, hd2] at he'; cases he'
          | some d2 =>
            cases hd3 : resD P fr r3 with
            | none => rw [hd1, hd2, hd3] at he'; cases he'
            | some d3 =>
              rw [hd1, hd2, hd3] at he'
              simp only [thn] at he'
              simp [hd1, hd2, hd3]
              exact Prod.mk.inj (Option.some.inj he')
      · simp
        exact Prod.mk.inj (Option.some.inj he')
      · cases he'
    cases lv with
    | exit j => cases h3
    | normal => exact key _ (by intro j hj; cases hj) h3
    | ret => exact key _ (by intro j hj; cases hj) h3
  · cases h
/-- A body, if there is one. -/
def bodyOf (fn : Func) : Code := fn.body.getD .skip
/-- What the function fn gives, by its text, and what it does to the objects. -/
def textK (P : Program) (T : Tab) (kp : List Nat) (n : Nat) (fn : Func) (ds : List D) (H : Heap) : Option (D × Heap) := funK P T kp n (bodyOf fn) fn.ntmps fn.results.toList ds H
theorem hcall_text {P : Program} {T : Tab} {kp : List Nat} (hT : TabOk P T) (hm : P.follows .mixedOrders = true) {f : FuncId} {fn : Func} (hf : P.funcs[f]? = some fn) (hb : fn.body.isSome = true) (hname : fn.name ≠ "runtime.NumGoroutine") {G : List D → Heap → Option (D × Heap)}
    (h : ∀ ds H d H', G ds H = some (d, H') → ∃ n, textK P T kp n fn ds H = some (d, H')) : HCallOk P f G := by
  cases hc : fn.body with
  | none => rw [hc] at hb; cases hb
  | some c =>
    refine hcall_run (kp := kp) hT hm hf hc hname fun ds H d H' hF => ?_
    obtain ⟨n, hn⟩ := h ds H d H' hF
    refine ⟨n, ?_⟩
    unfold textK bodyOf at hn
    rw [hc] at hn
    exact funK_le hn
theorem call_text {P : Program} {T : Tab} {kp : List Nat} (hT : TabOk P T) (hm : P.follows .mixedOrders = true) {f : FuncId} {fn : Func} (hf : P.funcs[f]? = some fn) (hb : fn.body.isSome = true) (hname : fn.name ≠ "runtime.NumGoroutine") {F : List D → Option D}
    (h : ∀ ds d, F ds = some d → ∃ n, outD (textK P T kp n fn ds []) = some d) : CallOk P f F := by
  cases hc : fn.body with
  | none => rw [hc] at hb; cases hb
  | some c =>
    refine call_run (kp := kp) hT hm hf hc hname fun ds d hF => ?_
    obtain ⟨n, hn⟩ := h ds d hF
    refine ⟨n, ?_⟩
    unfold outD at hn ⊢
    obtain ⟨⟨d', H'⟩, h1, h2⟩ := Option.bind_eq_some_iff.1 hn
    unfold textK bodyOf at h1
    rw [hc] at h1
    exact Option.bind_eq_some_iff.2 ⟨_, funK_le h1, h2⟩
end Go.Proofs.Ytbnmkdlmalobaaa
end

section
namespace Go.Proofs.Ytbnmkdlmalobaaa
open Go.RowKit
set_option linter.unusedVariables false
set_option linter.unusedSimpArgs false

abbrev iD (n : Int) : D := .v (.int .i64 n)
abbrev bD (b : Bool) : D := .v (.bool b)
def nodeD (x : Nd) : List D := [iD x.1, iD x.2]
def oneI (n : Int) : List D := [iD n]
def nodesD (l : List Nd) : D := .sl 2 (l.map nodeD)
def intsD (l : List Int) : D := .sl 1 (l.map oneI)

def asInt : D → Option Int
  | .v (.int .i64 n) => some n
  | _ => none
def asNode : List D → Option Nd
  | [.v (.int .i64 a), .v (.int .i64 b)] => some (a, b)
  | _ => none
def asOne : List D → Option Int
  | [.v (.int .i64 a)] => some a
  | _ => none
def asNd : D → Option Nd
  | .agg cs => asNode cs
  | _ => none
def asNodes : D → Option (List Nd)
  | .sl _ els => els.mapM asNode
  | .v (.slice none 0 0) => some []
  | _ => none
def asInts : D → Option (List Int)
  | .sl _ els => els.mapM asOne
  | .v (.slice none 0 0) => some []
  | _ => none

theorem mapM_map {α β : Type} (f : α → β) (g : β → Option α) (h : ∀ x, g (f x) = some x) (l : List α) : (l.map f).mapM g = some l := by
  induction l with
  | nil => rfl
  | cons a r ih => simp [List.mapM_cons, h, ih]
@[simp] theorem asNodes_nodesD (l : List Nd) : asNodes (nodesD l) = some l := mapM_map nodeD asNode (fun _ => rfl) l
@[simp] theorem asInts_intsD (l : List Int) : asInts (intsD l) = some l := mapM_map oneI asOne (fun _ => rfl) l
@[simp] theorem asInt_iD (n : Int) : asInt (.v (.int .i64 n)) = some n := rfl
@[simp] theorem asNode_nodeD (x : Nd) : asNode (nodeD x) = some x := rfl
@[simp] theorem asNodes_nil : asNodes (.v (.slice none 0 0)) = some [] := rfl
@[simp] theorem asInts_nil : asInts (.v (.slice none 0 0)) = some [] := rfl

section
variable {S : Nat → Prop} {w : World}
theorem asInt_ok {L : List (Nat × Nat)} {d : D} {n : Int} {v : Value} (h : asInt d = some n) (hv : Rep S L w v d) : v = .int .i64 n := by
  unfold asInt at h
  split at h
  · cases h; simpa only [Rep] using hv
  · cases h
theorem asNode_ok {cs : List D} {x : Nd} (h : asNode cs = some x) : cs = nodeD x := by
  unfold asNode at h
  split at h
  · cases h; rfl
  · cases h
theorem asOne_ok {cs : List D} {x : Int} (h : asOne cs = some x) : cs = oneI x := by
  unfold asOne at h
  split at h
  · cases h; rfl
  · cases h
theorem mapM_ok {α : Type} (f : α → List D) (g : List D → Option α) (h : ∀ cs x, g cs = some x → cs = f x) : ∀ (els : List (List D)) (l : List α), els.mapM g = some l → els = l.map f
  | [], l, hm => by simp at hm; subst hm; rfl
  | e :: r, l, hm => by
    simp only [List.mapM_cons, Option.pure_def, Option.bind_eq_bind] at hm
    cases he : g e with
    | none => rw [he] at hm; cases hm
    | some x =>
      cases hr : r.mapM g with
      | none => rw [he, hr] at hm; cases hm
      | some t =>
        rw [he, hr] at hm
        cases hm
        rw [mapM_ok f g h r t hr, h e x he]; rfl
theorem asNd_ok {d : D} {x : Nd} {v : Value} (h : asNd d = some x) (hv : Rep S [] w v d) : v = .agg #[.int .i64 x.1, .int .i64 x.2] := by
  unfold asNd at h
  split at h
  · rw [asNode_ok h] at hv
    simp only [Rep, nodeD, RepA] at hv
    obtain ⟨xs, rfl, a, ys, rfl, rfl, b, zs, rfl, rfl, rfl⟩ := hv
    rfl
  · cases h

/-- Cells that read as elements of one size. -/
theorem flat_rows {α : Type} (f : α → List D) (g : α → List Value) (sz : Nat) (hl : ∀ x, (f x).length = sz) (hg : ∀ x, RepA S [] w (g x) (f x)) (l : List α) (b o : Nat) (h : ∀ j, j < (l.flatMap g).length → w.cell? ⟨b, o + j, none⟩ = (l.flatMap g)[j]?) : RepR S [] w b o sz (l.map f) := by
  induction l generalizing o with
  | nil => simp [RepR]
  | cons x r ih =>
    have hgx := (hg x).length
    simp only [List.map_cons, RepR]
    refine ⟨hl x, RepC.of (hg x) fun j y hj => ?_, ih (o + sz) fun j hj => ?_⟩
    · have hlt := (List.getElem?_eq_some_iff.1 hj).1
      rw [h j (by simp; omega), List.flatMap_cons, List.getElem?_append_left hlt, hj]
    · have := h (sz + j) (by rw [List.flatMap_cons, List.length_append, hgx, hl x]; omega)
      rw [List.flatMap_cons, List.getElem?_append_right (by rw [hgx, hl x]; omega), hgx, hl x, Nat.add_sub_cancel_left] at this
      rwa [Nat.add_assoc]
theorem rows_flat {α : Type} (f : α → List D) (g : α → List Value) (hg : ∀ x ys, RepA S [] w ys (f x) → ys = g x) (l : List α) (b o sz : Nat) (h : RepR S [] w b o sz (l.map f)) : ∀ j, j < (l.flatMap g).length → w.cell? ⟨b, o + j, none⟩ = (l.flatMap g)[j]? := by
  induction l generalizing o with
  | nil => intro j hj; simp at hj
  | cons x r ih =>
    simp only [List.map_cons, RepR] at h
    obtain ⟨h1, h2, h3⟩ := h
    obtain ⟨ys, h4, h5⟩ := h2.values
    have hy := hg x ys h4
    subst hy
    have hl := h4.length
    intro j hj
    rw [List.flatMap_cons]
    by_cases hlt : j < (g x).length
    · rw [List.getElem?_append_left hlt]
      exact (h5 j _ (List.getElem?_eq_getElem hlt)).trans (List.getElem?_eq_getElem hlt).symm
    · rw [List.getElem?_append_right (by omega), hl, h1]
      have := ih (o + sz) h3 (j - sz) (by rw [List.flatMap_cons, List.length_append] at hj; omega)
      rw [← this, show o + sz + (j - sz) = o + j from by omega]
theorem nodeRep (x : Nd) : RepA S [] w [.int .i64 x.1, .int .i64 x.2] (nodeD x) := RepA.cons (by simp only [Rep]) (RepA.cons (by simp only [Rep]) RepA.nil)
theorem nodeRep' (x : Nd) (ys : List Value) (h : RepA S [] w ys (nodeD x)) : ys = [.int .i64 x.1, .int .i64 x.2] := by
  simp only [nodeD, RepA, Rep] at h
  obtain ⟨a, t, rfl, rfl, b, u, rfl, rfl, rfl⟩ := h
  rfl
theorem oneRep (n : Int) : RepA S [] w [.int .i64 n] (oneI n) := RepA.cons (by simp only [Rep]) RepA.nil
theorem oneRep' (n : Int) (ys : List Value) (h : RepA S [] w ys (oneI n)) : ys = [.int .i64 n] := by
  simp only [oneI, RepA, Rep] at h
  obtain ⟨a, t, rfl, rfl, rfl⟩ := h
  rfl

theorem nodesD_rep {v : Value} {l : List Nd} (h : NodesIn S w v l) : Rep S [] w v (nodesD l) := by
  simp only [nodesD, Rep, List.length_map]
  rcases h with ⟨p, cap, h1, h2, _, h3⟩ | ⟨b, o, cap, h1, h2, h3, h4, h5⟩
  · have : l = [] := List.eq_nil_of_length_eq_zero h2
    subst this
    exact .inl ⟨rfl, p, cap, h1, h3⟩
  · exact .inr ⟨b, o, cap, h1, h2, h3, h4, flat_rows nodeD _ 2 (fun _ => rfl) nodeRep l b o h5⟩
theorem intsD_rep {v : Value} {l : List Int} (h : IntsIn S w v l) : Rep S [] w v (intsD l) := by
  simp only [intsD, Rep, List.length_map]
  have hm : l.map (Value.int .i64) = l.flatMap fun n => [Value.int .i64 n] := by
    clear h
    induction l with
    | nil => rfl
    | cons a r ih => simp [ih]
  unfold IntsIn at h
  rw [hm] at h
  rcases h with ⟨p, cap, h1, h2, _, h3⟩ | ⟨b, o, cap, h1, h2, h3, h4, h5⟩
  · have : l = [] := List.eq_nil_of_length_eq_zero h2
    subst this
    exact .inl ⟨rfl, p, cap, h1, h3⟩
  · exact .inr ⟨b, o, cap, h1, h2, h3, h4, flat_rows oneI _ 1 (fun _ => rfl) oneRep l b o h5⟩
theorem rep_slice {α : Type} (f : α → List D) (g : α → List Value) (hg : ∀ x ys, RepA S [] w ys (f x) → ys = g x) {v : Value} {l : List α} {sz : Nat} (h : Rep S [] w v (.sl sz (l.map f))) : SliceIn S w v l.length (l.flatMap g) := by
  simp only [Rep, List.length_map] at h
  rcases h with ⟨h1, p, cap, h2, h3⟩ | ⟨b, o, cap, h1, h2, h3, h4, h5⟩
  · have : l = [] := by simpa using h1
    subst this
    exact .inl ⟨p, cap, h2, rfl, rfl, h3⟩
  · exact .inr ⟨b, o, cap, h1, h2, h3, h4, rows_flat f g hg l b o sz h5⟩
theorem asNodes_ok {d : D} {l : List Nd} {v : Value} (h : asNodes d = some l) (hv : Rep S [] w v d) : NodesIn S w v l := by
  unfold asNodes at h
  split at h
  · rw [mapM_ok nodeD asNode (fun _ _ => asNode_ok) _ _ h] at hv
    exact rep_slice nodeD _ nodeRep' hv
  · cases h
    simp only [Rep] at hv
    exact .inl ⟨none, 0, hv, rfl, rfl, fun _ => rfl⟩
  · cases h
theorem asInts_ok {d : D} {l : List Int} {v : Value} (h : asInts d = some l) (hv : Rep S [] w v d) : IntsIn S w v l := by
  have hm : l.map (Value.int .i64) = l.flatMap fun n => [Value.int .i64 n] := by
    clear h
    induction l with
    | nil => rfl
    | cons a r ih => simp [ih]
  unfold IntsIn
  rw [hm]
  unfold asInts at h
  split at h
  · rw [mapM_ok oneI asOne (fun _ _ => asOne_ok) _ _ h] at hv
    exact rep_slice oneI _ oneRep' hv
  · cases h
    simp only [Rep] at hv
    exact .inl ⟨none, 0, hv, rfl, rfl, fun _ => rfl⟩
  · cases h
end

/- How the operations meet such lists. -/
@[simp] theorem elsD_nodesD (l : List Nd) : elsD 2 (nodesD l) = some (l.map nodeD) := by simp [elsD, nodesD]
@[simp] theorem elsD_intsD (l : List Int) : elsD 1 (intsD l) = some (l.map oneI) := by simp [elsD, intsD]
end Go.Proofs.Ytbnmkdlmalobaaa
end

section
namespace Go.Proofs.Ytbnmkdlmalobaaa
open Go.RowKit
set_option linter.unusedVariables false
set_option linter.unusedSimpArgs false

/-- The values that are handed to a round. -/
def putsE : List Nat → List D → En → En
  | t :: ps, d :: ds, e => putsE ps ds ((t, d) :: e)
  | _, _, e => e
/-- A round begins: its loop is busy. -/
def busyK {α : Type} (id : Nat) (H : Heap) (k : Heap → Option α) : Option α :=
  match H[id]? with
  | some (.loop .ready ps as' bd sz kp s) => k (H.set id (.loop .busy ps as' bd sz kp s))
  | _ => none
/-- It ends. -/
def endR (id : Nat) (lv : Lv) (H : Heap) : Option (D × Heap) :=
  match H[id]? with
  | some (.loop .busy ps as' bd sz kp s) =>
    match lv with
    | .normal => some (.v (.bool true), H.set id (.loop .ready ps as' bd sz kp s))
    | lv => some (.v (.bool false), H.set id (.loop (.done lv) ps as' bd sz kp s))
  | _ => none
def onNormal {α : Type} (lv : Lv) (x : Option α) : Option α :=
  match lv with
  | .normal => x
  | _ => none
/-- A round over the values ds. -/
def roundB (P : Program) (T : Tab) (n : Nat) (id : Nat) (ps : List Nat) (as' bd : Code) (sz : Nat) (kp : List Nat) (s : List D) (ds : List D) (H : Heap) : Option (D × Heap) :=
  runK P T kp n sz as' (putsE ps ds (mkE kp s 0)) H fun lv e H1 => onNormal lv (busyK id H1 fun H2 => runK P T kp n sz bd e H2 fun lv2 _ H3 => endR id lv2 H3)
def roundK (P : Program) (T : Tab) (n : Nat) (id : Nat) (ds : List D) (H : Heap) : Option (D × Heap) :=
  match H[id]? with
  | some (.loop .ready ps as' bd sz kp s) => if ds.length = ps.length ∧ noRange as' = true ∧ noRange bd = true ∧ (ps.all fun t => decide (t < sz)) = true ∧ (kp.all fun t => decide (t < sz)) = true then roundB P T n id ps as' bd sz kp s ds H else none
  | _ => none

theorem frU_get (sz : Nat) (kp : List Nat) (s : List D) (t : Nat) (ht : t < sz) : (frU sz kp s).getD t .undef = getU kp s t := by
  rw [List.getD_eq_getElem?_getD, frU, List.getElem?_map, List.getElem?_range ht]; rfl
theorem mkE_getU : ∀ (kp : List Nat) (s : List D) (l : List D) (i t : Nat), l.drop i = s → getE (mkE kp l i) t = getU kp s t
  | [], s, l, i, t, h => by simp [mkE, getE, getU]
  | k :: kp, s, l, i, t, h => by
    simp only [mkE]
    rw [getE_cons]
    cases s with
    | nil =>
      have hl : l.length ≤ i := by simpa using h
      simp only [getU]
      split
      · rw [List.getD_eq_getElem?_getD, List.getElem?_eq_none hl]; rfl
      · have := mkE_getU kp [] l (i + 1) t (by rw [List.drop_of_length_le]; omega)
        rw [this]
        cases kp <;> rfl
    | cons d r =>
      have hi : l[i]? = some d := by
        have := congrArg (·[0]?) h
        simpa using this
      have hr : l.drop (i + 1) = r := by
        have := congrArg List.tail h
        simpa using this
      simp only [getU]
      split
      · rw [List.getD_eq_getElem?_getD, hi]; rfl
      · exact mkE_getU kp r l (i + 1) t hr
theorem rl_frU (sz : Nat) (kp : List Nat) (s : List D) (h : ∀ t, sz ≤ t → getU kp s t = .undef) : Rl sz (mkE kp s 0) (frU sz kp s) := by
  refine ⟨by simp [frU], fun t => ?_⟩
  rw [mkE_getU kp s s 0 t (by simp)]
  by_cases ht : t < sz
  · rw [frU_get sz kp s t ht]
  · rw [h t (by omega), List.getD_eq_getElem?_getD, List.getElem?_eq_none (by simp [frU]; omega)]; rfl
theorem getU_none : ∀ (kp : List Nat) (s : List D) (t : Nat), t ∉ kp → getU kp s t = .undef
  | [], s, t, _ => by cases s <;> rfl
  | k :: kp, [], t, _ => rfl
  | k :: kp, d :: s, t, h => by
    simp only [List.mem_cons, not_or] at h
    simp only [getU]
    rw [if_neg (fun e => h.1 e.symm)]
    exact getU_none kp s t h.2
/-- Values are handed to a round: in the frame, and in the slots. -/
def setsL : List Nat → List D → List D → List D
  | t :: ps, d :: ds, l => setsL ps ds (l.set t d)
  | _, _, l => l
theorem rl_puts (sz : Nat) : ∀ (ps : List Nat) (ds : List D) (e : En) (fr : List D), (ps.all fun t => decide (t < sz)) = true → Rl sz e fr → Rl sz (putsE ps ds e) (setsL ps ds fr)
  | [], ds, e, fr, _, h => by cases ds <;> exact h
  | t :: ps, [], e, fr, _, h => h
  | t :: ps, d :: ds, e, fr, hp, h => by
    simp only [List.all_cons, Bool.and_eq_true, decide_eq_true_eq] at hp
    exact rl_puts sz ps ds _ _ hp.2 (h.set t hp.1 d)
theorem rep_puts {S : Nat → Prop} {L : List (Nat × Nat)} {w : World} : ∀ (ps : List Nat) (ds : List D) (vs : List Value) (tmps : Array Value) (fr : List D), RepA S L w vs ds → RepA S L w tmps.toList fr →
    RepA S L w ((ps.zip vs).foldl (fun tmps (t, a) => tmps.setIfInBounds t a) tmps).toList (setsL ps ds fr)
  | [], ds, vs, tmps, fr, _, h => by cases ds <;> exact h
  | t :: ps, [], vs, tmps, fr, hv, h => by
    simp only [RepA] at hv
    subst hv
    exact h
  | t :: ps, d :: ds, vs, tmps, fr, hv, h => by
    simp only [RepA] at hv
    obtain ⟨x, ys, rfl, h1, h2⟩ := hv
    refine rep_puts ps ds ys _ _ h2 ?_
    simp only [Array.toList_setIfInBounds]
    exact h.set t h1
theorem onNormal_some {α : Type} {lv : Lv} {x : Option α} {r : α} (h : onNormal lv x = some r) : lv = .normal ∧ x = some r := by
  cases lv with
  | normal => exact ⟨rfl, h⟩
  | _ => cases h
theorem busyK_some {α : Type} {id : Nat} {H : Heap} {k : Heap → Option α} {r : α} (h : busyK id H k = some r) : ∃ ps as' bd sz kp s, H[id]? = some (.loop .ready ps as' bd sz kp s) ∧ k (H.set id (.loop .busy ps as' bd sz kp s)) = some r := by
  unfold busyK at h
  split at h
  · rename_i ps as' bd sz kp s hid
    exact ⟨ps, as', bd, sz, kp, s, hid, h⟩
  · cases h
/-- The loop's object is written. -/
theorem HRel.loop {B : Nat} {S : Nat → Prop} {L : List (Nat × Nat)} {w : World} {H : Heap} (h : HRel B S L w H) {id : Nat} {st : LS} {ps : List Nat} {as' bd : Code} {sz : Nat} {kp : List Nat} {s : List D} (hid : H[id]? = some (.loop st ps as' bd sz kp s)) {b c : Nat} (hL : L[id]? = some (b, c)) :
    ∃ r : Loop, w.heap[b]? = some (.loop r) ∧ r.state = st.state ∧ r.pending = st.pend ∧ ∀ st' : LS, ∀ r' : Loop, r'.state = st'.state → r'.pending = st'.pend → r'.params = r.params → r'.assign = r.assign → r'.body = r.body → r'.tmps = r.tmps →
      HRel B S L (w.putObj b (.loop r')) (H.set id (.loop st' ps as' bd sz kp s)) ∧ Later B S S L L w (w.putObj b (.loop r')) := by
  obtain ⟨b', c', h1, h2, h3, r, h4, h5, h6, h7, h8, h9, h10⟩ := h.obj id _ hid (by intro e; cases e)
  rw [hL] at h1
  cases h1
  refine ⟨r, h4, h5, h6, fun st' r' k1 k2 k3 k4 k5 k6 => ?_⟩
  refine h.writeO hid (by intro e; cases e) hL _ (.loop st' ps as' bd sz kp s) (by intro e; cases e) rfl rfl rfl (by simp) (fun k hk => World.putObj_heap_other hk) fun hr1 hr2 => ?_
  exact ⟨r', World.putObj_heap_same (Array.getElem?_eq_some_iff.1 h4).1, k1, k2, by rw [k3]; exact h7, k4.trans h8, k5.trans h9, by rw [k6]; exact hr2 _ _ h10⟩

theorem roundK_ok {P : Program} {T : Tab} (hT : TabOk P T) (hm : P.follows .mixedOrders = true) (n : Nat) : YOk P (roundK P T n) := by
  intro id ds H d H' h B S L vs w hr hv
  unfold roundK at h
  split at h
  · rename_i ps as' bd sz kp s hid
    split at h
    · rename_i hc
      obtain ⟨hlen, hn1, hn2, hps, hkp⟩ := hc
      unfold roundB at h
      obtain ⟨b, c, h1, h2, h3, r, h4, h5, h6, h7, h8, h9, h10⟩ := hr.obj id _ hid (by intro e; cases e)
      have hvl := hv.length
      have hsz : vs.toArray.size = r.params.size := by
        have : r.params.size = ps.length := by rw [← h7]; simp
        simp; omega
      have hrl := rl_puts sz ps ds _ _ hps (rl_frU sz kp s fun t ht => getU_none kp s t fun hm => by
        have := List.all_eq_true.1 hkp t hm
        simp at this; omega)
      obtain ⟨lv, fr1, e1, k1, k2, k3⟩ := runK_le _ _ _ _ _ _ hrl h
      obtain ⟨hlv, k3'⟩ := onNormal_some k3
      subst hlv
      clear k3
      obtain ⟨ps1, as1, bd1, sz1, kp1, s1, hid1, k3⟩ := busyK_some k3'
      obtain ⟨lv2, fr2, e2, k4, k5, k6⟩ := runK_le _ _ _ _ _ _ k2 k3
      refine ⟨b, c, r.fn, _, r.assign, r.body, h1, run_yield h4 hsz, fun n' => ?_⟩
      refine roundIn_of_wpIn trivial ?_
      rw [h8]
      have hrep : RepF B w.heap.size S L w { tmps := (r.params.zip vs.toArray).foldl (fun tmps (t, a) => tmps.setIfInBounds t a) r.tmps, defers := [] } (setsL ps ds (frU sz kp s), H) := by
        refine ⟨MarksOk.nil, ?_, hr⟩
        have := rep_puts ps ds vs r.tmps _ hv h10
        rw [← h7] at this
        rw [← Array.foldl_toList, Array.toList_zip]
        simpa [h7] using this
      refine runC_ok hT hm (.round b) hr.base as' k1 (.inr hn1) (Nat.le_refl _) hrep fun a1 w1 S1 L1 q1 q2 => ?_
      have hL1 := prefix_get q2.pre _ _ h1
      obtain ⟨r1, p1, p2, p3, p4⟩ := q1.objs.loop hid1 hL1
      obtain ⟨p5, p6⟩ := p4 .busy { r1 with state := .busy } rfl p3 rfl rfl rfl rfl
      refine ⟨_, run_beginRound p1 p2, ?_⟩
      rw [h9]
      have hlat := q2.trans p6
      have hrep2 : RepF B w.heap.size S1 L1 (w1.putObj b (.loop { r1 with state := .busy })) a1 (fr1.1, fr1.2.set id (.loop .busy ps1 as1 bd1 sz1 kp1 s1)) := ⟨q1.defers.later p6, p6.repA q1.tmps, p5⟩
      refine runC_ok hT hm (.round b) hr.base bd k4 (.inr hn2) hlat.kept.size hrep2 fun a2 w2 S2 L2 u1 u2 => ?_
      have hL2 := prefix_get u2.pre _ _ hL1
      have hall := hlat.trans u2
      have fin : ∀ (jump : Option Code) (st' : LS) (bb : Bool) ps2 as2 bd2 sz2 kp2 s2, fr2.2[id]? = some (.loop .busy ps2 as2 bd2 sz2 kp2 s2) → (if jump.isNone then LoopState.ready else .done) = st'.state → jump = st'.pend → jump.isNone = bb → d = .v (.bool bb) → H' = fr2.2.set id (.loop st' ps2 as2 bd2 sz2 kp2 s2) →
          ∃ v w', (Instr.endRound b jump).run P w2 = .ok v w' ∧ ∃ v' S' L', Ending.returned v = .returned v' ∧ Rep S' L' w' v' d ∧ HRel B S' L' w' H' ∧ Later B S S' L L' w w' := by
        intro jump st' bb ps2 as2 bd2 sz2 kp2 s2 hid2 e1 e2 e3 e4 e5
        obtain ⟨r2, y1, y2, y3, y4⟩ := u1.objs.loop hid2 hL2
        obtain ⟨y5, y6⟩ := y4 st' { r2 with state := if jump.isNone then .ready else .done, pending := jump } e1 e2 rfl rfl rfl rfl
        refine ⟨_, _, run_endRound jump y1, _, S2, L2, rfl, ?_, by rw [e5]; exact y5, hall.trans y6⟩
        rw [e4, e3]
        simp only [Rep]
      unfold endR at k6
      split at k6
      · rename_i ps2 as2 bd2 sz2 kp2 s2 hid2
        cases lv2 with
        | normal =>
          cases k6
          exact fin none .ready true _ _ _ _ _ _ hid2 rfl rfl rfl rfl rfl
        | exit j =>
          cases k6
          exact fin (some (.exit j)) (.done (.exit j)) false _ _ _ _ _ _ hid2 rfl rfl rfl rfl rfl
        | ret =>
          cases k6
          exact fin (some .ret) (.done .ret) false _ _ _ _ _ _ hid2 rfl rfl rfl rfl rfl
      · cases k6
    · cases h
  · cases h

/-- What a round does, by how deep rounds lie within rounds; TT: what is known of functions, over it. -/
def Yn (P : Program) (TT : (Nat → List D → Heap → Option (D × Heap)) → Tab) (n : Nat) : Nat → Nat → List D → Heap → Option (D × Heap)
  | 0 => noYl
  | m + 1 => roundK P (TT (Yn P TT n m)) n
theorem Yn_ok {P : Program} {TT : (Nat → List D → Heap → Option (D × Heap)) → Tab} (hTT : ∀ Y, YOk P Y → TabOk P (TT Y)) (hm : P.follows .mixedOrders = true) (n : Nat) : ∀ m, YOk P (Yn P TT n m)
  | 0 => noYl_ok P
  | m + 1 => roundK_ok (hTT _ (Yn_ok hTT hm n m)) hm n
end Go.Proofs.Ytbnmkdlmalobaaa
end
