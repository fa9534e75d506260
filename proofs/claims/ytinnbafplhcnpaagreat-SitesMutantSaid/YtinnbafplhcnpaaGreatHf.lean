import Derived.IntWalk
import Derived.Test.YtinnbafplhcnpaaGreatHe
section
namespace Go.Proofs.YtinnbafplhcnpaaGreat
open Go.RowKit
set_option linter.unusedVariables false
set_option linter.unusedSimpArgs false
abbrev En := List (Nat × D)
def getE : En -> Nat -> D
  | [], _ => .undef
  | (s, d) :: r, t =>
    match Nat.beq s t with
    | true => d
    | false => getE r t
def Jxv (e : En) : Operand -> D
  | .tmp t => getE e t
  | .const v => .v v
  | .global g => .v (.pointer (some ⟨g, 0, none⟩))
  | .func f => .clo (.func f) [] []
def ofFr : List D -> Nat -> En
  | [], _ => []
  | d :: r, k => (k, d) :: ofFr r (k + 1)
structure Rl (sz : Nat) (e : En) (fr : List D) : Prop where
  len : fr.length = sz
  get : ∀ t, getE e t = fr.getD t .undef
theorem Jmm (s : Nat) (d : D) (r : En) (t : Nat) : getE ((s, d) :: r) t = if s = t then d else getE r t := by
  simp only [getE]
  by_cases h : s = t
  · subst h
    simp
  · rw [if_neg h]
    have : Nat.beq s t = false := by
      cases hb : Nat.beq s t with
      | false => rfl
      | true => exact absurd (Nat.eq_of_beq_eq_true hb) h
    rw [this]
theorem Rl.set {sz : Nat} {e : En} {fr : List D} (h : Rl sz e fr) (t : Nat) (ht : t < sz) (d : D) : Rl sz ((t, d) :: e) (fr.set t d) := by
  refine ⟨by rw [List.length_set, h.len], fun s => ?_⟩
  rw [Jmm, List.getD_eq_getElem?_getD]
  by_cases hs : t = s
  · subst hs
    rw [if_pos rfl, List.getElem?_set_self (by rw [h.len]; exact ht)]; rfl
  · rw [if_neg hs, List.getElem?_set_ne hs, h.get s, List.getD_eq_getElem?_getD]
theorem Rl.same {sz : Nat} {e : En} {fr : List D} (h : Rl sz e fr) (t : Nat) (d : D) (hd : getE e t = d) : Rl sz ((t, d) :: e) fr := by
  refine ⟨h.len, fun s => ?_⟩
  rw [Jmm]
  by_cases hs : t = s
  · subst hs
    rw [if_pos rfl, <- hd, h.get]
  · rw [if_neg hs, h.get]
theorem Rl.eval {sz : Nat} {e : En} {fr : List D} (h : Rl sz e fr) : Jxv e = Jd9 fr := by
  funext x
  cases x <;> first | rfl | exact h.get _
theorem Qnw (fr : List D) (k t : Nat) : getE (ofFr fr k) t = if k <= t then fr.getD (t - k) .undef else .undef := by
  induction fr generalizing k with
  | nil => simp [ofFr, getE]
  | cons d r ih =>
    simp only [ofFr]
    rw [Jmm]
    by_cases h : k = t
    · subst h
      simp
    · rw [if_neg h, ih]
      by_cases hk : k <= t
      · rw [if_pos hk, if_pos (by omega)]
        obtain ⟨m, hm⟩ : ∃ m, t - k = m + 1 := ⟨t - k - 1, by omega⟩
        rw [hm, show t - (k + 1) = m from by omega, List.getD_cons_succ]
      · rw [if_neg hk, if_neg (by omega)]
def Jjr : Op -> Bool
  | .move _ | .assign _ | .pick _ _ _ | .load _ _ | .field _ _ _ | .fieldAddr _ _ _ | .indexAddr _ _ _ | .build _ _ | .binOp _ _ _ _ _ | .convert _ _ _ | .extract _ _ | .makeInterface _ _ | .makeFunc _ _ _ | .nilCheck _ => true
  | .slice _ _ _ _ none | .index _ _ _ | .typeAssert _ _ _ _ | .lookup _ _ _ _ => true
  | .unOp .not _ _ | .unOp .neg _ _ | .unOp .xor _ _ => true
  | .call { callee := .builtin .len, .. } | .call { callee := .builtin .max, .. } | .call { callee := .builtin .min, .. } => true
  | _ => false
def nilD : D -> Option D
  | .hp i o => some (.hp i o)
  | .ptr cs => some (.ptr cs)
  | _ => none
def binQ (c : Bool) (k : Kd) (op : BinOp) (x y : D) : Option D :=
  match k with
  | .ifc => binN c .ifc op x y
  | k => binK k op x y
theorem Qsv (c : Bool) (k : Kd) (op : BinOp) (x y : D) : binQ c k op x y = binN c k op x y := by
  have key : k ≠ .ifc -> binK k op x y = binN c k op x y := by
    intro hk
    unfold binN
    split
    · cases k <;> first | (exact absurd rfl hk) | (cases op <;> cases c <;> rfl)
    · rfl
  cases k <;> first | rfl | exact key (fun e => by cases e)
def strId (x : D) : Option D := (strOf x).map fun s => .v (.string s)
def opQ (P : Program) (op : Op) (ρ : Operand -> D) (H : Heap) : Option D :=
  match op with
  | .move x | .assign x => some (ρ x)
  | .pick c a b => Qnn (ρ c) (ρ a) (ρ b)
  | .load t a => (shapeOf P t).bind fun s => Jad s H (ρ a)
  | .field t x f => (fldD P t f).bind fun uo => (shapeOf P uo.1).bind fun s => Jln s uo.2 (ρ x)
  | .fieldAddr t x f => (fldD P t f).bind fun uo => (P.info? uo.1).bind fun i => if i.size = 0 then none else Jaa uo.2 (ρ x)
  | .indexAddr t x i => match arrD P t with | some a => idxA a.1 a.2 (ρ x) (ρ i) | none => (Jkj P t).bind fun sz => idxH sz (ρ x) (ρ i)
  | .slice t x lo hi none =>
    match P.underlying t with
    | some .string => cutS (ρ x) (lo.map ρ) (hi.map ρ)
    | _ => (Jkj P t).bind fun sz => cutH sz (ρ x) (lo.map ρ) (hi.map ρ)
  | .build t ps => Qfx P t (ps.toList.map fun (i, x) => (i, ρ x))
  | .binOp op t x y _ => binQ (isConst x || isConst y) (kindOf P t) op (ρ x) (ρ y)
  | .index t x i => match P.underlying t with | some .string => idxS (ρ x) (ρ i) | _ => none
  | .lookup t m k ok => (mapElem P t).bind fun e => (Jnx P e).bind fun z => Juw z ok H (ρ m) (ρ k)
  | .typeAssert x _ u ok => if Jzx P u then (Jnx P u).bind fun z => Jgo u z ok (ρ x) else none
  | .unOp .not _ x => notD (ρ x)
  | .unOp .neg _ x => negD (ρ x)
  | .unOp .xor _ x => xorD (ρ x)
  | .convert s t x =>
    match P.underlying s, P.underlying t with
    | some (.int _), some (.int k) => Jmk k (ρ x)
    | some (.slice e), some .string =>
      match P.underlying e with
      | some (.int .u8) => Jn5 H (ρ x)
      | _ => none
    | some .string, some .string => strId (ρ x)
    | _, _ => none
  | .extract t i => Jat (ρ t) i
  | .makeInterface t x => match P.underlying t with | some (.interface _) | none => none | _ => some (.ifc t (ρ x))
  | .makeFunc f a b => some (.clo f (a.toList.map ρ) (b.toList.map ρ))
  | .nilCheck x => nilD (ρ x)
  | .call { callee := .builtin .len, args, argTypes } =>
    match args.toList, argTypes.toList with
    | [x], t :: _ => lenH (kindOf P t) (ρ x)
    | _, _ => none
  | .call { callee := .builtin .max, args, .. } => maxD (args.toList.map ρ)
  | .call { callee := .builtin .min, args, .. } => minD (args.toList.map ρ)
  | _ => none
theorem opQ_ok {P : Program} {T : Tab} {op : Op} {ρ : Operand -> D} {H : Heap} (hq : Jjr op = true) {d : D} (h : opQ P op ρ H = some d) : stepD P T op ρ H = some (d, H) := by
  have hop : opH P op ρ H = same H (opQ P op ρ H) := by
    cases op with
    | slice t x lo hi mx =>
      cases mx with
      | none =>
        simp only [opH, opQ, same]
        cases P.underlying t with
        | none => cases Jkj P t <;> rfl
        | some u => cases u <;> first | rfl | (cases Jkj P t <;> rfl)
      | some m => simp [Jjr] at hq
    | unOp o t x => cases o <;> first | rfl | (simp [Jjr] at hq; done)
    | load t a => simp only [opH, opQ, same]; cases shapeOf P t <;> rfl
    | field t x f =>
      simp only [opH, opQ, same]
      cases fldD P t f with
      | none => rfl
      | some uo => simp only [Option.bind_some]; cases shapeOf P uo.1 <;> rfl
    | fieldAddr t x f =>
      simp only [opH, opQ, same]
      cases fldD P t f with
      | none => rfl
      | some uo =>
        simp only [Option.bind_some]
        cases P.info? uo.1 with
        | none => rfl
        | some i => simp only [Option.bind_some]; split <;> rfl
    | indexAddr t x i =>
      simp only [opH, opQ, same]
      cases arrD P t with
      | some a => rfl
      | none => cases Jkj P t <;> rfl
    | convert s t x =>
      simp only [opH, opQ, same]
      rcases P.underlying s with _ | u <;> rcases P.underlying t with _ | v
      · rfl
      · rfl
      · cases u <;> rfl
      · cases u <;> cases v <;> first | rfl | (rename_i e; dsimp only; rcases P.underlying e with _ | z; rfl; cases z <;> first | rfl | (rename_i k; cases k <;> rfl))
    | index t x i =>
      simp only [opH, opQ, same]
      cases P.underlying t with
      | none => rfl
      | some u => cases u <;> rfl
    | lookup t m k ok =>
      simp only [opH, opQ, same]
      cases mapElem P t with
      | none => rfl
      | some e => simp only [Option.bind_some]; cases Jnx P e <;> rfl
    | typeAssert x t u ok =>
      simp only [opH, opQ, same]
      split
      · cases Jnx P u <;> rfl
      · rfl
    | makeInterface t x =>
      simp only [opH, opQ, same]
      cases P.underlying t with
      | none => rfl
      | some u => cases u <;> rfl
    | nilCheck x =>
      simp only [opH, opQ, nilD, same]
      cases ρ x <;> rfl
    | call c =>
      obtain ⟨callee, args, ats⟩ := c
      cases callee with
      | builtin b =>
        cases b with
        | len =>
          simp only [opH, opQ, same]
          cases args.toList with
          | nil => rfl
          | cons x r =>
            cases r with
            | nil => cases ats.toList <;> rfl
            | cons y z => rfl
        | max => rfl
        | min => rfl
        | _ => simp [Jjr] at hq
      | _ => simp [Jjr] at hq
    | move x => rfl
    | assign x => rfl
    | pick c a b => rfl
    | build t ps => rfl
    | binOp o t x y u => simp only [opH, opQ, Qsv, same]
    | extract t i => rfl
    | makeFunc f a b => rfl
    | _ => simp [Jjr] at hq
  have hst : stepD P T op ρ H = opH P op ρ H := by
    unfold stepD
    split
    · simp [Jjr] at hq
    · simp [Jjr] at hq
    · simp [Jjr] at hq
    · rfl
  rw [hst, hop, h]; rfl
section
variable {α : Type}
def Jah (d : D) (x y : Option α) : Option α :=
  match d with
  | .v (.bool true) => x
  | .v (.bool false) => y
  | _ => none
def Jmt (a b : D) (k : Option α) : Option α := match apartB a b with | true => k | false => none
def Qd3 (a : D) (k : Option α) : Option α := match Jym a with | true => k | false => none
def Qcq (as' : List D) (k : Option α) : Option α := match Jfi as' with | true => k | false => none
def sameK (a : D) (H H' : Heap) (k : Option α) : Option α :=
  match idD a with
  | none => k
  | some i => match Qgd i H H' with | true => k | false => none
def sameO (a : D) (H H' : Option Heap) (k : Option α) : Option α :=
  match H, H' with
  | some H, some H' => sameK a H H' k
  | _, _ => none
def Jjz (ρ : Operand -> D) (hs : List Heap) : List Gd -> Option α -> Option α
  | [], k => k
  | .apart a b :: r, k => Jmt (ρ a) (ρ b) (Jjz ρ hs r k)
  | .whole a :: r, k => Qd3 (ρ a) (Jjz ρ hs r k)
  | .pure as' :: r, k => Qcq (as'.map ρ) (Jjz ρ hs r k)
  | .same a j :: r, k => sameO (ρ a) hs[j]? hs[j + 1]? (Jjz ρ hs r k)
theorem Jf1 {ρ : Operand -> D} {hs : List Heap} : ∀ {gs : List Gd} {k : Option α} {r : α}, Jjz ρ hs gs k = some r -> gs.all (Gd.holds ρ hs) = true /\ k = some r
  | [], k, r, h => ⟨rfl, h⟩
  | .apart a b :: gs, k, r, h => by
    simp only [Jjz, Jmt] at h
    split at h
    · rename_i h1
      have := Jf1 h
      exact ⟨by rw [List.all_cons, this.1]; simp [Gd.holds, h1], this.2⟩
    · cases h
  | .whole a :: gs, k, r, h => by
    simp only [Jjz, Qd3] at h
    split at h
    · rename_i h1
      have := Jf1 h
      exact ⟨by rw [List.all_cons, this.1]; simp [Gd.holds, h1], this.2⟩
    · cases h
  | .pure as' :: gs, k, r, h => by
    simp only [Jjz, Qcq] at h
    split at h
    · rename_i h1
      have := Jf1 h
      exact ⟨by rw [List.all_cons, this.1]; simp [Gd.holds, h1], this.2⟩
    · cases h
  | .same a j :: gs, k, r, h => by
    simp only [Jjz, sameO] at h
    split at h
    · rename_i H H' h1 h2
      unfold sameK at h
      split at h
      · rename_i h3
        have := Jf1 h
        exact ⟨by rw [List.all_cons, this.1]; simp [Gd.holds, h1, h2, h3], this.2⟩
      · rename_i i h3
        split at h
        · rename_i h4
          have := Jf1 h
          exact ⟨by rw [List.all_cons, this.1]; simp [Gd.holds, h1, h2, h3, h4], this.2⟩
        · cases h
    · cases h
def thn (o : Option D) (k : D -> Option α) : Option α :=
  match o with
  | some d => k d
  | none => none
def thnH (o : Option (D × Heap)) (k : D -> Heap -> Option α) : Option α :=
  match o with
  | some r => k r.1 r.2
  | none => none
def Qqy (e : En) (c : Operand) (b : Bool) : En :=
  match c with
  | .tmp t => (t, .v (.bool b)) :: e
  | _ => e
def putK (sz : Nat) (e : En) (dst : Option Tmp) (d : D) (k : En -> Option α) : Option α :=
  match dst with
  | none => k e
  | some t =>
    match Nat.blt t sz with
    | true => k ((t, d) :: e)
    | false => none
def Qf7 (P : Program) (T : Tab) (op : Op) (e : En) (H : Heap) (k : D -> Heap -> Option α) : Option α :=
  match Jjr op with
  | true => thn (opQ P op (Jxv e) H) fun d => k d H
  | false => thnH (stepD P T op (Jxv e) H) k
def opsK (P : Program) (T : Tab) (sz : Nat) (ops : List Oper) : List Oper -> List Nat -> Nat -> En -> Heap -> List Heap -> (En -> Heap -> List Heap -> Option α) -> Option α
  | [], sk, i, e, H, rh, K => K e H (List.reverse (H :: rh))
  | o :: r, sk, i, e, H, rh, K =>
    match o.guard with
    | none => Qf7 P T o.op e H fun d H' => putK sz e o.dst d fun e' => opsK P T sz ops r sk (i + 1) e' H' (H :: rh) K
    | some (j, want) =>
      match (ops[j]?).bind (·.dst) with
      | some t =>
        match sk.contains j with
        | true =>
          match getE e t with
          | .v (.tuple _) => putK sz e o.dst (.v undef) fun e' => opsK P T sz ops r (i :: sk) (i + 1) e' H (H :: rh) K
          | _ => none
        | false =>
          match want with
          | true => Jah (getE e t) (Qf7 P T o.op ((t, .v (.bool true)) :: e) H fun d H' => putK sz ((t, .v (.bool true)) :: e) o.dst d fun e' => opsK P T sz ops r sk (i + 1) e' H' (H :: rh) K) (putK sz ((t, .v (.bool false)) :: e) o.dst (.v undef) fun e' => opsK P T sz ops r (i :: sk) (i + 1) e' H (H :: rh) K)
          | false => Jah (getE e t) (putK sz ((t, .v (.bool true)) :: e) o.dst (.v undef) fun e' => opsK P T sz ops r (i :: sk) (i + 1) e' H (H :: rh) K) (Qf7 P T o.op ((t, .v (.bool false)) :: e) H fun d H' => putK sz ((t, .v (.bool false)) :: e) o.dst d fun e' => opsK P T sz ops r sk (i + 1) e' H' (H :: rh) K)
      | none => none
def seqK (k : En -> Heap -> Option α) (K : Lv -> En -> Heap -> Option α) : Lv -> En -> Heap -> Option α
  | .normal, e, H => k e H
  | lv, e, H => K lv e H
def Jew (j id : Nat) (x y : Option α) : Option α :=
  match Nat.beq j id with
  | true => x
  | false => y
def Qqk (id : Nat) (K : Lv -> En -> Heap -> Option α) : Lv -> En -> Heap -> Option α
  | .exit j, e, H => Jew j id (K .normal e H) (K (.exit j) e H)
  | lv, e, H => K lv e H
def lvK (lv : Lv) (x : Nat -> Option α) (r : Option α) : Option α :=
  match lv with
  | .normal => none
  | .exit j => x j
  | .ret => r
def Jdl (r : Option (Lv × List D × Heap)) (x : Nat -> List D -> Heap -> Option α) (y : List D -> Heap -> Option α) : Option α :=
  match r with
  | some (lv, s, H) => lvK lv (fun j => x j s H) (y s H)
  | none => none
def Jmh (r : Option (Lv × Heap)) (x : Heap -> Option α) (y : Nat -> Heap -> Option α) (z : Heap -> Option α) : Option α :=
  match r with
  | some (.normal, H) => x H
  | some (.exit j, H) => y j H
  | some (.ret, H) => z H
  | none => none
end
def mkE : List Nat -> List D -> Nat -> En
  | [], _, _ => []
  | t :: r, s, i => (t, s.getD i .undef) :: mkE r s (i + 1)
def Jez (step : List D -> Heap -> Option (Lv × List D × Heap)) : Nat -> List D -> Heap -> Option (Lv × List D × Heap)
  | 0, _, _ => none
  | m + 1, s, H =>
    match step s H with
    | some (.normal, s', H') => Jez step m s' H'
    | r => r
def runK (P : Program) (T : Tab) (kp : List Nat) (n sz : Nat) : Code -> {α : Type} -> En -> Heap -> (Lv -> En -> Heap -> Option α) -> Option α
  | .skip, _, e, H, K | .label _, _, e, H, K => K .normal e H
  | .region _ ops draw, _, e, H, K => if !draw || Qfn T ops.toList then opsK P T sz ops.toList ops.toList [] 0 e H [] (fun e' H' hs => Jjz (Jxv e') hs (if draw then Jr5 T ops.toList else []) (K .normal e' H')) else none
  | .seq x y, _, e, H, K => runK P T kp n sz x e H (seqK (fun e' H' => runK P T kp n sz y e' H' K) K)
  | .cond c x y, _, e, H, K => Jah (Jxv e c) (runK P T kp n sz x (Qqy e c true) H K) (runK P T kp n sz y (Qqy e c false) H K)
  | .block id c, _, e, H, K => runK P T kp n sz c e H (Qqk id K)
  | .loop c, _, e, H, K => Jdl (Jez (fun s H => runK P T kp n sz c (mkE kp s 0) H fun lv e H => some (lv, kp.map (getE e), H)) n (kp.map (getE e)) H) (fun j s H' => K (.exit j) (mkE kp s 0) H') fun s H' => K .ret (mkE kp s 0) H'
  | .exit id, _, e, H, K => K (.exit id) e H
  | .ret, _, e, H, K => K .ret e H
  | .scope c, _, e, H, K => runK P T kp n sz c e H K
  | .rangeFunc g ps as' bd, _, e, H, K => Jmh (rangeS T (Jxv e g) ps.toList as' bd sz kp (kp.map (getE e)) H) (fun H' => K .normal e H') (fun j H' => K (.exit j) e H') (fun H' => K .ret e H')
  | _, _, _, _, _ => none
def stepS (P : Program) (T : Tab) (kp : List Nat) (n sz : Nat) (c : Code) (s : List D) (H : Heap) : Option (Lv × List D × Heap) := runK P T kp n sz c (mkE kp s 0) H fun lv e H => some (lv, kp.map (getE e), H)
def Jju : Code -> List Code
  | .seq x y => Jju x ++ Jju y
  | .cond _ x y => Jju x ++ Jju y
  | .block _ c | .scope c => Jju c
  | .loop c => c :: Jju c
  | _ => []
def Jds (P : Program) (T : Tab) (kp : List Nat) (n : Nat) (fn : Func) (i : Nat) (s : List D) (H : Heap) : Option (Lv × List D × Heap) :=
  Jez (stepS P T kp n fn.ntmps ((Jju (fn.body.getD .skip)).getD i .skip)) n s H
def Jdu (P : Program) (T : Tab) (kp : List Nat) (n : Nat) (fn : Func) (i : Nat) (s : List D) (H : Heap) : Option (Lv × List D × Heap) :=
  stepS P T kp n fn.ntmps ((Jju (fn.body.getD .skip)).getD i .skip) s H
theorem Qjr (g : Nat -> D) : ∀ (kp : List Nat) (s : List D) (i t : Nat), (∀ j u, kp[j]? = some u -> s.getD (i + j) .undef = g u) -> getE (mkE kp s i) t = if kp.contains t then g t else .undef
  | [], s, i, t, h => by simp [mkE, getE]
  | u :: r, s, i, t, h => by
    have h0 := h 0 u rfl
    rw [Nat.add_zero] at h0
    simp only [mkE]
    rw [Jmm, h0]
    by_cases hu : u = t
    · subst hu
      simp
    · rw [if_neg hu, Qjr     g r s (i + 1) t fun j v hj => by
        have := h (j + 1) v (by simpa using hj)
        rwa [show i + 1 + j = i + (j + 1) from by omega]]
      have : (u :: r).contains t = r.contains t := by
        simp only [List.contains_cons]
        have : (t == u) = false := by simp; exact fun h => hu h.symm
        rw [this, Bool.false_or]
      rw [this]
theorem Rl.kept {sz : Nat} {e : En} {fr : List D} (h : Rl sz e fr) (kp : List Nat) : Rl sz (mkE kp (kp.map (getE e)) 0) (Jg4 kp fr 0) := by
  refine ⟨by rw [Jhc, h.len], fun t => ?_⟩
  rw [Jom, Nat.zero_add, Qjr (getE e) kp _ 0 t (fun j u hj => by
    rw [List.getD_eq_getElem?_getD, Nat.zero_add, List.getElem?_map, hj]; rfl), h.get]
section
variable {α : Type}
theorem Jqt {d : D} {x y : Option α} {r : α} (h : Jah d x y = some r) : ∃ b, d = .v (.bool b) /\ (if b then x else y) = some r := by
  unfold Jah at h
  split at h
  · exact ⟨true, rfl, h⟩
  · exact ⟨false, rfl, h⟩
  · cases h
theorem Jza {sz : Nat} {e : En} {fr : List D} {dst : Option Tmp} {d : D} {k : En -> Option α} {r : α} (hr : Rl sz e fr) (h : putK sz e dst d k = some r) : ∃ e', Rl sz e' (putD fr dst d) /\ k e' = some r := by
  unfold putK at h
  split at h
  · exact ⟨e, hr, h⟩
  · rename_i t
    split at h
    · rename_i hb
      exact ⟨_, hr.set t (by simp [Nat.blt] at hb; omega) d, h⟩
    · cases h
theorem Qf6 {P : Program} {T : Tab} {op : Op} {e : En} {H : Heap} {k : D -> Heap -> Option α} {r : α} (h : Qf7 P T op e H k = some r) : ∃ d H', stepD P T op (Jxv e) H = some (d, H') /\ k d H' = some r := by
  unfold Qf7 at h
  split at h
  · rename_i hq
    cases ho : opQ P op (Jxv e) H with
    | none => rw [ho] at h; cases h
    | some d => rw [ho] at h; exact ⟨d, H, opQ_ok hq ho, h⟩
  · cases ho : stepD P T op (Jxv e) H with
    | none => rw [ho] at h; cases h
    | some p => rw [ho] at h; exact ⟨p.1, p.2, rfl, h⟩
theorem Rl.bool {sz : Nat} {e : En} {fr : List D} (h : Rl sz e fr) {t : Nat} {v : Value} (hb : getE e t = .v v) : fr[t]? = some (.v v) := by
  rw [h.get, List.getD_eq_getElem?_getD] at hb
  cases hq : fr[t]? with
  | none => rw [hq] at hb; cases hb
  | some x => rw [hq] at hb; simp at hb; rw [hb]
theorem Qcr     {P : Program} {T : Tab} {sz : Nat} {ops : List Oper} : ∀ (l : List Oper) (sk : List Nat) (i : Nat) (e : En) (H : Heap) (rh : List Heap) (fr : List D) (K : En → Heap → List Heap → Option α) (r : α), Rl sz e fr → opsK P T sz ops l sk i e H rh K = some r →
    ∃ fr' e', Jiu P T ops l (fr, H) = some fr' /\ Rl sz e' fr'.1 /\ K e' fr'.2 (rh.reverse ++ Jev P T ops l (fr, H)) = some r
  | [], sk, i, e, H, rh, fr, K, r, hr, h => ⟨(fr, H), e, rfl, hr, by simpa [opsK, Jev] using h⟩
  | o :: l, sk, i, e, H, rh, fr, K, r, hr, h => by
    have go : ∀ (e1 : En) (sk' : List Nat), Rl sz e1 fr → Jjp     ops o fr = some true → (Qf7   P T o.op e1 H fun d H' => putK sz e1 o.dst d fun e' => opsK P T sz ops l sk' (i + 1) e' H' (H :: rh) K) = some r →
        ∃ fr' e', Jiu P T ops (o :: l) (fr, H) = some fr' /\ Rl sz e' fr'.1 /\ K e' fr'.2 (rh.reverse ++ Jev P T ops (o :: l) (fr, H)) = some r := by
      intro e1 sk' hr1 hw h1
      obtain ⟨d, H', hs, h1⟩ := Qf6 h1
      rw [hr1.eval] at hs
      simp only [Jiu, oneD, hw, hs, Option.bind_some]
      obtain ⟨e', h2, h3⟩ := Jza hr1 h1
      obtain ⟨fr2, e2, q1, q2, q3⟩ := Qcr l sk' (i + 1) e' H' (H :: rh) _ K r h2 h3
      exact ⟨fr2, e2, q1, q2, by simpa [Jev, oneD, hw, hs] using q3⟩
    have skip : ∀ (e1 : En), Rl sz e1 fr → Jjp     ops o fr = some false → (putK sz e1 o.dst (.v undef) fun e' => opsK P T sz ops l (i :: sk) (i + 1) e' H (H :: rh) K) = some r →
        ∃ fr' e', Jiu P T ops (o :: l) (fr, H) = some fr' /\ Rl sz e' fr'.1 /\ K e' fr'.2 (rh.reverse ++ Jev P T ops (o :: l) (fr, H)) = some r := by
      intro e1 hr1 hw h1
      simp only [Jiu, oneD, hw, Option.bind_some]
      obtain ⟨e', h2, h3⟩ := Jza hr1 h1
      obtain ⟨fr2, e2, q1, q2, q3⟩ := Qcr l _ (i + 1) e' H (H :: rh) _ K r h2 h3
      exact ⟨fr2, e2, q1, q2, by simpa [Jev, oneD, hw] using q3⟩
    simp only [opsK] at h
    split at h
    · rename_i hg
      exact go e sk hr (by unfold Jjp; rw [hg]) h
    · rename_i j want hg
      split at h
      · rename_i t hj
        have hw : ∀ v, getE e t = .v v -> Jjp ops o fr = match v with | .bool b => some (b == want) | .tuple _ => some false | _ => none := by
          intro v hv
          have := hr.bool hv
          unfold Jjp
          simp only [hg, hj, Option.bind_some, this]
          cases v <;> rfl
        split at h
        · split at h
          · rename_i x hx
            exact skip e hr (hw _ hx) h
          · cases h
        · split at h
          · obtain ⟨b, hb, hc⟩ := Jqt h
            have hwb := hw _ hb
            cases b with
            | true => exact go _ sk (hr.same t _ hb) hwb hc
            | false => exact skip _ (hr.same t _ hb) hwb hc
          · obtain ⟨b, hb, hc⟩ := Jqt h
            have hwb := hw _ hb
            cases b with
            | true => exact skip _ (hr.same t _ hb) hwb hc
            | false => exact go _ sk (hr.same t _ hb) hwb hc
      · cases h
theorem Qb0     {P : Program} {T : Tab} {kp : List Nat} {n sz : Nat} (c : Code) : ∀ {α : Type} (e : En) (H : Heap) (fr : List D) (K : Lv → En → Heap → Option α) (r : α), Rl sz e fr → runK P T kp n sz c e H K = some r →
    ∃ lv fr' e', runC P T kp n c (fr, H) = some (lv, fr') /\ Rl sz e' fr'.1 /\ K lv e' fr'.2 = some r := by
  induction c with
  | skip => intro α e H fr K r hr h; exact ⟨_, _, e, rfl, hr, h⟩
  | label l => intro α e H fr K r hr h; exact ⟨_, _, e, rfl, hr, h⟩
  | exit id => intro α e H fr K r hr h; exact ⟨_, _, e, rfl, hr, h⟩
  | ret => intro α e H fr K r hr h; exact ⟨_, _, e, rfl, hr, h⟩
  | region id ops draw =>
    intro α e H fr K r hr h
    simp only [runK] at h
    simp only [runC, regD]
    split at h
    · rename_i hd
      rw [if_pos hd]
      obtain ⟨fr', e', h1, h2, h3⟩ := Qcr _ _ _ _ _ _ _ _ _ hr h
      obtain ⟨h4, h5⟩ := Jf1 h3
      refine ⟨_, fr', e', ?_, h2, h5⟩
      rw [h1, Option.bind_some, if_pos]
      cases draw with
      | false => rfl
      | true => rw [h2.eval] at h4; simpa using h4
    · cases h
  | seq x y ihx ihy =>
    intro α e H fr K r hr h
    simp only [runK] at h
    simp only [runC]
    obtain ⟨lv, fr', e', h1, h2, h3⟩ := ihx e H fr _ r hr h
    rw [h1]
    cases lv with
    | normal => exact ihy e' fr'.2 fr'.1 K r h2 h3
    | exit id => exact ⟨_, fr', e', rfl, h2, h3⟩
    | ret => exact ⟨_, fr', e', rfl, h2, h3⟩
  | cond c x y ihx ihy =>
    intro α e H fr K r hr h
    simp only [runK] at h
    simp only [runC]
    obtain ⟨b, hb, hc⟩ := Jqt h
    have hset : Rl sz (Qqy e c b) fr := by
      cases c with
      | tmp t => exact hr.same t _ hb
      | _ => exact hr
    rw [hr.eval] at hb
    rw [hb]
    cases b with
    | true => exact ihx _ H fr K r hset hc
    | false => exact ihy _ H fr K r hset hc
  | block id c ih =>
    intro α e H fr K r hr h
    simp only [runK] at h
    simp only [runC]
    obtain ⟨lv, fr', e', h1, h2, h3⟩ := ih e H fr _ r hr h
    rw [h1]
    cases lv with
    | normal => exact ⟨_, fr', e', rfl, h2, h3⟩
    | ret => exact ⟨_, fr', e', rfl, h2, h3⟩
    | exit j =>
      simp only [Qqk, Jew] at h3
      by_cases hj : j = id
      · subst hj
        simp only [Nat.beq_refl] at h3
        exact ⟨.normal, fr', e', by simp [Jv4], h2, h3⟩
      · have hb : Nat.beq j id = false := by
          cases hb : Nat.beq j id with
          | false => rfl
          | true => exact absurd (Nat.eq_of_beq_eq_true hb) hj
        rw [hb] at h3
        exact ⟨.exit j, fr', e', by simp [Jv4, hj], h2, h3⟩
  | loop c ih =>
    intro α e H fr K r hr h
    simp only [runK] at h
    simp only [runC]
    have key : ∀ (m : Nat) (e : En) (H : Heap) (fr : List D) (lv : Lv) (s : List D) (H' : Heap), Rl sz e fr →
        Jez (fun s H => runK P T kp n sz c (mkE kp s 0) H fun lv e H => some (lv, kp.map (getE e), H)) m (kp.map (getE e)) H = some (lv, s, H') ->
        ∃ fr0 e0, Jzv (fun fr => runC P T kp n c (forget kp fr)) m (fr, H) = some (lv, (fr0, H')) /\ Rl sz e0 fr0 /\ s = kp.map (getE e0) := by
      intro m
      induction m with
      | zero => intro e H fr lv s H' _ h; cases h
      | succ m ihm =>
        intro e H fr lv s H' hr h
        simp only [Jez] at h
        cases hx : (runK P T kp n sz c (mkE kp (kp.map (getE e)) 0) H fun lv e H => some (lv, kp.map (getE e), H)) with
        | none => rw [hx] at h; cases h
        | some q =>
          obtain ⟨lv1, fr1, e1, h1, h2, h3⟩ := ih _ H _ _ q (hr.kept kp) hx
          cases h3
          have hf : forget kp (fr, H) = (Jg4 kp fr 0, H) := rfl
          simp only [Jzv, hf, h1]
          rw [hx] at h
          cases lv1 with
          | normal =>
            obtain ⟨fr0, e0, q1, q2, q3⟩ := ihm e1 fr1.2 fr1.1 lv s H' h2 h
            exact ⟨fr0, e0, q1, q2, q3⟩
          | exit j => cases h; exact ⟨fr1.1, e1, rfl, h2, rfl⟩
          | ret => cases h; exact ⟨fr1.1, e1, rfl, h2, rfl⟩
    cases hx : Jez (fun s H => runK P T kp n sz c (mkE kp s 0) H fun lv e H => some (lv, kp.map (getE e), H)) n (kp.map (getE e)) H with
    | none => rw [hx] at h; cases h
    | some q =>
      obtain ⟨lv, s, H'⟩ := q
      rw [hx] at h
      obtain ⟨fr0, e0, q1, q2, rfl⟩ := key n e H fr lv s H' hr hx
      rw [q1]
      have h' : K lv (mkE kp (kp.map (getE e0)) 0) H' = some r := by
        cases lv with
        | normal => cases h
        | exit j => exact h
        | ret => exact h
      exact ⟨lv, _, _, rfl, q2.kept kp, h'⟩
  | scope c ih => intro α e H fr K r hr h; exact ih e H fr K r hr h
  | rangeFunc g ps as' bd iha ihc =>
    intro α e H fr K r hr h
    simp only [runK] at h
    simp only [runC]
    have hs : kp.map (getE e) = kp.map (fr.getD · .undef) := List.map_congr_left fun t _ => hr.get t
    rw [hr.eval, hs, <- hr.len] at h
    cases hx : rangeS T (Jd9 fr g) ps.toList as' bd fr.length kp (kp.map (fr.getD · .undef)) H with
    | none => rw [hx] at h; cases h
    | some q =>
      obtain ⟨lv, H'⟩ := q
      rw [hx] at h
      refine ⟨lv, (fr, H'), e, rfl, hr, ?_⟩
      cases lv <;> exact h
  | _ => intro α e H fr K r hr h; cases h
def resK (P : Program) (e : En) (H : Heap) : ResultVar -> Option D
  | .tmp t => some (getE e t)
  | .cell a t => (shapeOf P t).bind fun s => Jad s H (getE e a)
def Qq2 (P : Program) (e : En) (H : Heap) : List ResultVar -> Option (D × Heap)
  | [r] => thn (resK P e H r) fun d => some (d, H)
  | [r1, r2] => thn (resK P e H r1) fun d1 => thn (resK P e H r2) fun d2 => some (.tup [d1, d2], H)
  | [r1, r2, r3] => thn (resK P e H r1) fun d1 => thn (resK P e H r2) fun d2 => thn (resK P e H r3) fun d3 => some (.tup [d1, d2, d3], H)
  | [] => some (.tup [], H)
  | _ => none
def endK (P : Program) (rs : List ResultVar) : Lv -> En -> Heap -> Option (D × Heap)
  | .exit _, _, _ => none
  | _, e, H => Qq2 P e H rs
def funK (P : Program) (T : Tab) (kp : List Nat) (n : Nat) (c : Code) (ntmps : Nat) (rs : List ResultVar) (ds : List D) (H : Heap) : Option (D × Heap) :=
  if ds.length <= ntmps then runK P T kp n ntmps c (ofFr ds 0) H (endK P rs) else none
def Jk2 : Code -> List (List Nat × Code × Code)
  | .seq x y | .cond _ x y => Jk2 x ++ Jk2 y
  | .block _ c | .loop c | .scope c => Jk2 c
  | .rangeFunc _ ps as' bd => (ps.toList, as', bd) :: (Jk2 as' ++ Jk2 bd)
  | _ => []
def Jli (fn : Func) (i : Nat) : Code := ((Jk2 (fn.body.getD .skip)).getD i ([], .skip, .skip)).2.1
def Jje (fn : Func) (i : Nat) : Code := ((Jk2 (fn.body.getD .skip)).getD i ([], .skip, .skip)).2.2
end
theorem Qq3 {P : Program} {sz : Nat} {e : En} {H : Heap} {fr : List D} (hr : Rl sz e fr) (r : ResultVar) : resK P e H r = resD P (fr, H) r := by
  cases r with
  | tmp t => simp only [resK, resD, hr.get]
  | cell a t => simp only [resK, resD, hr.get]
theorem Qkl {P : Program} {T : Tab} {kp : List Nat} {n : Nat} {c : Code} {ntmps : Nat} {rs : List ResultVar} {ds : List D} {H H' : Heap} {d : D} (h : funK P T kp n c ntmps rs ds H = some (d, H')) : runF P T kp n c ntmps rs ds H = some (d, H') := by
  unfold funK at h
  unfold runF
  split at h
  · rename_i hle
    have hr : Rl ntmps (ofFr ds 0) (ds ++ List.replicate (ntmps - ds.length) .undef) := by
      refine ⟨by simp; omega, fun t => ?_⟩
      rw [Qnw, if_pos (Nat.zero_le _), Nat.sub_zero, List.getD_eq_getElem?_getD, List.getD_eq_getElem?_getD]
      by_cases ht : t < ds.length
      · rw [List.getElem?_append_left ht]
      · rw [List.getElem?_append_right (by omega), List.getElem?_eq_none (by omega)]
        simp only [List.getElem?_replicate]
        split <;> rfl
    obtain ⟨lv, fr, e, h1, h2, h3⟩ := Qb0 _ _ _ _ _ _ hr h
    rw [h1]
    have key : ∀ lv : Lv, (∀ j, lv ≠ .exit j) -> endK P rs lv e fr.2 = some (d, H') -> (Jkz P rs fr).map (fun d => (d, fr.2)) = some (d, H') := by
      intro lv hlv he
      have he' : Qq2 P e fr.2 rs = some (d, H') := by
        cases lv with
        | exit j => exact absurd rfl (hlv j)
        | normal => exact he
        | ret => exact he
      clear he h h3
      have hres : ∀ r, resK P e fr.2 r = resD P fr r := fun r => Qq3 h2 r
      unfold Qq2 at he'
      unfold Jkz
      split at he'
      · rename_i r1
        rw [hres] at he'
        cases hd1 : resD P fr r1 with
        | none => rw [hd1] at he'; cases he'
        | some d1 =>
          rw [hd1] at he'
          simp only [thn] at he'
          simp [hd1, he']
      · rename_i r1 r2
        rw [hres, hres] at he'
        cases hd1 : resD P fr r1 with
        | none => rw [hd1] at he'; cases he'
        | some d1 =>
          cases hd2 : resD P fr r2 with
          | none => rw [hd1, hd2] at he'; cases he'
          | some d2 =>
            rw [hd1, hd2] at he'
            simp only [thn] at he'
            simp [hd1, hd2]
            exact Prod.mk.inj (Option.some.inj he')
      · rename_i r1 r2 r3
        rw [hres, hres, hres] at he'
        cases hd1 : resD P fr r1 with
        | none => rw [hd1] at he'; cases he'
        | some d1 =>
          cases hd2 : resD P fr r2 with
          | none => rw [hd1, hd2] at he'; cases he'
          | some d2 =>
            cases hd3 : resD P fr r3 with
            | none => rw [hd1, hd2, hd3] at he'; cases he'
            | some d3 =>
              rw [hd1, hd2, hd3] at he'
              simp only [thn] at he'
              simp [hd1, hd2, hd3]
              exact Prod.mk.inj (Option.some.inj he')
      · simp
        exact Prod.mk.inj (Option.some.inj he')
      · cases he'
    cases lv with
    | exit j => cases h3
    | normal => exact key _ (by intro j hj; cases hj) h3
    | ret => exact key _ (by intro j hj; cases hj) h3
  · cases h
def Qlh (fn : Func) : Code := fn.body.getD .skip
def Jap (P : Program) (T : Tab) (kp : List Nat) (n : Nat) (fn : Func) (ds : List D) (H : Heap) : Option (D × Heap) := funK P T kp n (Qlh fn) fn.ntmps fn.results.toList ds H
theorem Jvs        {P : Program} {T : Tab} {kp : List Nat} (hT : TabOk P T) (hm : P.follows .mixedOrders = true) {f : FuncId} {fn : Func} (hf : P.funcs[f]? = some fn) (hb : fn.body.isSome = true) (hname : fn.name ≠ "runtime.NumGoroutine") {G : List D → Heap → Option (D × Heap)}
    (h : ∀ ds H d H', G ds H = some (d, H') -> ∃ n, Jap P T kp n fn ds H = some (d, H')) : HCallOk P f G := by
  cases hc : fn.body with
  | none => rw [hc] at hb; cases hb
  | some c =>
    refine Qkj (kp := kp) hT hm hf hc hname fun ds H d H' hF => ?_
    obtain ⟨n, hn⟩ := h ds H d H' hF
    refine ⟨n, ?_⟩
    unfold Jap Qlh at hn
    rw [hc] at hn
    exact Qkl hn
theorem Jpq       {P : Program} {T : Tab} {kp : List Nat} (hT : TabOk P T) (hm : P.follows .mixedOrders = true) {f : FuncId} {fn : Func} (hf : P.funcs[f]? = some fn) (hb : fn.body.isSome = true) (hname : fn.name ≠ "runtime.NumGoroutine") {F : List D → Option D}
    (h : ∀ ds d, F ds = some d -> ∃ n, outD (Jap P T kp n fn ds []) = some d) : CallOk P f F := by
  cases hc : fn.body with
  | none => rw [hc] at hb; cases hb
  | some c =>
    refine Qo7 (kp := kp) hT hm hf hc hname fun ds d hF => ?_
    obtain ⟨n, hn⟩ := h ds d hF
    refine ⟨n, ?_⟩
    unfold outD at hn ⊢
    obtain ⟨⟨d', H'⟩, h1, h2⟩ := Option.bind_eq_some_iff.1 hn
    unfold Jap Qlh at h1
    rw [hc] at h1
    exact Option.bind_eq_some_iff.2 ⟨_, Qkl h1, h2⟩
end Go.Proofs.YtinnbafplhcnpaaGreat
end
section
namespace Go.Proofs.YtinnbafplhcnpaaGreat
open Go.RowKit
set_option linter.unusedVariables false
set_option linter.unusedSimpArgs false
def Qq9 : List Nat -> List D -> En -> En
  | t :: ps, d :: ds, e => Qq9 ps ds ((t, d) :: e)
  | _, _, e => e
def Jx7 {α : Type} (id : Nat) (H : Heap) (k : Heap -> Option α) : Option α :=
  match H[id]? with
  | some (.loop .ready ps as' bd sz kp s) => k (H.set id (.loop .busy ps as' bd sz kp s))
  | _ => none
def endR (id : Nat) (lv : Lv) (H : Heap) : Option (D × Heap) :=
  match H[id]? with
  | some (.loop .busy ps as' bd sz kp s) =>
    match lv with
    | .normal => some (.v (.bool true), H.set id (.loop .ready ps as' bd sz kp s))
    | lv => some (.v (.bool false), H.set id (.loop (.done lv) ps as' bd sz kp s))
  | _ => none
def Qep {α : Type} (lv : Lv) (x : Option α) : Option α :=
  match lv with
  | .normal => x
  | _ => none
def Jvd (P : Program) (T : Tab) (n : Nat) (id : Nat) (ps : List Nat) (as' bd : Code) (sz : Nat) (kp : List Nat) (s : List D) (ds : List D) (H : Heap) : Option (D × Heap) :=
  runK P T kp n sz as' (Qq9 ps ds (mkE kp s 0)) H fun lv e H1 => Qep lv (Jx7 id H1 fun H2 => runK P T kp n sz bd e H2 fun lv2 _ H3 => endR id lv2 H3)
def Jo2 (P : Program) (T : Tab) (n : Nat) (id : Nat) (ds : List D) (H : Heap) : Option (D × Heap) :=
  match H[id]? with
  | some (.loop .ready ps as' bd sz kp s) => if ds.length = ps.length /\ Jgd as' = true /\ Jgd bd = true /\ (ps.all fun t => decide (t < sz)) = true /\ (kp.all fun t => decide (t < sz)) = true then Jvd P T n id ps as' bd sz kp s ds H else none
  | _ => none
theorem Qsf (sz : Nat) (kp : List Nat) (s : List D) (t : Nat) (ht : t < sz) : (frU sz kp s).getD t .undef = getU kp s t := by
  rw [List.getD_eq_getElem?_getD, frU, List.getElem?_map, List.getElem?_range ht]; rfl
theorem Jw9 : ∀ (kp : List Nat) (s : List D) (l : List D) (i t : Nat), l.drop i = s -> getE (mkE kp l i) t = getU kp s t
  | [], s, l, i, t, h => by simp [mkE, getE, getU]
  | k :: kp, s, l, i, t, h => by
    simp only [mkE]
    rw [Jmm]
    cases s with
    | nil =>
      have hl : l.length <= i := by simpa using h
      simp only [getU]
      split
      · rw [List.getD_eq_getElem?_getD, List.getElem?_eq_none hl]; rfl
      · have := Jw9 kp [] l (i + 1) t (by rw [List.drop_of_length_le]; omega)
        rw [this]
        cases kp <;> rfl
    | cons d r =>
      have hi : l[i]? = some d := by
        have := congrArg (·[0]?) h
        simpa using this
      have hr : l.drop (i + 1) = r := by
        have := congrArg List.tail h
        simpa using this
      simp only [getU]
      split
      · rw [List.getD_eq_getElem?_getD, hi]; rfl
      · exact Jw9 kp r l (i + 1) t hr
theorem rl_frU (sz : Nat) (kp : List Nat) (s : List D) (h : ∀ t, sz <= t -> getU kp s t = .undef) : Rl sz (mkE kp s 0) (frU sz kp s) := by
  refine ⟨by simp [frU], fun t => ?_⟩
  rw [Jw9 kp s s 0 t (by simp)]
  by_cases ht : t < sz
  · rw [Qsf sz kp s t ht]
  · rw [h t (by omega), List.getD_eq_getElem?_getD, List.getElem?_eq_none (by simp [frU]; omega)]; rfl
theorem Jz8 : ∀ (kp : List Nat) (s : List D) (t : Nat), t ∉ kp -> getU kp s t = .undef
  | [], s, t, _ => by cases s <;> rfl
  | k :: kp, [], t, _ => rfl
  | k :: kp, d :: s, t, h => by
    simp only [List.mem_cons, not_or] at h
    simp only [getU]
    rw [if_neg (fun e => h.1 e.symm)]
    exact Jz8 kp s t h.2
def Qm8 : List Nat -> List D -> List D -> List D
  | t :: ps, d :: ds, l => Qm8 ps ds (l.set t d)
  | _, _, l => l
theorem Qi7 (sz : Nat) : ∀ (ps : List Nat) (ds : List D) (e : En) (fr : List D), (ps.all fun t => decide (t < sz)) = true -> Rl sz e fr -> Rl sz (Qq9 ps ds e) (Qm8 ps ds fr)
  | [], ds, e, fr, _, h => by cases ds <;> exact h
  | t :: ps, [], e, fr, _, h => h
  | t :: ps, d :: ds, e, fr, hp, h => by
    simp only [List.all_cons, Bool.and_eq_true, decide_eq_true_eq] at hp
    exact Qi7 sz ps ds _ _ hp.2 (h.set t hp.1 d)
theorem Qeg      {S : Nat → Prop} {L : List (Nat × Nat)} {w : World} : ∀ (ps : List Nat) (ds : List D) (vs : List Value) (tmps : Array Value) (fr : List D), RepA S L w vs ds → RepA S L w tmps.toList fr →
    RepA S L w ((ps.zip vs).foldl (fun tmps (t, a) => tmps.setIfInBounds t a) tmps).toList (Qm8 ps ds fr)
  | [], ds, vs, tmps, fr, _, h => by cases ds <;> exact h
  | t :: ps, [], vs, tmps, fr, hv, h => by
    simp only [RepA] at hv
    subst hv
    exact h
  | t :: ps, d :: ds, vs, tmps, fr, hv, h => by
    simp only [RepA] at hv
    obtain ⟨x, ys, rfl, h1, h2⟩ := hv
    refine Qeg ps ds ys _ _ h2 ?_
    simp only [Array.toList_setIfInBounds]
    exact h.set t h1
theorem Jw3 {α : Type} {lv : Lv} {x : Option α} {r : α} (h : Qep lv x = some r) : lv = .normal /\ x = some r := by
  cases lv with
  | normal => exact ⟨rfl, h⟩
  | _ => cases h
theorem Qhz {α : Type} {id : Nat} {H : Heap} {k : Heap -> Option α} {r : α} (h : Jx7 id H k = some r) : ∃ ps as' bd sz kp s, H[id]? = some (.loop .ready ps as' bd sz kp s) /\ k (H.set id (.loop .busy ps as' bd sz kp s)) = some r := by
  unfold Jx7 at h
  split at h
  · rename_i ps as' bd sz kp s hid
    exact ⟨ps, as', bd, sz, kp, s, hid, h⟩
  · cases h
theorem HRel.loop {B : Nat} {S : Nat → Prop} {L : List (Nat × Nat)} {w : World} {H : Heap} (h : HRel B S L w H) {id : Nat} {st : LS} {ps : List Nat} {as' bd : Code} {sz : Nat} {kp : List Nat} {s : List D} (hid : H[id]? = some (.loop st ps as' bd sz kp s)) {b c : Nat} (hL : L[id]? = some (b, c)) :
    ∃ r : Loop, w.heap[b]? = some (.loop r) /\ r.state = st.state /\ r.pending = st.pend /\ ∀ st' : LS, ∀ r' : Loop, r'.state = st'.state -> r'.pending = st'.pend -> r'.params = r.params -> r'.assign = r.assign -> r'.body = r.body -> r'.tmps = r.tmps ->
      HRel B S L (w.putObj b (.loop r')) (H.set id (.loop st' ps as' bd sz kp s)) /\ Later B S S L L w (w.putObj b (.loop r')) := by
  obtain ⟨b', c', h1, h2, h3, r, h4, h5, h6, h7, h8, h9, h10⟩ := h.obj id _ hid (by intro e; cases e)
  rw [hL] at h1
  cases h1
  refine ⟨r, h4, h5, h6, fun st' r' k1 k2 k3 k4 k5 k6 => ?_⟩
  refine h.writeO hid (by intro e; cases e) hL _ (.loop st' ps as' bd sz kp s) (by intro e; cases e) rfl rfl rfl (by simp) (fun k hk => World.putObj_heap_other hk) fun hr1 hr2 => ?_
  exact ⟨r', World.putObj_heap_same (Array.getElem?_eq_some_iff.1 h4).1, k1, k2, by rw [k3]; exact h7, k4.trans h8, k5.trans h9, by rw [k6]; exact hr2 _ _ h10⟩
theorem Qi6 {P : Program} {T : Tab} (hT : TabOk P T) (hm : P.follows .mixedOrders = true) (n : Nat) : YOk P (Jo2 P T n) := by
  intro id ds H d H' h B S L vs w hr hv
  unfold Jo2 at h
  split at h
  · rename_i ps as' bd sz kp s hid
    split at h
    · rename_i hc
      obtain ⟨hlen, hn1, hn2, hps, hkp⟩ := hc
      unfold Jvd at h
      obtain ⟨b, c, h1, h2, h3, r, h4, h5, h6, h7, h8, h9, h10⟩ := hr.obj id _ hid (by intro e; cases e)
      have hvl := hv.length
      have hsz : vs.toArray.size = r.params.size := by
        have : r.params.size = ps.length := by rw [<- h7]; simp
        simp; omega
      have hrl := Qi7 sz ps ds _ _ hps (rl_frU sz kp s fun t ht => Jz8 kp s t fun hm => by
        have := List.all_eq_true.1 hkp t hm
        simp at this; omega)
      obtain ⟨lv, fr1, e1, k1, k2, k3⟩ := Qb0 _ _ _ _ _ _ hrl h
      obtain ⟨hlv, k3'⟩ := Jw3 k3
      subst hlv
      clear k3
      obtain ⟨ps1, as1, bd1, sz1, kp1, s1, hid1, k3⟩ := Qhz k3'
      obtain ⟨lv2, fr2, e2, k4, k5, k6⟩ := Qb0 _ _ _ _ _ _ k2 k3
      refine ⟨b, c, r.fn, _, r.assign, r.body, h1, run_yield h4 hsz, fun n' => ?_⟩
      refine roundIn_of_wpIn trivial ?_
      rw [h8]
      have hrep : RepF B w.heap.size S L w { tmps := (r.params.zip vs.toArray).foldl (fun tmps (t, a) => tmps.setIfInBounds t a) r.tmps, defers := [] } (Qm8 ps ds (frU sz kp s), H) := by
        refine ⟨MarksOk.nil, ?_, hr⟩
        have := Qeg ps ds vs r.tmps _ hv h10
        rw [<- h7] at this
        rw [<- Array.foldl_toList, Array.toList_zip]
        simpa [h7] using this
      refine Qb1 hT hm (.round b) hr.base as' k1 (.inr hn1) (Nat.le_refl _) hrep fun a1 w1 S1 L1 q1 q2 => ?_
      have hL1 := Je8 q2.pre _ _ h1
      obtain ⟨r1, p1, p2, p3, p4⟩ := q1.objs.loop hid1 hL1
      obtain ⟨p5, p6⟩ := p4 .busy { r1 with state := .busy } rfl p3 rfl rfl rfl rfl
      refine ⟨_, run_beginRound p1 p2, ?_⟩
      rw [h9]
      have hlat := q2.trans p6
      have hrep2 : RepF B w.heap.size S1 L1 (w1.putObj b (.loop { r1 with state := .busy })) a1 (fr1.1, fr1.2.set id (.loop .busy ps1 as1 bd1 sz1 kp1 s1)) := ⟨q1.defers.later p6, p6.repA q1.tmps, p5⟩
      refine Qb1 hT hm (.round b) hr.base bd k4 (.inr hn2) hlat.kept.size hrep2 fun a2 w2 S2 L2 u1 u2 => ?_
      have hL2 := Je8 u2.pre _ _ hL1
      have hall := hlat.trans u2
      have fin : ∀ (jump : Option Code) (st' : LS) (bb : Bool) ps2 as2 bd2 sz2 kp2 s2, fr2.2[id]? = some (.loop .busy ps2 as2 bd2 sz2 kp2 s2) → (if jump.isNone then LoopState.ready else .done) = st'.state → jump = st'.pend → jump.isNone = bb → d = .v (.bool bb) → H' = fr2.2.set id (.loop st' ps2 as2 bd2 sz2 kp2 s2) →
          ∃ v w', (Instr.endRound b jump).run P w2 = .ok v w' /\ ∃ v' S' L', Ending.returned v = .returned v' /\ Rep S' L' w' v' d /\ HRel B S' L' w' H' /\ Later B S S' L L' w w' := by
        intro jump st' bb ps2 as2 bd2 sz2 kp2 s2 hid2 e1 e2 e3 e4 e5
        obtain ⟨r2, y1, y2, y3, y4⟩ := u1.objs.loop hid2 hL2
        obtain ⟨y5, y6⟩ := y4 st' { r2 with state := if jump.isNone then .ready else .done, pending := jump } e1 e2 rfl rfl rfl rfl
        refine ⟨_, _, run_endRound jump y1, _, S2, L2, rfl, ?_, by rw [e5]; exact y5, hall.trans y6⟩
        rw [e4, e3]
        simp only [Rep]
      unfold endR at k6
      split at k6
      · rename_i ps2 as2 bd2 sz2 kp2 s2 hid2
        cases lv2 with
        | normal =>
          cases k6
          exact fin none .ready true _ _ _ _ _ _ hid2 rfl rfl rfl rfl rfl
        | exit j =>
          cases k6
          exact fin (some (.exit j)) (.done (.exit j)) false _ _ _ _ _ _ hid2 rfl rfl rfl rfl rfl
        | ret =>
          cases k6
          exact fin (some .ret) (.done .ret) false _ _ _ _ _ _ hid2 rfl rfl rfl rfl rfl
      · cases k6
    · cases h
  · cases h
def Yn (P : Program) (TT : (Nat -> List D -> Heap -> Option (D × Heap)) -> Tab) (n : Nat) : Nat -> Nat -> List D -> Heap -> Option (D × Heap)
  | 0 => noYl
  | m + 1 => Jo2 P (TT (Yn P TT n m)) n
theorem Qs6 {P : Program} {TT : (Nat -> List D -> Heap -> Option (D × Heap)) -> Tab} (hTT : ∀ Y, YOk P Y -> TabOk P (TT Y)) (hm : P.follows .mixedOrders = true) (n : Nat) : ∀ m, YOk P (Yn P TT n m)
  | 0 => Qjp P
  | m + 1 => Qi6 (hTT _ (Qs6 hTT hm n m)) hm n
end Go.Proofs.YtinnbafplhcnpaaGreat
end
section
namespace Go.Proofs.YtinnbafplhcnpaaGreat
open Go.RowKit
set_option linter.unusedVariables false
set_option linter.unusedSimpArgs false
abbrev iD (n : Int) : D := .v (.int .i64 n)
abbrev bD (b : Bool) : D := .v (.bool b)
def Jax (x : Nd) : List D := [iD x.1, iD x.2]
def oneI (n : Int) : List D := [iD n]
def Jaf (l : List Nd) : D := .sl 2 (l.map Jax)
def Jag (l : List Int) : D := .sl 1 (l.map oneI)
def asInt : D -> Option Int
  | .v (.int .i64 n) => some n
  | _ => none
def Jrj : List D -> Option Nd
  | [.v (.int .i64 a), .v (.int .i64 b)] => some (a, b)
  | _ => none
def Qh1 : List D -> Option Int
  | [.v (.int .i64 a)] => some a
  | _ => none
def asNd : D -> Option Nd
  | .agg cs => Jrj cs
  | _ => none
def Jbw : D -> Option (List Nd)
  | .sl _ els => els.mapM Jrj
  | .v (.slice none 0 0) => some []
  | _ => none
def Jdr : D -> Option (List Int)
  | .sl _ els => els.mapM Qh1
  | .v (.slice none 0 0) => some []
  | _ => none
theorem mapM_map {α β : Type} (f : α -> β) (g : β -> Option α) (h : ∀ x, g (f x) = some x) (l : List α) : (l.map f).mapM g = some l := by
  induction l with
  | nil => rfl
  | cons a r ih => simp [List.mapM_cons, h, ih]
@[simp] theorem Jn6 (l : List Nd) : Jbw (Jaf l) = some l := mapM_map Jax Jrj (fun _ => rfl) l
@[simp] theorem Jrk (l : List Int) : Jdr (Jag l) = some l := mapM_map oneI Qh1 (fun _ => rfl) l
@[simp] theorem asInt_iD (n : Int) : asInt (.v (.int .i64 n)) = some n := rfl
@[simp] theorem Qqn (x : Nd) : Jrj (Jax x) = some x := rfl
@[simp] theorem Qsy : Jbw (.v (.slice none 0 0)) = some [] := rfl
@[simp] theorem asInts_nil : Jdr (.v (.slice none 0 0)) = some [] := rfl
section
variable {S : Nat -> Prop} {w : World}
theorem Jfs {L : List (Nat × Nat)} {d : D} {n : Int} {v : Value} (h : asInt d = some n) (hv : Rep S L w v d) : v = .int .i64 n := by
  unfold asInt at h
  split at h
  · cases h; simpa only [Rep] using hv
  · cases h
theorem Jt2 {cs : List D} {x : Nd} (h : Jrj cs = some x) : cs = Jax x := by
  unfold Jrj at h
  split at h
  · cases h; rfl
  · cases h
theorem Qfz {cs : List D} {x : Int} (h : Qh1 cs = some x) : cs = oneI x := by
  unfold Qh1 at h
  split at h
  · cases h; rfl
  · cases h
theorem mapM_ok {α : Type} (f : α -> List D) (g : List D -> Option α) (h : ∀ cs x, g cs = some x -> cs = f x) : ∀ (els : List (List D)) (l : List α), els.mapM g = some l -> els = l.map f
  | [], l, hm => by simp at hm; subst hm; rfl
  | e :: r, l, hm => by
    simp only [List.mapM_cons, Option.pure_def, Option.bind_eq_bind] at hm
    cases he : g e with
    | none => rw [he] at hm; cases hm
    | some x =>
      cases hr : r.mapM g with
      | none => rw [he, hr] at hm; cases hm
      | some t =>
        rw [he, hr] at hm
        cases hm
        rw [mapM_ok f g h r t hr, h e x he]; rfl
theorem Qab {α : Type} (f : α -> List D) (g : α -> List Value) (sz : Nat) (hl : ∀ x, (f x).length = sz) (hg : ∀ x, RepA S [] w (g x) (f x)) (l : List α) (b o : Nat) (h : ∀ j, j < (l.flatMap g).length -> w.cell? ⟨b, o + j, none⟩ = (l.flatMap g)[j]?) : RepR S [] w b o sz (l.map f) := by
  induction l generalizing o with
  | nil => simp [RepR]
  | cons x r ih =>
    have hgx := (hg x).length
    simp only [List.map_cons, RepR]
    refine ⟨hl x, RepC.of (hg x) fun j y hj => ?_, ih (o + sz) fun j hj => ?_⟩
    · have hlt := (List.getElem?_eq_some_iff.1 hj).1
      rw [h j (by simp; omega), List.flatMap_cons, List.getElem?_append_left hlt, hj]
    · have := h (sz + j) (by rw [List.flatMap_cons, List.length_append, hgx, hl x]; omega)
      rw [List.flatMap_cons, List.getElem?_append_right (by rw [hgx, hl x]; omega), hgx, hl x, Nat.add_sub_cancel_left] at this
      rwa [Nat.add_assoc]
theorem Qi2 {α : Type} (f : α -> List D) (g : α -> List Value) (hg : ∀ x ys, RepA S [] w ys (f x) -> ys = g x) (l : List α) (b o sz : Nat) (h : RepR S [] w b o sz (l.map f)) : ∀ j, j < (l.flatMap g).length -> w.cell? ⟨b, o + j, none⟩ = (l.flatMap g)[j]? := by
  induction l generalizing o with
  | nil => intro j hj; simp at hj
  | cons x r ih =>
    simp only [List.map_cons, RepR] at h
    obtain ⟨h1, h2, h3⟩ := h
    obtain ⟨ys, h4, h5⟩ := h2.values
    have hy := hg x ys h4
    subst hy
    have hl := h4.length
    intro j hj
    rw [List.flatMap_cons]
    by_cases hlt : j < (g x).length
    · rw [List.getElem?_append_left hlt]
      exact (h5 j _ (List.getElem?_eq_getElem hlt)).trans (List.getElem?_eq_getElem hlt).symm
    · rw [List.getElem?_append_right (by omega), hl, h1]
      have := ih (o + sz) h3 (j - sz) (by rw [List.flatMap_cons, List.length_append] at hj; omega)
      rw [<- this, show o + sz + (j - sz) = o + j from by omega]
theorem Qrm (x : Nd) : RepA S [] w [.int .i64 x.1, .int .i64 x.2] (Jax x) := RepA.cons (by simp only [Rep]) (RepA.cons (by simp only [Rep]) RepA.nil)
theorem Qnx (x : Nd) (ys : List Value) (h : RepA S [] w ys (Jax x)) : ys = [.int .i64 x.1, .int .i64 x.2] := by
  simp only [Jax, RepA, Rep] at h
  obtain ⟨a, t, rfl, rfl, b, u, rfl, rfl, rfl⟩ := h
  rfl
theorem oneRep (n : Int) : RepA S [] w [.int .i64 n] (oneI n) := RepA.cons (by simp only [Rep]) RepA.nil
theorem Qre (n : Int) (ys : List Value) (h : RepA S [] w ys (oneI n)) : ys = [.int .i64 n] := by
  simp only [oneI, RepA, Rep] at h
  obtain ⟨a, t, rfl, rfl, rfl⟩ := h
  rfl
theorem Jie {v : Value} {l : List Nd} (h : NodesIn S w v l) : Rep S [] w v (Jaf l) := by
  simp only [Jaf, Rep, List.length_map]
  rcases h with ⟨p, cap, h1, h2, _, h3⟩ | ⟨b, o, cap, h1, h2, h3, h4, h5⟩
  · have : l = [] := List.eq_nil_of_length_eq_zero h2
    subst this
    exact .inl ⟨rfl, p, cap, h1, h3⟩
  · exact .inr ⟨b, o, cap, h1, h2, h3, h4, Qab Jax _ 2 (fun _ => rfl) Qrm l b o h5⟩
theorem Jkf {v : Value} {l : List Int} (h : IntsIn S w v l) : Rep S [] w v (Jag l) := by
  simp only [Jag, Rep, List.length_map]
  have hm : l.map (Value.int .i64) = l.flatMap fun n => [Value.int .i64 n] := by
    clear h
    induction l with
    | nil => rfl
    | cons a r ih => simp [ih]
  unfold IntsIn at h
  rw [hm] at h
  rcases h with ⟨p, cap, h1, h2, _, h3⟩ | ⟨b, o, cap, h1, h2, h3, h4, h5⟩
  · have : l = [] := List.eq_nil_of_length_eq_zero h2
    subst this
    exact .inl ⟨rfl, p, cap, h1, h3⟩
  · exact .inr ⟨b, o, cap, h1, h2, h3, h4, Qab oneI _ 1 (fun _ => rfl) oneRep l b o h5⟩
theorem Jy4 {α : Type} (f : α -> List D) (g : α -> List Value) (hg : ∀ x ys, RepA S [] w ys (f x) -> ys = g x) {v : Value} {l : List α} {sz : Nat} (h : Rep S [] w v (.sl sz (l.map f))) : SliceIn S w v l.length (l.flatMap g) := by
  simp only [Rep, List.length_map] at h
  rcases h with ⟨h1, p, cap, h2, h3⟩ | ⟨b, o, cap, h1, h2, h3, h4, h5⟩
  · have : l = [] := by simpa using h1
    subst this
    exact .inl ⟨p, cap, h2, rfl, rfl, h3⟩
  · exact .inr ⟨b, o, cap, h1, h2, h3, h4, Qi2 f g hg l b o sz h5⟩
theorem Jb9 {d : D} {l : List Nd} {v : Value} (h : Jbw d = some l) (hv : Rep S [] w v d) : NodesIn S w v l := by
  unfold Jbw at h
  split at h
  · rw [mapM_ok Jax Jrj (fun _ _ => Jt2) _ _ h] at hv
    exact Jy4 Jax _ Qnx hv
  · cases h
    simp only [Rep] at hv
    exact .inl ⟨none, 0, hv, rfl, rfl, fun _ => rfl⟩
  · cases h
theorem Jgp {d : D} {l : List Int} {v : Value} (h : Jdr d = some l) (hv : Rep S [] w v d) : IntsIn S w v l := by
  have hm : l.map (Value.int .i64) = l.flatMap fun n => [Value.int .i64 n] := by
    clear h
    induction l with
    | nil => rfl
    | cons a r ih => simp [ih]
  unfold IntsIn
  rw [hm]
  unfold Jdr at h
  split at h
  · rw [mapM_ok oneI Qh1 (fun _ _ => Qfz) _ _ h] at hv
    exact Jy4 oneI _ Qre hv
  · cases h
    simp only [Rep] at hv
    exact .inl ⟨none, 0, hv, rfl, rfl, fun _ => rfl⟩
  · cases h
end
@[simp] theorem Qsk (l : List Nd) : elsD 2 (Jaf l) = some (l.map Jax) := by simp [elsD, Jaf]
@[simp] theorem Jvw (l : List Int) : elsD 1 (Jag l) = some (l.map oneI) := by simp [elsD, Jag]
end Go.Proofs.YtinnbafplhcnpaaGreat
end
section
namespace Go.Proofs.YtinnbafplhcnpaaGreat
open Go.RowKit
set_option linter.unusedVariables false
set_option linter.unusedSimpArgs false
section
variable {α : Type}
@[congr] theorem thn_congr {o o' : Option D} (k : D -> Option α) (h : o = o') : thn o k = thn o' k := by rw [h]
@[congr] theorem thnH_congr {o o' : Option (D × Heap)} (k : D -> Heap -> Option α) (h : o = o') : thnH o k = thnH o' k := by rw [h]
@[congr] theorem Qsq {d d' : D} (x y : Option α) (h : d = d') : Jah d x y = Jah d' x y := by rw [h]
@[congr] theorem Qqb {r r' : Option (Lv × List D × Heap)} (x : Nat -> List D -> Heap -> Option α) (y : List D -> Heap -> Option α) (h : r = r') : Jdl r x y = Jdl r' x y := by rw [h]
@[congr] theorem Qn6 {r r' : Option (Lv × Heap)} (x : Heap -> Option α) (y : Nat -> Heap -> Option α) (z : Heap -> Option α) (h : r = r') : Jmh r x y z = Jmh r' x y z := by rw [h]
@[simp] theorem Jaj (d : D) (k : D -> Option α) : thn (some d) k = k d := by cases d <;> rfl
@[simp] theorem thn_none (k : D -> Option α) : thn none k = none := rfl
@[simp] theorem thn_if (c : Prop) [Decidable c] (x y : Option D) (k : D -> Option α) : thn (if c then x else y) k = if c then thn x k else thn y k := by split <;> rfl
@[simp] theorem Jan (r : D × Heap) (k : D -> Heap -> Option α) : thnH (some r) k = k r.1 r.2 := by cases r; rfl
@[simp] theorem thnH_none (k : D -> Heap -> Option α) : thnH none k = none := rfl
@[simp] theorem thnH_if (c : Prop) [Decidable c] (x y : Option (D × Heap)) (k : D -> Heap -> Option α) : thnH (if c then x else y) k = if c then thnH x k else thnH y k := by split <;> rfl
@[simp] theorem Jai (b : Bool) (x y : Option α) : Jah (.v (.bool b)) x y = if b = true then x else y := by cases b <;> rfl
@[simp] theorem Jcz (j : Nat) (x y : Option α) : Jew j j x y = x := by simp [Jew]
@[simp] theorem Jcd (j : Nat) (s : List D) (H : Heap) (x : Nat -> List D -> Heap -> Option α) (y : List D -> Heap -> Option α) : Jdl (some (.exit j, s, H)) x y = x j s H := by cases s <;> rfl
@[simp] theorem Jig (s : List D) (H : Heap) (x : Nat -> List D -> Heap -> Option α) (y : List D -> Heap -> Option α) : Jdl (some (.ret, s, H)) x y = y s H := by cases s <;> rfl
@[simp] theorem Jn1 (H : Heap) (x : Heap -> Option α) (y : Nat -> Heap -> Option α) (z : Heap -> Option α) : Jmh (some (.normal, H)) x y z = x H := by cases H <;> rfl
@[simp] theorem Qqa (j : Nat) (H : Heap) (x : Heap -> Option α) (y : Nat -> Heap -> Option α) (z : Heap -> Option α) : Jmh (some (.exit j, H)) x y z = y j H := by cases H <;> rfl
@[simp] theorem Qru (H : Heap) (x : Heap -> Option α) (y : Nat -> Heap -> Option α) (z : Heap -> Option α) : Jmh (some (.ret, H)) x y z = z H := by cases H <;> rfl
end
theorem getD_in {α : Type} (l : List α) (i : Nat) (d : α) (h : i < l.length) : l.getD i d = l[i] := by simp [h]
theorem Jld : ((0 : Nat) : Int) = 0 := rfl
theorem Jei {step : List D -> Heap -> Option (Lv × List D × Heap)} {m : Nat} {s s' : List D} {H H' : Heap} (h : step s H = some (.normal, s', H')) : Jez step (m + 1) s H = Jez step m s' H' := by simp only [Jez, h]
theorem Jdn {step : List D -> Heap -> Option (Lv × List D × Heap)} {m j : Nat} {s s' : List D} {H H' : Heap} (h : step s H = some (.exit j, s', H')) : Jez step (m + 1) s H = some (.exit j, s', H') := by simp only [Jez, h]
theorem Jpf {step : List D -> Heap -> Option (Lv × List D × Heap)} {m : Nat} {s s' : List D} {H H' : Heap} (h : step s H = some (.ret, s', H')) : Jez step (m + 1) s H = some (.ret, s', H') := by simp only [Jez, h]
theorem Qhl        {step : List D → Heap → Option (Lv × List D × Heap)} (st : Nat → List D) (H : Heap) (len : Nat) (p : Nat → Bool) (r : Nat → Lv × List D × Heap) (e : Lv × List D × Heap) (hr : ∀ i, (r i).1 ≠ .normal) (he : e.1 ≠ .normal) (i0 n : Nat) (hi0 : i0 ≤ len) (hn : len < n + i0)
    (h1 : ∀ i, i0 <= i -> i < len -> p i = true -> step (st i) H = some (.normal, st (i + 1), H)) (h2 : ∀ i, i0 <= i -> i < len -> p i = false -> step (st i) H = some (r i)) (h3 : step (st len) H = some e) :
    ((∀ i, i0 <= i -> i < len -> p i = true) /\ Jez step n (st i0) H = some e) \/ ∃ i, i0 <= i /\ i < len /\ p i = false /\ (∀ j, i0 <= j -> j < i -> p j = true) /\ Jez step n (st i0) H = some (r i) := by
  have key : ∀ (m i : Nat), i + m = len → i0 ≤ i → (∀ j, i0 ≤ j → j < i → p j = true) → ∀ n, m < n →
      ((∀ i, i0 <= i -> i < len -> p i = true) /\ Jez step n (st i) H = some e) \/ ∃ i', i0 <= i' /\ i' < len /\ p i' = false /\ (∀ j, i0 <= j -> j < i' -> p j = true) /\ Jez step n (st i) H = some (r i') := by
    intro m
    induction m with
    | zero =>
      intro i hi hi0 hp n hn
      obtain ⟨n, rfl⟩ : ∃ m, n = m + 1 := ⟨n - 1, by omega⟩
      obtain rfl : i = len := by omega
      refine .inl ⟨hp, ?_⟩
      simp only [Jez, h3]
      obtain ⟨lv, s', H'⟩ := e
      cases lv with
      | normal => exact absurd rfl he
      | _ => rfl
    | succ m ih =>
      intro i hi hi0 hp n hn
      obtain ⟨n, rfl⟩ : ∃ m, n = m + 1 := ⟨n - 1, by omega⟩
      cases hpi : p i with
      | true =>
        rw [Jei (h1 i hi0 (by omega) hpi)]
        exact ih (i + 1) (by omega) (by omega) (fun j hj hji => by
          by_cases e : j = i
          · rw [e]; exact hpi
          · exact hp j hj (by omega)) n (by omega)
      | false =>
        refine .inr ⟨i, hi0, by omega, hpi, hp, ?_⟩
        have := h2 i hi0 (by omega) hpi
        simp only [Jez, this]
        have hne := hr i
        generalize r i = x at *
        obtain ⟨lv, s', H'⟩ := x
        cases lv with
        | normal => exact absurd rfl hne
        | _ => rfl
  exact key (len - i0) i0 (by omega) (Nat.le_refl _) (fun j h1 h2 => by omega) n (by omega)
theorem Jfv        {P : Program} {T : Tab} {kp : List Nat} {fn : Func} {li : Nat} (st : Nat → List D) (H : Heap) (len : Nat) (p : Nat → Bool) (r : Nat → Lv × List D × Heap) (e : Lv × List D × Heap) (hr : ∀ i, (r i).1 ≠ .normal) (he : e.1 ≠ .normal) (i0 n : Nat) (hi0 : i0 ≤ len) (hn : len < n + i0)
    (h1 : ∀ i, i0 <= i -> i < len -> p i = true -> Jdu P T kp n fn li (st i) H = some (.normal, st (i + 1), H)) (h2 : ∀ i, i0 <= i -> i < len -> p i = false -> Jdu P T kp n fn li (st i) H = some (r i)) (h3 : Jdu P T kp n fn li (st len) H = some e) :
    ((∀ i, i0 <= i -> i < len -> p i = true) /\ Jds P T kp n fn li (st i0) H = some e) \/ ∃ i, i0 <= i /\ i < len /\ p i = false /\ (∀ j, i0 <= j -> j < i -> p j = true) /\ Jds P T kp n fn li (st i0) H = some (r i) :=
  Qhl st H len p r e hr he i0 n hi0 hn h1 h2 h3
theorem Qdm {α : Type} (a b : D) (k : Option α) (h : apartB a b = true) : Jmt a b k = k := by unfold Jmt; rw [h]
@[simp] theorem Qa3 {α : Type} (i j o p : Nat) (k : Option α) : Jmt (.hp i o) (.hp j p) k = if i = j then none else k := by
  by_cases h : i = j
  · subst h
    have : apartB (.hp i o) (.hp i p) = false := by
      show (!Nat.beq i i) = false
      rw [Nat.beq_refl]; rfl
    unfold Jmt; rw [this, if_pos rfl]
  · have : apartB (.hp i o) (.hp j p) = true := by
      show (!Nat.beq i j) = true
      cases hb : Nat.beq i j with
      | true => exact absurd (Nat.eq_of_beq_eq_true hb) h
      | false => rfl
    rw [Qdm _ _ _ this, if_neg h]
@[simp] theorem Qa2 {α : Type} (i j o p : Nat) (k : Option α) : Jmt (.hp i o) (.hs j p) k = if i = j then none else k := Qa3 i j o 0 k
@[simp] theorem Qdn {α : Type} (i o : Nat) (v : Value) (k : Option α) : Jmt (.hp i o) (.v v) k = k := by cases k <;> rfl
@[simp] theorem apartK_ptr {α : Type} (cs : List D) (b : D) (k : Option α) : Jmt (.ptr cs) b k = k := by cases k <;> rfl
@[simp] theorem wholeK_v {α : Type} (v : Value) (k : Option α) : Qd3 (.v v) k = k := by cases k <;> rfl
@[simp] theorem wholeK_sl {α : Type} (n : Nat) (l : List (List D)) (k : Option α) : Qd3 (.sl n l) k = k := by cases k <;> rfl
@[simp] theorem pureK_nil {α : Type} (k : Option α) : Qcq [] k = k := by cases k <;> rfl
@[simp] theorem pureK_v {α : Type} (v : Value) (r : List D) (k : Option α) : Qcq (.v v :: r) k = Qcq r k := rfl
@[simp] theorem pureK_sl {α : Type} (n : Nat) (l : List (List D)) (r : List D) (k : Option α) : Qcq (.sl n l :: r) k = Qcq r k := rfl
@[simp] theorem Jca (b : Bool) : notD (.v (.bool b)) = some (.v (.bool !b)) := rfl
@[simp] theorem pickD_bool (b : Bool) (x y : D) : Qnn (.v (.bool b)) x y = some (if b then x else y) := rfl
@[simp] theorem Jcs (k : Kd) (j : IntKind) (a b : Int) : binK k .add (.v (.int j a)) (.v (.int j b)) = intD .add j a b := by simp [binK]
@[simp] theorem Jfq (k : Kd) (j : IntKind) (a b : Int) : binK k .sub (.v (.int j a)) (.v (.int j b)) = intD .sub j a b := by simp [binK]
@[simp] theorem binK_mul (k : Kd) (j : IntKind) (a b : Int) : binK k .mul (.v (.int j a)) (.v (.int j b)) = intD .mul j a b := by simp [binK]
@[simp] theorem Jyb (k : Kd) (j : IntKind) (a b : Int) : binK k .quo (.v (.int j a)) (.v (.int j b)) = intD .quo j a b := by simp [binK]
@[simp] theorem binK_rem (k : Kd) (j : IntKind) (a b : Int) : binK k .rem (.v (.int j a)) (.v (.int j b)) = intD .rem j a b := by simp [binK]
@[simp] theorem binK_and (k : Kd) (j : IntKind) (a b : Int) : binK k .and (.v (.int j a)) (.v (.int j b)) = intD .and j a b := by simp [binK]
@[simp] theorem binK_or (k : Kd) (j : IntKind) (a b : Int) : binK k .or (.v (.int j a)) (.v (.int j b)) = intD .or j a b := by simp [binK]
@[simp] theorem binK_xor (k : Kd) (j : IntKind) (a b : Int) : binK k .xor (.v (.int j a)) (.v (.int j b)) = intD .xor j a b := by simp [binK]
@[simp] theorem Jbk (k : Kd) (j : IntKind) (a b : Int) : binK k .eql (.v (.int j a)) (.v (.int j b)) = some (.v (.bool (a == b))) := by simp [binK, intD]
@[simp] theorem Jb8 (k : Kd) (j : IntKind) (a b : Int) : binK k .neq (.v (.int j a)) (.v (.int j b)) = some (.v (.bool (a != b))) := by simp [binK, intD]
@[simp] theorem Jbd (k : Kd) (j : IntKind) (a b : Int) : binK k .lss (.v (.int j a)) (.v (.int j b)) = some (.v (.bool (decide (a < b)))) := by simp [binK, intD]
@[simp] theorem Jhd (k : Kd) (j : IntKind) (a b : Int) : binK k .leq (.v (.int j a)) (.v (.int j b)) = some (.v (.bool (decide (a <= b)))) := by simp [binK, intD]
@[simp] theorem Jfr (k : Kd) (j : IntKind) (a b : Int) : binK k .gtr (.v (.int j a)) (.v (.int j b)) = some (.v (.bool (decide (b < a)))) := by simp [binK, intD]
@[simp] theorem Jc3 (k : Kd) (j : IntKind) (a b : Int) : binK k .geq (.v (.int j a)) (.v (.int j b)) = some (.v (.bool (decide (b <= a)))) := by simp [binK, intD]
@[simp] theorem Qqm (a b : Bool) : binK .bool .eql (.v (.bool a)) (.v (.bool b)) = some (.v (.bool (a == b))) := rfl
@[simp] theorem Qql (a b : Bool) : binK .bool .neq (.v (.bool a)) (.v (.bool b)) = some (.v (.bool (!(a == b)))) := rfl
theorem wrap_in (x : Int) (h1 : -9223372036854775808 <= x) (h2 : x <= 9223372036854775807) : IntKind.i64.wrap x = x := IntWalk.i64_in x ⟨h1, h2⟩
theorem Jb0 (a b : Int) (h1 : -9223372036854775808 <= a + b) (h2 : a + b <= 9223372036854775807) : intD .add .i64 a b = some (iD (a + b)) := by rw [intD, wrap_in _ h1 h2]
theorem Jnb (a b : Int) (h1 : -9223372036854775808 <= a - b) (h2 : a - b <= 9223372036854775807) : intD .sub .i64 a b = some (iD (a - b)) := by rw [intD, wrap_in _ h1 h2]
@[simp] theorem natD_int (k : IntKind) (n : Int) : natD (.v (.int k n)) = if 0 <= n then some n.toNat else none := rfl
@[simp] theorem Jkc (l : List Nd) : lenH .sl (Jaf l) = some (iD l.length) := by simp [lenH, lenK, Jaf]
@[simp] theorem Jmf (l : List Int) : lenH .sl (Jag l) = some (iD l.length) := by simp [lenH, lenK, Jag]
@[simp] theorem lenH_nil : lenH .sl (.v (.slice none 0 0)) = some (iD 0) := rfl
@[simp] theorem Qj5 (id o n : Nat) : lenH .sl (.ht id o n) = some (iD n) := rfl
@[simp] theorem Jjv (id n : Nat) : lenH .sl (.hs id n) = some (iD n) := rfl
theorem Jhr (l : List Nd) (i : Int) (h0 : 0 <= i) (h : i.toNat < l.length) : idxH 2 (Jaf l) (iD i) = some (.ptr (Jax l[i.toNat])) := by
  have : idxH 2 (Jaf l) (iD i) = idxD 2 (Jaf l) (iD i) := rfl
  rw [this]; simp [idxD, h0, h]
theorem Jk8 (l : List Int) (i : Int) (h0 : 0 <= i) (h : i.toNat < l.length) : idxH 1 (Jag l) (iD i) = some (.ptr (oneI l[i.toNat])) := by
  have : idxH 1 (Jag l) (iD i) = idxD 1 (Jag l) (iD i) := rfl
  rw [this]; simp [idxD, h0, h]
theorem Jav (l : List Nd) (i : Nat) (h : i < l.length) : idxH 2 (Jaf l) (.v (.int .i64 (i : Int))) = some (.ptr (Jax l[i])) := by
  have := Jhr l (i : Int) (by omega) (by simpa using h)
  simpa using this
theorem Jay (l : List Int) (i : Nat) (h : i < l.length) : idxH 1 (Jag l) (.v (.int .i64 (i : Int))) = some (.ptr (oneI l[i])) := by
  have := Jk8 l (i : Int) (by omega) (by simpa using h)
  simpa using this
theorem Qo1 (l : List Int) (a b : Nat) (h1 : a <= b) (h2 : b <= l.length) : cutH 1 (Jag l) (some (.v (.int .i64 (a : Int)))) (some (.v (.int .i64 (b : Int)))) = some (Jag ((l.take b).drop a)) := by
  have : cutH 1 (Jag l) (some (.v (.int .i64 (a : Int)))) (some (.v (.int .i64 (b : Int)))) = cutD 1 (Jag l) (some (.v (.int .i64 (a : Int)))) (some (.v (.int .i64 (b : Int)))) := rfl
  rw [this]
  simp [cutD, lowD, Jqo, h1, h2, Jag, elsD, List.map_drop, List.map_take]
@[simp] theorem Qjv (H : Heap) (x : Nd) : Jad (some 2) H (.ptr (Jax x)) = some (.agg (Jax x)) := rfl
@[simp] theorem load_one (H : Heap) (n : Int) : Jad none H (.ptr (oneI n)) = some (iD n) := rfl
@[simp] theorem load_cell (H : Heap) (d : D) (r : List D) : Jad none H (.ptr (d :: r)) = some d := rfl
@[simp] theorem load_node0 (H : Heap) (x : Nd) : Jad none H (.ptr (Jax x)) = some (iD x.1) := rfl
@[simp] theorem fieldAt_hp (off i o : Nat) : Jaa off (.hp i o) = some (.hp i (o + off)) := rfl
@[simp] theorem Qox (x : Nd) : Jaa 0 (.ptr (Jax x)) = some (.ptr (Jax x)) := rfl
@[simp] theorem Qow (x : Nd) : Jaa 1 (.ptr (Jax x)) = some (.ptr [iD x.2]) := rfl
@[simp] theorem Qsj (x : Nd) : Jln none 0 (.agg (Jax x)) = some (iD x.1) := rfl
@[simp] theorem Qsi (x : Nd) : Jln none 1 (.agg (Jax x)) = some (iD x.2) := rfl
@[simp] theorem asNd_node (x : Nd) : asNd (.agg (Jax x)) = some x := rfl
@[simp] theorem binK_node (x y : Nd) : binK (.ints 2) .eql (.agg (Jax x)) (.agg (Jax y)) = some (bD (decide (x = y))) := by
  obtain ⟨a, b⟩ := x
  obtain ⟨c, d⟩ := y
  simp [binK, Jhu, Jax, intsOf]
@[simp] theorem Qa0 (x y : Nd) : binK (.ints 2) .neq (.agg (Jax x)) (.agg (Jax y)) = some (bD (!decide (x = y))) := by
  obtain ⟨a, b⟩ := x
  obtain ⟨c, d⟩ := y
  simp [binK, Jhu, Jax, intsOf]
@[simp] theorem pure_nodes (l : List Nd) : Jd6 (Jaf l) = true := rfl
@[simp] theorem pure_ints (l : List Int) : Jd6 (Jag l) = true := rfl
@[simp] theorem pure_v (v : Value) : Jd6 (.v v) = true := rfl
@[simp] theorem pureL_nil : Jfi [] = true := rfl
@[simp] theorem pureL_cons (d : D) (r : List D) : Jfi (d :: r) = (Jd6 d && Jfi r) := rfl
@[simp] theorem pure_agg (cs : List D) : Jd6 (.agg cs) = Jfi cs := rfl
@[simp] theorem pure_tup (cs : List D) : Jd6 (.tup cs) = Jfi cs := rfl
@[simp] theorem pureL_node (x : Nd) : Jfi (Jax x) = true := rfl
theorem Jbt (H : Heap) : ∀ (n : Nat) (d : D), Jd6 d = true -> Jbs H n d = some d
  | 0, d, h => by simp [Jbs, h]
  | n + 1, d, h => by
    have hl : ∀ cs : List D, Jfi cs = true -> cs.mapM (Jbs H n) = some cs := by
      intro cs
      induction cs with
      | nil => intro _; rfl
      | cons c r ih =>
        intro hc
        simp only [Jfi, Bool.and_eq_true] at hc
        simp [List.mapM_cons, Jbt H n c hc.1, ih hc.2]
    cases d with
    | hs id k => simp [Jd6] at h
    | hp id o => simp [Jd6] at h
    | mp id => simp [Jd6] at h
    | yld id => simp [Jd6] at h
    | ht id o k => simp [Jd6] at h
    | agg cs => simp only [Jbs]; rw [hl cs (by simpa [Jd6] using h)]; rfl
    | tup cs => simp only [Jbs]; rw [hl cs (by simpa [Jd6] using h)]; rfl
    | ifc t e => simp only [Jbs]; rw [Jbt H n e (by simpa [Jd6] using h)]; rfl
    | _ => simp [Jbs, h]
theorem Jj9 (d : D) (H : Heap) (h : Jd6 d = true) : outD (some (d, H)) = some d := Jbt H 9 d h
@[simp] theorem outD_v (v : Value) (H : Heap) : outD (some (.v v, H)) = some (.v v) := Jj9 _ _ rfl
@[simp] theorem outD_nodes (l : List Nd) (H : Heap) : outD (some (Jaf l, H)) = some (Jaf l) := Jj9 _ _ rfl
@[simp] theorem outD_ints (l : List Int) (H : Heap) : outD (some (Jag l, H)) = some (Jag l) := Jj9 _ _ rfl
@[simp] theorem outD_node (x : Nd) (H : Heap) : outD (some (.agg (Jax x), H)) = some (.agg (Jax x)) := Jj9 _ _ rfl
@[simp] theorem outD_tup (ds : List D) (H : Heap) (h : Jfi ds = true) : outD (some (.tup ds, H)) = some (.tup ds) := Jj9 _ _ h
@[simp] theorem outD_none : outD none = none := rfl
@[simp] theorem Jha (s : Option Nat) (H : Heap) (id off : Nat) : Jad s H (.hp id off) = match H[id]? with | some (.cells _ _ cs) => Jqf s (cs.drop off) 0 | _ => none := rfl
@[simp] theorem partS_none (cs : List D) (off : Nat) : Jqf none cs off = cs[off]? := rfl
@[simp] theorem partS_some (n : Nat) (cs : List D) (off : Nat) : Jqf (some n) cs off = if off + n <= cs.length then some (.agg ((cs.drop off).take n)) else none := rfl
theorem Jar (F : List D -> Option D) (ds : List D) (H : Heap) (h : Jfi ds = true) : Jae F ds H = (F ds).map fun d => (d, H) := by unfold Jae; rw [h]
theorem Jo9 (F : List D -> Option D) (ds ds' : List D) (H : Heap) (h : Jfi ds = false) (hd : ds.mapM (Jbs H 9) = some ds') : Jae F ds H = (F ds').bind fun d => if Qho d then some (d, H) else none := by unfold Jae; rw [h]; simp only [hd, Option.bind_some]
@[simp] theorem thnH_map {α : Type} (o : Option D) (H : Heap) (k : D -> Heap -> Option α) : thnH (o.map fun d => (d, H)) k = thn o fun d => k d H := by cases o <;> rfl
def Imp (d d' : D) : Prop := ∀ (S : Nat -> Prop) (L : List (Nat × Nat)) (w : World) (x : Value), Rep S L w x d -> Rep S L w x d'
theorem Imp.refl (d : D) : Imp d d := fun _ _ _ _ h => h
theorem Imp.trans {a b c : D} (h : Imp a b) (k : Imp b c) : Imp a c := fun S L w x hx => k S L w x (h S L w x hx)
inductive ImpL : List D -> List D -> Prop
  | nil : ImpL [] []
  | cons {d d' : D} {r r' : List D} : Imp d d' -> ImpL r r' -> ImpL (d :: r) (d' :: r')
theorem ImpL.rep {ds ds' : List D} (h : ImpL ds ds') {S : Nat -> Prop} {L : List (Nat × Nat)} {w : World} {xs : List Value} (hx : RepA S L w xs ds) : RepA S L w xs ds' := by
  induction h generalizing xs with
  | nil => exact hx
  | cons h1 _ ih =>
    simp only [RepA] at hx ⊢
    obtain ⟨x, ys, e, h2, h3⟩ := hx
    exact ⟨x, ys, e, h1 _ _ _ _ h2, ih h3⟩
theorem ImpL.refl : ∀ ds : List D, ImpL ds ds
  | [] => .nil
  | d :: r => .cons (Imp.refl d) (ImpL.refl r)
theorem Imp.agg {cs cs' : List D} (h : ImpL cs cs') : Imp (.agg cs) (.agg cs') := by
  intro S L w x hx
  simp only [Rep] at hx ⊢
  obtain ⟨xs, e, h1⟩ := hx
  exact ⟨xs, e, h.rep h1⟩
theorem Imp.tup {cs cs' : List D} (h : ImpL cs cs') : Imp (.tup cs) (.tup cs') := by
  intro S L w x hx
  simp only [Rep] at hx ⊢
  obtain ⟨xs, e, h1⟩ := hx
  exact ⟨xs, e, h.rep h1⟩
theorem Imp.nil (sz : Nat) : Imp (.v (.slice none 0 0)) (.sl sz []) := by
  intro S L w x hx
  simp only [Rep] at hx ⊢
  exact .inl ⟨trivial, none, 0, hx, fun _ => rfl⟩
theorem Imp.sl (s sz : Nat) (els : List (List D)) (h : ∀ e ∈ els, e.length = s -> s = sz) : Imp (.sl s els) (.sl sz els) := by
  intro S L w x hx
  simp only [Rep] at hx ⊢
  rcases hx with hx | ⟨b, o, cap, h1, h2, h3, h4, h5⟩
  · exact .inl hx
  · cases els with
    | nil => simp at h2
    | cons e r =>
      have he : e.length = s := by simp only [RepR] at h5; exact h5.1
      obtain rfl := h e (by simp) he
      exact .inr ⟨b, o, cap, h1, h2, h3, h4, h5⟩
theorem Jtk {d : D} {l : List Nd} (h : Jbw d = some l) : Imp d (Jaf l) := by
  unfold Jbw at h
  split at h
  · rename_i s els
    have he := mapM_ok Jax Jrj (fun _ _ => Jt2) _ _ h
    subst he
    refine Imp.sl s 2 _ fun e he hl => ?_
    obtain ⟨x, _, rfl⟩ := List.mem_map.1 he
    exact hl.symm
  · cases h; exact Imp.nil 2
  · cases h
theorem Jid {d : D} {l : List Int} (h : Jdr d = some l) : Imp d (Jag l) := by
  unfold Jdr at h
  split at h
  · rename_i s els
    have he := mapM_ok oneI Qh1 (fun _ _ => Qfz) _ _ h
    subst he
    refine Imp.sl s 1 _ fun e he hl => ?_
    obtain ⟨x, _, rfl⟩ := List.mem_map.1 he
    exact hl.symm
  · cases h; exact Imp.nil 1
  · cases h
structure Dec (α : Type) where
  enc : α -> D
  dec : D -> Option α
  back : ∀ a, dec (enc a) = some a
  ok : ∀ d a, dec d = some a -> Imp d (enc a)
def intT : Dec Int := ⟨fun n => iD n, asInt, fun _ => rfl, fun d a h => by
  unfold asInt at h
  split at h
  · cases h; exact Imp.refl _
  · cases h⟩
def boolT : Dec Bool := ⟨fun b => bD b, Qaz, fun _ => rfl, fun d a h => by
  unfold Qaz at h
  split at h
  · cases h; exact Imp.refl _
  · cases h⟩
def nodesT : Dec (List Nd) := ⟨Jaf, Jbw, Jn6, fun d a h => Jtk h⟩
def intsT : Dec (List Int) := ⟨Jag, Jdr, Jrk, fun d a h => Jid h⟩
def ndT : Dec Nd := ⟨fun x => .agg (Jax x), asNd, fun _ => rfl, fun d a h => by
  unfold asNd at h
  split at h
  · rw [Jt2 h]; exact Imp.refl _
  · cases h⟩
structure Pg where
  params : Int
  vars : List Int
  body : List Nd
  deriving DecidableEq, Inhabited
def Qgy (p : Pg) : List D := [iD p.params, Jag p.vars, Jaf p.body]
def Jak (p : Pg) : D := .agg (Qgy p)
def Jqy : List D -> Option Pg
  | [a, b, c] => (asInt a).bind fun n => (Jdr b).bind fun vs => (Jbw c).map fun l => ⟨n, vs, l⟩
  | _ => none
def Jv5 : D -> Option Pg
  | .agg cs => Jqy cs
  | _ => none
@[simp] theorem Jri (p : Pg) : Jv5 (Jak p) = some p := by simp [Jv5, Jak, Qgy, Jqy]
theorem Jz2 {cs : List D} {p : Pg} (h : Jqy cs = some p) : ImpL cs (Qgy p) := by
  unfold Jqy at h
  split at h
  · rename_i a b c
    obtain ⟨n, h1, h⟩ := Option.bind_eq_some_iff.1 h
    obtain ⟨vs, h2, h⟩ := Option.bind_eq_some_iff.1 h
    obtain ⟨l, h3, h⟩ := Option.map_eq_some_iff.1 h
    subst h
    exact .cons (intT.ok _ _ h1) (.cons (Jid h2) (.cons (Jtk h3) .nil))
  · cases h
def progT : Dec Pg := ⟨Jak, Jv5, Jri, fun d a h => by
  unfold Jv5 at h
  split at h
  · exact Imp.agg (Jz2 h)
  · cases h⟩
@[simp] theorem pure_prog (p : Pg) : Jd6 (Jak p) = true := rfl
@[simp] theorem Qra (p : Pg) : Jfi (Qgy p) = true := rfl
@[simp] theorem Qo9 (t : TypeId) (p : Pg) (H : Heap) : boxH t (Jak p) H = some (.hp H.length 0, H ++ [.cells t 3 [iD p.params, Jag p.vars, Jaf p.body]]) := rfl
@[simp] theorem Qpa (t : TypeId) (x : Nd) (H : Heap) : boxH t (.agg (Jax x)) H = some (.hp H.length 0, H ++ [.cells t 2 [iD x.1, iD x.2]]) := rfl
@[simp] theorem box_int (t : TypeId) (k : IntKind) (n : Int) (H : Heap) : boxH t (.v (.int k n)) H = some (.hp H.length 0, H ++ [.cells t 1 [.v (.int k n)]]) := rfl
@[simp] theorem box_bool (t : TypeId) (b : Bool) (H : Heap) : boxH t (.v (.bool b)) H = some (.hp H.length 0, H ++ [.cells t 1 [.v (.bool b)]]) := rfl
def pgH (t : TypeId) (p : Pg) : Heap := [.cells t 3 [iD p.params, Jag p.vars, Jaf p.body]]
@[simp] theorem asProg_agg (a : Int) (b : List Int) (c : List Nd) : Jv5 (.agg [.v (.int .i64 a), Jag b, Jaf c]) = some ⟨a, b, c⟩ := Jri ⟨a, b, c⟩
@[simp] theorem Qss (l : List Int) : Jcc (Jag l) = true := rfl
@[simp] theorem Qqj (l : List Nd) : Jcc (Jaf l) = true := rfl
@[simp] theorem cellOk_int (k : IntKind) (n : Int) : Jcc (.v (.int k n)) = true := rfl
@[simp] theorem Qst (b : Bool) : Jcc (.v (.bool b)) = true := rfl
@[simp] theorem Qla : Jcc (.v (.slice none 0 0)) = true := rfl
@[simp] theorem cellOk_str (s : ByteArray) : Jcc (.v (.string s)) = true := rfl
@[simp] theorem cellOk_hs (i n : Nat) : Jcc (.hs i n) = true := rfl
@[simp] theorem cellOk_hp (i n : Nat) : Jcc (.hp i n) = true := rfl
@[simp] theorem cellOk_ifc (t : TypeId) (d : D) : Jcc (.ifc t d) = true := rfl
@[simp] theorem cellOk_mv (ks : List Int) (vs : List D) : Jcc (.mv ks vs) = true := rfl
@[simp] theorem cellOk_clo (f : Fn) (a b : List D) : Jcc (.clo f a b) = true := rfl
@[simp] theorem pure_mv (ks : List Int) (vs : List D) : Jd6 (.mv ks vs) = true := rfl
@[simp] theorem pure_ifc (t : TypeId) (d : D) : Jd6 (.ifc t d) = Jd6 d := rfl
@[simp] theorem pure_hs (i n : Nat) : Jd6 (.hs i n) = false := rfl
@[simp] theorem pure_hp (i n : Nat) : Jd6 (.hp i n) = false := rfl
theorem Jx9 (t : TypeId) (cs : List D) (H : Heap) (h : cs.all Jcc = true) : boxH t (.agg cs) H = some (.hp H.length 0, H ++ [.cells t cs.length cs]) := by
  simp only [boxH, cellsD, newH, h, Option.bind_some, if_true, Option.map_some]
theorem Imp.mv {ks : List Int} {vs vs' : List D} (h : ImpL vs vs') : Imp (.mv ks vs) (.mv ks vs') := by
  intro S L w x hx
  simp only [Rep] at hx ⊢
  obtain ⟨b, arr, clk, h1, h2, h3, h4, h5⟩ := hx
  exact ⟨b, arr, clk, h1, h2, h3, h4, h.rep h5⟩
theorem Imp.ifc {t : TypeId} {d d' : D} (h : Imp d d') : Imp (.ifc t d) (.ifc t d') := by
  intro S L w x hx
  simp only [Rep] at hx ⊢
  obtain ⟨y, h1, h2⟩ := hx
  exact ⟨y, h1, h _ _ _ _ h2⟩
theorem Jz4 {α : Type} (A : Dec α) : ∀ (ds : List D) (l : List α), ds.mapM A.dec = some l -> ImpL ds (l.map A.enc)
  | [], l, h => by simp at h; subst h; exact .nil
  | d :: r, l, h => by
    simp only [List.mapM_cons, Option.pure_def, Option.bind_eq_bind] at h
    cases h1 : A.dec d with
    | none => rw [h1] at h; cases h
    | some a =>
      cases h2 : r.mapM A.dec with
      | none => rw [h1, h2] at h; cases h
      | some t =>
        rw [h1, h2] at h
        cases h
        exact .cons (A.ok d a h1) (Jz4 A r t h2)
theorem Qfv {P : Program} {f : FuncId} {F : List D -> Option D} {G : Nat -> List D -> Option D} (hG : ∀ m, CallOk P f (G m)) (h : ∀ ds d, F ds = some d -> ∃ m, G m ds = some d) : CallOk P f F :=
  ⟨(hG 0).body, fun ds d hF => by obtain ⟨m, hm⟩ := h ds d hF; exact (hG m).calls ds d hm⟩
def F0 (g : Option D) : List D -> Option D
  | [] => g
  | _ => none
def F1 {α : Type} (A : Dec α) (g : α -> Option D) : List D -> Option D
  | [x] => (A.dec x).bind g
  | _ => none
def F2 {α β : Type} (A : Dec α) (B : Dec β) (g : α -> β -> Option D) : List D -> Option D
  | [x, y] => (A.dec x).bind fun a => (B.dec y).bind fun b => g a b
  | _ => none
def F3 {α β γ : Type} (A : Dec α) (B : Dec β) (C : Dec γ) (g : α -> β -> γ -> Option D) : List D -> Option D
  | [x, y, z] => (A.dec x).bind fun a => (B.dec y).bind fun b => (C.dec z).bind fun c => g a b c
  | _ => none
def F4 {α β γ δ : Type} (A : Dec α) (B : Dec β) (C : Dec γ) (E : Dec δ) (g : α -> β -> γ -> δ -> Option D) : List D -> Option D
  | [x, y, z, u] => (A.dec x).bind fun a => (B.dec y).bind fun b => (C.dec z).bind fun c => (E.dec u).bind fun e => g a b c e
  | _ => none
section
variable {α β γ δ : Type} {A : Dec α} {B : Dec β} {C : Dec γ} {E : Dec δ}
theorem Jjh (g : α -> Option D) (a : α) : F1 A g [A.enc a] = g a := by simp [F1, A.back]
theorem Jht (g : α -> β -> Option D) (a : α) (b : β) : F2 A B g [A.enc a, B.enc b] = g a b := by simp [F2, A.back, B.back]
theorem Jrf (g : α -> β -> γ -> Option D) (a : α) (b : β) (c : γ) : F3 A B C g [A.enc a, B.enc b, C.enc c] = g a b c := by simp [F3, A.back, B.back, C.back]
theorem Qkw (g : α -> β -> γ -> δ -> Option D) (a : α) (b : β) (c : γ) (e : δ) : F4 A B C E g [A.enc a, B.enc b, C.enc c, E.enc e] = g a b c e := by simp [F4, A.back, B.back, C.back, E.back]
variable {P : Program} {T : Tab} {kp : List Nat}
theorem Jij        (hT : TabOk P T) (hm : P.follows .mixedOrders = true) {f : FuncId} {fn : Func} (hf : P.funcs[f]? = some fn) (hb : fn.body.isSome = true) (hname : fn.name ≠ "runtime.NumGoroutine") {F : List D → Option D}
    (h : ∀ ds d, F ds = some d -> ∃ ds' d' n, ImpL ds ds' /\ outD (Jap P T kp n fn ds' []) = some d' /\ Imp d' d) : CallOk P f F := by
  refine ⟨⟨fn, hf, hname, hb⟩, fun ds d hF S vs w hS hv => ?_⟩
  obtain ⟨ds', d', n, h1, h2, h3⟩ := h ds d hF
  have hc : CallOk P f (fun xs => outD (Jap P T kp n fn xs [])) := Jpq hT hm hf hb hname fun xs e he => ⟨n, he⟩
  refine (hc.calls ds' d' h2 S vs w hS (h1.rep hv)).mono ?_
  rintro e w' ⟨v, rfl, h4, h5⟩
  exact ⟨v, rfl, h3 _ _ _ _ h4, h5⟩
variable (hT : TabOk P T) (hm : P.follows .mixedOrders = true) {f : FuncId} {fn : Func} (hf : P.funcs[f]? = some fn) (hb : fn.body.isSome = true) (hname : fn.name ≠ "runtime.NumGoroutine")
include hT hm hf hb hname
theorem call0 {g : Option D} (h : ∀ d, g = some d -> ∃ n d', outD (Jap P T kp n fn [] []) = some d' /\ Imp d' d) : CallOk P f (F0 g) :=
  Jij hT hm hf hb hname fun ds d hF => by
    unfold F0 at hF
    split at hF
    · obtain ⟨n, d', h1, h2⟩ := h d hF
      exact ⟨_, d', n, .nil, h1, h2⟩
    · cases hF
theorem Jms {g : α -> Option D} (h : ∀ a d, g a = some d -> ∃ n d', outD (Jap P T kp n fn [A.enc a] []) = some d' /\ Imp d' d) : CallOk P f (F1 A g) :=
  Jij hT hm hf hb hname fun ds d hF => by
    unfold F1 at hF
    split at hF
    · obtain ⟨a, ha, hF⟩ := Option.bind_eq_some_iff.1 hF
      obtain ⟨n, d', h1, h2⟩ := h a d hF
      exact ⟨_, d', n, .cons (A.ok _ _ ha) .nil, h1, h2⟩
    · cases hF
theorem Jlf {g : α -> β -> Option D} (h : ∀ a b d, g a b = some d -> ∃ n d', outD (Jap P T kp n fn [A.enc a, B.enc b] []) = some d' /\ Imp d' d) : CallOk P f (F2 A B g) :=
  Jij hT hm hf hb hname fun ds d hF => by
    unfold F2 at hF
    split at hF
    · obtain ⟨a, ha, hF⟩ := Option.bind_eq_some_iff.1 hF
      obtain ⟨b, hb', hF⟩ := Option.bind_eq_some_iff.1 hF
      obtain ⟨n, d', h1, h2⟩ := h a b d hF
      exact ⟨_, d', n, .cons (A.ok _ _ ha) (.cons (B.ok _ _ hb') .nil), h1, h2⟩
    · cases hF
theorem Qax {g : α -> β -> γ -> Option D} (h : ∀ a b c d, g a b c = some d -> ∃ n d', outD (Jap P T kp n fn [A.enc a, B.enc b, C.enc c] []) = some d' /\ Imp d' d) : CallOk P f (F3 A B C g) :=
  Jij hT hm hf hb hname fun ds d hF => by
    unfold F3 at hF
    split at hF
    · obtain ⟨a, ha, hF⟩ := Option.bind_eq_some_iff.1 hF
      obtain ⟨b, hb', hF⟩ := Option.bind_eq_some_iff.1 hF
      obtain ⟨c, hc, hF⟩ := Option.bind_eq_some_iff.1 hF
      obtain ⟨n, d', h1, h2⟩ := h a b c d hF
      exact ⟨_, d', n, .cons (A.ok _ _ ha) (.cons (B.ok _ _ hb') (.cons (C.ok _ _ hc) .nil)), h1, h2⟩
    · cases hF
theorem call4 {g : α -> β -> γ -> δ -> Option D} (h : ∀ a b c e d, g a b c e = some d -> ∃ n d', outD (Jap P T kp n fn [A.enc a, B.enc b, C.enc c, E.enc e] []) = some d' /\ Imp d' d) : CallOk P f (F4 A B C E g) :=
  Jij hT hm hf hb hname fun ds d hF => by
    unfold F4 at hF
    split at hF
    · obtain ⟨a, ha, hF⟩ := Option.bind_eq_some_iff.1 hF
      obtain ⟨b, hb', hF⟩ := Option.bind_eq_some_iff.1 hF
      obtain ⟨c, hc, hF⟩ := Option.bind_eq_some_iff.1 hF
      obtain ⟨e, he, hF⟩ := Option.bind_eq_some_iff.1 hF
      obtain ⟨n, d', h1, h2⟩ := h a b c e d hF
      exact ⟨_, d', n, .cons (A.ok _ _ ha) (.cons (B.ok _ _ hb') (.cons (C.ok _ _ hc) (.cons (E.ok _ _ he) .nil))), h1, h2⟩
    · cases hF
end
abbrev Entry := FuncId × Bool × (List D -> Heap -> Option (D × Heap))
def Jbu (P : Program) (p : Entry) : Prop := HCallOk P p.1 p.2.2 /\ (p.2.1 = true -> Juo p.2.2)
theorem Jal {P : Program} {f : FuncId} {F : List D -> Option D} (h : CallOk P f F) : Jbu P (f, true, Jae F) := ⟨Qrs h, fun _ => Qj4 F⟩
theorem Jcg {P : Program} {f : FuncId} {G : List D -> Heap -> Option (D × Heap)} (h : HCallOk P f G) : Jbu P (f, false, G) := ⟨h, fun e => by cases e⟩
theorem Qc5 {P : Program} : ∀ p ∈ ([] : List Entry), Jbu P p := fun p h => by cases h
theorem Jac {P : Program} {e : Entry} {l : List Entry} (h : Jbu P e) (k : ∀ p ∈ l, Jbu P p) : ∀ p ∈ e :: l, Jbu P p := by
  intro p hp
  rcases List.mem_cons.1 hp with rfl | hp
  · exact h
  · exact k p hp
theorem Jb4 {P : Program} {l : List Entry} (h : ∀ p ∈ l, Jbu P p) : TabOk P ⟨l, noYl⟩ := ⟨h, Qjp P⟩
theorem Jxd      {P : Program} {T : Tab} {kp : List Nat} (hT : TabOk P T) (hm : P.follows .mixedOrders = true) {f : FuncId} {fn : Func} (hf : P.funcs[f]? = some fn) (hb : fn.body.isSome = true) (hname : fn.name ≠ "runtime.NumGoroutine") {n : Nat} {ds : List D} {H : Heap} (h : Jap   P T kp n fn ds [] = some (bD true, H))
    {vs : List Value} {w : World} (hv : RepA (· < w.heap.size) [] w vs ds) : Calls P f vs.toArray w fun e w' => e = .returned (.bool true) /\ Below w.heap.size w w' := by
  have hc : CallOk P f (fun xs => outD (Jap P T kp n fn xs [])) := Jpq hT hm hf hb hname fun xs d hd => ⟨n, hd⟩
  refine (hc.calls ds (bD true) (by rw [h]; exact Jj9 _ _ rfl) _ vs w (fun _ hk => hk) hv).mono ?_
  rintro e w' ⟨v, rfl, h1, h2⟩
  simp only [Rep] at h1
  exact ⟨by rw [h1], h2⟩
theorem Jqc {S : Nat -> Prop} {L : List (Nat × Nat)} {w : World} (n : Int) : Rep S L w (.int .i64 n) (iD n) := by simp only [Rep]
end Go.Proofs.YtinnbafplhcnpaaGreat
end
