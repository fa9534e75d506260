/-
  Regions that draw their order, over values with objects. Nothing here names the program.
-/
import Derived.Test.YtnmgfobpcengkaaHDenRun
namespace Go.Proofs.Ytnmgfobpcengkaa
open Go.RowKit
set_option linter.unusedVariables false
set_option linter.unusedSimpArgs false

/-- The operands that an operation's yield hangs on. -/
def opReads : Op → List Operand
  | .move x | .assign x | .load _ x | .box _ x | .field _ x _ | .fieldAddr _ x _ | .unOp _ _ x | .convert _ _ x | .extract x _ | .makeInterface _ x | .nilCheck x | .typeAssert x _ _ _ => [x]
  | .pick c a b => [c, a, b]
  | .indexAddr _ a b | .binOp _ _ a b _ | .store _ a b | .index _ a b | .lookup _ a b _ | .makeSlice _ a b => [a, b]
  | .mapUpdate _ a b c | .insert _ a b c => [a, b, c]
  | .slice _ x lo hi _ => x :: (lo.toList ++ hi.toList)
  | .build _ ps | .buildSlice _ _ ps => ps.toList.map (·.2)
  | .makeFunc _ a b => a.toList ++ b.toList
  | .call c => c.operands.toList
  | _ => []
theorem opH_congr (P : Program) (op : Op) (ρ σ : Operand → D) (H : Heap) (h : ∀ x ∈ opReads op, ρ x = σ x) : opH P op ρ H = opH P op σ H := by
  have hp : ∀ ps : Array (Nat × Operand), (∀ x ∈ ps.toList.map (·.2), ρ x = σ x) → (ps.toList.map fun (i, x) => (i, ρ x)) = (ps.toList.map fun (i, x) => (i, σ x)) := by
    intro ps hh
    apply List.map_congr_left
    rintro ⟨i, x⟩ hx
    simp only
    rw [hh x (List.mem_map.2 ⟨_, hx, rfl⟩)]
  have hl : ∀ l : List Operand, (∀ x ∈ l, ρ x = σ x) → l.map ρ = l.map σ := fun l hh => List.map_congr_left hh
  cases op with
  | slice t x lo hi mx =>
    cases mx with
    | some m => rfl
    | none =>
      have hx := h x (by simp [opReads])
      have h1 : lo.map ρ = lo.map σ := by cases lo with
        | none => rfl
        | some y => simp [h y (by simp [opReads])]
      have h2 : hi.map ρ = hi.map σ := by cases hi with
        | none => rfl
        | some y => simp [h y (by simp [opReads])]
      simp only [opH, hx, h1, h2]
  | build t ps => simp only [opH, hp ps h]
  | buildSlice t n ps => simp only [opH, hp ps h]
  | binOp op t x y ty => simp only [opH, h x (by simp [opReads]), h y (by simp [opReads])]
  | unOp op t x =>
    have hx := h x (by simp [opReads])
    cases op <;> simp only [opH, hx]
  | call c =>
    obtain ⟨callee, args, ats⟩ := c
    cases callee with
    | builtin b =>
      have ha : ∀ x ∈ args.toList, ρ x = σ x := fun x hx => h x (by simpa [opReads, Call.operands] using hx)
      have hal := hl args.toList ha
      cases b with
      | len =>
        simp only [opH]
        split
        · rename_i x t r e1 e2
          rw [ha x (by simp [e1])]
        · rfl
      | append =>
        simp only [opH]
        split
        · rename_i x y t t' e1 e2
          rw [ha x (by simp [e1]), ha y (by simp [e1])]
        · rfl
      | copy =>
        simp only [opH]
        split
        · rename_i x y t r e1 e2
          rw [ha x (by simp [e1]), ha y (by simp [e1])]
        · rfl
      | clear =>
        simp only [opH]
        split
        · rename_i x t r e1 e2
          rw [ha x (by simp [e1])]
        · rfl
      | max => simp only [opH, hal]
      | min => simp only [opH, hal]
      | _ => rfl
    | _ => rfl
  | makeFunc f a b => simp only [opH, hl a.toList (fun x hx => h x (by simp [opReads]; exact .inl (by simpa using hx))), hl b.toList (fun x hx => h x (by simp [opReads]; exact .inr (by simpa using hx)))]
  | move x => simp only [opH, h x (by simp [opReads])]
  | assign x => simp only [opH, h x (by simp [opReads])]
  | load t x => simp only [opH, h x (by simp [opReads])]
  | box t x => simp only [opH, h x (by simp [opReads])]
  | store t x y => simp only [opH, h x (by simp [opReads]), h y (by simp [opReads])]
  | field t x f => simp only [opH, h x (by simp [opReads])]
  | fieldAddr t x f => simp only [opH, h x (by simp [opReads])]
  | convert s t x => simp only [opH, h x (by simp [opReads])]
  | extract x i => simp only [opH, h x (by simp [opReads])]
  | makeInterface t x => simp only [opH, h x (by simp [opReads])]
  | nilCheck x => simp only [opH, h x (by simp [opReads])]
  | pick c a b => simp only [opH, h c (by simp [opReads]), h a (by simp [opReads]), h b (by simp [opReads])]
  | indexAddr t a b => simp only [opH, h a (by simp [opReads]), h b (by simp [opReads])]
  | makeSlice t a b => simp only [opH, h a (by simp [opReads]), h b (by simp [opReads])]
  | index t a b => simp only [opH, h a (by simp [opReads]), h b (by simp [opReads])]
  | lookup t a b ok => simp only [opH, h a (by simp [opReads]), h b (by simp [opReads])]
  | mapUpdate t a b c => simp only [opH, h a (by simp [opReads]), h b (by simp [opReads]), h c (by simp [opReads])]
  | insert t a b c => simp only [opH, h a (by simp [opReads]), h b (by simp [opReads]), h c (by simp [opReads])]
  | typeAssert x t u ok => simp only [opH, h x (by simp [opReads])]
  | makeMap t r => cases r <;> rfl
  | _ => rfl
theorem stepD_congr (P : Program) (T : Tab) (op : Op) (ρ σ : Operand → D) (H : Heap) (h : ∀ x ∈ opReads op, ρ x = σ x) : stepD P T op ρ H = stepD P T op σ H := by
  unfold stepD
  split
  · rename_i f args ats
    rw [show args.toList.map ρ = args.toList.map σ from List.map_congr_left fun x hx => h x (by simp [opReads, Call.operands]; exact .inr (by simpa using hx))]
  · rename_i t args ats
    rw [h (.tmp t) (by simp [opReads, Call.operands]), show args.toList.map ρ = args.toList.map σ from List.map_congr_left fun x hx => h x (by simp [opReads, Call.operands]; exact .inr (by simpa using hx))]
  · rename_i r name args ats
    rw [h r (by simp [opReads, Call.operands]), show args.toList.map ρ = args.toList.map σ from List.map_congr_left fun x hx => h x (by simp [opReads, Call.operands]; exact .inr (by simpa using hx))]
  · exact opH_congr P op ρ σ H h

def tmpOf : Operand → Option Nat
  | .tmp t => some t
  | _ => none
/-- The slots that an operation reads, its guard's too. -/
def slotsRead (ops : List Oper) (o : Oper) : List Nat :=
  (opReads o.op).filterMap tmpOf ++ (match o.guard with | none => [] | some (j, _) => ((ops[j]?).bind (·.dst)).toList)
/-- Does an operation hang on the objects? -/
def hRead : Op → Bool
  | .load _ _ | .box _ _ | .alloc _ | .store _ _ _ | .buildSlice _ _ _ | .makeSlice _ _ _ | .convert _ _ _ | .makeMap _ _ | .mapUpdate _ _ _ _ | .insert _ _ _ _ | .lookup _ _ _ _ => true
  | .call { callee := .builtin .len, .. } | .call { callee := .builtin .max, .. } | .call { callee := .builtin .min, .. } => false
  | .call _ => true
  | _ => false
/-- May it change them? -/
def hWrite (T : Tab) : Op → Bool
  | .box _ _ | .alloc _ | .store _ _ _ | .buildSlice _ _ _ | .makeSlice _ _ _ | .makeMap _ _ | .mapUpdate _ _ _ _ | .insert _ _ _ _ => true
  | .call { callee := .value (.func f), .. } => !isCalm T f
  | .call { callee := .builtin .len, .. } | .call { callee := .builtin .max, .. } | .call { callee := .builtin .min, .. } => false
  | .call _ => true
  | _ => false
/-- Does it but make a new object? -/
def hAlloc : Op → Bool
  | .box _ _ | .alloc _ | .buildSlice _ _ _ | .makeSlice _ _ _ | .makeMap _ _ => true
  | _ => false
/-- Two operations that may not change places: x stands ahead. -/
def clash (T : Tab) (ops : List Oper) (x y : Oper) : Bool :=
  (match x.dst with | some t => (slotsRead ops y).contains t || y.dst == some t | none => false) ||
  (match y.dst with | some t => (slotsRead ops x).contains t | none => false) ||
  (hWrite T x.op && hRead y.op) || (hRead x.op && hWrite T y.op && (hWrite T x.op || !hAlloc y.op))
def ancOf (acc : List Nat) (o : Oper) : Nat :=
  o.after.toList.foldl (fun m e => if Region.binds .any e then m ||| (1 <<< e.on) ||| acc.getD e.on 0 else m) 0
def ancs : List Oper → List Nat → List Nat
  | [], acc => acc
  | o :: r, acc => ancs r (acc ++ [ancOf acc o])
/-- The order that is drawn makes no difference. -/
def drawOk (T : Tab) (ops : List Oper) : Bool :=
  (ops.zipIdx.all fun x => x.1.after.all fun e => e.on < x.2) &&
  (ops.zipIdx.all fun (y, j) => (ops.take j).zipIdx.all fun (x, i) => !clash T ops x y || ((ancs ops []).getD j 0).testBit i)

/-- Whatever an operation waits for has been carried out, if it has. -/
def Shut (ops : List Oper) (d : Nat → Bool) : Prop := ∀ i o, ops[i]? = some o → d i = true → ∀ e ∈ o.after, Region.binds .any e = true → d e.on = true

theorem ancs_ok (all : List Oper) (d : Nat → Bool) (hs : Shut all d) : ∀ (ops : List Oper) (acc : List Nat) (pre : List Oper), all = pre ++ ops → acc.length = pre.length →
    (∀ k m, acc[k]? = some m → ∀ j, m.testBit j = true → d k = true → d j = true) → ∀ k m, (ancs ops acc)[k]? = some m → ∀ j, m.testBit j = true → d k = true → d j = true := by
  intro ops
  induction ops with
  | nil => intro acc pre _ _ h; exact h
  | cons o r ih =>
    intro acc pre hall hlen h
    refine ih (acc ++ [ancOf acc o]) (pre ++ [o]) (by simp [hall]) (by simp [hlen]) fun k m hk j hj hd => ?_
    by_cases hlt : k < acc.length
    · rw [List.getElem?_append_left hlt] at hk
      exact h k m hk j hj hd
    · rw [List.getElem?_append_right (by omega)] at hk
      have hk0 : k = acc.length := by
        by_cases e : k - acc.length = 0
        · omega
        · obtain ⟨n, hn⟩ : ∃ n, k - acc.length = n + 1 := ⟨k - acc.length - 1, by omega⟩
          rw [hn] at hk; simp at hk
      subst hk0
      simp only [Nat.sub_self, List.getElem?_cons_zero, Option.some.injEq] at hk
      subst hk
      have ho : all[acc.length]? = some o := by rw [hall, hlen]; simp
      have hafter := hs _ o ho hd
      have key : ∀ (es : List Edge) (m : Nat), (∀ e ∈ es, Region.binds .any e = true → d e.on = true) → (m.testBit j = true → d j = true) →
          (es.foldl (fun m e => if Region.binds .any e then m ||| (1 <<< e.on) ||| acc.getD e.on 0 else m) m).testBit j = true → d j = true := by
        intro es
        induction es with
        | nil => intro m _ hm hq; exact hm hq
        | cons e t ihe =>
          intro m he hm hq
          rw [List.foldl_cons] at hq
          refine ihe _ (fun x hx => he x (by simp [hx])) ?_ hq
          intro hb
          split at hb
          · rename_i hbi
            have hde := he e (by simp) hbi
            simp only [Nat.testBit_or, Bool.or_eq_true] at hb
            rcases hb with (hb | hb) | hb
            · exact hm hb
            · rw [Nat.testBit_shiftLeft] at hb
              simp only [Bool.and_eq_true, decide_eq_true_eq] at hb
              have h1 : j - e.on = 0 := Nat.testBit_one_eq_true_iff_self_eq_zero.1 hb.2
              have : j = e.on := by omega
              rw [this]; exact hde
            · cases hg : acc[e.on]? with
              | none => rw [List.getD_eq_getElem?_getD, hg] at hb; simp at hb
              | some m' =>
                rw [List.getD_eq_getElem?_getD, hg] at hb
                exact h e.on m' hg j (by simpa using hb) hde
          · exact hm hb
      exact key o.after.toList 0 (fun e he => hafter e (by simpa using he)) (by simp) hj


theorem same_any {H : Heap} {o : Option D} {d : D} {H' : Heap} (h : same H o = some (d, H')) : H' = H ∧ ∀ H2, same H2 o = some (d, H2) := by
  unfold same at h ⊢
  cases o with
  | none => cases h
  | some e =>
    simp only [Option.map_some, Option.some.injEq, Prod.mk.injEq] at h
    exact ⟨h.2.symm, fun H2 => by simp [h.1]⟩
/-- What does not hang on the objects leaves them, whatever they are. -/
theorem opH_quiet {P : Program} {op : Op} {ρ : Operand → D} {H H' : Heap} {d : D} (hq : hRead op = false) (h : opH P op ρ H = some (d, H')) : H' = H ∧ ∀ H2, opH P op ρ H2 = some (d, H2) := by
  have bindS : ∀ {α : Type} {o : Option α} {f : α → Heap → Option (D × Heap)}, (∀ a H H' d, f a H = some (d, H') → H' = H ∧ ∀ H2, f a H2 = some (d, H2)) → (o.bind fun a => f a H) = some (d, H') → H' = H ∧ ∀ H2, (o.bind fun a => f a H2) = some (d, H2) := by
    intro α o f hf hb
    cases o with
    | none => cases hb
    | some a => exact hf a H H' d hb
  cases op with
  | load => simp [hRead] at hq
  | box => simp [hRead] at hq
  | alloc => simp [hRead] at hq
  | store => simp [hRead] at hq
  | buildSlice => simp [hRead] at hq
  | makeSlice => simp [hRead] at hq
  | convert => simp [hRead] at hq
  | makeMap => simp [hRead] at hq
  | mapUpdate => simp [hRead] at hq
  | insert => simp [hRead] at hq
  | lookup => simp [hRead] at hq
  | move x => simp only [opH, Option.some.injEq, Prod.mk.injEq] at h ⊢; exact ⟨h.2.symm, fun H2 => ⟨h.1, trivial⟩⟩
  | assign x => simp only [opH, Option.some.injEq, Prod.mk.injEq] at h ⊢; exact ⟨h.2.symm, fun H2 => ⟨h.1, trivial⟩⟩
  | pick c a b => simp only [opH] at h ⊢; exact same_any h
  | field t x f => simp only [opH] at h ⊢; exact bindS (f := fun (uo : TypeId × Nat) H => (shapeOf P uo.1).bind fun s => same H (fieldD s uo.2 (ρ x))) (fun a H H' d h => by
      cases hs : shapeOf P a.1 with
      | none => rw [hs] at h; cases h
      | some s => rw [hs] at h; simp only [Option.bind_some] at h ⊢; exact same_any h) h
  | fieldAddr t x f => simp only [opH] at h ⊢; exact bindS (f := fun (uo : TypeId × Nat) H => (P.info? uo.1).bind fun i => if i.size = 0 then none else same H (fieldAtH uo.2 (ρ x))) (fun a H H' d h => by
      cases hs : P.info? a.1 with
      | none => rw [hs] at h; cases h
      | some s =>
        rw [hs] at h
        simp only [Option.bind_some] at h ⊢
        split at h
        · cases h
        · rename_i hz
          simp only [if_neg hz]
          exact same_any h) h
  | indexAddr t x i => simp only [opH] at h ⊢; exact bindS (f := fun sz H => same H (idxH sz (ρ x) (ρ i))) (fun a H H' d h => same_any h) h
  | slice t x lo hi mx =>
    cases mx with
    | some m => cases h
    | none =>
      simp only [opH] at h ⊢
      split at h
      · exact same_any h
      · exact bindS (f := fun sz H => same H (cutH sz (ρ x) (lo.map ρ) (hi.map ρ))) (fun a H H' d h => same_any h) h
  | build t ps => simp only [opH] at h ⊢; exact same_any h
  | binOp op t x y ty => simp only [opH] at h ⊢; exact same_any h
  | unOp op t x => cases op <;> first | (cases h; done) | (simp only [opH] at h ⊢; exact same_any h)
  | index t x i =>
    simp only [opH] at h ⊢
    split at h
    · exact same_any h
    · cases h
  | typeAssert x t u ok =>
    simp only [opH] at h ⊢
    split at h
    · rename_i hc
      simp only [if_pos hc]
      exact bindS (f := fun z H => same H (assertD u z ok (ρ x))) (fun a H H' d h => same_any h) h
    · cases h
  | extract t i => simp only [opH] at h ⊢; exact same_any h
  | makeInterface t x =>
    simp only [opH] at h ⊢
    split at h
    · cases h
    · cases h
    · cases h
      exact ⟨rfl, fun H2 => rfl⟩
  | makeFunc f a b =>
    simp only [opH] at h ⊢
    cases h
    exact ⟨rfl, fun H2 => rfl⟩
  | nilCheck x =>
    simp only [opH] at h ⊢
    split at h
    · cases h; exact ⟨rfl, fun H2 => rfl⟩
    · cases h; exact ⟨rfl, fun H2 => rfl⟩
    · cases h
  | call c =>
    obtain ⟨callee, args, ats⟩ := c
    cases callee with
    | builtin b =>
      cases b with
      | len =>
        simp only [opH] at h ⊢
        split at h
        · exact same_any h
        · cases h
      | max => simp only [opH] at h ⊢; exact same_any h
      | min => simp only [opH] at h ⊢; exact same_any h
      | _ => simp [hRead] at hq
    | _ => simp [hRead] at hq
  | _ => cases h
theorem stepD_quiet {P : Program} {T : Tab} {op : Op} {ρ : Operand → D} {H H' : Heap} {d : D} (hq : hRead op = false) (h : stepD P T op ρ H = some (d, H')) : H' = H ∧ ∀ H2, stepD P T op ρ H2 = some (d, H2) := by
  have hop : ∀ H, stepD P T op ρ H = opH P op ρ H := by
    intro H
    unfold stepD
    split
    · simp [hRead] at hq
    · simp [hRead] at hq
    · simp [hRead] at hq
    · rfl
  rw [hop] at h
  have := opH_quiet hq h
  exact ⟨this.1, fun H2 => by rw [hop]; exact this.2 H2⟩
/-- What does not change the objects leaves them. -/
theorem stepD_calm {P : Program} {T : Tab} (hT : TabOk P T) {op : Op} {ρ : Operand → D} {H H' : Heap} {d : D} (hq : hWrite T op = false) (h : stepD P T op ρ H = some (d, H')) : H' = H := by
  by_cases hr : hRead op = false
  · exact (stepD_quiet hr h).1
  · unfold stepD at h
    split at h
    · rename_i f args ats
      obtain ⟨G, _, _, hc⟩ := look_ok hT h
      exact (hc (by simpa [hWrite] using hq)).1
    · simp [hWrite] at hq
    · simp [hWrite] at hq
    · cases op with
      | load t a =>
        simp only [opH] at h
        obtain ⟨s, _, h⟩ := Option.bind_eq_some_iff.1 h
        exact (same_any h).1
      | box => simp [hWrite] at hq
      | alloc => simp [hWrite] at hq
      | store => simp [hWrite] at hq
      | buildSlice => simp [hWrite] at hq
      | makeSlice => simp [hWrite] at hq
      | makeMap => simp [hWrite] at hq
      | mapUpdate => simp [hWrite] at hq
      | insert => simp [hWrite] at hq
      | convert s t x =>
        simp only [opH] at h
        split at h
        · exact (same_any h).1
        · split at h
          · exact (same_any h).1
          · cases h
        · exact (same_any h).1
        · cases h
      | lookup t m k ok =>
        simp only [opH] at h
        obtain ⟨e, _, h⟩ := Option.bind_eq_some_iff.1 h
        obtain ⟨z, _, h⟩ := Option.bind_eq_some_iff.1 h
        exact (same_any h).1
      | call c =>
        obtain ⟨callee, args, ats⟩ := c
        cases callee with
        | builtin b => cases b <;> first | (simp [hRead] at hr; done) | (simp [hWrite] at hq; done)
        | value f => cases f <;> first | (simp [hWrite] at hq; done) | (cases h; done)
        | invoke => simp [hWrite] at hq
      | _ => simp [hRead] at hr

/- What but reads reads the same where there is more. -/
theorem same_some {H H' : Heap} {o : Option D} {d : D} (h : same H o = some (d, H')) : o = some d := by
  unfold same at h
  cases o with
  | none => cases h
  | some e => simp only [Option.map_some, Option.some.injEq, Prod.mk.injEq] at h; rw [h.1]
theorem load_mono {s : Option Nat} {H t : Heap} {x d : D} (h : loadH s H x = some d) : loadH s (H ++ t) x = some d := by
  unfold loadH at h ⊢
  split at h
  · rename_i id off
    split at h
    · rename_i t' sz cs hid
      rw [getE_mono hid]; exact h
    · cases h
  · exact h
theorem src_mono {sz : Nat} {H t : Heap} {x : D} {cs : List D} (h : srcH sz H x = some cs) : srcH sz (H ++ t) x = some cs := by
  unfold srcH at h ⊢
  split at h
  · split at h
    · rename_i t' s cs' hid
      rw [getE_mono hid]; exact h
    · cases h
  · split at h
    · rename_i t' s cs' hid
      rw [getE_mono hid]; exact h
    · cases h
  · exact h
theorem mapOf_mono {H t : Heap} {x : D} {r : List Int × List D} (h : mapOf H x = some r) : mapOf (H ++ t) x = some r := by
  unfold mapOf at h ⊢
  split at h
  · split at h
    · rename_i ks vs hid
      rw [getE_mono hid]; exact h
    · cases h
  · exact h
  · exact h
  · cases h
theorem stepD_mono {P : Program} {T : Tab} (hT : TabOk P T) {op : Op} {ρ : Operand → D} {H H' : Heap} {d : D} (hq : hWrite T op = false) (h : stepD P T op ρ H = some (d, H')) (t : Heap) : stepD P T op ρ (H ++ t) = some (d, H ++ t) := by
  by_cases hr : hRead op = false
  · exact (stepD_quiet hr h).2 _
  · unfold stepD at h ⊢
    split at h
    · rename_i f args ats
      obtain ⟨G, _, _, hc⟩ := look_ok hT h
      exact (hc (by simpa [hWrite] using hq)).2 t
    · simp [hWrite] at hq
    · simp [hWrite] at hq
    · cases op with
      | load ty a =>
        simp only [opH] at h ⊢
        obtain ⟨s, hs, h⟩ := Option.bind_eq_some_iff.1 h
        have := load_mono (t := t) (same_some h)
        simp only [hs, Option.bind_some, same, this, Option.map_some]
      | box => simp [hWrite] at hq
      | alloc => simp [hWrite] at hq
      | store => simp [hWrite] at hq
      | buildSlice => simp [hWrite] at hq
      | makeSlice => simp [hWrite] at hq
      | makeMap => simp [hWrite] at hq
      | mapUpdate => simp [hWrite] at hq
      | insert => simp [hWrite] at hq
      | convert s ty x =>
        simp only [opH] at h ⊢
        split at h
        · rename_i h1 h2
          have := same_some h
          simp only [same, this, Option.map_some]
        · rename_i e h1 h2
          split at h
          · rename_i h3
            have hb := same_some h
            unfold bytesS at hb
            obtain ⟨cs, h4, h5⟩ := Option.bind_eq_some_iff.1 hb
            have : bytesS (H ++ t) (ρ x) = some d := by unfold bytesS; rw [src_mono h4]; exact h5
            simp only [same, this, Option.map_some]
          · cases h
        · have := same_some h
          simp only [same, this, Option.map_some]
        · cases h
      | lookup ty m k ok =>
        simp only [opH] at h ⊢
        obtain ⟨e, he, h⟩ := Option.bind_eq_some_iff.1 h
        obtain ⟨z, hz, h⟩ := Option.bind_eq_some_iff.1 h
        have hl := same_some h
        unfold lookH at hl
        obtain ⟨kv, h1, hl⟩ := Option.bind_eq_some_iff.1 hl
        have : lookH z ok (H ++ t) (ρ m) (ρ k) = some d := by unfold lookH; rw [mapOf_mono h1]; exact hl
        simp only [he, hz, Option.bind_some, same, this, Option.map_some]
      | call c =>
        obtain ⟨callee, args, ats⟩ := c
        cases callee with
        | builtin b => cases b <;> first | (simp [hRead] at hr; done) | (simp [hWrite] at hq; done)
        | value f => cases f <;> first | (simp [hWrite] at hq; done) | (cases h; done)
        | invoke => simp [hWrite] at hq
      | _ => simp [hRead] at hr
/-- What but makes an object puts it behind the others. -/
theorem stepD_alloc {P : Program} {T : Tab} {op : Op} {ρ : Operand → D} {H H' : Heap} {d : D} (hq : hAlloc op = true) (h : stepD P T op ρ H = some (d, H')) : ∃ t, H' = H ++ t := by
  have new : ∀ {ty : TypeId} {sz : Nat} {cs : List D} {f : Nat × Heap → D × Heap}, (∀ r, (f r).2 = r.2) → (newH ty sz cs H).map f = some (d, H') → ∃ t, H' = H ++ t := by
    intro ty sz cs f hf h
    unfold newH at h
    split at h
    · simp only [Option.map_some, Option.some.injEq] at h
      have := hf (H.length, H ++ [.cells ty sz cs])
      rw [h] at this
      exact ⟨_, this⟩
    · cases h
  cases op with
  | box t x =>
    simp only [stepD, opH, boxH] at h
    obtain ⟨cs, _, h⟩ := Option.bind_eq_some_iff.1 h
    exact new (fun _ => rfl) h
  | alloc t =>
    simp only [stepD, opH, allocH] at h
    obtain ⟨cs, _, h⟩ := Option.bind_eq_some_iff.1 h
    exact new (fun _ => rfl) h
  | buildSlice t n ps =>
    simp only [stepD, opH, rowH] at h
    obtain ⟨r, _, h⟩ := Option.bind_eq_some_iff.1 h
    obtain ⟨dr, _, h⟩ := Option.bind_eq_some_iff.1 h
    obtain ⟨els, _, h⟩ := Option.bind_eq_some_iff.1 h
    exact new (fun _ => rfl) h
  | makeSlice t n m =>
    simp only [stepD, opH, makeH] at h
    obtain ⟨z, _, h⟩ := Option.bind_eq_some_iff.1 h
    split at h
    · split at h
      · exact new (fun _ => rfl) h
      · cases h
    · cases h
  | makeMap t r =>
    cases r with
    | none =>
      simp only [stepD, opH] at h
      split at h
      · unfold newM at h
        simp only [Option.some.injEq, Prod.mk.injEq] at h
        exact ⟨_, h.2.symm⟩
      · cases h
    | some r => cases h
  | _ => simp [hAlloc] at hq
end Go.Proofs.Ytnmgfobpcengkaa
