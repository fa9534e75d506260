/-
  What is known of functions: by value, and with objects of the caller's. Nothing here names the program.
-/
import Derived.Test.YtnmgfobpcengkaaHDenOpOk
namespace Go.Proofs.Ytnmgfobpcengkaa
open Go.RowKit
set_option linter.unusedVariables false
set_option linter.unusedSimpArgs false

mutual
/-- It names no object. -/
def pureD : D → Bool
  | .undef | .v _ | .sl _ _ | .ptr _ => true
  | .hp _ _ | .hs _ _ | .mp _ | .yld _ | .ht _ _ _ => false
  | .mv _ _ => true
  | .agg cs => pureL cs
  | .tup cs => pureL cs
  | .ifc _ d => pureD d
  | .clo _ a b => pureL a && pureL b
def pureL : List D → Bool
  | [] => true
  | d :: r => pureD d && pureL r
end
section
variable {S : Nat → Prop} {L : List (Nat × Nat)} {w : World}
mutual
theorem pure_rep : ∀ (d : D) (x : Value), pureD d = true → Rep S L w x d → Rep S [] w x d
  | .undef, x, _, h => by simp only [Rep]
  | .v y, x, _, h => by simpa only [Rep] using h
  | .sl sz els, x, _, h => by simpa only [Rep] using h
  | .ptr cs, x, _, h => by simpa only [Rep] using h
  | .hp i o, x, hp, h => by simp [pureD] at hp
  | .hs i n, x, hp, h => by simp [pureD] at hp
  | .mp i, x, hp, h => by simp [pureD] at hp
  | .yld i, x, hp, h => by simp [pureD] at hp
  | .ht i o n, x, hp, h => by simp [pureD] at hp
  | .mv ks vs, x, _, h => by simpa only [Rep] using h
  | .agg cs, x, hp, h => by
    simp only [Rep] at h ⊢
    obtain ⟨xs, h1, h2⟩ := h
    exact ⟨xs, h1, pure_repL cs xs (by simpa [pureD] using hp) h2⟩
  | .tup cs, x, hp, h => by
    simp only [Rep] at h ⊢
    obtain ⟨xs, h1, h2⟩ := h
    exact ⟨xs, h1, pure_repL cs xs (by simpa [pureD] using hp) h2⟩
  | .ifc t d, x, hp, h => by
    simp only [Rep] at h ⊢
    obtain ⟨y, h1, h2⟩ := h
    exact ⟨y, h1, pure_rep d y (by simpa [pureD] using hp) h2⟩
  | .clo f a b, x, hp, h => by
    simp only [Rep] at h ⊢
    simp only [pureD, Bool.and_eq_true] at hp
    obtain ⟨ys, zs, h1, h2, h3⟩ := h
    exact ⟨ys, zs, h1, pure_repL a ys hp.1 h2, pure_repL b zs hp.2 h3⟩
theorem pure_repL : ∀ (ds : List D) (xs : List Value), pureL ds = true → RepA S L w xs ds → RepA S [] w xs ds
  | [], xs, _, h => by simpa only [RepA] using h
  | d :: r, xs, hp, h => by
    simp only [RepA] at h ⊢
    simp only [pureL, Bool.and_eq_true] at hp
    obtain ⟨x, ys, h1, h2, h3⟩ := h
    exact ⟨x, ys, h1, pure_rep d x hp.1 h2, pure_repL r ys hp.2 h3⟩
end
end

/-- The same by value, as things stand. -/
def derefN (H : Heap) : Nat → D → Option D
  | 0, d => if pureD d then some d else none
  | n + 1, d =>
    match d with
    | .hs id k =>
      match H[id]? with
      | some (.cells _ sz cs) => if k * sz ≤ cs.length then ((cs.take (k * sz)).mapM (derefN H n)).map fun es => .sl sz (chunks sz k es) else none
      | _ => none
    | .ht id off k =>
      match H[id]? with
      | some (.cells _ sz cs) => if off + k * sz ≤ cs.length then (((cs.drop off).take (k * sz)).mapM (derefN H n)).map fun es => .sl sz (chunks sz k es) else none
      | _ => none
    | .hp id off =>
      match H[id]? with
      | some (.cells _ _ cs) => ((cs.drop off).mapM (derefN H n)).map .ptr
      | _ => none
    | .agg cs => (cs.mapM (derefN H n)).map .agg
    | .mp id =>
      match H[id]? with
      | some (.map ks vs) => (vs.mapM (derefN H n)).map fun us => .mv ks us
      | _ => none
    | .ifc t d => (derefN H n d).map (.ifc t)
    | d => if pureD d then some d else none

section
variable {B : Nat} {S S' : Nat → Prop} {L : List (Nat × Nat)} {w : World} {H : Heap}
theorem repA_mapM {L' : List (Nat × Nat)} {g : D → Option D} (hg : ∀ d d' x, g d = some d' → Rep S L w x d → Rep S' L' w x d') : ∀ (cs es : List D) (xs : List Value), cs.mapM g = some es → RepA S L w xs cs → RepA S' L' w xs es
  | [], es, xs, h, hx => by simp at h; subst h; simpa only [RepA] using hx
  | d :: r, es, xs, h, hx => by
    simp only [List.mapM_cons, Option.pure_def, Option.bind_eq_bind] at h
    cases h1 : g d with
    | none => rw [h1] at h; cases h
    | some d' =>
      cases h2 : r.mapM g with
      | none => rw [h1, h2] at h; cases h
      | some es' =>
        rw [h1, h2] at h
        cases h
        simp only [RepA] at hx ⊢
        obtain ⟨x, ys, e, h3, h4⟩ := hx
        exact ⟨x, ys, e, hg d d' x h1 h3, repA_mapM hg r es' ys h2 h4⟩
theorem mapM_len {g : D → Option D} : ∀ (cs es : List D), cs.mapM g = some es → es.length = cs.length
  | [], es, h => by simp at h; subst h; rfl
  | d :: r, es, h => by
    simp only [List.mapM_cons, Option.pure_def, Option.bind_eq_bind] at h
    cases h1 : g d with
    | none => rw [h1] at h; cases h
    | some d' =>
      cases h2 : r.mapM g with
      | none => rw [h1, h2] at h; cases h
      | some es' =>
        rw [h1, h2] at h
        cases h
        simp [mapM_len r es' h2]
theorem deref_in (hr : HRel B S L w H) : ∀ (n : Nat) (d d' : D) (x : Value), derefN H n d = some d' → Rep S L w x d → Rep (fun k => S k ∨ (B ≤ k ∧ k < w.heap.size)) [] w x d' := by
  have pure' : ∀ d d' x, (if pureD d then some d else none) = some d' → Rep S L w x d → Rep (fun k => S k ∨ (B ≤ k ∧ k < w.heap.size)) [] w x d' := by
    intro d d' x h hx
    split at h
    · rename_i hp
      cases h
      exact Rep.kept (Kept.refl _ _) (fun k hk => .inl hk) (fun i p hi => by simp at hi) d x (pure_rep d x hp hx)
    · cases h
  intro n
  induction n with
  | zero => intro d d' x h hx; exact pure' d d' x h hx
  | succ n ih =>
    intro d d' x h hx
    simp only [derefN] at h
    split at h
    · rename_i id k
      split at h
      · rename_i t sz cs hid
        split at h
        · rename_i hle
          cases hm : (cs.take (k * sz)).mapM (derefN H n) with
          | none => rw [hm] at h; cases h
          | some es =>
            rw [hm] at h
            simp only [Option.map_some, Option.some.injEq] at h
            subst h
            simp only [Rep] at hx
            obtain ⟨b, c, hL, hkc, rfl⟩ := hx
            obtain ⟨arr, g1, g2, g3, g4, g5⟩ := row_values hr hid hL
            have hes := mapM_len _ _ hm
            have hel : es.length = k * sz := by rw [hes, List.length_take]; omega
            have hrep := repA_mapM (fun d d' x h1 h2 => ih d d' x h1 h2) _ es _ hm (g5.take (k * sz))
            have hbl := hr.lt hid hL
            have hb : S b ∨ (B ≤ b ∧ b < w.heap.size) := .inr ⟨hbl.1, hbl.2.1⟩
            simp only [Rep, chunks_length]
            by_cases hk0 : k = 0
            · subst hk0
              exact .inl ⟨rfl, _, c, rfl, fun h => by cases h⟩
            · refine .inr ⟨b, 0, c, rfl, by omega, hkc, hb, RepR.of (chunks_all _ _ _ hel) ?_⟩
              rw [chunks_flatten _ _ _ hel]
              refine RepC.of hrep fun j v hj => ?_
              rw [Nat.zero_add, cell_of_heap g1]
              have hlt := (List.getElem?_eq_some_iff.1 hj).1
              simp only [List.length_take] at hlt
              rw [List.getElem?_take_of_lt (by omega), List.getElem?_take_of_lt (by omega)] at hj
              simpa using hj
        · cases h
      · cases h
    · rename_i id off k
      split at h
      · rename_i t sz cs hid
        split at h
        · rename_i hle
          cases hm : ((cs.drop off).take (k * sz)).mapM (derefN H n) with
          | none => rw [hm] at h; cases h
          | some es =>
            rw [hm] at h
            simp only [Option.map_some, Option.some.injEq] at h
            subst h
            simp only [Rep] at hx
            obtain ⟨b, c, o, cap, hL, rfl, hkc, ho⟩ := hx
            obtain ⟨arr, g1, g2, g3, g4, g5⟩ := row_values hr hid hL
            have hes := mapM_len _ _ hm
            have hel : es.length = k * sz := by rw [hes, List.length_take, List.length_drop]; omega
            have hrep := repA_mapM (fun d d' x h1 h2 => ih d d' x h1 h2) _ es _ hm ((g5.drop off).take (k * sz))
            have hbl := hr.lt hid hL
            have hb : S b ∨ (B ≤ b ∧ b < w.heap.size) := .inr ⟨hbl.1, hbl.2.1⟩
            simp only [Rep, chunks_length]
            by_cases hk0 : k = 0
            · subst hk0
              exact .inl ⟨rfl, _, cap, rfl, fun h => by cases h⟩
            · obtain rfl := ho (by omega)
              refine .inr ⟨b, o, cap, rfl, by omega, hkc, hb, RepR.of (chunks_all _ _ _ hel) ?_⟩
              rw [chunks_flatten _ _ _ hel]
              refine RepC.of hrep fun j v hj => ?_
              rw [cell_of_heap g1]
              have hlt := (List.getElem?_eq_some_iff.1 hj).1
              simp only [List.length_take, List.length_drop] at hlt
              rw [List.getElem?_take_of_lt (by omega), List.getElem?_drop, List.getElem?_take_of_lt (by omega)] at hj
              simpa using hj
        · cases h
      · cases h
    · rename_i id off
      split at h
      · rename_i t sz cs hid
        cases hm : (cs.drop off).mapM (derefN H n) with
        | none => rw [hm] at h; cases h
        | some es =>
          rw [hm] at h
          simp only [Option.map_some, Option.some.injEq] at h
          subst h
          simp only [Rep] at hx
          obtain ⟨b, c, hL, rfl⟩ := hx
          obtain ⟨arr, g1, g2, g3, g4, g5⟩ := row_values hr hid hL
          have hbl := hr.lt hid hL
          have hb : S b ∨ (B ≤ b ∧ b < w.heap.size) := .inr ⟨hbl.1, hbl.2.1⟩
          have hrep := repA_mapM (fun d d' x h1 h2 => ih d d' x h1 h2) _ es _ hm (g5.drop off)
          simp only [Rep]
          refine ⟨b, off, rfl, hb, RepC.of hrep fun j v hj => ?_⟩
          rw [cell_of_heap g1]
          rw [List.getElem?_drop] at hj
          have hlt := (List.getElem?_eq_some_iff.1 hj).1
          simp only [List.length_take, Array.length_toList] at hlt
          rw [List.getElem?_take_of_lt (by omega)] at hj
          simpa using hj
      · cases h
    · rename_i cs
      cases hm : cs.mapM (derefN H n) with
      | none => rw [hm] at h; cases h
      | some es =>
        rw [hm] at h
        simp only [Option.map_some, Option.some.injEq] at h
        subst h
        simp only [Rep] at hx ⊢
        obtain ⟨xs, h1, h2⟩ := hx
        exact ⟨xs, h1, repA_mapM (fun d d' x h1 h2 => ih d d' x h1 h2) _ es _ hm h2⟩
    · rename_i id
      split at h
      · rename_i ks vs hid
        cases hm : vs.mapM (derefN H n) with
        | none => rw [hm] at h; cases h
        | some us =>
          rw [hm] at h
          simp only [Option.map_some, Option.some.injEq] at h
          subst h
          simp only [Rep] at hx
          obtain ⟨b, c, hL, rfl⟩ := hx
          obtain ⟨b', c', h1, h2, h3, arr, clk, h4, h5, h6⟩ := hr.obj id _ hid (by intro e; cases e)
          rw [hL] at h1
          cases h1
          have hbl := hr.lt' hid (by intro e; cases e) hL
          simp only [Rep]
          exact ⟨b, arr, clk, rfl, .inr ⟨hbl.1, hbl.2.1⟩, h4, h5, repA_mapM (fun d d' x h1 h2 => ih d d' x h1 h2) _ us _ hm h6⟩
      · cases h
    · rename_i t e
      cases hm : derefN H n e with
      | none => rw [hm] at h; cases h
      | some e' =>
        rw [hm] at h
        simp only [Option.map_some, Option.some.injEq] at h
        subst h
        simp only [Rep] at hx ⊢
        obtain ⟨y, h1, h2⟩ := hx
        exact ⟨y, h1, ih _ _ _ hm h2⟩
    · exact pure' _ d' x h hx
theorem deref_ok (hr : HRel B S L w H) (n : Nat) (d d' : D) (x : Value) (h : derefN H n d = some d') (hx : Rep S L w x d) : Rep (· < w.heap.size) [] w x d' :=
  Rep.kept (Kept.refl _ _) (fun k hk => hk.elim (hr.small k) fun h => h.2) (fun i p hi => hi) d' x (deref_in hr n d d' x h hx)
end

/-- A function gives what is said, by value. -/
structure CallOk (P : Program) (f : FuncId) (F : List D → Option D) : Prop where
  body : ∃ fn, P.funcs[f]? = some fn ∧ fn.name ≠ "runtime.NumGoroutine" ∧ fn.body.isSome = true
  calls : ∀ ds d, F ds = some d → ∀ (S : Nat → Prop) (vs : List Value) (w : World), (∀ k, S k → k < w.heap.size) → RepA S [] w vs ds →
    Calls P f vs.toArray w fun e w' => ∃ v, e = .returned v ∧ Rep (fun k => S k ∨ (w.heap.size ≤ k ∧ k < w'.heap.size)) [] w' v d ∧ Below w.heap.size w w'

/-- A function gives what is said, and does it to the caller's objects. -/
structure HCallOk (P : Program) (f : FuncId) (G : List D → Heap → Option (D × Heap)) : Prop where
  body : ∃ fn, P.funcs[f]? = some fn ∧ fn.name ≠ "runtime.NumGoroutine" ∧ fn.body.isSome = true
  calls : ∀ ds H d H', G ds H = some (d, H') → ∀ (B : Nat) (S : Nat → Prop) (L : List (Nat × Nat)) (vs : List Value) (w : World), HRel B S L w H → RepA S L w vs ds →
    Calls P f vs.toArray w fun e w' => ∃ v S' L', e = .returned v ∧ Rep S' L' w' v d ∧ HRel B S' L' w' H' ∧ Later B S S' L L' w w'

def isV : D → Bool
  | .v _ => true
  | _ => false
def flatD : D → Bool
  | .v _ => true
  | .tup ds => ds.all isV
  | _ => false
theorem flat_rep {S S' : Nat → Prop} {L L' : List (Nat × Nat)} {w w' : World} {d : D} {x : Value} (hf : flatD d = true) (h : Rep S L w x d) : Rep S' L' w' x d := by
  cases d with
  | v y => simpa only [Rep] using h
  | tup ds =>
    simp only [Rep] at h ⊢
    obtain ⟨xs, h1, h2⟩ := h
    refine ⟨xs, h1, ?_⟩
    clear h1
    simp only [flatD] at hf
    induction ds generalizing xs with
    | nil => simpa only [RepA] using h2
    | cons d r ih =>
      simp only [List.all_cons, Bool.and_eq_true] at hf
      simp only [RepA] at h2 ⊢
      obtain ⟨y, ys, e, h3, h4⟩ := h2
      refine ⟨y, ys, e, ?_, ih hf.2 ys h4⟩
      cases d with
      | v z => simpa only [Rep] using h3
      | _ => simp [isV] at hf
  | _ => simp [flatD] at hf

/-- What a function by value is to a caller with objects. -/
def liftF (F : List D → Option D) (ds : List D) (H : Heap) : Option (D × Heap) :=
  match pureL ds with
  | true => (F ds).map fun d => (d, H)
  | false => (ds.mapM (derefN H 9)).bind fun ds' => (F ds').bind fun d => if flatD d then some (d, H) else none

theorem HRel.call {B : Nat} {S : Nat → Prop} {L : List (Nat × Nat)} {w w' : World} {H : Heap} (hr : HRel B S L w H) (hb : Below w.heap.size w w') :
    HRel B (fun k => S k ∨ (w.heap.size ≤ k ∧ k < w'.heap.size)) L w' H ∧ Later B S (fun k => S k ∨ (w.heap.size ≤ k ∧ k < w'.heap.size)) L L w w' := by
  have hl : Later B S (fun k => S k ∨ (w.heap.size ≤ k ∧ k < w'.heap.size)) L L w w' := ⟨hb.mono hr.base, kept_of hb hr.small, fun k hk => .inl hk, List.prefix_refl _, fun k hk => hk.imp id fun h => h.1, fun k hk => (hb.block k (Array.getElem?_eq_some_iff.1 hk).1).trans hk⟩
  refine ⟨⟨hr.len, fun k hk => ?_, Nat.le_trans hr.base hb.size, ?_, hr.inj⟩, hl⟩
  · rcases hk with hk | hk
    · exact Nat.lt_of_lt_of_le (hr.small k hk) hb.size
    · exact hk.2
  · intro id o hid ho
    obtain ⟨b, c, h1, h2, h3, h4⟩ := hr.obj id o hid ho
    have hbs : b < w.heap.size := h4.lt ho
    refine ⟨b, c, h1, h2, fun hk => ?_, h4.kept (hb.block b hbs) (fun _ _ => hl.rep) (fun _ _ => hl.repA)⟩
    rcases hk with hk | hk
    · exact h3 hk
    · omega

theorem lift_ok {P : Program} {f : FuncId} {F : List D → Option D} (h : CallOk P f F) : HCallOk P f (liftF F) := by
  refine ⟨h.body, fun ds H d H' hG B S L vs w hr hv => ?_⟩
  unfold liftF at hG
  split at hG
  · rename_i hp
    cases hF : F ds with
    | none => rw [hF] at hG; cases hG
    | some d' =>
      rw [hF] at hG
      simp only [Option.map_some, Option.some.injEq, Prod.mk.injEq] at hG
      obtain ⟨rfl, rfl⟩ := hG
      refine (h.calls ds _ hF S vs w hr.small (pure_repL ds vs hp hv)).mono ?_
      rintro e w' ⟨v, rfl, h1, h2⟩
      obtain ⟨h3, h4⟩ := hr.call h2
      exact ⟨v, _, L, rfl, h1.lift, h3, h4⟩
  · obtain ⟨ds', hds, hG⟩ := Option.bind_eq_some_iff.1 hG
    obtain ⟨d', hF, hG⟩ := Option.bind_eq_some_iff.1 hG
    split at hG
    · rename_i hf
      cases hG
      have hv' := repA_mapM (fun d d' x h1 h2 => deref_ok hr 9 d d' x h1 h2) ds ds' vs hds hv
      refine (h.calls ds' _ hF _ vs w (fun k hk => hk) hv').mono ?_
      rintro e w' ⟨v, rfl, h1, h2⟩
      obtain ⟨h3, h4⟩ := hr.call h2
      exact ⟨v, _, L, rfl, flat_rep hf h1, h3, h4⟩
    · cases hG

/-- What is known of functions; whether each leaves the caller's objects alone; what a round of a loop over a function does, by the loop's object. -/
structure Tab where
  fs : List (FuncId × Bool × (List D → Heap → Option (D × Heap)))
  yl : Nat → List D → Heap → Option (D × Heap)
/-- No loop goes over a function. -/
def noYl : Nat → List D → Heap → Option (D × Heap) := fun _ _ _ => none
def lookL : List (FuncId × Bool × (List D → Heap → Option (D × Heap))) → FuncId → List D → Heap → Option (D × Heap)
  | [], _, _, _ => none
  | (g, _, F) :: r, f, ds, H => if f = g then F ds H else lookL r f ds H
def look (T : Tab) (f : FuncId) (ds : List D) (H : Heap) : Option (D × Heap) := lookL T.fs f ds H
def isCalmL : List (FuncId × Bool × (List D → Heap → Option (D × Heap))) → FuncId → Bool
  | [], _ => false
  | (g, b, _) :: r, f => if f = g then b else isCalmL r f
def isCalm (T : Tab) (f : FuncId) : Bool := isCalmL T.fs f
/-- A round does what is said. -/
def YOk (P : Program) (Y : Nat → List D → Heap → Option (D × Heap)) : Prop := ∀ id ds H d H', Y id ds H = some (d, H') → ∀ (B : Nat) (S : Nat → Prop) (L : List (Nat × Nat)) (vs : List Value) (w : World), HRel B S L w H → RepA S L w vs ds →
  ∃ b c f tmps assign body, L[id]? = some (b, c) ∧ (Instr.yield b vs.toArray).run P w = .ok (.round b f tmps assign body) w ∧
    ∀ n, RoundIn Fence.wide n P b f tmps assign body w fun e w' => ∃ v S' L', e = .returned v ∧ Rep S' L' w' v d ∧ HRel B S' L' w' H' ∧ Later B S S' L L' w w'
theorem noYl_ok (P : Program) : YOk P noYl := fun _ _ _ _ _ h => by cases h
/-- A function leaves the caller's objects alone, and more of them make no difference. -/
def CalmOk (G : List D → Heap → Option (D × Heap)) : Prop := ∀ ds H d H', G ds H = some (d, H') → H' = H ∧ ∀ t, G ds (H ++ t) = some (d, H ++ t)
structure TabOk (P : Program) (T : Tab) : Prop where
  fs : ∀ p ∈ T.fs, HCallOk P p.1 p.2.2 ∧ (p.2.1 = true → CalmOk p.2.2)
  yl : YOk P T.yl
theorem look_ok {P : Program} {T : Tab} (h : TabOk P T) {f : FuncId} {ds : List D} {H : Heap} {r : D × Heap} (hl : look T f ds H = some r) : ∃ G, HCallOk P f G ∧ G ds H = some r ∧ (isCalm T f = true → r.2 = H ∧ ∀ t, look T f ds (H ++ t) = some (r.1, H ++ t)) := by
  have hfs := h.fs
  unfold look at hl ⊢
  unfold isCalm
  generalize T.fs = l at hl hfs ⊢
  induction l with
  | nil => cases hl
  | cons p t ih =>
    obtain ⟨g, b, F⟩ := p
    simp only [lookL] at hl
    simp only [isCalmL]
    split at hl
    · rename_i he
      subst he
      obtain ⟨h1, h2⟩ := hfs (f, b, F) (by simp)
      refine ⟨F, h1, hl, fun hb => ?_⟩
      have := h2 (by simpa using hb) ds H r.1 r.2 hl
      refine ⟨this.1, fun t => ?_⟩
      simp only [lookL, if_true]
      exact this.2 t
    · rename_i he
      rw [if_neg he]
      simp only [lookL, if_neg he]
      exact ih hl fun q hq => hfs q (by simp [hq])
theorem mapM_mono {g g' : D → Option D} (h : ∀ d d', g d = some d' → g' d = some d') : ∀ (cs es : List D), cs.mapM g = some es → cs.mapM g' = some es
  | [], es, hm => hm
  | d :: r, es, hm => by
    simp only [List.mapM_cons, Option.pure_def, Option.bind_eq_bind] at hm ⊢
    cases h1 : g d with
    | none => rw [h1] at hm; cases hm
    | some d' =>
      cases h2 : r.mapM g with
      | none => rw [h1, h2] at hm; cases hm
      | some es' =>
        rw [h1, h2] at hm
        rw [h d d' h1, mapM_mono h r es' h2]
        exact hm
theorem getE_mono {H t : Heap} {id : Nat} {o : HO} (h : H[id]? = some o) : (H ++ t)[id]? = some o := by
  rw [List.getElem?_append_left (List.getElem?_eq_some_iff.1 h).1]; exact h
theorem deref_mono (H t : Heap) : ∀ (n : Nat) (d d' : D), derefN H n d = some d' → derefN (H ++ t) n d = some d'
  | 0, d, d', h => h
  | n + 1, d, d', h => by
    have ih := deref_mono H t n
    have ihm : ∀ cs es : List D, cs.mapM (derefN H n) = some es → cs.mapM (derefN (H ++ t) n) = some es := mapM_mono ih
    simp only [derefN] at h ⊢
    split at h
    · rename_i id k
      split at h
      · rename_i t' sz cs hid
        rw [getE_mono hid]
        simp only
        split at h
        · rename_i hle
          rw [if_pos hle]
          obtain ⟨es, h1, h2⟩ := Option.map_eq_some_iff.1 h
          rw [ihm _ _ h1]; exact congrArg some h2
        · cases h
      · cases h
    · rename_i id off k
      split at h
      · rename_i t' sz cs hid
        rw [getE_mono hid]
        simp only
        split at h
        · rename_i hle
          rw [if_pos hle]
          obtain ⟨es, h1, h2⟩ := Option.map_eq_some_iff.1 h
          rw [ihm _ _ h1]; exact congrArg some h2
        · cases h
      · cases h
    · rename_i id off
      split at h
      · rename_i t' sz cs hid
        rw [getE_mono hid]
        simp only
        obtain ⟨es, h1, h2⟩ := Option.map_eq_some_iff.1 h
        rw [ihm _ _ h1]; exact congrArg some h2
      · cases h
    · obtain ⟨es, h1, h2⟩ := Option.map_eq_some_iff.1 h
      rw [ihm _ _ h1]; exact congrArg some h2
    · rename_i id
      split at h
      · rename_i ks vs hid
        rw [getE_mono hid]
        simp only
        obtain ⟨es, h1, h2⟩ := Option.map_eq_some_iff.1 h
        rw [ihm _ _ h1]; exact congrArg some h2
      · cases h
    · obtain ⟨e, h1, h2⟩ := Option.map_eq_some_iff.1 h
      rw [ih _ _ h1]; exact congrArg some h2
    · exact h
theorem lift_calm' (F : List D → Option D) : ∀ ds H d H', liftF F ds H = some (d, H') → H' = H := by
  intro ds H d H' h
  unfold liftF at h
  split at h
  · cases hF : F ds with
    | none => rw [hF] at h; cases h
    | some d' =>
      rw [hF] at h
      simp only [Option.map_some, Option.some.injEq, Prod.mk.injEq] at h
      exact h.2.symm
  · obtain ⟨ds', hds, h⟩ := Option.bind_eq_some_iff.1 h
    obtain ⟨d', hF, h⟩ := Option.bind_eq_some_iff.1 h
    split at h
    · cases h; rfl
    · cases h
theorem lift_calm (F : List D → Option D) : CalmOk (liftF F) := by
  intro ds H d H' h
  refine ⟨lift_calm' F ds H d H' h, fun t => ?_⟩
  have hH := lift_calm' F ds H d H' h
  unfold liftF at h ⊢
  split at h
  · cases hF : F ds with
    | none => rw [hF] at h; cases h
    | some d' =>
      rw [hF] at h
      simp only [Option.map_some, Option.some.injEq, Prod.mk.injEq] at h
      rw [h.1]; rfl
  · obtain ⟨ds', hds, h⟩ := Option.bind_eq_some_iff.1 h
    rw [mapM_mono (deref_mono H t 9) ds ds' hds]
    cases hF : F ds' with
    | none => rw [hF] at h; cases h
    | some d' =>
      rw [hF] at h
      simp only [Option.bind_some] at h ⊢
      split at h
      · rename_i hf
        cases h
        rw [hF, Option.bind_some, if_pos hf]
      · cases h
end Go.Proofs.Ytnmgfobpcengkaa
