import Derived.OrdersIn
import Derived.WalkKit
import Derived.OwnWalkIn
import Derived.LoopNIn
import Derived.RangeFuncLeaves
import Derived.RangeFuncCalls
import Derived.Test.YtinnbafplhcnpaaGreatHc
section
namespace Go.Proofs.YtinnbafplhcnpaaGreat
open Go.RowKit
set_option linter.unusedVariables false
set_option linter.unusedSimpArgs false
mutual
def Jd6 : D -> Bool
  | .undef | .v _ | .sl _ _ | .ptr _ => true
  | .hp _ _ | .hs _ _ | .mp _ | .yld _ | .ht _ _ _ => false
  | .mv _ _ => true
  | .agg cs => Jfi cs
  | .tup cs => Jfi cs
  | .ifc _ d => Jd6 d
  | .clo _ a b => Jfi a && Jfi b
def Jfi : List D -> Bool
  | [] => true
  | d :: r => Jd6 d && Jfi r
end
section
variable {S : Nat -> Prop} {L : List (Nat × Nat)} {w : World}
mutual
theorem Jrz : ∀ (d : D) (x : Value), Jd6 d = true -> Rep S L w x d -> Rep S [] w x d
  | .undef, x, _, h => by simp only [Rep]
  | .v y, x, _, h => by simpa only [Rep] using h
  | .sl sz els, x, _, h => by simpa only [Rep] using h
  | .ptr cs, x, _, h => by simpa only [Rep] using h
  | .hp i o, x, hp, h => by simp [Jd6] at hp
  | .hs i n, x, hp, h => by simp [Jd6] at hp
  | .mp i, x, hp, h => by simp [Jd6] at hp
  | .yld i, x, hp, h => by simp [Jd6] at hp
  | .ht i o n, x, hp, h => by simp [Jd6] at hp
  | .mv ks vs, x, _, h => by simpa only [Rep] using h
  | .agg cs, x, hp, h => by
    simp only [Rep] at h ⊢
    obtain ⟨xs, h1, h2⟩ := h
    exact ⟨xs, h1, Jiw cs xs (by simpa [Jd6] using hp) h2⟩
  | .tup cs, x, hp, h => by
    simp only [Rep] at h ⊢
    obtain ⟨xs, h1, h2⟩ := h
    exact ⟨xs, h1, Jiw cs xs (by simpa [Jd6] using hp) h2⟩
  | .ifc t d, x, hp, h => by
    simp only [Rep] at h ⊢
    obtain ⟨y, h1, h2⟩ := h
    exact ⟨y, h1, Jrz d y (by simpa [Jd6] using hp) h2⟩
  | .clo f a b, x, hp, h => by
    simp only [Rep] at h ⊢
    simp only [Jd6, Bool.and_eq_true] at hp
    obtain ⟨ys, zs, h1, h2, h3⟩ := h
    exact ⟨ys, zs, h1, Jiw a ys hp.1 h2, Jiw b zs hp.2 h3⟩
theorem Jiw : ∀ (ds : List D) (xs : List Value), Jfi ds = true -> RepA S L w xs ds -> RepA S [] w xs ds
  | [], xs, _, h => by simpa only [RepA] using h
  | d :: r, xs, hp, h => by
    simp only [RepA] at h ⊢
    simp only [Jfi, Bool.and_eq_true] at hp
    obtain ⟨x, ys, h1, h2, h3⟩ := h
    exact ⟨x, ys, h1, Jrz d x hp.1 h2, Jiw r ys hp.2 h3⟩
end
end
def Jbs (H : Heap) : Nat -> D -> Option D
  | 0, d => if Jd6 d then some d else none
  | n + 1, d =>
    match d with
    | .hs id k =>
      match H[id]? with
      | some (.cells _ sz cs) => if k * sz <= cs.length then ((cs.take (k * sz)).mapM (Jbs H n)).map fun es => .sl sz (chunks sz k es) else none
      | _ => none
    | .ht id off k =>
      match H[id]? with
      | some (.cells _ sz cs) => if off + k * sz <= cs.length then (((cs.drop off).take (k * sz)).mapM (Jbs H n)).map fun es => .sl sz (chunks sz k es) else none
      | _ => none
    | .hp id off =>
      match H[id]? with
      | some (.cells _ _ cs) => ((cs.drop off).mapM (Jbs H n)).map .ptr
      | _ => none
    | .agg cs => (cs.mapM (Jbs H n)).map .agg
    | .tup cs => (cs.mapM (Jbs H n)).map .tup
    | .mp id =>
      match H[id]? with
      | some (.map ks vs) => (vs.mapM (Jbs H n)).map fun us => .mv ks us
      | _ => none
    | .ifc t d => (Jbs H n d).map (.ifc t)
    | d => if Jd6 d then some d else none
section
variable {B : Nat} {S S' : Nat -> Prop} {L : List (Nat × Nat)} {w : World} {H : Heap}
theorem Jgb {L' : List (Nat × Nat)} {g : D -> Option D} (hg : ∀ d d' x, g d = some d' -> Rep S L w x d -> Rep S' L' w x d') : ∀ (cs es : List D) (xs : List Value), cs.mapM g = some es -> RepA S L w xs cs -> RepA S' L' w xs es
  | [], es, xs, h, hx => by simp at h; subst h; simpa only [RepA] using hx
  | d :: r, es, xs, h, hx => by
    simp only [List.mapM_cons, Option.pure_def, Option.bind_eq_bind] at h
    cases h1 : g d with
    | none => rw [h1] at h; cases h
    | some d' =>
      cases h2 : r.mapM g with
      | none => rw [h1, h2] at h; cases h
      | some es' =>
        rw [h1, h2] at h
        cases h
        simp only [RepA] at hx ⊢
        obtain ⟨x, ys, e, h3, h4⟩ := hx
        exact ⟨x, ys, e, hg d d' x h1 h3, Jgb hg r es' ys h2 h4⟩
theorem mapM_len {g : D -> Option D} : ∀ (cs es : List D), cs.mapM g = some es -> es.length = cs.length
  | [], es, h => by simp at h; subst h; rfl
  | d :: r, es, h => by
    simp only [List.mapM_cons, Option.pure_def, Option.bind_eq_bind] at h
    cases h1 : g d with
    | none => rw [h1] at h; cases h
    | some d' =>
      cases h2 : r.mapM g with
      | none => rw [h1, h2] at h; cases h
      | some es' =>
        rw [h1, h2] at h
        cases h
        simp [mapM_len r es' h2]
theorem Qfp (hr : HRel B S L w H) : ∀ (n : Nat) (d d' : D) (x : Value), Jbs H n d = some d' -> Rep S L w x d -> Rep (fun k => S k \/ (B <= k /\ k < w.heap.size)) [] w x d' := by
  have pure' : ∀ d d' x, (if Jd6 d then some d else none) = some d' -> Rep S L w x d -> Rep (fun k => S k \/ (B <= k /\ k < w.heap.size)) [] w x d' := by
    intro d d' x h hx
    split at h
    · rename_i hp
      cases h
      exact Rep.kept (Kept.refl _ _) (fun k hk => .inl hk) (fun i p hi => by simp at hi) d x (Jrz d x hp hx)
    · cases h
  intro n
  induction n with
  | zero => intro d d' x h hx; exact pure' d d' x h hx
  | succ n ih =>
    intro d d' x h hx
    simp only [Jbs] at h
    split at h
    · rename_i id k
      split at h
      · rename_i t sz cs hid
        split at h
        · rename_i hle
          cases hm : (cs.take (k * sz)).mapM (Jbs H n) with
          | none => rw [hm] at h; cases h
          | some es =>
            rw [hm] at h
            simp only [Option.map_some, Option.some.injEq] at h
            subst h
            simp only [Rep] at hx
            obtain ⟨b, c, hL, hkc, rfl⟩ := hx
            obtain ⟨arr, g1, g2, g3, g4, g5⟩ := Jdt hr hid hL
            have hes := mapM_len _ _ hm
            have hel : es.length = k * sz := by rw [hes, List.length_take]; omega
            have hrep := Jgb (fun d d' x h1 h2 => ih d d' x h1 h2) _ es _ hm (g5.take (k * sz))
            have hbl := hr.lt hid hL
            have hb : S b \/ (B <= b /\ b < w.heap.size) := .inr ⟨hbl.1, hbl.2.1⟩
            simp only [Rep, Jpo]
            by_cases hk0 : k = 0
            · subst hk0
              exact .inl ⟨rfl, _, c, rfl, fun h => by cases h⟩
            · refine .inr ⟨b, 0, c, rfl, by omega, hkc, hb, RepR.of (Jv0 _ _ _ hel) ?_⟩
              rw [chunks_flatten _ _ _ hel]
              refine RepC.of hrep fun j v hj => ?_
              rw [Nat.zero_add, cell_of_heap g1]
              have hlt := (List.getElem?_eq_some_iff.1 hj).1
              simp only [List.length_take] at hlt
              rw [List.getElem?_take_of_lt (by omega), List.getElem?_take_of_lt (by omega)] at hj
              simpa using hj
        · cases h
      · cases h
    · rename_i id off k
      split at h
      · rename_i t sz cs hid
        split at h
        · rename_i hle
          cases hm : ((cs.drop off).take (k * sz)).mapM (Jbs H n) with
          | none => rw [hm] at h; cases h
          | some es =>
            rw [hm] at h
            simp only [Option.map_some, Option.some.injEq] at h
            subst h
            simp only [Rep] at hx
            obtain ⟨b, c, o, cap, hL, rfl, hkc, ho⟩ := hx
            obtain ⟨arr, g1, g2, g3, g4, g5⟩ := Jdt hr hid hL
            have hes := mapM_len _ _ hm
            have hel : es.length = k * sz := by rw [hes, List.length_take, List.length_drop]; omega
            have hrep := Jgb (fun d d' x h1 h2 => ih d d' x h1 h2) _ es _ hm ((g5.drop off).take (k * sz))
            have hbl := hr.lt hid hL
            have hb : S b \/ (B <= b /\ b < w.heap.size) := .inr ⟨hbl.1, hbl.2.1⟩
            simp only [Rep, Jpo]
            by_cases hk0 : k = 0
            · subst hk0
              exact .inl ⟨rfl, _, cap, rfl, fun h => by cases h⟩
            · obtain rfl := ho (by omega)
              refine .inr ⟨b, o, cap, rfl, by omega, hkc, hb, RepR.of (Jv0 _ _ _ hel) ?_⟩
              rw [chunks_flatten _ _ _ hel]
              refine RepC.of hrep fun j v hj => ?_
              rw [cell_of_heap g1]
              have hlt := (List.getElem?_eq_some_iff.1 hj).1
              simp only [List.length_take, List.length_drop] at hlt
              rw [List.getElem?_take_of_lt (by omega), List.getElem?_drop, List.getElem?_take_of_lt (by omega)] at hj
              simpa using hj
        · cases h
      · cases h
    · rename_i id off
      split at h
      · rename_i t sz cs hid
        cases hm : (cs.drop off).mapM (Jbs H n) with
        | none => rw [hm] at h; cases h
        | some es =>
          rw [hm] at h
          simp only [Option.map_some, Option.some.injEq] at h
          subst h
          simp only [Rep] at hx
          obtain ⟨b, c, hL, rfl⟩ := hx
          obtain ⟨arr, g1, g2, g3, g4, g5⟩ := Jdt hr hid hL
          have hbl := hr.lt hid hL
          have hb : S b \/ (B <= b /\ b < w.heap.size) := .inr ⟨hbl.1, hbl.2.1⟩
          have hrep := Jgb (fun d d' x h1 h2 => ih d d' x h1 h2) _ es _ hm (g5.drop off)
          simp only [Rep]
          refine ⟨b, off, rfl, hb, RepC.of hrep fun j v hj => ?_⟩
          rw [cell_of_heap g1]
          rw [List.getElem?_drop] at hj
          have hlt := (List.getElem?_eq_some_iff.1 hj).1
          simp only [List.length_take, Array.length_toList] at hlt
          rw [List.getElem?_take_of_lt (by omega)] at hj
          simpa using hj
      · cases h
    · rename_i cs
      cases hm : cs.mapM (Jbs H n) with
      | none => rw [hm] at h; cases h
      | some es =>
        rw [hm] at h
        simp only [Option.map_some, Option.some.injEq] at h
        subst h
        simp only [Rep] at hx ⊢
        obtain ⟨xs, h1, h2⟩ := hx
        exact ⟨xs, h1, Jgb (fun d d' x h1 h2 => ih d d' x h1 h2) _ es _ hm h2⟩
    · rename_i cs
      cases hm : cs.mapM (Jbs H n) with
      | none => rw [hm] at h; cases h
      | some es =>
        rw [hm] at h
        simp only [Option.map_some, Option.some.injEq] at h
        subst h
        simp only [Rep] at hx ⊢
        obtain ⟨xs, h1, h2⟩ := hx
        exact ⟨xs, h1, Jgb (fun d d' x h1 h2 => ih d d' x h1 h2) _ es _ hm h2⟩
    · rename_i id
      split at h
      · rename_i ks vs hid
        cases hm : vs.mapM (Jbs H n) with
        | none => rw [hm] at h; cases h
        | some us =>
          rw [hm] at h
          simp only [Option.map_some, Option.some.injEq] at h
          subst h
          simp only [Rep] at hx
          obtain ⟨b, c, hL, rfl⟩ := hx
          obtain ⟨b', c', h1, h2, h3, arr, clk, h4, h5, h6⟩ := hr.obj id _ hid (by intro e; cases e)
          rw [hL] at h1
          cases h1
          have hbl := hr.lt' hid (by intro e; cases e) hL
          simp only [Rep]
          exact ⟨b, arr, clk, rfl, .inr ⟨hbl.1, hbl.2.1⟩, h4, h5, Jgb (fun d d' x h1 h2 => ih d d' x h1 h2) _ us _ hm h6⟩
      · cases h
    · rename_i t e
      cases hm : Jbs H n e with
      | none => rw [hm] at h; cases h
      | some e' =>
        rw [hm] at h
        simp only [Option.map_some, Option.some.injEq] at h
        subst h
        simp only [Rep] at hx ⊢
        obtain ⟨y, h1, h2⟩ := hx
        exact ⟨y, h1, ih _ _ _ hm h2⟩
    · exact pure' _ d' x h hx
theorem Qfo (hr : HRel B S L w H) (n : Nat) (d d' : D) (x : Value) (h : Jbs H n d = some d') (hx : Rep S L w x d) : Rep (· < w.heap.size) [] w x d' :=
  Rep.kept (Kept.refl _ _) (fun k hk => hk.elim (hr.small k) fun h => h.2) (fun i p hi => hi) d' x (Qfp hr n d d' x h hx)
end
structure CallOk (P : Program) (f : FuncId) (F : List D -> Option D) : Prop where
  body : ∃ fn, P.funcs[f]? = some fn /\ fn.name ≠ "runtime.NumGoroutine" /\ fn.body.isSome = true
  calls : ∀ ds d, F ds = some d -> ∀ (S : Nat -> Prop) (vs : List Value) (w : World), (∀ k, S k -> k < w.heap.size) -> RepA S [] w vs ds ->
    Calls P f vs.toArray w fun e w' => ∃ v, e = .returned v /\ Rep (fun k => S k \/ (w.heap.size <= k /\ k < w'.heap.size)) [] w' v d /\ Below w.heap.size w w'
structure HCallOk (P : Program) (f : FuncId) (G : List D -> Heap -> Option (D × Heap)) : Prop where
  body : ∃ fn, P.funcs[f]? = some fn /\ fn.name ≠ "runtime.NumGoroutine" /\ fn.body.isSome = true
  calls : ∀ ds H d H', G ds H = some (d, H') -> ∀ (B : Nat) (S : Nat -> Prop) (L : List (Nat × Nat)) (vs : List Value) (w : World), HRel B S L w H -> RepA S L w vs ds ->
    Calls P f vs.toArray w fun e w' => ∃ v S' L', e = .returned v /\ Rep S' L' w' v d /\ HRel B S' L' w' H' /\ Later B S S' L L' w w'
def isV : D -> Bool
  | .v _ => true
  | _ => false
def Qho : D -> Bool
  | .v _ => true
  | .tup ds => ds.all isV
  | _ => false
theorem Qot {S S' : Nat -> Prop} {L L' : List (Nat × Nat)} {w w' : World} {d : D} {x : Value} (hf : Qho d = true) (h : Rep S L w x d) : Rep S' L' w' x d := by
  cases d with
  | v y => simpa only [Rep] using h
  | tup ds =>
    simp only [Rep] at h ⊢
    obtain ⟨xs, h1, h2⟩ := h
    refine ⟨xs, h1, ?_⟩
    clear h1
    simp only [Qho] at hf
    induction ds generalizing xs with
    | nil => simpa only [RepA] using h2
    | cons d r ih =>
      simp only [List.all_cons, Bool.and_eq_true] at hf
      simp only [RepA] at h2 ⊢
      obtain ⟨y, ys, e, h3, h4⟩ := h2
      refine ⟨y, ys, e, ?_, ih hf.2 ys h4⟩
      cases d with
      | v z => simpa only [Rep] using h3
      | _ => simp [isV] at hf
  | _ => simp [Qho] at hf
def Jae (F : List D -> Option D) (ds : List D) (H : Heap) : Option (D × Heap) :=
  match Jfi ds with
  | true => (F ds).map fun d => (d, H)
  | false => (ds.mapM (Jbs H 9)).bind fun ds' => (F ds').bind fun d => if Qho d then some (d, H) else none
theorem HRel.call {B : Nat} {S : Nat → Prop} {L : List (Nat × Nat)} {w w' : World} {H : Heap} (hr : HRel B S L w H) (hb : Below w.heap.size w w') :
    HRel B (fun k => S k \/ (w.heap.size <= k /\ k < w'.heap.size)) L w' H /\ Later B S (fun k => S k \/ (w.heap.size <= k /\ k < w'.heap.size)) L L w w' := by
  have hl : Later B S (fun k => S k \/ (w.heap.size <= k /\ k < w'.heap.size)) L L w w' := ⟨hb.mono hr.base, Jg3 hb hr.small, fun k hk => .inl hk, List.prefix_refl _, fun k hk => hk.imp id fun h => h.1, fun k hk => (hb.block k (Array.getElem?_eq_some_iff.1 hk).1).trans hk⟩
  refine ⟨⟨hr.len, fun k hk => ?_, Nat.le_trans hr.base hb.size, ?_, hr.inj⟩, hl⟩
  · rcases hk with hk | hk
    · exact Nat.lt_of_lt_of_le (hr.small k hk) hb.size
    · exact hk.2
  · intro id o hid ho
    obtain ⟨b, c, h1, h2, h3, h4⟩ := hr.obj id o hid ho
    have hbs : b < w.heap.size := h4.lt ho
    refine ⟨b, c, h1, h2, fun hk => ?_, h4.kept (hb.block b hbs) (fun _ _ => hl.rep) (fun _ _ => hl.repA)⟩
    rcases hk with hk | hk
    · exact h3 hk
    · omega
theorem Qrs {P : Program} {f : FuncId} {F : List D -> Option D} (h : CallOk P f F) : HCallOk P f (Jae F) := by
  refine ⟨h.body, fun ds H d H' hG B S L vs w hr hv => ?_⟩
  unfold Jae at hG
  split at hG
  · rename_i hp
    cases hF : F ds with
    | none => rw [hF] at hG; cases hG
    | some d' =>
      rw [hF] at hG
      simp only [Option.map_some, Option.some.injEq, Prod.mk.injEq] at hG
      obtain ⟨rfl, rfl⟩ := hG
      refine (h.calls ds _ hF S vs w hr.small (Jiw ds vs hp hv)).mono ?_
      rintro e w' ⟨v, rfl, h1, h2⟩
      obtain ⟨h3, h4⟩ := hr.call h2
      exact ⟨v, _, L, rfl, h1.lift, h3, h4⟩
  · obtain ⟨ds', hds, hG⟩ := Option.bind_eq_some_iff.1 hG
    obtain ⟨d', hF, hG⟩ := Option.bind_eq_some_iff.1 hG
    split at hG
    · rename_i hf
      cases hG
      have hv' := Jgb (fun d d' x h1 h2 => Qfo hr 9 d d' x h1 h2) ds ds' vs hds hv
      refine (h.calls ds' _ hF _ vs w (fun k hk => hk) hv').mono ?_
      rintro e w' ⟨v, rfl, h1, h2⟩
      obtain ⟨h3, h4⟩ := hr.call h2
      exact ⟨v, _, L, rfl, Qot hf h1, h3, h4⟩
    · cases hG
structure Tab where
  fs : List (FuncId × Bool × (List D -> Heap -> Option (D × Heap)))
  yl : Nat -> List D -> Heap -> Option (D × Heap)
def noYl : Nat -> List D -> Heap -> Option (D × Heap) := fun _ _ _ => none
def Qhg : List (FuncId × Bool × (List D -> Heap -> Option (D × Heap))) -> FuncId -> List D -> Heap -> Option (D × Heap)
  | [], _, _, _ => none
  | (g, _, F) :: r, f, ds, H => if f = g then F ds H else Qhg r f ds H
def look (T : Tab) (f : FuncId) (ds : List D) (H : Heap) : Option (D × Heap) := Qhg T.fs f ds H
def Qcx : List (FuncId × Bool × (List D -> Heap -> Option (D × Heap))) -> FuncId -> Bool
  | [], _ => false
  | (g, b, _) :: r, f => if f = g then b else Qcx r f
def Jzy (T : Tab) (f : FuncId) : Bool := Qcx T.fs f
def YOk (P : Program) (Y : Nat -> List D -> Heap -> Option (D × Heap)) : Prop := ∀ id ds H d H', Y id ds H = some (d, H') -> ∀ (B : Nat) (S : Nat -> Prop) (L : List (Nat × Nat)) (vs : List Value) (w : World), HRel B S L w H -> RepA S L w vs ds ->
  ∃ b c f tmps assign body, L[id]? = some (b, c) /\ (Instr.yield b vs.toArray).run P w = .ok (.round b f tmps assign body) w /\
    ∀ n, RoundIn Fence.wide n P b f tmps assign body w fun e w' => ∃ v S' L', e = .returned v /\ Rep S' L' w' v d /\ HRel B S' L' w' H' /\ Later B S S' L L' w w'
theorem Qjp (P : Program) : YOk P noYl := fun _ _ _ _ _ h => by cases h
def Juo (G : List D -> Heap -> Option (D × Heap)) : Prop := ∀ ds H d H', G ds H = some (d, H') -> H' = H /\ (∀ t, G ds (H ++ t) = some (d, H ++ t)) /\ (Jfi ds = true -> ∀ H2, G ds H2 = some (d, H2))
structure TabOk (P : Program) (T : Tab) : Prop where
  fs : ∀ p ∈ T.fs, HCallOk P p.1 p.2.2 /\ (p.2.1 = true -> Juo p.2.2)
  yl : YOk P T.yl
theorem look_ok {P : Program} {T : Tab} (h : TabOk P T) {f : FuncId} {ds : List D} {H : Heap} {r : D × Heap} (hl : look T f ds H = some r) : ∃ G, HCallOk P f G /\ G ds H = some r /\ (Jzy T f = true -> r.2 = H /\ (∀ t, look T f ds (H ++ t) = some (r.1, H ++ t)) /\ (Jfi ds = true -> ∀ H2, look T f ds H2 = some (r.1, H2))) := by
  have hfs := h.fs
  unfold look at hl ⊢
  unfold Jzy
  generalize T.fs = l at hl hfs ⊢
  induction l with
  | nil => cases hl
  | cons p t ih =>
    obtain ⟨g, b, F⟩ := p
    simp only [Qhg] at hl
    simp only [Qcx]
    split at hl
    · rename_i he
      subst he
      obtain ⟨h1, h2⟩ := hfs (f, b, F) (by simp)
      refine ⟨F, h1, hl, fun hb => ?_⟩
      have := h2 (by simpa using hb) ds H r.1 r.2 hl
      refine ⟨this.1, fun t => ?_, fun hp H2 => ?_⟩
      · simp only [Qhg, if_true]
        exact this.2.1 t
      · simp only [Qhg, if_true]
        exact this.2.2 hp H2
    · rename_i he
      rw [if_neg he]
      simp only [Qhg, if_neg he]
      exact ih hl fun q hq => hfs q (by simp [hq])
theorem mapM_mono {g g' : D -> Option D} (h : ∀ d d', g d = some d' -> g' d = some d') : ∀ (cs es : List D), cs.mapM g = some es -> cs.mapM g' = some es
  | [], es, hm => hm
  | d :: r, es, hm => by
    simp only [List.mapM_cons, Option.pure_def, Option.bind_eq_bind] at hm ⊢
    cases h1 : g d with
    | none => rw [h1] at hm; cases hm
    | some d' =>
      cases h2 : r.mapM g with
      | none => rw [h1, h2] at hm; cases hm
      | some es' =>
        rw [h1, h2] at hm
        rw [h d d' h1, mapM_mono h r es' h2]
        exact hm
theorem Jhs {H t : Heap} {id : Nat} {o : HO} (h : H[id]? = some o) : (H ++ t)[id]? = some o := by
  rw [List.getElem?_append_left (List.getElem?_eq_some_iff.1 h).1]; exact h
theorem Jqr (H t : Heap) : ∀ (n : Nat) (d d' : D), Jbs H n d = some d' -> Jbs (H ++ t) n d = some d'
  | 0, d, d', h => h
  | n + 1, d, d', h => by
    have ih := Jqr H t n
    have ihm : ∀ cs es : List D, cs.mapM (Jbs H n) = some es -> cs.mapM (Jbs (H ++ t) n) = some es := mapM_mono ih
    simp only [Jbs] at h ⊢
    split at h
    · rename_i id k
      split at h
      · rename_i t' sz cs hid
        rw [Jhs hid]
        simp only
        split at h
        · rename_i hle
          rw [if_pos hle]
          obtain ⟨es, h1, h2⟩ := Option.map_eq_some_iff.1 h
          rw [ihm _ _ h1]; exact congrArg some h2
        · cases h
      · cases h
    · rename_i id off k
      split at h
      · rename_i t' sz cs hid
        rw [Jhs hid]
        simp only
        split at h
        · rename_i hle
          rw [if_pos hle]
          obtain ⟨es, h1, h2⟩ := Option.map_eq_some_iff.1 h
          rw [ihm _ _ h1]; exact congrArg some h2
        · cases h
      · cases h
    · rename_i id off
      split at h
      · rename_i t' sz cs hid
        rw [Jhs hid]
        simp only
        obtain ⟨es, h1, h2⟩ := Option.map_eq_some_iff.1 h
        rw [ihm _ _ h1]; exact congrArg some h2
      · cases h
    · obtain ⟨es, h1, h2⟩ := Option.map_eq_some_iff.1 h
      rw [ihm _ _ h1]; exact congrArg some h2
    · obtain ⟨es, h1, h2⟩ := Option.map_eq_some_iff.1 h
      rw [ihm _ _ h1]; exact congrArg some h2
    · rename_i id
      split at h
      · rename_i ks vs hid
        rw [Jhs hid]
        simp only
        obtain ⟨es, h1, h2⟩ := Option.map_eq_some_iff.1 h
        rw [ihm _ _ h1]; exact congrArg some h2
      · cases h
    · obtain ⟨e, h1, h2⟩ := Option.map_eq_some_iff.1 h
      rw [ih _ _ h1]; exact congrArg some h2
    · exact h
theorem Jvm (F : List D -> Option D) : ∀ ds H d H', Jae F ds H = some (d, H') -> H' = H := by
  intro ds H d H' h
  unfold Jae at h
  split at h
  · cases hF : F ds with
    | none => rw [hF] at h; cases h
    | some d' =>
      rw [hF] at h
      simp only [Option.map_some, Option.some.injEq, Prod.mk.injEq] at h
      exact h.2.symm
  · obtain ⟨ds', hds, h⟩ := Option.bind_eq_some_iff.1 h
    obtain ⟨d', hF, h⟩ := Option.bind_eq_some_iff.1 h
    split at h
    · cases h; rfl
    · cases h
theorem Qj4 (F : List D -> Option D) : Juo (Jae F) := by
  intro ds H d H' h
  refine ⟨Jvm F ds H d H' h, fun t => ?_, fun hp H2 => by
    unfold Jae at h ⊢
    rw [hp] at h ⊢
    simp only at h ⊢
    obtain ⟨d', hF, e⟩ := Option.map_eq_some_iff.1 h
    cases e
    rw [hF]; rfl⟩
  have hH := Jvm F ds H d H' h
  unfold Jae at h ⊢
  split at h
  · cases hF : F ds with
    | none => rw [hF] at h; cases h
    | some d' =>
      rw [hF] at h
      simp only [Option.map_some, Option.some.injEq, Prod.mk.injEq] at h
      rw [h.1]; rfl
  · obtain ⟨ds', hds, h⟩ := Option.bind_eq_some_iff.1 h
    rw [mapM_mono (Jqr H t 9) ds ds' hds]
    cases hF : F ds' with
    | none => rw [hF] at h; cases h
    | some d' =>
      rw [hF] at h
      simp only [Option.bind_some] at h ⊢
      split at h
      · rename_i hf
        cases h
        rw [hF, Option.bind_some, if_pos hf]
      · cases h
end Go.Proofs.YtinnbafplhcnpaaGreat
end
section
namespace Go.Proofs.YtinnbafplhcnpaaGreat
open Go.RowKit
def upd (d : Nat -> Bool) (i : Nat) : Nat -> Bool := fun j => if j = i then true else d j
theorem Jee (d : Nat -> Bool) (i : Nat) : upd d i i = true := by simp [upd]
theorem Jbl (d : Nat -> Bool) {i j : Nat} (h : j ≠ i) : upd d i j = d j := by simp [upd, h]
theorem Jb7 {d : Nat -> Bool} {i j : Nat} {p : Prop} (hne : j ≠ i) (h : d j = true -> p) : upd d i j = true -> p := fun hu => h (by rwa [Jbl d hne] at hu)
theorem Je0 {d : Nat -> Bool} {i j k : Nat} {p : Prop} (hne : j ≠ i) (hk : k ≠ i) (h : d j = true -> d k = false -> p) : upd d i j = true -> upd d i k = false -> p := fun hu hv => h (by rwa [Jbl d hne] at hu) (by rwa [Jbl d hk] at hv)
section
variable {F : Fence} {n : Nat} {P : Program}
def Qlv (F : Fence) (n : Nat) (P : Program) (ops : Array Oper) (Q : Exit -> Act -> World -> Prop) (Inv : (Nat -> Bool) -> Act -> World -> Prop) (i : Nat) (o : Oper) : Prop :=
  ∀ (d : Nat -> Bool) (a : Act) (w : World) (K : Act -> World -> Prop), d i = false -> (∀ e ∈ o.after, Region.binds .any e = true -> d e.on = true) -> Inv d a w -> (∀ a' w', Inv (upd d i) a' w' -> K a' w') ->
    if Region.wanted o (yielded ops a.tmps) then o.wpIn F n P a w K Q else (∀ f, o.about P w a.eval = some f -> F.fn f) /\ K (a.put o.dst undef) w
def Jsj (F : Fence) (n : Nat) (P : Program) (ops : Array Oper) (Q : Exit -> Act -> World -> Prop) (Inv : (Nat -> Bool) -> Act -> World -> Prop) : List Oper -> Nat -> Prop
  | [], _ => True
  | o :: r, i => Qlv F n P ops Q Inv i o /\ Jsj F n P ops Q Inv r (i + 1)
theorem Jsi {ops : Array Oper} {Q : Exit -> Act -> World -> Prop} {Inv : (Nat -> Bool) -> Act -> World -> Prop} : ∀ (l : List Oper) (k : Nat), Jsj F n P ops Q Inv l k -> ∀ (j : Nat) (o : Oper), l[j]? = some o -> Qlv F n P ops Q Inv (k + j) o
  | [], _, _, j, o, h => by simp at h
  | x :: r, k, hs, 0, o, h => by
    have h' : x = o := by simpa using h
    subst h'
    exact hs.1
  | x :: r, k, hs, j + 1, o, h => by
    have := Jsi r (k + 1) hs.2 j o (by simpa using h)
    rwa [show k + (j + 1) = k + 1 + j from by omega]
theorem Jsy         {id : Nat} {ops : Array Oper} {Q : Exit → Act → World → Prop} {a : Act} {w : World} (hm : P.follows .mixedOrders = true) (Inv : (Nat → Bool) → Act → World → Prop)
    (hac : (ops.toList.zipIdx.all fun x => x.1.after.all fun e => decide (e.on < x.2) || !Region.binds .any e) = true)
    (h0 : Inv (fun _ => false) a w.drew) (hstep : Jsj F n P ops Q Inv ops.toList 0)
    (hend : ∀ d a w, (∀ i, i < ops.size -> d i = true) -> Inv d a w -> Q .normal a w) : (Code.region id ops true).wpIn F n P Q a w := by
  refine wpIn_region_any hm ?_
  have key : ∀ (fuel : Nat) (listed : Array Bool) (d : Nat → Bool) (a : Act) (w : World), listed.size = ops.size → (∀ i, i < ops.size → listed.getD i false = d i) →
      ((List.range ops.size).filter fun i => !d i).length <= fuel -> Inv d a w -> wpAnyIn F n P .any ops Q fuel listed a w := by
    have hdone : ∀ (listed : Array Bool) (d : Nat -> Bool), listed.size = ops.size -> (∀ i, i < ops.size -> listed.getD i false = d i) -> Region.ready .any ops listed = [] -> ∀ i, i < ops.size -> d i = true := by
      intro listed d hsz hl hr i
      induction i using Nat.strongRecOn with
      | _ i ih =>
        intro hi
        cases hd : d i with
        | true => rfl
        | false =>
          exfalso
          have : i ∈ Region.ready .any ops listed := by
            refine mem_ready.2 ⟨?_, ops[i], Array.getElem?_eq_getElem hi, fun e he hbnd => ?_⟩
            · have := hl i hi
              rw [hd] at this
              rw [Array.getD_eq_getD_getElem?, Array.getElem?_eq_getElem (by omega)] at this ⊢
              simpa using this
            · have hx : e.on < i := by
                have h1 := List.all_eq_true.1 hac (ops[i], i) (by
                  rw [List.mem_zipIdx_iff_getElem?]
                  simp [hi])
                have h2 := (Array.all_eq_true_iff_forall_mem.1 h1) e he
                simp only [hbnd, Bool.not_true, Bool.or_false] at h2
                exact of_decide_eq_true h2
              rw [hl e.on (by omega)]
              exact ih e.on hx (by omega)
          rw [hr] at this
          cases this
    intro fuel
    induction fuel with
    | zero =>
      intro listed d a w hsz hl hf hi
      have hall : ∀ i, i < ops.size -> d i = true := by
        intro i hi'
        have := List.length_eq_zero_iff.1 (Nat.le_zero.1 hf)
        cases hd : d i with
        | true => rfl
        | false =>
          have hm : i ∈ (List.range ops.size).filter fun i => !d i := by simp [hi', hd]
          rw [this] at hm; cases hm
      refine ⟨?_, hend d a w hall hi⟩
      apply List.eq_nil_iff_forall_not_mem.2
      intro i hmem
      obtain ⟨h1, o, ho, _⟩ := mem_ready.1 hmem
      have hlt : i < ops.size := (Array.getElem?_eq_some_iff.1 ho).1
      have h2 := hl i hlt
      rw [hall i hlt, Array.getD_eq_getD_getElem?, Array.getElem?_eq_getElem (by omega)] at h2
      rw [Array.getD_eq_getD_getElem?, Array.getElem?_eq_getElem (by omega)] at h1
      simp at h1 h2
      rw [h1] at h2; cases h2
    | succ fuel ih =>
      intro listed d a w hsz hl hf hi
      refine ⟨fun hr => hend d a w (hdone listed d hsz hl hr) hi, fun i hmem => ?_⟩
      obtain ⟨h1, o, ho, haft⟩ := mem_ready.1 hmem
      have hlt : i < ops.size := (Array.getElem?_eq_some_iff.1 ho).1
      have hdi : d i = false := by
        rw [<- hl i hlt]
        rw [Array.getD_eq_getD_getElem?, Array.getElem?_eq_getElem (by omega)] at h1 ⊢
        simpa using h1
      have hso := Jsi ops.toList 0 hstep i o (by simpa using ho)
      rw [Nat.zero_add] at hso
      unfold wpOpIn
      simp only [ho]
      refine hso d a w _ hdi (fun e he hb => ?_) hi (fun a' w' hi' => ih _ (upd d i) a' w' (by simpa using hsz) (fun j hj => ?_) ?_ hi')
      · have h3 := haft e he hb
        have hx : e.on < i := by
          have h1 := List.all_eq_true.1 hac (o, i) (by
            rw [List.mem_zipIdx_iff_getElem?]
            simpa using ho)
          have h2 := (Array.all_eq_true_iff_forall_mem.1 h1) e he
          simp only [hb, Bool.not_true, Bool.or_false] at h2
          exact of_decide_eq_true h2
        rw [<- hl e.on (by omega)]; exact h3
      · by_cases hji : j = i
        · subst hji
          rw [Jee, Array.getD_eq_getD_getElem?, Array.getElem?_setIfInBounds_self_of_lt (by omega)]; rfl
        · rw [Jbl d hji, getD_set_ne false (fun h => hji h.symm)]; exact hl j hj
      · have : ((List.range ops.size).filter fun j => !upd d i j).length < ((List.range ops.size).filter fun j => !d j).length := by
          have hsub : ((List.range ops.size).filter fun j => !upd d i j) = ((List.range ops.size).filter fun j => !d j).filter fun j => j != i := by
            rw [List.filter_filter]
            apply List.filter_congr
            intro j _
            by_cases hji : j = i
            · subst hji; simp [Jee]
            · simp [Jbl d hji, hji]
          rw [hsub]
          refine List.length_filter_lt_length_iff_exists.2 ⟨i, by simp [hlt, hdi], by simp⟩
        omega
  exact key ops.size _ (fun _ => false) a _ (by simp) (fun i hi => by simp [Array.getD_eq_getD_getElem?, hi]) (by
    refine Nat.le_trans (List.length_filter_le _ _) (by simp)) h0
theorem Jqd        {id : Nat} {ops : Array Oper} {Q : Exit → Act → World → Prop} {a : Act} {w : World} (hm : P.follows .mixedOrders = true) (Inv : (Nat → Bool) → Act → World → Prop)
    (hac : (ops.toList.zipIdx.all fun x => x.1.after.all fun e => e.on < x.2) = true)
    (h0 : Inv (fun _ => false) a w.drew) (hstep : Jsj F n P ops Q Inv ops.toList 0)
    (hend : ∀ d a w, (∀ i, i < ops.size -> d i = true) -> Inv d a w -> Q .normal a w) : (Code.region id ops true).wpIn F n P Q a w := by
  refine Jsy hm Inv ?_ h0 hstep hend
  refine List.all_eq_true.2 fun x hx => ?_
  have h1 := List.all_eq_true.1 hac x hx
  refine Array.all_eq_true_iff_forall_mem.2 fun e he => ?_
  rw [(Array.all_eq_true_iff_forall_mem.1 h1) e he]; rfl
end
end Go.Proofs.YtinnbafplhcnpaaGreat
end
section
namespace Go.Proofs.YtinnbafplhcnpaaGreat
open Go.RowKit
set_option linter.unusedVariables false
set_option linter.unusedSimpArgs false
def Jd9 (fr : List D) : Operand -> D
  | .tmp t => fr.getD t .undef
  | .const v => .v v
  | .global g => .v (.pointer (some ⟨g, 0, none⟩))
  | .func f => .clo (.func f) [] []
def putD (fr : List D) (dst : Option Tmp) (d : D) : List D :=
  match dst with
  | some t => fr.set t d
  | none => fr
def Jdq (T : Tab) (f : D) (args : List D) (H : Heap) : Option (D × Heap) :=
  match f with
  | .clo (.func f) fs cs => look T f (fs ++ args ++ cs) H
  | .yld id => T.yl id args H
  | _ => none
def Jle (P : Program) (T : Tab) (r : D) (name : String) (args : List D) (H : Heap) : Option (D × Heap) :=
  match r with
  | .ifc t d => (Qhb P t name).bind fun f => look T f (d :: args) H
  | _ => none
theorem Qn2 {P : Program} {t : TypeId} {name : String} {f : FuncId} (h : Qhb P t name = some f) (v : Value) (w : World) (n : Nat) : (method (n + 1) t v name).run P w = .ok (f, v) w := by
  unfold Qhb at h
  split at h
  · rename_i i u hi hu
    split at h
    · rename_i m hm
      split at h
      · rename_i g b hp hf
        split at h
        · rename_i hb
          cases h
          have : ∀ wr, (receiverAt t (.val v) b wr).run P w = .ok v w := by
            intro wr
            subst hb
            cases u <;> simp [receiverAt, run_underlying hu, isPtr, Place.get]
          simp [method, typeInfo, hi, hm, hp, follow, hf, this]
        · cases h
      · cases h
    · cases h
  · cases h
def stepD (P : Program) (T : Tab) (op : Op) (ρ : Operand -> D) (H : Heap) : Option (D × Heap) :=
  match op with
  | .call { callee := .value (.func f), args, .. } => look T f (args.toList.map ρ) H
  | .call { callee := .value (.tmp t), args, .. } => Jdq T (ρ (.tmp t)) (args.toList.map ρ) H
  | .call { callee := .invoke r name, args, .. } => Jle P T (ρ r) name (args.toList.map ρ) H
  | op => opH P op ρ H
def Jjp (ops : List Oper) (o : Oper) (fr : List D) : Option Bool :=
  match o.guard with
  | none => some true
  | some (j, want) =>
    match ((ops[j]?).bind (·.dst)).bind (fr[·]?) with
    | some (.v (.bool b)) => some (b == want)
    | some (.v (.tuple _)) => some false
    | _ => none
def oneD (P : Program) (T : Tab) (ops : List Oper) (o : Oper) (fr : List D) (H : Heap) : Option (D × Heap) :=
  match Jjp ops o fr with
  | some true => stepD P T o.op (Jd9 fr) H
  | some false => some (.v undef, H)
  | none => none
abbrev Fr := List D × Heap
def Jiu (P : Program) (T : Tab) (ops : List Oper) : List Oper -> Fr -> Option Fr
  | [], s => some s
  | o :: r, s => (oneD P T ops o s.1 s.2).bind fun d => Jiu P T ops r (putD s.1 o.dst d.1, d.2)
def Jev (P : Program) (T : Tab) (ops : List Oper) : List Oper -> Fr -> List Heap
  | [], s => [s.2]
  | o :: r, s => s.2 :: (match oneD P T ops o s.1 s.2 with | some d => Jev P T ops r (putD s.1 o.dst d.1, d.2) | none => [])
inductive Wd : Fence -> Prop
  | wide : Wd Fence.wide
  | round (l : Nat) : Wd (Fence.wide.inRound l)
theorem Wd.fn {F : Fence} (h : Wd F) (f : FuncId) : F.fn f := by cases h <;> trivial
theorem Wd.depth {F : Fence} (h : Wd F) : F.depth = none := by cases h <;> rfl
theorem Wd.calls {F : Fence} (h : Wd F) {n : Nat} {P : Program} {f : FuncId} {args : Array Value} {w : World} {R : Ending -> World -> Prop} (hc : Calls P f args w R) : CallsIn F n P f args w R := by
  cases h with
  | wide => exact callsIn_wide.2 hc
  | round l => exact CallsIn.inRound l (callsIn_wide.2 hc)
theorem Wd.round' {F : Fence} (h : Wd F) {n : Nat} {P : Program} {l : Nat} {f : FuncId} {tmps : Array Value} {assign body : Code} {w : World} {R : Ending -> World -> Prop} (hc : RoundIn Fence.wide n P l f tmps assign body w R) : RoundIn F n P l f tmps assign body w R := by
  cases h with
  | wide => exact hc
  | round l => exact hc
def marksOf (Ds : List Nat) : List Deferred := Ds.map fun D => { target := .collected D, args := #[] }
def MarksOk (N : Nat) (S : Nat -> Prop) (w : World) (ds : List Deferred) : Prop := ∃ Ds : List Nat, ds = marksOf Ds /\ Ds.Nodup /\ ∀ D ∈ Ds, N <= D /\ ¬ S D /\ w.heap[D]? = some (.deferred (some []))
theorem MarksOk.nil {N : Nat} {S : Nat -> Prop} {w : World} : MarksOk N S w [] := ⟨[], rfl, List.nodup_nil, fun D h => by cases h⟩
theorem MarksOk.later {N B : Nat} {S S' : Nat -> Prop} {L L' : List (Nat × Nat)} {w w' : World} {ds : List Deferred} (h : MarksOk N S w ds) (hl : Later B S S' L L' w w') : MarksOk N S' w' ds := by
  obtain ⟨Ds, h1, h2, h3⟩ := h
  refine ⟨Ds, h1, h2, fun D hD => ?_⟩
  obtain ⟨k1, k2, k3⟩ := h3 D hD
  refine ⟨k1, fun hS => ?_, hl.marks D k3⟩
  rcases hl.only D hS with h | h
  · exact k2 h
  · have := (Array.getElem?_eq_some_iff.1 k3).1
    omega
structure RepF (B N : Nat) (S : Nat -> Prop) (L : List (Nat × Nat)) (w : World) (a : Act) (s : Fr) : Prop where
  defers : MarksOk N S w a.defers
  tmps : RepA S L w a.tmps.toList s.1
  objs : HRel B S L w s.2
theorem RepA.put {S : Nat -> Prop} {L : List (Nat × Nat)} {w : World} {a : Act} {fr : List D} (h : RepA S L w a.tmps.toList fr) (dst : Option Tmp) {v : Value} {d : D} (hv : Rep S L w v d) : RepA S L w (a.put dst v).tmps.toList (putD fr dst d) := by
  cases dst with
  | none => exact h
  | some t =>
    simp only [Act.put, putD, Array.toList_setIfInBounds]
    exact h.set t hv
theorem put_defers (a : Act) (dst : Option Tmp) (v : Value) : (a.put dst v).defers = a.defers := by
  cases dst <;> rfl
theorem RepA.getD {S : Nat -> Prop} {L : List (Nat × Nat)} {w : World} {xs : List Value} {ds : List D} (h : RepA S L w xs ds) (t : Nat) (u : Value) : Rep S L w (xs.getD t u) (ds.getD t .undef) := by
  cases hd : ds[t]? with
  | none => rw [List.getD_eq_getElem?_getD, List.getD_eq_getElem?_getD, hd]; simp only [Option.getD_none, Rep]
  | some d =>
    obtain ⟨x, h1, h2⟩ := h.get t d hd
    rw [List.getD_eq_getElem?_getD, List.getD_eq_getElem?_getD, hd, h1]
    exact h2
theorem Jxw {S : Nat -> Prop} {L : List (Nat × Nat)} {w : World} {a : Act} {fr : List D} (h : RepA S L w a.tmps.toList fr) (x : Operand) : Rep S L w (a.eval x) (Jd9 fr x) := by
  cases x with
  | tmp t =>
    have := h.getD t undef
    simpa [Act.eval, Jd9] using this
  | func f =>
    simp only [Jd9, Rep, RepA]
    exact ⟨[], [], rfl, rfl, rfl⟩
  | _ => simp only [Jd9, Rep]; rfl
theorem Qc3 (x : Value) (xs : Array Value) : (#[x] ++ xs).extract 1 (#[x] ++ xs).size = xs := by
  apply Array.ext
  · simp
  · intro i h1 h2
    simp only [Array.getElem_extract]
    rw [Array.getElem_append_right (by simp)]
    simp
theorem Jrx      {P : Program} {T : Tab} (hT : TabOk P T) {F : Fence} (hF : Wd F) {n : Nat} {o : Oper} {d : D} {H H' : Heap} {a : Act} {w : World} {B : Nat} {S : Nat → Prop} {L : List (Nat × Nat)} {ρ : Operand → D} {K : Act → World → Prop} {Q : Exit → Act → World → Prop} (h : stepD P T o.op ρ H = some (d, H'))
    (hρ : ∀ x, Rep S L w (a.eval x) (ρ x)) (hr : HRel B S L w H) (hK : ∀ v w' S' L', Rep S' L' w' v d -> HRel B S' L' w' H' -> Later B S S' L L' w w' -> K (a.put o.dst v) w') : o.wpIn F n P a w K Q := by
  refine ⟨fun f _ => hF.fn f, ?_⟩
  have hdep : ∀ {p : Prop}, F.depth.isSome = true -> p := fun e => by rw [hF.depth] at e; cases e
  rw [Oper.semAt_eq _ _ _ (fun c e => by rw [e] at h; simp [stepD, opH] at h)]
  have call : ∀ (f : FuncId) (ds : List D) (vs : List Value), look T f ds H = some (d, H') → RepA S L w vs ds → (∀ fn, P.funcs[f]? = some fn → fn.name ≠ "runtime.NumGoroutine" → fn.body.isSome = true → (execOp a.eval o).run P w = .ok (.enter f vs.toArray) w) →
      o.uponIn F n P a K Q ((execOp a.eval o).run P w) := by
    intro f ds vs hl hv hrun
    obtain ⟨G, hG, hd, _⟩ := look_ok hT hl
    obtain ⟨fn, h1, h2, h3⟩ := hG.body
    rw [hrun fn h1 h2 h3]
    refine ⟨hdep, ?_⟩
    refine (hF.calls (hG.calls ds H d H' hd B S L vs w hr hv)).mono ?_
    rintro e w' ⟨v, S', L', rfl, h4, h5, h6⟩
    exact hK v w' S' L' h4 h5 h6
  unfold stepD at h
  split at h
  · rename_i f args ats heq
    refine call f _ (args.toList.map a.eval) h (RepA.ops hρ args.toList) fun fn h1 h2 h3 => ?_
    obtain ⟨dst, op, type, pos, after, guard⟩ := o
    simp only at heq
    subst heq
    have hb : fn.body ≠ none := by intro e; rw [e] at h3; cases h3
    simp [execOp, resolve, Act.eval, Deferred.ofValue, invoke, callFunc, run_program, h1, h2, hb]
    apply Array.ext'
    simp
  · rename_i t args ats heq
    unfold Jdq at h
    split at h
    · rename_i f fs cs hc
      have hf := hρ (.tmp t)
      rw [hc] at hf
      simp only [Rep] at hf
      obtain ⟨ys, zs, hfv, hy, hz⟩ := hf
      refine call f _ (ys ++ args.toList.map a.eval ++ zs) h ((hy.append (RepA.ops hρ args.toList)).append hz) fun fn h1 h2 h3 => ?_
      obtain ⟨dst, op, type, pos, after, guard⟩ := o
      simp only at heq
      subst heq
      have hb : fn.body ≠ none := by intro e; rw [e] at h3; cases h3
      simp [execOp, resolve, hfv, Deferred.ofValue, invoke, callFunc, run_program, h1, h2, hb]
    · rename_i id hc
      have hf := hρ (.tmp t)
      rw [hc] at hf
      obtain ⟨b, c, f, tmps, assign, body, h1, h2, h3⟩ := hT.yl id _ H d H' h B S L _ w hr (RepA.ops hρ args.toList)
      simp only [Rep] at hf
      obtain ⟨b', c', h4, hfv⟩ := hf
      rw [h1] at h4
      cases h4
      have hrun : (execOp a.eval o).run P w = .ok (.round b f tmps assign body) w := by
        obtain ⟨dst, op, type, pos, after, guard⟩ := o
        simp only at heq
        subst heq
        have h2' : (Instr.yield b (Array.map a.eval args)).run P w = .ok (.round b f tmps assign body) w := by rw [<- h2]; congr 2; apply Array.ext'; simp
        simp [execOp, resolve, hfv, Deferred.ofValue, invoke, h2']
      rw [hrun]
      refine ⟨hdep, ?_⟩
      refine (hF.round' (h3 (n - 1))).mono ?_
      rintro e w' ⟨v, S', L', rfl, h5, h6, h7⟩
      exact hK v w' S' L' h5 h6 h7
    · cases h
  · rename_i r name args ats heq
    unfold Jle at h
    split at h
    · rename_i ty d hc
      obtain ⟨f, hm, h⟩ := Option.bind_eq_some_iff.1 h
      have hf := hρ r
      rw [hc] at hf
      simp only [Rep] at hf
      obtain ⟨y, hfv, hy⟩ := hf
      refine call f _ (y :: args.toList.map a.eval) h (RepA.cons hy (RepA.ops hρ args.toList)) fun fn h1 h2 h3 => ?_
      obtain ⟨dst, op, type, pos, after, guard⟩ := o
      simp only at heq
      subst heq
      have hb : fn.body ≠ none := by intro e; rw [e] at h3; cases h3
      have hme : (method (P.types.size + Made.depth) ty y name).run P w = .ok (f, y) w := Qn2 hm y w (P.types.size + 99)
      have e1 : (#[y] ++ (#[a.eval r] ++ args.map a.eval).extract 1 (#[a.eval r] ++ args.map a.eval).size : Array Value) = (y :: args.toList.map a.eval).toArray := by
        rw [Qc3]
        apply Array.ext'
        simp
      have hcm : (callMethod (.iface ty y) name ((#[a.eval r] ++ args.map a.eval).extract 1 (#[a.eval r] ++ args.map a.eval).size)).run P w = .ok (.enter f (y :: args.toList.map a.eval).toArray) w := by
        unfold callMethod
        simp only [Sem.run_bind, run_program, Result.andThen_ok, hme, e1]
        simp [callFunc, run_program, h1, h2, hb]
      simp only [execOp, resolve, Sem.run_bind, Sem.run_pure, Result.andThen_ok, invoke]
      have e0 : (#[a.eval r] ++ Array.map a.eval args)[0]? = some (a.eval r) := by rw [Array.getElem?_append_left (by simp)]; rfl
      rw [e0, hfv]
      rw [hfv] at hcm
      exact hcm
    · cases h
  · obtain ⟨x, w', L', h1, h2, h3, h4⟩ := opH_ok h hρ hr
    rcases h1 with h1 | ⟨h1, rfl⟩
    · rw [h1]; exact hK x w' S L' h2 h3 h4
    · rw [h1]; exact hK undef w' S L' h2 h3 h4
theorem Ju3        {ops : Array Oper} {o : Oper} {fr : List D} {tmps : Array Value} {b : Bool} (hw : Jjp     ops.toList o fr = some b)
    (hslot : ∀ j want t v, o.guard = some (j, want) -> (ops.toList[j]?).bind (·.dst) = some t -> fr[t]? = some (.v v) -> tmps[t]? = some v) : Region.wanted o (yielded ops tmps) = b := by
  unfold Jjp at hw
  unfold Region.wanted
  split at hw
  · rename_i hg
    rw [hg]; simpa using hw
  · rename_i j want hg
    rw [hg]
    have key : ∀ v, ((ops.toList[j]?).bind (·.dst)).bind (fr[·]?) = some (.v v) -> yielded ops tmps j = match v with | .bool b => some b | _ => none := by
      intro v hb
      cases hj : (ops.toList[j]?).bind (·.dst) with
      | none => rw [hj] at hb; cases hb
      | some t =>
        rw [hj, Option.bind_some] at hb
        have h1 := hslot j want t v hg hj hb
        have hj' : (ops[j]?).bind (·.dst) = some t := by rw [<- Array.getElem?_toList]; exact hj
        unfold yielded
        rw [hj', Option.bind_some, h1]
        cases v <;> rfl
    split at hw
    · rename_i b' hb
      simp only [Option.some.injEq] at hw
      subst hw
      simp only [key _ hb]
      cases b' <;> cases want <;> rfl
    · rename_i b' hb
      simp only [Option.some.injEq] at hw
      subst hw
      simp only [key _ hb]
      cases want <;> rfl
    · cases hw
theorem Qf3        {P : Program} {T : Tab} (hT : TabOk P T) {F : Fence} (hF : Wd F) {n B N : Nat} (ops : Array Oper) {Q : Exit → Act → World → Prop} : ∀ (l : List Nat) (lo : List Oper) (a : Act) (w : World) (S : Nat → Prop) (L : List (Nat × Nat)) (s s' : Fr), l.map (ops[·]?) = lo.map some → Jiu    P T ops.toList lo s = some s' → RepF B N S L w a s →
    (∀ a' w' S' L', RepF B N S' L' w' a' s' -> Later B S S' L L' w w' -> Q .normal a' w') -> wpOpsIn F n P ops Q l a w := by
  intro l
  induction l with
  | nil =>
    intro lo a w S L s s' hl h hr hQ
    cases lo with
    | nil =>
      simp only [Jiu, Option.some.injEq] at h
      subst h
      exact hQ a w S L hr Later.refl
    | cons o r => cases hl
  | cons i rest ih =>
    intro lo a w S L s s' hl h hr hQ
    cases lo with
    | nil => cases hl
    | cons o r =>
      simp only [List.map_cons, List.cons.injEq] at hl
      obtain ⟨ho, hl⟩ := hl
      simp only [wpOpsIn, ho]
      simp only [Jiu] at h
      cases h1 : oneD P T ops.toList o s.1 s.2 with
      | none => rw [h1] at h; cases h
      | some d =>
        rw [h1, Option.bind_some] at h
        have hwant : ∀ b, Jjp ops.toList o s.1 = some b -> Region.wanted o (yielded ops a.tmps) = b := fun b hw => Ju3 hw fun j want t v _ _ hv => by
          obtain ⟨x, q1, q2⟩ := hr.tmps.get t _ hv
          simp only [Rep] at q2
          subst q2
          simpa using q1
        unfold oneD at h1
        split at h1
        · rename_i hw
          rw [hwant _ hw]
          simp only [if_true]
          obtain ⟨d, H'⟩ := d
          refine Jrx hT hF h1 (Jxw hr.tmps) hr.objs fun v w' S' L' h2 h3 h4 => ?_
          exact ih r _ _ S' L' _ _ hl h ⟨by rw [put_defers]; exact hr.defers.later h4, (h4.repA hr.tmps).put o.dst h2, h3⟩ fun a' w'' S'' L'' h5 h6 => hQ a' w'' S'' L'' h5 (h4.trans h6)
        · rename_i hw
          rw [hwant _ hw]
          simp only [Bool.false_eq_true, if_false]
          cases h1
          exact ⟨fun f _ => hF.fn f, ih r _ _ S L _ _ hl h ⟨by rw [put_defers]; exact hr.defers, hr.tmps.put o.dst (v := undef) (d := .v undef) (by simp only [Rep]), hr.objs⟩ hQ⟩
        · cases h1
theorem Qjc (ops : Array Oper) : (List.range ops.size).map (ops[·]?) = ops.toList.map some := by
  apply List.ext_getElem?
  intro i
  by_cases h : i < ops.size
  · simp [h]
  · simp [Nat.not_lt.1 h]
end Go.Proofs.YtinnbafplhcnpaaGreat
end
section
namespace Go.Proofs.YtinnbafplhcnpaaGreat
open Go.RowKit
set_option linter.unusedVariables false
set_option linter.unusedSimpArgs false
def Jbj : Op -> List Operand
  | .move x | .assign x | .load _ x | .box _ x | .field _ x _ | .fieldAddr _ x _ | .unOp _ _ x | .convert _ _ x | .extract x _ | .makeInterface _ x | .nilCheck x | .typeAssert x _ _ _ => [x]
  | .pick c a b => [c, a, b]
  | .indexAddr _ a b | .binOp _ _ a b _ | .store _ a b | .index _ a b | .lookup _ a b _ | .makeSlice _ a b => [a, b]
  | .mapUpdate _ a b c | .insert _ a b c => [a, b, c]
  | .slice _ x lo hi _ => x :: (lo.toList ++ hi.toList)
  | .build _ ps | .buildSlice _ _ ps => ps.toList.map (·.2)
  | .makeFunc _ a b => a.toList ++ b.toList
  | .call c => c.operands.toList
  | _ => []
theorem Qji (P : Program) (op : Op) (ρ σ : Operand -> D) (H : Heap) (h : ∀ x ∈ Jbj op, ρ x = σ x) : opH P op ρ H = opH P op σ H := by
  have hp : ∀ ps : Array (Nat × Operand), (∀ x ∈ ps.toList.map (·.2), ρ x = σ x) -> (ps.toList.map fun (i, x) => (i, ρ x)) = (ps.toList.map fun (i, x) => (i, σ x)) := by
    intro ps hh
    apply List.map_congr_left
    rintro ⟨i, x⟩ hx
    simp only
    rw [hh x (List.mem_map.2 ⟨_, hx, rfl⟩)]
  have hl : ∀ l : List Operand, (∀ x ∈ l, ρ x = σ x) -> l.map ρ = l.map σ := fun l hh => List.map_congr_left hh
  cases op with
  | slice t x lo hi mx =>
    cases mx with
    | some m => rfl
    | none =>
      have hx := h x (by simp [Jbj])
      have h1 : lo.map ρ = lo.map σ := by cases lo with
        | none => rfl
        | some y => simp [h y (by simp [Jbj])]
      have h2 : hi.map ρ = hi.map σ := by cases hi with
        | none => rfl
        | some y => simp [h y (by simp [Jbj])]
      simp only [opH, hx, h1, h2]
  | build t ps => simp only [opH, hp ps h]
  | buildSlice t n ps => simp only [opH, hp ps h]
  | binOp op t x y ty => simp only [opH, h x (by simp [Jbj]), h y (by simp [Jbj])]
  | unOp op t x =>
    have hx := h x (by simp [Jbj])
    cases op <;> simp only [opH, hx]
  | call c =>
    obtain ⟨callee, args, ats⟩ := c
    cases callee with
    | builtin b =>
      have ha : ∀ x ∈ args.toList, ρ x = σ x := fun x hx => h x (by simpa [Jbj, Call.operands] using hx)
      have hal := hl args.toList ha
      cases b with
      | len =>
        simp only [opH]
        split
        · rename_i x t r e1 e2
          rw [ha x (by simp [e1])]
        · rfl
      | append =>
        simp only [opH]
        split
        · rename_i x y t t' e1 e2
          rw [ha x (by simp [e1]), ha y (by simp [e1])]
        · rfl
      | copy =>
        simp only [opH]
        split
        · rename_i x y t r e1 e2
          rw [ha x (by simp [e1]), ha y (by simp [e1])]
        · rfl
      | clear =>
        simp only [opH]
        split
        · rename_i x t r e1 e2
          rw [ha x (by simp [e1])]
        · rfl
      | max => simp only [opH, hal]
      | min => simp only [opH, hal]
      | _ => rfl
    | _ => rfl
  | makeFunc f a b => simp only [opH, hl a.toList (fun x hx => h x (by simp [Jbj]; exact .inl (by simpa using hx))), hl b.toList (fun x hx => h x (by simp [Jbj]; exact .inr (by simpa using hx)))]
  | move x => simp only [opH, h x (by simp [Jbj])]
  | assign x => simp only [opH, h x (by simp [Jbj])]
  | load t x => simp only [opH, h x (by simp [Jbj])]
  | box t x => simp only [opH, h x (by simp [Jbj])]
  | store t x y => simp only [opH, h x (by simp [Jbj]), h y (by simp [Jbj])]
  | field t x f => simp only [opH, h x (by simp [Jbj])]
  | fieldAddr t x f => simp only [opH, h x (by simp [Jbj])]
  | convert s t x => simp only [opH, h x (by simp [Jbj])]
  | extract x i => simp only [opH, h x (by simp [Jbj])]
  | makeInterface t x => simp only [opH, h x (by simp [Jbj])]
  | nilCheck x => simp only [opH, h x (by simp [Jbj])]
  | pick c a b => simp only [opH, h c (by simp [Jbj]), h a (by simp [Jbj]), h b (by simp [Jbj])]
  | indexAddr t a b => simp only [opH, h a (by simp [Jbj]), h b (by simp [Jbj])]
  | makeSlice t a b => simp only [opH, h a (by simp [Jbj]), h b (by simp [Jbj])]
  | index t a b => simp only [opH, h a (by simp [Jbj]), h b (by simp [Jbj])]
  | lookup t a b ok => simp only [opH, h a (by simp [Jbj]), h b (by simp [Jbj])]
  | mapUpdate t a b c => simp only [opH, h a (by simp [Jbj]), h b (by simp [Jbj]), h c (by simp [Jbj])]
  | insert t a b c => simp only [opH, h a (by simp [Jbj]), h b (by simp [Jbj]), h c (by simp [Jbj])]
  | typeAssert x t u ok => simp only [opH, h x (by simp [Jbj])]
  | makeMap t r => cases r <;> rfl
  | _ => rfl
theorem Qbt (P : Program) (T : Tab) (op : Op) (ρ σ : Operand -> D) (H : Heap) (h : ∀ x ∈ Jbj op, ρ x = σ x) : stepD P T op ρ H = stepD P T op σ H := by
  unfold stepD
  split
  · rename_i f args ats
    rw [show args.toList.map ρ = args.toList.map σ from List.map_congr_left fun x hx => h x (by simp [Jbj, Call.operands]; exact .inr (by simpa using hx))]
  · rename_i t args ats
    rw [h (.tmp t) (by simp [Jbj, Call.operands]), show args.toList.map ρ = args.toList.map σ from List.map_congr_left fun x hx => h x (by simp [Jbj, Call.operands]; exact .inr (by simpa using hx))]
  · rename_i r name args ats
    rw [h r (by simp [Jbj, Call.operands]), show args.toList.map ρ = args.toList.map σ from List.map_congr_left fun x hx => h x (by simp [Jbj, Call.operands]; exact .inr (by simpa using hx))]
  · exact Qji P op ρ σ H h
def tmpOf : Operand -> Option Nat
  | .tmp t => some t
  | _ => none
def Jhg (ops : List Oper) (o : Oper) : List Nat :=
  (Jbj o.op).filterMap tmpOf ++ (match o.guard with | none => [] | some (j, _) => ((ops[j]?).bind (·.dst)).toList)
def Jdp : Op -> Bool
  | .load _ _ | .box _ _ | .alloc _ | .store _ _ _ | .buildSlice _ _ _ | .makeSlice _ _ _ | .convert _ _ _ | .makeMap _ _ | .mapUpdate _ _ _ _ | .insert _ _ _ _ | .lookup _ _ _ _ => true
  | .call { callee := .builtin .len, .. } | .call { callee := .builtin .max, .. } | .call { callee := .builtin .min, .. } => false
  | .call _ => true
  | _ => false
def Jbe (T : Tab) : Op -> Bool
  | .box _ _ | .alloc _ | .store _ _ _ | .buildSlice _ _ _ | .makeSlice _ _ _ | .makeMap _ _ | .mapUpdate _ _ _ _ | .insert _ _ _ _ => true
  | .call { callee := .value (.func f), .. } => !Jzy T f
  | .call { callee := .builtin .len, .. } | .call { callee := .builtin .max, .. } | .call { callee := .builtin .min, .. } => false
  | .call _ => true
  | _ => false
def Jkg : Op -> Bool
  | .box _ _ | .alloc _ | .buildSlice _ _ _ | .makeSlice _ _ _ | .makeMap _ _ => true
  | _ => false
def Jio (ops : List Oper) (x y : Oper) : Bool :=
  (match x.dst with | some t => (Jhg ops y).contains t || y.dst == some t | none => false) ||
  (match y.dst with | some t => (Jhg ops x).contains t | none => false)
def Ji1 (T : Tab) (x y : Oper) : Bool := (Jbe T x.op && Jdp y.op) || (Jdp x.op && Jbe T y.op && (Jbe T x.op || !Jkg y.op))
def idD : D -> Option Nat
  | .hp id _ | .hs id _ | .ht id _ _ | .mp id => some id
  | _ => none
def apartB (a b : D) : Bool := match idD a, idD b with | some i, some j => !Nat.beq i j | _, _ => true
def Jym (a : D) : Bool := match idD a with | none => true | some _ => false
def eqV : Value -> Value -> Bool
  | .bool a, .bool b => a == b
  | .int k a, .int k' b => decide (k = k') && decide (a = b)
  | .string a, .string b => decide (a.data.toList = b.data.toList)
  | .slice none a b, .slice none c d => Nat.beq a c && Nat.beq b d
  | .pointer none, .pointer none => true
  | .map none, .map none => true
  | .nilFunc, .nilFunc => true
  | .nilIface, .nilIface => true
  | _, _ => false
theorem eqV_eq {a b : Value} (h : eqV a b = true) : a = b := by
  unfold eqV at h
  split at h
  · simpa using h
  · simp at h; rw [h.1, h.2]
  · rename_i a b
    have := of_decide_eq_true h
    congr 1
    apply ByteArray.ext
    apply Array.ext'
    exact this
  · simp only [Bool.and_eq_true] at h
    rw [Nat.eq_of_beq_eq_true h.1, Nat.eq_of_beq_eq_true h.2]
  · rfl
  · rfl
  · rfl
  · rfl
  · cases h
mutual
def eqB : D -> D -> Bool
  | .v a, .v b => eqV a b
  | .sl s l, .sl s' l' => Nat.beq s s' && eqR l l'
  | .ptr a, .ptr b => eqL a b
  | .agg a, .agg b => eqL a b
  | .tup a, .tup b => eqL a b
  | .hp i o, .hp j p => Nat.beq i j && Nat.beq o p
  | .hs i o, .hs j p => Nat.beq i j && Nat.beq o p
  | .ht i o n, .ht j p m => Nat.beq i j && Nat.beq o p && Nat.beq n m
  | .ifc t d, .ifc u e => Nat.beq t u && eqB d e
  | .clo f a b, .clo g c d => decide (f = g) && eqL a c && eqL b d
  | .mp i, .mp j => Nat.beq i j
  | _, _ => false
def eqL : List D -> List D -> Bool
  | [], [] => true
  | a :: r, b :: s => eqB a b && eqL r s
  | _, _ => false
def eqR : List (List D) -> List (List D) -> Bool
  | [], [] => true
  | a :: r, b :: s => eqL a b && eqR r s
  | _, _ => false
end
mutual
theorem Jvv : ∀ (a b : D), eqB a b = true -> a = b
  | .v a, b, h => by
    cases b <;> first | (simp only [eqB] at h; rw [eqV_eq h]) | (simp [eqB] at h; done)
  | .sl s l, b, h => by
    cases b <;> first | (simp only [eqB, Bool.and_eq_true] at h; rw [Nat.eq_of_beq_eq_true h.1, Qqh _ _ h.2]) | (simp [eqB] at h; done)
  | .ptr l, b, h => by
    cases b <;> first | (simp only [eqB] at h; rw [Jpj _ _ h]) | (simp [eqB] at h; done)
  | .agg l, b, h => by
    cases b <;> first | (simp only [eqB] at h; rw [Jpj _ _ h]) | (simp [eqB] at h; done)
  | .tup l, b, h => by
    cases b <;> first | (simp only [eqB] at h; rw [Jpj _ _ h]) | (simp [eqB] at h; done)
  | .hp i o, b, h => by
    cases b <;> first | (simp only [eqB, Bool.and_eq_true] at h; rw [Nat.eq_of_beq_eq_true h.1, Nat.eq_of_beq_eq_true h.2]) | (simp [eqB] at h; done)
  | .hs i o, b, h => by
    cases b <;> first | (simp only [eqB, Bool.and_eq_true] at h; rw [Nat.eq_of_beq_eq_true h.1, Nat.eq_of_beq_eq_true h.2]) | (simp [eqB] at h; done)
  | .ht i o n, b, h => by
    cases b <;> first | (simp only [eqB, Bool.and_eq_true] at h; rw [Nat.eq_of_beq_eq_true h.1.1, Nat.eq_of_beq_eq_true h.1.2, Nat.eq_of_beq_eq_true h.2]) | (simp [eqB] at h; done)
  | .ifc t d, b, h => by
    cases b <;> first | (simp only [eqB, Bool.and_eq_true] at h; rw [Nat.eq_of_beq_eq_true h.1, Jvv _ _ h.2]) | (simp [eqB] at h; done)
  | .clo f a c, b, h => by
    cases b <;> first | (simp only [eqB, Bool.and_eq_true] at h; rw [of_decide_eq_true h.1.1, Jpj _ _ h.1.2, Jpj _ _ h.2]) | (simp [eqB] at h; done)
  | .mp i, b, h => by
    cases b <;> first | (simp only [eqB] at h; rw [Nat.eq_of_beq_eq_true h]) | (simp [eqB] at h; done)
  | .undef, b, h => by cases b <;> (simp [eqB] at h; done)
  | .mv ks vs, b, h => by cases b <;> (simp [eqB] at h; done)
  | .yld i, b, h => by cases b <;> (simp [eqB] at h; done)
theorem Jpj : ∀ (a b : List D), eqL a b = true -> a = b
  | [], b, h => by cases b with
    | nil => rfl
    | cons => simp [eqL] at h
  | a :: r, b, h => by cases b with
    | nil => simp [eqL] at h
    | cons c s => simp only [eqL, Bool.and_eq_true] at h; rw [Jvv _ _ h.1, Jpj _ _ h.2]
theorem Qqh : ∀ (a b : List (List D)), eqR a b = true -> a = b
  | [], b, h => by cases b with
    | nil => rfl
    | cons => simp [eqR] at h
  | a :: r, b, h => by cases b with
    | nil => simp [eqR] at h
    | cons c s => simp only [eqR, Bool.and_eq_true] at h; rw [Jpj _ _ h.1, Qqh _ _ h.2]
end
def Qgd (i : Nat) (H H' : Heap) : Bool :=
  match H[i]?, H'[i]? with
  | some (.cells t sz cs), some (.cells t' sz' cs') => Nat.beq t t' && Nat.beq sz sz' && eqL cs cs'
  | _, _ => false
theorem Qnb {i : Nat} {H H' : Heap} (h : Qgd i H H' = true) : H'[i]? = H[i]? /\ i < H'.length := by
  unfold Qgd at h
  split at h
  · rename_i t sz cs t' sz' cs' h1 h2
    simp only [Bool.and_eq_true] at h
    rw [h1, h2, Nat.eq_of_beq_eq_true h.1.1, Nat.eq_of_beq_eq_true h.1.2, Jpj _ _ h.2]
    exact ⟨rfl, (List.getElem?_eq_some_iff.1 h2).1⟩
  · cases h
inductive Gd where
  | apart (a b : Operand)
  | whole (a : Operand)
  | pure (as' : List Operand)
  | same (a : Operand) (j : Nat)
def Gd.holds (ρ : Operand -> D) (hs : List Heap) : Gd -> Bool
  | .apart a b => apartB (ρ a) (ρ b)
  | .whole a => Jym (ρ a)
  | .pure as' => Jfi (as'.map ρ)
  | .same a j =>
    match hs[j]?, hs[j + 1]? with
    | some H, some H' => match idD (ρ a) with | none => true | some i => Qgd i H H'
    | _, _ => false
def Jjq : Op -> Option (List Operand)
  | .store _ a _ => some [a]
  | .call { callee := .builtin .append, args, .. } => match args.toList with | s :: _ => some [s] | _ => none
  | op => if Jkg op then some [] else none
def stable (ops : List Oper) (k : Nat) : Operand -> Bool
  | .tmp t => (ops.drop k).all fun o => o.dst != some t
  | _ => true
def Jk9 (T : Tab) (ops : List Oper) (r : Oper) (i : Nat) (w : Oper) (m : Nat) : Option (List Gd) :=
  match r.op with
  | .load _ a => match Jjq w.op with | some ts => if stable ops i a && ts.all (stable ops m) then some (ts.map (.apart a)) else none | none => if stable ops i a then some [.same a m] else none
  | .convert _ _ a => if stable ops i a then some [.whole a] else none
  | .call { callee := .value (.func f), args, .. } => if Jzy T f && args.toList.all (stable ops i) then some [.pure args.toList] else none
  | _ => none
def Jvu (T : Tab) (ops : List Oper) (x : Oper) (i : Nat) (y : Oper) (j : Nat) : Option (List Gd) :=
  if !Jbe T x.op && Jbe T y.op then Jk9 T ops x i y j else if Jbe T x.op && !Jbe T y.op then Jk9 T ops y j x i else none
def ancOf (acc : List Nat) (o : Oper) : Nat :=
  o.after.toList.foldl (fun m e => if Region.binds .any e then m ||| (1 <<< e.on) ||| acc.getD e.on 0 else m) 0
def ancs : List Oper -> List Nat -> List Nat
  | [], acc => acc
  | o :: r, acc => ancs r (acc ++ [ancOf acc o])
def ordB (ops : List Oper) (i j : Nat) : Bool := ((ancs ops []).getD j 0).testBit i
def Qfn (T : Tab) (ops : List Oper) : Bool :=
  (ops.zipIdx.all fun x => x.1.after.all fun e => decide (e.on < x.2) || !Region.binds .any e) &&
  (ops.zipIdx.all fun (y, j) => (ops.take j).zipIdx.all fun (x, i) => ordB ops i j || (!Jio ops x y && (!Ji1 T x y || (Jvu T ops x i y j).isSome)))
def Jr5 (T : Tab) (ops : List Oper) : List Gd :=
  (ops.zipIdx.map fun (y, j) => ((ops.take j).zipIdx.map fun (x, i) => if !Ji1 T x y || ordB ops i j then [] else (Jvu T ops x i y j).getD []).flatten).flatten
def Shut (ops : List Oper) (d : Nat -> Bool) : Prop := ∀ i o, ops[i]? = some o -> d i = true -> ∀ e ∈ o.after, Region.binds .any e = true -> d e.on = true
theorem Qs5     (all : List Oper) (d : Nat → Bool) (hs : Shut all d) : ∀ (ops : List Oper) (acc : List Nat) (pre : List Oper), all = pre ++ ops → acc.length = pre.length →
    (∀ k m, acc[k]? = some m -> ∀ j, m.testBit j = true -> d k = true -> d j = true) -> ∀ k m, (ancs ops acc)[k]? = some m -> ∀ j, m.testBit j = true -> d k = true -> d j = true := by
  intro ops
  induction ops with
  | nil => intro acc pre _ _ h; exact h
  | cons o r ih =>
    intro acc pre hall hlen h
    refine ih (acc ++ [ancOf acc o]) (pre ++ [o]) (by simp [hall]) (by simp [hlen]) fun k m hk j hj hd => ?_
    by_cases hlt : k < acc.length
    · rw [List.getElem?_append_left hlt] at hk
      exact h k m hk j hj hd
    · rw [List.getElem?_append_right (by omega)] at hk
      have hk0 : k = acc.length := by
        by_cases e : k - acc.length = 0
        · omega
        · obtain ⟨n, hn⟩ : ∃ n, k - acc.length = n + 1 := ⟨k - acc.length - 1, by omega⟩
          rw [hn] at hk; simp at hk
      subst hk0
      simp only [Nat.sub_self, List.getElem?_cons_zero, Option.some.injEq] at hk
      subst hk
      have ho : all[acc.length]? = some o := by rw [hall, hlen]; simp
      have hafter := hs _ o ho hd
      have key : ∀ (es : List Edge) (m : Nat), (∀ e ∈ es, Region.binds .any e = true → d e.on = true) → (m.testBit j = true → d j = true) →
          (es.foldl (fun m e => if Region.binds .any e then m ||| (1 <<< e.on) ||| acc.getD e.on 0 else m) m).testBit j = true -> d j = true := by
        intro es
        induction es with
        | nil => intro m _ hm hq; exact hm hq
        | cons e t ihe =>
          intro m he hm hq
          rw [List.foldl_cons] at hq
          refine ihe _ (fun x hx => he x (by simp [hx])) ?_ hq
          intro hb
          split at hb
          · rename_i hbi
            have hde := he e (by simp) hbi
            simp only [Nat.testBit_or, Bool.or_eq_true] at hb
            rcases hb with (hb | hb) | hb
            · exact hm hb
            · rw [Nat.testBit_shiftLeft] at hb
              simp only [Bool.and_eq_true, decide_eq_true_eq] at hb
              have h1 : j - e.on = 0 := Nat.testBit_one_eq_true_iff_self_eq_zero.1 hb.2
              have : j = e.on := by omega
              rw [this]; exact hde
            · cases hg : acc[e.on]? with
              | none => rw [List.getD_eq_getElem?_getD, hg] at hb; simp at hb
              | some m' =>
                rw [List.getD_eq_getElem?_getD, hg] at hb
                exact h e.on m' hg j (by simpa using hb) hde
          · exact hm hb
      exact key o.after.toList 0 (fun e he => hafter e (by simpa using he)) (by simp) hj
theorem Jc2 {H : Heap} {o : Option D} {d : D} {H' : Heap} (h : same H o = some (d, H')) : H' = H /\ ∀ H2, same H2 o = some (d, H2) := by
  unfold same at h ⊢
  cases o with
  | none => cases h
  | some e =>
    simp only [Option.map_some, Option.some.injEq, Prod.mk.injEq] at h
    exact ⟨h.2.symm, fun H2 => by simp [h.1]⟩
theorem Qjh {P : Program} {op : Op} {ρ : Operand -> D} {H H' : Heap} {d : D} (hq : Jdp op = false) (h : opH P op ρ H = some (d, H')) : H' = H /\ ∀ H2, opH P op ρ H2 = some (d, H2) := by
  have bindS : ∀ {α : Type} {o : Option α} {f : α -> Heap -> Option (D × Heap)}, (∀ a H H' d, f a H = some (d, H') -> H' = H /\ ∀ H2, f a H2 = some (d, H2)) -> (o.bind fun a => f a H) = some (d, H') -> H' = H /\ ∀ H2, (o.bind fun a => f a H2) = some (d, H2) := by
    intro α o f hf hb
    cases o with
    | none => cases hb
    | some a => exact hf a H H' d hb
  cases op with
  | load => simp [Jdp] at hq
  | box => simp [Jdp] at hq
  | alloc => simp [Jdp] at hq
  | store => simp [Jdp] at hq
  | buildSlice => simp [Jdp] at hq
  | makeSlice => simp [Jdp] at hq
  | convert => simp [Jdp] at hq
  | makeMap => simp [Jdp] at hq
  | mapUpdate => simp [Jdp] at hq
  | insert => simp [Jdp] at hq
  | lookup => simp [Jdp] at hq
  | move x => simp only [opH, Option.some.injEq, Prod.mk.injEq] at h ⊢; exact ⟨h.2.symm, fun H2 => ⟨h.1, trivial⟩⟩
  | assign x => simp only [opH, Option.some.injEq, Prod.mk.injEq] at h ⊢; exact ⟨h.2.symm, fun H2 => ⟨h.1, trivial⟩⟩
  | pick c a b => simp only [opH] at h ⊢; exact Jc2 h
  | field t x f => simp only [opH] at h ⊢; exact bindS (f := fun (uo : TypeId × Nat) H => (shapeOf P uo.1).bind fun s => same H (Jln    s uo.2 (ρ x))) (fun a H H' d h => by
      cases hs : shapeOf P a.1 with
      | none => rw [hs] at h; cases h
      | some s => rw [hs] at h; simp only [Option.bind_some] at h ⊢; exact Jc2      h) h
  | fieldAddr t x f => simp only [opH] at h ⊢; exact bindS (f := fun (uo : TypeId × Nat) H => (P.info? uo.1).bind fun i => if i.size = 0 then none else same H (Jaa      uo.2 (ρ x))) (fun a H H' d h => by
      cases hs : P.info? a.1 with
      | none => rw [hs] at h; cases h
      | some s =>
        rw [hs] at h
        simp only [Option.bind_some] at h ⊢
        split at h
        · cases h
        · rename_i hz
          simp only [if_neg hz]
          exact Jc2      h) h
  | indexAddr t x i =>
    simp only [opH] at h ⊢
    cases ha : arrD P t with
    | some a => rw [ha] at h; exact Jc2 h
    | none => rw [ha] at h; exact bindS (f := fun sz H => same H (idxH sz (ρ x) (ρ i))) (fun a H H' d h => Jc2 h) h
  | slice t x lo hi mx =>
    cases mx with
    | some m => cases h
    | none =>
      simp only [opH] at h ⊢
      split at h
      · exact Jc2 h
      · exact bindS (f := fun sz H => same H (cutH sz (ρ x) (lo.map ρ) (hi.map ρ))) (fun a H H' d h => Jc2 h) h
  | build t ps => simp only [opH] at h ⊢; exact Jc2 h
  | binOp op t x y ty => simp only [opH] at h ⊢; exact Jc2 h
  | unOp op t x => cases op <;> first | (cases h; done) | (simp only [opH] at h ⊢; exact Jc2 h)
  | index t x i =>
    simp only [opH] at h ⊢
    split at h
    · exact Jc2 h
    · cases h
  | typeAssert x t u ok =>
    simp only [opH] at h ⊢
    split at h
    · rename_i hc
      simp only [if_pos hc]
      exact bindS (f := fun z H => same H (Jgo u z ok (ρ x))) (fun a H H' d h => Jc2 h) h
    · cases h
  | extract t i => simp only [opH] at h ⊢; exact Jc2 h
  | makeInterface t x =>
    simp only [opH] at h ⊢
    split at h
    · cases h
    · cases h
    · cases h
      exact ⟨rfl, fun H2 => rfl⟩
  | makeFunc f a b =>
    simp only [opH] at h ⊢
    cases h
    exact ⟨rfl, fun H2 => rfl⟩
  | nilCheck x =>
    simp only [opH] at h ⊢
    split at h
    · cases h; exact ⟨rfl, fun H2 => rfl⟩
    · cases h; exact ⟨rfl, fun H2 => rfl⟩
    · cases h
  | call c =>
    obtain ⟨callee, args, ats⟩ := c
    cases callee with
    | builtin b =>
      cases b with
      | len =>
        simp only [opH] at h ⊢
        split at h
        · exact Jc2 h
        · cases h
      | max => simp only [opH] at h ⊢; exact Jc2 h
      | min => simp only [opH] at h ⊢; exact Jc2 h
      | _ => simp [Jdp] at hq
    | _ => simp [Jdp] at hq
  | _ => cases h
theorem Jod {P : Program} {T : Tab} {op : Op} {ρ : Operand -> D} {H H' : Heap} {d : D} (hq : Jdp op = false) (h : stepD P T op ρ H = some (d, H')) : H' = H /\ ∀ H2, stepD P T op ρ H2 = some (d, H2) := by
  have hop : ∀ H, stepD P T op ρ H = opH P op ρ H := by
    intro H
    unfold stepD
    split
    · simp [Jdp] at hq
    · simp [Jdp] at hq
    · simp [Jdp] at hq
    · rfl
  rw [hop] at h
  have := Qjh hq h
  exact ⟨this.1, fun H2 => by rw [hop]; exact this.2 H2⟩
theorem Jp8 {P : Program} {T : Tab} (hT : TabOk P T) {op : Op} {ρ : Operand -> D} {H H' : Heap} {d : D} (hq : Jbe T op = false) (h : stepD P T op ρ H = some (d, H')) : H' = H := by
  by_cases hr : Jdp op = false
  · exact (Jod hr h).1
  · unfold stepD at h
    split at h
    · rename_i f args ats
      obtain ⟨G, _, _, hc⟩ := look_ok hT h
      exact (hc (by simpa [Jbe] using hq)).1
    · simp [Jbe] at hq
    · simp [Jbe] at hq
    · cases op with
      | load t a =>
        simp only [opH] at h
        obtain ⟨s, _, h⟩ := Option.bind_eq_some_iff.1 h
        exact (Jc2 h).1
      | box => simp [Jbe] at hq
      | alloc => simp [Jbe] at hq
      | store => simp [Jbe] at hq
      | buildSlice => simp [Jbe] at hq
      | makeSlice => simp [Jbe] at hq
      | makeMap => simp [Jbe] at hq
      | mapUpdate => simp [Jbe] at hq
      | insert => simp [Jbe] at hq
      | convert s t x =>
        simp only [opH] at h
        split at h
        · exact (Jc2 h).1
        · split at h
          · exact (Jc2 h).1
          · cases h
        · exact (Jc2 h).1
        · cases h
      | lookup t m k ok =>
        simp only [opH] at h
        obtain ⟨e, _, h⟩ := Option.bind_eq_some_iff.1 h
        obtain ⟨z, _, h⟩ := Option.bind_eq_some_iff.1 h
        exact (Jc2 h).1
      | call c =>
        obtain ⟨callee, args, ats⟩ := c
        cases callee with
        | builtin b => cases b <;> first | (simp [Jdp] at hr; done) | (simp [Jbe] at hq; done)
        | value f => cases f <;> first | (simp [Jbe] at hq; done) | (cases h; done)
        | invoke => simp [Jbe] at hq
      | _ => simp [Jdp] at hr
theorem Jit {H H' : Heap} {o : Option D} {d : D} (h : same H o = some (d, H')) : o = some d := by
  unfold same at h
  cases o with
  | none => cases h
  | some e => simp only [Option.map_some, Option.some.injEq, Prod.mk.injEq] at h; rw [h.1]
theorem Qjw {s : Option Nat} {H t : Heap} {x d : D} (h : Jad s H x = some d) : Jad s (H ++ t) x = some d := by
  unfold Jad at h ⊢
  split at h
  · rename_i id off
    split at h
    · rename_i t' sz cs hid
      rw [Jhs hid]; exact h
    · cases h
  · exact h
theorem Qm3 {sz : Nat} {H t : Heap} {x : D} {cs : List D} (h : srcH sz H x = some cs) : srcH sz (H ++ t) x = some cs := by
  unfold srcH at h ⊢
  split at h
  · split at h
    · rename_i t' s cs' hid
      rw [Jhs hid]; exact h
    · cases h
  · split at h
    · rename_i t' s cs' hid
      rw [Jhs hid]; exact h
    · cases h
  · exact h
theorem Qhd {H t : Heap} {x : D} {r : List Int × List D} (h : mapOf H x = some r) : mapOf (H ++ t) x = some r := by
  unfold mapOf at h ⊢
  split at h
  · split at h
    · rename_i ks vs hid
      rw [Jhs hid]; exact h
    · cases h
  · exact h
  · exact h
  · cases h
theorem Qf8 {P : Program} {T : Tab} (hT : TabOk P T) {op : Op} {ρ : Operand -> D} {H H' : Heap} {d : D} (hq : Jbe T op = false) (h : stepD P T op ρ H = some (d, H')) (t : Heap) : stepD P T op ρ (H ++ t) = some (d, H ++ t) := by
  by_cases hr : Jdp op = false
  · exact (Jod hr h).2 _
  · unfold stepD at h ⊢
    split at h
    · rename_i f args ats
      obtain ⟨G, _, _, hc⟩ := look_ok hT h
      exact (hc (by simpa [Jbe] using hq)).2.1 t
    · simp [Jbe] at hq
    · simp [Jbe] at hq
    · cases op with
      | load ty a =>
        simp only [opH] at h ⊢
        obtain ⟨s, hs, h⟩ := Option.bind_eq_some_iff.1 h
        have := Qjw (t := t) (Jit h)
        simp only [hs, Option.bind_some, same, this, Option.map_some]
      | box => simp [Jbe] at hq
      | alloc => simp [Jbe] at hq
      | store => simp [Jbe] at hq
      | buildSlice => simp [Jbe] at hq
      | makeSlice => simp [Jbe] at hq
      | makeMap => simp [Jbe] at hq
      | mapUpdate => simp [Jbe] at hq
      | insert => simp [Jbe] at hq
      | convert s ty x =>
        simp only [opH] at h ⊢
        split at h
        · rename_i h1 h2
          have := Jit h
          simp only [same, this, Option.map_some]
        · rename_i e h1 h2
          split at h
          · rename_i h3
            have hb := Jit h
            unfold Jn5 at hb
            obtain ⟨cs, h4, h5⟩ := Option.bind_eq_some_iff.1 hb
            have : Jn5 (H ++ t) (ρ x) = some d := by unfold Jn5; rw [Qm3 h4]; exact h5
            simp only [same, this, Option.map_some]
          · cases h
        · have := Jit h
          simp only [same, this, Option.map_some]
        · cases h
      | lookup ty m k ok =>
        simp only [opH] at h ⊢
        obtain ⟨e, he, h⟩ := Option.bind_eq_some_iff.1 h
        obtain ⟨z, hz, h⟩ := Option.bind_eq_some_iff.1 h
        have hl := Jit h
        unfold Juw at hl
        obtain ⟨kv, h1, hl⟩ := Option.bind_eq_some_iff.1 hl
        have : Juw z ok (H ++ t) (ρ m) (ρ k) = some d := by unfold Juw; rw [Qhd h1]; exact hl
        simp only [he, hz, Option.bind_some, same, this, Option.map_some]
      | call c =>
        obtain ⟨callee, args, ats⟩ := c
        cases callee with
        | builtin b => cases b <;> first | (simp [Jdp] at hr; done) | (simp [Jbe] at hq; done)
        | value f => cases f <;> first | (simp [Jbe] at hq; done) | (cases h; done)
        | invoke => simp [Jbe] at hq
      | _ => simp [Jdp] at hr
theorem Qbu {P : Program} {T : Tab} {op : Op} {ρ : Operand -> D} {H H' : Heap} {d : D} (hq : Jkg op = true) (h : stepD P T op ρ H = some (d, H')) : ∃ t, H' = H ++ t := by
  have new : ∀ {ty : TypeId} {sz : Nat} {cs : List D} {f : Nat × Heap -> D × Heap}, (∀ r, (f r).2 = r.2) -> (newH ty sz cs H).map f = some (d, H') -> ∃ t, H' = H ++ t := by
    intro ty sz cs f hf h
    unfold newH at h
    split at h
    · simp only [Option.map_some, Option.some.injEq] at h
      have := hf (H.length, H ++ [.cells ty sz cs])
      rw [h] at this
      exact ⟨_, this⟩
    · cases h
  cases op with
  | box t x =>
    simp only [stepD, opH, boxH] at h
    obtain ⟨cs, _, h⟩ := Option.bind_eq_some_iff.1 h
    exact new (fun _ => rfl) h
  | alloc t =>
    simp only [stepD, opH, Jaz] at h
    obtain ⟨cs, _, h⟩ := Option.bind_eq_some_iff.1 h
    exact new (fun _ => rfl) h
  | buildSlice t n ps =>
    simp only [stepD, opH, rowH] at h
    obtain ⟨r, _, h⟩ := Option.bind_eq_some_iff.1 h
    obtain ⟨dr, _, h⟩ := Option.bind_eq_some_iff.1 h
    obtain ⟨els, _, h⟩ := Option.bind_eq_some_iff.1 h
    exact new (fun _ => rfl) h
  | makeSlice t n m =>
    simp only [stepD, opH, Jzm] at h
    obtain ⟨z, _, h⟩ := Option.bind_eq_some_iff.1 h
    split at h
    · split at h
      · exact new (fun _ => rfl) h
      · cases h
    · cases h
  | makeMap t r =>
    cases r with
    | none =>
      simp only [stepD, opH] at h
      split at h
      · unfold newM at h
        simp only [Option.some.injEq, Prod.mk.injEq] at h
        exact ⟨_, h.2.symm⟩
      · cases h
    | some r => cases h
  | _ => simp [Jkg] at hq
theorem Qbz {H H' H2 : Heap} {o : Option D} {d : D} (h : same H o = some (d, H')) : same H2 o = some (d, H2) := by
  have := Jit h
  subst this; rfl
theorem Qm6 {sz : Nat} {H H2 : Heap} {x : D} (hx : idD x = none) : srcH sz H2 x = srcH sz H x := by
  cases x <;> first | rfl | (simp [idD] at hx; done)
theorem Qk4 {P : Program} {T : Tab} {s t : TypeId} {a : Operand} {ρ : Operand -> D} {H H' : Heap} {d : D} (hx : Jym (ρ a) = true) (h : stepD P T (.convert s t a) ρ H = some (d, H')) (H2 : Heap) : stepD P T (.convert s t a) ρ H2 = some (d, H2) := by
  have hid : idD (ρ a) = none := by
    unfold Jym at hx
    split at hx
    · assumption
    · cases hx
  simp only [stepD, opH] at h ⊢
  split at h
  · exact Qbz h
  · split at h
    · have hb : Jn5 H2 (ρ a) = Jn5 H (ρ a) := by unfold Jn5; rw [Qm6 hid]
      rw [hb]
      exact Qbz h
    · cases h
  · exact Qbz h
  · cases h
theorem Qlc       {P : Program} {T : Tab} (hT : TabOk P T) {f : FuncId} {args : Array Operand} {ats : Array TypeId} {ρ : Operand → D} {H H' : Heap} {d : D} (hc : Jzy    T f = true) (hx : Jfi   (args.toList.map ρ) = true) (h : stepD P T (.call { callee := .value (.func f), args := args, argTypes := ats }) ρ H = some (d, H')) (H2 : Heap) :
    stepD P T (.call { callee := .value (.func f), args := args, argTypes := ats }) ρ H2 = some (d, H2) := by
  simp only [stepD] at h ⊢
  obtain ⟨G, _, _, hcc⟩ := look_ok hT h
  exact (hcc hc).2.2 hx H2
theorem Qrr {s : Option Nat} {H H' : Heap} {x : D} (h : ∀ id off, x = .hp id off -> H'[id]? = H[id]?) : Jad s H' x = Jad s H x := by
  cases x with
  | hp id off => simp only [Jad, h id off rfl]
  | _ => rfl
theorem Qrq {s : Option Nat} {H : Heap} {x d : D} (h : Jad s H x = some d) : ∀ id off, x = .hp id off -> id < H.length := by
  rintro id off rfl
  simp only [Jad] at h
  split at h
  · rename_i h1; exact (List.getElem?_eq_some_iff.1 h1).1
  · cases h
theorem Qg9 {ty : TypeId} {sz : Nat} {cs : List D} {H : Heap} {r : Nat × Heap} (h : newH ty sz cs H = some r) {id : Nat} (hid : id < H.length) : r.2[id]? = H[id]? /\ H.length <= r.2.length := by
  unfold newH at h
  split at h
  · cases h
    exact ⟨by rw [List.getElem?_append_left hid], by simp⟩
  · cases h
theorem Jv7 {e : TypeId} {sz : Nat} {s : D} {new : List D} {H H' : Heap} {d : D} {id : Nat} (hid : id < H.length) (hs : idD s ≠ some id) (h : appH e sz s new H = some (d, H')) : H'[id]? = H[id]? /\ H.length <= H'.length := by
  unfold appH at h
  split at h
  · cases h
  · split at h
    · split at h
      · cases h; exact ⟨rfl, Nat.le_refl _⟩
      · split at h
        · cases h
          exact ⟨by rw [List.getElem?_append_left hid], by simp⟩
        · cases h
    · rename_i id0 k0
      have h0 : id0 ≠ id := fun e => hs (by simp [idD, e])
      split at h
      · split at h
        · cases h
          exact ⟨by rw [List.getElem?_append_left (by rw [List.length_set]; exact hid), List.getElem?_set_ne h0], by simp⟩
        · cases h
      · cases h
    · cases h
theorem Qbn {P : Program} {T : Tab} {op : Op} {ρ : Operand -> D} {H H' : Heap} {d : D} {ts : List Operand} {id : Nat} (hid : id < H.length) (hw : Jjq op = some ts) (hb : ∀ b ∈ ts, idD (ρ b) ≠ some id) (h : stepD P T op ρ H = some (d, H')) : H'[id]? = H[id]? /\ H.length <= H'.length := by
  have new : ∀ {ty : TypeId} {sz : Nat} {cs : List D} {f : Nat × Heap -> D × Heap}, (∀ r, (f r).2 = r.2) -> (newH ty sz cs H).map f = some (d, H') -> H'[id]? = H[id]? /\ H.length <= H'.length := by
    intro ty sz cs f hf h
    obtain ⟨r, hr, e⟩ := Option.map_eq_some_iff.1 h
    have e2 := hf r
    rw [e] at e2
    simp only at e2
    rw [e2]
    exact Qg9 hr hid
  cases op with
  | store t a x =>
    simp only [Jjq, Option.some.injEq] at hw
    subst hw
    have hb' := hb a (by simp)
    simp only [stepD, opH] at h
    obtain ⟨i, _, h⟩ := Option.bind_eq_some_iff.1 h
    unfold setH at h
    obtain ⟨H3, h3, e⟩ := Option.map_eq_some_iff.1 h
    cases e
    unfold Jhz at h3
    split at h3
    · rename_i id0 off ds hx hds
      rw [hx] at hb'
      have h0 : id0 ≠ id := fun e => hb' (by simp [idD, e])
      split at h3
      · split at h3
        · cases h3
          exact ⟨by rw [List.getElem?_set_ne h0], by simp⟩
        · cases h3
      · cases h3
    · cases h3
  | box t x =>
    simp only [stepD, opH, boxH] at h
    obtain ⟨cs, _, h⟩ := Option.bind_eq_some_iff.1 h
    exact new (fun _ => rfl) h
  | alloc t =>
    simp only [stepD, opH, Jaz] at h
    obtain ⟨cs, _, h⟩ := Option.bind_eq_some_iff.1 h
    exact new (fun _ => rfl) h
  | buildSlice t k ps =>
    simp only [stepD, opH, rowH] at h
    obtain ⟨r, _, h⟩ := Option.bind_eq_some_iff.1 h
    obtain ⟨dr, _, h⟩ := Option.bind_eq_some_iff.1 h
    obtain ⟨els, _, h⟩ := Option.bind_eq_some_iff.1 h
    exact new (fun _ => rfl) h
  | makeSlice t k m =>
    simp only [stepD, opH, Jzm] at h
    obtain ⟨z, _, h⟩ := Option.bind_eq_some_iff.1 h
    split at h
    · split at h
      · exact new (fun _ => rfl) h
      · cases h
    · cases h
  | makeMap t r =>
    cases r with
    | none =>
      simp only [stepD, opH] at h
      split at h
      · unfold newM at h
        simp only [Option.some.injEq, Prod.mk.injEq] at h
        obtain ⟨rfl, rfl⟩ := h
        exact ⟨by rw [List.getElem?_append_left hid], by simp⟩
      · cases h
    | some r => cases h
  | call c =>
    obtain ⟨callee, args, ats⟩ := c
    cases callee with
    | builtin b =>
      cases b with
      | append =>
        simp only [Jjq] at hw
        simp only [stepD, opH] at h
        split at h
        · rename_i s x t t' ha hat
          rw [ha] at hw
          simp only [Option.some.injEq] at hw
          subst hw
          have hs := hb s (by simp)
          split at h
          · obtain ⟨es, _, h⟩ := Option.bind_eq_some_iff.1 h
            unfold Jd3 at h
            obtain ⟨new, _, h⟩ := Option.bind_eq_some_iff.1 h
            exact Jv7 hid hs h
          · split at h
            · obtain ⟨es, _, h⟩ := Option.bind_eq_some_iff.1 h
              unfold Jye at h
              split at h
              · split at h
                · exact Jv7 hid hs h
                · cases h
              · cases h
            · cases h
        · cases h
      | _ => simp [Jjq, Jkg] at hw
    | _ => simp [Jjq, Jkg] at hw
  | _ => simp [Jjq, Jkg] at hw
end Go.Proofs.YtinnbafplhcnpaaGreat
end
