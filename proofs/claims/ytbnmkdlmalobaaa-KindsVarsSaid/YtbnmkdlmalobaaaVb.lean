/-
  Parts joined into one text: HDenOk, Append, HDenHeap. No condition.
-/
import Derived.OwnWalkIn
import Derived.Maps.AppendAt
import Derived.Test.YtbnmkdlmalobaaaVa

section
namespace Go.Proofs.Ytbnmkdlmalobaaa
open Go.RowKit
set_option linter.unusedVariables false
set_option linter.unusedSimpArgs false

theorem addr_add (b o j : Nat) : (⟨b, o, none⟩ : Addr).add j = ⟨b, o + j, none⟩ := by
  unfold Addr.add
  split
  · rename_i h; subst h; rfl
  · rfl
theorem isAgg_run {P : Program} {t : TypeId} {u : TypeDesc} (h : P.underlying t = some u) (w : World) : (isAgg t).run P w = .ok (isAggU u) w := by
  cases u <;> simp [isAgg, run_underlying h, isAggU]
theorem sizeOf_run {P : Program} {t : TypeId} {i : TypeInfo} (h : P.info? t = some i) (w : World) : (sizeOf t).run P w = .ok i.size w := by simp [sizeOf, typeInfo, h]

section
variable {P : Program} {w : World}

theorem load_ok {t : TypeId} {cs : List D} {d : D} {b o : Nat} {S : Nat → Prop} {L : List (Nat × Nat)} (h : partD P t cs 0 = some d) (hc : RepC S L w b o cs) : ∃ x, (Instr.loadAt t (.pointer (some ⟨b, o, none⟩))).run P w = .ok x w ∧ Rep S L w x d := by
  unfold partD shapeOf at h
  cases hu : P.underlying t with
  | none => simp [hu] at h
  | some u =>
    cases hi : P.info? t with
    | none => simp [hu, hi] at h
    | some i =>
      simp only [hu, hi, Option.bind_some] at h
      cases ha : isAggU u with
      | true =>
        simp only [ha, if_true, partS, Nat.zero_add, List.drop_zero] at h
        split at h
        · cases h
          obtain ⟨xs, h1, h2⟩ := (hc.take i.size).values
          have hl : xs.length = i.size := by rw [h1.length, List.length_take]; omega
          refine ⟨.agg xs.toArray, ?_, ?_⟩
          · have := run_loadCells_list (P := P) w ⟨b, o, none⟩ xs (fun j v hj => by rw [addr_add]; exact h2 j v hj)
            rw [hl] at this
            simp [Instr.loadAt, Instr.sureAddr, loadVar, isAgg_run hu, ha, sizeOf_run hi, this]
          · simp only [Rep]; exact ⟨xs, rfl, h1⟩
        · cases h
      | false =>
        simp only [ha, Bool.false_eq_true, if_false, partS] at h
        obtain ⟨x, h1, h2⟩ := hc.get 0 d h
        refine ⟨x, ?_, h2⟩
        rw [Nat.add_zero] at h1
        simp [Instr.loadAt, Instr.sureAddr, loadVar, isAgg_run hu, ha, Go.run_load, h1]

theorem part_ok {t : TypeId} {cs : List D} {xs : List Value} {d : D} {off : Nat} {S : Nat → Prop} {L : List (Nat × Nat)} (h : partD P t cs off = some d) (hc : RepA S L w xs cs) : ∃ x, (part t xs.toArray off).run P w = .ok x w ∧ Rep S L w x d := by
  unfold partD shapeOf at h
  cases hu : P.underlying t with
  | none => simp [hu] at h
  | some u =>
    cases hi : P.info? t with
    | none => simp [hu, hi] at h
    | some i =>
      simp only [hu, hi, Option.bind_some] at h
      cases ha : isAggU u with
      | true =>
        simp only [ha, if_true, partS] at h
        split at h
        · cases h
          refine ⟨.agg (xs.toArray.extract off (off + i.size)), ?_, ?_⟩
          · simp [part, isAgg_run hu, ha, sizeOf_run hi]
          · simp only [Rep]
            refine ⟨(xs.drop off).take i.size, ?_, (hc.drop off).take i.size⟩
            simp
        · cases h
      | false =>
        simp only [ha, Bool.false_eq_true, if_false, partS] at h
        obtain ⟨x, h1, h2⟩ := hc.get off d h
        refine ⟨x, ?_, h2⟩
        simp [part, isAgg_run hu, ha, h1]

theorem cellsD_ok {d : D} {cs : List D} {x : Value} {S : Nat → Prop} {L : List (Nat × Nat)} (h : cellsD d = some cs) (hx : Rep S L w x d) : ∃ xs : List Value, x.cells = xs.toArray ∧ RepA S L w xs cs := by
  cases d with
  | undef => simp [cellsD] at h
  | tup => simp [cellsD] at h
  | agg ds =>
    simp only [cellsD, Option.some.injEq] at h; subst h
    simp only [Rep] at hx
    obtain ⟨xs, rfl, h1⟩ := hx
    exact ⟨xs, rfl, h1⟩
  | sl sz els =>
    simp only [cellsD, Option.some.injEq] at h; subst h
    refine ⟨[x], ?_, RepA.cons hx RepA.nil⟩
    simp only [Rep] at hx
    rcases hx with ⟨_, p, cap, rfl, _⟩ | ⟨b, o, cap, rfl, _⟩ <;> rfl
  | ptr ds =>
    simp only [cellsD, Option.some.injEq] at h; subst h
    refine ⟨[x], ?_, RepA.cons hx RepA.nil⟩
    simp only [Rep] at hx
    obtain ⟨b, o, rfl, _⟩ := hx
    rfl
  | hp i o =>
    simp only [cellsD, Option.some.injEq] at h; subst h
    refine ⟨[x], ?_, RepA.cons hx RepA.nil⟩
    simp only [Rep] at hx
    obtain ⟨b, c, _, rfl⟩ := hx
    rfl
  | hs i n =>
    simp only [cellsD, Option.some.injEq] at h; subst h
    refine ⟨[x], ?_, RepA.cons hx RepA.nil⟩
    simp only [Rep] at hx
    obtain ⟨b, c, _, _, rfl⟩ := hx
    rfl
  | ht i o n =>
    simp only [cellsD, Option.some.injEq] at h; subst h
    refine ⟨[x], ?_, RepA.cons hx RepA.nil⟩
    simp only [Rep] at hx
    obtain ⟨b, c, o', cap, _, rfl, _⟩ := hx
    rfl
  | yld i =>
    simp only [cellsD, Option.some.injEq] at h; subst h
    refine ⟨[x], ?_, RepA.cons hx RepA.nil⟩
    simp only [Rep] at hx
    obtain ⟨b, c, _, rfl⟩ := hx
    rfl
  | ifc t e =>
    simp only [cellsD, Option.some.injEq] at h; subst h
    refine ⟨[x], ?_, RepA.cons hx RepA.nil⟩
    simp only [Rep] at hx
    obtain ⟨y, rfl, _⟩ := hx
    rfl
  | mp i =>
    simp only [cellsD, Option.some.injEq] at h; subst h
    refine ⟨[x], ?_, RepA.cons hx RepA.nil⟩
    simp only [Rep] at hx
    obtain ⟨b, c, _, rfl⟩ := hx
    rfl
  | mv ks vs =>
    simp only [cellsD, Option.some.injEq] at h; subst h
    refine ⟨[x], ?_, RepA.cons hx RepA.nil⟩
    simp only [Rep] at hx
    obtain ⟨b, arr, clk, rfl, _⟩ := hx
    rfl
  | clo f a b =>
    simp only [cellsD, Option.some.injEq] at h; subst h
    refine ⟨[x], ?_, RepA.cons hx RepA.nil⟩
    simp only [Rep] at hx
    obtain ⟨y, z, rfl, _⟩ := hx
    rfl
  | v y =>
    simp only [Rep] at hx
    subst hx
    cases x with
    | agg xs =>
      simp only [cellsD, Option.some.injEq] at h; subst h
      refine ⟨xs.toList, by simp [Value.cells], ?_⟩
      generalize xs.toList = l
      induction l with
      | nil => exact RepA.nil
      | cons a r ih => exact RepA.cons (by simp only [Rep]) ih
    | tuple => simp [cellsD] at h
    | _ =>
      simp only [cellsD, Option.some.injEq] at h; subst h
      exact ⟨[_], rfl, RepA.cons (by simp only [Rep]) RepA.nil⟩

theorem fill_ok {S : Nat → Prop} {L : List (Nat × Nat)} (placeV : Nat → Option (Nat × Nat)) : ∀ (parts : List (Nat × D)) (vals : List (Nat × Value)) (cs : List D) (xs : List Value) (out : List D), RepA S L w xs cs →
    (∀ (k : Nat), (parts[k]?).map (·.1) = (vals[k]?).map (·.1) ∧ ∀ (p : Nat × D) (v : Nat × Value), parts[k]? = some p → vals[k]? = some v → Rep S L w v.2 p.2) →
    fillD placeV cs parts = some out → ∃ ys : List Value, Instr.fill placeV xs.toArray vals = some ys.toArray ∧ RepA S L w ys out
  | [], vals, cs, xs, out, h, hp, hf => by
    have : vals = [] := by
      cases vals with
      | nil => rfl
      | cons v r => have := (hp 0).1; simp at this
    subst this
    simp only [fillD, Option.some.injEq] at hf; subst hf
    exact ⟨xs, rfl, h⟩
  | (i, d) :: rest, vals, cs, xs, out, h, hp, hf => by
    cases vals with
    | nil => have := (hp 0).1; simp at this
    | cons v r =>
      obtain ⟨i', x⟩ := v
      have e0 := (hp 0).1
      simp only [List.getElem?_cons_zero, Option.map_some, Option.some.injEq] at e0
      subst e0
      have hx := (hp 0).2 (i, d) (i, x) rfl rfl
      simp only at hx
      simp only [fillD] at hf
      cases hpl : placeV i with
      | none => simp [hpl] at hf
      | some os =>
        obtain ⟨off, size⟩ := os
        cases hcd : cellsD d with
        | none => simp [hpl, hcd] at hf
        | some ds =>
          simp only [hpl, hcd] at hf
          split at hf
          · cases hf
          · rename_i hne
            obtain ⟨zs, hz, hzr⟩ := cellsD_ok hcd hx
            have hlz := hzr.length
            have hfold : ∀ (l : List Value) (m : List D) (k : Nat) (ys : List Value) (es : List D), RepA S L w l m → RepA S L w ys es →
                ∃ us : List Value, (l.zipIdx k).foldl (fun acc (p : Value × Nat) => acc.setIfInBounds (off + p.2) p.1) ys.toArray = us.toArray ∧ RepA S L w us ((m.zipIdx k).foldl (fun acc (p : D × Nat) => acc.set (off + p.2) p.1) es) := by
              intro l m
              induction m generalizing l with
              | nil => intro k ys es hl hy; simp only [RepA] at hl; subst hl; exact ⟨ys, rfl, hy⟩
              | cons e t ih =>
                intro k ys es hl hy
                simp only [RepA] at hl
                obtain ⟨y, l', rfl, h1, h2⟩ := hl
                simp only [List.zipIdx_cons, List.foldl_cons]
                have := ih l' (k + 1) (ys.set (off + k) y) (es.set (off + k) e) h2 (hy.set (off + k) h1)
                simpa using this
            obtain ⟨us, hu, hur⟩ := hfold zs ds 0 xs cs hzr h
            have hlen := h.length
            obtain ⟨ys, h1, h2⟩ := fill_ok placeV rest r _ us out hur (fun k => by simpa using hp (k + 1)) hf
            refine ⟨ys, ?_, h2⟩
            unfold Instr.fill
            simp only [hpl, hz, List.size_toArray]
            rw [if_neg (by simpa [hlz, hlen] using hne)]
            rw [← h1, ← hu]
            congr 1
            simp

theorem elsD_ok {sz : Nat} {x : D} {v : Value} {els : List (List D)} {S : Nat → Prop} {L : List (Nat × Nat)} (h : elsD sz x = some els) (hx : Rep S L w v x) :
    (els = [] ∧ ∃ (p : Option Addr) (cap : Nat), v = .slice p 0 cap ∧ (p = none → cap = 0)) ∨
      ∃ (b o cap : Nat), v = .slice (some ⟨b, o, none⟩) els.length cap ∧ 0 < els.length ∧ els.length ≤ cap ∧ S b ∧ RepR S [] w b o sz els := by
  cases x with
  | sl s es =>
    simp only [elsD] at h
    split at h
    · rename_i hs
      cases h
      simp only [Rep] at hx
      rcases hx with h1 | ⟨b, o, cap, h1, h2, h3, h4, h5⟩
      · exact .inl h1
      · rcases hs with rfl | rfl
        · exact .inr ⟨b, o, cap, h1, h2, h3, h4, h5⟩
        · simp at h2
    · cases h
  | v y =>
    simp only [Rep] at hx
    subst hx
    unfold elsD at h
    split at h
    · rename_i h0; cases h0
    · rename_i h0; cases h0
      cases h
      exact .inl ⟨rfl, none, 0, rfl, fun _ => rfl⟩
    · cases h
  | _ => simp [elsD] at h

theorem natD_ok {d : D} {n : Nat} {v : Value} {S : Nat → Prop} {L : List (Nat × Nat)} (h : natD d = some n) (hv : Rep S L w v d) : ∃ k, v = .int k n := by
  unfold natD at h
  split at h
  · rename_i k m
    simp only [Rep] at hv
    split at h
    · cases h
      exact ⟨k, by rw [hv, Int.toNat_of_nonneg (by assumption)]⟩
    · cases h
  · cases h
theorem boolD_ok {d : D} {b : Bool} {v : Value} {S : Nat → Prop} {L : List (Nat × Nat)} (h : boolD d = some b) (hv : Rep S L w v d) : v = .bool b := by
  unfold boolD at h
  split at h
  · simp only [Rep] at hv
    cases h; exact hv
  · cases h

theorem elemSz_ok {t : TypeId} {sz : Nat} (h : elemSz P t = some sz) : ∃ e i, P.underlying t = some (.slice e) ∧ P.info? e = some i ∧ i.size = sz := by
  unfold elemSz at h
  split at h
  · rename_i e hu
    cases hi : P.info? e with
    | none => simp [hi] at h
    | some i => exact ⟨e, i, hu, hi, by simpa [hi] using h⟩
  · cases h

theorem index_ok {t : TypeId} {sz : Nat} {x i d : D} {v u : Value} {S : Nat → Prop} {L : List (Nat × Nat)} (ht : elemSz P t = some sz) (h : idxD sz x i = some d) (hv : Rep S L w v x) (hu : Rep S L w u i) :
    ∃ r, (Instr.indexAt t v u).run P w = .ok r w ∧ Rep S L w r d := by
  obtain ⟨e, inf, h1, h2, h3⟩ := elemSz_ok ht
  unfold idxD at h
  cases he : elsD sz x with
  | none => simp [he] at h
  | some els =>
    cases hn : natD i with
    | none => simp [he, hn] at h
    | some n =>
      simp only [he, hn] at h
      cases hg : els[n]? with
      | none => simp [hg] at h
      | some c =>
        simp only [hg, Option.map_some, Option.some.injEq] at h
        subst h
        obtain ⟨k, rfl⟩ := natD_ok hn hu
        have hlt : n < els.length := (List.getElem?_eq_some_iff.1 hg).1
        rcases elsD_ok he hv with ⟨rfl, _⟩ | ⟨b, o, cap, rfl, hp, hc, hb, hr⟩
        · simp at hlt
        · obtain ⟨hl, hcc⟩ := hr.get n c hg
          refine ⟨.pointer (some ⟨b, o + n * sz, none⟩), ?_, ?_⟩
          · have hcond : (0 : Int) ≤ (n : Int) ∧ (n : Int) < (els.length : Int) := by omega
            simp [Instr.indexAt, asIntOf, run_underlying h1, hlt, sizeOf_run h2, h3, addr_add]
          · simp only [Rep]
            exact ⟨b, _, rfl, hb, hcc⟩

/-- An operand that may be missing. -/
def OptRep (S : Nat → Prop) (L : List (Nat × Nat)) (w : World) (u : Option Value) (o : Option D) : Prop := (o = none ∧ u = none) ∨ ∃ d v, o = some d ∧ u = some v ∧ Rep S L w v d

theorem bounds_ok {fl : Bool} {lo hi : Option D} {l h n cap : Nat} {u1 u2 : Option Value} {S : Nat → Prop} {L : List (Nat × Nat)} (h1 : lowD lo = some l) (h2 : highD n hi = some h) (hl : l ≤ h) (hh : h ≤ cap)
    (hu : OptRep S L w u1 lo) (hu' : OptRep S L w u2 hi) : (Instr.sliceBounds fl n cap u1 u2 none).run P w = .ok (l, h, cap) w := by
  have key : ∀ (d : D) (v : Value) (m y : Nat) (code : BoundsCode), natD d = some m → Rep S L w v d → m ≤ y → (Instr.sliceBound v y code).run P w = .ok m w := by
    intro d v m y code hd hv hy
    obtain ⟨k, rfl⟩ := natD_ok hd hv
    simp [Instr.sliceBound, asIntOf, hy]
  rcases hu with ⟨rfl, rfl⟩ | ⟨d1, v1, rfl, rfl, r1⟩ <;> rcases hu' with ⟨rfl, rfl⟩ | ⟨d2, v2, rfl, rfl, r2⟩ <;> simp only [lowD, highD, Option.some.injEq] at h1 h2
  · subst h1; subst h2; simp [Instr.sliceBounds]
  · subst h1; simp [Instr.sliceBounds, key d2 v2 h cap _ h2 r2 hh]
  · subst h2; simp [Instr.sliceBounds, key d1 v1 l n _ h1 r1 hl]
  · simp [Instr.sliceBounds, key d1 v1 l h _ h1 r1 hl, key d2 v2 h cap _ h2 r2 hh]

theorem cut_ok {t : TypeId} {sz : Nat} {x d : D} {v : Value} {lo hi : Option D} {u1 u2 : Option Value} {S : Nat → Prop} {L : List (Nat × Nat)} (ht : elemSz P t = some sz) (h : cutD sz x lo hi = some d) (hv : Rep S L w v x)
    (hu : OptRep S L w u1 lo) (hu' : OptRep S L w u2 hi) : ∃ r, (Instr.sliceAt t v u1 u2 none).run P w = .ok r w ∧ Rep S L w r d := by
  obtain ⟨e, inf, h1, h2, h3⟩ := elemSz_ok ht
  unfold cutD at h
  cases he : elsD sz x with
  | none => simp [he] at h
  | some els =>
    simp only [he] at h
    cases hl : lowD lo with
    | none => simp [hl] at h
    | some l =>
      cases hh : highD els.length hi with
      | none => simp [hl, hh] at h
      | some k =>
        simp only [hl, hh] at h
        split at h
        · rename_i hb
          cases h
          obtain ⟨hb1, hb2⟩ := hb
          rcases elsD_ok he hv with ⟨rfl, p, cap, rfl, hp⟩ | ⟨b, o, cap, rfl, hp, hc, hbs, hr⟩
          · have hk0 : k = 0 := by simpa using hb2
            subst hk0
            have hl0 : l = 0 := by omega
            subst hl0
            have := bounds_ok (P := P) (w := w) (fl := true) (n := 0) (cap := cap) hl (by simpa using hh) hb1 (by omega) hu hu'
            refine ⟨.slice (if cap = 0 then p else p.map (·.add (0 * sz))) 0 cap, ?_, ?_⟩
            · simp [Instr.sliceAt, Instr.slice, run_underlying h1, this, sizeOf_run h2, h3]
            · simp only [Rep]
              refine .inl ⟨by simp, _, _, rfl, fun hq => ?_⟩
              split at hq
              · assumption
              · exact hp (by simpa using hq)
          · have := bounds_ok (P := P) (w := w) (fl := true) (n := els.length) (cap := cap) hl hh hb1 (by omega) hu hu'
            refine ⟨.slice (if cap = l then some ⟨b, o, none⟩ else some ⟨b, o + l * sz, none⟩) (k - l) (cap - l), ?_, ?_⟩
            · simp [Instr.sliceAt, Instr.slice, run_underlying h1, this, sizeOf_run h2, h3, addr_add]
            · simp only [Rep]
              have hlen : ((els.take k).drop l).length = k - l := by simp; omega
              by_cases hkl : k = l
              · refine .inl ⟨List.eq_nil_of_length_eq_zero (by omega), _, cap - l, by rw [hkl, Nat.sub_self], fun hq => ?_⟩
                split at hq <;> cases hq
              · refine .inr ⟨b, o + l * sz, cap - l, ?_, by omega, by omega, hbs, (hr.take k).drop l⟩
                rw [hlen, if_neg (by omega)]
        · cases h

theorem zeroD_ok {t : TypeId} {cs : List D} {S : Nat → Prop} {L : List (Nat × Nat)} (h : zeroD P t = some cs) : ∃ i z, P.info? t = some i ∧ i.zero = some z ∧ cs = z.cells.toList.map D.v ∧ RepA S L w z.cells.toList cs := by
  unfold zeroD at h
  cases hi : P.info? t with
  | none => simp [hi] at h
  | some i =>
    cases hz : i.zero with
    | none => simp [hi, hz] at h
    | some z =>
      simp only [hi, hz, Option.map_some, Option.some.injEq] at h
      refine ⟨i, z, rfl, hz, h.symm, ?_⟩
      subst h
      generalize z.cells.toList = l
      induction l with
      | nil => exact RepA.nil
      | cons a r ih => exact RepA.cons (by simp only [Rep]) ih

/-- The parts of a literal. -/
theorem parts_ok {ρv : Operand → Value} {ρd : Operand → D} {S : Nat → Prop} {L : List (Nat × Nat)} (hρ : ∀ x, Rep S L w (ρv x) (ρd x)) (ps : List (Nat × Operand)) (k : Nat) :
    ((ps.map fun (i, x) => (i, ρd x))[k]?).map (·.1) = ((ps.map fun (i, x) => (i, ρv x))[k]?).map (·.1) ∧
      ∀ (p : Nat × D) (v : Nat × Value), (ps.map fun (i, x) => (i, ρd x))[k]? = some p → (ps.map fun (i, x) => (i, ρv x))[k]? = some v → Rep S L w v.2 p.2 := by
  rw [List.getElem?_map, List.getElem?_map]
  cases ps[k]? with
  | none => simp
  | some q =>
    refine ⟨rfl, fun p v hp hv => ?_⟩
    simp only [Option.map_some, Option.some.injEq] at hp hv
    subst hp; subst hv
    exact hρ q.2

theorem build_ok {t : TypeId} {d : D} {ρv : Operand → Value} {ρd : Operand → D} {S : Nat → Prop} {L : List (Nat × Nat)} (hρ : ∀ x, Rep S L w (ρv x) (ρd x)) (ps : Array (Nat × Operand)) (h : buildD P t (ps.toList.map fun (i, x) => (i, ρd x)) = some d) :
    ∃ r, (Instr.build t (ps.map fun (i, x) => (i, ρv x))).run P w = .ok r w ∧ Rep S L w r d := by
  unfold buildD at h
  split at h
  · rename_i fs z hu hz
    split at h
    · rename_i pl hpl
      obtain ⟨i, zv, h1, h2, h3, h4⟩ := zeroD_ok (S := S) (L := L) (w := w) hz
      unfold buildR at h
      cases hf : fillD (pl[·]?) z (ps.toList.map fun (i, x) => (i, ρd x)) with
      | none => simp [hf] at h
      | some out =>
        simp only [hf, Option.map_some, Option.some.injEq] at h
        subst h
        obtain ⟨ys, h5, h6⟩ := fill_ok (pl[·]?) _ (ps.toList.map fun (i, x) => (i, ρv x)) z zv.cells.toList out h4 (parts_ok hρ ps.toList) hf
        refine ⟨.agg ys.toArray, run_build w t _ _ ?_, ?_⟩
        · unfold Program.built
          simp only [h1, hu, h2, hpl]
          simpa using h5
        · simp only [Rep]; exact ⟨ys, rfl, h6⟩
    · cases h
  · rename_i m e z hu hz
    split at h
    · rename_i ie hie
      obtain ⟨i, zv, h1, h2, h3, h4⟩ := zeroD_ok (S := S) (L := L) (w := w) hz
      unfold buildA at h
      cases hf : fillD (fun k => some (k * ie.size, ie.size)) z (ps.toList.map fun (i, x) => (i, ρd x)) with
      | none => simp [hf] at h
      | some out =>
        simp only [hf, Option.map_some, Option.some.injEq] at h
        subst h
        obtain ⟨ys, h5, h6⟩ := fill_ok (fun k => some (k * ie.size, ie.size)) _ (ps.toList.map fun (i, x) => (i, ρv x)) z zv.cells.toList out h4 (parts_ok hρ ps.toList) hf
        refine ⟨.agg ys.toArray, run_build w t _ _ ?_, ?_⟩
        · unfold Program.built
          simp only [h1, hu, h2, hie]
          simpa using h5
        · simp only [Rep]; exact ⟨ys, rfl, h6⟩
    · cases h
  · cases h

theorem chunks_length {α : Type} (sz n : Nat) (l : List α) : (chunks sz n l).length = n := by
  induction n generalizing l with
  | zero => rfl
  | succ n ih => simp [chunks, ih]
theorem chunks_all {α : Type} (sz n : Nat) (l : List α) (h : l.length = n * sz) : ∀ e ∈ chunks sz n l, e.length = sz := by
  induction n generalizing l with
  | zero => simp [chunks]
  | succ n ih =>
    rw [Nat.succ_mul] at h
    intro e he
    simp only [chunks, List.mem_cons] at he
    rcases he with rfl | he
    · simp; omega
    · exact ih (l.drop sz) (by simp; omega) e he
theorem chunks_flatten {α : Type} (sz n : Nat) (l : List α) (h : l.length = n * sz) : (chunks sz n l).flatten = l := by
  induction n generalizing l with
  | zero => simp at h; subst h; rfl
  | succ n ih =>
    rw [Nat.succ_mul] at h
    simp only [chunks, List.flatten_cons]
    rw [ih (l.drop sz) (by simp; omega), List.take_append_drop]
theorem RepA.map {S : Nat → Prop} {L : List (Nat × Nat)} (l : List Nat) (f : Nat → Value) (g : Nat → D) (h : ∀ k ∈ l, Rep S L w (f k) (g k)) : RepA S L w (l.map f) (l.map g) := by
  induction l with
  | nil => exact RepA.nil
  | cons a r ih => exact RepA.cons (h a (by simp)) (ih fun k hk => h k (by simp [hk]))

theorem foldSet_length (zs : List (D × Nat)) (off : Nat) (cs : List D) : (zs.foldl (fun acc (p : D × Nat) => acc.set (off + p.2) p.1) cs).length = cs.length := by
  induction zs generalizing cs with
  | nil => rfl
  | cons a b ih => rw [List.foldl_cons, ih, List.length_set]
theorem fillD_length (place : Nat → Option (Nat × Nat)) (parts : List (Nat × D)) (cs out : List D) (h : fillD place cs parts = some out) : out.length = cs.length := by
  induction parts generalizing cs with
  | nil => simp only [fillD, Option.some.injEq] at h; rw [h]
  | cons p r ih =>
    obtain ⟨k, dd⟩ := p
    simp only [fillD] at h
    split at h
    · split at h
      · cases h
      · rw [ih _ h]
        exact foldSet_length _ _ _
    · cases h

theorem run_rowlit (w : World) (t e : TypeId) (len : Nat) (parts : Array (Nat × Value)) (cells : Array Value) (ie : TypeInfo) (z : Value)
    (hu : P.underlying t = some (.slice e)) (hie : P.info? e = some ie) (hz : ie.zero = some z) (hsmall : ¬ len * ie.size > 2 ^ 24) (hpos : ¬ len * ie.size = 0)
    (h : Instr.fill (fun i => some (i * ie.size, ie.size)) ((Array.range (len * ie.size)).map (z.cells[· % z.cells.size]!)) parts.toList = some cells) :
    (Instr.buildSlice t len parts).run P w = .ok (.slice (some ⟨w.heap.size, 0, none⟩) len len) (w.alloc (.cells cells e)) := by
  simp [Instr.buildSlice, run_underlying hu, sizeOf, typeInfo, zeroValue, hie, hz, hsmall, hpos, h, newRow]

theorem rowlit_ok {t : TypeId} {e : TypeId} {sz : Nat} {z : List D} {d : D} {els : List (List D)} {ρv : Operand → Value} {ρd : Operand → D} {S : Nat → Prop} {L : List (Nat × Nat)} (hρ : ∀ x, Rep S L w (ρv x) (ρd x)) (n : Nat) (ps : Array (Nat × Operand))
    (hi : rowInfo P t n = some (e, sz, z)) (h : rowR sz n z (ps.toList.map fun (i, x) => (i, ρd x)) = some d) (he : elsD sz d = some els) :
    ∃ ys : List Value, (Instr.buildSlice t n (ps.map fun (i, x) => (i, ρv x))).run P w = .ok (.slice (some ⟨w.heap.size, 0, none⟩) n n) (w.alloc (.cells ys.toArray e)) ∧ RepA S L w ys els.flatten ∧ els.flatten.length = n * sz ∧ n ≤ 1000 ∧ 0 < sz := by
  unfold rowInfo at hi
  split at hi
  · rename_i e' hu
    split at hi
    · rename_i z' i' hz hinf
      split at hi
      · cases hi
      · rename_i hbad
        cases hi
        obtain ⟨i'', zv, h1, h2, h3, h4⟩ := zeroD_ok (S := S) (L := L) (w := w) hz
        obtain rfl : i'' = i' := by rw [hinf] at h1; cases h1; rfl
        have hs0 : ¬ i''.size = 0 := fun e => hbad (.inl e)
        have hzl : z.length = i''.size := by by_cases e : z.length = i''.size; exact e; exact absurd (.inr (.inl e)) hbad
        have hle : n * i''.size ≤ 1000 := by by_cases e : 1000 < n * i''.size; exact absurd (.inr (.inr e)) hbad; omega
        have hzv : zv.cells.size = i''.size := by rw [← hzl, h3]; simp
        have hn1 : n ≤ 1000 := Nat.le_trans (Nat.le_mul_of_pos_right n (by omega)) hle
        unfold rowR at h
        split at h
        · rename_i hn
          subst hn
          split at h
          · rename_i hps
            cases h
            have : ps = #[] := by simpa using hps
            subst this
            have : els = [] := by simpa [elsD] using he.symm
            subst this
            exact ⟨[], by simp [Instr.buildSlice, run_underlying hu, sizeOf_run hinf, newRow, Instr.fill]; rw [show Array.map (fun _ : Nat => (default : Value)) (Array.range 0) = #[] from by simp [Array.range]], RepA.nil, by simp, by omega, by omega⟩
          · cases h
        · rename_i hn
          have hpos : ¬ n * i''.size = 0 := by
            intro h0
            rcases Nat.mul_eq_zero.1 h0 with h0 | h0
            · exact hn h0
            · exact hs0 h0
          cases hf : fillD (fun k => some (k * i''.size, i''.size)) ((List.range (n * i''.size)).map fun k => z.getD (k % z.length) .undef) (ps.toList.map fun (i, x) => (i, ρd x)) with
          | none => rw [hf] at h; cases h
          | some out =>
            rw [hf] at h
            simp only [Option.map_some, Option.some.injEq] at h
            subst h
            have hinit : RepA S L w ((List.range (n * i''.size)).map (zv.cells[· % zv.cells.size]!)) ((List.range (n * i''.size)).map fun k => z.getD (k % z.length) .undef) := by
              refine RepA.map _ _ _ fun k _ => ?_
              have hm : k % z.length < z.length := Nat.mod_lt _ (by omega)
              have hm' : k % z.length < zv.cells.size := by omega
              rw [hzv, ← hzl, List.getD_eq_getElem?_getD, List.getElem?_eq_getElem hm]
              subst h3
              simp only [Option.getD_some, List.getElem_map, Array.getElem_toList, Rep]
              exact getElem!_pos zv.cells _ hm'
            obtain ⟨ys, h5, h6⟩ := fill_ok (w := w) _ _ (ps.toList.map fun (i, x) => (i, ρv x)) _ _ out hinit (parts_ok hρ ps.toList) hf
            have hlen : out.length = n * i''.size := by rw [fillD_length _ _ _ _ hf]; simp
            have hels : els = chunks i''.size n out := by simpa [elsD] using he.symm
            subst hels
            rw [chunks_flatten _ _ _ hlen]
            refine ⟨ys, run_rowlit w t e n _ _ i'' zv hu hinf h2 (by omega) hpos ?_, h6, hlen, hn1, by omega⟩
            rw [show ((Array.range (n * i''.size)).map (zv.cells[· % zv.cells.size]!)) = ((List.range (n * i''.size)).map (zv.cells[· % zv.cells.size]!)).toArray from by rw [show Array.range (n * i''.size) = (List.range (n * i''.size)).toArray from by simp, List.map_toArray]]
            simpa using h5
    · cases hi
  · cases hi

theorem intsOf_ok {S : Nat → Prop} {L : List (Nat × Nat)} {ds : List D} {a : List Int} {xs : List Value} (h : intsOf ds = some a) (hx : RepA S L w xs ds) : xs = a.map (Value.int .i64) := by
  induction ds generalizing a xs with
  | nil => simp only [intsOf, Option.some.injEq] at h; subst h; simp only [RepA] at hx; rw [hx]; rfl
  | cons d r ih =>
    simp only [RepA] at hx
    obtain ⟨x, ys, rfl, h1, h2⟩ := hx
    unfold intsOf at h
    split at h
    · rename_i he
      cases he
    · rename_i n r' he
      cases he
      cases hr : intsOf r with
      | none => simp [hr] at h
      | some b =>
        simp only [hr, Option.map_some, Option.some.injEq] at h
        subst h
        simp only [Rep] at h1
        rw [h1, ih hr h2]; rfl
    · cases h

theorem eqFields_ok (a b : List Int) (fs : List Field) (k : Nat) (ha : a.length = k + fs.length) (hb : b.length = k + fs.length)
    (h : ∀ p ∈ fs.zipIdx k, p.1.name ≠ "_" ∧ p.1.offset = p.2 ∧ P.underlying p.1.type = some (.int .i64)) (w : World) :
    (Op.eqFields 9999 (a.map (Value.int .i64)).toArray (b.map (Value.int .i64)).toArray fs).run P w = .ok (decide (a.drop k = b.drop k)) w := by
  induction fs generalizing k with
  | nil =>
    simp only [List.length_nil, Nat.add_zero] at ha hb
    simp [Op.eqFields, List.drop_of_length_le (Nat.le_of_eq ha), List.drop_of_length_le (Nat.le_of_eq hb)]
  | cons f r ih =>
    obtain ⟨h1, h2, h3⟩ := h (f, k) (by simp)
    simp only at h1 h2 h3
    simp only [List.length_cons] at ha hb
    have hka : k < a.length := by omega
    have hkb : k < b.length := by omega
    have pa : (part f.type (a.map (Value.int .i64)).toArray f.offset).run P w = .ok (.int .i64 a[k]) w := by simp [part, isAgg_run h3, isAggU, h2, hka]
    have pb : (part f.type (b.map (Value.int .i64)).toArray f.offset).run P w = .ok (.int .i64 b[k]) w := by simp [part, isAgg_run h3, isAggU, h2, hkb]
    have ih' := ih (k + 1) (by omega) (by omega) (fun p hp => h p (by simp [hp]))
    simp only [Op.eqFields, if_pos h1, Sem.run_bind, pa, pb, Result.andThen_ok, run_equalIn_int w 9998 f.type .i64 .i64 _ _ h3]
    rw [List.drop_eq_getElem_cons hka, List.drop_eq_getElem_cons hkb]
    by_cases he : a[k] = b[k]
    · rw [show (a[k] == b[k]) = true from by simp [he]]
      simp only [Bool.not_true, Bool.false_eq_true, if_false, ih', he, List.cons.injEq, true_and]
    · rw [show (a[k] == b[k]) = false from by simp [he]]
      simp only [Bool.not_false, if_true, Sem.run_pure, List.cons.injEq, he, false_and, decide_false]

theorem kind_bool {t : TypeId} (h : kindOf P t = .bool) : P.underlying t = some .bool := by
  unfold kindOf at h
  split at h <;> first | assumption | cases h | (split at h <;> cases h)
theorem kind_sl {t : TypeId} (h : kindOf P t = .sl) : ∃ e, P.underlying t = some (.slice e) := by
  unfold kindOf at h
  split at h <;> first | exact ⟨_, by assumption⟩ | cases h | (split at h <;> cases h)
theorem kind_str {t : TypeId} (h : kindOf P t = .str) : P.underlying t = some .string := by
  unfold kindOf at h
  split at h <;> first | assumption | cases h | (split at h <;> cases h)
theorem kind_ints {t : TypeId} {n : Nat} (h : kindOf P t = .ints n) : ∃ fs, P.underlying t = some (.struct fs) ∧ intStruct P t = true ∧ fs.size = n := by
  unfold kindOf at h
  split at h
  any_goals cases h
  rename_i fs hu
  split at h
  · rename_i hi
    cases h
    exact ⟨fs, hu, hi, rfl⟩
  · cases h

theorem eqStruct_ok {t : TypeId} {x y : D} {b : Bool} {u v : Value} {S : Nat → Prop} {L : List (Nat × Nat)} (h : eqStructD (kindOf P t) x y = some b) (hu : Rep S L w u x) (hv : Rep S L w v y) (o1 o2 : Operand) :
    (∃ xs ys, u = .agg xs ∧ v = .agg ys) ∧ (∀ op, (eqGuard op t o1 o2 u v).run P w = .ok () w) ∧ (Op.equalIn 10000 t u v).run P w = .ok b w := by
  unfold eqStructD at h
  split at h
  · rename_i k n xs ys hk
    obtain ⟨fs, hf, hi, rfl⟩ := kind_ints hk
    split at h
    · rename_i a c ha hc
      split at h
      · rename_i hs
        obtain ⟨hal, hbl⟩ := hs
        cases h
        simp only [Rep] at hu hv
        obtain ⟨us, rfl, hu⟩ := hu
        obtain ⟨vs, rfl, hv⟩ := hv
        have e1 := intsOf_ok ha hu
        have e2 := intsOf_ok hc hv
        subst e1; subst e2
        unfold intStruct at hi
        simp only [hf, Bool.and_eq_true, Bool.not_eq_true', List.all_eq_true] at hi
        obtain ⟨⟨hst, hg⟩, hall⟩ := hi
        have hfs : P.fieldsOf t = fs := by simp [Program.fieldsOf, hf]
        refine ⟨⟨_, _, rfl, rfl⟩, fun op => run_eqGuard_agg w op t o1 o2 _ _ hg, ?_⟩
        have := run_equalIn_agg (P := P) w 9999 t (a.map (Value.int .i64)).toArray (c.map (Value.int .i64)).toArray (by rw [hfs]; exact hf) hst
        rw [this, hfs, eqFields_ok a c fs.toList 0 (by simpa using hal) (by simpa using hbl) (fun p hp => ?_) w]
        · simp
        · have hq := hall p hp
          obtain ⟨⟨q1, q2⟩, q3⟩ := hq
          have q3' : P.underlying p.1.type = some (.int .i64) := by
            revert q3
            cases hup : P.underlying p.1.type with
            | none => simp
            | some u =>
              cases u <;> simp
              rename_i k
              cases k <;> simp
          exact ⟨by simpa using q1, by simpa using q2, q3'⟩
      · cases h
    · cases h
  · cases h

theorem kind_ifc {t : TypeId} (h : kindOf P t = .ifc) : ∃ ms, P.underlying t = some (.interface ms) := by
  unfold kindOf at h
  split at h <;> first | exact ⟨_, by assumption⟩ | cases h | (split at h <;> cases h)
theorem run_equalIn_ifcNil (w : World) (n : Nat) (t u : TypeId) (x : Value) {ms : Array (String × TypeId)} (h : P.underlying t = some (.interface ms)) : (Op.equalIn (n + 1) t (.iface u x) .nilIface).run P w = .ok false w := by
  simp [Op.equalIn, run_underlying h]
theorem run_equalIn_nilNil (w : World) (n : Nat) (t : TypeId) {ms : Array (String × TypeId)} (h : P.underlying t = some (.interface ms)) : (Op.equalIn (n + 1) t .nilIface .nilIface).run P w = .ok true w := by
  simp [Op.equalIn, run_underlying h]
theorem isConst_iff {o : Operand} : isConst o = true → (match o with | .const _ => true | _ => false) = true := by
  cases o <;> simp [isConst]
theorem int_ok {op : BinOp} {t : TypeId} {k : IntKind} {a b : Int} {d : D} (h : intD op k a b = some d) (h1 : op ≠ .shl) (h2 : op ≠ .shr) (o1 o2 : Operand) {S : Nat → Prop} {L : List (Nat × Nat)} :
    ∃ r, (do eqGuard op t o1 o2 (.int k a) (.int k b); binOp op t (.int k a) (.int k b) : Sem Value).run P w = .ok r w ∧ Rep S L w r d := by
  cases op <;> simp only [intD, Option.some.injEq] at h <;> first | (cases h; done) | skip
  case quo =>
    split at h
    · cases h
    · rename_i hb
      cases h
      refine ⟨_, ?_, by simp only [Rep]; rfl⟩; simp [eqGuard, binOp, Op.intDiv, hb]
  case rem =>
    split at h
    · cases h
    · rename_i hb
      cases h
      refine ⟨_, ?_, by simp only [Rep]; rfl⟩; simp [eqGuard, binOp, Op.intDiv, hb]
  all_goals subst h
  all_goals refine ⟨_, ?_, by simp only [Rep]; rfl⟩
  all_goals simp [eqGuard, binOp, Op.intArith, Op.intCmp, Op.intBits]
theorem shift_ok {op : BinOp} {t : TypeId} {k k' : IntKind} {a b : Int} {d : D} (h : shiftD op k a b = some d) (o1 o2 : Operand) {S : Nat → Prop} {L : List (Nat × Nat)} :
    ∃ r, (do eqGuard op t o1 o2 (.int k a) (.int k' b); binOp op t (.int k a) (.int k' b) : Sem Value).run P w = .ok r w ∧ Rep S L w r d := by
  unfold shiftD at h
  split at h
  · cases h
  · rename_i hb
    split at h
    · cases h; refine ⟨_, ?_, by simp only [Rep]; rfl⟩; simp [eqGuard, binOp, Op.shift, hb]
    · cases h; refine ⟨_, ?_, by simp only [Rep]; rfl⟩; simp [eqGuard, binOp, Op.shift, hb]
    · cases h
theorem str_ok {op : BinOp} {t : TypeId} {a b : ByteArray} {d : D} (h : strD op a b = some d) (o1 o2 : Operand) {S : Nat → Prop} {L : List (Nat × Nat)} :
    ∃ r, (do eqGuard op t o1 o2 (.string a) (.string b); binOp op t (.string a) (.string b) : Sem Value).run P w = .ok r w ∧ Rep S L w r d := by
  unfold strD at h
  split at h
  · split at h
    · rename_i hb
      cases h
      have : ¬ (9223372036854775807 < ((a.size + b.size : Nat) : Int)) := by omega
      have h' : ¬ (9223372036854775807 < (a.size : Int) + (b.size : Int)) := by omega
      refine ⟨_, ?_, by simp only [Rep]; rfl⟩
      simp [eqGuard, binOp, Op.stringOp, this, h']
    · cases h
  all_goals first | (cases h; done) | skip
  all_goals cases h
  all_goals refine ⟨_, ?_, by simp only [Rep]; rfl⟩
  all_goals simp [eqGuard, binOp, Op.stringOp]

theorem run_equalIn_slNil (w : World) (d : Nat) (t : TypeId) {e : TypeId} (a : Addr) (n c : Nat) (h : P.underlying t = some (.slice e)) : (Op.equalIn (d + 1) t (.slice (some a) n c) (.slice none 0 0)).run P w = .ok false w := by
  simp [Op.equalIn, run_underlying h]
theorem slnil_ok {op : BinOp} {t : TypeId} {d : D} {n c : Nat} {S : Nat → Prop} {L : List (Nat × Nat)} (h : (match op, kindOf P t with | .eql, .sl => some (D.v (.bool false)) | .neq, .sl => some (D.v (.bool true)) | _, _ => none) = some d) (a : Addr) (o1 o2 : Operand) :
    ∃ r, (do eqGuard op t o1 o2 (.slice (some a) n c) (.slice none 0 0); binOp op t (.slice (some a) n c) (.slice none 0 0) : Sem Value).run P w = .ok r w ∧ Rep S L w r d := by
  split at h
  · rename_i ht
    obtain ⟨e, hi⟩ := kind_sl ht
    cases h
    refine ⟨_, ?_, by simp only [Rep]; rfl⟩
    simp [eqGuard, binOp, Op.equal, Op.maxDepth, run_equalIn_slNil w 9999 t _ _ _ hi]
  · rename_i ht
    obtain ⟨e, hi⟩ := kind_sl ht
    cases h
    refine ⟨_, ?_, by simp only [Rep]; rfl⟩
    simp [eqGuard, binOp, Op.equal, Op.maxDepth, run_equalIn_slNil w 9999 t _ _ _ hi]
  · cases h

theorem bin_ok {op : BinOp} {t : TypeId} {x y d : D} {u v : Value} {S : Nat → Prop} {L : List (Nat × Nat)} (h : binK (kindOf P t) op x y = some d) (hu : Rep S L w u x) (hv : Rep S L w v y) (o1 o2 : Operand) :
    ∃ r, (do eqGuard op t o1 o2 u v; binOp op t u v : Sem Value).run P w = .ok r w ∧ Rep S L w r d := by
  unfold binK at h
  split at h
  · rename_i k a k' b
    simp only [Rep] at hu hv
    subst hu; subst hv
    split at h
    · exact shift_ok h o1 o2
    · exact shift_ok h o1 o2
    · rename_i h1 h2
      split at h
      · rename_i hk
        subst hk
        exact int_ok h (fun e => h1 e) (fun e => h2 e) o1 o2
      · cases h
  · rename_i a b
    simp only [Rep] at hu hv
    subst hu; subst hv
    split at h
    · rename_i ht
      cases h
      refine ⟨_, ?_, by simp only [Rep]; rfl⟩
      simp [eqGuard, binOp, Op.equal, Op.maxDepth, run_equalIn_bool' w 9999 t a b (kind_bool ht)]
    · rename_i ht
      cases h
      refine ⟨_, ?_, by simp only [Rep]; rfl⟩
      simp [eqGuard, binOp, Op.equal, Op.maxDepth, run_equalIn_bool' w 9999 t a b (kind_bool ht)]
    · cases h
  · rename_i a b
    simp only [Rep] at hu hv
    subst hu; subst hv
    exact str_ok h o1 o2
  · rename_i ty e
    simp only [Rep] at hu hv
    obtain ⟨z, rfl, _⟩ := hu
    subst hv
    split at h
    · rename_i ht
      obtain ⟨ms, hi⟩ := kind_ifc ht
      cases h
      refine ⟨_, ?_, by simp only [Rep]; rfl⟩
      simp [eqGuard, binOp, Op.equal, Op.maxDepth, run_equalIn_ifcNil w 9999 t _ _ hi]
    · rename_i ht
      obtain ⟨ms, hi⟩ := kind_ifc ht
      cases h
      refine ⟨_, ?_, by simp only [Rep]; rfl⟩
      simp [eqGuard, binOp, Op.equal, Op.maxDepth, run_equalIn_ifcNil w 9999 t _ _ hi]
    · cases h
  · rename_i sz e0 r0
    simp only [Rep] at hu hv
    subst hv
    obtain ⟨b, o, cap, rfl⟩ : ∃ b o cap, u = .slice (some ⟨b, o, none⟩) (e0 :: r0).length cap := by
      rcases hu with ⟨e, _⟩ | ⟨b, o, cap, e, _⟩
      · cases e
      · exact ⟨b, o, cap, e⟩
    exact slnil_ok h _ o1 o2
  · simp only [Rep] at hu hv
    obtain ⟨b, c, _, _, rfl⟩ := hu
    subst hv
    exact slnil_ok h _ o1 o2
  · split at h
    · cases he : eqStructD (kindOf P t) x y with
      | none => rw [he] at h; cases h
      | some b =>
        rw [he] at h
        simp only [Option.map_some, Option.some.injEq] at h
        subst h
        obtain ⟨⟨xs, ys, e1, e2⟩, h1, h2⟩ := eqStruct_ok he hu hv o1 o2
        refine ⟨.bool b, ?_, by simp only [Rep]⟩
        rw [e1, e2] at h1 h2 ⊢
        simp [h1, run_eql_struct, h2]
    · cases he : eqStructD (kindOf P t) x y with
      | none => rw [he] at h; cases h
      | some b =>
        rw [he] at h
        simp only [Option.map_some, Option.some.injEq] at h
        subst h
        obtain ⟨⟨xs, ys, e1, e2⟩, h1, h2⟩ := eqStruct_ok he hu hv o1 o2
        refine ⟨.bool !b, ?_, by simp only [Rep]⟩
        rw [e1, e2] at h1 h2 ⊢
        simp [h1, run_neq_struct, h2]
    · cases h
theorem binN_ok {op : BinOp} {t : TypeId} {x y d : D} {u v : Value} {S : Nat → Prop} {L : List (Nat × Nat)} (o1 o2 : Operand) (h : binN (isConst o1 || isConst o2) (kindOf P t) op x y = some d) (hu : Rep S L w u x) (hv : Rep S L w v y) :
    ∃ r, (do eqGuard op t o1 o2 u v; binOp op t u v : Sem Value).run P w = .ok r w ∧ Rep S L w r d := by
  unfold binN at h
  split at h
  · simp only [Rep] at hu hv
    subst hu; subst hv
    have hg : (isConst o1 || isConst o2) = true → ∀ op, (eqGuard op t o1 o2 .nilIface .nilIface).run P w = .ok () w := by
      intro hc op
      cases op <;> first | (simp [eqGuard]; done) | skip
      all_goals cases o1 <;> cases o2 <;> first | (simp [eqGuard]; done) | (simp [isConst] at hc)
    split at h
    · rename_i hc ht
      obtain ⟨ms, hi⟩ := kind_ifc ht
      cases h
      refine ⟨_, ?_, by simp only [Rep]; rfl⟩; simp [hg hc, binOp, Op.equal, Op.maxDepth, run_equalIn_nilNil w 9999 t hi]
    · rename_i hc ht
      obtain ⟨ms, hi⟩ := kind_ifc ht
      cases h
      refine ⟨_, ?_, by simp only [Rep]; rfl⟩; simp [hg hc, binOp, Op.equal, Op.maxDepth, run_equalIn_nilNil w 9999 t hi]
    · cases h
  · exact bin_ok h hu hv o1 o2
end
section
variable {P : Program} {w : World}

theorem len_ok {t : TypeId} {x d : D} {v : Value} {S : Nat → Prop} {L : List (Nat × Nat)} (h : lenK (kindOf P t) x = some d) (hv : Rep S L w v x) (ts : Array TypeId) (ht : ts[0]? = some t) (ty : TypeId) :
    ∃ r, (Builtin.len_ ts ty #[v]).run P w = .ok r w ∧ Rep S L w r d := by
  unfold lenK at h
  split at h
  · rename_i k s els hk
    obtain ⟨e, hu⟩ := kind_sl hk
    cases h
    simp only [Rep] at hv
    rcases hv with ⟨rfl, p, cap, rfl, _⟩ | ⟨b, o, cap, rfl, _⟩
    · exact ⟨_, by simp [Builtin.len_, ht, run_underlying hu]; rfl, by simp only [Rep]; rfl⟩
    · exact ⟨_, by simp [Builtin.len_, ht, run_underlying hu]; rfl, by simp only [Rep]; rfl⟩
  · rename_i k p n c hk
    obtain ⟨e, hu⟩ := kind_sl hk
    cases h
    simp only [Rep] at hv
    subst hv
    exact ⟨_, by simp [Builtin.len_, ht, run_underlying hu]; rfl, by simp only [Rep]; rfl⟩
  · rename_i k s hk
    have hu := kind_str hk
    cases h
    simp only [Rep] at hv
    subst hv
    exact ⟨_, by simp [Builtin.len_, ht, run_underlying hu]; rfl, by simp only [Rep]; rfl⟩
  · cases h

theorem fold_ok {S : Nat → Prop} {L : List (Nat × Nat)} (f : Int → Int → Int) (g : Value → Value → Sem Value) (hg : ∀ k k' a b, g (.int k a) (.int k' b) = pure (.int k (f a b))) (k : IntKind) (ds : List D) (vs : List Value) (a : Int) (n : Int)
    (h : ds.foldl (stepIntD f) (some a) = some n) (hv : RepA S L w vs ds) : (vs.foldlM g (.int k a)).run P w = .ok (.int k n) w := by
  induction ds generalizing vs a with
  | nil => simp only [RepA] at hv; subst hv; simp at h; subst h; rfl
  | cons d r ih =>
    simp only [RepA] at hv
    obtain ⟨x, ys, rfl, h1, h2⟩ := hv
    simp only [List.foldl_cons] at h
    have hnone : ∀ l : List D, l.foldl (stepIntD f) (none : Option Int) = none := by
      intro l
      induction l with
      | nil => rfl
      | cons e t ih => rw [List.foldl_cons]; exact ih
    unfold stepIntD at h
    split at h
    · rename_i a' k' b heq1
      cases heq1
      simp only [Rep] at h1
      subst h1
      change r.foldl (stepIntD f) _ = _ at h
      simp only [List.foldlM_cons, hg, Sem.run_bind, Sem.run_pure, Result.andThen_ok]
      exact ih ys _ h h2
    · change r.foldl (stepIntD f) none = _ at h; rw [hnone] at h; cases h
theorem foldInt_ok {S : Nat → Prop} {L : List (Nat × Nat)} {d : D} (f : Int → Int → Int) (g : Value → Value → Sem Value) (hg : ∀ k k' a b, g (.int k a) (.int k' b) = pure (.int k (f a b))) (ds : List D) (vs : List Value)
    (h : foldIntD f ds = some d) (hv : RepA S L w vs ds) : ∃ x r y, vs = x :: r ∧ (r.foldlM g x).run P w = .ok y w ∧ Rep S L w y d := by
  unfold foldIntD at h
  split at h
  · rename_i k a r
    simp only [RepA] at hv
    obtain ⟨x, ys, rfl, h1, h2⟩ := hv
    simp only [Rep] at h1
    subst h1
    cases hf : r.foldl (stepIntD f) (some a) with
    | none => rw [hf] at h; cases h
    | some n =>
      rw [hf] at h
      simp only [Option.map_some, Option.some.injEq] at h
      subst h
      exact ⟨_, _, _, rfl, fold_ok f g hg k r ys a n hf h2, by simp only [Rep]⟩
  · cases h
theorem RepA.ops {S : Nat → Prop} {L : List (Nat × Nat)} {ρv : Operand → Value} {ρd : Operand → D} (hρ : ∀ x, Rep S L w (ρv x) (ρd x)) (l : List Operand) : RepA S L w (l.map ρv) (l.map ρd) := by
  induction l with
  | nil => exact RepA.nil
  | cons a r ih => exact RepA.cons (hρ a) ih
theorem optRep_map {S : Nat → Prop} {L : List (Nat × Nat)} {ρv : Operand → Value} {ρd : Operand → D} (hρ : ∀ x, Rep S L w (ρv x) (ρd x)) (o : Option Operand) : OptRep S L w (o.map ρv) (o.map ρd) := by
  cases o with
  | none => exact .inl ⟨rfl, rfl⟩
  | some x => exact .inr ⟨_, _, rfl, rfl, hρ x⟩

end
end Go.Proofs.Ytbnmkdlmalobaaa
end

section
namespace Go.Proofs.Ytbnmkdlmalobaaa
open Go.RowKit
section
variable {P : Program}

theorem run_append_in {w : World} (base : Nat) (t ty e : TypeId) (i : TypeInfo) (z : Value) (size bytes : Nat) (ht : P.underlying t = some (.slice e)) (hi : P.info? e = some i) (hz : i.zero = some z)
    (hsize : i.size = size) (hby : i.bytes = bytes) (hzs : z.cells.size = size) (hsz : 0 < size)
    (v : Value) (k : Nat) (xs : List Value) (hown : w.ownsRow base e size v k xs) {S : Nat → Prop} (u : Value) (m : Nat) (news : List Value) (hu : SliceIn S w u m news) (hl : news.length = m * size)
    (h1 : ∀ x ∈ news, x.oneCell' = true) (h63 : k + m ≤ maxLen) (hbytes : (k + m) * bytes ≤ 140737488355328) (hbase : base ≤ w.heap.size) :
    ∃ v' w', (Builtin.append_ #[t, t] ty #[v, u]).run P w = .ok v' w' ∧ w'.ownsRow base e size v' (k + m) (xs ++ news) ∧ w.grownBy w' v.ownBlock := by
  rcases hu with ⟨p, cap, rfl, rfl, rfl, hp⟩ | ⟨b, o, cap, rfl, hm, hc, hS, hcell⟩
  · cases p with
    | none =>
      rw [hp rfl]
      exact ⟨v, w, run_append_owned_none w base t ty e i size ht hi v k xs hown, by simpa using hown, ⟨rfl, rfl, rfl, Nat.le_refl _, fun _ _ _ => rfl⟩⟩
    | some ad =>
      obtain ⟨v', w', r1, r2, r3, _⟩ := run_append_own (P := P) w base t ty e i z size bytes ht hi hz hsize hby hzs hsz v k xs hown ad 0 cap [] (by simp) (by simp) (by simp) h63 hbytes hbase
      exact ⟨v', w', r1, r2, r3⟩
  · obtain ⟨v', w', r1, r2, r3, _⟩ := run_append_own (P := P) w base t ty e i z size bytes ht hi hz hsize hby hzs hsz v k xs hown ⟨b, o, none⟩ m cap news hl (fun j x hx => by
      have hj : j < news.length := (List.getElem?_eq_some_iff.1 hx).1
      have : ((⟨b, o, none⟩ : Addr).add j) = ⟨b, o + j, none⟩ := by
        unfold Addr.add; split
        · rename_i h0; subst h0; rfl
        · rfl
      rw [this, hcell j hj]; exact hx) h1 h63 hbytes hbase
    exact ⟨v', w', r1, r2, r3⟩

theorem wpList_append_in {w : World} {ops : Array Oper} {rest : List Oper} {o : Oper} {a : Act} {Q : Exit → Act → World → Prop} (hg : o.guard = none) (s x : Operand) (t : TypeId)
    (hop : o.op = Op.call { callee := Callee.builtin Builtin.append, args := #[s, x], argTypes := #[t, t] })
    (base : Nat) (e : TypeId) (i : TypeInfo) (z : Value) (size bytes : Nat) (ht : P.underlying t = some (.slice e)) (hi : P.info? e = some i) (hz : i.zero = some z)
    (hsize : i.size = size) (hby : i.bytes = bytes) (hzs : z.cells.size = size) (hsz : 0 < size)
    (v : Value) (k : Nat) (xs : List Value) (hs : a.eval s = v) (hown : w.ownsRow base e size v k xs) {S : Nat → Prop} (u : Value) (m : Nat) (news : List Value) (hx : a.eval x = u) (hu : SliceIn S w u m news) (hl : news.length = m * size)
    (h1 : ∀ x ∈ news, x.oneCell' = true) (h63 : k + m ≤ maxLen) (hbytes : (k + m) * bytes ≤ 140737488355328) (hbase : base ≤ w.heap.size)
    (hK : ∀ v' w', w'.ownsRow base e size v' (k + m) (xs ++ news) → w.grownBy w' v.ownBlock → wpList P ops Q rest (a.put o.dst v') w') : wpList P ops Q (o :: rest) a w := by
  refine wpList_plain hg fun K hK' => ?_
  obtain ⟨v', w', hrun, r1, r2⟩ := run_append_in (P := P) base t o.type e i z size bytes ht hi hz hsize hby hzs hsz v k xs hown u m news hu hl h1 h63 hbytes hbase
  unfold Oper.wp
  simp [execOp, hop, resolve, invoke, builtin, hs, hx, hrun, Result.andThen]
  exact hK' _ _ (hK v' w' r1 r2)

theorem wpListIn_append_in {F : Fence} {n : Nat} {w : World} {ops : Array Oper} {rest : List Oper} {o : Oper} {a : Act} {Q : Exit → Act → World → Prop} (hg : o.guard = none) (s x : Operand) (t : TypeId)
    (hop : o.op = Op.call { callee := Callee.builtin Builtin.append, args := #[s, x], argTypes := #[t, t] })
    (base : Nat) (e : TypeId) (i : TypeInfo) (z : Value) (size bytes : Nat) (ht : P.underlying t = some (.slice e)) (hi : P.info? e = some i) (hz : i.zero = some z)
    (hsize : i.size = size) (hby : i.bytes = bytes) (hzs : z.cells.size = size) (hsz : 0 < size)
    (v : Value) (k : Nat) (xs : List Value) (hs : a.eval s = v) (hown : w.ownsRow base e size v k xs) {S : Nat → Prop} (u : Value) (m : Nat) (news : List Value) (hx : a.eval x = u) (hu : SliceIn S w u m news) (hl : news.length = m * size)
    (h1 : ∀ x ∈ news, x.oneCell' = true) (h63 : k + m ≤ maxLen) (hbytes : (k + m) * bytes ≤ 140737488355328) (hbase : base ≤ w.heap.size)
    (hK : ∀ v' w', w'.ownsRow base e size v' (k + m) (xs ++ news) → w.grownBy w' v.ownBlock → wpListIn F n P ops Q rest (a.put o.dst v') w') : wpListIn F n P ops Q (o :: rest) a w := by
  refine wpListIn_plain hg fun K hK' => ?_
  obtain ⟨v', w', hrun, r1, r2⟩ := run_append_in (P := P) base t o.type e i z size bytes ht hi hz hsize hby hzs hsz v k xs hown u m news hu hl h1 h63 hbytes hbase
  unfold Oper.wpIn
  refine ⟨?_, ?_⟩
  · simp [Oper.about, hop, resolve, Target.leads, Sem.run_pure]
  · rw [Oper.semAt_plain F _ _ (by rw [hop]; intro c hc'; cases hc')]
    simp [execOp, hop, resolve, invoke, builtin, hs, hx, hrun, Result.andThen]
    exact hK' _ _ (hK v' w' r1 r2)

theorem ints_one (l : List Int) : ∀ x ∈ l.map (Value.int .i64), x.oneCell' = true := fun x hx => by
  obtain ⟨_, _, rfl⟩ := List.mem_map.1 hx; rfl
theorem nodes_one (l : List Nd) : ∀ x ∈ nodeCells l, x.oneCell' = true := fun x hx => by
  simp only [nodeCells, List.mem_flatMap, List.mem_cons, List.not_mem_nil, or_false] at hx
  obtain ⟨_, _, rfl | rfl⟩ := hx <;> rfl
/-- A literal slice of one element. -/
theorem sliceIn_one (w : World) (v : Value) (t : TypeId) : SliceIn (fun k => k < (w.alloc (.cells #[v] t)).heap.size) (w.alloc (.cells #[v] t)) (.slice (some ⟨w.heap.size, 0, none⟩) 1 1) 1 [v] := by
  refine .inr ⟨w.heap.size, 0, 1, rfl, by omega, by omega, by simp, fun j hj => ?_⟩
  have hj0 : j = 0 := by simpa using hj
  subst hj0
  have := cell_one_new w v t
  simp
/-- A literal slice without elements: a row of the call's own. -/
theorem ownsRow_empty (w : World) (base : Nat) (e : TypeId) (size : Nat) (hb : base ≤ w.heap.size) : (w.alloc (.cells #[] e)).ownsRow base e size (.slice (some ⟨w.heap.size, 0, none⟩) 0 0) 0 [] :=
  World.ownsRow_lit w #[] 0 hb (by simp) (by simp)
end
end Go.Proofs.Ytbnmkdlmalobaaa
end

section
namespace Go.Proofs.Ytbnmkdlmalobaaa
open Go.RowKit
set_option linter.unusedVariables false
set_option linter.unusedSimpArgs false

theorem heapAllocOld (w : World) (o : Obj) {k : Nat} (hk : k < w.heap.size) : (w.alloc o).heap[k]? = w.heap[k]? := by
  show (w.heap.push o)[k]? = w.heap[k]?
  rw [Array.getElem?_push, if_neg (Nat.ne_of_lt hk)]

theorem oneCell_of {S : Nat → Prop} {L : List (Nat × Nat)} {w : World} {d : D} {x : Value} (h : cellOk d = true) (hr : Rep S L w x d) : x.oneCell' = true := by
  cases d with
  | undef => cases h
  | agg => cases h
  | tup => cases h
  | v y =>
    simp only [Rep] at hr
    subst hr
    cases x with
    | agg => cases h
    | tuple => cases h
    | _ => rfl
  | sl sz els =>
    simp only [Rep] at hr
    rcases hr with ⟨_, p, cap, rfl, _⟩ | ⟨b, o, cap, rfl, _⟩ <;> rfl
  | ptr cs => simp only [Rep] at hr; obtain ⟨b, o, rfl, _⟩ := hr; rfl
  | hp i o => simp only [Rep] at hr; obtain ⟨b, c, _, rfl⟩ := hr; rfl
  | hs i n => simp only [Rep] at hr; obtain ⟨b, c, _, _, rfl⟩ := hr; rfl
  | ifc t e => simp only [Rep] at hr; obtain ⟨y, rfl, _⟩ := hr; rfl
  | clo f a b => simp only [Rep] at hr; obtain ⟨y, z, rfl, _⟩ := hr; rfl
  | mp i => simp only [Rep] at hr; obtain ⟨b, c, _, rfl⟩ := hr; rfl
  | mv ks vs => simp only [Rep] at hr; obtain ⟨b, arr, clk, rfl, _⟩ := hr; rfl
  | ht i o n => simp only [Rep] at hr; obtain ⟨b, c, o, cap, _, rfl, _⟩ := hr; rfl
  | yld i => simp only [Rep] at hr; obtain ⟨b, c, _, rfl⟩ := hr; rfl
theorem repA_get {S : Nat → Prop} {L : List (Nat × Nat)} {w : World} {xs : List Value} {ds : List D} (h : RepA S L w xs ds) (j : Nat) (d : D) (hd : ds[j]? = some d) : ∃ x, xs[j]? = some x ∧ Rep S L w x d := h.get j d hd
theorem cells_one {S : Nat → Prop} {L : List (Nat × Nat)} {w : World} {xs : List Value} {ds : List D} (h : RepA S L w xs ds) (hok : ds.all cellOk = true) : ∀ x ∈ xs, x.oneCell' = true := by
  induction ds generalizing xs with
  | nil => simp only [RepA] at h; subst h; simp
  | cons d r ih =>
    simp only [RepA] at h
    obtain ⟨x, ys, rfl, h1, h2⟩ := h
    simp only [List.all_cons, Bool.and_eq_true] at hok
    intro y hy
    rcases List.mem_cons.1 hy with rfl | hy
    · exact oneCell_of hok.1 h1
    · exact ih h2 hok.2 y hy

section
variable {B : Nat} {S : Nat → Prop} {L : List (Nat × Nat)} {w : World} {H : Heap}

theorem HRel.lt' (h : HRel B S L w H) {id : Nat} {o : HO} (hid : H[id]? = some o) (ho : o ≠ .dead) {p : Nat × Nat} (hp : L[id]? = some p) : B ≤ p.1 ∧ p.1 < w.heap.size ∧ ¬ S p.1 := by
  obtain ⟨b, c, h1, h2, h3, h4⟩ := h.obj id o hid ho
  rw [hp] at h1
  cases h1
  exact ⟨h2, h4.lt ho, h3⟩
theorem HRel.lt (h : HRel B S L w H) {id : Nat} {t : TypeId} {sz : Nat} {cs : List D} (hid : H[id]? = some (HO.cells t sz cs)) {p : Nat × Nat} (hp : L[id]? = some p) : B ≤ p.1 ∧ p.1 < w.heap.size ∧ ¬ S p.1 := h.lt' hid (by intro e; cases e) hp

/-- A new object in a new block. -/
theorem HRel.newO (h : HRel B S L w H) (w1 : World) (hw1 : w1.heap = w.heap) (hb1 : Below B w w1) (ob : Obj) (c : Nat) (o : HO)
    (hok : ∀ w' L', (∀ x d, Rep S L w x d → Rep S L' w' x d) → (∀ xs ds, RepA S L w xs ds → RepA S L' w' xs ds) → w'.heap[w.heap.size]? = some ob → ObjOk S L' w' w.heap.size c o) :
    HRel B S (L ++ [(w.heap.size, c)]) (w1.alloc ob) (H ++ [o]) ∧ Later B S S L (L ++ [(w.heap.size, c)]) w (w1.alloc ob) := by
  have hsize : (w1.alloc ob).heap.size = w.heap.size + 1 := by simp [hw1]
  have hold : ∀ k, k < w.heap.size → (w1.alloc ob).heap[k]? = w.heap[k]? := fun k hk => by rw [heapAllocOld w1 _ (by rw [hw1]; exact hk), hw1]
  have hnew : (w1.alloc ob).heap[w.heap.size]? = some ob := by rw [← hw1]; exact heap_alloc_new w1 _
  have hl : Later B S S L (L ++ [(w.heap.size, c)]) w (w1.alloc ob) := by
    refine ⟨hb1.alloc (by rw [hw1]; exact h.base) _, ⟨by omega, fun k hk => hold k (h.small k hk)⟩, fun _ hk => hk, List.prefix_append _ _, fun _ h => .inl h, fun k hk => (hold k (Array.getElem?_eq_some_iff.1 hk).1).trans hk⟩
  refine ⟨⟨by simp [h.len], fun k hk => by have := h.small k hk; omega, by have := h.base; omega, ?_, ?_⟩, hl⟩
  · intro id o' hid ho'
    by_cases hlt : id < H.length
    · rw [List.getElem?_append_left hlt] at hid
      obtain ⟨b, c', h1, h2, h3, h4⟩ := h.obj id o' hid ho'
      exact ⟨b, c', prefix_get (List.prefix_append _ _) _ _ h1, h2, h3, h4.kept (hold b (h4.lt ho')) (fun _ _ => hl.rep) (fun _ _ => hl.repA)⟩
    · have hlt2 := (List.getElem?_eq_some_iff.1 hid).1
      simp only [List.length_append, List.length_cons, List.length_nil] at hlt2
      have hid' : id = H.length := by omega
      subst hid'
      rw [List.getElem?_append_right (Nat.le_refl _)] at hid
      simp only [Nat.sub_self, List.getElem?_cons_zero, Option.some.injEq] at hid
      subst hid
      exact ⟨w.heap.size, c, by rw [← h.len]; simp, h.base, fun hS => by have := h.small _ hS; omega, hok _ _ (fun _ _ => hl.rep) (fun _ _ => hl.repA) hnew⟩
  · intro id id' o1 o2 p p' hid ho1 hid' ho2 hp hp' hpp
    have old : ∀ {id : Nat} {o' : HO} {p : Nat × Nat}, (H ++ [o])[id]? = some o' → o' ≠ .dead → (L ++ [(w.heap.size, c)])[id]? = some p →
        (id < H.length ∧ H[id]? = some o' ∧ L[id]? = some p ∧ p.1 < w.heap.size) ∨ (id = H.length ∧ p.1 = w.heap.size) := by
      intro id o' p hid ho' hp
      have hlt : id < (H ++ [o]).length := (List.getElem?_eq_some_iff.1 hid).1
      simp only [List.length_append, List.length_cons, List.length_nil] at hlt
      by_cases hl : id < H.length
      · rw [List.getElem?_append_left hl] at hid
        rw [List.getElem?_append_left (by rw [h.len]; exact hl)] at hp
        exact .inl ⟨hl, hid, hp, (h.lt' hid ho' hp).2.1⟩
      · have he : id = H.length := by omega
        subst he
        rw [← h.len, List.getElem?_append_right (Nat.le_refl _)] at hp
        simp at hp
        exact .inr ⟨rfl, by rw [← hp]⟩
    rcases old hid ho1 hp with ⟨h1, h2, h3, h4⟩ | ⟨h1, h2⟩ <;> rcases old hid' ho2 hp' with ⟨k1, k2, k3, k4⟩ | ⟨k1, k2⟩
    · exact h.inj id id' _ _ p p' h2 ho1 k2 ho2 h3 k3 hpp
    · omega
    · omega
    · omega
theorem HRel.new (h : HRel B S L w H) (w1 : World) (hw1 : w1.heap = w.heap) (hb1 : Below B w w1) (t : TypeId) (sz c : Nat) (cs : List D) (arr : Array Value) (hsz : arr.size = c * sz) (hc : c ≤ maxLen) (hlen : cs.length ≤ arr.size)
    (hrep : ∀ (j : Nat) (d : D), cs[j]? = some d → ∃ x, arr[j]? = some x ∧ x.oneCell' = true ∧ Rep S L w x d) :
    HRel B S (L ++ [(w.heap.size, c)]) (w1.alloc (.cells arr t)) (H ++ [.cells t sz cs]) ∧ Later B S S L (L ++ [(w.heap.size, c)]) w (w1.alloc (.cells arr t)) :=
  h.newO w1 hw1 hb1 (.cells arr t) c (.cells t sz cs) fun w' L' hr _ hn => ⟨arr, hn, hsz, hc, hlen, fun j d hd => by
    obtain ⟨x, hx1, hx2, hx3⟩ := hrep j d hd
    exact ⟨x, hx1, hx2, hr _ _ hx3⟩⟩

theorem set_get (H : Heap) (id i : Nat) (o o' : HO) (h : (H.set id o)[i]? = some o') : (i = id ∧ o = o' ∧ id < H.length) ∨ (i ≠ id ∧ H[i]? = some o') := by
  by_cases e : i = id
  · subst e
    have hlt : i < H.length := by have := (List.getElem?_eq_some_iff.1 h).1; simpa using this
    rw [List.getElem?_set_self hlt] at h
    exact .inl ⟨rfl, Option.some.inj h, hlt⟩
  · rw [List.getElem?_set_ne (fun h => e h.symm)] at h
    exact .inr ⟨e, h⟩

/-- An object that is no more. -/
theorem HRel.kill (h : HRel B S L w H) (id : Nat) : HRel B S L w (H.set id .dead) := by
  refine ⟨by simp [h.len], h.small, h.base, ?_, ?_⟩
  · intro i o hi ho
    rcases set_get H id i _ o hi with ⟨_, e, _⟩ | ⟨_, e⟩
    · exact absurd e.symm ho
    · exact h.obj i o e ho
  · intro i j o o' p p' hi ho hj ho' hp hp' hpp
    rcases set_get H id i _ o hi with ⟨_, e, _⟩ | ⟨_, e⟩
    · exact absurd e.symm ho
    · rcases set_get H id j _ o' hj with ⟨_, e', _⟩ | ⟨_, e'⟩
      · exact absurd e'.symm ho'
      · exact h.inj i j o o' p p' e ho e' ho' hp hp' hpp

/-- An object that is written: its block alone changes. -/
theorem HRel.writeO (h : HRel B S L w H) {id : Nat} {o : HO} (hid : H[id]? = some o) (ho : o ≠ .dead) {b c : Nat} (hL : L[id]? = some (b, c)) (w' : World) (o' : HO) (ho' : o' ≠ .dead)
    (hos : w'.os = w.os) (hta : w'.tape = w.tape) (hou : w'.output = w.output) (hsize : w'.heap.size = w.heap.size) (hother : ∀ k, k ≠ b → w'.heap[k]? = w.heap[k]?)
    (hok : (∀ x d, Rep S L w x d → Rep S L w' x d) → (∀ xs ds, RepA S L w xs ds → RepA S L w' xs ds) → ObjOk S L w' b c o') :
    HRel B S L w' (H.set id o') ∧ Later B S S L L w w' := by
  obtain ⟨h2, hlt, h3⟩ := h.lt' hid ho hL
  simp only at h2 hlt h3
  have hmark : w.heap[b]? ≠ some (.deferred (some [])) := by
    obtain ⟨b', c', k1, _, _, k4⟩ := h.obj id o hid ho
    rw [hL] at k1
    cases k1
    exact k4.mark ho _
  have hl : Later B S S L L w w' := ⟨⟨hos, hta, hou, by omega, fun k hk => hother k (by omega)⟩, ⟨by omega, fun k hk => hother k (fun e => h3 (e ▸ hk))⟩, fun _ hk => hk, List.prefix_refl _, fun _ h => .inl h, fun k hk => (hother k (fun e => hmark (e ▸ hk))).trans hk⟩
  refine ⟨⟨by simp [h.len], fun k hk => by rw [hsize]; exact h.small k hk, by rw [hsize]; exact h.base, ?_, ?_⟩, hl⟩
  · intro i o2 hi ho2
    rcases set_get H id i _ o2 hi with ⟨e1, e, _⟩ | ⟨e1, e⟩
    · subst e1
      subst e
      exact ⟨b, c, hL, h2, h3, hok (fun _ _ => hl.rep) (fun _ _ => hl.repA)⟩
    · obtain ⟨b2, c2, k1, k2, k3, k4⟩ := h.obj i o2 e ho2
      have hne : b2 ≠ b := fun hb => e1 (h.inj i id _ _ _ _ e ho2 hid ho k1 hL hb)
      exact ⟨b2, c2, k1, k2, k3, k4.kept (hother b2 hne) (fun _ _ => hl.rep) (fun _ _ => hl.repA)⟩
  · intro i j o1 o2 p p' hi ho1 hj ho2 hp hp' hpp
    have back : ∀ {i : Nat} {o1 : HO}, (H.set id o')[i]? = some o1 → o1 ≠ .dead → ∃ o3, H[i]? = some o3 ∧ o3 ≠ .dead := by
      intro i o1 hi ho1
      rcases set_get H id i _ o1 hi with ⟨e1, _, _⟩ | ⟨_, e⟩
      · subst e1; exact ⟨o, hid, ho⟩
      · exact ⟨o1, e, ho1⟩
    obtain ⟨_, q1, q1'⟩ := back hi ho1
    obtain ⟨_, q2, q2'⟩ := back hj ho2
    exact h.inj i j _ _ p p' q1 q1' q2 q2' hp hp' hpp
theorem HRel.write (h : HRel B S L w H) {id : Nat} {t : TypeId} {sz : Nat} {cs : List D} (hid : H[id]? = some (HO.cells t sz cs)) {b c : Nat} (hL : L[id]? = some (b, c)) (arr' : Array Value) (cs' : List D) (hsz : arr'.size = c * sz) (hlen : cs'.length ≤ arr'.size)
    (hrep : ∀ (j : Nat) (d : D), cs'[j]? = some d → ∃ x, arr'[j]? = some x ∧ x.oneCell' = true ∧ Rep S L w x d) :
    HRel B S L (w.setRow b arr') (H.set id (.cells t sz cs')) ∧ Later B S S L L w (w.setRow b arr') := by
  obtain ⟨b', c', arr, h1, h2, h3, h4, h5, h6, h7, h8⟩ := h.live id t sz cs hid
  rw [hL] at h1
  cases h1
  exact h.writeO hid (by intro e; cases e) hL _ (.cells t sz cs') (by intro e; cases e) rfl rfl rfl (by simp) (fun k hk => setRow_other w b k arr' hk) fun hr _ =>
    ⟨arr', setRow_heap w b arr arr' t (0, 0) h4, hsz, h6, hlen, fun j d hd => by
      obtain ⟨x, hx1, hx2, hx3⟩ := hrep j d hd
      exact ⟨x, hx1, hx2, hr _ _ hx3⟩⟩

/-- A row goes on under another name. -/
theorem HRel.move (h : HRel B S L w H) {id : Nat} {o : HO} (hid : H[id]? = some o) (ho : o ≠ .dead) {b c : Nat} (hL : L[id]? = some (b, c)) :
    HRel B S (L ++ [(b, c)]) w (H.set id .dead ++ [o]) ∧ Later B S S L (L ++ [(b, c)]) w w := by
  have hl : Later B S S L (L ++ [(b, c)]) w w := ⟨Below.refl _ _, Kept.refl _ _, fun _ hk => hk, List.prefix_append _ _, fun _ h => .inl h, fun _ h => h⟩
  obtain ⟨b', c', h1, h2, h3, h4⟩ := h.obj id o hid ho
  rw [hL] at h1
  cases h1
  have hlenk : (H.set id .dead).length = H.length := by simp
  have cases2 : ∀ {i : Nat} {o' : HO}, (H.set id .dead ++ [o])[i]? = some o' → o' ≠ .dead → (i < H.length ∧ i ≠ id ∧ H[i]? = some o') ∨ (i = H.length ∧ o = o') := by
    intro i o' hi ho'
    have hlt : i < (H.set id .dead ++ [o]).length := (List.getElem?_eq_some_iff.1 hi).1
    simp only [List.length_append, List.length_set, List.length_cons, List.length_nil] at hlt
    by_cases hl : i < H.length
    · rw [List.getElem?_append_left (by rw [hlenk]; exact hl)] at hi
      rcases set_get H id i _ o' hi with ⟨_, e, _⟩ | ⟨e1, e⟩
      · exact absurd e.symm ho'
      · exact .inl ⟨hl, e1, e⟩
    · have he : i = H.length := by omega
      subst he
      rw [List.getElem?_append_right (by rw [hlenk]; exact Nat.le_refl _)] at hi
      simp only [hlenk, Nat.sub_self, List.getElem?_cons_zero, Option.some.injEq] at hi
      exact .inr ⟨rfl, hi⟩
  refine ⟨⟨by simp [h.len], h.small, h.base, ?_, ?_⟩, hl⟩
  · intro i o' hi ho'
    rcases cases2 hi ho' with ⟨i1, i2, i3⟩ | ⟨i1, i2⟩
    · obtain ⟨b2, c2, k1, k2, k3, k4⟩ := h.obj i o' i3 ho'
      exact ⟨b2, c2, prefix_get (List.prefix_append _ _) _ _ k1, k2, k3, k4.kept rfl (fun _ _ => hl.rep) (fun _ _ => hl.repA)⟩
    · subst i1
      subst i2
      exact ⟨b, c, by rw [← h.len]; simp, h2, h3, h4.kept rfl (fun _ _ => hl.rep) (fun _ _ => hl.repA)⟩
  · intro i j o1 o2 p p' hi ho1 hj ho2 hp hp' hpp
    have key : ∀ {i : Nat} {o' : HO} {p : Nat × Nat}, (H.set id .dead ++ [o])[i]? = some o' → o' ≠ .dead → (L ++ [(b, c)])[i]? = some p →
        (i < H.length ∧ i ≠ id ∧ H[i]? = some o' ∧ L[i]? = some p) ∨ (i = H.length ∧ p = (b, c)) := by
      intro i o' p hi ho' hp
      rcases cases2 hi ho' with ⟨i1, i2, i3⟩ | ⟨i1, i2⟩
      · rw [List.getElem?_append_left (by rw [h.len]; exact i1)] at hp
        exact .inl ⟨i1, i2, i3, hp⟩
      · subst i1
        rw [← h.len, List.getElem?_append_right (Nat.le_refl _)] at hp
        simp at hp
        exact .inr ⟨rfl, hp.symm⟩
    rcases key hi ho1 hp with ⟨a1, a2, a3, a4⟩ | ⟨a1, a2⟩ <;> rcases key hj ho2 hp' with ⟨c1, c2, c3, c4⟩ | ⟨c1, c2⟩
    · exact h.inj i j _ _ p p' a3 ho1 c3 ho2 a4 c4 hpp
    · exfalso
      rw [c2] at hpp
      exact a2 (h.inj i id _ _ p (b, c) a3 ho1 hid ho a4 hL hpp)
    · exfalso
      rw [a2] at hpp
      exact c2 (h.inj j id _ _ p' (b, c) c3 ho2 hid ho c4 hL hpp.symm)
    · omega
end
end Go.Proofs.Ytbnmkdlmalobaaa
end
