/-
  What the operations do to values without addresses, they do. Nothing here names the program.
-/
import Derived.Test.YtnmgfobpcengkaaHDenOp
namespace Go.Proofs.Ytnmgfobpcengkaa
open Go.RowKit
set_option linter.unusedVariables false
set_option linter.unusedSimpArgs false

theorem addr_add (b o j : Nat) : (⟨b, o, none⟩ : Addr).add j = ⟨b, o + j, none⟩ := by
  unfold Addr.add
  split
  · rename_i h; subst h; rfl
  · rfl
theorem isAgg_run {P : Program} {t : TypeId} {u : TypeDesc} (h : P.underlying t = some u) (w : World) : (isAgg t).run P w = .ok (isAggU u) w := by
  cases u <;> simp [isAgg, run_underlying h, isAggU]
theorem sizeOf_run {P : Program} {t : TypeId} {i : TypeInfo} (h : P.info? t = some i) (w : World) : (sizeOf t).run P w = .ok i.size w := by simp [sizeOf, typeInfo, h]

section
variable {P : Program} {w : World}

theorem load_ok {t : TypeId} {cs : List D} {d : D} {b o : Nat} {S : Nat → Prop} {L : List (Nat × Nat)} (h : partD P t cs 0 = some d) (hc : RepC S L w b o cs) : ∃ x, (Instr.loadAt t (.pointer (some ⟨b, o, none⟩))).run P w = .ok x w ∧ Rep S L w x d := by
  unfold partD shapeOf at h
  cases hu : P.underlying t with
  | none => simp [hu] at h
  | some u =>
    cases hi : P.info? t with
    | none => simp [hu, hi] at h
    | some i =>
      simp only [hu, hi, Option.bind_some] at h
      cases ha : isAggU u with
      | true =>
        simp only [ha, if_true, partS, Nat.zero_add, List.drop_zero] at h
        split at h
        · cases h
          obtain ⟨xs, h1, h2⟩ := (hc.take i.size).values
          have hl : xs.length = i.size := by rw [h1.length, List.length_take]; omega
          refine ⟨.agg xs.toArray, ?_, ?_⟩
          · have := run_loadCells_list (P := P) w ⟨b, o, none⟩ xs (fun j v hj => by rw [addr_add]; exact h2 j v hj)
            rw [hl] at this
            simp [Instr.loadAt, Instr.sureAddr, loadVar, isAgg_run hu, ha, sizeOf_run hi, this]
          · simp only [Rep]; exact ⟨xs, rfl, h1⟩
        · cases h
      | false =>
        simp only [ha, Bool.false_eq_true, if_false, partS] at h
        obtain ⟨x, h1, h2⟩ := hc.get 0 d h
        refine ⟨x, ?_, h2⟩
        rw [Nat.add_zero] at h1
        simp [Instr.loadAt, Instr.sureAddr, loadVar, isAgg_run hu, ha, Go.run_load, h1]

theorem part_ok {t : TypeId} {cs : List D} {xs : List Value} {d : D} {off : Nat} {S : Nat → Prop} {L : List (Nat × Nat)} (h : partD P t cs off = some d) (hc : RepA S L w xs cs) : ∃ x, (part t xs.toArray off).run P w = .ok x w ∧ Rep S L w x d := by
  unfold partD shapeOf at h
  cases hu : P.underlying t with
  | none => simp [hu] at h
  | some u =>
    cases hi : P.info? t with
    | none => simp [hu, hi] at h
    | some i =>
      simp only [hu, hi, Option.bind_some] at h
      cases ha : isAggU u with
      | true =>
        simp only [ha, if_true, partS] at h
        split at h
        · cases h
          refine ⟨.agg (xs.toArray.extract off (off + i.size)), ?_, ?_⟩
          · simp [part, isAgg_run hu, ha, sizeOf_run hi]
          · simp only [Rep]
            refine ⟨(xs.drop off).take i.size, ?_, (hc.drop off).take i.size⟩
            simp
        · cases h
      | false =>
        simp only [ha, Bool.false_eq_true, if_false, partS] at h
        obtain ⟨x, h1, h2⟩ := hc.get off d h
        refine ⟨x, ?_, h2⟩
        simp [part, isAgg_run hu, ha, h1]

theorem cellsD_ok {d : D} {cs : List D} {x : Value} {S : Nat → Prop} {L : List (Nat × Nat)} (h : cellsD d = some cs) (hx : Rep S L w x d) : ∃ xs : List Value, x.cells = xs.toArray ∧ RepA S L w xs cs := by
  cases d with
  | undef => simp [cellsD] at h
  | tup => simp [cellsD] at h
  | agg ds =>
    simp only [cellsD, Option.some.injEq] at h; subst h
    simp only [Rep] at hx
    obtain ⟨xs, rfl, h1⟩ := hx
    exact ⟨xs, rfl, h1⟩
  | sl sz els =>
    simp only [cellsD, Option.some.injEq] at h; subst h
    refine ⟨[x], ?_, RepA.cons hx RepA.nil⟩
    simp only [Rep] at hx
    rcases hx with ⟨_, p, cap, rfl, _⟩ | ⟨b, o, cap, rfl, _⟩ <;> rfl
  | ptr ds =>
    simp only [cellsD, Option.some.injEq] at h; subst h
    refine ⟨[x], ?_, RepA.cons hx RepA.nil⟩
    simp only [Rep] at hx
    obtain ⟨b, o, rfl, _⟩ := hx
    rfl
  | hp i o =>
    simp only [cellsD, Option.some.injEq] at h; subst h
    refine ⟨[x], ?_, RepA.cons hx RepA.nil⟩
    simp only [Rep] at hx
    obtain ⟨b, c, _, rfl⟩ := hx
    rfl
  | hs i n =>
    simp only [cellsD, Option.some.injEq] at h; subst h
    refine ⟨[x], ?_, RepA.cons hx RepA.nil⟩
    simp only [Rep] at hx
    obtain ⟨b, c, _, _, rfl⟩ := hx
    rfl
  | ht i o n =>
    simp only [cellsD, Option.some.injEq] at h; subst h
    refine ⟨[x], ?_, RepA.cons hx RepA.nil⟩
    simp only [Rep] at hx
    obtain ⟨b, c, o', cap, _, rfl, _⟩ := hx
    rfl
  | yld i =>
    simp only [cellsD, Option.some.injEq] at h; subst h
    refine ⟨[x], ?_, RepA.cons hx RepA.nil⟩
    simp only [Rep] at hx
    obtain ⟨b, c, _, rfl⟩ := hx
    rfl
  | ifc t e =>
    simp only [cellsD, Option.some.injEq] at h; subst h
    refine ⟨[x], ?_, RepA.cons hx RepA.nil⟩
    simp only [Rep] at hx
    obtain ⟨y, rfl, _⟩ := hx
    rfl
  | mp i =>
    simp only [cellsD, Option.some.injEq] at h; subst h
    refine ⟨[x], ?_, RepA.cons hx RepA.nil⟩
    simp only [Rep] at hx
    obtain ⟨b, c, _, rfl⟩ := hx
    rfl
  | mv ks vs =>
    simp only [cellsD, Option.some.injEq] at h; subst h
    refine ⟨[x], ?_, RepA.cons hx RepA.nil⟩
    simp only [Rep] at hx
    obtain ⟨b, arr, clk, rfl, _⟩ := hx
    rfl
  | clo f a b =>
    simp only [cellsD, Option.some.injEq] at h; subst h
    refine ⟨[x], ?_, RepA.cons hx RepA.nil⟩
    simp only [Rep] at hx
    obtain ⟨y, z, rfl, _⟩ := hx
    rfl
  | v y =>
    simp only [Rep] at hx
    subst hx
    cases x with
    | agg xs =>
      simp only [cellsD, Option.some.injEq] at h; subst h
      refine ⟨xs.toList, by simp [Value.cells], ?_⟩
      generalize xs.toList = l
      induction l with
      | nil => exact RepA.nil
      | cons a r ih => exact RepA.cons (by simp only [Rep]) ih
    | tuple => simp [cellsD] at h
    | _ =>
      simp only [cellsD, Option.some.injEq] at h; subst h
      exact ⟨[_], rfl, RepA.cons (by simp only [Rep]) RepA.nil⟩

theorem fill_ok {S : Nat → Prop} {L : List (Nat × Nat)} (placeV : Nat → Option (Nat × Nat)) : ∀ (parts : List (Nat × D)) (vals : List (Nat × Value)) (cs : List D) (xs : List Value) (out : List D), RepA S L w xs cs →
    (∀ (k : Nat), (parts[k]?).map (·.1) = (vals[k]?).map (·.1) ∧ ∀ (p : Nat × D) (v : Nat × Value), parts[k]? = some p → vals[k]? = some v → Rep S L w v.2 p.2) →
    fillD placeV cs parts = some out → ∃ ys : List Value, Instr.fill placeV xs.toArray vals = some ys.toArray ∧ RepA S L w ys out
  | [], vals, cs, xs, out, h, hp, hf => by
    have : vals = [] := by
      cases vals with
      | nil => rfl
      | cons v r => have := (hp 0).1; simp at this
    subst this
    simp only [fillD, Option.some.injEq] at hf; subst hf
    exact ⟨xs, rfl, h⟩
  | (i, d) :: rest, vals, cs, xs, out, h, hp, hf => by
    cases vals with
    | nil => have := (hp 0).1; simp at this
    | cons v r =>
      obtain ⟨i', x⟩ := v
      have e0 := (hp 0).1
      simp only [List.getElem?_cons_zero, Option.map_some, Option.some.injEq] at e0
      subst e0
      have hx := (hp 0).2 (i, d) (i, x) rfl rfl
      simp only at hx
      simp only [fillD] at hf
      cases hpl : placeV i with
      | none => simp [hpl] at hf
      | some os =>
        obtain ⟨off, size⟩ := os
        cases hcd : cellsD d with
        | none => simp [hpl, hcd] at hf
        | some ds =>
          simp only [hpl, hcd] at hf
          split at hf
          · cases hf
          · rename_i hne
            obtain ⟨zs, hz, hzr⟩ := cellsD_ok hcd hx
            have hlz := hzr.length
            have hfold : ∀ (l : List Value) (m : List D) (k : Nat) (ys : List Value) (es : List D), RepA S L w l m → RepA S L w ys es →
                ∃ us : List Value, (l.zipIdx k).foldl (fun acc (p : Value × Nat) => acc.setIfInBounds (off + p.2) p.1) ys.toArray = us.toArray ∧ RepA S L w us ((m.zipIdx k).foldl (fun acc (p : D × Nat) => acc.set (off + p.2) p.1) es) := by
              intro l m
              induction m generalizing l with
              | nil => intro k ys es hl hy; simp only [RepA] at hl; subst hl; exact ⟨ys, rfl, hy⟩
              | cons e t ih =>
                intro k ys es hl hy
                simp only [RepA] at hl
                obtain ⟨y, l', rfl, h1, h2⟩ := hl
                simp only [List.zipIdx_cons, List.foldl_cons]
                have := ih l' (k + 1) (ys.set (off + k) y) (es.set (off + k) e) h2 (hy.set (off + k) h1)
                simpa using this
            obtain ⟨us, hu, hur⟩ := hfold zs ds 0 xs cs hzr h
            have hlen := h.length
            obtain ⟨ys, h1, h2⟩ := fill_ok placeV rest r _ us out hur (fun k => by simpa using hp (k + 1)) hf
            refine ⟨ys, ?_, h2⟩
            unfold Instr.fill
            simp only [hpl, hz, List.size_toArray]
            rw [if_neg (by simpa [hlz, hlen] using hne)]
            rw [← h1, ← hu]
            congr 1
            simp

theorem elsD_ok {sz : Nat} {x : D} {v : Value} {els : List (List D)} {S : Nat → Prop} {L : List (Nat × Nat)} (h : elsD sz x = some els) (hx : Rep S L w v x) :
    (els = [] ∧ ∃ (p : Option Addr) (cap : Nat), v = .slice p 0 cap ∧ (p = none → cap = 0)) ∨
      ∃ (b o cap : Nat), v = .slice (some ⟨b, o, none⟩) els.length cap ∧ 0 < els.length ∧ els.length ≤ cap ∧ S b ∧ RepR S [] w b o sz els := by
  cases x with
  | sl s es =>
    simp only [elsD] at h
    split at h
    · rename_i hs
      cases h
      simp only [Rep] at hx
      rcases hx with h1 | ⟨b, o, cap, h1, h2, h3, h4, h5⟩
      · exact .inl h1
      · rcases hs with rfl | rfl
        · exact .inr ⟨b, o, cap, h1, h2, h3, h4, h5⟩
        · simp at h2
    · cases h
  | v y =>
    simp only [Rep] at hx
    subst hx
    unfold elsD at h
    split at h
    · rename_i h0; cases h0
    · rename_i h0; cases h0
      cases h
      exact .inl ⟨rfl, none, 0, rfl, fun _ => rfl⟩
    · cases h
  | _ => simp [elsD] at h

theorem natD_ok {d : D} {n : Nat} {v : Value} {S : Nat → Prop} {L : List (Nat × Nat)} (h : natD d = some n) (hv : Rep S L w v d) : ∃ k, v = .int k n := by
  unfold natD at h
  split at h
  · rename_i k m
    simp only [Rep] at hv
    split at h
    · cases h
      exact ⟨k, by rw [hv, Int.toNat_of_nonneg (by assumption)]⟩
    · cases h
  · cases h
theorem boolD_ok {d : D} {b : Bool} {v : Value} {S : Nat → Prop} {L : List (Nat × Nat)} (h : boolD d = some b) (hv : Rep S L w v d) : v = .bool b := by
  unfold boolD at h
  split at h
  · simp only [Rep] at hv
    cases h; exact hv
  · cases h

theorem elemSz_ok {t : TypeId} {sz : Nat} (h : elemSz P t = some sz) : ∃ e i, P.underlying t = some (.slice e) ∧ P.info? e = some i ∧ i.size = sz := by
  unfold elemSz at h
  split at h
  · rename_i e hu
    cases hi : P.info? e with
    | none => simp [hi] at h
    | some i => exact ⟨e, i, hu, hi, by simpa [hi] using h⟩
  · cases h

theorem index_ok {t : TypeId} {sz : Nat} {x i d : D} {v u : Value} {S : Nat → Prop} {L : List (Nat × Nat)} (ht : elemSz P t = some sz) (h : idxD sz x i = some d) (hv : Rep S L w v x) (hu : Rep S L w u i) :
    ∃ r, (Instr.indexAt t v u).run P w = .ok r w ∧ Rep S L w r d := by
  obtain ⟨e, inf, h1, h2, h3⟩ := elemSz_ok ht
  unfold idxD at h
  cases he : elsD sz x with
  | none => simp [he] at h
  | some els =>
    cases hn : natD i with
    | none => simp [he, hn] at h
    | some n =>
      simp only [he, hn] at h
      cases hg : els[n]? with
      | none => simp [hg] at h
      | some c =>
        simp only [hg, Option.map_some, Option.some.injEq] at h
        subst h
        obtain ⟨k, rfl⟩ := natD_ok hn hu
        have hlt : n < els.length := (List.getElem?_eq_some_iff.1 hg).1
        rcases elsD_ok he hv with ⟨rfl, _⟩ | ⟨b, o, cap, rfl, hp, hc, hb, hr⟩
        · simp at hlt
        · obtain ⟨hl, hcc⟩ := hr.get n c hg
          refine ⟨.pointer (some ⟨b, o + n * sz, none⟩), ?_, ?_⟩
          · have hcond : (0 : Int) ≤ (n : Int) ∧ (n : Int) < (els.length : Int) := by omega
            simp [Instr.indexAt, asIntOf, run_underlying h1, hlt, sizeOf_run h2, h3, addr_add]
          · simp only [Rep]
            exact ⟨b, _, rfl, hb, hcc⟩

/-- An operand that may be missing. -/
def OptRep (S : Nat → Prop) (L : List (Nat × Nat)) (w : World) (u : Option Value) (o : Option D) : Prop := (o = none ∧ u = none) ∨ ∃ d v, o = some d ∧ u = some v ∧ Rep S L w v d

theorem bounds_ok {fl : Bool} {lo hi : Option D} {l h n cap : Nat} {u1 u2 : Option Value} {S : Nat → Prop} {L : List (Nat × Nat)} (h1 : lowD lo = some l) (h2 : highD n hi = some h) (hl : l ≤ h) (hh : h ≤ cap)
    (hu : OptRep S L w u1 lo) (hu' : OptRep S L w u2 hi) : (Instr.sliceBounds fl n cap u1 u2 none).run P w = .ok (l, h, cap) w := by
  have key : ∀ (d : D) (v : Value) (m y : Nat) (code : BoundsCode), natD d = some m → Rep S L w v d → m ≤ y → (Instr.sliceBound v y code).run P w = .ok m w := by
    intro d v m y code hd hv hy
    obtain ⟨k, rfl⟩ := natD_ok hd hv
    simp [Instr.sliceBound, asIntOf, hy]
  rcases hu with ⟨rfl, rfl⟩ | ⟨d1, v1, rfl, rfl, r1⟩ <;> rcases hu' with ⟨rfl, rfl⟩ | ⟨d2, v2, rfl, rfl, r2⟩ <;> simp only [lowD, highD, Option.some.injEq] at h1 h2
  · subst h1; subst h2; simp [Instr.sliceBounds]
  · subst h1; simp [Instr.sliceBounds, key d2 v2 h cap _ h2 r2 hh]
  · subst h2; simp [Instr.sliceBounds, key d1 v1 l n _ h1 r1 hl]
  · simp [Instr.sliceBounds, key d1 v1 l h _ h1 r1 hl, key d2 v2 h cap _ h2 r2 hh]

theorem cut_ok {t : TypeId} {sz : Nat} {x d : D} {v : Value} {lo hi : Option D} {u1 u2 : Option Value} {S : Nat → Prop} {L : List (Nat × Nat)} (ht : elemSz P t = some sz) (h : cutD sz x lo hi = some d) (hv : Rep S L w v x)
    (hu : OptRep S L w u1 lo) (hu' : OptRep S L w u2 hi) : ∃ r, (Instr.sliceAt t v u1 u2 none).run P w = .ok r w ∧ Rep S L w r d := by
  obtain ⟨e, inf, h1, h2, h3⟩ := elemSz_ok ht
  unfold cutD at h
  cases he : elsD sz x with
  | none => simp [he] at h
  | some els =>
    simp only [he] at h
    cases hl : lowD lo with
    | none => simp [hl] at h
    | some l =>
      cases hh : highD els.length hi with
      | none => simp [hl, hh] at h
      | some k =>
        simp only [hl, hh] at h
        split at h
        · rename_i hb
          cases h
          obtain ⟨hb1, hb2⟩ := hb
          rcases elsD_ok he hv with ⟨rfl, p, cap, rfl, hp⟩ | ⟨b, o, cap, rfl, hp, hc, hbs, hr⟩
          · have hk0 : k = 0 := by simpa using hb2
            subst hk0
            have hl0 : l = 0 := by omega
            subst hl0
            have := bounds_ok (P := P) (w := w) (fl := true) (n := 0) (cap := cap) hl (by simpa using hh) hb1 (by omega) hu hu'
            refine ⟨.slice (if cap = 0 then p else p.map (·.add (0 * sz))) 0 cap, ?_, ?_⟩
            · simp [Instr.sliceAt, Instr.slice, run_underlying h1, this, sizeOf_run h2, h3]
            · simp only [Rep]
              refine .inl ⟨by simp, _, _, rfl, fun hq => ?_⟩
              split at hq
              · assumption
              · exact hp (by simpa using hq)
          · have := bounds_ok (P := P) (w := w) (fl := true) (n := els.length) (cap := cap) hl hh hb1 (by omega) hu hu'
            refine ⟨.slice (if cap = l then some ⟨b, o, none⟩ else some ⟨b, o + l * sz, none⟩) (k - l) (cap - l), ?_, ?_⟩
            · simp [Instr.sliceAt, Instr.slice, run_underlying h1, this, sizeOf_run h2, h3, addr_add]
            · simp only [Rep]
              have hlen : ((els.take k).drop l).length = k - l := by simp; omega
              by_cases hkl : k = l
              · refine .inl ⟨List.eq_nil_of_length_eq_zero (by omega), _, cap - l, by rw [hkl, Nat.sub_self], fun hq => ?_⟩
                split at hq <;> cases hq
              · refine .inr ⟨b, o + l * sz, cap - l, ?_, by omega, by omega, hbs, (hr.take k).drop l⟩
                rw [hlen, if_neg (by omega)]
        · cases h

theorem zeroD_ok {t : TypeId} {cs : List D} {S : Nat → Prop} {L : List (Nat × Nat)} (h : zeroD P t = some cs) : ∃ i z, P.info? t = some i ∧ i.zero = some z ∧ cs = z.cells.toList.map D.v ∧ RepA S L w z.cells.toList cs := by
  unfold zeroD at h
  cases hi : P.info? t with
  | none => simp [hi] at h
  | some i =>
    cases hz : i.zero with
    | none => simp [hi, hz] at h
    | some z =>
      simp only [hi, hz, Option.map_some, Option.some.injEq] at h
      refine ⟨i, z, rfl, hz, h.symm, ?_⟩
      subst h
      generalize z.cells.toList = l
      induction l with
      | nil => exact RepA.nil
      | cons a r ih => exact RepA.cons (by simp only [Rep]) ih

/-- The parts of a literal. -/
theorem parts_ok {ρv : Operand → Value} {ρd : Operand → D} {S : Nat → Prop} {L : List (Nat × Nat)} (hρ : ∀ x, Rep S L w (ρv x) (ρd x)) (ps : List (Nat × Operand)) (k : Nat) :
    ((ps.map fun (i, x) => (i, ρd x))[k]?).map (·.1) = ((ps.map fun (i, x) => (i, ρv x))[k]?).map (·.1) ∧
      ∀ (p : Nat × D) (v : Nat × Value), (ps.map fun (i, x) => (i, ρd x))[k]? = some p → (ps.map fun (i, x) => (i, ρv x))[k]? = some v → Rep S L w v.2 p.2 := by
  rw [List.getElem?_map, List.getElem?_map]
  cases ps[k]? with
  | none => simp
  | some q =>
    refine ⟨rfl, fun p v hp hv => ?_⟩
    simp only [Option.map_some, Option.some.injEq] at hp hv
    subst hp; subst hv
    exact hρ q.2

theorem build_ok {t : TypeId} {d : D} {ρv : Operand → Value} {ρd : Operand → D} {S : Nat → Prop} {L : List (Nat × Nat)} (hρ : ∀ x, Rep S L w (ρv x) (ρd x)) (ps : Array (Nat × Operand)) (h : buildD P t (ps.toList.map fun (i, x) => (i, ρd x)) = some d) :
    ∃ r, (Instr.build t (ps.map fun (i, x) => (i, ρv x))).run P w = .ok r w ∧ Rep S L w r d := by
  unfold buildD at h
  split at h
  · rename_i fs z hu hz
    split at h
    · rename_i pl hpl
      obtain ⟨i, zv, h1, h2, h3, h4⟩ := zeroD_ok (S := S) (L := L) (w := w) hz
      unfold buildR at h
      cases hf : fillD (pl[·]?) z (ps.toList.map fun (i, x) => (i, ρd x)) with
      | none => simp [hf] at h
      | some out =>
        simp only [hf, Option.map_some, Option.some.injEq] at h
        subst h
        obtain ⟨ys, h5, h6⟩ := fill_ok (pl[·]?) _ (ps.toList.map fun (i, x) => (i, ρv x)) z zv.cells.toList out h4 (parts_ok hρ ps.toList) hf
        refine ⟨.agg ys.toArray, run_build w t _ _ ?_, ?_⟩
        · unfold Program.built
          simp only [h1, hu, h2, hpl]
          simpa using h5
        · simp only [Rep]; exact ⟨ys, rfl, h6⟩
    · cases h
  · cases h

theorem chunks_length {α : Type} (sz n : Nat) (l : List α) : (chunks sz n l).length = n := by
  induction n generalizing l with
  | zero => rfl
  | succ n ih => simp [chunks, ih]
theorem chunks_all {α : Type} (sz n : Nat) (l : List α) (h : l.length = n * sz) : ∀ e ∈ chunks sz n l, e.length = sz := by
  induction n generalizing l with
  | zero => simp [chunks]
  | succ n ih =>
    rw [Nat.succ_mul] at h
    intro e he
    simp only [chunks, List.mem_cons] at he
    rcases he with rfl | he
    · simp; omega
    · exact ih (l.drop sz) (by simp; omega) e he
theorem chunks_flatten {α : Type} (sz n : Nat) (l : List α) (h : l.length = n * sz) : (chunks sz n l).flatten = l := by
  induction n generalizing l with
  | zero => simp at h; subst h; rfl
  | succ n ih =>
    rw [Nat.succ_mul] at h
    simp only [chunks, List.flatten_cons]
    rw [ih (l.drop sz) (by simp; omega), List.take_append_drop]
theorem RepA.map {S : Nat → Prop} {L : List (Nat × Nat)} (l : List Nat) (f : Nat → Value) (g : Nat → D) (h : ∀ k ∈ l, Rep S L w (f k) (g k)) : RepA S L w (l.map f) (l.map g) := by
  induction l with
  | nil => exact RepA.nil
  | cons a r ih => exact RepA.cons (h a (by simp)) (ih fun k hk => h k (by simp [hk]))

theorem foldSet_length (zs : List (D × Nat)) (off : Nat) (cs : List D) : (zs.foldl (fun acc (p : D × Nat) => acc.set (off + p.2) p.1) cs).length = cs.length := by
  induction zs generalizing cs with
  | nil => rfl
  | cons a b ih => rw [List.foldl_cons, ih, List.length_set]
theorem fillD_length (place : Nat → Option (Nat × Nat)) (parts : List (Nat × D)) (cs out : List D) (h : fillD place cs parts = some out) : out.length = cs.length := by
  induction parts generalizing cs with
  | nil => simp only [fillD, Option.some.injEq] at h; rw [h]
  | cons p r ih =>
    obtain ⟨k, dd⟩ := p
    simp only [fillD] at h
    split at h
    · split at h
      · cases h
      · rw [ih _ h]
        exact foldSet_length _ _ _
    · cases h

theorem run_rowlit (w : World) (t e : TypeId) (len : Nat) (parts : Array (Nat × Value)) (cells : Array Value) (ie : TypeInfo) (z : Value)
    (hu : P.underlying t = some (.slice e)) (hie : P.info? e = some ie) (hz : ie.zero = some z) (hsmall : ¬ len * ie.size > 2 ^ 24) (hpos : ¬ len * ie.size = 0)
    (h : Instr.fill (fun i => some (i * ie.size, ie.size)) ((Array.range (len * ie.size)).map (z.cells[· % z.cells.size]!)) parts.toList = some cells) :
    (Instr.buildSlice t len parts).run P w = .ok (.slice (some ⟨w.heap.size, 0, none⟩) len len) (w.alloc (.cells cells e)) := by
  simp [Instr.buildSlice, run_underlying hu, sizeOf, typeInfo, zeroValue, hie, hz, hsmall, hpos, h, newRow]

theorem rowlit_ok {t : TypeId} {e : TypeId} {sz : Nat} {z : List D} {d : D} {els : List (List D)} {ρv : Operand → Value} {ρd : Operand → D} {S : Nat → Prop} {L : List (Nat × Nat)} (hρ : ∀ x, Rep S L w (ρv x) (ρd x)) (n : Nat) (ps : Array (Nat × Operand))
    (hi : rowInfo P t n = some (e, sz, z)) (h : rowR sz n z (ps.toList.map fun (i, x) => (i, ρd x)) = some d) (he : elsD sz d = some els) :
    ∃ ys : List Value, (Instr.buildSlice t n (ps.map fun (i, x) => (i, ρv x))).run P w = .ok (.slice (some ⟨w.heap.size, 0, none⟩) n n) (w.alloc (.cells ys.toArray e)) ∧ RepA S L w ys els.flatten ∧ els.flatten.length = n * sz ∧ n ≤ 1000 ∧ 0 < sz := by
  unfold rowInfo at hi
  split at hi
  · rename_i e' hu
    split at hi
    · rename_i z' i' hz hinf
      split at hi
      · cases hi
      · rename_i hbad
        cases hi
        obtain ⟨i'', zv, h1, h2, h3, h4⟩ := zeroD_ok (S := S) (L := L) (w := w) hz
        obtain rfl : i'' = i' := by rw [hinf] at h1; cases h1; rfl
        have hs0 : ¬ i''.size = 0 := fun e => hbad (.inl e)
        have hzl : z.length = i''.size := by by_cases e : z.length = i''.size; exact e; exact absurd (.inr (.inl e)) hbad
        have hle : n * i''.size ≤ 1000 := by by_cases e : 1000 < n * i''.size; exact absurd (.inr (.inr e)) hbad; omega
        have hzv : zv.cells.size = i''.size := by rw [← hzl, h3]; simp
        have hn1 : n ≤ 1000 := Nat.le_trans (Nat.le_mul_of_pos_right n (by omega)) hle
        unfold rowR at h
        split at h
        · rename_i hn
          subst hn
          split at h
          · rename_i hps
            cases h
            have : ps = #[] := by simpa using hps
            subst this
            have : els = [] := by simpa [elsD] using he.symm
            subst this
            exact ⟨[], by simp [Instr.buildSlice, run_underlying hu, sizeOf_run hinf, newRow, Instr.fill]; rw [show Array.map (fun _ : Nat => (default : Value)) (Array.range 0) = #[] from by simp [Array.range]], RepA.nil, by simp, by omega, by omega⟩
          · cases h
        · rename_i hn
          have hpos : ¬ n * i''.size = 0 := by
            intro h0
            rcases Nat.mul_eq_zero.1 h0 with h0 | h0
            · exact hn h0
            · exact hs0 h0
          cases hf : fillD (fun k => some (k * i''.size, i''.size)) ((List.range (n * i''.size)).map fun k => z.getD (k % z.length) .undef) (ps.toList.map fun (i, x) => (i, ρd x)) with
          | none => rw [hf] at h; cases h
          | some out =>
            rw [hf] at h
            simp only [Option.map_some, Option.some.injEq] at h
            subst h
            have hinit : RepA S L w ((List.range (n * i''.size)).map (zv.cells[· % zv.cells.size]!)) ((List.range (n * i''.size)).map fun k => z.getD (k % z.length) .undef) := by
              refine RepA.map _ _ _ fun k _ => ?_
              have hm : k % z.length < z.length := Nat.mod_lt _ (by omega)
              have hm' : k % z.length < zv.cells.size := by omega
              rw [hzv, ← hzl, List.getD_eq_getElem?_getD, List.getElem?_eq_getElem hm]
              subst h3
              simp only [Option.getD_some, List.getElem_map, Array.getElem_toList, Rep]
              exact getElem!_pos zv.cells _ hm'
            obtain ⟨ys, h5, h6⟩ := fill_ok (w := w) _ _ (ps.toList.map fun (i, x) => (i, ρv x)) _ _ out hinit (parts_ok hρ ps.toList) hf
            have hlen : out.length = n * i''.size := by rw [fillD_length _ _ _ _ hf]; simp
            have hels : els = chunks i''.size n out := by simpa [elsD] using he.symm
            subst hels
            rw [chunks_flatten _ _ _ hlen]
            refine ⟨ys, run_rowlit w t e n _ _ i'' zv hu hinf h2 (by omega) hpos ?_, h6, hlen, hn1, by omega⟩
            rw [show ((Array.range (n * i''.size)).map (zv.cells[· % zv.cells.size]!)) = ((List.range (n * i''.size)).map (zv.cells[· % zv.cells.size]!)).toArray from by rw [show Array.range (n * i''.size) = (List.range (n * i''.size)).toArray from by simp, List.map_toArray]]
            simpa using h5
    · cases hi
  · cases hi

theorem intsOf_ok {S : Nat → Prop} {L : List (Nat × Nat)} {ds : List D} {a : List Int} {xs : List Value} (h : intsOf ds = some a) (hx : RepA S L w xs ds) : xs = a.map (Value.int .i64) := by
  induction ds generalizing a xs with
  | nil => simp only [intsOf, Option.some.injEq] at h; subst h; simp only [RepA] at hx; rw [hx]; rfl
  | cons d r ih =>
    simp only [RepA] at hx
    obtain ⟨x, ys, rfl, h1, h2⟩ := hx
    unfold intsOf at h
    split at h
    · rename_i he
      cases he
    · rename_i n r' he
      cases he
      cases hr : intsOf r with
      | none => simp [hr] at h
      | some b =>
        simp only [hr, Option.map_some, Option.some.injEq] at h
        subst h
        simp only [Rep] at h1
        rw [h1, ih hr h2]; rfl
    · cases h

theorem eqFields_ok (a b : List Int) (fs : List Field) (k : Nat) (ha : a.length = k + fs.length) (hb : b.length = k + fs.length)
    (h : ∀ p ∈ fs.zipIdx k, p.1.name ≠ "_" ∧ p.1.offset = p.2 ∧ P.underlying p.1.type = some (.int .i64)) (w : World) :
    (Op.eqFields 9999 (a.map (Value.int .i64)).toArray (b.map (Value.int .i64)).toArray fs).run P w = .ok (decide (a.drop k = b.drop k)) w := by
  induction fs generalizing k with
  | nil =>
    simp only [List.length_nil, Nat.add_zero] at ha hb
    simp [Op.eqFields, List.drop_of_length_le (Nat.le_of_eq ha), List.drop_of_length_le (Nat.le_of_eq hb)]
  | cons f r ih =>
    obtain ⟨h1, h2, h3⟩ := h (f, k) (by simp)
    simp only at h1 h2 h3
    simp only [List.length_cons] at ha hb
    have hka : k < a.length := by omega
    have hkb : k < b.length := by omega
    have pa : (part f.type (a.map (Value.int .i64)).toArray f.offset).run P w = .ok (.int .i64 a[k]) w := by simp [part, isAgg_run h3, isAggU, h2, hka]
    have pb : (part f.type (b.map (Value.int .i64)).toArray f.offset).run P w = .ok (.int .i64 b[k]) w := by simp [part, isAgg_run h3, isAggU, h2, hkb]
    have ih' := ih (k + 1) (by omega) (by omega) (fun p hp => h p (by simp [hp]))
    simp only [Op.eqFields, if_pos h1, Sem.run_bind, pa, pb, Result.andThen_ok, run_equalIn_int w 9998 f.type .i64 .i64 _ _ h3]
    rw [List.drop_eq_getElem_cons hka, List.drop_eq_getElem_cons hkb]
    by_cases he : a[k] = b[k]
    · rw [show (a[k] == b[k]) = true from by simp [he]]
      simp only [Bool.not_true, Bool.false_eq_true, if_false, ih', he, List.cons.injEq, true_and]
    · rw [show (a[k] == b[k]) = false from by simp [he]]
      simp only [Bool.not_false, if_true, Sem.run_pure, List.cons.injEq, he, false_and, decide_false]

theorem kind_bool {t : TypeId} (h : kindOf P t = .bool) : P.underlying t = some .bool := by
  unfold kindOf at h
  split at h <;> first | assumption | cases h | (split at h <;> cases h)
theorem kind_sl {t : TypeId} (h : kindOf P t = .sl) : ∃ e, P.underlying t = some (.slice e) := by
  unfold kindOf at h
  split at h <;> first | exact ⟨_, by assumption⟩ | cases h | (split at h <;> cases h)
theorem kind_str {t : TypeId} (h : kindOf P t = .str) : P.underlying t = some .string := by
  unfold kindOf at h
  split at h <;> first | assumption | cases h | (split at h <;> cases h)
theorem kind_ints {t : TypeId} {n : Nat} (h : kindOf P t = .ints n) : ∃ fs, P.underlying t = some (.struct fs) ∧ intStruct P t = true ∧ fs.size = n := by
  unfold kindOf at h
  split at h
  any_goals cases h
  rename_i fs hu
  split at h
  · rename_i hi
    cases h
    exact ⟨fs, hu, hi, rfl⟩
  · cases h

theorem eqStruct_ok {t : TypeId} {x y : D} {b : Bool} {u v : Value} {S : Nat → Prop} {L : List (Nat × Nat)} (h : eqStructD (kindOf P t) x y = some b) (hu : Rep S L w u x) (hv : Rep S L w v y) (o1 o2 : Operand) :
    (∃ xs ys, u = .agg xs ∧ v = .agg ys) ∧ (∀ op, (eqGuard op t o1 o2 u v).run P w = .ok () w) ∧ (Op.equalIn 10000 t u v).run P w = .ok b w := by
  unfold eqStructD at h
  split at h
  · rename_i k n xs ys hk
    obtain ⟨fs, hf, hi, rfl⟩ := kind_ints hk
    split at h
    · rename_i a c ha hc
      split at h
      · rename_i hs
        obtain ⟨hal, hbl⟩ := hs
        cases h
        simp only [Rep] at hu hv
        obtain ⟨us, rfl, hu⟩ := hu
        obtain ⟨vs, rfl, hv⟩ := hv
        have e1 := intsOf_ok ha hu
        have e2 := intsOf_ok hc hv
        subst e1; subst e2
        unfold intStruct at hi
        simp only [hf, Bool.and_eq_true, Bool.not_eq_true', List.all_eq_true] at hi
        obtain ⟨⟨hst, hg⟩, hall⟩ := hi
        have hfs : P.fieldsOf t = fs := by simp [Program.fieldsOf, hf]
        refine ⟨⟨_, _, rfl, rfl⟩, fun op => run_eqGuard_agg w op t o1 o2 _ _ hg, ?_⟩
        have := run_equalIn_agg (P := P) w 9999 t (a.map (Value.int .i64)).toArray (c.map (Value.int .i64)).toArray (by rw [hfs]; exact hf) hst
        rw [this, hfs, eqFields_ok a c fs.toList 0 (by simpa using hal) (by simpa using hbl) (fun p hp => ?_) w]
        · simp
        · have hq := hall p hp
          obtain ⟨⟨q1, q2⟩, q3⟩ := hq
          have q3' : P.underlying p.1.type = some (.int .i64) := by
            revert q3
            cases hup : P.underlying p.1.type with
            | none => simp
            | some u =>
              cases u <;> simp
              rename_i k
              cases k <;> simp
          exact ⟨by simpa using q1, by simpa using q2, q3'⟩
      · cases h
    · cases h
  · cases h

theorem kind_ifc {t : TypeId} (h : kindOf P t = .ifc) : ∃ ms, P.underlying t = some (.interface ms) := by
  unfold kindOf at h
  split at h <;> first | exact ⟨_, by assumption⟩ | cases h | (split at h <;> cases h)
theorem run_equalIn_ifcNil (w : World) (n : Nat) (t u : TypeId) (x : Value) {ms : Array (String × TypeId)} (h : P.underlying t = some (.interface ms)) : (Op.equalIn (n + 1) t (.iface u x) .nilIface).run P w = .ok false w := by
  simp [Op.equalIn, run_underlying h]
theorem run_equalIn_nilNil (w : World) (n : Nat) (t : TypeId) {ms : Array (String × TypeId)} (h : P.underlying t = some (.interface ms)) : (Op.equalIn (n + 1) t .nilIface .nilIface).run P w = .ok true w := by
  simp [Op.equalIn, run_underlying h]
theorem isConst_iff {o : Operand} : isConst o = true → (match o with | .const _ => true | _ => false) = true := by
  cases o <;> simp [isConst]
theorem int_ok {op : BinOp} {t : TypeId} {k : IntKind} {a b : Int} {d : D} (h : intD op k a b = some d) (h1 : op ≠ .shl) (h2 : op ≠ .shr) (o1 o2 : Operand) {S : Nat → Prop} {L : List (Nat × Nat)} :
    ∃ r, (do eqGuard op t o1 o2 (.int k a) (.int k b); binOp op t (.int k a) (.int k b) : Sem Value).run P w = .ok r w ∧ Rep S L w r d := by
  cases op <;> simp only [intD, Option.some.injEq] at h <;> first | (cases h; done) | skip
  case quo =>
    split at h
    · cases h
    · rename_i hb
      cases h
      refine ⟨_, ?_, by simp only [Rep]; rfl⟩; simp [eqGuard, binOp, Op.intDiv, hb]
  case rem =>
    split at h
    · cases h
    · rename_i hb
      cases h
      refine ⟨_, ?_, by simp only [Rep]; rfl⟩; simp [eqGuard, binOp, Op.intDiv, hb]
  all_goals subst h
  all_goals refine ⟨_, ?_, by simp only [Rep]; rfl⟩
  all_goals simp [eqGuard, binOp, Op.intArith, Op.intCmp, Op.intBits]
theorem shift_ok {op : BinOp} {t : TypeId} {k k' : IntKind} {a b : Int} {d : D} (h : shiftD op k a b = some d) (o1 o2 : Operand) {S : Nat → Prop} {L : List (Nat × Nat)} :
    ∃ r, (do eqGuard op t o1 o2 (.int k a) (.int k' b); binOp op t (.int k a) (.int k' b) : Sem Value).run P w = .ok r w ∧ Rep S L w r d := by
  unfold shiftD at h
  split at h
  · cases h
  · rename_i hb
    split at h
    · cases h; refine ⟨_, ?_, by simp only [Rep]; rfl⟩; simp [eqGuard, binOp, Op.shift, hb]
    · cases h; refine ⟨_, ?_, by simp only [Rep]; rfl⟩; simp [eqGuard, binOp, Op.shift, hb]
    · cases h
theorem str_ok {op : BinOp} {t : TypeId} {a b : ByteArray} {d : D} (h : strD op a b = some d) (o1 o2 : Operand) {S : Nat → Prop} {L : List (Nat × Nat)} :
    ∃ r, (do eqGuard op t o1 o2 (.string a) (.string b); binOp op t (.string a) (.string b) : Sem Value).run P w = .ok r w ∧ Rep S L w r d := by
  unfold strD at h
  split at h
  · split at h
    · rename_i hb
      cases h
      have : ¬ (9223372036854775807 < ((a.size + b.size : Nat) : Int)) := by omega
      have h' : ¬ (9223372036854775807 < (a.size : Int) + (b.size : Int)) := by omega
      refine ⟨_, ?_, by simp only [Rep]; rfl⟩
      simp [eqGuard, binOp, Op.stringOp, this, h']
    · cases h
  all_goals first | (cases h; done) | skip
  all_goals cases h
  all_goals refine ⟨_, ?_, by simp only [Rep]; rfl⟩
  all_goals simp [eqGuard, binOp, Op.stringOp]

theorem bin_ok {op : BinOp} {t : TypeId} {x y d : D} {u v : Value} {S : Nat → Prop} {L : List (Nat × Nat)} (h : binK (kindOf P t) op x y = some d) (hu : Rep S L w u x) (hv : Rep S L w v y) (o1 o2 : Operand) :
    ∃ r, (do eqGuard op t o1 o2 u v; binOp op t u v : Sem Value).run P w = .ok r w ∧ Rep S L w r d := by
  unfold binK at h
  split at h
  · rename_i k a k' b
    simp only [Rep] at hu hv
    subst hu; subst hv
    split at h
    · exact shift_ok h o1 o2
    · exact shift_ok h o1 o2
    · rename_i h1 h2
      split at h
      · rename_i hk
        subst hk
        exact int_ok h (fun e => h1 e) (fun e => h2 e) o1 o2
      · cases h
  · rename_i a b
    simp only [Rep] at hu hv
    subst hu; subst hv
    split at h
    · rename_i ht
      cases h
      refine ⟨_, ?_, by simp only [Rep]; rfl⟩
      simp [eqGuard, binOp, Op.equal, Op.maxDepth, run_equalIn_bool' w 9999 t a b (kind_bool ht)]
    · rename_i ht
      cases h
      refine ⟨_, ?_, by simp only [Rep]; rfl⟩
      simp [eqGuard, binOp, Op.equal, Op.maxDepth, run_equalIn_bool' w 9999 t a b (kind_bool ht)]
    · cases h
  · rename_i a b
    simp only [Rep] at hu hv
    subst hu; subst hv
    exact str_ok h o1 o2
  · rename_i ty e
    simp only [Rep] at hu hv
    obtain ⟨z, rfl, _⟩ := hu
    subst hv
    split at h
    · rename_i ht
      obtain ⟨ms, hi⟩ := kind_ifc ht
      cases h
      refine ⟨_, ?_, by simp only [Rep]; rfl⟩
      simp [eqGuard, binOp, Op.equal, Op.maxDepth, run_equalIn_ifcNil w 9999 t _ _ hi]
    · rename_i ht
      obtain ⟨ms, hi⟩ := kind_ifc ht
      cases h
      refine ⟨_, ?_, by simp only [Rep]; rfl⟩
      simp [eqGuard, binOp, Op.equal, Op.maxDepth, run_equalIn_ifcNil w 9999 t _ _ hi]
    · cases h
  · split at h
    · cases he : eqStructD (kindOf P t) x y with
      | none => rw [he] at h; cases h
      | some b =>
        rw [he] at h
        simp only [Option.map_some, Option.some.injEq] at h
        subst h
        obtain ⟨⟨xs, ys, e1, e2⟩, h1, h2⟩ := eqStruct_ok he hu hv o1 o2
        refine ⟨.bool b, ?_, by simp only [Rep]⟩
        rw [e1, e2] at h1 h2 ⊢
        simp [h1, run_eql_struct, h2]
    · cases he : eqStructD (kindOf P t) x y with
      | none => rw [he] at h; cases h
      | some b =>
        rw [he] at h
        simp only [Option.map_some, Option.some.injEq] at h
        subst h
        obtain ⟨⟨xs, ys, e1, e2⟩, h1, h2⟩ := eqStruct_ok he hu hv o1 o2
        refine ⟨.bool !b, ?_, by simp only [Rep]⟩
        rw [e1, e2] at h1 h2 ⊢
        simp [h1, run_neq_struct, h2]
    · cases h
theorem binN_ok {op : BinOp} {t : TypeId} {x y d : D} {u v : Value} {S : Nat → Prop} {L : List (Nat × Nat)} (o1 o2 : Operand) (h : binN (isConst o1 || isConst o2) (kindOf P t) op x y = some d) (hu : Rep S L w u x) (hv : Rep S L w v y) :
    ∃ r, (do eqGuard op t o1 o2 u v; binOp op t u v : Sem Value).run P w = .ok r w ∧ Rep S L w r d := by
  unfold binN at h
  split at h
  · simp only [Rep] at hu hv
    subst hu; subst hv
    have hg : (isConst o1 || isConst o2) = true → ∀ op, (eqGuard op t o1 o2 .nilIface .nilIface).run P w = .ok () w := by
      intro hc op
      cases op <;> first | (simp [eqGuard]; done) | skip
      all_goals cases o1 <;> cases o2 <;> first | (simp [eqGuard]; done) | (simp [isConst] at hc)
    split at h
    · rename_i hc ht
      obtain ⟨ms, hi⟩ := kind_ifc ht
      cases h
      refine ⟨_, ?_, by simp only [Rep]; rfl⟩; simp [hg hc, binOp, Op.equal, Op.maxDepth, run_equalIn_nilNil w 9999 t hi]
    · rename_i hc ht
      obtain ⟨ms, hi⟩ := kind_ifc ht
      cases h
      refine ⟨_, ?_, by simp only [Rep]; rfl⟩; simp [hg hc, binOp, Op.equal, Op.maxDepth, run_equalIn_nilNil w 9999 t hi]
    · cases h
  · exact bin_ok h hu hv o1 o2
end
section
variable {P : Program} {w : World}

theorem len_ok {t : TypeId} {x d : D} {v : Value} {S : Nat → Prop} {L : List (Nat × Nat)} (h : lenK (kindOf P t) x = some d) (hv : Rep S L w v x) (ts : Array TypeId) (ht : ts[0]? = some t) (ty : TypeId) :
    ∃ r, (Builtin.len_ ts ty #[v]).run P w = .ok r w ∧ Rep S L w r d := by
  unfold lenK at h
  split at h
  · rename_i k s els hk
    obtain ⟨e, hu⟩ := kind_sl hk
    cases h
    simp only [Rep] at hv
    rcases hv with ⟨rfl, p, cap, rfl, _⟩ | ⟨b, o, cap, rfl, _⟩
    · exact ⟨_, by simp [Builtin.len_, ht, run_underlying hu]; rfl, by simp only [Rep]; rfl⟩
    · exact ⟨_, by simp [Builtin.len_, ht, run_underlying hu]; rfl, by simp only [Rep]; rfl⟩
  · rename_i k p n c hk
    obtain ⟨e, hu⟩ := kind_sl hk
    cases h
    simp only [Rep] at hv
    subst hv
    exact ⟨_, by simp [Builtin.len_, ht, run_underlying hu]; rfl, by simp only [Rep]; rfl⟩
  · rename_i k s hk
    have hu := kind_str hk
    cases h
    simp only [Rep] at hv
    subst hv
    exact ⟨_, by simp [Builtin.len_, ht, run_underlying hu]; rfl, by simp only [Rep]; rfl⟩
  · cases h

theorem fold_ok {S : Nat → Prop} {L : List (Nat × Nat)} (f : Int → Int → Int) (g : Value → Value → Sem Value) (hg : ∀ k k' a b, g (.int k a) (.int k' b) = pure (.int k (f a b))) (k : IntKind) (ds : List D) (vs : List Value) (a : Int) (n : Int)
    (h : ds.foldl (stepIntD f) (some a) = some n) (hv : RepA S L w vs ds) : (vs.foldlM g (.int k a)).run P w = .ok (.int k n) w := by
  induction ds generalizing vs a with
  | nil => simp only [RepA] at hv; subst hv; simp at h; subst h; rfl
  | cons d r ih =>
    simp only [RepA] at hv
    obtain ⟨x, ys, rfl, h1, h2⟩ := hv
    simp only [List.foldl_cons] at h
    have hnone : ∀ l : List D, l.foldl (stepIntD f) (none : Option Int) = none := by
      intro l
      induction l with
      | nil => rfl
      | cons e t ih => rw [List.foldl_cons]; exact ih
    unfold stepIntD at h
    split at h
    · rename_i a' k' b heq1
      cases heq1
      simp only [Rep] at h1
      subst h1
      change r.foldl (stepIntD f) _ = _ at h
      simp only [List.foldlM_cons, hg, Sem.run_bind, Sem.run_pure, Result.andThen_ok]
      exact ih ys _ h h2
    · change r.foldl (stepIntD f) none = _ at h; rw [hnone] at h; cases h
theorem foldInt_ok {S : Nat → Prop} {L : List (Nat × Nat)} {d : D} (f : Int → Int → Int) (g : Value → Value → Sem Value) (hg : ∀ k k' a b, g (.int k a) (.int k' b) = pure (.int k (f a b))) (ds : List D) (vs : List Value)
    (h : foldIntD f ds = some d) (hv : RepA S L w vs ds) : ∃ x r y, vs = x :: r ∧ (r.foldlM g x).run P w = .ok y w ∧ Rep S L w y d := by
  unfold foldIntD at h
  split at h
  · rename_i k a r
    simp only [RepA] at hv
    obtain ⟨x, ys, rfl, h1, h2⟩ := hv
    simp only [Rep] at h1
    subst h1
    cases hf : r.foldl (stepIntD f) (some a) with
    | none => rw [hf] at h; cases h
    | some n =>
      rw [hf] at h
      simp only [Option.map_some, Option.some.injEq] at h
      subst h
      exact ⟨_, _, _, rfl, fold_ok f g hg k r ys a n hf h2, by simp only [Rep]⟩
  · cases h
theorem RepA.ops {S : Nat → Prop} {L : List (Nat × Nat)} {ρv : Operand → Value} {ρd : Operand → D} (hρ : ∀ x, Rep S L w (ρv x) (ρd x)) (l : List Operand) : RepA S L w (l.map ρv) (l.map ρd) := by
  induction l with
  | nil => exact RepA.nil
  | cons a r ih => exact RepA.cons (hρ a) ih
theorem optRep_map {S : Nat → Prop} {L : List (Nat × Nat)} {ρv : Operand → Value} {ρd : Operand → D} (hρ : ∀ x, Rep S L w (ρv x) (ρd x)) (o : Option Operand) : OptRep S L w (o.map ρv) (o.map ρd) := by
  cases o with
  | none => exact .inl ⟨rfl, rfl⟩
  | some x => exact .inr ⟨_, _, rfl, rfl, hρ x⟩

end
end Go.Proofs.Ytnmgfobpcengkaa
