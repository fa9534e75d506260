/-
  Parts joined into one text: HDenOpOk, HDenCall, Region. No condition.
-/
import Derived.OrdersIn
import Derived.WalkKit
import Derived.OwnWalkIn
import Derived.Test.YtbnmkdlmalobaaaVc

section
namespace Go.Proofs.Ytbnmkdlmalobaaa
open Go.RowKit
set_option linter.unusedVariables false
set_option linter.unusedSimpArgs false

section
variable {P : Program} {B : Nat} {S : Nat → Prop} {L : List (Nat × Nat)} {w : World} {H : Heap}

theorem loadH_ok {t : TypeId} {s : Option Nat} {x d : D} {u : Value} (hs : shapeOf P t = some s) (h : loadH s H x = some d) (hu : Rep S L w u x) (hr : HRel B S L w H) : ∃ r, (Instr.loadAt t u).run P w = .ok r w ∧ Rep S L w r d := by
  have lift : ∀ (b o : Nat) (cs : List D), RepC S L w b o cs → partS s cs 0 = some d → ∃ r, (Instr.loadAt t (.pointer (some ⟨b, o, none⟩))).run P w = .ok r w ∧ Rep S L w r d := fun b o cs hc hp =>
    load_ok (P := P) (t := t) (show partD P t cs 0 = some d by unfold partD; rw [hs]; exact hp) hc
  unfold loadH at h
  split at h
  · rename_i id off
    split at h
    · rename_i t' sz cs hid
      simp only [Rep] at hu
      obtain ⟨b, c, hL, rfl⟩ := hu
      obtain ⟨arr, h1, h2, h3, h4, h5⟩ := row_values hr hid hL
      refine lift b off _ ?_ h
      have h6 : RepC S L w b 0 cs := RepC.of h5 fun j x hj => by
        have hlt := (List.getElem?_eq_some_iff.1 hj).1
        rw [Nat.zero_add, cell_of_heap h1]
        rw [List.getElem?_take_of_lt (by simp at hlt; omega)] at hj
        simpa using hj
      have := h6.drop off
      rwa [Nat.zero_add] at this
    · cases h
  · unfold loadD at h
    obtain ⟨cs, hp, h⟩ := Option.bind_eq_some_iff.1 h
    unfold ptrOf at hp
    split at hp
    · cases hp
      simp only [Rep] at hu
      obtain ⟨b, o, rfl, hb, hc⟩ := hu
      obtain ⟨r, q1, q2⟩ := load_ok (P := P) (t := t) (show partD P t cs 0 = some d by unfold partD; rw [hs]; exact h) hc
      exact ⟨r, q1, q2.lift⟩
    · cases hp

theorem storeH_ok {t : TypeId} {i : TypeInfo} {x v : D} {u y : Value} {H' : Heap} (hi : P.info? t = some i) (h : storeH i.size x v H = some H') (hu : Rep S L w u x) (hv : Rep S L w y v) (hr : HRel B S L w H) :
    ∃ w', (Instr.storeAt t u y).run P w = .ok () w' ∧ HRel B S L w' H' ∧ Later B S S L L w w' := by
  unfold storeH at h
  split at h
  · rename_i id off ds hds
    split at h
    · rename_i t' sz cs hid
      split at h
      · rename_i hc
        obtain ⟨hl, hle, hok⟩ := hc
        cases h
        simp only [Rep] at hu
        obtain ⟨b, c, hL, rfl⟩ := hu
        obtain ⟨ys, hy1, hy2⟩ := cellsD_ok hds hv
        obtain ⟨arr, g1, g2, g3, g4, g5⟩ := row_values hr hid hL
        have hyl := hy2.length
        have hone := cells_one hy2 hok
        have hone0 : ∀ (j : Nat) (d : D), cs[j]? = some d → ∃ x, arr[j]? = some x ∧ x.oneCell' = true ∧ Rep S L w x d := by
          obtain ⟨b', c', arr', k1, k2, k3, k4, k5, k6, k7, k8⟩ := hr.live id _ _ cs hid
          rw [hL] at k1; cases k1
          rw [g1] at k4; cases k4
          exact k8
        have hst := run_storeCells_at P b off t' ys 0 arr w g1 (by omega) hone
        simp only [Nat.add_zero] at hst
        have hw := hr.write hid hL (arr.toList.take off ++ ys ++ arr.toList.drop (off + ys.length)).toArray (cs.take off ++ ds ++ cs.drop (off + ds.length)) (by
          simp only [List.size_toArray, List.length_append, List.length_take, List.length_drop, Array.length_toList]; omega) (by
          simp only [List.size_toArray, List.length_append, List.length_take, List.length_drop, Array.length_toList]; omega) (by
          intro j d hj
          by_cases h1 : j < off
          · rw [List.append_assoc, List.getElem?_append_left (by simp; omega), List.getElem?_take_of_lt h1] at hj
            obtain ⟨x, q1, q2, q3⟩ := hone0 j d hj
            refine ⟨x, ?_, q2, q3⟩
            simp only [List.getElem?_toArray, List.append_assoc]
            rw [List.getElem?_append_left (by simp; omega), List.getElem?_take_of_lt h1]
            simpa using q1
          · by_cases h2 : j < off + ds.length
            · rw [List.append_assoc, List.getElem?_append_right (by simp; omega), List.getElem?_append_left (by simp; omega)] at hj
              obtain ⟨x, q1, q2⟩ := hy2.get _ d hj
              refine ⟨x, ?_, oneCell_of (List.all_eq_true.1 hok d (List.mem_of_getElem? hj)) q2, q2⟩
              simp only [List.getElem?_toArray, List.append_assoc]
              rw [List.getElem?_append_right (by simp; omega), List.getElem?_append_left (by simp; omega), ← q1]
              congr 1
              simp; omega
            · rw [List.getElem?_append_right (by simp; omega), List.getElem?_drop] at hj
              obtain ⟨x, q1, q2, q3⟩ := hone0 _ d hj
              refine ⟨x, ?_, q2, q3⟩
              simp only [List.getElem?_toArray]
              rw [List.getElem?_append_right (by simp; omega), List.getElem?_drop, Array.getElem?_toList, ← q1]
              congr 1
              simp; omega)
        refine ⟨_, ?_, hw.1, hw.2⟩
        have hsz : y.cells.size = i.size := by rw [hy1]; simp; omega
        simp [Instr.storeAt, Instr.sureAddr, storeVar, sizeOf_run hi, hsz, hy1, hst]
        rw [hy1] at hsz
        simp at hsz
        simp [hsz]
      · cases h
    · cases h
  · cases h

theorem idxH_ok {t : TypeId} {sz : Nat} {x i d : D} {v u : Value} (ht : elemSz P t = some sz) (h : idxH sz x i = some d) (hv : Rep S L w v x) (hu : Rep S L w u i) : ∃ r, (Instr.indexAt t v u).run P w = .ok r w ∧ Rep S L w r d := by
  unfold idxH at h
  split at h
  · rename_i id n
    obtain ⟨k, hk, h⟩ := Option.bind_eq_some_iff.1 h
    split at h
    · rename_i hlt
      cases h
      obtain ⟨e, inf, h1, h2, h3⟩ := elemSz_ok ht
      obtain ⟨kd, rfl⟩ := natD_ok hk hu
      simp only [Rep] at hv
      obtain ⟨b, c, hL, hnc, rfl⟩ := hv
      refine ⟨.pointer (some ⟨b, 0 + k * sz, none⟩), ?_, ?_⟩
      · simp [Instr.indexAt, asIntOf, run_underlying h1, hlt, sizeOf_run h2, h3, addr_add]
      · simp only [Rep]; exact ⟨b, c, hL, by simp⟩
    · cases h
  · rename_i id off n
    obtain ⟨k, hk, h⟩ := Option.bind_eq_some_iff.1 h
    split at h
    · rename_i hlt
      cases h
      obtain ⟨e, inf, h1, h2, h3⟩ := elemSz_ok ht
      obtain ⟨kd, rfl⟩ := natD_ok hk hu
      simp only [Rep] at hv
      obtain ⟨b, c, o, cap, hL, rfl, hnc, ho⟩ := hv
      obtain rfl := ho (by omega)
      refine ⟨.pointer (some ⟨b, o + k * sz, none⟩), ?_, ?_⟩
      · simp [Instr.indexAt, asIntOf, run_underlying h1, hlt, sizeOf_run h2, h3, addr_add]
      · simp only [Rep]; exact ⟨b, c, hL, rfl⟩
    · cases h
  · exact index_ok ht h hv hu

theorem idxA_ok {t : TypeId} {a : Nat × Nat} {x i d : D} {v u : Value} (ht : arrD P t = some a) (h : idxA a.1 a.2 x i = some d) (hv : Rep S L w v x) (hu : Rep S L w u i) : ∃ r, (Instr.indexAt t v u).run P w = .ok r w ∧ Rep S L w r d := by
  unfold arrD at ht
  split at ht
  · rename_i n e h1
    obtain ⟨inf, h2, rfl⟩ := Option.map_eq_some_iff.1 ht
    unfold idxA at h
    split at h
    · rename_i id off
      obtain ⟨k, hk, h⟩ := Option.bind_eq_some_iff.1 h
      split at h
      · rename_i hlt
        cases h
        obtain ⟨kd, rfl⟩ := natD_ok hk hu
        simp only [Rep] at hv
        obtain ⟨b, c, hL, rfl⟩ := hv
        refine ⟨.pointer (some ⟨b, off + k * inf.size, none⟩), ?_, ?_⟩
        · simp only at hlt
          simp [Instr.indexAt, asIntOf, run_underlying h1, Instr.sureAddr, hlt, sizeOf_run h2, addr_add]
        · simp only [Rep]; exact ⟨b, c, hL, rfl⟩
      · cases h
    · cases h
  · cases ht
theorem cutH_ok {t : TypeId} {sz : Nat} {x d : D} {v : Value} {lo hi : Option D} {u1 u2 : Option Value} (ht : elemSz P t = some sz) (h : cutH sz x lo hi = some d) (hv : Rep S L w v x)
    (hu : OptRep S L w u1 lo) (hu' : OptRep S L w u2 hi) : ∃ r, (Instr.sliceAt t v u1 u2 none).run P w = .ok r w ∧ Rep S L w r d := by
  unfold cutH at h
  split at h
  · rename_i id n
    split at h
    · rename_i l k hl hk
      split at h
      · rename_i hc
        obtain ⟨rfl, hkn⟩ := hc
        cases h
        obtain ⟨e, inf, h1, h2, h3⟩ := elemSz_ok ht
        simp only [Rep] at hv
        obtain ⟨b, c, hL, hnc, rfl⟩ := hv
        have := bounds_ok (P := P) (w := w) (fl := true) (n := n) (cap := c) hl hk (Nat.zero_le _) (by omega) hu hu'
        refine ⟨.slice (some ⟨b, 0, none⟩) k c, ?_, ?_⟩
        · have e1 : (if c = 0 then (some ⟨b, 0, none⟩ : Option Addr) else some ⟨b, 0, none⟩) = some ⟨b, 0, none⟩ := by split <;> rfl
          simp [Instr.sliceAt, Instr.slice, run_underlying h1, this, sizeOf_run h2, h3, addr_add, e1]
        · simp only [Rep]; exact ⟨b, c, hL, by omega, rfl⟩
      · split at h
        · rename_i hc
          obtain ⟨hlk, hkn⟩ := hc
          cases h
          obtain ⟨e, inf, h1, h2, h3⟩ := elemSz_ok ht
          simp only [Rep] at hv
          obtain ⟨b, c, hL, hnc, rfl⟩ := hv
          have := bounds_ok (P := P) (w := w) (fl := true) (n := n) (cap := c) hl hk hlk (by omega) hu hu'
          refine ⟨.slice (some ⟨b, if c = l then 0 else 0 + l * sz, none⟩) (k - l) (c - l), ?_, ?_⟩
          · have e1 : (if c = l then (some ⟨b, 0, none⟩ : Option Addr) else some ⟨b, 0 + l * sz, none⟩) = some ⟨b, if c = l then 0 else 0 + l * sz, none⟩ := by split <;> rfl
            simp [Instr.sliceAt, Instr.slice, run_underlying h1, this, sizeOf_run h2, h3, addr_add]
            split <;> rfl
          · simp only [Rep]
            refine ⟨b, c, _, _, hL, rfl, by omega, fun hp => ?_⟩
            rw [if_neg (by omega), Nat.zero_add]
        · cases h
    · cases h
  · rename_i id off n
    split at h
    · rename_i l k hl hk
      split at h
      · rename_i hc
        obtain ⟨hlk, hkn⟩ := hc
        cases h
        obtain ⟨e, inf, h1, h2, h3⟩ := elemSz_ok ht
        simp only [Rep] at hv
        obtain ⟨b, c, o, cap, hL, rfl, hnc, ho⟩ := hv
        have := bounds_ok (P := P) (w := w) (fl := true) (n := n) (cap := cap) hl hk hlk (by omega) hu hu'
        refine ⟨.slice (some ⟨b, if cap = l then o else o + l * sz, none⟩) (k - l) (cap - l), ?_, ?_⟩
        · simp [Instr.sliceAt, Instr.slice, run_underlying h1, this, sizeOf_run h2, h3, addr_add]
          split <;> rfl
        · simp only [Rep]
          refine ⟨b, c, _, _, hL, rfl, by omega, fun hp => ?_⟩
          rw [if_neg (by omega), ho (by omega)]
      · cases h
    · cases h
  · exact cut_ok ht h hv hu hu'

theorem lenH_ok {t : TypeId} {x d : D} {v : Value} (h : lenH (kindOf P t) x = some d) (hv : Rep S L w v x) (ts : Array TypeId) (ht : ts[0]? = some t) (ty : TypeId) : ∃ r, (Builtin.len_ ts ty #[v]).run P w = .ok r w ∧ Rep S L w r d := by
  unfold lenH at h
  split at h
  · rename_i k id n hk
    obtain ⟨e, hu⟩ := kind_sl hk
    cases h
    simp only [Rep] at hv
    obtain ⟨b, c, hL, hnc, rfl⟩ := hv
    exact ⟨_, by simp [Builtin.len_, ht, run_underlying hu]; rfl, by simp only [Rep]; rfl⟩
  · rename_i k id off n hk
    obtain ⟨e, hu⟩ := kind_sl hk
    cases h
    simp only [Rep] at hv
    obtain ⟨b, c, o, cap, hL, rfl, hnc, ho⟩ := hv
    exact ⟨_, by simp [Builtin.len_, ht, run_underlying hu]; rfl, by simp only [Rep]; rfl⟩
  · exact len_ok h hv ts ht ty

theorem fieldAtH_ok {t u : TypeId} {f off : Nat} {x d : D} {v : Value} {inf : TypeInfo} (hf : fldD P t f = some (u, off)) (hi : P.info? u = some inf) (hsz : ¬ inf.size = 0) (h : fieldAtH off x = some d) (hv : Rep S L w v x) : ∃ r, (Instr.fieldAt t v f).run P w = .ok r w ∧ Rep S L w r d := by
  unfold fldD at hf
  split at hf
  · rename_i fs hu
    cases hfi : fs[f]? with
    | none => rw [hfi] at hf; cases hf
    | some fl =>
      rw [hfi] at hf
      simp only [Option.map_some, Option.some.injEq, Prod.mk.injEq] at hf
      obtain ⟨rfl, rfl⟩ := hf
      unfold fieldAtH at h
      split at h
      · rename_i id o
        cases h
        simp only [Rep] at hv
        obtain ⟨b, c, hL, rfl⟩ := hv
        refine ⟨.pointer (some ⟨b, o + fl.offset, none⟩), ?_, ?_⟩
        · simp [Instr.fieldAt, run_underlying hu, hfi, Instr.sureAddr, fieldPlace, sizeOf_run hi, hsz, addr_add]
        · simp only [Rep]; exact ⟨b, c, hL, rfl⟩
      · unfold fieldAtD at h
        cases hx : ptrOf x with
        | none => rw [hx] at h; cases h
        | some cs =>
          rw [hx] at h
          simp only [Option.map_some, Option.some.injEq] at h
          subst h
          unfold ptrOf at hx
          split at hx
          · cases hx
            simp only [Rep] at hv
            obtain ⟨b, o, rfl, hb, h2⟩ := hv
            refine ⟨.pointer (some ⟨b, o + fl.offset, none⟩), ?_, ?_⟩
            · simp [Instr.fieldAt, run_underlying hu, hfi, Instr.sureAddr, fieldPlace, sizeOf_run hi, hsz, addr_add]
            · simp only [Rep]; exact ⟨b, _, rfl, hb, h2.drop _⟩
          · cases hx
  · cases hf

set_option maxHeartbeats 2000000 in
theorem opH_ok {o : Oper} {d : D} {H' : Heap} {ρv : Operand → Value} {ρd : Operand → D} (h : opH P o.op ρd H = some (d, H')) (hρ : ∀ x, Rep S L w (ρv x) (ρd x)) (hr : HRel B S L w H) :
    ∃ x w' L', ((execOp ρv o).run P w = .ok (.value x) w' ∨ ((execOp ρv o).run P w = .ok .skip w' ∧ x = undef)) ∧ Rep S L' w' x d ∧ HRel B S L' w' H' ∧ Later B S S L L' w w' := by
  obtain ⟨dst, op, type, pos, after, guard⟩ := o
  simp only at h
  have quiet : ∀ {s : Sem Value} {od : Option D}, same H od = some (d, H') → (∀ d, od = some d → ∃ r, s.run P w = .ok r w ∧ Rep S L w r d) →
      ∃ x w' L', ((do pure (.value (← s)) : Sem Next).run P w = .ok (.value x) w' ∨ ((do pure (.value (← s)) : Sem Next).run P w = .ok .skip w' ∧ x = undef)) ∧ Rep S L' w' x d ∧ HRel B S L' w' H' ∧ Later B S S L L' w w' := by
    intro s od hs hall
    unfold same at hs
    cases od with
    | none => cases hs
    | some d' =>
      simp only [Option.map_some, Option.some.injEq, Prod.mk.injEq] at hs
      obtain ⟨rfl, rfl⟩ := hs
      obtain ⟨r, h1, h2⟩ := hall d' rfl
      exact ⟨r, w, L, .inl (by simp [h1]), h2, hr, Later.refl⟩
  unfold opH at h
  split at h
  · rename_i x
    cases h
    exact ⟨_, w, L, .inl rfl, hρ x, hr, Later.refl⟩
  · rename_i x
    cases h
    exact ⟨_, w, L, .inl rfl, hρ x, hr, Later.refl⟩
  · -- pick
    rename_i c a b
    unfold same pickD at h
    cases hb : boolD (ρd c) with
    | none => rw [hb] at h; cases h
    | some t =>
      rw [hb] at h
      simp only [Option.map_some, Option.some.injEq, Prod.mk.injEq] at h
      obtain ⟨rfl, rfl⟩ := h
      have hc := boolD_ok hb (hρ c)
      refine ⟨_, w, L, .inl (by simp [execOp, hc, asBool]; rfl), ?_, hr, Later.refl⟩
      cases t
      · exact hρ b
      · exact hρ a
  · -- load
    rename_i t a
    obtain ⟨s, hs, h⟩ := Option.bind_eq_some_iff.1 h
    exact quiet h fun d hd => loadH_ok hs hd (hρ a) hr
  · -- box
    rename_i t x
    unfold boxH at h
    obtain ⟨cs, hc, h⟩ := Option.bind_eq_some_iff.1 h
    cases hn : newH t cs.length cs H with
    | none => rw [hn] at h; cases h
    | some r =>
      rw [hn] at h
      obtain ⟨id, H2⟩ := r
      simp only [Option.map_some, Option.some.injEq, Prod.mk.injEq] at h
      obtain ⟨rfl, rfl⟩ := h
      obtain ⟨xs, h1, h2⟩ := cellsD_ok hc (hρ x)
      obtain ⟨L', q1, q2, q3⟩ := new_obj hr hn h2 (c := 1) (by rw [h2.length]; simp) (by decide) _ h1
      exact ⟨.pointer (some ⟨w.heap.size, 0, none⟩), _, L', .inl (by simp [execOp, Instr.box, newVar, newRow]), by simp only [Rep]; exact ⟨_, _, q1, rfl⟩, q2, q3⟩
  · -- alloc
    rename_i t
    obtain ⟨z, hz, h⟩ := Option.bind_eq_some_iff.1 h
    unfold allocH at h
    cases hn : newH t z.length z H with
    | none => rw [hn] at h; cases h
    | some r =>
      rw [hn] at h
      obtain ⟨id, H2⟩ := r
      simp only [Option.map_some, Option.some.injEq, Prod.mk.injEq] at h
      obtain ⟨rfl, rfl⟩ := h
      obtain ⟨i, zv, z1, z2, z3, z4⟩ := zeroD_ok (S := S) (L := L) (w := w) hz
      obtain ⟨L', q1, q2, q3⟩ := new_obj hr hn z4 (c := 1) (by rw [z4.length]; simp) (by decide) zv.cells (by simp)
      exact ⟨.pointer (some ⟨w.heap.size, 0, none⟩), _, L', .inl (by simp [execOp, Instr.alloc, zeroValue, typeInfo, z1, z2, newVar, newRow]), by simp only [Rep]; exact ⟨_, _, q1, rfl⟩, q2, q3⟩
  · -- store
    rename_i t a x
    obtain ⟨i, hi, h⟩ := Option.bind_eq_some_iff.1 h
    unfold setH at h
    cases hs : storeH i.size (ρd a) (ρd x) H with
    | none => rw [hs] at h; cases h
    | some H2 =>
      rw [hs] at h
      simp only [Option.map_some, Option.some.injEq, Prod.mk.injEq] at h
      obtain ⟨rfl, rfl⟩ := h
      obtain ⟨w', h1, h2, h3⟩ := storeH_ok hi hs (hρ a) (hρ x) hr
      exact ⟨undef, w', L, .inr ⟨by simp [execOp, h1], rfl⟩, by simp only [Rep], h2, h3⟩
  · -- field
    rename_i t x f
    obtain ⟨⟨u, off⟩, hf, h⟩ := Option.bind_eq_some_iff.1 h
    obtain ⟨sh, hsh, h⟩ := Option.bind_eq_some_iff.1 h
    simp only at hsh h
    refine quiet h fun d hd => ?_
    unfold fieldD at hd
    obtain ⟨cs, hx, hd⟩ := Option.bind_eq_some_iff.1 hd
    have hxr := hρ x
    unfold aggOf at hx
    split at hx
    · rename_i cs' hcs
      cases hx
      rw [hcs] at hxr
      simp only [Rep] at hxr
      obtain ⟨xs, h1, h2⟩ := hxr
      unfold fldD at hf
      split at hf
      · rename_i fs hu
        cases hfi : fs[f]? with
        | none => rw [hfi] at hf; cases hf
        | some fl =>
          rw [hfi] at hf
          simp only [Option.map_some, Option.some.injEq, Prod.mk.injEq] at hf
          obtain ⟨rfl, rfl⟩ := hf
          obtain ⟨r, h3, h4⟩ := part_ok (P := P) (t := fl.type) (show partD P fl.type cs fl.offset = some d by unfold partD; rw [hsh]; exact hd) h2
          refine ⟨r, ?_, h4⟩
          simp [Instr.field, run_underlying hu, hfi, h1, asAgg, h3]
      · cases hf
    · cases hx
  · -- fieldAddr
    rename_i t x f
    obtain ⟨⟨u, off⟩, hf, h⟩ := Option.bind_eq_some_iff.1 h
    obtain ⟨inf, hi, h⟩ := Option.bind_eq_some_iff.1 h
    simp only at hi h
    split at h
    · cases h
    · rename_i hsz
      exact quiet h fun d hd => fieldAtH_ok hf hi hsz hd (hρ x)
  · -- indexAddr
    rename_i t x i
    split at h
    · rename_i a ha
      exact quiet h fun d hd => idxA_ok ha hd (hρ x) (hρ i)
    · obtain ⟨sz, hs, h⟩ := Option.bind_eq_some_iff.1 h
      exact quiet h fun d hd => idxH_ok hs hd (hρ x) (hρ i)
  · -- slice
    rename_i t x lo hi
    split at h
    · rename_i ht
      exact quiet h fun d hd => cutS_ok ht hd (hρ x) (optRep_map hρ lo) (optRep_map hρ hi)
    · obtain ⟨sz, hs, h⟩ := Option.bind_eq_some_iff.1 h
      exact quiet h fun d hd => cutH_ok hs hd (hρ x) (optRep_map hρ lo) (optRep_map hρ hi)
  · -- build
    rename_i t ps
    exact quiet h fun d hd => build_ok hρ ps hd
  · -- buildSlice
    rename_i t n ps
    obtain ⟨⟨e, sz, z⟩, hi, h⟩ := Option.bind_eq_some_iff.1 h
    simp only [rowH] at h
    obtain ⟨dr, hrow, h⟩ := Option.bind_eq_some_iff.1 h
    obtain ⟨els, he, h⟩ := Option.bind_eq_some_iff.1 h
    cases hn : newH e sz els.flatten H with
    | none => rw [hn] at h; cases h
    | some r =>
      rw [hn] at h
      obtain ⟨id, H2⟩ := r
      simp only [Option.map_some, Option.some.injEq, Prod.mk.injEq] at h
      obtain ⟨rfl, rfl⟩ := h
      obtain ⟨ys, h1, h2, h3, h4, h5⟩ := rowlit_ok hρ n ps hi hrow he
      obtain ⟨L', q1, q2, q3⟩ := new_obj hr hn h2 (c := n) (by rw [h2.length, h3]) (by unfold maxLen; omega) _ rfl
      exact ⟨.slice (some ⟨w.heap.size, 0, none⟩) n n, _, L', .inl (by simp [execOp, h1]), by simp only [Rep]; exact ⟨_, _, q1, Nat.le_refl _, rfl⟩, q2, q3⟩
  · -- binOp
    rename_i op t x y ty
    exact quiet h fun d hd => binN_ok x y hd (hρ x) (hρ y)
  · -- not
    rename_i t x
    refine quiet h fun d hd => ?_
    unfold notD at hd
    cases hb : boolD (ρd x) with
    | none => rw [hb] at hd; cases hd
    | some b =>
      rw [hb] at hd
      simp only [Option.map_some, Option.some.injEq] at hd
      subst hd
      have hx := boolD_ok hb (hρ x)
      exact ⟨.bool !b, by rw [hx]; rfl, by simp only [Rep]⟩
  · -- neg
    rename_i t x
    refine quiet h fun d hd => ?_
    have hx := hρ x
    unfold negD at hd
    split at hd
    · rename_i k n hn
      cases hd
      rw [hn] at hx
      simp only [Rep] at hx
      exact ⟨_, by rw [hx]; rfl, by simp only [Rep]⟩
    · cases hd
  · -- xor
    rename_i t x
    refine quiet h fun d hd => ?_
    have hx := hρ x
    unfold xorD at hd
    split at hd
    · rename_i k n hn
      rw [hn] at hx
      simp only [Rep] at hx
      simp only [intD, Option.some.injEq] at hd
      subst hd
      exact ⟨_, by rw [hx]; rfl, by simp only [Rep]⟩
    · cases hd
  · -- makeSlice
    rename_i t n m
    obtain ⟨⟨e, sz, z⟩, hi, h⟩ := Option.bind_eq_some_iff.1 h
    obtain ⟨r, w', L', h1, h2, h3, h4⟩ := make_ok hi h (hρ n) (hρ m) hr
    exact ⟨r, w', L', .inl (by simp [execOp, h1]), h2, h3, h4⟩
  · -- convert
    rename_i s t x
    split at h
    · rename_i k1 k2 h1 h2
      refine quiet h fun d hd => ?_
      have hx := hρ x
      unfold intOf64 at hd
      split at hd
      · rename_i k n hn
        cases hd
        rw [hn] at hx
        simp only [Rep] at hx
        refine ⟨_, ?_, by simp only [Rep]; rfl⟩
        simp [convert, run_underlying h1, run_underlying h2, hx, Conv.intToInt]
      · cases hd
    · rename_i e h1 h2
      split at h
      · rename_i h3
        exact quiet h fun d hd => bytesS_ok h1 h3 h2 hd (hρ x) hr
      · cases h
    · rename_i h1 h2
      refine quiet h fun d hd => ?_
      cases hs : strOf (ρd x) with
      | none => rw [hs] at hd; cases hd
      | some sv =>
        rw [hs] at hd
        simp only [Option.map_some, Option.some.injEq] at hd
        subst hd
        have hx := strOf_ok hs (hρ x)
        exact ⟨.string sv, by simp [convert, run_underlying h1, run_underlying h2, hx], by simp only [Rep]⟩
    · cases h
  · -- index
    rename_i t x i
    split at h
    · rename_i ht
      exact quiet h fun d hd => idxS_ok ht hd (hρ x) (hρ i)
    · cases h
  · -- makeMap
    rename_i t
    split at h
    · obtain ⟨r, w', L', h1, h2, h3, h4⟩ := newM_ok (P := P) t h hr
      exact ⟨r, w', L', .inl (by simp [execOp, h1]), h2, h3, h4⟩
    · cases h
  · -- mapUpdate
    rename_i t m k x
    obtain ⟨e, he, h⟩ := Option.bind_eq_some_iff.1 h
    obtain ⟨rfl, w', h1, h2, h3⟩ := upd_ok he h (hρ m) (hρ k) (hρ x) hr
    exact ⟨undef, w', L, .inr ⟨by simp [execOp, h1], rfl⟩, by simp only [Rep], h2, h3⟩
  · -- insert
    rename_i t m k x
    obtain ⟨e, he, h⟩ := Option.bind_eq_some_iff.1 h
    obtain ⟨rfl, w', h1, h2, h3⟩ := upd_ok he h (hρ m) (hρ k) (hρ x) hr
    exact ⟨undef, w', L, .inr ⟨by simp [execOp, h1], rfl⟩, by simp only [Rep], h2, h3⟩
  · -- lookup
    rename_i t m k ok
    obtain ⟨e, he, h⟩ := Option.bind_eq_some_iff.1 h
    obtain ⟨z, hz, h⟩ := Option.bind_eq_some_iff.1 h
    exact quiet h fun d hd => look_map_ok he hz hd (hρ m) (hρ k) hr
  · -- typeAssert
    rename_i x xt u ok
    split at h
    · rename_i hc
      obtain ⟨z, hz, h⟩ := Option.bind_eq_some_iff.1 h
      exact quiet h fun d hd => assert_ok hc hz hd (hρ x)
    · cases h
  · -- extract
    rename_i t i
    refine quiet h fun d hd => ?_
    unfold extractD at hd
    obtain ⟨ds, hds, hd⟩ := Option.bind_eq_some_iff.1 hd
    have ht := hρ t
    unfold tupOf at hds
    split at hds
    · rename_i ds' he
      cases hds
      rw [he] at ht
      simp only [Rep] at ht
      obtain ⟨xs, h1, h2⟩ := ht
      obtain ⟨x, h3, h4⟩ := h2.get i d hd
      exact ⟨x, by simp [Instr.extract, h1, h3], h4⟩
    · cases hds
  · -- makeInterface
    rename_i t x
    have hconc : P.concrete t = true ∧ d = .ifc t (ρd x) ∧ H' = H := by
      unfold Program.concrete
      split at h
      · cases h
      · cases h
      · rename_i hn1 hn2
        cases h
        refine ⟨?_, rfl, rfl⟩
        split
        · rename_i ms he; exact absurd he (hn1 ms)
        · rename_i he; exact absurd he hn2
        · rfl
    obtain ⟨hc, rfl, rfl⟩ := hconc
    exact ⟨.iface t (ρv x), w, L, .inl (by simp [execOp, run_makeInterface w t (ρv x) hc]), by simp only [Rep]; exact ⟨_, rfl, hρ x⟩, hr, Later.refl⟩
  · -- makeFunc
    rename_i f a b
    cases h
    refine ⟨.func f (a.map ρv) (b.map ρv), w, L, .inl (by simp [execOp, Instr.makeFunc]), ?_, hr, Later.refl⟩
    simp only [Rep]
    exact ⟨a.toList.map ρv, b.toList.map ρv, by congr 1 <;> (apply Array.ext'; simp), RepA.ops hρ a.toList, RepA.ops hρ b.toList⟩
  · -- nilCheck
    rename_i x
    have hx := hρ x
    split at h
    · rename_i i o he
      cases h
      rw [he] at hx
      have hx' := hx
      simp only [Rep] at hx
      obtain ⟨b, c, hL, e⟩ := hx
      exact ⟨ρv x, w, L, .inl (by simp [execOp, e]), hx', hr, Later.refl⟩
    · rename_i cs he
      cases h
      rw [he] at hx
      have hx' := hx
      simp only [Rep] at hx
      obtain ⟨b, o, e, _⟩ := hx
      exact ⟨ρv x, w, L, .inl (by simp [execOp, e]), hx', hr, Later.refl⟩
    · cases h
  · -- len
    rename_i args ats
    split at h
    · rename_i x t r e1 e2
      have ha : args = #[x] := by rw [← Array.toArray_toList (xs := args), e1]
      subst ha
      have ht : ats[0]? = some t := by rw [← Array.getElem?_toList, e2]; rfl
      have := quiet (s := Builtin.len_ ats type #[ρv x]) h fun d hd => lenH_ok hd (hρ x) ats ht type
      simpa [execOp, resolve, invoke, builtin] using this
    · cases h
  · -- append
    rename_i args ats
    split at h
    · rename_i s x t t' e1 e2
      split at h
      · rename_i htt
        subst htt
        obtain ⟨⟨e, sz⟩, hi, h⟩ := Option.bind_eq_some_iff.1 h
        have ha : args = #[s, x] := by rw [← Array.toArray_toList (xs := args), e1]
        have hb : ats = #[t, t] := by rw [← Array.toArray_toList (xs := ats), e2]
        subst ha; subst hb
        obtain ⟨r, w', L', h1, h2, h3, h4⟩ := append_ok hi h (hρ s) (hρ x) hr type
        exact ⟨r, w', L', .inl (by simp [execOp, resolve, invoke, builtin, h1]), h2, h3, h4⟩
      · split at h
        · rename_i hstr
          obtain ⟨⟨e, sz⟩, hi, h⟩ := Option.bind_eq_some_iff.1 h
          have ha : args = #[s, x] := by rw [← Array.toArray_toList (xs := args), e1]
          have hb : ats = #[t, t'] := by rw [← Array.toArray_toList (xs := ats), e2]
          subst ha; subst hb
          obtain ⟨r, w', L', h1, h2, h3, h4⟩ := appendS_ok hi hstr h (hρ s) (hρ x) hr type
          exact ⟨r, w', L', .inl (by simp [execOp, resolve, invoke, builtin, h1]), h2, h3, h4⟩
        · cases h
    · cases h
  · -- copy
    rename_i args ats
    split at h
    · rename_i s x t r e1 e2
      obtain ⟨⟨e, sz⟩, hi, h⟩ := Option.bind_eq_some_iff.1 h
      have ha : args = #[s, x] := by rw [← Array.toArray_toList (xs := args), e1]
      have hb : ats[0]? = some t := by rw [← Array.getElem?_toList, e2]; rfl
      subst ha
      obtain ⟨v, w', h1, h2, h3, h4⟩ := copy_ok hi h (hρ s) (hρ x) hr ats hb type
      exact ⟨v, w', L, .inl (by simp [execOp, resolve, invoke, builtin, h1]), h2, h3, h4⟩
    · cases h
  · -- clear
    rename_i args ats
    split at h
    · rename_i x t r e1 e2
      obtain ⟨⟨e, sz, z⟩, hi, h⟩ := Option.bind_eq_some_iff.1 h
      have ha : args = #[x] := by rw [← Array.toArray_toList (xs := args), e1]
      have hb : ats[0]? = some t := by rw [← Array.getElem?_toList, e2]; rfl
      subst ha
      obtain ⟨v, w', h1, h2, h3, h4⟩ := clear_ok hi h (hρ x) hr ats hb type
      exact ⟨v, w', L, .inl (by simp [execOp, resolve, invoke, builtin, h1]), h2, h3, h4⟩
    · cases h
  · -- max
    rename_i args ats
    have hmax : ∀ d, maxD (args.toList.map ρd) = some d → ∃ r, (Builtin.max_ ats type (args.map ρv)).run P w = .ok r w ∧ Rep S L w r d := fun d hd => by
      obtain ⟨x, r, y, h1, h2, h3⟩ := foldInt_ok (P := P) (w := w) _ Builtin.max2 (fun k k' a b => rfl) _ (args.toList.map ρv) hd (RepA.ops hρ args.toList)
      exact ⟨y, by simp [Builtin.max_, h1, h2], h3⟩
    have := quiet (s := Builtin.max_ ats type (args.map ρv)) h hmax
    simpa [execOp, resolve, invoke, builtin] using this
  · -- min
    rename_i args ats
    have hmin : ∀ d, minD (args.toList.map ρd) = some d → ∃ r, (Builtin.min_ ats type (args.map ρv)).run P w = .ok r w ∧ Rep S L w r d := fun d hd => by
      obtain ⟨x, r, y, h1, h2, h3⟩ := foldInt_ok (P := P) (w := w) _ Builtin.min2 (fun k k' a b => rfl) _ (args.toList.map ρv) hd (RepA.ops hρ args.toList)
      exact ⟨y, by simp [Builtin.min_, h1, h2], h3⟩
    have := quiet (s := Builtin.min_ ats type (args.map ρv)) h hmin
    simpa [execOp, resolve, invoke, builtin] using this
  · cases h
end
end Go.Proofs.Ytbnmkdlmalobaaa
end

section
namespace Go.Proofs.Ytbnmkdlmalobaaa
open Go.RowKit
set_option linter.unusedVariables false
set_option linter.unusedSimpArgs false

mutual
/-- It names no object. -/
def pureD : D → Bool
  | .undef | .v _ | .sl _ _ | .ptr _ => true
  | .hp _ _ | .hs _ _ | .mp _ | .yld _ | .ht _ _ _ => false
  | .mv _ _ => true
  | .agg cs => pureL cs
  | .tup cs => pureL cs
  | .ifc _ d => pureD d
  | .clo _ a b => pureL a && pureL b
def pureL : List D → Bool
  | [] => true
  | d :: r => pureD d && pureL r
end
section
variable {S : Nat → Prop} {L : List (Nat × Nat)} {w : World}
mutual
theorem pure_rep : ∀ (d : D) (x : Value), pureD d = true → Rep S L w x d → Rep S [] w x d
  | .undef, x, _, h => by simp only [Rep]
  | .v y, x, _, h => by simpa only [Rep] using h
  | .sl sz els, x, _, h => by simpa only [Rep] using h
  | .ptr cs, x, _, h => by simpa only [Rep] using h
  | .hp i o, x, hp, h => by simp [pureD] at hp
  | .hs i n, x, hp, h => by simp [pureD] at hp
  | .mp i, x, hp, h => by simp [pureD] at hp
  | .yld i, x, hp, h => by simp [pureD] at hp
  | .ht i o n, x, hp, h => by simp [pureD] at hp
  | .mv ks vs, x, _, h => by simpa only [Rep] using h
  | .agg cs, x, hp, h => by
    simp only [Rep] at h ⊢
    obtain ⟨xs, h1, h2⟩ := h
    exact ⟨xs, h1, pure_repL cs xs (by simpa [pureD] using hp) h2⟩
  | .tup cs, x, hp, h => by
    simp only [Rep] at h ⊢
    obtain ⟨xs, h1, h2⟩ := h
    exact ⟨xs, h1, pure_repL cs xs (by simpa [pureD] using hp) h2⟩
  | .ifc t d, x, hp, h => by
    simp only [Rep] at h ⊢
    obtain ⟨y, h1, h2⟩ := h
    exact ⟨y, h1, pure_rep d y (by simpa [pureD] using hp) h2⟩
  | .clo f a b, x, hp, h => by
    simp only [Rep] at h ⊢
    simp only [pureD, Bool.and_eq_true] at hp
    obtain ⟨ys, zs, h1, h2, h3⟩ := h
    exact ⟨ys, zs, h1, pure_repL a ys hp.1 h2, pure_repL b zs hp.2 h3⟩
theorem pure_repL : ∀ (ds : List D) (xs : List Value), pureL ds = true → RepA S L w xs ds → RepA S [] w xs ds
  | [], xs, _, h => by simpa only [RepA] using h
  | d :: r, xs, hp, h => by
    simp only [RepA] at h ⊢
    simp only [pureL, Bool.and_eq_true] at hp
    obtain ⟨x, ys, h1, h2, h3⟩ := h
    exact ⟨x, ys, h1, pure_rep d x hp.1 h2, pure_repL r ys hp.2 h3⟩
end
end

/-- The same by value, as things stand. -/
def derefN (H : Heap) : Nat → D → Option D
  | 0, d => if pureD d then some d else none
  | n + 1, d =>
    match d with
    | .hs id k =>
      match H[id]? with
      | some (.cells _ sz cs) => if k * sz ≤ cs.length then ((cs.take (k * sz)).mapM (derefN H n)).map fun es => .sl sz (chunks sz k es) else none
      | _ => none
    | .ht id off k =>
      match H[id]? with
      | some (.cells _ sz cs) => if off + k * sz ≤ cs.length then (((cs.drop off).take (k * sz)).mapM (derefN H n)).map fun es => .sl sz (chunks sz k es) else none
      | _ => none
    | .hp id off =>
      match H[id]? with
      | some (.cells _ _ cs) => ((cs.drop off).mapM (derefN H n)).map .ptr
      | _ => none
    | .agg cs => (cs.mapM (derefN H n)).map .agg
    | .tup cs => (cs.mapM (derefN H n)).map .tup
    | .mp id =>
      match H[id]? with
      | some (.map ks vs) => (vs.mapM (derefN H n)).map fun us => .mv ks us
      | _ => none
    | .ifc t d => (derefN H n d).map (.ifc t)
    | d => if pureD d then some d else none

section
variable {B : Nat} {S S' : Nat → Prop} {L : List (Nat × Nat)} {w : World} {H : Heap}
theorem repA_mapM {L' : List (Nat × Nat)} {g : D → Option D} (hg : ∀ d d' x, g d = some d' → Rep S L w x d → Rep S' L' w x d') : ∀ (cs es : List D) (xs : List Value), cs.mapM g = some es → RepA S L w xs cs → RepA S' L' w xs es
  | [], es, xs, h, hx => by simp at h; subst h; simpa only [RepA] using hx
  | d :: r, es, xs, h, hx => by
    simp only [List.mapM_cons, Option.pure_def, Option.bind_eq_bind] at h
    cases h1 : g d with
    | none => rw [h1] at h; cases h
    | some d' =>
      cases h2 : r.mapM g with
      | none => rw [h1, h2] at h; cases h
      | some es' =>
        rw [h1, h2] at h
        cases h
        simp only [RepA] at hx ⊢
        obtain ⟨x, ys, e, h3, h4⟩ := hx
        exact ⟨x, ys, e, hg d d' x h1 h3, repA_mapM hg r es' ys h2 h4⟩
theorem mapM_len {g : D → Option D} : ∀ (cs es : List D), cs.mapM g = some es → es.length = cs.length
  | [], es, h => by simp at h; subst h; rfl
  | d :: r, es, h => by
    simp only [List.mapM_cons, Option.pure_def, Option.bind_eq_bind] at h
    cases h1 : g d with
    | none => rw [h1] at h; cases h
    | some d' =>
      cases h2 : r.mapM g with
      | none => rw [h1, h2] at h; cases h
      | some es' =>
        rw [h1, h2] at h
        cases h
        simp [mapM_len r es' h2]
theorem deref_in (hr : HRel B S L w H) : ∀ (n : Nat) (d d' : D) (x : Value), derefN H n d = some d' → Rep S L w x d → Rep (fun k => S k ∨ (B ≤ k ∧ k < w.heap.size)) [] w x d' := by
  have pure' : ∀ d d' x, (if pureD d then some d else none) = some d' → Rep S L w x d → Rep (fun k => S k ∨ (B ≤ k ∧ k < w.heap.size)) [] w x d' := by
    intro d d' x h hx
    split at h
    · rename_i hp
      cases h
      exact Rep.kept (Kept.refl _ _) (fun k hk => .inl hk) (fun i p hi => by simp at hi) d x (pure_rep d x hp hx)
    · cases h
  intro n
  induction n with
  | zero => intro d d' x h hx; exact pure' d d' x h hx
  | succ n ih =>
    intro d d' x h hx
    simp only [derefN] at h
    split at h
    · rename_i id k
      split at h
      · rename_i t sz cs hid
        split at h
        · rename_i hle
          cases hm : (cs.take (k * sz)).mapM (derefN H n) with
          | none => rw [hm] at h; cases h
          | some es =>
            rw [hm] at h
            simp only [Option.map_some, Option.some.injEq] at h
            subst h
            simp only [Rep] at hx
            obtain ⟨b, c, hL, hkc, rfl⟩ := hx
            obtain ⟨arr, g1, g2, g3, g4, g5⟩ := row_values hr hid hL
            have hes := mapM_len _ _ hm
            have hel : es.length = k * sz := by rw [hes, List.length_take]; omega
            have hrep := repA_mapM (fun d d' x h1 h2 => ih d d' x h1 h2) _ es _ hm (g5.take (k * sz))
            have hbl := hr.lt hid hL
            have hb : S b ∨ (B ≤ b ∧ b < w.heap.size) := .inr ⟨hbl.1, hbl.2.1⟩
            simp only [Rep, chunks_length]
            by_cases hk0 : k = 0
            · subst hk0
              exact .inl ⟨rfl, _, c, rfl, fun h => by cases h⟩
            · refine .inr ⟨b, 0, c, rfl, by omega, hkc, hb, RepR.of (chunks_all _ _ _ hel) ?_⟩
              rw [chunks_flatten _ _ _ hel]
              refine RepC.of hrep fun j v hj => ?_
              rw [Nat.zero_add, cell_of_heap g1]
              have hlt := (List.getElem?_eq_some_iff.1 hj).1
              simp only [List.length_take] at hlt
              rw [List.getElem?_take_of_lt (by omega), List.getElem?_take_of_lt (by omega)] at hj
              simpa using hj
        · cases h
      · cases h
    · rename_i id off k
      split at h
      · rename_i t sz cs hid
        split at h
        · rename_i hle
          cases hm : ((cs.drop off).take (k * sz)).mapM (derefN H n) with
          | none => rw [hm] at h; cases h
          | some es =>
            rw [hm] at h
            simp only [Option.map_some, Option.some.injEq] at h
            subst h
            simp only [Rep] at hx
            obtain ⟨b, c, o, cap, hL, rfl, hkc, ho⟩ := hx
            obtain ⟨arr, g1, g2, g3, g4, g5⟩ := row_values hr hid hL
            have hes := mapM_len _ _ hm
            have hel : es.length = k * sz := by rw [hes, List.length_take, List.length_drop]; omega
            have hrep := repA_mapM (fun d d' x h1 h2 => ih d d' x h1 h2) _ es _ hm ((g5.drop off).take (k * sz))
            have hbl := hr.lt hid hL
            have hb : S b ∨ (B ≤ b ∧ b < w.heap.size) := .inr ⟨hbl.1, hbl.2.1⟩
            simp only [Rep, chunks_length]
            by_cases hk0 : k = 0
            · subst hk0
              exact .inl ⟨rfl, _, cap, rfl, fun h => by cases h⟩
            · obtain rfl := ho (by omega)
              refine .inr ⟨b, o, cap, rfl, by omega, hkc, hb, RepR.of (chunks_all _ _ _ hel) ?_⟩
              rw [chunks_flatten _ _ _ hel]
              refine RepC.of hrep fun j v hj => ?_
              rw [cell_of_heap g1]
              have hlt := (List.getElem?_eq_some_iff.1 hj).1
              simp only [List.length_take, List.length_drop] at hlt
              rw [List.getElem?_take_of_lt (by omega), List.getElem?_drop, List.getElem?_take_of_lt (by omega)] at hj
              simpa using hj
        · cases h
      · cases h
    · rename_i id off
      split at h
      · rename_i t sz cs hid
        cases hm : (cs.drop off).mapM (derefN H n) with
        | none => rw [hm] at h; cases h
        | some es =>
          rw [hm] at h
          simp only [Option.map_some, Option.some.injEq] at h
          subst h
          simp only [Rep] at hx
          obtain ⟨b, c, hL, rfl⟩ := hx
          obtain ⟨arr, g1, g2, g3, g4, g5⟩ := row_values hr hid hL
          have hbl := hr.lt hid hL
          have hb : S b ∨ (B ≤ b ∧ b < w.heap.size) := .inr ⟨hbl.1, hbl.2.1⟩
          have hrep := repA_mapM (fun d d' x h1 h2 => ih d d' x h1 h2) _ es _ hm (g5.drop off)
          simp only [Rep]
          refine ⟨b, off, rfl, hb, RepC.of hrep fun j v hj => ?_⟩
          rw [cell_of_heap g1]
          rw [List.getElem?_drop] at hj
          have hlt := (List.getElem?_eq_some_iff.1 hj).1
          simp only [List.length_take, Array.length_toList] at hlt
          rw [List.getElem?_take_of_lt (by omega)] at hj
          simpa using hj
      · cases h
    · rename_i cs
      cases hm : cs.mapM (derefN H n) with
      | none => rw [hm] at h; cases h
      | some es =>
        rw [hm] at h
        simp only [Option.map_some, Option.some.injEq] at h
        subst h
        simp only [Rep] at hx ⊢
        obtain ⟨xs, h1, h2⟩ := hx
        exact ⟨xs, h1, repA_mapM (fun d d' x h1 h2 => ih d d' x h1 h2) _ es _ hm h2⟩
    · rename_i cs
      cases hm : cs.mapM (derefN H n) with
      | none => rw [hm] at h; cases h
      | some es =>
        rw [hm] at h
        simp only [Option.map_some, Option.some.injEq] at h
        subst h
        simp only [Rep] at hx ⊢
        obtain ⟨xs, h1, h2⟩ := hx
        exact ⟨xs, h1, repA_mapM (fun d d' x h1 h2 => ih d d' x h1 h2) _ es _ hm h2⟩
    · rename_i id
      split at h
      · rename_i ks vs hid
        cases hm : vs.mapM (derefN H n) with
        | none => rw [hm] at h; cases h
        | some us =>
          rw [hm] at h
          simp only [Option.map_some, Option.some.injEq] at h
          subst h
          simp only [Rep] at hx
          obtain ⟨b, c, hL, rfl⟩ := hx
          obtain ⟨b', c', h1, h2, h3, arr, clk, h4, h5, h6⟩ := hr.obj id _ hid (by intro e; cases e)
          rw [hL] at h1
          cases h1
          have hbl := hr.lt' hid (by intro e; cases e) hL
          simp only [Rep]
          exact ⟨b, arr, clk, rfl, .inr ⟨hbl.1, hbl.2.1⟩, h4, h5, repA_mapM (fun d d' x h1 h2 => ih d d' x h1 h2) _ us _ hm h6⟩
      · cases h
    · rename_i t e
      cases hm : derefN H n e with
      | none => rw [hm] at h; cases h
      | some e' =>
        rw [hm] at h
        simp only [Option.map_some, Option.some.injEq] at h
        subst h
        simp only [Rep] at hx ⊢
        obtain ⟨y, h1, h2⟩ := hx
        exact ⟨y, h1, ih _ _ _ hm h2⟩
    · exact pure' _ d' x h hx
theorem deref_ok (hr : HRel B S L w H) (n : Nat) (d d' : D) (x : Value) (h : derefN H n d = some d') (hx : Rep S L w x d) : Rep (· < w.heap.size) [] w x d' :=
  Rep.kept (Kept.refl _ _) (fun k hk => hk.elim (hr.small k) fun h => h.2) (fun i p hi => hi) d' x (deref_in hr n d d' x h hx)
end

/-- A function gives what is said, by value. -/
structure CallOk (P : Program) (f : FuncId) (F : List D → Option D) : Prop where
  body : ∃ fn, P.funcs[f]? = some fn ∧ fn.name ≠ "runtime.NumGoroutine" ∧ fn.body.isSome = true
  calls : ∀ ds d, F ds = some d → ∀ (S : Nat → Prop) (vs : List Value) (w : World), (∀ k, S k → k < w.heap.size) → RepA S [] w vs ds →
    Calls P f vs.toArray w fun e w' => ∃ v, e = .returned v ∧ Rep (fun k => S k ∨ (w.heap.size ≤ k ∧ k < w'.heap.size)) [] w' v d ∧ Below w.heap.size w w'

/-- A function gives what is said, and does it to the caller's objects. -/
structure HCallOk (P : Program) (f : FuncId) (G : List D → Heap → Option (D × Heap)) : Prop where
  body : ∃ fn, P.funcs[f]? = some fn ∧ fn.name ≠ "runtime.NumGoroutine" ∧ fn.body.isSome = true
  calls : ∀ ds H d H', G ds H = some (d, H') → ∀ (B : Nat) (S : Nat → Prop) (L : List (Nat × Nat)) (vs : List Value) (w : World), HRel B S L w H → RepA S L w vs ds →
    Calls P f vs.toArray w fun e w' => ∃ v S' L', e = .returned v ∧ Rep S' L' w' v d ∧ HRel B S' L' w' H' ∧ Later B S S' L L' w w'

def isV : D → Bool
  | .v _ => true
  | _ => false
def flatD : D → Bool
  | .v _ => true
  | .tup ds => ds.all isV
  | _ => false
theorem flat_rep {S S' : Nat → Prop} {L L' : List (Nat × Nat)} {w w' : World} {d : D} {x : Value} (hf : flatD d = true) (h : Rep S L w x d) : Rep S' L' w' x d := by
  cases d with
  | v y => simpa only [Rep] using h
  | tup ds =>
    simp only [Rep] at h ⊢
    obtain ⟨xs, h1, h2⟩ := h
    refine ⟨xs, h1, ?_⟩
    clear h1
    simp only [flatD] at hf
    induction ds generalizing xs with
    | nil => simpa only [RepA] using h2
    | cons d r ih =>
      simp only [List.all_cons, Bool.and_eq_true] at hf
      simp only [RepA] at h2 ⊢
      obtain ⟨y, ys, e, h3, h4⟩ := h2
      refine ⟨y, ys, e, ?_, ih hf.2 ys h4⟩
      cases d with
      | v z => simpa only [Rep] using h3
      | _ => simp [isV] at hf
  | _ => simp [flatD] at hf

/-- What a function by value is to a caller with objects. -/
def liftF (F : List D → Option D) (ds : List D) (H : Heap) : Option (D × Heap) :=
  match pureL ds with
  | true => (F ds).map fun d => (d, H)
  | false => (ds.mapM (derefN H 9)).bind fun ds' => (F ds').bind fun d => if flatD d then some (d, H) else none

theorem HRel.call {B : Nat} {S : Nat → Prop} {L : List (Nat × Nat)} {w w' : World} {H : Heap} (hr : HRel B S L w H) (hb : Below w.heap.size w w') :
    HRel B (fun k => S k ∨ (w.heap.size ≤ k ∧ k < w'.heap.size)) L w' H ∧ Later B S (fun k => S k ∨ (w.heap.size ≤ k ∧ k < w'.heap.size)) L L w w' := by
  have hl : Later B S (fun k => S k ∨ (w.heap.size ≤ k ∧ k < w'.heap.size)) L L w w' := ⟨hb.mono hr.base, kept_of hb hr.small, fun k hk => .inl hk, List.prefix_refl _, fun k hk => hk.imp id fun h => h.1, fun k hk => (hb.block k (Array.getElem?_eq_some_iff.1 hk).1).trans hk⟩
  refine ⟨⟨hr.len, fun k hk => ?_, Nat.le_trans hr.base hb.size, ?_, hr.inj⟩, hl⟩
  · rcases hk with hk | hk
    · exact Nat.lt_of_lt_of_le (hr.small k hk) hb.size
    · exact hk.2
  · intro id o hid ho
    obtain ⟨b, c, h1, h2, h3, h4⟩ := hr.obj id o hid ho
    have hbs : b < w.heap.size := h4.lt ho
    refine ⟨b, c, h1, h2, fun hk => ?_, h4.kept (hb.block b hbs) (fun _ _ => hl.rep) (fun _ _ => hl.repA)⟩
    rcases hk with hk | hk
    · exact h3 hk
    · omega

theorem lift_ok {P : Program} {f : FuncId} {F : List D → Option D} (h : CallOk P f F) : HCallOk P f (liftF F) := by
  refine ⟨h.body, fun ds H d H' hG B S L vs w hr hv => ?_⟩
  unfold liftF at hG
  split at hG
  · rename_i hp
    cases hF : F ds with
    | none => rw [hF] at hG; cases hG
    | some d' =>
      rw [hF] at hG
      simp only [Option.map_some, Option.some.injEq, Prod.mk.injEq] at hG
      obtain ⟨rfl, rfl⟩ := hG
      refine (h.calls ds _ hF S vs w hr.small (pure_repL ds vs hp hv)).mono ?_
      rintro e w' ⟨v, rfl, h1, h2⟩
      obtain ⟨h3, h4⟩ := hr.call h2
      exact ⟨v, _, L, rfl, h1.lift, h3, h4⟩
  · obtain ⟨ds', hds, hG⟩ := Option.bind_eq_some_iff.1 hG
    obtain ⟨d', hF, hG⟩ := Option.bind_eq_some_iff.1 hG
    split at hG
    · rename_i hf
      cases hG
      have hv' := repA_mapM (fun d d' x h1 h2 => deref_ok hr 9 d d' x h1 h2) ds ds' vs hds hv
      refine (h.calls ds' _ hF _ vs w (fun k hk => hk) hv').mono ?_
      rintro e w' ⟨v, rfl, h1, h2⟩
      obtain ⟨h3, h4⟩ := hr.call h2
      exact ⟨v, _, L, rfl, flat_rep hf h1, h3, h4⟩
    · cases hG

/-- What is known of functions; whether each leaves the caller's objects alone; what a round of a loop over a function does, by the loop's object. -/
structure Tab where
  fs : List (FuncId × Bool × (List D → Heap → Option (D × Heap)))
  yl : Nat → List D → Heap → Option (D × Heap)
/-- No loop goes over a function. -/
def noYl : Nat → List D → Heap → Option (D × Heap) := fun _ _ _ => none
def lookL : List (FuncId × Bool × (List D → Heap → Option (D × Heap))) → FuncId → List D → Heap → Option (D × Heap)
  | [], _, _, _ => none
  | (g, _, F) :: r, f, ds, H => if f = g then F ds H else lookL r f ds H
def look (T : Tab) (f : FuncId) (ds : List D) (H : Heap) : Option (D × Heap) := lookL T.fs f ds H
def isCalmL : List (FuncId × Bool × (List D → Heap → Option (D × Heap))) → FuncId → Bool
  | [], _ => false
  | (g, b, _) :: r, f => if f = g then b else isCalmL r f
def isCalm (T : Tab) (f : FuncId) : Bool := isCalmL T.fs f
/-- A round does what is said. -/
def YOk (P : Program) (Y : Nat → List D → Heap → Option (D × Heap)) : Prop := ∀ id ds H d H', Y id ds H = some (d, H') → ∀ (B : Nat) (S : Nat → Prop) (L : List (Nat × Nat)) (vs : List Value) (w : World), HRel B S L w H → RepA S L w vs ds →
  ∃ b c f tmps assign body, L[id]? = some (b, c) ∧ (Instr.yield b vs.toArray).run P w = .ok (.round b f tmps assign body) w ∧
    ∀ n, RoundIn Fence.wide n P b f tmps assign body w fun e w' => ∃ v S' L', e = .returned v ∧ Rep S' L' w' v d ∧ HRel B S' L' w' H' ∧ Later B S S' L L' w w'
theorem noYl_ok (P : Program) : YOk P noYl := fun _ _ _ _ _ h => by cases h
/-- A function leaves the caller's objects alone, and more of them make no difference. -/
def CalmOk (G : List D → Heap → Option (D × Heap)) : Prop := ∀ ds H d H', G ds H = some (d, H') → H' = H ∧ (∀ t, G ds (H ++ t) = some (d, H ++ t)) ∧ (pureL ds = true → ∀ H2, G ds H2 = some (d, H2))
structure TabOk (P : Program) (T : Tab) : Prop where
  fs : ∀ p ∈ T.fs, HCallOk P p.1 p.2.2 ∧ (p.2.1 = true → CalmOk p.2.2)
  yl : YOk P T.yl
theorem look_ok {P : Program} {T : Tab} (h : TabOk P T) {f : FuncId} {ds : List D} {H : Heap} {r : D × Heap} (hl : look T f ds H = some r) : ∃ G, HCallOk P f G ∧ G ds H = some r ∧ (isCalm T f = true → r.2 = H ∧ (∀ t, look T f ds (H ++ t) = some (r.1, H ++ t)) ∧ (pureL ds = true → ∀ H2, look T f ds H2 = some (r.1, H2))) := by
  have hfs := h.fs
  unfold look at hl ⊢
  unfold isCalm
  generalize T.fs = l at hl hfs ⊢
  induction l with
  | nil => cases hl
  | cons p t ih =>
    obtain ⟨g, b, F⟩ := p
    simp only [lookL] at hl
    simp only [isCalmL]
    split at hl
    · rename_i he
      subst he
      obtain ⟨h1, h2⟩ := hfs (f, b, F) (by simp)
      refine ⟨F, h1, hl, fun hb => ?_⟩
      have := h2 (by simpa using hb) ds H r.1 r.2 hl
      refine ⟨this.1, fun t => ?_, fun hp H2 => ?_⟩
      · simp only [lookL, if_true]
        exact this.2.1 t
      · simp only [lookL, if_true]
        exact this.2.2 hp H2
    · rename_i he
      rw [if_neg he]
      simp only [lookL, if_neg he]
      exact ih hl fun q hq => hfs q (by simp [hq])
theorem mapM_mono {g g' : D → Option D} (h : ∀ d d', g d = some d' → g' d = some d') : ∀ (cs es : List D), cs.mapM g = some es → cs.mapM g' = some es
  | [], es, hm => hm
  | d :: r, es, hm => by
    simp only [List.mapM_cons, Option.pure_def, Option.bind_eq_bind] at hm ⊢
    cases h1 : g d with
    | none => rw [h1] at hm; cases hm
    | some d' =>
      cases h2 : r.mapM g with
      | none => rw [h1, h2] at hm; cases hm
      | some es' =>
        rw [h1, h2] at hm
        rw [h d d' h1, mapM_mono h r es' h2]
        exact hm
theorem getE_mono {H t : Heap} {id : Nat} {o : HO} (h : H[id]? = some o) : (H ++ t)[id]? = some o := by
  rw [List.getElem?_append_left (List.getElem?_eq_some_iff.1 h).1]; exact h
theorem deref_mono (H t : Heap) : ∀ (n : Nat) (d d' : D), derefN H n d = some d' → derefN (H ++ t) n d = some d'
  | 0, d, d', h => h
  | n + 1, d, d', h => by
    have ih := deref_mono H t n
    have ihm : ∀ cs es : List D, cs.mapM (derefN H n) = some es → cs.mapM (derefN (H ++ t) n) = some es := mapM_mono ih
    simp only [derefN] at h ⊢
    split at h
    · rename_i id k
      split at h
      · rename_i t' sz cs hid
        rw [getE_mono hid]
        simp only
        split at h
        · rename_i hle
          rw [if_pos hle]
          obtain ⟨es, h1, h2⟩ := Option.map_eq_some_iff.1 h
          rw [ihm _ _ h1]; exact congrArg some h2
        · cases h
      · cases h
    · rename_i id off k
      split at h
      · rename_i t' sz cs hid
        rw [getE_mono hid]
        simp only
        split at h
        · rename_i hle
          rw [if_pos hle]
          obtain ⟨es, h1, h2⟩ := Option.map_eq_some_iff.1 h
          rw [ihm _ _ h1]; exact congrArg some h2
        · cases h
      · cases h
    · rename_i id off
      split at h
      · rename_i t' sz cs hid
        rw [getE_mono hid]
        simp only
        obtain ⟨es, h1, h2⟩ := Option.map_eq_some_iff.1 h
        rw [ihm _ _ h1]; exact congrArg some h2
      · cases h
    · obtain ⟨es, h1, h2⟩ := Option.map_eq_some_iff.1 h
      rw [ihm _ _ h1]; exact congrArg some h2
    · obtain ⟨es, h1, h2⟩ := Option.map_eq_some_iff.1 h
      rw [ihm _ _ h1]; exact congrArg some h2
    · rename_i id
      split at h
      · rename_i ks vs hid
        rw [getE_mono hid]
        simp only
        obtain ⟨es, h1, h2⟩ := Option.map_eq_some_iff.1 h
        rw [ihm _ _ h1]; exact congrArg some h2
      · cases h
    · obtain ⟨e, h1, h2⟩ := Option.map_eq_some_iff.1 h
      rw [ih _ _ h1]; exact congrArg some h2
    · exact h
theorem lift_calm' (F : List D → Option D) : ∀ ds H d H', liftF F ds H = some (d, H') → H' = H := by
  intro ds H d H' h
  unfold liftF at h
  split at h
  · cases hF : F ds with
    | none => rw [hF] at h; cases h
    | some d' =>
      rw [hF] at h
      simp only [Option.map_some, Option.some.injEq, Prod.mk.injEq] at h
      exact h.2.symm
  · obtain ⟨ds', hds, h⟩ := Option.bind_eq_some_iff.1 h
    obtain ⟨d', hF, h⟩ := Option.bind_eq_some_iff.1 h
    split at h
    · cases h; rfl
    · cases h
theorem lift_calm (F : List D → Option D) : CalmOk (liftF F) := by
  intro ds H d H' h
  refine ⟨lift_calm' F ds H d H' h, fun t => ?_, fun hp H2 => by
    unfold liftF at h ⊢
    rw [hp] at h ⊢
    simp only at h ⊢
    obtain ⟨d', hF, e⟩ := Option.map_eq_some_iff.1 h
    cases e
    rw [hF]; rfl⟩
  have hH := lift_calm' F ds H d H' h
  unfold liftF at h ⊢
  split at h
  · cases hF : F ds with
    | none => rw [hF] at h; cases h
    | some d' =>
      rw [hF] at h
      simp only [Option.map_some, Option.some.injEq, Prod.mk.injEq] at h
      rw [h.1]; rfl
  · obtain ⟨ds', hds, h⟩ := Option.bind_eq_some_iff.1 h
    rw [mapM_mono (deref_mono H t 9) ds ds' hds]
    cases hF : F ds' with
    | none => rw [hF] at h; cases h
    | some d' =>
      rw [hF] at h
      simp only [Option.bind_some] at h ⊢
      split at h
      · rename_i hf
        cases h
        rw [hF, Option.bind_some, if_pos hf]
      · cases h
end Go.Proofs.Ytbnmkdlmalobaaa
end

section
namespace Go.Proofs.Ytbnmkdlmalobaaa
open Go.RowKit

/-- Operation i has been carried out, too. -/
def upd (d : Nat → Bool) (i : Nat) : Nat → Bool := fun j => if j = i then true else d j
theorem upd_self (d : Nat → Bool) (i : Nat) : upd d i i = true := by simp [upd]
theorem upd_other (d : Nat → Bool) {i j : Nat} (h : j ≠ i) : upd d i j = d j := by simp [upd, h]

theorem upd_keep {d : Nat → Bool} {i j : Nat} {p : Prop} (hne : j ≠ i) (h : d j = true → p) : upd d i j = true → p := fun hu => h (by rwa [upd_other d hne] at hu)
theorem upd_keep2 {d : Nat → Bool} {i j k : Nat} {p : Prop} (hne : j ≠ i) (hk : k ≠ i) (h : d j = true → d k = false → p) : upd d i j = true → upd d i k = false → p := fun hu hv => h (by rwa [upd_other d hne] at hu) (by rwa [upd_other d hk] at hv)

section
variable {F : Fence} {n : Nat} {P : Program}

/-- Operation i, wherever it comes up: those that it waits for have been carried out; the invariant is carried on. -/
def StepOk (F : Fence) (n : Nat) (P : Program) (ops : Array Oper) (Q : Exit → Act → World → Prop) (Inv : (Nat → Bool) → Act → World → Prop) (i : Nat) (o : Oper) : Prop :=
  ∀ (d : Nat → Bool) (a : Act) (w : World) (K : Act → World → Prop), d i = false → (∀ e ∈ o.after, Region.binds .any e = true → d e.on = true) → Inv d a w → (∀ a' w', Inv (upd d i) a' w' → K a' w') →
    if Region.wanted o (yielded ops a.tmps) then o.wpIn F n P a w K Q else (∀ f, o.about P w a.eval = some f → F.fn f) ∧ K (a.put o.dst undef) w

def stepsOk (F : Fence) (n : Nat) (P : Program) (ops : Array Oper) (Q : Exit → Act → World → Prop) (Inv : (Nat → Bool) → Act → World → Prop) : List Oper → Nat → Prop
  | [], _ => True
  | o :: r, i => StepOk F n P ops Q Inv i o ∧ stepsOk F n P ops Q Inv r (i + 1)

theorem stepsOk_get {ops : Array Oper} {Q : Exit → Act → World → Prop} {Inv : (Nat → Bool) → Act → World → Prop} : ∀ (l : List Oper) (k : Nat), stepsOk F n P ops Q Inv l k → ∀ (j : Nat) (o : Oper), l[j]? = some o → StepOk F n P ops Q Inv (k + j) o
  | [], _, _, j, o, h => by simp at h
  | x :: r, k, hs, 0, o, h => by
    have h' : x = o := by simpa using h
    subst h'
    exact hs.1
  | x :: r, k, hs, j + 1, o, h => by
    have := stepsOk_get r (k + 1) hs.2 j o (by simpa using h)
    rwa [show k + (j + 1) = k + 1 + j from by omega]

theorem region_inv2 {id : Nat} {ops : Array Oper} {Q : Exit → Act → World → Prop} {a : Act} {w : World} (hm : P.follows .mixedOrders = true) (Inv : (Nat → Bool) → Act → World → Prop)
    (hac : (ops.toList.zipIdx.all fun x => x.1.after.all fun e => decide (e.on < x.2) || !Region.binds .any e) = true)
    (h0 : Inv (fun _ => false) a w.drew) (hstep : stepsOk F n P ops Q Inv ops.toList 0)
    (hend : ∀ d a w, (∀ i, i < ops.size → d i = true) → Inv d a w → Q .normal a w) : (Code.region id ops true).wpIn F n P Q a w := by
  refine wpIn_region_any hm ?_
  have key : ∀ (fuel : Nat) (listed : Array Bool) (d : Nat → Bool) (a : Act) (w : World), listed.size = ops.size → (∀ i, i < ops.size → listed.getD i false = d i) →
      ((List.range ops.size).filter fun i => !d i).length ≤ fuel → Inv d a w → wpAnyIn F n P .any ops Q fuel listed a w := by
    have hdone : ∀ (listed : Array Bool) (d : Nat → Bool), listed.size = ops.size → (∀ i, i < ops.size → listed.getD i false = d i) → Region.ready .any ops listed = [] → ∀ i, i < ops.size → d i = true := by
      intro listed d hsz hl hr i
      induction i using Nat.strongRecOn with
      | _ i ih =>
        intro hi
        cases hd : d i with
        | true => rfl
        | false =>
          exfalso
          have : i ∈ Region.ready .any ops listed := by
            refine mem_ready.2 ⟨?_, ops[i], Array.getElem?_eq_getElem hi, fun e he hbnd => ?_⟩
            · have := hl i hi
              rw [hd] at this
              rw [Array.getD_eq_getD_getElem?, Array.getElem?_eq_getElem (by omega)] at this ⊢
              simpa using this
            · have hx : e.on < i := by
                have h1 := List.all_eq_true.1 hac (ops[i], i) (by
                  rw [List.mem_zipIdx_iff_getElem?]
                  simp [hi])
                have h2 := (Array.all_eq_true_iff_forall_mem.1 h1) e he
                simp only [hbnd, Bool.not_true, Bool.or_false] at h2
                exact of_decide_eq_true h2
              rw [hl e.on (by omega)]
              exact ih e.on hx (by omega)
          rw [hr] at this
          cases this
    intro fuel
    induction fuel with
    | zero =>
      intro listed d a w hsz hl hf hi
      have hall : ∀ i, i < ops.size → d i = true := by
        intro i hi'
        have := List.length_eq_zero_iff.1 (Nat.le_zero.1 hf)
        cases hd : d i with
        | true => rfl
        | false =>
          have hm : i ∈ (List.range ops.size).filter fun i => !d i := by simp [hi', hd]
          rw [this] at hm; cases hm
      refine ⟨?_, hend d a w hall hi⟩
      apply List.eq_nil_iff_forall_not_mem.2
      intro i hmem
      obtain ⟨h1, o, ho, _⟩ := mem_ready.1 hmem
      have hlt : i < ops.size := (Array.getElem?_eq_some_iff.1 ho).1
      have h2 := hl i hlt
      rw [hall i hlt, Array.getD_eq_getD_getElem?, Array.getElem?_eq_getElem (by omega)] at h2
      rw [Array.getD_eq_getD_getElem?, Array.getElem?_eq_getElem (by omega)] at h1
      simp at h1 h2
      rw [h1] at h2; cases h2
    | succ fuel ih =>
      intro listed d a w hsz hl hf hi
      refine ⟨fun hr => hend d a w (hdone listed d hsz hl hr) hi, fun i hmem => ?_⟩
      obtain ⟨h1, o, ho, haft⟩ := mem_ready.1 hmem
      have hlt : i < ops.size := (Array.getElem?_eq_some_iff.1 ho).1
      have hdi : d i = false := by
        rw [← hl i hlt]
        rw [Array.getD_eq_getD_getElem?, Array.getElem?_eq_getElem (by omega)] at h1 ⊢
        simpa using h1
      have hso := stepsOk_get ops.toList 0 hstep i o (by simpa using ho)
      rw [Nat.zero_add] at hso
      unfold wpOpIn
      simp only [ho]
      refine hso d a w _ hdi (fun e he hb => ?_) hi (fun a' w' hi' => ih _ (upd d i) a' w' (by simpa using hsz) (fun j hj => ?_) ?_ hi')
      · have h3 := haft e he hb
        have hx : e.on < i := by
          have h1 := List.all_eq_true.1 hac (o, i) (by
            rw [List.mem_zipIdx_iff_getElem?]
            simpa using ho)
          have h2 := (Array.all_eq_true_iff_forall_mem.1 h1) e he
          simp only [hb, Bool.not_true, Bool.or_false] at h2
          exact of_decide_eq_true h2
        rw [← hl e.on (by omega)]; exact h3
      · by_cases hji : j = i
        · subst hji
          rw [upd_self, Array.getD_eq_getD_getElem?, Array.getElem?_setIfInBounds_self_of_lt (by omega)]; rfl
        · rw [upd_other d hji, getD_set_ne false (fun h => hji h.symm)]; exact hl j hj
      · have : ((List.range ops.size).filter fun j => !upd d i j).length < ((List.range ops.size).filter fun j => !d j).length := by
          have hsub : ((List.range ops.size).filter fun j => !upd d i j) = ((List.range ops.size).filter fun j => !d j).filter fun j => j != i := by
            rw [List.filter_filter]
            apply List.filter_congr
            intro j _
            by_cases hji : j = i
            · subst hji; simp [upd_self]
            · simp [upd_other d hji, hji]
          rw [hsub]
          refine List.length_filter_lt_length_iff_exists.2 ⟨i, by simp [hlt, hdi], by simp⟩
        omega
  exact key ops.size _ (fun _ => false) a _ (by simp) (fun i hi => by simp [Array.getD_eq_getD_getElem?, hi]) (by
    refine Nat.le_trans (List.length_filter_le _ _) (by simp)) h0
theorem region_inv {id : Nat} {ops : Array Oper} {Q : Exit → Act → World → Prop} {a : Act} {w : World} (hm : P.follows .mixedOrders = true) (Inv : (Nat → Bool) → Act → World → Prop)
    (hac : (ops.toList.zipIdx.all fun x => x.1.after.all fun e => e.on < x.2) = true)
    (h0 : Inv (fun _ => false) a w.drew) (hstep : stepsOk F n P ops Q Inv ops.toList 0)
    (hend : ∀ d a w, (∀ i, i < ops.size → d i = true) → Inv d a w → Q .normal a w) : (Code.region id ops true).wpIn F n P Q a w := by
  refine region_inv2 hm Inv ?_ h0 hstep hend
  refine List.all_eq_true.2 fun x hx => ?_
  have h1 := List.all_eq_true.1 hac x hx
  refine Array.all_eq_true_iff_forall_mem.2 fun e he => ?_
  rw [(Array.all_eq_true_iff_forall_mem.1 h1) e he]; rfl
end
end Go.Proofs.Ytbnmkdlmalobaaa
end
