/-
  Whatever an operation yields, it yields. Nothing here names the program.
-/
import Derived.Test.YtnmgfobpcengkaaHDenMore
namespace Go.Proofs.Ytnmgfobpcengkaa
open Go.RowKit
set_option linter.unusedVariables false
set_option linter.unusedSimpArgs false

section
variable {P : Program} {B : Nat} {S : Nat → Prop} {L : List (Nat × Nat)} {w : World} {H : Heap}

theorem loadH_ok {t : TypeId} {s : Option Nat} {x d : D} {u : Value} (hs : shapeOf P t = some s) (h : loadH s H x = some d) (hu : Rep S L w u x) (hr : HRel B S L w H) : ∃ r, (Instr.loadAt t u).run P w = .ok r w ∧ Rep S L w r d := by
  have lift : ∀ (b o : Nat) (cs : List D), RepC S L w b o cs → partS s cs 0 = some d → ∃ r, (Instr.loadAt t (.pointer (some ⟨b, o, none⟩))).run P w = .ok r w ∧ Rep S L w r d := fun b o cs hc hp =>
    load_ok (P := P) (t := t) (show partD P t cs 0 = some d by unfold partD; rw [hs]; exact hp) hc
  unfold loadH at h
  split at h
  · rename_i id off
    split at h
    · rename_i t' sz cs hid
      simp only [Rep] at hu
      obtain ⟨b, c, hL, rfl⟩ := hu
      obtain ⟨arr, h1, h2, h3, h4, h5⟩ := row_values hr hid hL
      refine lift b off _ ?_ h
      have h6 : RepC S L w b 0 cs := RepC.of h5 fun j x hj => by
        have hlt := (List.getElem?_eq_some_iff.1 hj).1
        rw [Nat.zero_add, cell_of_heap h1]
        rw [List.getElem?_take_of_lt (by simp at hlt; omega)] at hj
        simpa using hj
      have := h6.drop off
      rwa [Nat.zero_add] at this
    · cases h
  · unfold loadD at h
    obtain ⟨cs, hp, h⟩ := Option.bind_eq_some_iff.1 h
    unfold ptrOf at hp
    split at hp
    · cases hp
      simp only [Rep] at hu
      obtain ⟨b, o, rfl, hb, hc⟩ := hu
      obtain ⟨r, q1, q2⟩ := load_ok (P := P) (t := t) (show partD P t cs 0 = some d by unfold partD; rw [hs]; exact h) hc
      exact ⟨r, q1, q2.lift⟩
    · cases hp

theorem storeH_ok {t : TypeId} {i : TypeInfo} {x v : D} {u y : Value} {H' : Heap} (hi : P.info? t = some i) (h : storeH i.size x v H = some H') (hu : Rep S L w u x) (hv : Rep S L w y v) (hr : HRel B S L w H) :
    ∃ w', (Instr.storeAt t u y).run P w = .ok () w' ∧ HRel B S L w' H' ∧ Later B S S L L w w' := by
  unfold storeH at h
  split at h
  · rename_i id off ds hds
    split at h
    · rename_i t' sz cs hid
      split at h
      · rename_i hc
        obtain ⟨hl, hle, hok⟩ := hc
        cases h
        simp only [Rep] at hu
        obtain ⟨b, c, hL, rfl⟩ := hu
        obtain ⟨ys, hy1, hy2⟩ := cellsD_ok hds hv
        obtain ⟨arr, g1, g2, g3, g4, g5⟩ := row_values hr hid hL
        have hyl := hy2.length
        have hone := cells_one hy2 hok
        have hone0 : ∀ (j : Nat) (d : D), cs[j]? = some d → ∃ x, arr[j]? = some x ∧ x.oneCell' = true ∧ Rep S L w x d := by
          obtain ⟨b', c', arr', k1, k2, k3, k4, k5, k6, k7, k8⟩ := hr.live id _ _ cs hid
          rw [hL] at k1; cases k1
          rw [g1] at k4; cases k4
          exact k8
        have hst := run_storeCells_at P b off t' ys 0 arr w g1 (by omega) hone
        simp only [Nat.add_zero] at hst
        have hw := hr.write hid hL (arr.toList.take off ++ ys ++ arr.toList.drop (off + ys.length)).toArray (cs.take off ++ ds ++ cs.drop (off + ds.length)) (by
          simp only [List.size_toArray, List.length_append, List.length_take, List.length_drop, Array.length_toList]; omega) (by
          simp only [List.size_toArray, List.length_append, List.length_take, List.length_drop, Array.length_toList]; omega) (by
          intro j d hj
          by_cases h1 : j < off
          · rw [List.append_assoc, List.getElem?_append_left (by simp; omega), List.getElem?_take_of_lt h1] at hj
            obtain ⟨x, q1, q2, q3⟩ := hone0 j d hj
            refine ⟨x, ?_, q2, q3⟩
            simp only [List.getElem?_toArray, List.append_assoc]
            rw [List.getElem?_append_left (by simp; omega), List.getElem?_take_of_lt h1]
            simpa using q1
          · by_cases h2 : j < off + ds.length
            · rw [List.append_assoc, List.getElem?_append_right (by simp; omega), List.getElem?_append_left (by simp; omega)] at hj
              obtain ⟨x, q1, q2⟩ := hy2.get _ d hj
              refine ⟨x, ?_, oneCell_of (List.all_eq_true.1 hok d (List.mem_of_getElem? hj)) q2, q2⟩
              simp only [List.getElem?_toArray, List.append_assoc]
              rw [List.getElem?_append_right (by simp; omega), List.getElem?_append_left (by simp; omega), ← q1]
              congr 1
              simp; omega
            · rw [List.getElem?_append_right (by simp; omega), List.getElem?_drop] at hj
              obtain ⟨x, q1, q2, q3⟩ := hone0 _ d hj
              refine ⟨x, ?_, q2, q3⟩
              simp only [List.getElem?_toArray]
              rw [List.getElem?_append_right (by simp; omega), List.getElem?_drop, Array.getElem?_toList, ← q1]
              congr 1
              simp; omega)
        refine ⟨_, ?_, hw.1, hw.2⟩
        have hsz : y.cells.size = i.size := by rw [hy1]; simp; omega
        simp [Instr.storeAt, Instr.sureAddr, storeVar, sizeOf_run hi, hsz, hy1, hst]
        rw [hy1] at hsz
        simp at hsz
        simp [hsz]
      · cases h
    · cases h
  · cases h

theorem idxH_ok {t : TypeId} {sz : Nat} {x i d : D} {v u : Value} (ht : elemSz P t = some sz) (h : idxH sz x i = some d) (hv : Rep S L w v x) (hu : Rep S L w u i) : ∃ r, (Instr.indexAt t v u).run P w = .ok r w ∧ Rep S L w r d := by
  unfold idxH at h
  split at h
  · rename_i id n
    obtain ⟨k, hk, h⟩ := Option.bind_eq_some_iff.1 h
    split at h
    · rename_i hlt
      cases h
      obtain ⟨e, inf, h1, h2, h3⟩ := elemSz_ok ht
      obtain ⟨kd, rfl⟩ := natD_ok hk hu
      simp only [Rep] at hv
      obtain ⟨b, c, hL, hnc, rfl⟩ := hv
      refine ⟨.pointer (some ⟨b, 0 + k * sz, none⟩), ?_, ?_⟩
      · simp [Instr.indexAt, asIntOf, run_underlying h1, hlt, sizeOf_run h2, h3, addr_add]
      · simp only [Rep]; exact ⟨b, c, hL, by simp⟩
    · cases h
  · rename_i id off n
    obtain ⟨k, hk, h⟩ := Option.bind_eq_some_iff.1 h
    split at h
    · rename_i hlt
      cases h
      obtain ⟨e, inf, h1, h2, h3⟩ := elemSz_ok ht
      obtain ⟨kd, rfl⟩ := natD_ok hk hu
      simp only [Rep] at hv
      obtain ⟨b, c, o, cap, hL, rfl, hnc, ho⟩ := hv
      obtain rfl := ho (by omega)
      refine ⟨.pointer (some ⟨b, o + k * sz, none⟩), ?_, ?_⟩
      · simp [Instr.indexAt, asIntOf, run_underlying h1, hlt, sizeOf_run h2, h3, addr_add]
      · simp only [Rep]; exact ⟨b, c, hL, rfl⟩
    · cases h
  · exact index_ok ht h hv hu

theorem cutH_ok {t : TypeId} {sz : Nat} {x d : D} {v : Value} {lo hi : Option D} {u1 u2 : Option Value} (ht : elemSz P t = some sz) (h : cutH sz x lo hi = some d) (hv : Rep S L w v x)
    (hu : OptRep S L w u1 lo) (hu' : OptRep S L w u2 hi) : ∃ r, (Instr.sliceAt t v u1 u2 none).run P w = .ok r w ∧ Rep S L w r d := by
  unfold cutH at h
  split at h
  · rename_i id n
    split at h
    · rename_i l k hl hk
      split at h
      · rename_i hc
        obtain ⟨rfl, hkn⟩ := hc
        cases h
        obtain ⟨e, inf, h1, h2, h3⟩ := elemSz_ok ht
        simp only [Rep] at hv
        obtain ⟨b, c, hL, hnc, rfl⟩ := hv
        have := bounds_ok (P := P) (w := w) (fl := true) (n := n) (cap := c) hl hk (Nat.zero_le _) (by omega) hu hu'
        refine ⟨.slice (some ⟨b, 0, none⟩) k c, ?_, ?_⟩
        · have e1 : (if c = 0 then (some ⟨b, 0, none⟩ : Option Addr) else some ⟨b, 0, none⟩) = some ⟨b, 0, none⟩ := by split <;> rfl
          simp [Instr.sliceAt, Instr.slice, run_underlying h1, this, sizeOf_run h2, h3, addr_add, e1]
        · simp only [Rep]; exact ⟨b, c, hL, by omega, rfl⟩
      · split at h
        · rename_i hc
          obtain ⟨hlk, hkn⟩ := hc
          cases h
          obtain ⟨e, inf, h1, h2, h3⟩ := elemSz_ok ht
          simp only [Rep] at hv
          obtain ⟨b, c, hL, hnc, rfl⟩ := hv
          have := bounds_ok (P := P) (w := w) (fl := true) (n := n) (cap := c) hl hk hlk (by omega) hu hu'
          refine ⟨.slice (some ⟨b, if c = l then 0 else 0 + l * sz, none⟩) (k - l) (c - l), ?_, ?_⟩
          · have e1 : (if c = l then (some ⟨b, 0, none⟩ : Option Addr) else some ⟨b, 0 + l * sz, none⟩) = some ⟨b, if c = l then 0 else 0 + l * sz, none⟩ := by split <;> rfl
            simp [Instr.sliceAt, Instr.slice, run_underlying h1, this, sizeOf_run h2, h3, addr_add]
            split <;> rfl
          · simp only [Rep]
            refine ⟨b, c, _, _, hL, rfl, by omega, fun hp => ?_⟩
            rw [if_neg (by omega), Nat.zero_add]
        · cases h
    · cases h
  · rename_i id off n
    split at h
    · rename_i l k hl hk
      split at h
      · rename_i hc
        obtain ⟨hlk, hkn⟩ := hc
        cases h
        obtain ⟨e, inf, h1, h2, h3⟩ := elemSz_ok ht
        simp only [Rep] at hv
        obtain ⟨b, c, o, cap, hL, rfl, hnc, ho⟩ := hv
        have := bounds_ok (P := P) (w := w) (fl := true) (n := n) (cap := cap) hl hk hlk (by omega) hu hu'
        refine ⟨.slice (some ⟨b, if cap = l then o else o + l * sz, none⟩) (k - l) (cap - l), ?_, ?_⟩
        · simp [Instr.sliceAt, Instr.slice, run_underlying h1, this, sizeOf_run h2, h3, addr_add]
          split <;> rfl
        · simp only [Rep]
          refine ⟨b, c, _, _, hL, rfl, by omega, fun hp => ?_⟩
          rw [if_neg (by omega), ho (by omega)]
      · cases h
    · cases h
  · exact cut_ok ht h hv hu hu'

theorem lenH_ok {t : TypeId} {x d : D} {v : Value} (h : lenH (kindOf P t) x = some d) (hv : Rep S L w v x) (ts : Array TypeId) (ht : ts[0]? = some t) (ty : TypeId) : ∃ r, (Builtin.len_ ts ty #[v]).run P w = .ok r w ∧ Rep S L w r d := by
  unfold lenH at h
  split at h
  · rename_i k id n hk
    obtain ⟨e, hu⟩ := kind_sl hk
    cases h
    simp only [Rep] at hv
    obtain ⟨b, c, hL, hnc, rfl⟩ := hv
    exact ⟨_, by simp [Builtin.len_, ht, run_underlying hu]; rfl, by simp only [Rep]; rfl⟩
  · rename_i k id off n hk
    obtain ⟨e, hu⟩ := kind_sl hk
    cases h
    simp only [Rep] at hv
    obtain ⟨b, c, o, cap, hL, rfl, hnc, ho⟩ := hv
    exact ⟨_, by simp [Builtin.len_, ht, run_underlying hu]; rfl, by simp only [Rep]; rfl⟩
  · exact len_ok h hv ts ht ty

theorem fieldAtH_ok {t u : TypeId} {f off : Nat} {x d : D} {v : Value} {inf : TypeInfo} (hf : fldD P t f = some (u, off)) (hi : P.info? u = some inf) (hsz : ¬ inf.size = 0) (h : fieldAtH off x = some d) (hv : Rep S L w v x) : ∃ r, (Instr.fieldAt t v f).run P w = .ok r w ∧ Rep S L w r d := by
  unfold fldD at hf
  split at hf
  · rename_i fs hu
    cases hfi : fs[f]? with
    | none => rw [hfi] at hf; cases hf
    | some fl =>
      rw [hfi] at hf
      simp only [Option.map_some, Option.some.injEq, Prod.mk.injEq] at hf
      obtain ⟨rfl, rfl⟩ := hf
      unfold fieldAtH at h
      split at h
      · rename_i id o
        cases h
        simp only [Rep] at hv
        obtain ⟨b, c, hL, rfl⟩ := hv
        refine ⟨.pointer (some ⟨b, o + fl.offset, none⟩), ?_, ?_⟩
        · simp [Instr.fieldAt, run_underlying hu, hfi, Instr.sureAddr, fieldPlace, sizeOf_run hi, hsz, addr_add]
        · simp only [Rep]; exact ⟨b, c, hL, rfl⟩
      · unfold fieldAtD at h
        cases hx : ptrOf x with
        | none => rw [hx] at h; cases h
        | some cs =>
          rw [hx] at h
          simp only [Option.map_some, Option.some.injEq] at h
          subst h
          unfold ptrOf at hx
          split at hx
          · cases hx
            simp only [Rep] at hv
            obtain ⟨b, o, rfl, hb, h2⟩ := hv
            refine ⟨.pointer (some ⟨b, o + fl.offset, none⟩), ?_, ?_⟩
            · simp [Instr.fieldAt, run_underlying hu, hfi, Instr.sureAddr, fieldPlace, sizeOf_run hi, hsz, addr_add]
            · simp only [Rep]; exact ⟨b, _, rfl, hb, h2.drop _⟩
          · cases hx
  · cases hf

set_option maxHeartbeats 2000000 in
theorem opH_ok {o : Oper} {d : D} {H' : Heap} {ρv : Operand → Value} {ρd : Operand → D} (h : opH P o.op ρd H = some (d, H')) (hρ : ∀ x, Rep S L w (ρv x) (ρd x)) (hr : HRel B S L w H) :
    ∃ x w' L', ((execOp ρv o).run P w = .ok (.value x) w' ∨ ((execOp ρv o).run P w = .ok .skip w' ∧ x = undef)) ∧ Rep S L' w' x d ∧ HRel B S L' w' H' ∧ Later B S S L L' w w' := by
  obtain ⟨dst, op, type, pos, after, guard⟩ := o
  simp only at h
  have quiet : ∀ {s : Sem Value} {od : Option D}, same H od = some (d, H') → (∀ d, od = some d → ∃ r, s.run P w = .ok r w ∧ Rep S L w r d) →
      ∃ x w' L', ((do pure (.value (← s)) : Sem Next).run P w = .ok (.value x) w' ∨ ((do pure (.value (← s)) : Sem Next).run P w = .ok .skip w' ∧ x = undef)) ∧ Rep S L' w' x d ∧ HRel B S L' w' H' ∧ Later B S S L L' w w' := by
    intro s od hs hall
    unfold same at hs
    cases od with
    | none => cases hs
    | some d' =>
      simp only [Option.map_some, Option.some.injEq, Prod.mk.injEq] at hs
      obtain ⟨rfl, rfl⟩ := hs
      obtain ⟨r, h1, h2⟩ := hall d' rfl
      exact ⟨r, w, L, .inl (by simp [h1]), h2, hr, Later.refl⟩
  unfold opH at h
  split at h
  · rename_i x
    cases h
    exact ⟨_, w, L, .inl rfl, hρ x, hr, Later.refl⟩
  · rename_i x
    cases h
    exact ⟨_, w, L, .inl rfl, hρ x, hr, Later.refl⟩
  · -- pick
    rename_i c a b
    unfold same pickD at h
    cases hb : boolD (ρd c) with
    | none => rw [hb] at h; cases h
    | some t =>
      rw [hb] at h
      simp only [Option.map_some, Option.some.injEq, Prod.mk.injEq] at h
      obtain ⟨rfl, rfl⟩ := h
      have hc := boolD_ok hb (hρ c)
      refine ⟨_, w, L, .inl (by simp [execOp, hc, asBool]; rfl), ?_, hr, Later.refl⟩
      cases t
      · exact hρ b
      · exact hρ a
  · -- load
    rename_i t a
    obtain ⟨s, hs, h⟩ := Option.bind_eq_some_iff.1 h
    exact quiet h fun d hd => loadH_ok hs hd (hρ a) hr
  · -- box
    rename_i t x
    unfold boxH at h
    obtain ⟨cs, hc, h⟩ := Option.bind_eq_some_iff.1 h
    cases hn : newH t cs.length cs H with
    | none => rw [hn] at h; cases h
    | some r =>
      rw [hn] at h
      obtain ⟨id, H2⟩ := r
      simp only [Option.map_some, Option.some.injEq, Prod.mk.injEq] at h
      obtain ⟨rfl, rfl⟩ := h
      obtain ⟨xs, h1, h2⟩ := cellsD_ok hc (hρ x)
      obtain ⟨L', q1, q2, q3⟩ := new_obj hr hn h2 (c := 1) (by rw [h2.length]; simp) (by decide) _ h1
      exact ⟨.pointer (some ⟨w.heap.size, 0, none⟩), _, L', .inl (by simp [execOp, Instr.box, newVar, newRow]), by simp only [Rep]; exact ⟨_, _, q1, rfl⟩, q2, q3⟩
  · -- alloc
    rename_i t
    obtain ⟨z, hz, h⟩ := Option.bind_eq_some_iff.1 h
    unfold allocH at h
    cases hn : newH t z.length z H with
    | none => rw [hn] at h; cases h
    | some r =>
      rw [hn] at h
      obtain ⟨id, H2⟩ := r
      simp only [Option.map_some, Option.some.injEq, Prod.mk.injEq] at h
      obtain ⟨rfl, rfl⟩ := h
      obtain ⟨i, zv, z1, z2, z3, z4⟩ := zeroD_ok (S := S) (L := L) (w := w) hz
      obtain ⟨L', q1, q2, q3⟩ := new_obj hr hn z4 (c := 1) (by rw [z4.length]; simp) (by decide) zv.cells (by simp)
      exact ⟨.pointer (some ⟨w.heap.size, 0, none⟩), _, L', .inl (by simp [execOp, Instr.alloc, zeroValue, typeInfo, z1, z2, newVar, newRow]), by simp only [Rep]; exact ⟨_, _, q1, rfl⟩, q2, q3⟩
  · -- store
    rename_i t a x
    obtain ⟨i, hi, h⟩ := Option.bind_eq_some_iff.1 h
    unfold setH at h
    cases hs : storeH i.size (ρd a) (ρd x) H with
    | none => rw [hs] at h; cases h
    | some H2 =>
      rw [hs] at h
      simp only [Option.map_some, Option.some.injEq, Prod.mk.injEq] at h
      obtain ⟨rfl, rfl⟩ := h
      obtain ⟨w', h1, h2, h3⟩ := storeH_ok hi hs (hρ a) (hρ x) hr
      exact ⟨undef, w', L, .inr ⟨by simp [execOp, h1], rfl⟩, by simp only [Rep], h2, h3⟩
  · -- field
    rename_i t x f
    obtain ⟨⟨u, off⟩, hf, h⟩ := Option.bind_eq_some_iff.1 h
    obtain ⟨sh, hsh, h⟩ := Option.bind_eq_some_iff.1 h
    simp only at hsh h
    refine quiet h fun d hd => ?_
    unfold fieldD at hd
    obtain ⟨cs, hx, hd⟩ := Option.bind_eq_some_iff.1 hd
    have hxr := hρ x
    unfold aggOf at hx
    split at hx
    · rename_i cs' hcs
      cases hx
      rw [hcs] at hxr
      simp only [Rep] at hxr
      obtain ⟨xs, h1, h2⟩ := hxr
      unfold fldD at hf
      split at hf
      · rename_i fs hu
        cases hfi : fs[f]? with
        | none => rw [hfi] at hf; cases hf
        | some fl =>
          rw [hfi] at hf
          simp only [Option.map_some, Option.some.injEq, Prod.mk.injEq] at hf
          obtain ⟨rfl, rfl⟩ := hf
          obtain ⟨r, h3, h4⟩ := part_ok (P := P) (t := fl.type) (show partD P fl.type cs fl.offset = some d by unfold partD; rw [hsh]; exact hd) h2
          refine ⟨r, ?_, h4⟩
          simp [Instr.field, run_underlying hu, hfi, h1, asAgg, h3]
      · cases hf
    · cases hx
  · -- fieldAddr
    rename_i t x f
    obtain ⟨⟨u, off⟩, hf, h⟩ := Option.bind_eq_some_iff.1 h
    obtain ⟨inf, hi, h⟩ := Option.bind_eq_some_iff.1 h
    simp only at hi h
    split at h
    · cases h
    · rename_i hsz
      exact quiet h fun d hd => fieldAtH_ok hf hi hsz hd (hρ x)
  · -- indexAddr
    rename_i t x i
    obtain ⟨sz, hs, h⟩ := Option.bind_eq_some_iff.1 h
    exact quiet h fun d hd => idxH_ok hs hd (hρ x) (hρ i)
  · -- slice
    rename_i t x lo hi
    split at h
    · rename_i ht
      exact quiet h fun d hd => cutS_ok ht hd (hρ x) (optRep_map hρ lo) (optRep_map hρ hi)
    · obtain ⟨sz, hs, h⟩ := Option.bind_eq_some_iff.1 h
      exact quiet h fun d hd => cutH_ok hs hd (hρ x) (optRep_map hρ lo) (optRep_map hρ hi)
  · -- build
    rename_i t ps
    exact quiet h fun d hd => build_ok hρ ps hd
  · -- buildSlice
    rename_i t n ps
    obtain ⟨⟨e, sz, z⟩, hi, h⟩ := Option.bind_eq_some_iff.1 h
    simp only [rowH] at h
    obtain ⟨dr, hrow, h⟩ := Option.bind_eq_some_iff.1 h
    obtain ⟨els, he, h⟩ := Option.bind_eq_some_iff.1 h
    cases hn : newH e sz els.flatten H with
    | none => rw [hn] at h; cases h
    | some r =>
      rw [hn] at h
      obtain ⟨id, H2⟩ := r
      simp only [Option.map_some, Option.some.injEq, Prod.mk.injEq] at h
      obtain ⟨rfl, rfl⟩ := h
      obtain ⟨ys, h1, h2, h3, h4, h5⟩ := rowlit_ok hρ n ps hi hrow he
      obtain ⟨L', q1, q2, q3⟩ := new_obj hr hn h2 (c := n) (by rw [h2.length, h3]) (by unfold maxLen; omega) _ rfl
      exact ⟨.slice (some ⟨w.heap.size, 0, none⟩) n n, _, L', .inl (by simp [execOp, h1]), by simp only [Rep]; exact ⟨_, _, q1, Nat.le_refl _, rfl⟩, q2, q3⟩
  · -- binOp
    rename_i op t x y ty
    exact quiet h fun d hd => binN_ok x y hd (hρ x) (hρ y)
  · -- not
    rename_i t x
    refine quiet h fun d hd => ?_
    unfold notD at hd
    cases hb : boolD (ρd x) with
    | none => rw [hb] at hd; cases hd
    | some b =>
      rw [hb] at hd
      simp only [Option.map_some, Option.some.injEq] at hd
      subst hd
      have hx := boolD_ok hb (hρ x)
      exact ⟨.bool !b, by rw [hx]; rfl, by simp only [Rep]⟩
  · -- neg
    rename_i t x
    refine quiet h fun d hd => ?_
    have hx := hρ x
    unfold negD at hd
    split at hd
    · rename_i k n hn
      cases hd
      rw [hn] at hx
      simp only [Rep] at hx
      exact ⟨_, by rw [hx]; rfl, by simp only [Rep]⟩
    · cases hd
  · -- xor
    rename_i t x
    refine quiet h fun d hd => ?_
    have hx := hρ x
    unfold xorD at hd
    split at hd
    · rename_i k n hn
      rw [hn] at hx
      simp only [Rep] at hx
      simp only [intD, Option.some.injEq] at hd
      subst hd
      exact ⟨_, by rw [hx]; rfl, by simp only [Rep]⟩
    · cases hd
  · -- makeSlice
    rename_i t n m
    obtain ⟨⟨e, sz, z⟩, hi, h⟩ := Option.bind_eq_some_iff.1 h
    obtain ⟨r, w', L', h1, h2, h3, h4⟩ := make_ok hi h (hρ n) (hρ m) hr
    exact ⟨r, w', L', .inl (by simp [execOp, h1]), h2, h3, h4⟩
  · -- convert
    rename_i s t x
    split at h
    · rename_i k1 k2 h1 h2
      refine quiet h fun d hd => ?_
      have hx := hρ x
      unfold intOf64 at hd
      split at hd
      · rename_i k n hn
        cases hd
        rw [hn] at hx
        simp only [Rep] at hx
        refine ⟨_, ?_, by simp only [Rep]; rfl⟩
        simp [convert, run_underlying h1, run_underlying h2, hx, Conv.intToInt]
      · cases hd
    · rename_i e h1 h2
      split at h
      · rename_i h3
        exact quiet h fun d hd => bytesS_ok h1 h3 h2 hd (hρ x) hr
      · cases h
    · rename_i h1 h2
      refine quiet h fun d hd => ?_
      cases hs : strOf (ρd x) with
      | none => rw [hs] at hd; cases hd
      | some sv =>
        rw [hs] at hd
        simp only [Option.map_some, Option.some.injEq] at hd
        subst hd
        have hx := strOf_ok hs (hρ x)
        exact ⟨.string sv, by simp [convert, run_underlying h1, run_underlying h2, hx], by simp only [Rep]⟩
    · cases h
  · -- index
    rename_i t x i
    split at h
    · rename_i ht
      exact quiet h fun d hd => idxS_ok ht hd (hρ x) (hρ i)
    · cases h
  · -- makeMap
    rename_i t
    split at h
    · obtain ⟨r, w', L', h1, h2, h3, h4⟩ := newM_ok (P := P) t h hr
      exact ⟨r, w', L', .inl (by simp [execOp, h1]), h2, h3, h4⟩
    · cases h
  · -- mapUpdate
    rename_i t m k x
    obtain ⟨e, he, h⟩ := Option.bind_eq_some_iff.1 h
    obtain ⟨rfl, w', h1, h2, h3⟩ := upd_ok he h (hρ m) (hρ k) (hρ x) hr
    exact ⟨undef, w', L, .inr ⟨by simp [execOp, h1], rfl⟩, by simp only [Rep], h2, h3⟩
  · -- insert
    rename_i t m k x
    obtain ⟨e, he, h⟩ := Option.bind_eq_some_iff.1 h
    obtain ⟨rfl, w', h1, h2, h3⟩ := upd_ok he h (hρ m) (hρ k) (hρ x) hr
    exact ⟨undef, w', L, .inr ⟨by simp [execOp, h1], rfl⟩, by simp only [Rep], h2, h3⟩
  · -- lookup
    rename_i t m k ok
    obtain ⟨e, he, h⟩ := Option.bind_eq_some_iff.1 h
    obtain ⟨z, hz, h⟩ := Option.bind_eq_some_iff.1 h
    exact quiet h fun d hd => look_map_ok he hz hd (hρ m) (hρ k) hr
  · -- typeAssert
    rename_i x xt u ok
    split at h
    · rename_i hc
      obtain ⟨z, hz, h⟩ := Option.bind_eq_some_iff.1 h
      exact quiet h fun d hd => assert_ok hc hz hd (hρ x)
    · cases h
  · -- extract
    rename_i t i
    refine quiet h fun d hd => ?_
    unfold extractD at hd
    obtain ⟨ds, hds, hd⟩ := Option.bind_eq_some_iff.1 hd
    have ht := hρ t
    unfold tupOf at hds
    split at hds
    · rename_i ds' he
      cases hds
      rw [he] at ht
      simp only [Rep] at ht
      obtain ⟨xs, h1, h2⟩ := ht
      obtain ⟨x, h3, h4⟩ := h2.get i d hd
      exact ⟨x, by simp [Instr.extract, h1, h3], h4⟩
    · cases hds
  · -- makeInterface
    rename_i t x
    have hconc : P.concrete t = true ∧ d = .ifc t (ρd x) ∧ H' = H := by
      unfold Program.concrete
      split at h
      · cases h
      · cases h
      · rename_i hn1 hn2
        cases h
        refine ⟨?_, rfl, rfl⟩
        split
        · rename_i ms he; exact absurd he (hn1 ms)
        · rename_i he; exact absurd he hn2
        · rfl
    obtain ⟨hc, rfl, rfl⟩ := hconc
    exact ⟨.iface t (ρv x), w, L, .inl (by simp [execOp, run_makeInterface w t (ρv x) hc]), by simp only [Rep]; exact ⟨_, rfl, hρ x⟩, hr, Later.refl⟩
  · -- makeFunc
    rename_i f a b
    cases h
    refine ⟨.func f (a.map ρv) (b.map ρv), w, L, .inl (by simp [execOp, Instr.makeFunc]), ?_, hr, Later.refl⟩
    simp only [Rep]
    exact ⟨a.toList.map ρv, b.toList.map ρv, by congr 1 <;> (apply Array.ext'; simp), RepA.ops hρ a.toList, RepA.ops hρ b.toList⟩
  · -- nilCheck
    rename_i x
    have hx := hρ x
    split at h
    · rename_i i o he
      cases h
      rw [he] at hx
      have hx' := hx
      simp only [Rep] at hx
      obtain ⟨b, c, hL, e⟩ := hx
      exact ⟨ρv x, w, L, .inl (by simp [execOp, e]), hx', hr, Later.refl⟩
    · rename_i cs he
      cases h
      rw [he] at hx
      have hx' := hx
      simp only [Rep] at hx
      obtain ⟨b, o, e, _⟩ := hx
      exact ⟨ρv x, w, L, .inl (by simp [execOp, e]), hx', hr, Later.refl⟩
    · cases h
  · -- len
    rename_i args ats
    split at h
    · rename_i x t r e1 e2
      have ha : args = #[x] := by rw [← Array.toArray_toList (xs := args), e1]
      subst ha
      have ht : ats[0]? = some t := by rw [← Array.getElem?_toList, e2]; rfl
      have := quiet (s := Builtin.len_ ats type #[ρv x]) h fun d hd => lenH_ok hd (hρ x) ats ht type
      simpa [execOp, resolve, invoke, builtin] using this
    · cases h
  · -- append
    rename_i args ats
    split at h
    · rename_i s x t t' e1 e2
      split at h
      · rename_i htt
        subst htt
        obtain ⟨⟨e, sz⟩, hi, h⟩ := Option.bind_eq_some_iff.1 h
        have ha : args = #[s, x] := by rw [← Array.toArray_toList (xs := args), e1]
        have hb : ats = #[t, t] := by rw [← Array.toArray_toList (xs := ats), e2]
        subst ha; subst hb
        obtain ⟨r, w', L', h1, h2, h3, h4⟩ := append_ok hi h (hρ s) (hρ x) hr type
        exact ⟨r, w', L', .inl (by simp [execOp, resolve, invoke, builtin, h1]), h2, h3, h4⟩
      · split at h
        · rename_i hstr
          obtain ⟨⟨e, sz⟩, hi, h⟩ := Option.bind_eq_some_iff.1 h
          have ha : args = #[s, x] := by rw [← Array.toArray_toList (xs := args), e1]
          have hb : ats = #[t, t'] := by rw [← Array.toArray_toList (xs := ats), e2]
          subst ha; subst hb
          obtain ⟨r, w', L', h1, h2, h3, h4⟩ := appendS_ok hi hstr h (hρ s) (hρ x) hr type
          exact ⟨r, w', L', .inl (by simp [execOp, resolve, invoke, builtin, h1]), h2, h3, h4⟩
        · cases h
    · cases h
  · -- copy
    rename_i args ats
    split at h
    · rename_i s x t r e1 e2
      obtain ⟨⟨e, sz⟩, hi, h⟩ := Option.bind_eq_some_iff.1 h
      have ha : args = #[s, x] := by rw [← Array.toArray_toList (xs := args), e1]
      have hb : ats[0]? = some t := by rw [← Array.getElem?_toList, e2]; rfl
      subst ha
      obtain ⟨v, w', h1, h2, h3, h4⟩ := copy_ok hi h (hρ s) (hρ x) hr ats hb type
      exact ⟨v, w', L, .inl (by simp [execOp, resolve, invoke, builtin, h1]), h2, h3, h4⟩
    · cases h
  · -- clear
    rename_i args ats
    split at h
    · rename_i x t r e1 e2
      obtain ⟨⟨e, sz, z⟩, hi, h⟩ := Option.bind_eq_some_iff.1 h
      have ha : args = #[x] := by rw [← Array.toArray_toList (xs := args), e1]
      have hb : ats[0]? = some t := by rw [← Array.getElem?_toList, e2]; rfl
      subst ha
      obtain ⟨v, w', h1, h2, h3, h4⟩ := clear_ok hi h (hρ x) hr ats hb type
      exact ⟨v, w', L, .inl (by simp [execOp, resolve, invoke, builtin, h1]), h2, h3, h4⟩
    · cases h
  · -- max
    rename_i args ats
    have hmax : ∀ d, maxD (args.toList.map ρd) = some d → ∃ r, (Builtin.max_ ats type (args.map ρv)).run P w = .ok r w ∧ Rep S L w r d := fun d hd => by
      obtain ⟨x, r, y, h1, h2, h3⟩ := foldInt_ok (P := P) (w := w) _ Builtin.max2 (fun k k' a b => rfl) _ (args.toList.map ρv) hd (RepA.ops hρ args.toList)
      exact ⟨y, by simp [Builtin.max_, h1, h2], h3⟩
    have := quiet (s := Builtin.max_ ats type (args.map ρv)) h hmax
    simpa [execOp, resolve, invoke, builtin] using this
  · -- min
    rename_i args ats
    have hmin : ∀ d, minD (args.toList.map ρd) = some d → ∃ r, (Builtin.min_ ats type (args.map ρv)).run P w = .ok r w ∧ Rep S L w r d := fun d hd => by
      obtain ⟨x, r, y, h1, h2, h3⟩ := foldInt_ok (P := P) (w := w) _ Builtin.min2 (fun k k' a b => rfl) _ (args.toList.map ρv) hd (RepA.ops hρ args.toList)
      exact ⟨y, by simp [Builtin.min_, h1, h2], h3⟩
    have := quiet (s := Builtin.min_ ats type (args.map ρv)) h hmin
    simpa [execOp, resolve, invoke, builtin] using this
  · cases h
end
end Go.Proofs.Ytnmgfobpcengkaa
