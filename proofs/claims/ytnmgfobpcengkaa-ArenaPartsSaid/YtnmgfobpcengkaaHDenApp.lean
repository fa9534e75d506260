/-
  append onto a row of the call's own. Nothing here names the program.
-/
import Derived.Test.YtnmgfobpcengkaaHDenHeap
namespace Go.Proofs.Ytnmgfobpcengkaa
open Go.RowKit
set_option linter.unusedVariables false
set_option linter.unusedSimpArgs false

theorem cell_of_heap {w : World} {b : Nat} {arr : Array Value} {t : TypeId} (h : w.heap[b]? = some (.cells arr t (0, 0))) (j : Nat) : w.cell? ⟨b, j, none⟩ = arr[j]? := by
  simp [World.cell?, h]

section
variable {P : Program} {B : Nat} {S : Nat → Prop} {L : List (Nat × Nat)} {w : World} {H : Heap}

theorem RepR.flat {b o sz : Nat} {els : List (List D)} (h : RepR S L w b o sz els) : RepC S L w b o els.flatten ∧ els.flatten.length = els.length * sz := by
  induction els generalizing o with
  | nil => simp [RepC]
  | cons e r ih =>
    simp only [RepR] at h
    obtain ⟨h1, h2, h3⟩ := h
    obtain ⟨h4, h5⟩ := ih h3
    refine ⟨?_, by simp [h1, h5, Nat.succ_mul]; omega⟩
    obtain ⟨xs, k1, k2⟩ := h2.values
    obtain ⟨ys, k3, k4⟩ := h4.values
    refine RepC.of (k1.append k3) fun j x hj => ?_
    have hl := k1.length
    by_cases hlt : j < xs.length
    · rw [List.getElem?_append_left hlt] at hj
      exact k2 j x hj
    · rw [List.getElem?_append_right (by omega)] at hj
      have := k4 _ x hj
      rwa [show o + sz + (j - xs.length) = o + j from by omega] at this

/-- A row's cells, as values. -/
theorem row_values (h : HRel B S L w H) {id : Nat} {t : TypeId} {sz : Nat} {cs : List D} (hid : H[id]? = some (HO.cells t sz cs)) {b c : Nat} (hL : L[id]? = some (b, c)) :
    ∃ arr : Array Value, w.heap[b]? = some (.cells arr t (0, 0)) ∧ arr.size = c * sz ∧ c ≤ maxLen ∧ cs.length ≤ arr.size ∧ RepA S L w (arr.toList.take cs.length) cs := by
  obtain ⟨b', c', arr, h1, h2, h3, h4, h5, h6, h7, h8⟩ := h.live id t sz cs hid
  rw [hL] at h1
  cases h1
  refine ⟨arr, h4, h5, h6, h7, ?_⟩
  have key : ∀ (cs : List D) (xs : List Value), cs.length ≤ xs.length → (∀ (j : Nat) (d : D), cs[j]? = some d → ∃ x, xs[j]? = some x ∧ Rep S L w x d) → RepA S L w (xs.take cs.length) cs := by
    intro cs
    induction cs with
    | nil => intro xs _ _; simp [RepA]
    | cons d r ih =>
      intro xs hl hx
      cases xs with
      | nil => simp at hl
      | cons y ys =>
        obtain ⟨x, hx1, hx2⟩ := hx 0 d rfl
        have : y = x := by simpa using hx1
        subst this
        simp only [List.length_cons, List.take_succ_cons]
        exact RepA.cons hx2 (ih ys (by simpa using hl) fun j d' hj => by simpa using hx (j + 1) d' (by simpa using hj))
  exact key cs arr.toList (by simpa using h7) fun j d hj => by
    obtain ⟨x, hx1, _, hx3⟩ := h8 j d hj
    exact ⟨x, by simpa using hx1, hx3⟩

/-- What is appended: a slice value, whose cells these are. -/
def IsSrc (S : Nat → Prop) (L : List (Nat × Nat)) (w : World) (sz : Nat) (u : Value) (new : List D) : Prop :=
  ∃ p m cap vs, u = .slice p m cap ∧ new.length = m * sz ∧ RepA S L w vs new ∧ ((p = none ∧ m = 0 ∧ cap = 0) ∨ ∃ a, p = some a ∧ ∀ (j : Nat) (v : Value), vs[j]? = some v → w.cell? (a.add j) = some v)
theorem src_ok {sz : Nat} {x : D} {u : Value} {new : List D} (h : srcH sz H x = some new) (hx : Rep S L w u x) (hr : HRel B S L w H) : IsSrc S L w sz u new := by
  have pure' : ∀ els, elsD sz x = some els → new = els.flatten → IsSrc S L w sz u new := by
    intro els he hn
    subst hn
    rcases elsD_ok he hx with ⟨rfl, p, cap, rfl, hp⟩ | ⟨b, o, cap, rfl, hp, hc, hb, hrr⟩
    · refine ⟨p, 0, cap, [], rfl, by simp, RepA.nil, ?_⟩
      cases p with
      | none => exact .inl ⟨rfl, rfl, hp rfl⟩
      | some a => exact .inr ⟨a, rfl, by simp⟩
    · obtain ⟨h1, h2⟩ := hrr.flat
      obtain ⟨vs, h3, h4⟩ := h1.values
      exact ⟨_, _, _, vs, rfl, h2, h3.lift, .inr ⟨_, rfl, fun j v hj => by rw [addr_add]; exact h4 j v hj⟩⟩
  unfold srcH at h
  split at h
  · rename_i id n
    split at h
    · rename_i t s cs hid
      split at h
      · rename_i hc
        cases h
        obtain ⟨rfl, hle⟩ := hc
        simp only [Rep] at hx
        obtain ⟨b, c, hL, hnc, rfl⟩ := hx
        obtain ⟨arr, h1, h2, h3, h4, h5⟩ := row_values hr hid hL
        refine ⟨_, _, _, (arr.toList.take cs.length).take (n * s), rfl, by simp; omega, h5.take _, .inr ⟨_, rfl, fun j v hj => ?_⟩⟩
        rw [addr_add, Nat.zero_add, cell_of_heap h1]
        have hlt := (List.getElem?_eq_some_iff.1 hj).1
        rw [List.getElem?_take_of_lt (by simp at hlt; omega), List.getElem?_take_of_lt (by simp at hlt; omega)] at hj
        simpa using hj
      · cases h
    · cases h
  · rename_i id off n
    split at h
    · rename_i t s cs hid
      split at h
      · rename_i hc
        cases h
        obtain ⟨rfl, hle⟩ := hc
        simp only [Rep] at hx
        obtain ⟨b, c, o, cap, hL, rfl, hnc, ho⟩ := hx
        obtain ⟨arr, h1, h2, h3, h4, h5⟩ := row_values hr hid hL
        refine ⟨_, _, _, ((arr.toList.take cs.length).drop off).take (n * s), rfl, by simp; omega, (h5.drop off).take _, .inr ⟨_, rfl, fun j v hj => ?_⟩⟩
        have hlt := (List.getElem?_eq_some_iff.1 hj).1
        have hn : 0 < n := by
          by_cases e : n = 0
          · subst e; simp at hlt
          · omega
        obtain rfl := ho hn
        rw [addr_add, cell_of_heap h1]
        rw [List.getElem?_take_of_lt (by simp at hlt; omega), List.getElem?_drop, List.getElem?_take_of_lt (by simp at hlt; omega)] at hj
        simpa using hj
      · cases h
    · cases h
  · rename_i x' hne
    cases he : elsD sz x with
    | none => rw [he] at h; cases h
    | some els =>
      rw [he] at h
      simp only [Option.map_some, Option.some.injEq] at h
      exact pure' els he h.symm

theorem elemOf_ok {t e : TypeId} {sz : Nat} (h : elemOfD P t = some (e, sz)) : ∃ i z, P.underlying t = some (.slice e) ∧ P.info? e = some i ∧ i.zero = some z ∧ i.size = sz ∧ z.cells.size = sz ∧ i.bytes ≤ 1000 := by
  unfold elemOfD at h
  split at h
  · rename_i e' hu
    obtain ⟨i, hi, h⟩ := Option.bind_eq_some_iff.1 h
    split at h
    · rename_i z hz
      split at h
      · rename_i hc
        cases h
        exact ⟨i, z, hu, hi, hz, rfl, hc.1, hc.2⟩
      · cases h
    · cases h
  · cases h

theorem append_cells {vs us : List Value} {ds es : List D} {zs : Array Value} (h1 : RepA S L w vs ds) (h2 : RepA S L w us es) (o1 : ds.all cellOk = true) (o2 : es.all cellOk = true) :
    ∀ (j : Nat) (d : D), (ds ++ es)[j]? = some d → ∃ x, (vs.toArray ++ us.toArray ++ zs)[j]? = some x ∧ x.oneCell' = true ∧ Rep S L w x d := by
  intro j d hj
  have h3 := h1.append h2
  obtain ⟨x, hx1, hx2⟩ := h3.get j d hj
  have hok : cellOk d = true := by
    have hm := List.mem_of_getElem? hj
    rcases List.mem_append.1 hm with hm | hm
    · exact List.all_eq_true.1 o1 d hm
    · exact List.all_eq_true.1 o2 d hm
  have hlt : j < (vs ++ us).length := (List.getElem?_eq_some_iff.1 hx1).1
  refine ⟨x, ?_, oneCell_of hok hx2, hx2⟩
  rw [Array.getElem?_append_left (by simpa using hlt)]
  simpa using hx1

theorem row_okcells (h : HRel B S L w H) {id : Nat} {t : TypeId} {sz : Nat} {cs : List D} (hid : H[id]? = some (HO.cells t sz cs)) : ∀ (j : Nat) (d : D), cs[j]? = some d → ∀ x, Rep S L w x d → True := fun _ _ _ _ _ => trivial

set_option maxHeartbeats 1000000 in
theorem append_ok {t e : TypeId} {sz : Nat} {s x d : D} {v u : Value} {H' : Heap} (hi : elemOfD P t = some (e, sz)) (h : appendH e sz s x H = some (d, H')) (hs : Rep S L w v s) (hx : Rep S L w u x) (hr : HRel B S L w H) (ty : TypeId) :
    ∃ r w' L', (Builtin.append_ #[t, t] ty #[v, u]).run P w = .ok r w' ∧ Rep S L' w' r d ∧ HRel B S L' w' H' ∧ Later B S S L L' w w' := by
  obtain ⟨i, z, ht, hinf, hz, rfl, hzs, hby⟩ := elemOf_ok hi
  unfold appendH at h
  obtain ⟨new, hsrc, h⟩ := Option.bind_eq_some_iff.1 h
  obtain ⟨p, m, cap, vs, rfl, hnl, hvs, hp⟩ := src_ok hsrc hx hr
  unfold appH at h
  split at h
  · cases h
  · rename_i hg
    have hsz : 0 < i.size := by
      by_cases e0 : i.size = 0
      · exact absurd (.inl e0) hg
      · omega
    have hok : new.all cellOk = true := by
      cases hb : new.all cellOk with
      | true => rfl
      | false => exact absurd (.inr (by simp [hb])) hg
    have hvl : vs.length = m * i.size := by rw [hvs.length, hnl]
    have hone := cells_one hvs hok
    have hdiv : new.length / i.size = m := by rw [hnl]; exact Nat.mul_div_cancel m hsz
    split at h
    · -- onto nil
      simp only [Rep] at hs
      subst hs
      split at h
      · rename_i h0
        cases h
        have hm : m = 0 := by
          rw [hnl] at h0
          rcases Nat.mul_eq_zero.1 h0 with h0 | h0
          · exact h0
          · omega
        subst hm
        refine ⟨.slice none 0 0, w, L, ?_, by simp only [Rep], hr, Later.refl⟩
        rcases hp with ⟨rfl, _, rfl⟩ | ⟨a, rfl, _⟩ <;> simp [Builtin.append_, run_underlying ht, sizeOf, typeInfo, hinf, Builtin.lenOf, Builtin.firstCells, loadCells, loadCellsFrom]
      · rename_i h0
        split at h
        · rename_i hle
          cases h
          have hm : 0 < m := by
            by_cases e0 : m = 0
            · rw [e0, Nat.zero_mul] at hnl; exact absurd hnl h0
            · omega
          have hmle : m ≤ 4000000 := by
            have : m ≤ new.length := by rw [hnl]; exact Nat.le_mul_of_pos_right m hsz
            omega
          rcases hp with ⟨_, rfl, _⟩ | ⟨a, rfl, hcell⟩
          · omega
          · have hrun := run_append_nil (P := P) w t ty e i z ht hinf hz a m cap vs hvl hcell hm (by omega) (Nat.le_trans (Nat.mul_le_mul hmle hby) (by decide))
            have hge := grownCap_ge w m 0 e
            have hcm := grownCap_le_maxLen w m 0 e (by unfold maxLen; omega)
            have hn := hr.new w.drew rfl ((Below.refl _ _).drew) e i.size (grownCap w m 0 e) new (vs.toArray ++ Builtin.zeroCells z.cells (grownCap w m 0 e - m)) (by
              simp only [Array.size_append, List.size_toArray, size_zeroCells, hzs, hvl, ← Nat.add_mul]
              congr 1; omega) hcm (by simp [hvs.length]) (fun j d hj => by
              have := append_cells (zs := Builtin.zeroCells z.cells (grownCap w m 0 e - m)) (RepA.nil (S := S) (L := L) (w := w)) hvs (by simp) hok j d (by simpa using hj)
              simpa using this)
            refine ⟨_, _, _, hrun, ?_, hn.1, hn.2⟩
            simp only [Rep]
            refine ⟨w.heap.size, grownCap w m 0 e, by rw [← hr.len]; simp, by rw [hdiv]; exact hge, by rw [hdiv]⟩
        · cases h
    · -- onto a row
      rename_i id n _
      simp only [Rep] at hs
      obtain ⟨b, c, hL, hnc, rfl⟩ := hs
      split at h
      · rename_i t' sz' cs hid
        split at h
        · rename_i hc
          obtain ⟨rfl, rfl, hcl, hle⟩ := hc
          cases h
          rw [hdiv]
          obtain ⟨arr, g1, g2, g3, g4, g5⟩ := row_values hr hid hL
          have hcok : cs.all cellOk = true ∨ True := .inr trivial
          have hone0 : ∀ (j : Nat) (d : D), cs[j]? = some d → ∃ x, arr[j]? = some x ∧ x.oneCell' = true ∧ Rep S L w x d := by
            obtain ⟨b', c', arr', k1, k2, k3, k4, k5, k6, k7, k8⟩ := hr.live id _ _ cs hid
            rw [hL] at k1; cases k1
            rw [g1] at k4; cases k4
            exact k8
          have hbound : n + m ≤ 4000000 := by
            have h1 : (n + m) * i.size ≤ 4000000 := by rw [Nat.add_mul, ← hnl, ← hcl]; exact hle
            exact Nat.le_trans (Nat.le_mul_of_pos_right _ hsz) h1
          rcases hp with ⟨rfl, rfl, rfl⟩ | ⟨a, rfl, hcell⟩
          · have hnew0 : new = [] := List.eq_nil_of_length_eq_zero (by simpa using hnl)
            subst hnew0
            have hmv := hr.move hid (by intro e; cases e) hL
            refine ⟨.slice (some ⟨b, 0, none⟩) n c, w, _, ?_, ?_, by simpa using hmv.1, hmv.2⟩
            · simp [Builtin.append_, run_underlying ht, sizeOf, typeInfo, hinf, Builtin.lenOf, Builtin.firstCells, hnc, storeCells]
            · simp only [Rep]
              exact ⟨b, c, by rw [← hr.len]; simp, hnc, rfl⟩
          · by_cases hroom : n + m ≤ c
            · have hfit : n * i.size + vs.length ≤ arr.size := by rw [hvl, g2, ← Nat.add_mul]; exact Nat.mul_le_mul_right _ hroom
              have hrun := run_append_room (P := P) w t ty t' i ht hinf b n c arr g1 a m cap vs hvl hcell hone hroom hfit
              have hw := hr.write hid hL (arr.toList.take (n * i.size) ++ vs ++ arr.toList.drop (n * i.size + vs.length)).toArray (cs ++ new) (by
                simp only [List.size_toArray, List.length_append, List.length_take, List.length_drop, Array.length_toList]; omega) (by
                simp only [List.size_toArray, List.length_append, List.length_take, List.length_drop, Array.length_toList]; omega) (by
                intro j d hj
                by_cases hjl : j < cs.length
                · rw [List.getElem?_append_left hjl] at hj
                  obtain ⟨x, hx1, hx2, hx3⟩ := hone0 j d hj
                  refine ⟨x, ?_, hx2, hx3⟩
                  have hja : j < arr.size := by omega
                  simp only [List.getElem?_toArray, List.append_assoc]
                  rw [List.getElem?_append_left (by simp; omega), List.getElem?_take_of_lt (by omega)]
                  simpa using hx1
                · rw [List.getElem?_append_right (by omega)] at hj
                  obtain ⟨x, hx1, hx2⟩ := hvs.get _ d hj
                  have hm := List.all_eq_true.1 hok d (List.mem_of_getElem? hj)
                  refine ⟨x, ?_, oneCell_of hm hx2, hx2⟩
                  have hlt := (List.getElem?_eq_some_iff.1 hx1).1
                  simp only [List.getElem?_toArray, List.append_assoc]
                  rw [List.getElem?_append_right (by simp; omega)]
                  simp only [List.length_take, Array.length_toList]
                  rw [List.getElem?_append_left (by omega), ← hx1]
                  congr 1; omega)
              have hmv := hw.1.move (id := id) (o := .cells t' i.size (cs ++ new)) (by
                have hlt := (List.getElem?_eq_some_iff.1 hid).1
                rw [List.getElem?_set_self hlt]) (by intro e; cases e) hL
              rw [List.set_set] at hmv
              refine ⟨_, _, _, hrun, ?_, hmv.1, hw.2.trans hmv.2⟩
              simp only [Rep]
              exact ⟨b, c, by rw [← hr.len]; simp, hroom, rfl⟩
            · have holds : ∀ (j : Nat) (v : Value), (arr.toList.take cs.length)[j]? = some v → w.cell? ((⟨b, 0, none⟩ : Addr).add j) = some v := by
                intro j v hj
                rw [addr_add, Nat.zero_add, cell_of_heap g1]
                have hlt := (List.getElem?_eq_some_iff.1 hj).1
                rw [List.getElem?_take_of_lt (by simp at hlt; omega)] at hj
                simpa using hj
              have hol : (arr.toList.take cs.length).length = n * i.size := by rw [g5.length, hcl]
              have hrun := run_append_grow (P := P) w t ty t' i z ht hinf hz ⟨b, 0, none⟩ n c (arr.toList.take cs.length) hol holds a m cap vs hvl hcell (by omega) (by omega) (growslice_fits (by omega) (Nat.le_trans (Nat.mul_le_mul hbound hby) (by decide)))
              have hge := grownCap_ge w (n + m) c t'
              have hcm := grownCap_le_maxLen w (n + m) c t' (by unfold maxLen; omega)
              have hn := (hr.kill id).new w.drew rfl ((Below.refl _ _).drew) t' i.size (grownCap w (n + m) c t') (cs ++ new) ((arr.toList.take cs.length).toArray ++ vs.toArray ++ Builtin.zeroCells z.cells (grownCap w (n + m) c t' - (n + m))) (by
                simp only [Array.size_append, List.size_toArray, size_zeroCells, hzs, hol, hvl, ← Nat.add_mul]
                congr 1; omega) hcm (by
                have h1 := g5.length; have h2 := hvs.length
                simp only [Array.size_append, List.size_toArray, List.length_append]; omega) (by
                intro j d hj
                obtain ⟨x, hx1, hx2⟩ := (g5.append hvs).get j d hj
                have hlt := (List.getElem?_eq_some_iff.1 hx1).1
                have hx1' : ((arr.toList.take cs.length).toArray ++ vs.toArray ++ Builtin.zeroCells z.cells (grownCap w (n + m) c t' - (n + m)))[j]? = some x := by
                  rw [Array.getElem?_append_left (by simpa using hlt)]
                  simpa using hx1
                refine ⟨x, hx1', ?_, hx2⟩
                by_cases hjl : j < cs.length
                · rw [List.getElem?_append_left hjl] at hj
                  obtain ⟨y, hy1, hy2, _⟩ := hone0 j d hj
                  have h1 := g5.length
                  rw [List.getElem?_append_left (by omega), List.getElem?_take_of_lt (by omega)] at hx1
                  have : y = x := by
                    have : arr[j]? = some x := by simpa using hx1
                    rw [hy1] at this; exact Option.some.inj this
                  rw [← this]; exact hy2
                · rw [List.getElem?_append_right (by omega)] at hj
                  exact oneCell_of (List.all_eq_true.1 hok d (List.mem_of_getElem? hj)) hx2)
              refine ⟨_, _, _, hrun, ?_, hn.1, hn.2⟩
              simp only [Rep]
              exact ⟨w.heap.size, grownCap w (n + m) c t', by rw [← hr.len]; simp, hge, rfl⟩
        · cases h
      · cases h
    · cases h
end
end Go.Proofs.Ytnmgfobpcengkaa
