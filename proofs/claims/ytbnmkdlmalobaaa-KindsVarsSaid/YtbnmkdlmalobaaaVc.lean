/-
  Parts joined into one text: HDenApp, HDenNew, HDenMore. No condition.
-/
import Derived.Laws.BytesString
import Derived.Lib.AppendStr
import Derived.Laws.MakeOwn
import Derived.Test.YtbnmkdlmalobaaaVb

section
namespace Go.Proofs.Ytbnmkdlmalobaaa
open Go.RowKit
set_option linter.unusedVariables false
set_option linter.unusedSimpArgs false

theorem cell_of_heap {w : World} {b : Nat} {arr : Array Value} {t : TypeId} (h : w.heap[b]? = some (.cells arr t (0, 0))) (j : Nat) : w.cell? ⟨b, j, none⟩ = arr[j]? := by
  simp [World.cell?, h]

section
variable {P : Program} {B : Nat} {S : Nat → Prop} {L : List (Nat × Nat)} {w : World} {H : Heap}

theorem RepR.flat {b o sz : Nat} {els : List (List D)} (h : RepR S L w b o sz els) : RepC S L w b o els.flatten ∧ els.flatten.length = els.length * sz := by
  induction els generalizing o with
  | nil => simp [RepC]
  | cons e r ih =>
    simp only [RepR] at h
    obtain ⟨h1, h2, h3⟩ := h
    obtain ⟨h4, h5⟩ := ih h3
    refine ⟨?_, by simp [h1, h5, Nat.succ_mul]; omega⟩
    obtain ⟨xs, k1, k2⟩ := h2.values
    obtain ⟨ys, k3, k4⟩ := h4.values
    refine RepC.of (k1.append k3) fun j x hj => ?_
    have hl := k1.length
    by_cases hlt : j < xs.length
    · rw [List.getElem?_append_left hlt] at hj
      exact k2 j x hj
    · rw [List.getElem?_append_right (by omega)] at hj
      have := k4 _ x hj
      rwa [show o + sz + (j - xs.length) = o + j from by omega] at this

/-- A row's cells, as values. -/
theorem row_values (h : HRel B S L w H) {id : Nat} {t : TypeId} {sz : Nat} {cs : List D} (hid : H[id]? = some (HO.cells t sz cs)) {b c : Nat} (hL : L[id]? = some (b, c)) :
    ∃ arr : Array Value, w.heap[b]? = some (.cells arr t (0, 0)) ∧ arr.size = c * sz ∧ c ≤ maxLen ∧ cs.length ≤ arr.size ∧ RepA S L w (arr.toList.take cs.length) cs := by
  obtain ⟨b', c', arr, h1, h2, h3, h4, h5, h6, h7, h8⟩ := h.live id t sz cs hid
  rw [hL] at h1
  cases h1
  refine ⟨arr, h4, h5, h6, h7, ?_⟩
  have key : ∀ (cs : List D) (xs : List Value), cs.length ≤ xs.length → (∀ (j : Nat) (d : D), cs[j]? = some d → ∃ x, xs[j]? = some x ∧ Rep S L w x d) → RepA S L w (xs.take cs.length) cs := by
    intro cs
    induction cs with
    | nil => intro xs _ _; simp [RepA]
    | cons d r ih =>
      intro xs hl hx
      cases xs with
      | nil => simp at hl
      | cons y ys =>
        obtain ⟨x, hx1, hx2⟩ := hx 0 d rfl
        have : y = x := by simpa using hx1
        subst this
        simp only [List.length_cons, List.take_succ_cons]
        exact RepA.cons hx2 (ih ys (by simpa using hl) fun j d' hj => by simpa using hx (j + 1) d' (by simpa using hj))
  exact key cs arr.toList (by simpa using h7) fun j d hj => by
    obtain ⟨x, hx1, _, hx3⟩ := h8 j d hj
    exact ⟨x, by simpa using hx1, hx3⟩

/-- What is appended: a slice value, whose cells these are. -/
def IsSrc (S : Nat → Prop) (L : List (Nat × Nat)) (w : World) (sz : Nat) (u : Value) (new : List D) : Prop :=
  ∃ p m cap vs, u = .slice p m cap ∧ new.length = m * sz ∧ RepA S L w vs new ∧ ((p = none ∧ m = 0 ∧ cap = 0) ∨ ∃ a, p = some a ∧ ∀ (j : Nat) (v : Value), vs[j]? = some v → w.cell? (a.add j) = some v)
theorem src_ok {sz : Nat} {x : D} {u : Value} {new : List D} (h : srcH sz H x = some new) (hx : Rep S L w u x) (hr : HRel B S L w H) : IsSrc S L w sz u new := by
  have pure' : ∀ els, elsD sz x = some els → new = els.flatten → IsSrc S L w sz u new := by
    intro els he hn
    subst hn
    rcases elsD_ok he hx with ⟨rfl, p, cap, rfl, hp⟩ | ⟨b, o, cap, rfl, hp, hc, hb, hrr⟩
    · refine ⟨p, 0, cap, [], rfl, by simp, RepA.nil, ?_⟩
      cases p with
      | none => exact .inl ⟨rfl, rfl, hp rfl⟩
      | some a => exact .inr ⟨a, rfl, by simp⟩
    · obtain ⟨h1, h2⟩ := hrr.flat
      obtain ⟨vs, h3, h4⟩ := h1.values
      exact ⟨_, _, _, vs, rfl, h2, h3.lift, .inr ⟨_, rfl, fun j v hj => by rw [addr_add]; exact h4 j v hj⟩⟩
  unfold srcH at h
  split at h
  · rename_i id n
    split at h
    · rename_i t s cs hid
      split at h
      · rename_i hc
        cases h
        obtain ⟨rfl, hle⟩ := hc
        simp only [Rep] at hx
        obtain ⟨b, c, hL, hnc, rfl⟩ := hx
        obtain ⟨arr, h1, h2, h3, h4, h5⟩ := row_values hr hid hL
        refine ⟨_, _, _, (arr.toList.take cs.length).take (n * s), rfl, by simp; omega, h5.take _, .inr ⟨_, rfl, fun j v hj => ?_⟩⟩
        rw [addr_add, Nat.zero_add, cell_of_heap h1]
        have hlt := (List.getElem?_eq_some_iff.1 hj).1
        rw [List.getElem?_take_of_lt (by simp at hlt; omega), List.getElem?_take_of_lt (by simp at hlt; omega)] at hj
        simpa using hj
      · cases h
    · cases h
  · rename_i id off n
    split at h
    · rename_i t s cs hid
      split at h
      · rename_i hc
        cases h
        obtain ⟨rfl, hle⟩ := hc
        simp only [Rep] at hx
        obtain ⟨b, c, o, cap, hL, rfl, hnc, ho⟩ := hx
        obtain ⟨arr, h1, h2, h3, h4, h5⟩ := row_values hr hid hL
        refine ⟨_, _, _, ((arr.toList.take cs.length).drop off).take (n * s), rfl, by simp; omega, (h5.drop off).take _, .inr ⟨_, rfl, fun j v hj => ?_⟩⟩
        have hlt := (List.getElem?_eq_some_iff.1 hj).1
        have hn : 0 < n := by
          by_cases e : n = 0
          · subst e; simp at hlt
          · omega
        obtain rfl := ho hn
        rw [addr_add, cell_of_heap h1]
        rw [List.getElem?_take_of_lt (by simp at hlt; omega), List.getElem?_drop, List.getElem?_take_of_lt (by simp at hlt; omega)] at hj
        simpa using hj
      · cases h
    · cases h
  · rename_i x' hne
    cases he : elsD sz x with
    | none => rw [he] at h; cases h
    | some els =>
      rw [he] at h
      simp only [Option.map_some, Option.some.injEq] at h
      exact pure' els he h.symm

theorem elemOf_ok {t e : TypeId} {sz : Nat} (h : elemOfD P t = some (e, sz)) : ∃ i z, P.underlying t = some (.slice e) ∧ P.info? e = some i ∧ i.zero = some z ∧ i.size = sz ∧ z.cells.size = sz ∧ i.bytes ≤ 1000 := by
  unfold elemOfD at h
  split at h
  · rename_i e' hu
    obtain ⟨i, hi, h⟩ := Option.bind_eq_some_iff.1 h
    split at h
    · rename_i z hz
      split at h
      · rename_i hc
        cases h
        exact ⟨i, z, hu, hi, hz, rfl, hc.1, hc.2⟩
      · cases h
    · cases h
  · cases h

theorem append_cells {vs us : List Value} {ds es : List D} {zs : Array Value} (h1 : RepA S L w vs ds) (h2 : RepA S L w us es) (o1 : ds.all cellOk = true) (o2 : es.all cellOk = true) :
    ∀ (j : Nat) (d : D), (ds ++ es)[j]? = some d → ∃ x, (vs.toArray ++ us.toArray ++ zs)[j]? = some x ∧ x.oneCell' = true ∧ Rep S L w x d := by
  intro j d hj
  have h3 := h1.append h2
  obtain ⟨x, hx1, hx2⟩ := h3.get j d hj
  have hok : cellOk d = true := by
    have hm := List.mem_of_getElem? hj
    rcases List.mem_append.1 hm with hm | hm
    · exact List.all_eq_true.1 o1 d hm
    · exact List.all_eq_true.1 o2 d hm
  have hlt : j < (vs ++ us).length := (List.getElem?_eq_some_iff.1 hx1).1
  refine ⟨x, ?_, oneCell_of hok hx2, hx2⟩
  rw [Array.getElem?_append_left (by simpa using hlt)]
  simpa using hx1

theorem row_okcells (h : HRel B S L w H) {id : Nat} {t : TypeId} {sz : Nat} {cs : List D} (hid : H[id]? = some (HO.cells t sz cs)) : ∀ (j : Nat) (d : D), cs[j]? = some d → ∀ x, Rep S L w x d → True := fun _ _ _ _ _ => trivial

set_option maxHeartbeats 1000000 in
theorem append_ok {t e : TypeId} {sz : Nat} {s x d : D} {v u : Value} {H' : Heap} (hi : elemOfD P t = some (e, sz)) (h : appendH e sz s x H = some (d, H')) (hs : Rep S L w v s) (hx : Rep S L w u x) (hr : HRel B S L w H) (ty : TypeId) :
    ∃ r w' L', (Builtin.append_ #[t, t] ty #[v, u]).run P w = .ok r w' ∧ Rep S L' w' r d ∧ HRel B S L' w' H' ∧ Later B S S L L' w w' := by
  obtain ⟨i, z, ht, hinf, hz, rfl, hzs, hby⟩ := elemOf_ok hi
  unfold appendH at h
  obtain ⟨new, hsrc, h⟩ := Option.bind_eq_some_iff.1 h
  obtain ⟨p, m, cap, vs, rfl, hnl, hvs, hp⟩ := src_ok hsrc hx hr
  unfold appH at h
  split at h
  · cases h
  · rename_i hg
    have hsz : 0 < i.size := by
      by_cases e0 : i.size = 0
      · exact absurd (.inl e0) hg
      · omega
    have hok : new.all cellOk = true := by
      cases hb : new.all cellOk with
      | true => rfl
      | false => exact absurd (.inr (by simp [hb])) hg
    have hvl : vs.length = m * i.size := by rw [hvs.length, hnl]
    have hone := cells_one hvs hok
    have hdiv : new.length / i.size = m := by rw [hnl]; exact Nat.mul_div_cancel m hsz
    split at h
    · -- onto nil
      simp only [Rep] at hs
      subst hs
      split at h
      · rename_i h0
        cases h
        have hm : m = 0 := by
          rw [hnl] at h0
          rcases Nat.mul_eq_zero.1 h0 with h0 | h0
          · exact h0
          · omega
        subst hm
        refine ⟨.slice none 0 0, w, L, ?_, by simp only [Rep], hr, Later.refl⟩
        rcases hp with ⟨rfl, _, rfl⟩ | ⟨a, rfl, _⟩ <;> simp [Builtin.append_, run_underlying ht, sizeOf, typeInfo, hinf, Builtin.lenOf, Builtin.firstCells, loadCells, loadCellsFrom]
      · rename_i h0
        split at h
        · rename_i hle
          cases h
          have hm : 0 < m := by
            by_cases e0 : m = 0
            · rw [e0, Nat.zero_mul] at hnl; exact absurd hnl h0
            · omega
          have hmle : m ≤ 4000000 := by
            have : m ≤ new.length := by rw [hnl]; exact Nat.le_mul_of_pos_right m hsz
            omega
          rcases hp with ⟨_, rfl, _⟩ | ⟨a, rfl, hcell⟩
          · omega
          · have hrun := run_append_nil (P := P) w t ty e i z ht hinf hz a m cap vs hvl hcell hm (by omega) (Nat.le_trans (Nat.mul_le_mul hmle hby) (by decide))
            have hge := grownCap_ge w m 0 e
            have hcm := grownCap_le_maxLen w m 0 e (by unfold maxLen; omega)
            have hn := hr.new w.drew rfl ((Below.refl _ _).drew) e i.size (grownCap w m 0 e) new (vs.toArray ++ Builtin.zeroCells z.cells (grownCap w m 0 e - m)) (by
              simp only [Array.size_append, List.size_toArray, size_zeroCells, hzs, hvl, ← Nat.add_mul]
              congr 1; omega) hcm (by simp [hvs.length]) (fun j d hj => by
              have := append_cells (zs := Builtin.zeroCells z.cells (grownCap w m 0 e - m)) (RepA.nil (S := S) (L := L) (w := w)) hvs (by simp) hok j d (by simpa using hj)
              simpa using this)
            refine ⟨_, _, _, hrun, ?_, hn.1, hn.2⟩
            simp only [Rep]
            refine ⟨w.heap.size, grownCap w m 0 e, by rw [← hr.len]; simp, by rw [hdiv]; exact hge, by rw [hdiv]⟩
        · cases h
    · -- onto a row
      rename_i id n _
      simp only [Rep] at hs
      obtain ⟨b, c, hL, hnc, rfl⟩ := hs
      split at h
      · rename_i t' sz' cs hid
        split at h
        · rename_i hc
          obtain ⟨rfl, rfl, hcl, hle⟩ := hc
          cases h
          rw [hdiv]
          obtain ⟨arr, g1, g2, g3, g4, g5⟩ := row_values hr hid hL
          have hcok : cs.all cellOk = true ∨ True := .inr trivial
          have hone0 : ∀ (j : Nat) (d : D), cs[j]? = some d → ∃ x, arr[j]? = some x ∧ x.oneCell' = true ∧ Rep S L w x d := by
            obtain ⟨b', c', arr', k1, k2, k3, k4, k5, k6, k7, k8⟩ := hr.live id _ _ cs hid
            rw [hL] at k1; cases k1
            rw [g1] at k4; cases k4
            exact k8
          have hbound : n + m ≤ 4000000 := by
            have h1 : (n + m) * i.size ≤ 4000000 := by rw [Nat.add_mul, ← hnl, ← hcl]; exact hle
            exact Nat.le_trans (Nat.le_mul_of_pos_right _ hsz) h1
          rcases hp with ⟨rfl, rfl, rfl⟩ | ⟨a, rfl, hcell⟩
          · have hnew0 : new = [] := List.eq_nil_of_length_eq_zero (by simpa using hnl)
            subst hnew0
            have hmv := hr.move hid (by intro e; cases e) hL
            refine ⟨.slice (some ⟨b, 0, none⟩) n c, w, _, ?_, ?_, by simpa using hmv.1, hmv.2⟩
            · simp [Builtin.append_, run_underlying ht, sizeOf, typeInfo, hinf, Builtin.lenOf, Builtin.firstCells, hnc, storeCells]
            · simp only [Rep]
              exact ⟨b, c, by rw [← hr.len]; simp, hnc, rfl⟩
          · by_cases hroom : n + m ≤ c
            · have hfit : n * i.size + vs.length ≤ arr.size := by rw [hvl, g2, ← Nat.add_mul]; exact Nat.mul_le_mul_right _ hroom
              have hrun := run_append_room (P := P) w t ty t' i ht hinf b n c arr g1 a m cap vs hvl hcell hone hroom hfit
              have hw := hr.write hid hL (arr.toList.take (n * i.size) ++ vs ++ arr.toList.drop (n * i.size + vs.length)).toArray (cs ++ new) (by
                simp only [List.size_toArray, List.length_append, List.length_take, List.length_drop, Array.length_toList]; omega) (by
                simp only [List.size_toArray, List.length_append, List.length_take, List.length_drop, Array.length_toList]; omega) (by
                intro j d hj
                by_cases hjl : j < cs.length
                · rw [List.getElem?_append_left hjl] at hj
                  obtain ⟨x, hx1, hx2, hx3⟩ := hone0 j d hj
                  refine ⟨x, ?_, hx2, hx3⟩
                  have hja : j < arr.size := by omega
                  simp only [List.getElem?_toArray, List.append_assoc]
                  rw [List.getElem?_append_left (by simp; omega), List.getElem?_take_of_lt (by omega)]
                  simpa using hx1
                · rw [List.getElem?_append_right (by omega)] at hj
                  obtain ⟨x, hx1, hx2⟩ := hvs.get _ d hj
                  have hm := List.all_eq_true.1 hok d (List.mem_of_getElem? hj)
                  refine ⟨x, ?_, oneCell_of hm hx2, hx2⟩
                  have hlt := (List.getElem?_eq_some_iff.1 hx1).1
                  simp only [List.getElem?_toArray, List.append_assoc]
                  rw [List.getElem?_append_right (by simp; omega)]
                  simp only [List.length_take, Array.length_toList]
                  rw [List.getElem?_append_left (by omega), ← hx1]
                  congr 1; omega)
              have hmv := hw.1.move (id := id) (o := .cells t' i.size (cs ++ new)) (by
                have hlt := (List.getElem?_eq_some_iff.1 hid).1
                rw [List.getElem?_set_self hlt]) (by intro e; cases e) hL
              rw [List.set_set] at hmv
              refine ⟨_, _, _, hrun, ?_, hmv.1, hw.2.trans hmv.2⟩
              simp only [Rep]
              exact ⟨b, c, by rw [← hr.len]; simp, hroom, rfl⟩
            · have holds : ∀ (j : Nat) (v : Value), (arr.toList.take cs.length)[j]? = some v → w.cell? ((⟨b, 0, none⟩ : Addr).add j) = some v := by
                intro j v hj
                rw [addr_add, Nat.zero_add, cell_of_heap g1]
                have hlt := (List.getElem?_eq_some_iff.1 hj).1
                rw [List.getElem?_take_of_lt (by simp at hlt; omega)] at hj
                simpa using hj
              have hol : (arr.toList.take cs.length).length = n * i.size := by rw [g5.length, hcl]
              have hrun := run_append_grow (P := P) w t ty t' i z ht hinf hz ⟨b, 0, none⟩ n c (arr.toList.take cs.length) hol holds a m cap vs hvl hcell (by omega) (by omega) (growslice_fits (by omega) (Nat.le_trans (Nat.mul_le_mul hbound hby) (by decide)))
              have hge := grownCap_ge w (n + m) c t'
              have hcm := grownCap_le_maxLen w (n + m) c t' (by unfold maxLen; omega)
              have hn := (hr.kill id).new w.drew rfl ((Below.refl _ _).drew) t' i.size (grownCap w (n + m) c t') (cs ++ new) ((arr.toList.take cs.length).toArray ++ vs.toArray ++ Builtin.zeroCells z.cells (grownCap w (n + m) c t' - (n + m))) (by
                simp only [Array.size_append, List.size_toArray, size_zeroCells, hzs, hol, hvl, ← Nat.add_mul]
                congr 1; omega) hcm (by
                have h1 := g5.length; have h2 := hvs.length
                simp only [Array.size_append, List.size_toArray, List.length_append]; omega) (by
                intro j d hj
                obtain ⟨x, hx1, hx2⟩ := (g5.append hvs).get j d hj
                have hlt := (List.getElem?_eq_some_iff.1 hx1).1
                have hx1' : ((arr.toList.take cs.length).toArray ++ vs.toArray ++ Builtin.zeroCells z.cells (grownCap w (n + m) c t' - (n + m)))[j]? = some x := by
                  rw [Array.getElem?_append_left (by simpa using hlt)]
                  simpa using hx1
                refine ⟨x, hx1', ?_, hx2⟩
                by_cases hjl : j < cs.length
                · rw [List.getElem?_append_left hjl] at hj
                  obtain ⟨y, hy1, hy2, _⟩ := hone0 j d hj
                  have h1 := g5.length
                  rw [List.getElem?_append_left (by omega), List.getElem?_take_of_lt (by omega)] at hx1
                  have : y = x := by
                    have : arr[j]? = some x := by simpa using hx1
                    rw [hy1] at this; exact Option.some.inj this
                  rw [← this]; exact hy2
                · rw [List.getElem?_append_right (by omega)] at hj
                  exact oneCell_of (List.all_eq_true.1 hok d (List.mem_of_getElem? hj)) hx2)
              refine ⟨_, _, _, hrun, ?_, hn.1, hn.2⟩
              simp only [Rep]
              exact ⟨w.heap.size, grownCap w (n + m) c t', by rw [← hr.len]; simp, hge, rfl⟩
        · cases h
      · cases h
    · cases h
end
end Go.Proofs.Ytbnmkdlmalobaaa
end

section
namespace Go.Proofs.Ytbnmkdlmalobaaa
open Go.RowKit
set_option linter.unusedVariables false
set_option linter.unusedSimpArgs false

section
variable {P : Program} {B : Nat} {S : Nat → Prop} {L : List (Nat × Nat)} {w : World} {H : Heap}

theorem strOf_ok {d : D} {s : ByteArray} {v : Value} (h : strOf d = some s) (hv : Rep S L w v d) : v = .string s := by
  unfold strOf at h
  split at h
  · simp only [Rep] at hv; cases h; exact hv
  · cases h
theorem cutS_ok {t : TypeId} {x d : D} {v : Value} {lo hi : Option D} {u1 u2 : Option Value} (ht : P.underlying t = some .string) (h : cutS x lo hi = some d) (hv : Rep S L w v x)
    (hu : OptRep S L w u1 lo) (hu' : OptRep S L w u2 hi) : ∃ r, (Instr.sliceAt t v u1 u2 none).run P w = .ok r w ∧ Rep S L w r d := by
  unfold cutS at h
  obtain ⟨s, hs, h⟩ := Option.bind_eq_some_iff.1 h
  have := strOf_ok hs hv
  subst this
  split at h
  · rename_i l k h1 h2
    split at h
    · rename_i hc
      cases h
      have hb := bounds_ok (P := P) (w := w) (fl := false) (n := s.size) (cap := s.size) h1 h2 hc.1 hc.2 hu hu'
      exact ⟨.string (s.extract l k), by simp [Instr.sliceAt, Instr.slice, run_underlying ht, hb], by simp only [Rep]⟩
    · cases h
  · cases h
theorem idxS_ok {t : TypeId} {x i d : D} {v u : Value} (ht : P.underlying t = some .string) (h : idxS x i = some d) (hv : Rep S L w v x) (hu : Rep S L w u i) : ∃ r, (Instr.index t v u).run P w = .ok r w ∧ Rep S L w r d := by
  unfold idxS at h
  obtain ⟨s, hs, h⟩ := Option.bind_eq_some_iff.1 h
  obtain ⟨n, hn, h⟩ := Option.bind_eq_some_iff.1 h
  have := strOf_ok hs hv
  subst this
  obtain ⟨k, rfl⟩ := natD_ok hn hu
  cases hg : s[n]? with
  | none => rw [hg] at h; cases h
  | some b =>
    rw [hg] at h
    simp only [Option.map_some, Option.some.injEq] at h
    subst h
    exact ⟨.int .u8 b.toNat, by simp [Instr.index, asIntOf, run_underlying ht, hg], by simp only [Rep]⟩
theorem bytes_fold (ns : List Int) : ∀ (s : ByteArray), ns.foldl (fun r n => r.push (UInt8.ofNat n.toNat)) s = ⟨s.data ++ (ns.map fun n => UInt8.ofNat n.toNat).toArray⟩ := by
  induction ns with
  | nil => intro s; simp
  | cons n r ih =>
    intro s
    rw [List.foldl_cons, ih]
    simp [ByteArray.push]
theorem bytes_vals {cs : List D} {bs : List UInt8} {vs : List Value} (h : cs.mapM byteOfD = some bs) (hv : RepA S L w vs cs) : ∃ ns : List Int, vs = ns.map (Value.int .u8) ∧ bs = ns.map fun n => UInt8.ofNat n.toNat := by
  induction cs generalizing bs vs with
  | nil => simp only [RepA] at hv; subst hv; simp at h; subst h; exact ⟨[], rfl, rfl⟩
  | cons d r ih =>
    simp only [RepA] at hv
    obtain ⟨x, ys, rfl, h1, h2⟩ := hv
    rw [List.mapM_cons] at h
    obtain ⟨b, hb, h⟩ := Option.bind_eq_some_iff.1 h
    obtain ⟨bs', hbs, h⟩ := Option.bind_eq_some_iff.1 h
    cases h
    obtain ⟨ns, e1, e2⟩ := ih hbs h2
    unfold byteOfD at hb
    split at hb
    · rename_i n
      cases hb
      simp only [Rep] at h1
      exact ⟨n :: ns, by rw [h1, e1]; rfl, by rw [e2]; rfl⟩
    · cases hb
theorem bytesS_ok {s t e : TypeId} {x d : D} {v : Value} (hs : P.underlying s = some (.slice e)) (he : P.underlying e = some (.int .u8)) (ht : P.underlying t = some .string) (h : bytesS H x = some d) (hv : Rep S L w v x) (hr : HRel B S L w H) :
    ∃ r, (convert s t v).run P w = .ok r w ∧ Rep S L w r d := by
  unfold bytesS at h
  obtain ⟨cs, hcs, h⟩ := Option.bind_eq_some_iff.1 h
  cases hm : cs.mapM byteOfD with
  | none => rw [hm] at h; cases h
  | some bs =>
    rw [hm] at h
    simp only [Option.map_some, Option.some.injEq] at h
    subst h
    obtain ⟨p, m, cap, vs, rfl, h1, h2, h3⟩ := src_ok hcs hv hr
    obtain ⟨ns, rfl, rfl⟩ := bytes_vals hm h2
    refine ⟨_, ?_, by simp only [Rep]; rfl⟩
    rw [run_convert_bytes_string w s t e p m cap hs he ht]
    rcases h3 with ⟨rfl, rfl, rfl⟩ | ⟨a, rfl, ha⟩
    · have : ns = [] := by
        have := h2.length
        simp at this h1
        rw [h1] at this
        simpa using this
      subst this
      rfl
    · have hl := run_loadCells_list (P := P) w a (ns.map (Value.int .u8)) ha
      rw [show (ns.map (Value.int .u8)).length = m from by rw [h2.length]; omega] at hl
      rw [run_bytesToString w a m cap ns hl, bytes_fold]
      simp [ByteArray.empty, ByteArray.emptyWithCapacity]
      rfl

/- Maps. -/
theorem zeroVD_ok {t : TypeId} {d : D} (h : zeroVD P t = some d) : ∃ z, (zeroValue t).run P w = .ok z w ∧ Rep S L w z d := by
  unfold zeroVD at h
  split at h
  · rename_i i hi
    cases hz : i.zero with
    | none => rw [hz] at h; cases h
    | some z =>
      rw [hz] at h
      simp only [Option.map_some, Option.some.injEq] at h
      subst h
      refine ⟨z, by simp [zeroValue, typeInfo, hi, hz], ?_⟩
      split
      · rename_i cs
        simp only [Rep]
        refine ⟨cs.toList, by simp, ?_⟩
        generalize cs.toList = l
        induction l with
        | nil => exact RepA.nil
        | cons a r ih => exact RepA.cons (by simp only [Rep]) ih
      · simp only [Rep]
  · cases h
theorem find_ok {k : IntKind} (es : List MapEntry) (ks : List Int) (vs : List D) (hk : es.map (·.key) = ks.map (Value.int .i64)) (hv : RepA S L w (es.map (·.val)) vs) (n : Int) (v : D) (i : Nat) :
    (findM ks vs n = none ∧ Instr.findNow (.int k) (.int .i64 n) es i = some none ∧ putM ks vs n v = (ks ++ [n], vs ++ [v])) ∨
    ∃ j u e, findM ks vs n = some u ∧ es[j]? = some e ∧ e.key = .int .i64 n ∧ Instr.findNow (.int k) (.int .i64 n) es i = some (some (i + j, e.val)) ∧ Rep S L w e.val u ∧ putM ks vs n v = (ks, vs.set j v) := by
  induction es generalizing ks vs i with
  | nil =>
    cases ks with
    | cons a r => simp at hk
    | nil =>
      have := hv.length
      cases vs with
      | cons a r => simp at this
      | nil => exact .inl ⟨rfl, rfl, rfl⟩
  | cons e r ih =>
    cases ks with
    | nil => simp at hk
    | cons a ks =>
      simp only [List.map_cons, List.cons.injEq] at hk
      cases vs with
      | nil => have := hv.length; simp at this
      | cons u vs =>
        simp only [List.map_cons, RepA] at hv
        obtain ⟨x, ys, he, h1, h2⟩ := hv
        simp only [List.cons.injEq] at he
        obtain ⟨rfl, rfl⟩ := he
        have hs : Instr.sameNow (.int k) (.int .i64 n) e.key = some (n == a) := by rw [hk.1]; simp [Instr.sameNow]
        by_cases hn : n = a
        · subst hn
          refine .inr ⟨0, u, e, by simp [findM], rfl, hk.1, ?_, h1, by simp [putM]⟩
          unfold Instr.findNow
          rw [hs]
          simp
        · have hb : (n == a) = false := by simpa using hn
          rcases ih ks vs hk.2 h2 (i + 1) with ⟨q1, q2, q3⟩ | ⟨j, u', e', q1, q2, q3, q4, q5, q6⟩
          · refine .inl ⟨by simp [findM, hn, q1], ?_, by simp [putM, hn, q3]⟩
            unfold Instr.findNow
            rw [hs, hb]
            exact q2
          · refine .inr ⟨j + 1, u', e', by simp [findM, hn, q1], by simpa using q2, q3, ?_, q5, by simp [putM, hn, q6]⟩
            unfold Instr.findNow
            rw [hs, hb, show i + (j + 1) = i + 1 + j from by omega]
            exact q4
theorem mapElem_ok {t e : TypeId} (h : mapElem P t = some e) : ∃ k ik, P.underlying t = some (.map k e) ∧ P.underlying k = some (.int ik) := by
  unfold mapElem at h
  split at h
  · rename_i k e' hu
    split at h
    · rename_i ik hk
      cases h
      exact ⟨k, ik, hu, hk⟩
    · cases h
  · cases h
theorem int64_ok {d : D} {n : Int} {v : Value} (h : int64Of d = some n) (hv : Rep S L w v d) : v = .int .i64 n := by
  unfold int64Of at h
  split at h
  · simp only [Rep] at hv; cases h; exact hv
  · cases h
theorem run_findKey' {kt : TypeId} {d : TypeDesc} {k : Value} {l : List MapEntry} {a : Option (Nat × Value)} (hd : P.underlying kt = some d) (h : Instr.findNow d k l 0 = some a) : (Instr.findKey kt k l).run P w = .ok a w := by
  simp [Instr.findKey, run_underlying hd, h]
theorem run_checkKey_int {kt : TypeId} {ik : IntKind} (hd : P.underlying kt = some (.int ik)) (b : Bool) (n : Nat) (v : Value) : (Instr.checkKey b (n + 1) kt v).run P w = .ok () w := by
  simp [Instr.checkKey, run_underlying hd]
theorem mapOf_ok {m : D} {v : Value} {ks : List Int} {vs : List D} (h : mapOf H m = some (ks, vs)) (hv : Rep S L w v m) (hr : HRel B S L w H) :
    (v = .map none ∧ ks = [] ∧ vs = []) ∨ ∃ b arr clk, v = .map (some b) ∧ w.heap[b]? = some (.map arr clk) ∧ arr.toList.map (·.key) = ks.map (Value.int .i64) ∧ RepA S L w (arr.toList.map (·.val)) vs := by
  unfold mapOf at h
  split at h
  · rename_i id
    split at h
    · rename_i ks' vs' hid
      cases h
      simp only [Rep] at hv
      obtain ⟨b, c, hL, rfl⟩ := hv
      obtain ⟨b', c', h1, h2, h3, h4⟩ := hr.obj id _ hid (by intro e; cases e)
      rw [hL] at h1
      cases h1
      obtain ⟨arr, clk, h5, h6, h7⟩ := h4
      exact .inr ⟨b, arr, clk, rfl, h5, h6, h7⟩
    · cases h
  · cases h
    simp only [Rep] at hv
    obtain ⟨b, arr, clk, rfl, h2, h3, h4, h5⟩ := hv
    exact .inr ⟨b, arr, clk, rfl, h3, h4, h5.lift⟩
  · cases h
    simp only [Rep] at hv
    exact .inl ⟨hv, rfl, rfl⟩
  · cases h
theorem look_map_ok {t e : TypeId} {zero m k d : D} {ok : Bool} {u v : Value} (ht : mapElem P t = some e) (hz : zeroVD P e = some zero) (h : lookH zero ok H m k = some d) (hu : Rep S L w u m) (hv : Rep S L w v k) (hr : HRel B S L w H) :
    ∃ r, (Instr.lookup t u v ok).run P w = .ok r w ∧ Rep S L w r d := by
  obtain ⟨kt, ik, h1, h2⟩ := mapElem_ok ht
  obtain ⟨z, z1, z2⟩ := zeroVD_ok (S := S) (L := L) (w := w) hz
  unfold lookH at h
  obtain ⟨⟨ks, vs⟩, hm, h⟩ := Option.bind_eq_some_iff.1 h
  obtain ⟨n, hn, h⟩ := Option.bind_eq_some_iff.1 h
  simp only at h
  have hvn := int64_ok hn hv
  subst hvn
  have fin : ∀ (arr : Array MapEntry), arr.toList.map (·.key) = ks.map (Value.int .i64) → RepA S L w (arr.toList.map (·.val)) vs →
      ((Instr.findKey kt (.int .i64 n) arr.toList).run P w = .ok none w ∧ d = (if ok then .tup [zero, .v (.bool false)] else zero)) ∨
      ∃ i x u', (Instr.findKey kt (.int .i64 n) arr.toList).run P w = .ok (some (i, x)) w ∧ Rep S L w x u' ∧ d = (if ok then .tup [u', .v (.bool true)] else u') := by
    intro arr ha hb
    rcases find_ok (k := ik) arr.toList ks vs ha hb n .undef 0 with ⟨q1, q2, _⟩ | ⟨j, u', e', q1, q2, q3, q4, q5, _⟩
    · rw [q1] at h
      exact .inl ⟨run_findKey' h2 q2, (Option.some.inj h).symm⟩
    · rw [q1] at h
      exact .inr ⟨_, _, u', run_findKey' h2 q4, q5, (Option.some.inj h).symm⟩
  have two : ∀ (x : Value) (dx : D) (b : Bool), Rep S L w x dx → Rep S L w (if ok then .tuple #[x, .bool b] else x) (if ok then .tup [dx, .v (.bool b)] else dx) := by
    intro x dx b hx
    cases ok
    · exact hx
    · simp only [if_true, Rep]
      exact ⟨[x, .bool b], rfl, RepA.cons hx (RepA.cons (by simp only [Rep]) RepA.nil)⟩
  have hc := fun b => run_checkKey_int (P := P) (w := w) h2 b 9999 (.int .i64 n)
  rcases mapOf_ok hm hu hr with ⟨rfl, rfl, rfl⟩ | ⟨b, arr, clk, rfl, g1, g2, g3⟩
  · rcases fin #[] rfl RepA.nil with ⟨f1, rfl⟩ | ⟨i, x, u', f1, f2, rfl⟩
    · exact ⟨_, by simp [Instr.lookup, run_underlying h1, hc, f1, z1], two z zero false z2⟩
    · exact ⟨_, by simp [Instr.lookup, run_underlying h1, hc, f1], two x u' true f2⟩
  · have hg : (getObj b).run P w = .ok (.map arr clk) w := by simp [getObj, Sem.run, g1]
    rcases fin arr g2 g3 with ⟨f1, rfl⟩ | ⟨i, x, u', f1, f2, rfl⟩
    · exact ⟨_, by simp [Instr.lookup, run_underlying h1, hg, hc, f1, z1], two z zero false z2⟩
    · exact ⟨_, by simp [Instr.lookup, run_underlying h1, hg, hc, f1], two x u' true f2⟩

theorem upd_ok {t e : TypeId} {m k x d : D} {u v y : Value} {H' : Heap} (ht : mapElem P t = some e) (h : updH m k x H = some (d, H')) (hu : Rep S L w u m) (hv : Rep S L w v k) (hy : Rep S L w y x) (hr : HRel B S L w H) :
    d = .v undef ∧ ∃ w', (Instr.mapUpdate t u v y).run P w = .ok () w' ∧ HRel B S L w' H' ∧ Later B S S L L w w' := by
  obtain ⟨kt, ik, h1, h2⟩ := mapElem_ok ht
  unfold updH at h
  split at h
  · rename_i id n hn
    split at h
    · rename_i ks vs hid
      simp only [Option.some.injEq, Prod.mk.injEq] at h
      obtain ⟨rfl, rfl⟩ := h
      have hvn := int64_ok hn hv
      subst hvn
      have hu' := hu
      simp only [Rep] at hu
      obtain ⟨b, c, hL, rfl⟩ := hu
      obtain ⟨b', c', k1, k2, k3, k4⟩ := hr.obj id _ hid (by intro e; cases e)
      rw [hL] at k1
      cases k1
      obtain ⟨arr, clk, g1, g2, g3⟩ := k4
      have hg : (getObj b).run P w = .ok (.map arr clk) w := by simp [getObj, Sem.run, g1]
      have hset : ∀ o, (setObj b o).run P w = .ok () { w with heap := w.heap.setIfInBounds b o } := fun o => by simp [setObj, Sem.run, g1]
      have hc := run_checkKey_int (P := P) (w := w) h2 false 9999 (.int .i64 n)
      have hlt : b < w.heap.size := (Array.getElem?_eq_some_iff.1 g1).1
      have wr : ∀ (arr' : Array MapEntry) (clk' : Nat) (p : List Int × List D), arr'.toList.map (·.key) = p.1.map (Value.int .i64) → (∀ w', (∀ x d, Rep S L w x d → Rep S L w' x d) → (∀ xs ds, RepA S L w xs ds → RepA S L w' xs ds) → RepA S L w' (arr'.toList.map (·.val)) p.2) →
          HRel B S L { w with heap := w.heap.setIfInBounds b (.map arr' clk') } (H.set id (.map p.1 p.2)) ∧ Later B S S L L w { w with heap := w.heap.setIfInBounds b (.map arr' clk') } := by
        intro arr' clk' p p1 p2
        refine hr.writeO hid (by intro e; cases e) hL _ (.map p.1 p.2) (by intro e; cases e) rfl rfl rfl (by simp) (fun k hk => by simp [Array.getElem?_setIfInBounds, Ne.symm hk]) fun q1 q2 => ?_
        exact ⟨arr', clk', by simp [hlt], p1, p2 _ q1 q2⟩
      refine ⟨rfl, ?_⟩
      rcases find_ok (k := ik) arr.toList ks vs g2 g3 n x 0 with ⟨q1, q2, q3⟩ | ⟨j, u', e', q1, q2, q3, q4, q5, q6⟩
      · have hf := run_findKey' (P := P) (w := w) h2 q2
        have := wr (arr.push { key := .int .i64 n, val := y, born := clk }) (clk + 1) (putM ks vs n x) (by rw [q3]; simp [g2]) (fun w' r1 r2 => by
          rw [q3]
          simp only [Array.toList_push, List.map_append, List.map_cons, List.map_nil]
          exact (r2 _ _ g3).append (RepA.cons (r1 _ _ hy) RepA.nil))
        refine ⟨_, ?_, this.1, this.2⟩
        simp [Instr.mapUpdate, run_underlying h1, hg, hc, hf, hset]
      · have hf := run_findKey' (P := P) (w := w) h2 q4
        have q2' : arr[j]? = some e' := by simpa using q2
        have hks : (Instr.keyThatStays (.int .i64 n) (.int .i64 n)).run P w = .ok (.int .i64 n) w := by simp [Instr.keyThatStays, Instr.sameBits]
        have hj : j < arr.size := (Array.getElem?_eq_some_iff.1 q2').1
        have hmod : (arr.modify j fun e => { e with key := .int .i64 n, val := y }).toList = arr.toList.set j { e' with key := .int .i64 n, val := y } := by
          apply List.ext_getElem?
          intro i
          rw [Array.getElem?_toList, Array.getElem?_modify]
          by_cases hi : j = i
          · subst hi
            rw [if_pos rfl, q2', List.getElem?_set_self (by simpa using hj)]
            rfl
          · rw [if_neg hi, List.getElem?_set_ne hi, Array.getElem?_toList]
        have := wr (arr.modify j fun e => { e with key := .int .i64 n, val := y }) clk (putM ks vs n x) (by
          rw [q6, hmod, List.map_set, ← g2]
          apply List.ext_getElem?
          intro i
          by_cases hi : j = i
          · subst hi
            rw [List.getElem?_set_self (by simpa using hj), List.getElem?_map, q2]
            simp [q3]
          · rw [List.getElem?_set_ne hi]) (fun w' r1 r2 => by
          rw [q6, hmod, List.map_set]
          exact (r2 _ _ g3).set j (r1 _ _ hy))
        refine ⟨_, ?_, this.1, this.2⟩
        rw [Nat.zero_add] at hf
        simp [Instr.mapUpdate, run_underlying h1, hg, hc, hf, hset, q2', q3, hks]
    · cases h
  · cases h
theorem newM_ok {d : D} {H' : Heap} (t : TypeId) (h : newM H = some (d, H')) (hr : HRel B S L w H) :
    ∃ r w' L', (Instr.makeMap t none).run P w = .ok r w' ∧ Rep S L' w' r d ∧ HRel B S L' w' H' ∧ Later B S S L L' w w' := by
  unfold newM at h
  simp only [Option.some.injEq, Prod.mk.injEq] at h
  obtain ⟨rfl, rfl⟩ := h
  have := hr.newO w rfl (Below.refl _ _) (.map #[] 0) 0 (.map [] []) fun w' L' _ _ hn => ⟨#[], 0, hn, rfl, RepA.nil⟩
  refine ⟨.map (some w.heap.size), _, _, by simp [Instr.makeMap], ?_, this.1, this.2⟩
  simp only [Rep]
  exact ⟨w.heap.size, 0, by rw [← hr.len]; simp, rfl⟩

/- Interface values. -/
theorem isConc_ok {t : TypeId} (h : isConc P t = true) : ∃ u, P.underlying t = some u ∧ ∀ ms, u ≠ .interface ms := by
  unfold isConc at h
  split at h
  · cases h
  · cases h
  · rename_i h1 h2
    cases hu : P.underlying t with
    | none => exact absurd hu h2
    | some u => exact ⟨u, rfl, fun ms e => h1 ms (by rw [hu, e])⟩
theorem assert_ok {t u : TypeId} {zero x d : D} {ok : Bool} {v : Value} (hc : isConc P u = true) (hz : zeroVD P u = some zero) (h : assertD u zero ok x = some d) (hv : Rep S L w v x) :
    ∃ r, (Instr.typeAssert v t u ok).run P w = .ok r w ∧ Rep S L w r d := by
  obtain ⟨z, z1, z2⟩ := zeroVD_ok (S := S) (L := L) (w := w) hz
  obtain ⟨ud, hu, hn⟩ := isConc_ok hc
  have fails : ok = true → Rep S L w (.tuple #[z, .bool false]) (.tup [zero, .v (.bool false)]) := fun _ => by
    simp only [Rep]
    exact ⟨[z, .bool false], rfl, RepA.cons z2 (RepA.cons (by simp only [Rep]) RepA.nil)⟩
  unfold assertD at h
  split at h
  · rename_i ty e
    simp only [Rep] at hv
    obtain ⟨y, rfl, hy⟩ := hv
    split at h
    · rename_i he
      subst he
      cases h
      refine ⟨if ok then .tuple #[y, .bool true] else y, ?_, ?_⟩
      · cases ud <;> first | (exact absurd rfl (hn _)) | simp [Instr.typeAssert, run_underlying hu]
      · cases ok
        · exact hy
        · simp only [if_true, Rep]
          exact ⟨[y, .bool true], rfl, RepA.cons hy (RepA.cons (by simp only [Rep]) RepA.nil)⟩
    · rename_i he
      split at h
      · rename_i hok
        subst hok
        cases h
        refine ⟨_, ?_, fails rfl⟩
        cases ud <;> first | (exact absurd rfl (hn _)) | simp [Instr.typeAssert, run_underlying hu, he, z1]
      · cases h
  · split at h
    · rename_i hok
      subst hok
      cases h
      simp only [Rep] at hv
      subst hv
      refine ⟨_, ?_, fails rfl⟩
      cases ud <;> first | (exact absurd rfl (hn _)) | simp [Instr.typeAssert, run_underlying hu, z1]
    · cases h
  · cases h
end
end Go.Proofs.Ytbnmkdlmalobaaa
end

section
namespace Go.Proofs.Ytbnmkdlmalobaaa
open Go.RowKit Go.Lib
set_option linter.unusedVariables false
set_option linter.unusedSimpArgs false

section
variable {P : Program} {B : Nat} {S : Nat → Prop} {L : List (Nat × Nat)} {w : World} {H : Heap}

/-- Cells are written into a row, from a place on. -/
theorem splice_ok (hr : HRel B S L w H) {id : Nat} {t : TypeId} {sz : Nat} {cs : List D} (hid : H[id]? = some (HO.cells t sz cs)) {b c : Nat} (hL : L[id]? = some (b, c)) (off : Nat) {ys : List Value} {ds : List D} (hy2 : RepA S L w ys ds) (hok : ds.all cellOk = true) (hle : off + ds.length ≤ cs.length) :
    ∃ w', (storeCells ⟨b, off, none⟩ ys).run P w = .ok () w' ∧ HRel B S L w' (H.set id (.cells t sz (cs.take off ++ ds ++ cs.drop (off + ds.length)))) ∧ Later B S S L L w w' := by
  obtain ⟨arr, g1, g2, g3, g4, g5⟩ := row_values hr hid hL
  have hyl := hy2.length
  have hone := cells_one hy2 hok
  have hone0 : ∀ (j : Nat) (d : D), cs[j]? = some d → ∃ x, arr[j]? = some x ∧ x.oneCell' = true ∧ Rep S L w x d := by
    obtain ⟨b', c', arr', k1, k2, k3, k4, k5, k6, k7, k8⟩ := hr.live id _ _ cs hid
    rw [hL] at k1; cases k1
    rw [g1] at k4; cases k4
    exact k8
  have hst := run_storeCells_at P b off t ys 0 arr w g1 (by omega) hone
  simp only [Nat.add_zero] at hst
  have hw := hr.write hid hL (arr.toList.take off ++ ys ++ arr.toList.drop (off + ys.length)).toArray (cs.take off ++ ds ++ cs.drop (off + ds.length)) (by
    simp only [List.size_toArray, List.length_append, List.length_take, List.length_drop, Array.length_toList]; omega) (by
    simp only [List.size_toArray, List.length_append, List.length_take, List.length_drop, Array.length_toList]; omega) (by
    intro j d hj
    by_cases h1 : j < off
    · rw [List.append_assoc, List.getElem?_append_left (by simp; omega), List.getElem?_take_of_lt h1] at hj
      obtain ⟨x, q1, q2, q3⟩ := hone0 j d hj
      refine ⟨x, ?_, q2, q3⟩
      simp only [List.getElem?_toArray, List.append_assoc]
      rw [List.getElem?_append_left (by simp; omega), List.getElem?_take_of_lt h1]
      simpa using q1
    · by_cases h2 : j < off + ds.length
      · rw [List.append_assoc, List.getElem?_append_right (by simp; omega), List.getElem?_append_left (by simp; omega)] at hj
        obtain ⟨x, q1, q2⟩ := hy2.get _ d hj
        refine ⟨x, ?_, oneCell_of (List.all_eq_true.1 hok d (List.mem_of_getElem? hj)) q2, q2⟩
        simp only [List.getElem?_toArray, List.append_assoc]
        rw [List.getElem?_append_right (by simp; omega), List.getElem?_append_left (by simp; omega), ← q1]
        congr 1
        simp; omega
      · rw [List.getElem?_append_right (by simp; omega), List.getElem?_drop] at hj
        obtain ⟨x, q1, q2, q3⟩ := hone0 _ d hj
        refine ⟨x, ?_, q2, q3⟩
        simp only [List.getElem?_toArray]
        rw [List.getElem?_append_right (by simp; omega), List.getElem?_drop, Array.getElem?_toList, ← q1]
        congr 1
        simp; omega)
  exact ⟨_, hst, hw.1, hw.2⟩

theorem htOf_ok {x : D} {id off n : Nat} {v : Value} (h : htOf x = some (id, off, n)) (hv : Rep S L w v x) : ∃ b c o cap, L[id]? = some (b, c) ∧ v = .slice (some ⟨b, o, none⟩) n cap ∧ n ≤ cap ∧ (0 < n → o = off) := by
  unfold htOf at h
  split at h
  · cases h
    simp only [Rep] at hv
    obtain ⟨b, c, h1, h2, h3⟩ := hv
    exact ⟨b, c, 0, c, h1, h3, h2, fun _ => rfl⟩
  · cases h
    simp only [Rep] at hv
    exact hv
  · cases h

theorem src_load {sz m cap : Nat} {p : Option Addr} {vs : List Value} (hvl : vs.length = m * sz) (hp : (p = none ∧ m = 0 ∧ cap = 0) ∨ ∃ a, p = some a ∧ ∀ (j : Nat) (v : Value), vs[j]? = some v → w.cell? (a.add j) = some v) (k : Nat) (hk : k ≤ m) :
    (Builtin.firstCells sz k (.slice p m cap)).run P w = .ok (vs.take (k * sz)).toArray w := by
  have hkl : k * sz ≤ vs.length := by rw [hvl]; exact Nat.mul_le_mul_right _ hk
  rcases hp with ⟨rfl, rfl, rfl⟩ | ⟨a, rfl, hc⟩
  · have : vs = [] := List.eq_nil_of_length_eq_zero (by simpa using hvl)
    subst this
    simp [Builtin.firstCells]
  · have := run_loadCells_list (P := P) w a (vs.take (k * sz)) (fun j v hj => by
      have hlt := (List.getElem?_eq_some_iff.1 hj).1
      rw [List.getElem?_take_of_lt (by simp at hlt; omega)] at hj
      exact hc j v hj)
    rw [show (vs.take (k * sz)).length = k * sz from by rw [List.length_take]; omega] at this
    simp [Builtin.firstCells, this]

theorem copy_ok {t e : TypeId} {sz : Nat} {s x d : D} {v u : Value} {H' : Heap} (hi : elemOfD P t = some (e, sz)) (h : copyH sz s x H = some (d, H')) (hs : Rep S L w v s) (hx : Rep S L w u x) (hr : HRel B S L w H) (ts : Array TypeId) (ht0 : ts[0]? = some t) (ty : TypeId) :
    ∃ r w', (Builtin.copy_ ts ty #[v, u]).run P w = .ok r w' ∧ Rep S L w' r d ∧ HRel B S L w' H' ∧ Later B S S L L w w' := by
  obtain ⟨i, z, ht, hinf, hz, rfl, hzs, hby⟩ := elemOf_ok hi
  unfold copyH at h
  obtain ⟨⟨id, off, n⟩, hto, h⟩ := Option.bind_eq_some_iff.1 h
  simp only at h
  split at h
  · rename_i t' s' cs hid
    obtain ⟨new, hsrc, h⟩ := Option.bind_eq_some_iff.1 h
    split at h
    · rename_i hc
      obtain ⟨hsz, rfl, hle, hok⟩ := hc
      obtain ⟨p, m, cap, vs, rfl, hnl, hvs, hp⟩ := src_ok hsrc hx hr
      have hdiv : new.length / i.size = m := by rw [hnl]; exact Nat.mul_div_cancel m hsz
      rw [hdiv] at h hok
      simp only [Option.some.injEq, Prod.mk.injEq] at h
      obtain ⟨rfl, rfl⟩ := h
      obtain ⟨b, c, o, cap', hL, rfl, hnc, ho⟩ := htOf_ok hto hs
      have hvl : vs.length = m * i.size := by rw [hvs.length, hnl]
      have hf := src_load (P := P) hvl hp (min m n) (Nat.min_le_left _ _)
      have hmin : min m n * i.size ≤ n * i.size := Nat.mul_le_mul_right _ (Nat.min_le_right _ _)
      have hmin2 : min m n * i.size ≤ m * i.size := Nat.mul_le_mul_right _ (Nat.min_le_left _ _)
      have htl : (new.take (min m n * i.size)).length = min m n * i.size := by rw [List.length_take]; omega
      by_cases hn0 : n = 0
      · subst hn0
        have hst : (storeCells ⟨b, o, none⟩ ([] : List Value)).run P w = .ok () w := rfl
        refine ⟨.int .i64 0, w, ?_, by simp only [Rep]; simp, ?_, Later.refl⟩
        · simp [Builtin.copy_, ht0, run_underlying ht, Builtin.lenOf, sizeOf, typeInfo, hinf, goInt]
          have hf0 : (Builtin.firstCells i.size 0 (.slice p m cap)).run P w = .ok #[] w := by simpa using hf
          simp [hf0, hst]
        · simp only [Nat.min_zero, Nat.zero_mul, List.take_zero, List.append_nil, Nat.add_zero, List.take_append_drop]
          have : H.set id (.cells t' i.size cs) = H := by
            apply List.ext_getElem?
            intro k
            by_cases hk : id = k
            · subst hk; rw [List.getElem?_set_self (List.getElem?_eq_some_iff.1 hid).1, hid]
            · rw [List.getElem?_set_ne hk]
          rw [this]; exact hr
      · obtain rfl := ho (by omega)
        obtain ⟨w', k1, k2, k3⟩ := splice_ok (P := P) hr hid hL o (hvs.take (min m n * i.size)) hok (by rw [htl]; omega)
        rw [htl] at k2
        refine ⟨.int .i64 (min m n : Nat), w', ?_, by simp only [Rep], k2, k3⟩
        simp [Builtin.copy_, ht0, run_underlying ht, Builtin.lenOf, sizeOf, typeInfo, hinf, goInt]
        have hf' : (Builtin.firstCells i.size (Nat.min m n) (.slice p m cap)).run P w = .ok (vs.take (min m n * i.size)).toArray w := hf
        simp [hf', k1]
    · cases h
  · cases h

theorem zeroEl_ok {t e : TypeId} {sz : Nat} {z : List D} (h : zeroEl P t = some (e, sz, z)) : ∃ i zv, P.underlying t = some (.slice e) ∧ P.info? e = some i ∧ i.zero = some zv ∧ i.size = sz ∧ zv.cells.size = sz ∧ i.bytes ≤ 1000 ∧ z = zv.cells.toList.map D.v := by
  unfold zeroEl at h
  split at h
  · rename_i e' hu
    obtain ⟨i, hi, h⟩ := Option.bind_eq_some_iff.1 h
    split at h
    · rename_i zv hz
      split at h
      · rename_i hc
        cases h
        exact ⟨i, zv, hu, hi, hz, rfl, hc.1, hc.2, rfl⟩
      · cases h
    · cases h
  · cases h
theorem range_flat (z : Array Value) (n : Nat) : ((Array.range (n * z.size)).map (fun i => z[i % z.size]!)).toList = (List.replicate n z.toList).flatten := by
  simp only [Array.toList_map, Array.toList_range]
  induction n with
  | zero => simp
  | succ n ih =>
    rw [List.replicate_succ', List.flatten_append, ← ih, Nat.succ_mul, List.range_add, List.map_append]
    congr 1
    simp only [List.flatten_cons, List.flatten_nil, List.append_nil, List.map_map]
    apply List.ext_getElem
    · simp
    · intro i h1 h2
      have hi : i < z.size := by simpa using h2
      simp [Nat.add_mod, Nat.mod_eq_of_lt hi, hi]
theorem repA_vals {xs : List Value} : RepA S L w xs (xs.map D.v) := by
  induction xs with
  | nil => exact RepA.nil
  | cons x r ih => exact RepA.cons (by simp only [Rep]) ih
theorem rep_zeros (z : Array Value) (n : Nat) : RepA S L w (List.replicate n z.toList).flatten (List.replicate n (z.toList.map D.v)).flatten := by
  have : (List.replicate n (z.toList.map D.v)).flatten = ((List.replicate n z.toList).flatten).map D.v := by
    rw [List.map_flatten, List.map_replicate]
  rw [this]; exact repA_vals

theorem clear_ok {t e : TypeId} {sz : Nat} {z : List D} {x d : D} {v : Value} {H' : Heap} (hi : zeroEl P t = some (e, sz, z)) (h : clearH sz z x H = some (d, H')) (hx : Rep S L w v x) (hr : HRel B S L w H) (ts : Array TypeId) (ht0 : ts[0]? = some t) (ty : TypeId) :
    ∃ r w', (Builtin.clear_ ts ty #[v]).run P w = .ok r w' ∧ Rep S L w' r d ∧ HRel B S L w' H' ∧ Later B S S L L w w' := by
  obtain ⟨i, zv, ht, hinf, hz, rfl, hzs, hby, rfl⟩ := zeroEl_ok hi
  unfold clearH at h
  obtain ⟨⟨id, off, n⟩, hto, h⟩ := Option.bind_eq_some_iff.1 h
  simp only at h
  split at h
  · rename_i t' s' cs hid
    split at h
    · rename_i hc
      obtain ⟨rfl, hzl, hle, hok⟩ := hc
      simp only [Option.some.injEq, Prod.mk.injEq] at h
      obtain ⟨rfl, rfl⟩ := h
      obtain ⟨b, c, o, cap', hL, rfl, hnc, ho⟩ := htOf_ok hto hx
      by_cases hn0 : n = 0
      · subst hn0
        refine ⟨.tuple #[], w, ?_, by simp only [Rep]; rfl, ?_, Later.refl⟩
        · simp [Builtin.clear_, ht0, run_underlying ht]
        · simp only [List.replicate_zero, List.flatten_nil, List.append_nil, Nat.zero_mul, Nat.add_zero, List.take_append_drop]
          have : H.set id (.cells t' i.size cs) = H := by
            apply List.ext_getElem?
            intro k
            by_cases hk : id = k
            · subst hk; rw [List.getElem?_set_self (List.getElem?_eq_some_iff.1 hid).1, hid]
            · rw [List.getElem?_set_ne hk]
          rw [this]; exact hr
      · obtain rfl := ho (by omega)
        have hfl : ((List.replicate n (zv.cells.toList.map D.v)).flatten).length = n * i.size := by simp [hzs]
        have hall : ((List.replicate n (zv.cells.toList.map D.v)).flatten).all cellOk = true := by
          rw [List.all_eq_true]
          intro y hy
          obtain ⟨l, hl, hyl⟩ := List.mem_flatten.1 hy
          rw [List.eq_of_mem_replicate hl] at hyl
          exact List.all_eq_true.1 hok y hyl
        obtain ⟨w', k1, k2, k3⟩ := splice_ok (P := P) hr hid hL o (rep_zeros zv.cells n) hall (by rw [hfl]; omega)
        rw [hfl] at k2
        refine ⟨.tuple #[], w', ?_, by simp only [Rep]; rfl, k2, k3⟩
        have hzc : (Builtin.zeroCells zv.cells n).toList = (List.replicate n zv.cells.toList).flatten := range_flat zv.cells n
        obtain ⟨n', rfl⟩ : ∃ k, n = k + 1 := ⟨n - 1, by omega⟩
        simp [Builtin.clear_, ht0, run_underlying ht, zeroValue, typeInfo, hinf, hz, hzc, k1]
    · cases h
  · cases h

theorem new_obj (hr : HRel B S L w H) {t : TypeId} {sz c : Nat} {cs : List D} {xs : List Value} {id : Nat} {H' : Heap} (h : newH t sz cs H = some (id, H')) (hx : RepA S L w xs cs) (hl : xs.length = c * sz) (hc : c ≤ maxLen) (cells : Array Value) (hcells : cells = xs.toArray) :
    ∃ L', L'[id]? = some (w.heap.size, c) ∧ HRel B S L' (w.alloc (.cells cells t)) H' ∧ Later B S S L L' w (w.alloc (.cells cells t)) := by
  subst hcells
  unfold newH at h
  split at h
  · rename_i hok
    cases h
    have hn := hr.new w rfl (Below.refl _ _) t sz c cs xs.toArray (by simpa using hl) hc (by simp [hx.length]) (fun j d hj => by
      obtain ⟨x, h1, h2⟩ := hx.get j d hj
      exact ⟨x, by simpa using h1, oneCell_of (List.all_eq_true.1 hok d (List.mem_of_getElem? hj)) h2, h2⟩)
    exact ⟨_, by rw [← hr.len]; simp, hn.1, hn.2⟩
  · cases h

theorem make_ok {t e : TypeId} {sz : Nat} {z : List D} {n m d : D} {u v : Value} {H' : Heap} (hi : zeroEl P t = some (e, sz, z)) (h : makeH e sz z n m H = some (d, H')) (hn : Rep S L w u n) (hm : Rep S L w v m) (hr : HRel B S L w H) :
    ∃ r w' L', (Instr.makeSlice t u v).run P w = .ok r w' ∧ Rep S L' w' r d ∧ HRel B S L' w' H' ∧ Later B S S L L' w w' := by
  obtain ⟨i, zv, ht, hinf, hz, rfl, hzs, hby, rfl⟩ := zeroEl_ok hi
  unfold makeH at h
  split at h
  · rename_i k1 a k2 b
    split at h
    · rename_i hc
      obtain ⟨rfl, h0, hle, _⟩ := hc
      cases hw : newH e i.size (List.replicate a.toNat (zv.cells.toList.map D.v)).flatten H with
      | none => rw [hw] at h; cases h
      | some r =>
        rw [hw] at h
        obtain ⟨id, H2⟩ := r
        simp only [Option.map_some, Option.some.injEq, Prod.mk.injEq] at h
        obtain ⟨rfl, rfl⟩ := h
        simp only [Rep] at hn hm
        subst hn; subst hm
        have hrun := run_make (P := P) w t e i zv ht hinf hz k1 k2 a a h0 (Int.le_refl _) (by
          have h1 : (i.bytes : Int) ≤ 1000 := by omega
          have h2 : (i.bytes : Int) * a ≤ 1000 * 4000000 := Int.mul_le_mul h1 hle h0 (by omega)
          omega) (by omega)
        have hcells : (madeCells zv.cells (a.toNat * i.size)).toList = (List.replicate a.toNat zv.cells.toList).flatten := by
          rw [← hzs]; exact range_flat zv.cells a.toNat
        have hrep : RepA S L w (madeCells zv.cells (a.toNat * i.size)).toList (List.replicate a.toNat (zv.cells.toList.map D.v)).flatten := by rw [hcells]; exact rep_zeros zv.cells a.toNat
        obtain ⟨L', q1, q2, q3⟩ := new_obj hr hw hrep (c := a.toNat) (by rw [Array.length_toList, size_madeCells]) (by unfold maxLen; omega) (madeCells zv.cells (a.toNat * i.size)) (by simp)
        refine ⟨_, _, L', hrun, ?_, q2, q3⟩
        simp only [Rep]
        exact ⟨_, _, q1, Nat.le_refl _, rfl⟩
    · cases h
  · cases h

theorem rep_bytes (s : ByteArray) : RepA S L w (strCells s) (bytesD s) := by
  have : bytesD s = (strCells s).map D.v := by simp [bytesD, strCells]
  rw [this]; exact repA_vals
theorem bytesD_ok (s : ByteArray) : (bytesD s).all cellOk = true := by
  rw [List.all_eq_true]
  intro y hy
  obtain ⟨b, _, rfl⟩ := List.mem_map.1 hy
  rfl
theorem bytesD_length (s : ByteArray) : (bytesD s).length = s.size := by
  rw [bytesD, List.length_map, Array.length_toList]; rfl

set_option maxHeartbeats 1000000 in
theorem appendS_ok {t t2 e : TypeId} {sz : Nat} {s x d : D} {v u : Value} {H' : Heap} (hi : elemOfD P t = some (e, sz)) (hstr : P.underlying t2 = some .string) (h : appendS e sz s x H = some (d, H')) (hs : Rep S L w v s) (hx : Rep S L w u x) (hr : HRel B S L w H) (ty : TypeId) :
    ∃ r w' L', (Builtin.append_ #[t, t2] ty #[v, u]).run P w = .ok r w' ∧ Rep S L' w' r d ∧ HRel B S L' w' H' ∧ Later B S S L L' w w' := by
  obtain ⟨i, z, ht, hinf, hz, rfl, hzs, hby⟩ := elemOf_ok hi
  unfold appendS at h
  split at h
  case h_2 => cases h
  rename_i str
  split at h
  case isFalse => cases h
  rename_i h1
  simp only [Rep] at hx
  subst hx
  have hbl := bytesD_length str
  have hok := bytesD_ok str
  have hvs := rep_bytes (S := S) (L := L) (w := w) str
  have hvl := strCells_length str
  have hone := strCells_oneCell str
  unfold appH at h
  split at h
  · cases h
  · rename_i hg
    have hdiv : (bytesD str).length / i.size = str.size := by rw [hbl, h1, Nat.div_one]
    split at h
    · -- onto nil
      simp only [Rep] at hs
      subst hs
      split at h
      · rename_i h0
        cases h
        have hm : str.size = 0 := by omega
        refine ⟨.slice none 0 0, w, L, ?_, by simp only [Rep], hr, Later.refl⟩
        have hf := run_firstCells_string (P := P) w i.size str
        rw [hm] at hf
        simp [Builtin.append_, run_underlying ht, run_underlying hstr, sizeOf, typeInfo, hinf, Builtin.lenOf, hf, hm]
      · rename_i h0
        split at h
        · rename_i hle
          cases h
          have hrun := run_append_nil_string (P := P) w t t2 ty e i z ht hstr hinf hz str (by omega) (by omega) (by
            have : str.size * i.bytes ≤ 4000000 * 1000 := Nat.mul_le_mul (by omega) hby
            omega)
          have hge := grownCap_ge w str.size 0 e
          have hcm := grownCap_le_maxLen w str.size 0 e (by unfold maxLen; omega)
          have hcellsE : (str.data.map (fun b => Value.int .u8 b.toNat) : Array Value) = (strCells str).toArray := by
            apply Array.ext'
            simp [strCells]
          rw [hcellsE] at hrun
          have hn := hr.new w.drew rfl ((Below.refl _ _).drew) e i.size (grownCap w str.size 0 e) (bytesD str) ((strCells str).toArray ++ Builtin.zeroCells z.cells (grownCap w str.size 0 e - str.size)) (by
            simp only [Array.size_append, List.size_toArray, size_zeroCells, hzs, hvl, h1]
            omega) hcm (by simp [hvs.length]) (fun j d hj => by
            have := append_cells (zs := Builtin.zeroCells z.cells (grownCap w str.size 0 e - str.size)) (RepA.nil (S := S) (L := L) (w := w)) hvs (by simp) hok j d (by simpa using hj)
            simpa using this)
          refine ⟨_, _, _, hrun, ?_, hn.1, hn.2⟩
          simp only [Rep]
          refine ⟨w.heap.size, grownCap w str.size 0 e, by rw [← hr.len]; simp, by rw [hdiv]; exact hge, by rw [hdiv]⟩
        · cases h
    · -- onto a row
      rename_i id n
      simp only [Rep] at hs
      obtain ⟨b, c, hL, hnc, rfl⟩ := hs
      split at h
      · rename_i t' sz' cs hid
        split at h
        · rename_i hc
          obtain ⟨rfl, rfl, hcl, hle⟩ := hc
          cases h
          rw [hdiv]
          obtain ⟨arr, g1, g2, g3, g4, g5⟩ := row_values hr hid hL
          have hone0 : ∀ (j : Nat) (d : D), cs[j]? = some d → ∃ x, arr[j]? = some x ∧ x.oneCell' = true ∧ Rep S L w x d := by
            obtain ⟨b', c', arr', k1, k2, k3, k4, k5, k6, k7, k8⟩ := hr.live id _ _ cs hid
            rw [hL] at k1; cases k1
            rw [g1] at k4; cases k4
            exact k8
          have hcl' : cs.length = n := by rw [hcl, h1, Nat.mul_one]
          have hga : arr.size = c := by rw [g2, h1, Nat.mul_one]
          by_cases hroom : n + str.size ≤ c
          · have hfit : n + str.size ≤ arr.size := by omega
            have hrun := run_append_room_string (P := P) w t t2 ty t' i ht hstr hinf h1 b n c arr g1 str hroom hfit
            have hw := hr.write hid hL (arr.toList.take n ++ strCells str ++ arr.toList.drop (n + str.size)).toArray (cs ++ bytesD str) (by
              simp only [List.size_toArray, List.length_append, List.length_take, List.length_drop, Array.length_toList]; omega) (by
              simp only [List.size_toArray, List.length_append, List.length_take, List.length_drop, Array.length_toList]; omega) (by
              intro j d hj
              by_cases hjl : j < cs.length
              · rw [List.getElem?_append_left hjl] at hj
                obtain ⟨x, hx1, hx2, hx3⟩ := hone0 j d hj
                refine ⟨x, ?_, hx2, hx3⟩
                have hja : j < arr.size := by omega
                simp only [List.getElem?_toArray, List.append_assoc]
                rw [List.getElem?_append_left (by simp; omega), List.getElem?_take_of_lt (by omega)]
                simpa using hx1
              · rw [List.getElem?_append_right (by omega)] at hj
                obtain ⟨x, hx1, hx2⟩ := hvs.get _ d hj
                have hm := List.all_eq_true.1 hok d (List.mem_of_getElem? hj)
                refine ⟨x, ?_, oneCell_of hm hx2, hx2⟩
                have hlt := (List.getElem?_eq_some_iff.1 hx1).1
                simp only [List.getElem?_toArray, List.append_assoc]
                rw [List.getElem?_append_right (by simp; omega)]
                simp only [List.length_take, Array.length_toList]
                rw [List.getElem?_append_left (by omega), ← hx1]
                congr 1; omega)
            have hmv := hw.1.move (id := id) (o := .cells t' i.size (cs ++ bytesD str)) (by
              have hlt := (List.getElem?_eq_some_iff.1 hid).1
              rw [List.getElem?_set_self hlt]) (by intro e; cases e) hL
            rw [List.set_set] at hmv
            refine ⟨_, _, _, hrun, ?_, hmv.1, hw.2.trans hmv.2⟩
            simp only [Rep]
            exact ⟨b, c, by rw [← hr.len]; simp, hroom, rfl⟩
          · have holds : ∀ (j : Nat) (v : Value), (arr.toList.take cs.length)[j]? = some v → w.cell? ((⟨b, 0, none⟩ : Addr).add j) = some v := by
              intro j v hj
              rw [addr_add, Nat.zero_add, cell_of_heap g1]
              have hlt := (List.getElem?_eq_some_iff.1 hj).1
              rw [List.getElem?_take_of_lt (by simp at hlt; omega)] at hj
              simpa using hj
            have hol : (arr.toList.take cs.length).length = n * i.size := by rw [g5.length, hcl]
            have hbound : n + str.size ≤ 4000000 := by omega
            have hrun := run_append_grow_string (P := P) w t t2 ty t' i z ht hstr hinf hz ⟨b, 0, none⟩ n c (arr.toList.take cs.length) hol holds str (by omega) (by omega) (growslice_fits (by omega) (Nat.le_trans (Nat.mul_le_mul hbound hby) (by decide)))
            have hge := grownCap_ge w (n + str.size) c t'
            have hcm := grownCap_le_maxLen w (n + str.size) c t' (by unfold maxLen; omega)
            have hn := (hr.kill id).new w.drew rfl ((Below.refl _ _).drew) t' i.size (grownCap w (n + str.size) c t') (cs ++ bytesD str) ((arr.toList.take cs.length).toArray ++ (strCells str).toArray ++ Builtin.zeroCells z.cells (grownCap w (n + str.size) c t' - (n + str.size))) (by
              simp only [Array.size_append, List.size_toArray, size_zeroCells, hzs, hol, hvl, h1, Nat.mul_one]
              omega) hcm (by
              have h1 := g5.length; have h2 := hvs.length
              simp only [Array.size_append, List.size_toArray, List.length_append]; omega) (by
              intro j d hj
              obtain ⟨x, hx1, hx2⟩ := (g5.append hvs).get j d hj
              have hlt := (List.getElem?_eq_some_iff.1 hx1).1
              have hx1' : ((arr.toList.take cs.length).toArray ++ (strCells str).toArray ++ Builtin.zeroCells z.cells (grownCap w (n + str.size) c t' - (n + str.size)))[j]? = some x := by
                rw [Array.getElem?_append_left (by simpa using hlt)]
                simpa using hx1
              refine ⟨x, hx1', ?_, hx2⟩
              by_cases hjl : j < cs.length
              · rw [List.getElem?_append_left hjl] at hj
                obtain ⟨y, hy1, hy2, _⟩ := hone0 j d hj
                have h1 := g5.length
                rw [List.getElem?_append_left (by omega), List.getElem?_take_of_lt (by omega)] at hx1
                have : y = x := by
                  have : arr[j]? = some x := by simpa using hx1
                  rw [hy1] at this; exact Option.some.inj this
                rw [← this]; exact hy2
              · rw [List.getElem?_append_right (by omega)] at hj
                exact oneCell_of (List.all_eq_true.1 hok d (List.mem_of_getElem? hj)) hx2)
            refine ⟨_, _, _, hrun, ?_, hn.1, hn.2⟩
            simp only [Rep]
            exact ⟨w.heap.size, grownCap w (n + str.size) c t', by rw [← hr.len]; simp, hge, rfl⟩
        · cases h
      · cases h
    · cases h
end
end Go.Proofs.Ytbnmkdlmalobaaa
end
