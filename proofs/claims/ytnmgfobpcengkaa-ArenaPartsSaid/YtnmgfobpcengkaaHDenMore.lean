/-
  Rows of the call's own: made, copied into, cleared; a string's bytes appended. Nothing here names the program.
-/
import Derived.Test.YtnmgfobpcengkaaHDenNew
import Derived.Lib.AppendStr
import Derived.Laws.MakeOwn
namespace Go.Proofs.Ytnmgfobpcengkaa
open Go.RowKit Go.Lib
set_option linter.unusedVariables false
set_option linter.unusedSimpArgs false

section
variable {P : Program} {B : Nat} {S : Nat → Prop} {L : List (Nat × Nat)} {w : World} {H : Heap}

/-- Cells are written into a row, from a place on. -/
theorem splice_ok (hr : HRel B S L w H) {id : Nat} {t : TypeId} {sz : Nat} {cs : List D} (hid : H[id]? = some (HO.cells t sz cs)) {b c : Nat} (hL : L[id]? = some (b, c)) (off : Nat) {ys : List Value} {ds : List D} (hy2 : RepA S L w ys ds) (hok : ds.all cellOk = true) (hle : off + ds.length ≤ cs.length) :
    ∃ w', (storeCells ⟨b, off, none⟩ ys).run P w = .ok () w' ∧ HRel B S L w' (H.set id (.cells t sz (cs.take off ++ ds ++ cs.drop (off + ds.length)))) ∧ Later B S S L L w w' := by
  obtain ⟨arr, g1, g2, g3, g4, g5⟩ := row_values hr hid hL
  have hyl := hy2.length
  have hone := cells_one hy2 hok
  have hone0 : ∀ (j : Nat) (d : D), cs[j]? = some d → ∃ x, arr[j]? = some x ∧ x.oneCell' = true ∧ Rep S L w x d := by
    obtain ⟨b', c', arr', k1, k2, k3, k4, k5, k6, k7, k8⟩ := hr.live id _ _ cs hid
    rw [hL] at k1; cases k1
    rw [g1] at k4; cases k4
    exact k8
  have hst := run_storeCells_at P b off t ys 0 arr w g1 (by omega) hone
  simp only [Nat.add_zero] at hst
  have hw := hr.write hid hL (arr.toList.take off ++ ys ++ arr.toList.drop (off + ys.length)).toArray (cs.take off ++ ds ++ cs.drop (off + ds.length)) (by
    simp only [List.size_toArray, List.length_append, List.length_take, List.length_drop, Array.length_toList]; omega) (by
    simp only [List.size_toArray, List.length_append, List.length_take, List.length_drop, Array.length_toList]; omega) (by
    intro j d hj
    by_cases h1 : j < off
    · rw [List.append_assoc, List.getElem?_append_left (by simp; omega), List.getElem?_take_of_lt h1] at hj
      obtain ⟨x, q1, q2, q3⟩ := hone0 j d hj
      refine ⟨x, ?_, q2, q3⟩
      simp only [List.getElem?_toArray, List.append_assoc]
      rw [List.getElem?_append_left (by simp; omega), List.getElem?_take_of_lt h1]
      simpa using q1
    · by_cases h2 : j < off + ds.length
      · rw [List.append_assoc, List.getElem?_append_right (by simp; omega), List.getElem?_append_left (by simp; omega)] at hj
        obtain ⟨x, q1, q2⟩ := hy2.get _ d hj
        refine ⟨x, ?_, oneCell_of (List.all_eq_true.1 hok d (List.mem_of_getElem? hj)) q2, q2⟩
        simp only [List.getElem?_toArray, List.append_assoc]
        rw [List.getElem?_append_right (by simp; omega), List.getElem?_append_left (by simp; omega), ← q1]
        congr 1
        simp; omega
      · rw [List.getElem?_append_right (by simp; omega), List.getElem?_drop] at hj
        obtain ⟨x, q1, q2, q3⟩ := hone0 _ d hj
        refine ⟨x, ?_, q2, q3⟩
        simp only [List.getElem?_toArray]
        rw [List.getElem?_append_right (by simp; omega), List.getElem?_drop, Array.getElem?_toList, ← q1]
        congr 1
        simp; omega)
  exact ⟨_, hst, hw.1, hw.2⟩

theorem htOf_ok {x : D} {id off n : Nat} {v : Value} (h : htOf x = some (id, off, n)) (hv : Rep S L w v x) : ∃ b c o cap, L[id]? = some (b, c) ∧ v = .slice (some ⟨b, o, none⟩) n cap ∧ n ≤ cap ∧ (0 < n → o = off) := by
  unfold htOf at h
  split at h
  · cases h
    simp only [Rep] at hv
    obtain ⟨b, c, h1, h2, h3⟩ := hv
    exact ⟨b, c, 0, c, h1, h3, h2, fun _ => rfl⟩
  · cases h
    simp only [Rep] at hv
    exact hv
  · cases h

theorem src_load {sz m cap : Nat} {p : Option Addr} {vs : List Value} (hvl : vs.length = m * sz) (hp : (p = none ∧ m = 0 ∧ cap = 0) ∨ ∃ a, p = some a ∧ ∀ (j : Nat) (v : Value), vs[j]? = some v → w.cell? (a.add j) = some v) (k : Nat) (hk : k ≤ m) :
    (Builtin.firstCells sz k (.slice p m cap)).run P w = .ok (vs.take (k * sz)).toArray w := by
  have hkl : k * sz ≤ vs.length := by rw [hvl]; exact Nat.mul_le_mul_right _ hk
  rcases hp with ⟨rfl, rfl, rfl⟩ | ⟨a, rfl, hc⟩
  · have : vs = [] := List.eq_nil_of_length_eq_zero (by simpa using hvl)
    subst this
    simp [Builtin.firstCells]
  · have := run_loadCells_list (P := P) w a (vs.take (k * sz)) (fun j v hj => by
      have hlt := (List.getElem?_eq_some_iff.1 hj).1
      rw [List.getElem?_take_of_lt (by simp at hlt; omega)] at hj
      exact hc j v hj)
    rw [show (vs.take (k * sz)).length = k * sz from by rw [List.length_take]; omega] at this
    simp [Builtin.firstCells, this]

theorem copy_ok {t e : TypeId} {sz : Nat} {s x d : D} {v u : Value} {H' : Heap} (hi : elemOfD P t = some (e, sz)) (h : copyH sz s x H = some (d, H')) (hs : Rep S L w v s) (hx : Rep S L w u x) (hr : HRel B S L w H) (ts : Array TypeId) (ht0 : ts[0]? = some t) (ty : TypeId) :
    ∃ r w', (Builtin.copy_ ts ty #[v, u]).run P w = .ok r w' ∧ Rep S L w' r d ∧ HRel B S L w' H' ∧ Later B S S L L w w' := by
  obtain ⟨i, z, ht, hinf, hz, rfl, hzs, hby⟩ := elemOf_ok hi
  unfold copyH at h
  obtain ⟨⟨id, off, n⟩, hto, h⟩ := Option.bind_eq_some_iff.1 h
  simp only at h
  split at h
  · rename_i t' s' cs hid
    obtain ⟨new, hsrc, h⟩ := Option.bind_eq_some_iff.1 h
    split at h
    · rename_i hc
      obtain ⟨hsz, rfl, hle, hok⟩ := hc
      obtain ⟨p, m, cap, vs, rfl, hnl, hvs, hp⟩ := src_ok hsrc hx hr
      have hdiv : new.length / i.size = m := by rw [hnl]; exact Nat.mul_div_cancel m hsz
      rw [hdiv] at h hok
      simp only [Option.some.injEq, Prod.mk.injEq] at h
      obtain ⟨rfl, rfl⟩ := h
      obtain ⟨b, c, o, cap', hL, rfl, hnc, ho⟩ := htOf_ok hto hs
      have hvl : vs.length = m * i.size := by rw [hvs.length, hnl]
      have hf := src_load (P := P) hvl hp (min m n) (Nat.min_le_left _ _)
      have hmin : min m n * i.size ≤ n * i.size := Nat.mul_le_mul_right _ (Nat.min_le_right _ _)
      have hmin2 : min m n * i.size ≤ m * i.size := Nat.mul_le_mul_right _ (Nat.min_le_left _ _)
      have htl : (new.take (min m n * i.size)).length = min m n * i.size := by rw [List.length_take]; omega
      by_cases hn0 : n = 0
      · subst hn0
        have hst : (storeCells ⟨b, o, none⟩ ([] : List Value)).run P w = .ok () w := rfl
        refine ⟨.int .i64 0, w, ?_, by simp only [Rep]; simp, ?_, Later.refl⟩
        · simp [Builtin.copy_, ht0, run_underlying ht, Builtin.lenOf, sizeOf, typeInfo, hinf, goInt]
          have hf0 : (Builtin.firstCells i.size 0 (.slice p m cap)).run P w = .ok #[] w := by simpa using hf
          simp [hf0, hst]
        · simp only [Nat.min_zero, Nat.zero_mul, List.take_zero, List.append_nil, Nat.add_zero, List.take_append_drop]
          have : H.set id (.cells t' i.size cs) = H := by
            apply List.ext_getElem?
            intro k
            by_cases hk : id = k
            · subst hk; rw [List.getElem?_set_self (List.getElem?_eq_some_iff.1 hid).1, hid]
            · rw [List.getElem?_set_ne hk]
          rw [this]; exact hr
      · obtain rfl := ho (by omega)
        obtain ⟨w', k1, k2, k3⟩ := splice_ok (P := P) hr hid hL o (hvs.take (min m n * i.size)) hok (by rw [htl]; omega)
        rw [htl] at k2
        refine ⟨.int .i64 (min m n : Nat), w', ?_, by simp only [Rep], k2, k3⟩
        simp [Builtin.copy_, ht0, run_underlying ht, Builtin.lenOf, sizeOf, typeInfo, hinf, goInt]
        have hf' : (Builtin.firstCells i.size (Nat.min m n) (.slice p m cap)).run P w = .ok (vs.take (min m n * i.size)).toArray w := hf
        simp [hf', k1]
    · cases h
  · cases h

theorem zeroEl_ok {t e : TypeId} {sz : Nat} {z : List D} (h : zeroEl P t = some (e, sz, z)) : ∃ i zv, P.underlying t = some (.slice e) ∧ P.info? e = some i ∧ i.zero = some zv ∧ i.size = sz ∧ zv.cells.size = sz ∧ i.bytes ≤ 1000 ∧ z = zv.cells.toList.map D.v := by
  unfold zeroEl at h
  split at h
  · rename_i e' hu
    obtain ⟨i, hi, h⟩ := Option.bind_eq_some_iff.1 h
    split at h
    · rename_i zv hz
      split at h
      · rename_i hc
        cases h
        exact ⟨i, zv, hu, hi, hz, rfl, hc.1, hc.2, rfl⟩
      · cases h
    · cases h
  · cases h
theorem range_flat (z : Array Value) (n : Nat) : ((Array.range (n * z.size)).map (fun i => z[i % z.size]!)).toList = (List.replicate n z.toList).flatten := by
  simp only [Array.toList_map, Array.toList_range]
  induction n with
  | zero => simp
  | succ n ih =>
    rw [List.replicate_succ', List.flatten_append, ← ih, Nat.succ_mul, List.range_add, List.map_append]
    congr 1
    simp only [List.flatten_cons, List.flatten_nil, List.append_nil, List.map_map]
    apply List.ext_getElem
    · simp
    · intro i h1 h2
      have hi : i < z.size := by simpa using h2
      simp [Nat.add_mod, Nat.mod_eq_of_lt hi, hi]
theorem repA_vals {xs : List Value} : RepA S L w xs (xs.map D.v) := by
  induction xs with
  | nil => exact RepA.nil
  | cons x r ih => exact RepA.cons (by simp only [Rep]) ih
theorem rep_zeros (z : Array Value) (n : Nat) : RepA S L w (List.replicate n z.toList).flatten (List.replicate n (z.toList.map D.v)).flatten := by
  have : (List.replicate n (z.toList.map D.v)).flatten = ((List.replicate n z.toList).flatten).map D.v := by
    rw [List.map_flatten, List.map_replicate]
  rw [this]; exact repA_vals

theorem clear_ok {t e : TypeId} {sz : Nat} {z : List D} {x d : D} {v : Value} {H' : Heap} (hi : zeroEl P t = some (e, sz, z)) (h : clearH sz z x H = some (d, H')) (hx : Rep S L w v x) (hr : HRel B S L w H) (ts : Array TypeId) (ht0 : ts[0]? = some t) (ty : TypeId) :
    ∃ r w', (Builtin.clear_ ts ty #[v]).run P w = .ok r w' ∧ Rep S L w' r d ∧ HRel B S L w' H' ∧ Later B S S L L w w' := by
  obtain ⟨i, zv, ht, hinf, hz, rfl, hzs, hby, rfl⟩ := zeroEl_ok hi
  unfold clearH at h
  obtain ⟨⟨id, off, n⟩, hto, h⟩ := Option.bind_eq_some_iff.1 h
  simp only at h
  split at h
  · rename_i t' s' cs hid
    split at h
    · rename_i hc
      obtain ⟨rfl, hzl, hle, hok⟩ := hc
      simp only [Option.some.injEq, Prod.mk.injEq] at h
      obtain ⟨rfl, rfl⟩ := h
      obtain ⟨b, c, o, cap', hL, rfl, hnc, ho⟩ := htOf_ok hto hx
      by_cases hn0 : n = 0
      · subst hn0
        refine ⟨.tuple #[], w, ?_, by simp only [Rep]; rfl, ?_, Later.refl⟩
        · simp [Builtin.clear_, ht0, run_underlying ht]
        · simp only [List.replicate_zero, List.flatten_nil, List.append_nil, Nat.zero_mul, Nat.add_zero, List.take_append_drop]
          have : H.set id (.cells t' i.size cs) = H := by
            apply List.ext_getElem?
            intro k
            by_cases hk : id = k
            · subst hk; rw [List.getElem?_set_self (List.getElem?_eq_some_iff.1 hid).1, hid]
            · rw [List.getElem?_set_ne hk]
          rw [this]; exact hr
      · obtain rfl := ho (by omega)
        have hfl : ((List.replicate n (zv.cells.toList.map D.v)).flatten).length = n * i.size := by simp [hzs]
        have hall : ((List.replicate n (zv.cells.toList.map D.v)).flatten).all cellOk = true := by
          rw [List.all_eq_true]
          intro y hy
          obtain ⟨l, hl, hyl⟩ := List.mem_flatten.1 hy
          rw [List.eq_of_mem_replicate hl] at hyl
          exact List.all_eq_true.1 hok y hyl
        obtain ⟨w', k1, k2, k3⟩ := splice_ok (P := P) hr hid hL o (rep_zeros zv.cells n) hall (by rw [hfl]; omega)
        rw [hfl] at k2
        refine ⟨.tuple #[], w', ?_, by simp only [Rep]; rfl, k2, k3⟩
        have hzc : (Builtin.zeroCells zv.cells n).toList = (List.replicate n zv.cells.toList).flatten := range_flat zv.cells n
        obtain ⟨n', rfl⟩ : ∃ k, n = k + 1 := ⟨n - 1, by omega⟩
        simp [Builtin.clear_, ht0, run_underlying ht, zeroValue, typeInfo, hinf, hz, hzc, k1]
    · cases h
  · cases h

theorem new_obj (hr : HRel B S L w H) {t : TypeId} {sz c : Nat} {cs : List D} {xs : List Value} {id : Nat} {H' : Heap} (h : newH t sz cs H = some (id, H')) (hx : RepA S L w xs cs) (hl : xs.length = c * sz) (hc : c ≤ maxLen) (cells : Array Value) (hcells : cells = xs.toArray) :
    ∃ L', L'[id]? = some (w.heap.size, c) ∧ HRel B S L' (w.alloc (.cells cells t)) H' ∧ Later B S S L L' w (w.alloc (.cells cells t)) := by
  subst hcells
  unfold newH at h
  split at h
  · rename_i hok
    cases h
    have hn := hr.new w rfl (Below.refl _ _) t sz c cs xs.toArray (by simpa using hl) hc (by simp [hx.length]) (fun j d hj => by
      obtain ⟨x, h1, h2⟩ := hx.get j d hj
      exact ⟨x, by simpa using h1, oneCell_of (List.all_eq_true.1 hok d (List.mem_of_getElem? hj)) h2, h2⟩)
    exact ⟨_, by rw [← hr.len]; simp, hn.1, hn.2⟩
  · cases h

theorem make_ok {t e : TypeId} {sz : Nat} {z : List D} {n m d : D} {u v : Value} {H' : Heap} (hi : zeroEl P t = some (e, sz, z)) (h : makeH e sz z n m H = some (d, H')) (hn : Rep S L w u n) (hm : Rep S L w v m) (hr : HRel B S L w H) :
    ∃ r w' L', (Instr.makeSlice t u v).run P w = .ok r w' ∧ Rep S L' w' r d ∧ HRel B S L' w' H' ∧ Later B S S L L' w w' := by
  obtain ⟨i, zv, ht, hinf, hz, rfl, hzs, hby, rfl⟩ := zeroEl_ok hi
  unfold makeH at h
  split at h
  · rename_i k1 a k2 b
    split at h
    · rename_i hc
      obtain ⟨rfl, h0, hle, _⟩ := hc
      cases hw : newH e i.size (List.replicate a.toNat (zv.cells.toList.map D.v)).flatten H with
      | none => rw [hw] at h; cases h
      | some r =>
        rw [hw] at h
        obtain ⟨id, H2⟩ := r
        simp only [Option.map_some, Option.some.injEq, Prod.mk.injEq] at h
        obtain ⟨rfl, rfl⟩ := h
        simp only [Rep] at hn hm
        subst hn; subst hm
        have hrun := run_make (P := P) w t e i zv ht hinf hz k1 k2 a a h0 (Int.le_refl _) (by
          have h1 : (i.bytes : Int) ≤ 1000 := by omega
          have h2 : (i.bytes : Int) * a ≤ 1000 * 4000000 := Int.mul_le_mul h1 hle h0 (by omega)
          omega) (by omega)
        have hcells : (madeCells zv.cells (a.toNat * i.size)).toList = (List.replicate a.toNat zv.cells.toList).flatten := by
          rw [← hzs]; exact range_flat zv.cells a.toNat
        have hrep : RepA S L w (madeCells zv.cells (a.toNat * i.size)).toList (List.replicate a.toNat (zv.cells.toList.map D.v)).flatten := by rw [hcells]; exact rep_zeros zv.cells a.toNat
        obtain ⟨L', q1, q2, q3⟩ := new_obj hr hw hrep (c := a.toNat) (by rw [Array.length_toList, size_madeCells]) (by unfold maxLen; omega) (madeCells zv.cells (a.toNat * i.size)) (by simp)
        refine ⟨_, _, L', hrun, ?_, q2, q3⟩
        simp only [Rep]
        exact ⟨_, _, q1, Nat.le_refl _, rfl⟩
    · cases h
  · cases h

theorem rep_bytes (s : ByteArray) : RepA S L w (strCells s) (bytesD s) := by
  have : bytesD s = (strCells s).map D.v := by simp [bytesD, strCells]
  rw [this]; exact repA_vals
theorem bytesD_ok (s : ByteArray) : (bytesD s).all cellOk = true := by
  rw [List.all_eq_true]
  intro y hy
  obtain ⟨b, _, rfl⟩ := List.mem_map.1 hy
  rfl
theorem bytesD_length (s : ByteArray) : (bytesD s).length = s.size := by
  rw [bytesD, List.length_map, Array.length_toList]; rfl

set_option maxHeartbeats 1000000 in
theorem appendS_ok {t t2 e : TypeId} {sz : Nat} {s x d : D} {v u : Value} {H' : Heap} (hi : elemOfD P t = some (e, sz)) (hstr : P.underlying t2 = some .string) (h : appendS e sz s x H = some (d, H')) (hs : Rep S L w v s) (hx : Rep S L w u x) (hr : HRel B S L w H) (ty : TypeId) :
    ∃ r w' L', (Builtin.append_ #[t, t2] ty #[v, u]).run P w = .ok r w' ∧ Rep S L' w' r d ∧ HRel B S L' w' H' ∧ Later B S S L L' w w' := by
  obtain ⟨i, z, ht, hinf, hz, rfl, hzs, hby⟩ := elemOf_ok hi
  unfold appendS at h
  split at h
  case h_2 => cases h
  rename_i str
  split at h
  case isFalse => cases h
  rename_i h1
  simp only [Rep] at hx
  subst hx
  have hbl := bytesD_length str
  have hok := bytesD_ok str
  have hvs := rep_bytes (S := S) (L := L) (w := w) str
  have hvl := strCells_length str
  have hone := strCells_oneCell str
  unfold appH at h
  split at h
  · cases h
  · rename_i hg
    have hdiv : (bytesD str).length / i.size = str.size := by rw [hbl, h1, Nat.div_one]
    split at h
    · -- onto nil
      simp only [Rep] at hs
      subst hs
      split at h
      · rename_i h0
        cases h
        have hm : str.size = 0 := by omega
        refine ⟨.slice none 0 0, w, L, ?_, by simp only [Rep], hr, Later.refl⟩
        have hf := run_firstCells_string (P := P) w i.size str
        rw [hm] at hf
        simp [Builtin.append_, run_underlying ht, run_underlying hstr, sizeOf, typeInfo, hinf, Builtin.lenOf, hf, hm]
      · rename_i h0
        split at h
        · rename_i hle
          cases h
          have hrun := run_append_nil_string (P := P) w t t2 ty e i z ht hstr hinf hz str (by omega) (by omega) (by
            have : str.size * i.bytes ≤ 4000000 * 1000 := Nat.mul_le_mul (by omega) hby
            omega)
          have hge := grownCap_ge w str.size 0 e
          have hcm := grownCap_le_maxLen w str.size 0 e (by unfold maxLen; omega)
          have hcellsE : (str.data.map (fun b => Value.int .u8 b.toNat) : Array Value) = (strCells str).toArray := by
            apply Array.ext'
            simp [strCells]
          rw [hcellsE] at hrun
          have hn := hr.new w.drew rfl ((Below.refl _ _).drew) e i.size (grownCap w str.size 0 e) (bytesD str) ((strCells str).toArray ++ Builtin.zeroCells z.cells (grownCap w str.size 0 e - str.size)) (by
            simp only [Array.size_append, List.size_toArray, size_zeroCells, hzs, hvl, h1]
            omega) hcm (by simp [hvs.length]) (fun j d hj => by
            have := append_cells (zs := Builtin.zeroCells z.cells (grownCap w str.size 0 e - str.size)) (RepA.nil (S := S) (L := L) (w := w)) hvs (by simp) hok j d (by simpa using hj)
            simpa using this)
          refine ⟨_, _, _, hrun, ?_, hn.1, hn.2⟩
          simp only [Rep]
          refine ⟨w.heap.size, grownCap w str.size 0 e, by rw [← hr.len]; simp, by rw [hdiv]; exact hge, by rw [hdiv]⟩
        · cases h
    · -- onto a row
      rename_i id n
      simp only [Rep] at hs
      obtain ⟨b, c, hL, hnc, rfl⟩ := hs
      split at h
      · rename_i t' sz' cs hid
        split at h
        · rename_i hc
          obtain ⟨rfl, rfl, hcl, hle⟩ := hc
          cases h
          rw [hdiv]
          obtain ⟨arr, g1, g2, g3, g4, g5⟩ := row_values hr hid hL
          have hone0 : ∀ (j : Nat) (d : D), cs[j]? = some d → ∃ x, arr[j]? = some x ∧ x.oneCell' = true ∧ Rep S L w x d := by
            obtain ⟨b', c', arr', k1, k2, k3, k4, k5, k6, k7, k8⟩ := hr.live id _ _ cs hid
            rw [hL] at k1; cases k1
            rw [g1] at k4; cases k4
            exact k8
          have hcl' : cs.length = n := by rw [hcl, h1, Nat.mul_one]
          have hga : arr.size = c := by rw [g2, h1, Nat.mul_one]
          by_cases hroom : n + str.size ≤ c
          · have hfit : n + str.size ≤ arr.size := by omega
            have hrun := run_append_room_string (P := P) w t t2 ty t' i ht hstr hinf h1 b n c arr g1 str hroom hfit
            have hw := hr.write hid hL (arr.toList.take n ++ strCells str ++ arr.toList.drop (n + str.size)).toArray (cs ++ bytesD str) (by
              simp only [List.size_toArray, List.length_append, List.length_take, List.length_drop, Array.length_toList]; omega) (by
              simp only [List.size_toArray, List.length_append, List.length_take, List.length_drop, Array.length_toList]; omega) (by
              intro j d hj
              by_cases hjl : j < cs.length
              · rw [List.getElem?_append_left hjl] at hj
                obtain ⟨x, hx1, hx2, hx3⟩ := hone0 j d hj
                refine ⟨x, ?_, hx2, hx3⟩
                have hja : j < arr.size := by omega
                simp only [List.getElem?_toArray, List.append_assoc]
                rw [List.getElem?_append_left (by simp; omega), List.getElem?_take_of_lt (by omega)]
                simpa using hx1
              · rw [List.getElem?_append_right (by omega)] at hj
                obtain ⟨x, hx1, hx2⟩ := hvs.get _ d hj
                have hm := List.all_eq_true.1 hok d (List.mem_of_getElem? hj)
                refine ⟨x, ?_, oneCell_of hm hx2, hx2⟩
                have hlt := (List.getElem?_eq_some_iff.1 hx1).1
                simp only [List.getElem?_toArray, List.append_assoc]
                rw [List.getElem?_append_right (by simp; omega)]
                simp only [List.length_take, Array.length_toList]
                rw [List.getElem?_append_left (by omega), ← hx1]
                congr 1; omega)
            have hmv := hw.1.move (id := id) (o := .cells t' i.size (cs ++ bytesD str)) (by
              have hlt := (List.getElem?_eq_some_iff.1 hid).1
              rw [List.getElem?_set_self hlt]) (by intro e; cases e) hL
            rw [List.set_set] at hmv
            refine ⟨_, _, _, hrun, ?_, hmv.1, hw.2.trans hmv.2⟩
            simp only [Rep]
            exact ⟨b, c, by rw [← hr.len]; simp, hroom, rfl⟩
          · have holds : ∀ (j : Nat) (v : Value), (arr.toList.take cs.length)[j]? = some v → w.cell? ((⟨b, 0, none⟩ : Addr).add j) = some v := by
              intro j v hj
              rw [addr_add, Nat.zero_add, cell_of_heap g1]
              have hlt := (List.getElem?_eq_some_iff.1 hj).1
              rw [List.getElem?_take_of_lt (by simp at hlt; omega)] at hj
              simpa using hj
            have hol : (arr.toList.take cs.length).length = n * i.size := by rw [g5.length, hcl]
            have hbound : n + str.size ≤ 4000000 := by omega
            have hrun := run_append_grow_string (P := P) w t t2 ty t' i z ht hstr hinf hz ⟨b, 0, none⟩ n c (arr.toList.take cs.length) hol holds str (by omega) (by omega) (growslice_fits (by omega) (Nat.le_trans (Nat.mul_le_mul hbound hby) (by decide)))
            have hge := grownCap_ge w (n + str.size) c t'
            have hcm := grownCap_le_maxLen w (n + str.size) c t' (by unfold maxLen; omega)
            have hn := (hr.kill id).new w.drew rfl ((Below.refl _ _).drew) t' i.size (grownCap w (n + str.size) c t') (cs ++ bytesD str) ((arr.toList.take cs.length).toArray ++ (strCells str).toArray ++ Builtin.zeroCells z.cells (grownCap w (n + str.size) c t' - (n + str.size))) (by
              simp only [Array.size_append, List.size_toArray, size_zeroCells, hzs, hol, hvl, h1, Nat.mul_one]
              omega) hcm (by
              have h1 := g5.length; have h2 := hvs.length
              simp only [Array.size_append, List.size_toArray, List.length_append]; omega) (by
              intro j d hj
              obtain ⟨x, hx1, hx2⟩ := (g5.append hvs).get j d hj
              have hlt := (List.getElem?_eq_some_iff.1 hx1).1
              have hx1' : ((arr.toList.take cs.length).toArray ++ (strCells str).toArray ++ Builtin.zeroCells z.cells (grownCap w (n + str.size) c t' - (n + str.size)))[j]? = some x := by
                rw [Array.getElem?_append_left (by simpa using hlt)]
                simpa using hx1
              refine ⟨x, hx1', ?_, hx2⟩
              by_cases hjl : j < cs.length
              · rw [List.getElem?_append_left hjl] at hj
                obtain ⟨y, hy1, hy2, _⟩ := hone0 j d hj
                have h1 := g5.length
                rw [List.getElem?_append_left (by omega), List.getElem?_take_of_lt (by omega)] at hx1
                have : y = x := by
                  have : arr[j]? = some x := by simpa using hx1
                  rw [hy1] at this; exact Option.some.inj this
                rw [← this]; exact hy2
              · rw [List.getElem?_append_right (by omega)] at hj
                exact oneCell_of (List.all_eq_true.1 hok d (List.mem_of_getElem? hj)) hx2)
            refine ⟨_, _, _, hrun, ?_, hn.1, hn.2⟩
            simp only [Rep]
            exact ⟨w.heap.size, grownCap w (n + str.size) c t', by rw [← hr.len]; simp, hge, rfl⟩
        · cases h
      · cases h
    · cases h
end
end Go.Proofs.Ytnmgfobpcengkaa
