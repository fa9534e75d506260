/-
  Strings, maps by ints, interface values: what the operations do to them. Nothing here names the program.
-/
import Derived.Test.YtnmgfobpcengkaaHDenApp
import Derived.Laws.BytesString
namespace Go.Proofs.Ytnmgfobpcengkaa
open Go.RowKit
set_option linter.unusedVariables false
set_option linter.unusedSimpArgs false

section
variable {P : Program} {B : Nat} {S : Nat → Prop} {L : List (Nat × Nat)} {w : World} {H : Heap}

theorem strOf_ok {d : D} {s : ByteArray} {v : Value} (h : strOf d = some s) (hv : Rep S L w v d) : v = .string s := by
  unfold strOf at h
  split at h
  · simp only [Rep] at hv; cases h; exact hv
  · cases h
theorem cutS_ok {t : TypeId} {x d : D} {v : Value} {lo hi : Option D} {u1 u2 : Option Value} (ht : P.underlying t = some .string) (h : cutS x lo hi = some d) (hv : Rep S L w v x)
    (hu : OptRep S L w u1 lo) (hu' : OptRep S L w u2 hi) : ∃ r, (Instr.sliceAt t v u1 u2 none).run P w = .ok r w ∧ Rep S L w r d := by
  unfold cutS at h
  obtain ⟨s, hs, h⟩ := Option.bind_eq_some_iff.1 h
  have := strOf_ok hs hv
  subst this
  split at h
  · rename_i l k h1 h2
    split at h
    · rename_i hc
      cases h
      have hb := bounds_ok (P := P) (w := w) (fl := false) (n := s.size) (cap := s.size) h1 h2 hc.1 hc.2 hu hu'
      exact ⟨.string (s.extract l k), by simp [Instr.sliceAt, Instr.slice, run_underlying ht, hb], by simp only [Rep]⟩
    · cases h
  · cases h
theorem idxS_ok {t : TypeId} {x i d : D} {v u : Value} (ht : P.underlying t = some .string) (h : idxS x i = some d) (hv : Rep S L w v x) (hu : Rep S L w u i) : ∃ r, (Instr.index t v u).run P w = .ok r w ∧ Rep S L w r d := by
  unfold idxS at h
  obtain ⟨s, hs, h⟩ := Option.bind_eq_some_iff.1 h
  obtain ⟨n, hn, h⟩ := Option.bind_eq_some_iff.1 h
  have := strOf_ok hs hv
  subst this
  obtain ⟨k, rfl⟩ := natD_ok hn hu
  cases hg : s[n]? with
  | none => rw [hg] at h; cases h
  | some b =>
    rw [hg] at h
    simp only [Option.map_some, Option.some.injEq] at h
    subst h
    exact ⟨.int .u8 b.toNat, by simp [Instr.index, asIntOf, run_underlying ht, hg], by simp only [Rep]⟩
theorem bytes_fold (ns : List Int) : ∀ (s : ByteArray), ns.foldl (fun r n => r.push (UInt8.ofNat n.toNat)) s = ⟨s.data ++ (ns.map fun n => UInt8.ofNat n.toNat).toArray⟩ := by
  induction ns with
  | nil => intro s; simp
  | cons n r ih =>
    intro s
    rw [List.foldl_cons, ih]
    simp [ByteArray.push]
theorem bytes_vals {cs : List D} {bs : List UInt8} {vs : List Value} (h : cs.mapM byteOfD = some bs) (hv : RepA S L w vs cs) : ∃ ns : List Int, vs = ns.map (Value.int .u8) ∧ bs = ns.map fun n => UInt8.ofNat n.toNat := by
  induction cs generalizing bs vs with
  | nil => simp only [RepA] at hv; subst hv; simp at h; subst h; exact ⟨[], rfl, rfl⟩
  | cons d r ih =>
    simp only [RepA] at hv
    obtain ⟨x, ys, rfl, h1, h2⟩ := hv
    rw [List.mapM_cons] at h
    obtain ⟨b, hb, h⟩ := Option.bind_eq_some_iff.1 h
    obtain ⟨bs', hbs, h⟩ := Option.bind_eq_some_iff.1 h
    cases h
    obtain ⟨ns, e1, e2⟩ := ih hbs h2
    unfold byteOfD at hb
    split at hb
    · rename_i n
      cases hb
      simp only [Rep] at h1
      exact ⟨n :: ns, by rw [h1, e1]; rfl, by rw [e2]; rfl⟩
    · cases hb
theorem bytesS_ok {s t e : TypeId} {x d : D} {v : Value} (hs : P.underlying s = some (.slice e)) (he : P.underlying e = some (.int .u8)) (ht : P.underlying t = some .string) (h : bytesS H x = some d) (hv : Rep S L w v x) (hr : HRel B S L w H) :
    ∃ r, (convert s t v).run P w = .ok r w ∧ Rep S L w r d := by
  unfold bytesS at h
  obtain ⟨cs, hcs, h⟩ := Option.bind_eq_some_iff.1 h
  cases hm : cs.mapM byteOfD with
  | none => rw [hm] at h; cases h
  | some bs =>
    rw [hm] at h
    simp only [Option.map_some, Option.some.injEq] at h
    subst h
    obtain ⟨p, m, cap, vs, rfl, h1, h2, h3⟩ := src_ok hcs hv hr
    obtain ⟨ns, rfl, rfl⟩ := bytes_vals hm h2
    refine ⟨_, ?_, by simp only [Rep]; rfl⟩
    rw [run_convert_bytes_string w s t e p m cap hs he ht]
    rcases h3 with ⟨rfl, rfl, rfl⟩ | ⟨a, rfl, ha⟩
    · have : ns = [] := by
        have := h2.length
        simp at this h1
        rw [h1] at this
        simpa using this
      subst this
      rfl
    · have hl := run_loadCells_list (P := P) w a (ns.map (Value.int .u8)) ha
      rw [show (ns.map (Value.int .u8)).length = m from by rw [h2.length]; omega] at hl
      rw [run_bytesToString w a m cap ns hl, bytes_fold]
      simp [ByteArray.empty, ByteArray.emptyWithCapacity]
      rfl

/- Maps. -/
theorem zeroVD_ok {t : TypeId} {d : D} (h : zeroVD P t = some d) : ∃ z, (zeroValue t).run P w = .ok z w ∧ Rep S L w z d := by
  unfold zeroVD at h
  split at h
  · rename_i i hi
    cases hz : i.zero with
    | none => rw [hz] at h; cases h
    | some z =>
      rw [hz] at h
      simp only [Option.map_some, Option.some.injEq] at h
      subst h
      refine ⟨z, by simp [zeroValue, typeInfo, hi, hz], ?_⟩
      split
      · rename_i cs
        simp only [Rep]
        refine ⟨cs.toList, by simp, ?_⟩
        generalize cs.toList = l
        induction l with
        | nil => exact RepA.nil
        | cons a r ih => exact RepA.cons (by simp only [Rep]) ih
      · simp only [Rep]
  · cases h
theorem find_ok {k : IntKind} (es : List MapEntry) (ks : List Int) (vs : List D) (hk : es.map (·.key) = ks.map (Value.int .i64)) (hv : RepA S L w (es.map (·.val)) vs) (n : Int) (v : D) (i : Nat) :
    (findM ks vs n = none ∧ Instr.findNow (.int k) (.int .i64 n) es i = some none ∧ putM ks vs n v = (ks ++ [n], vs ++ [v])) ∨
    ∃ j u e, findM ks vs n = some u ∧ es[j]? = some e ∧ e.key = .int .i64 n ∧ Instr.findNow (.int k) (.int .i64 n) es i = some (some (i + j, e.val)) ∧ Rep S L w e.val u ∧ putM ks vs n v = (ks, vs.set j v) := by
  induction es generalizing ks vs i with
  | nil =>
    cases ks with
    | cons a r => simp at hk
    | nil =>
      have := hv.length
      cases vs with
      | cons a r => simp at this
      | nil => exact .inl ⟨rfl, rfl, rfl⟩
  | cons e r ih =>
    cases ks with
    | nil => simp at hk
    | cons a ks =>
      simp only [List.map_cons, List.cons.injEq] at hk
      cases vs with
      | nil => have := hv.length; simp at this
      | cons u vs =>
        simp only [List.map_cons, RepA] at hv
        obtain ⟨x, ys, he, h1, h2⟩ := hv
        simp only [List.cons.injEq] at he
        obtain ⟨rfl, rfl⟩ := he
        have hs : Instr.sameNow (.int k) (.int .i64 n) e.key = some (n == a) := by rw [hk.1]; simp [Instr.sameNow]
        by_cases hn : n = a
        · subst hn
          refine .inr ⟨0, u, e, by simp [findM], rfl, hk.1, ?_, h1, by simp [putM]⟩
          unfold Instr.findNow
          rw [hs]
          simp
        · have hb : (n == a) = false := by simpa using hn
          rcases ih ks vs hk.2 h2 (i + 1) with ⟨q1, q2, q3⟩ | ⟨j, u', e', q1, q2, q3, q4, q5, q6⟩
          · refine .inl ⟨by simp [findM, hn, q1], ?_, by simp [putM, hn, q3]⟩
            unfold Instr.findNow
            rw [hs, hb]
            exact q2
          · refine .inr ⟨j + 1, u', e', by simp [findM, hn, q1], by simpa using q2, q3, ?_, q5, by simp [putM, hn, q6]⟩
            unfold Instr.findNow
            rw [hs, hb, show i + (j + 1) = i + 1 + j from by omega]
            exact q4
theorem mapElem_ok {t e : TypeId} (h : mapElem P t = some e) : ∃ k ik, P.underlying t = some (.map k e) ∧ P.underlying k = some (.int ik) := by
  unfold mapElem at h
  split at h
  · rename_i k e' hu
    split at h
    · rename_i ik hk
      cases h
      exact ⟨k, ik, hu, hk⟩
    · cases h
  · cases h
theorem int64_ok {d : D} {n : Int} {v : Value} (h : int64Of d = some n) (hv : Rep S L w v d) : v = .int .i64 n := by
  unfold int64Of at h
  split at h
  · simp only [Rep] at hv; cases h; exact hv
  · cases h
theorem run_findKey' {kt : TypeId} {d : TypeDesc} {k : Value} {l : List MapEntry} {a : Option (Nat × Value)} (hd : P.underlying kt = some d) (h : Instr.findNow d k l 0 = some a) : (Instr.findKey kt k l).run P w = .ok a w := by
  simp [Instr.findKey, run_underlying hd, h]
theorem run_checkKey_int {kt : TypeId} {ik : IntKind} (hd : P.underlying kt = some (.int ik)) (b : Bool) (n : Nat) (v : Value) : (Instr.checkKey b (n + 1) kt v).run P w = .ok () w := by
  simp [Instr.checkKey, run_underlying hd]
theorem mapOf_ok {m : D} {v : Value} {ks : List Int} {vs : List D} (h : mapOf H m = some (ks, vs)) (hv : Rep S L w v m) (hr : HRel B S L w H) :
    (v = .map none ∧ ks = [] ∧ vs = []) ∨ ∃ b arr clk, v = .map (some b) ∧ w.heap[b]? = some (.map arr clk) ∧ arr.toList.map (·.key) = ks.map (Value.int .i64) ∧ RepA S L w (arr.toList.map (·.val)) vs := by
  unfold mapOf at h
  split at h
  · rename_i id
    split at h
    · rename_i ks' vs' hid
      cases h
      simp only [Rep] at hv
      obtain ⟨b, c, hL, rfl⟩ := hv
      obtain ⟨b', c', h1, h2, h3, h4⟩ := hr.obj id _ hid (by intro e; cases e)
      rw [hL] at h1
      cases h1
      obtain ⟨arr, clk, h5, h6, h7⟩ := h4
      exact .inr ⟨b, arr, clk, rfl, h5, h6, h7⟩
    · cases h
  · cases h
    simp only [Rep] at hv
    obtain ⟨b, arr, clk, rfl, h2, h3, h4, h5⟩ := hv
    exact .inr ⟨b, arr, clk, rfl, h3, h4, h5.lift⟩
  · cases h
    simp only [Rep] at hv
    exact .inl ⟨hv, rfl, rfl⟩
  · cases h
theorem look_map_ok {t e : TypeId} {zero m k d : D} {ok : Bool} {u v : Value} (ht : mapElem P t = some e) (hz : zeroVD P e = some zero) (h : lookH zero ok H m k = some d) (hu : Rep S L w u m) (hv : Rep S L w v k) (hr : HRel B S L w H) :
    ∃ r, (Instr.lookup t u v ok).run P w = .ok r w ∧ Rep S L w r d := by
  obtain ⟨kt, ik, h1, h2⟩ := mapElem_ok ht
  obtain ⟨z, z1, z2⟩ := zeroVD_ok (S := S) (L := L) (w := w) hz
  unfold lookH at h
  obtain ⟨⟨ks, vs⟩, hm, h⟩ := Option.bind_eq_some_iff.1 h
  obtain ⟨n, hn, h⟩ := Option.bind_eq_some_iff.1 h
  simp only at h
  have hvn := int64_ok hn hv
  subst hvn
  have fin : ∀ (arr : Array MapEntry), arr.toList.map (·.key) = ks.map (Value.int .i64) → RepA S L w (arr.toList.map (·.val)) vs →
      ((Instr.findKey kt (.int .i64 n) arr.toList).run P w = .ok none w ∧ d = (if ok then .tup [zero, .v (.bool false)] else zero)) ∨
      ∃ i x u', (Instr.findKey kt (.int .i64 n) arr.toList).run P w = .ok (some (i, x)) w ∧ Rep S L w x u' ∧ d = (if ok then .tup [u', .v (.bool true)] else u') := by
    intro arr ha hb
    rcases find_ok (k := ik) arr.toList ks vs ha hb n .undef 0 with ⟨q1, q2, _⟩ | ⟨j, u', e', q1, q2, q3, q4, q5, _⟩
    · rw [q1] at h
      exact .inl ⟨run_findKey' h2 q2, (Option.some.inj h).symm⟩
    · rw [q1] at h
      exact .inr ⟨_, _, u', run_findKey' h2 q4, q5, (Option.some.inj h).symm⟩
  have two : ∀ (x : Value) (dx : D) (b : Bool), Rep S L w x dx → Rep S L w (if ok then .tuple #[x, .bool b] else x) (if ok then .tup [dx, .v (.bool b)] else dx) := by
    intro x dx b hx
    cases ok
    · exact hx
    · simp only [if_true, Rep]
      exact ⟨[x, .bool b], rfl, RepA.cons hx (RepA.cons (by simp only [Rep]) RepA.nil)⟩
  have hc := fun b => run_checkKey_int (P := P) (w := w) h2 b 9999 (.int .i64 n)
  rcases mapOf_ok hm hu hr with ⟨rfl, rfl, rfl⟩ | ⟨b, arr, clk, rfl, g1, g2, g3⟩
  · rcases fin #[] rfl RepA.nil with ⟨f1, rfl⟩ | ⟨i, x, u', f1, f2, rfl⟩
    · exact ⟨_, by simp [Instr.lookup, run_underlying h1, hc, f1, z1], two z zero false z2⟩
    · exact ⟨_, by simp [Instr.lookup, run_underlying h1, hc, f1], two x u' true f2⟩
  · have hg : (getObj b).run P w = .ok (.map arr clk) w := by simp [getObj, Sem.run, g1]
    rcases fin arr g2 g3 with ⟨f1, rfl⟩ | ⟨i, x, u', f1, f2, rfl⟩
    · exact ⟨_, by simp [Instr.lookup, run_underlying h1, hg, hc, f1, z1], two z zero false z2⟩
    · exact ⟨_, by simp [Instr.lookup, run_underlying h1, hg, hc, f1], two x u' true f2⟩

theorem upd_ok {t e : TypeId} {m k x d : D} {u v y : Value} {H' : Heap} (ht : mapElem P t = some e) (h : updH m k x H = some (d, H')) (hu : Rep S L w u m) (hv : Rep S L w v k) (hy : Rep S L w y x) (hr : HRel B S L w H) :
    d = .v undef ∧ ∃ w', (Instr.mapUpdate t u v y).run P w = .ok () w' ∧ HRel B S L w' H' ∧ Later B S S L L w w' := by
  obtain ⟨kt, ik, h1, h2⟩ := mapElem_ok ht
  unfold updH at h
  split at h
  · rename_i id n hn
    split at h
    · rename_i ks vs hid
      simp only [Option.some.injEq, Prod.mk.injEq] at h
      obtain ⟨rfl, rfl⟩ := h
      have hvn := int64_ok hn hv
      subst hvn
      have hu' := hu
      simp only [Rep] at hu
      obtain ⟨b, c, hL, rfl⟩ := hu
      obtain ⟨b', c', k1, k2, k3, k4⟩ := hr.obj id _ hid (by intro e; cases e)
      rw [hL] at k1
      cases k1
      obtain ⟨arr, clk, g1, g2, g3⟩ := k4
      have hg : (getObj b).run P w = .ok (.map arr clk) w := by simp [getObj, Sem.run, g1]
      have hset : ∀ o, (setObj b o).run P w = .ok () { w with heap := w.heap.setIfInBounds b o } := fun o => by simp [setObj, Sem.run, g1]
      have hc := run_checkKey_int (P := P) (w := w) h2 false 9999 (.int .i64 n)
      have hlt : b < w.heap.size := (Array.getElem?_eq_some_iff.1 g1).1
      have wr : ∀ (arr' : Array MapEntry) (clk' : Nat) (p : List Int × List D), arr'.toList.map (·.key) = p.1.map (Value.int .i64) → (∀ w', (∀ x d, Rep S L w x d → Rep S L w' x d) → (∀ xs ds, RepA S L w xs ds → RepA S L w' xs ds) → RepA S L w' (arr'.toList.map (·.val)) p.2) →
          HRel B S L { w with heap := w.heap.setIfInBounds b (.map arr' clk') } (H.set id (.map p.1 p.2)) ∧ Later B S S L L w { w with heap := w.heap.setIfInBounds b (.map arr' clk') } := by
        intro arr' clk' p p1 p2
        refine hr.writeO hid (by intro e; cases e) hL _ (.map p.1 p.2) (by intro e; cases e) rfl rfl rfl (by simp) (fun k hk => by simp [Array.getElem?_setIfInBounds, Ne.symm hk]) fun q1 q2 => ?_
        exact ⟨arr', clk', by simp [hlt], p1, p2 _ q1 q2⟩
      refine ⟨rfl, ?_⟩
      rcases find_ok (k := ik) arr.toList ks vs g2 g3 n x 0 with ⟨q1, q2, q3⟩ | ⟨j, u', e', q1, q2, q3, q4, q5, q6⟩
      · have hf := run_findKey' (P := P) (w := w) h2 q2
        have := wr (arr.push { key := .int .i64 n, val := y, born := clk }) (clk + 1) (putM ks vs n x) (by rw [q3]; simp [g2]) (fun w' r1 r2 => by
          rw [q3]
          simp only [Array.toList_push, List.map_append, List.map_cons, List.map_nil]
          exact (r2 _ _ g3).append (RepA.cons (r1 _ _ hy) RepA.nil))
        refine ⟨_, ?_, this.1, this.2⟩
        simp [Instr.mapUpdate, run_underlying h1, hg, hc, hf, hset]
      · have hf := run_findKey' (P := P) (w := w) h2 q4
        have q2' : arr[j]? = some e' := by simpa using q2
        have hks : (Instr.keyThatStays (.int .i64 n) (.int .i64 n)).run P w = .ok (.int .i64 n) w := by simp [Instr.keyThatStays, Instr.sameBits]
        have hj : j < arr.size := (Array.getElem?_eq_some_iff.1 q2').1
        have hmod : (arr.modify j fun e => { e with key := .int .i64 n, val := y }).toList = arr.toList.set j { e' with key := .int .i64 n, val := y } := by
          apply List.ext_getElem?
          intro i
          rw [Array.getElem?_toList, Array.getElem?_modify]
          by_cases hi : j = i
          · subst hi
            rw [if_pos rfl, q2', List.getElem?_set_self (by simpa using hj)]
            rfl
          · rw [if_neg hi, List.getElem?_set_ne hi, Array.getElem?_toList]
        have := wr (arr.modify j fun e => { e with key := .int .i64 n, val := y }) clk (putM ks vs n x) (by
          rw [q6, hmod, List.map_set, ← g2]
          apply List.ext_getElem?
          intro i
          by_cases hi : j = i
          · subst hi
            rw [List.getElem?_set_self (by simpa using hj), List.getElem?_map, q2]
            simp [q3]
          · rw [List.getElem?_set_ne hi]) (fun w' r1 r2 => by
          rw [q6, hmod, List.map_set]
          exact (r2 _ _ g3).set j (r1 _ _ hy))
        refine ⟨_, ?_, this.1, this.2⟩
        rw [Nat.zero_add] at hf
        simp [Instr.mapUpdate, run_underlying h1, hg, hc, hf, hset, q2', q3, hks]
    · cases h
  · cases h
theorem newM_ok {d : D} {H' : Heap} (t : TypeId) (h : newM H = some (d, H')) (hr : HRel B S L w H) :
    ∃ r w' L', (Instr.makeMap t none).run P w = .ok r w' ∧ Rep S L' w' r d ∧ HRel B S L' w' H' ∧ Later B S S L L' w w' := by
  unfold newM at h
  simp only [Option.some.injEq, Prod.mk.injEq] at h
  obtain ⟨rfl, rfl⟩ := h
  have := hr.newO w rfl (Below.refl _ _) (.map #[] 0) 0 (.map [] []) fun w' L' _ _ hn => ⟨#[], 0, hn, rfl, RepA.nil⟩
  refine ⟨.map (some w.heap.size), _, _, by simp [Instr.makeMap], ?_, this.1, this.2⟩
  simp only [Rep]
  exact ⟨w.heap.size, 0, by rw [← hr.len]; simp, rfl⟩

/- Interface values. -/
theorem isConc_ok {t : TypeId} (h : isConc P t = true) : ∃ u, P.underlying t = some u ∧ ∀ ms, u ≠ .interface ms := by
  unfold isConc at h
  split at h
  · cases h
  · cases h
  · rename_i h1 h2
    cases hu : P.underlying t with
    | none => exact absurd hu h2
    | some u => exact ⟨u, rfl, fun ms e => h1 ms (by rw [hu, e])⟩
theorem assert_ok {t u : TypeId} {zero x d : D} {ok : Bool} {v : Value} (hc : isConc P u = true) (hz : zeroVD P u = some zero) (h : assertD u zero ok x = some d) (hv : Rep S L w v x) :
    ∃ r, (Instr.typeAssert v t u ok).run P w = .ok r w ∧ Rep S L w r d := by
  obtain ⟨z, z1, z2⟩ := zeroVD_ok (S := S) (L := L) (w := w) hz
  obtain ⟨ud, hu, hn⟩ := isConc_ok hc
  have fails : ok = true → Rep S L w (.tuple #[z, .bool false]) (.tup [zero, .v (.bool false)]) := fun _ => by
    simp only [Rep]
    exact ⟨[z, .bool false], rfl, RepA.cons z2 (RepA.cons (by simp only [Rep]) RepA.nil)⟩
  unfold assertD at h
  split at h
  · rename_i ty e
    simp only [Rep] at hv
    obtain ⟨y, rfl, hy⟩ := hv
    split at h
    · rename_i he
      subst he
      cases h
      refine ⟨if ok then .tuple #[y, .bool true] else y, ?_, ?_⟩
      · cases ud <;> first | (exact absurd rfl (hn _)) | simp [Instr.typeAssert, run_underlying hu]
      · cases ok
        · exact hy
        · simp only [if_true, Rep]
          exact ⟨[y, .bool true], rfl, RepA.cons hy (RepA.cons (by simp only [Rep]) RepA.nil)⟩
    · rename_i he
      split at h
      · rename_i hok
        subst hok
        cases h
        refine ⟨_, ?_, fails rfl⟩
        cases ud <;> first | (exact absurd rfl (hn _)) | simp [Instr.typeAssert, run_underlying hu, he, z1]
      · cases h
  · split at h
    · rename_i hok
      subst hok
      cases h
      simp only [Rep] at hv
      subst hv
      refine ⟨_, ?_, fails rfl⟩
      cases ud <;> first | (exact absurd rfl (hn _)) | simp [Instr.typeAssert, run_underlying hu, z1]
    · cases h
  · cases h
end
end Go.Proofs.Ytnmgfobpcengkaa
