import Derived.Laws.BytesString
import Derived.Lib.AppendStr
import Derived.Laws.MakeOwn
import Derived.Test.YtinnbafplhcnpaaGreatHb
section
namespace Go.Proofs.YtinnbafplhcnpaaGreat
open Go.RowKit
set_option linter.unusedVariables false
set_option linter.unusedSimpArgs false
section
variable {P : Program} {B : Nat} {S : Nat -> Prop} {L : List (Nat × Nat)} {w : World} {H : Heap}
theorem Jwk {d : D} {s : ByteArray} {v : Value} (h : strOf d = some s) (hv : Rep S L w v d) : v = .string s := by
  unfold strOf at h
  split at h
  · simp only [Rep] at hv; cases h; exact hv
  · cases h
theorem Qsn     {t : TypeId} {x d : D} {v : Value} {lo hi : Option D} {u1 u2 : Option Value} (ht : P.underlying t = some .string) (h : cutS x lo hi = some d) (hv : Rep S L w v x)
    (hu : Jps S L w u1 lo) (hu' : Jps S L w u2 hi) : ∃ r, (Instr.sliceAt t v u1 u2 none).run P w = .ok r w /\ Rep S L w r d := by
  unfold cutS at h
  obtain ⟨s, hs, h⟩ := Option.bind_eq_some_iff.1 h
  have := Jwk hs hv
  subst this
  split at h
  · rename_i l k h1 h2
    split at h
    · rename_i hc
      cases h
      have hb := Jkm (P := P) (w := w) (fl := false) (n := s.size) (cap := s.size) h1 h2 hc.1 hc.2 hu hu'
      exact ⟨.string (s.extract l k), by simp [Instr.sliceAt, Instr.slice, run_underlying ht, hb], by simp only [Rep]⟩
    · cases h
  · cases h
theorem Qry {t : TypeId} {x i d : D} {v u : Value} (ht : P.underlying t = some .string) (h : idxS x i = some d) (hv : Rep S L w v x) (hu : Rep S L w u i) : ∃ r, (Instr.index t v u).run P w = .ok r w /\ Rep S L w r d := by
  unfold idxS at h
  obtain ⟨s, hs, h⟩ := Option.bind_eq_some_iff.1 h
  obtain ⟨n, hn, h⟩ := Option.bind_eq_some_iff.1 h
  have := Jwk hs hv
  subst this
  obtain ⟨k, rfl⟩ := Jqh hn hu
  cases hg : s[n]? with
  | none => rw [hg] at h; cases h
  | some b =>
    rw [hg] at h
    simp only [Option.map_some, Option.some.injEq] at h
    subst h
    exact ⟨.int .u8 b.toNat, by simp [Instr.index, asIntOf, run_underlying ht, hg], by simp only [Rep]⟩
theorem Qhy (ns : List Int) : ∀ (s : ByteArray), ns.foldl (fun r n => r.push (UInt8.ofNat n.toNat)) s = ⟨s.data ++ (ns.map fun n => UInt8.ofNat n.toNat).toArray⟩ := by
  induction ns with
  | nil => intro s; simp
  | cons n r ih =>
    intro s
    rw [List.foldl_cons, ih]
    simp [ByteArray.push]
theorem Qhx {cs : List D} {bs : List UInt8} {vs : List Value} (h : cs.mapM byteOfD = some bs) (hv : RepA S L w vs cs) : ∃ ns : List Int, vs = ns.map (Value.int .u8) /\ bs = ns.map fun n => UInt8.ofNat n.toNat := by
  induction cs generalizing bs vs with
  | nil => simp only [RepA] at hv; subst hv; simp at h; subst h; exact ⟨[], rfl, rfl⟩
  | cons d r ih =>
    simp only [RepA] at hv
    obtain ⟨x, ys, rfl, h1, h2⟩ := hv
    rw [List.mapM_cons] at h
    obtain ⟨b, hb, h⟩ := Option.bind_eq_some_iff.1 h
    obtain ⟨bs', hbs, h⟩ := Option.bind_eq_some_iff.1 h
    cases h
    obtain ⟨ns, e1, e2⟩ := ih hbs h2
    unfold byteOfD at hb
    split at hb
    · rename_i n
      cases hb
      simp only [Rep] at h1
      exact ⟨n :: ns, by rw [h1, e1]; rfl, by rw [e2]; rfl⟩
    · cases hb
theorem Qld       {s t e : TypeId} {x d : D} {v : Value} (hs : P.underlying s = some (.slice e)) (he : P.underlying e = some (.int .u8)) (ht : P.underlying t = some .string) (h : Jn5    H x = some d) (hv : Rep S L w v x) (hr : HRel B S L w H) :
    ∃ r, (convert s t v).run P w = .ok r w /\ Rep S L w r d := by
  unfold Jn5 at h
  obtain ⟨cs, hcs, h⟩ := Option.bind_eq_some_iff.1 h
  cases hm : cs.mapM byteOfD with
  | none => rw [hm] at h; cases h
  | some bs =>
    rw [hm] at h
    simp only [Option.map_some, Option.some.injEq] at h
    subst h
    obtain ⟨p, m, cap, vs, rfl, h1, h2, h3⟩ := src_ok hcs hv hr
    obtain ⟨ns, rfl, rfl⟩ := Qhx hm h2
    refine ⟨_, ?_, by simp only [Rep]; rfl⟩
    rw [run_convert_bytes_string w s t e p m cap hs he ht]
    rcases h3 with ⟨rfl, rfl, rfl⟩ | ⟨a, rfl, ha⟩
    · have : ns = [] := by
        have := h2.length
        simp at this h1
        rw [h1] at this
        simpa using this
      subst this
      rfl
    · have hl := run_loadCells_list (P := P) w a (ns.map (Value.int .u8)) ha
      rw [show (ns.map (Value.int .u8)).length = m from by rw [h2.length]; omega] at hl
      rw [run_bytesToString w a m cap ns hl, Qhy]
      simp [ByteArray.empty, ByteArray.emptyWithCapacity]
      rfl
theorem Jyk {t : TypeId} {d : D} (h : Jnx P t = some d) : ∃ z, (zeroValue t).run P w = .ok z w /\ Rep S L w z d := by
  unfold Jnx at h
  split at h
  · rename_i i hi
    cases hz : i.zero with
    | none => rw [hz] at h; cases h
    | some z =>
      rw [hz] at h
      simp only [Option.map_some, Option.some.injEq] at h
      subst h
      refine ⟨z, by simp [zeroValue, typeInfo, hi, hz], ?_⟩
      split
      · rename_i cs
        simp only [Rep]
        refine ⟨cs.toList, by simp, ?_⟩
        generalize cs.toList = l
        induction l with
        | nil => exact RepA.nil
        | cons a r ih => exact RepA.cons (by simp only [Rep]) ih
      · simp only [Rep]
  · cases h
theorem find_ok {k : IntKind} (es : List MapEntry) (ks : List Int) (vs : List D) (hk : es.map (·.key) = ks.map (Value.int .i64)) (hv : RepA S L w (es.map (·.val)) vs) (n : Int) (v : D) (i : Nat) :
    (Jxo ks vs n = none /\ Instr.findNow (.int k) (.int .i64 n) es i = some none /\ putM ks vs n v = (ks ++ [n], vs ++ [v])) \/
    ∃ j u e, Jxo ks vs n = some u /\ es[j]? = some e /\ e.key = .int .i64 n /\ Instr.findNow (.int k) (.int .i64 n) es i = some (some (i + j, e.val)) /\ Rep S L w e.val u /\ putM ks vs n v = (ks, vs.set j v) := by
  induction es generalizing ks vs i with
  | nil =>
    cases ks with
    | cons a r => simp at hk
    | nil =>
      have := hv.length
      cases vs with
      | cons a r => simp at this
      | nil => exact .inl ⟨rfl, rfl, rfl⟩
  | cons e r ih =>
    cases ks with
    | nil => simp at hk
    | cons a ks =>
      simp only [List.map_cons, List.cons.injEq] at hk
      cases vs with
      | nil => have := hv.length; simp at this
      | cons u vs =>
        simp only [List.map_cons, RepA] at hv
        obtain ⟨x, ys, he, h1, h2⟩ := hv
        simp only [List.cons.injEq] at he
        obtain ⟨rfl, rfl⟩ := he
        have hs : Instr.sameNow (.int k) (.int .i64 n) e.key = some (n == a) := by rw [hk.1]; simp [Instr.sameNow]
        by_cases hn : n = a
        · subst hn
          refine .inr ⟨0, u, e, by simp [Jxo], rfl, hk.1, ?_, h1, by simp [putM]⟩
          unfold Instr.findNow
          rw [hs]
          simp
        · have hb : (n == a) = false := by simpa using hn
          rcases ih ks vs hk.2 h2 (i + 1) with ⟨q1, q2, q3⟩ | ⟨j, u', e', q1, q2, q3, q4, q5, q6⟩
          · refine .inl ⟨by simp [Jxo, hn, q1], ?_, by simp [putM, hn, q3]⟩
            unfold Instr.findNow
            rw [hs, hb]
            exact q2
          · refine .inr ⟨j + 1, u', e', by simp [Jxo, hn, q1], by simpa using q2, q3, ?_, q5, by simp [putM, hn, q6]⟩
            unfold Instr.findNow
            rw [hs, hb, show i + (j + 1) = i + 1 + j from by omega]
            exact q4
theorem Jvj {t e : TypeId} (h : mapElem P t = some e) : ∃ k ik, P.underlying t = some (.map k e) /\ P.underlying k = some (.int ik) := by
  unfold mapElem at h
  split at h
  · rename_i k e' hu
    split at h
    · rename_i ik hk
      cases h
      exact ⟨k, ik, hu, hk⟩
    · cases h
  · cases h
theorem Qe2 {d : D} {n : Int} {v : Value} (h : Jth d = some n) (hv : Rep S L w v d) : v = .int .i64 n := by
  unfold Jth at h
  split at h
  · simp only [Rep] at hv; cases h; exact hv
  · cases h
theorem Jja {kt : TypeId} {d : TypeDesc} {k : Value} {l : List MapEntry} {a : Option (Nat × Value)} (hd : P.underlying kt = some d) (h : Instr.findNow d k l 0 = some a) : (Instr.findKey kt k l).run P w = .ok a w := by
  simp [Instr.findKey, run_underlying hd, h]
theorem Jlh {kt : TypeId} {ik : IntKind} (hd : P.underlying kt = some (.int ik)) (b : Bool) (n : Nat) (v : Value) : (Instr.checkKey b (n + 1) kt v).run P w = .ok () w := by
  simp [Instr.checkKey, run_underlying hd]
theorem Qn4      {m : D} {v : Value} {ks : List Int} {vs : List D} (h : mapOf H m = some (ks, vs)) (hv : Rep S L w v m) (hr : HRel B S L w H) :
    (v = .map none /\ ks = [] /\ vs = []) \/ ∃ b arr clk, v = .map (some b) /\ w.heap[b]? = some (.map arr clk) /\ arr.toList.map (·.key) = ks.map (Value.int .i64) /\ RepA S L w (arr.toList.map (·.val)) vs := by
  unfold mapOf at h
  split at h
  · rename_i id
    split at h
    · rename_i ks' vs' hid
      cases h
      simp only [Rep] at hv
      obtain ⟨b, c, hL, rfl⟩ := hv
      obtain ⟨b', c', h1, h2, h3, h4⟩ := hr.obj id _ hid (by intro e; cases e)
      rw [hL] at h1
      cases h1
      obtain ⟨arr, clk, h5, h6, h7⟩ := h4
      exact .inr ⟨b, arr, clk, rfl, h5, h6, h7⟩
    · cases h
  · cases h
    simp only [Rep] at hv
    obtain ⟨b, arr, clk, rfl, h2, h3, h4, h5⟩ := hv
    exact .inr ⟨b, arr, clk, rfl, h3, h4, h5.lift⟩
  · cases h
    simp only [Rep] at hv
    exact .inl ⟨hv, rfl, rfl⟩
  · cases h
theorem Qcu         {t e : TypeId} {zero m k d : D} {ok : Bool} {u v : Value} (ht : mapElem P t = some e) (hz : Jnx    P e = some zero) (h : Juw   zero ok H m k = some d) (hu : Rep S L w u m) (hv : Rep S L w v k) (hr : HRel B S L w H) :
    ∃ r, (Instr.lookup t u v ok).run P w = .ok r w /\ Rep S L w r d := by
  obtain ⟨kt, ik, h1, h2⟩ := Jvj ht
  obtain ⟨z, z1, z2⟩ := Jyk (S := S) (L := L) (w := w) hz
  unfold Juw at h
  obtain ⟨⟨ks, vs⟩, hm, h⟩ := Option.bind_eq_some_iff.1 h
  obtain ⟨n, hn, h⟩ := Option.bind_eq_some_iff.1 h
  simp only at h
  have hvn := Qe2 hn hv
  subst hvn
  have fin : ∀ (arr : Array MapEntry), arr.toList.map (·.key) = ks.map (Value.int .i64) → RepA S L w (arr.toList.map (·.val)) vs →
      ((Instr.findKey kt (.int .i64 n) arr.toList).run P w = .ok none w /\ d = (if ok then .tup [zero, .v (.bool false)] else zero)) \/
      ∃ i x u', (Instr.findKey kt (.int .i64 n) arr.toList).run P w = .ok (some (i, x)) w /\ Rep S L w x u' /\ d = (if ok then .tup [u', .v (.bool true)] else u') := by
    intro arr ha hb
    rcases find_ok (k := ik) arr.toList ks vs ha hb n .undef 0 with ⟨q1, q2, _⟩ | ⟨j, u', e', q1, q2, q3, q4, q5, _⟩
    · rw [q1] at h
      exact .inl ⟨Jja h2 q2, (Option.some.inj h).symm⟩
    · rw [q1] at h
      exact .inr ⟨_, _, u', Jja h2 q4, q5, (Option.some.inj h).symm⟩
  have two : ∀ (x : Value) (dx : D) (b : Bool), Rep S L w x dx -> Rep S L w (if ok then .tuple #[x, .bool b] else x) (if ok then .tup [dx, .v (.bool b)] else dx) := by
    intro x dx b hx
    cases ok
    · exact hx
    · simp only [if_true, Rep]
      exact ⟨[x, .bool b], rfl, RepA.cons hx (RepA.cons (by simp only [Rep]) RepA.nil)⟩
  have hc := fun b => Jlh (P := P) (w := w) h2 b 9999 (.int .i64 n)
  rcases Qn4 hm hu hr with ⟨rfl, rfl, rfl⟩ | ⟨b, arr, clk, rfl, g1, g2, g3⟩
  · rcases fin #[] rfl RepA.nil with ⟨f1, rfl⟩ | ⟨i, x, u', f1, f2, rfl⟩
    · exact ⟨_, by simp [Instr.lookup, run_underlying h1, hc, f1, z1], two z zero false z2⟩
    · exact ⟨_, by simp [Instr.lookup, run_underlying h1, hc, f1], two x u' true f2⟩
  · have hg : (getObj b).run P w = .ok (.map arr clk) w := by simp [getObj, Sem.run, g1]
    rcases fin arr g2 g3 with ⟨f1, rfl⟩ | ⟨i, x, u', f1, f2, rfl⟩
    · exact ⟨_, by simp [Instr.lookup, run_underlying h1, hg, hc, f1, z1], two z zero false z2⟩
    · exact ⟨_, by simp [Instr.lookup, run_underlying h1, hg, hc, f1], two x u' true f2⟩
theorem Qp6    {t e : TypeId} {m k x d : D} {u v y : Value} {H' : Heap} (ht : mapElem P t = some e) (h : updH m k x H = some (d, H')) (hu : Rep S L w u m) (hv : Rep S L w v k) (hy : Rep S L w y x) (hr : HRel B S L w H) :
    d = .v undef /\ ∃ w', (Instr.mapUpdate t u v y).run P w = .ok () w' /\ HRel B S L w' H' /\ Later B S S L L w w' := by
  obtain ⟨kt, ik, h1, h2⟩ := Jvj ht
  unfold updH at h
  split at h
  · rename_i id n hn
    split at h
    · rename_i ks vs hid
      simp only [Option.some.injEq, Prod.mk.injEq] at h
      obtain ⟨rfl, rfl⟩ := h
      have hvn := Qe2 hn hv
      subst hvn
      have hu' := hu
      simp only [Rep] at hu
      obtain ⟨b, c, hL, rfl⟩ := hu
      obtain ⟨b', c', k1, k2, k3, k4⟩ := hr.obj id _ hid (by intro e; cases e)
      rw [hL] at k1
      cases k1
      obtain ⟨arr, clk, g1, g2, g3⟩ := k4
      have hg : (getObj b).run P w = .ok (.map arr clk) w := by simp [getObj, Sem.run, g1]
      have hset : ∀ o, (setObj b o).run P w = .ok () { w with heap := w.heap.setIfInBounds b o } := fun o => by simp [setObj, Sem.run, g1]
      have hc := Jlh (P := P) (w := w) h2 false 9999 (.int .i64 n)
      have hlt : b < w.heap.size := (Array.getElem?_eq_some_iff.1 g1).1
      have wr : ∀ (arr' : Array MapEntry) (clk' : Nat) (p : List Int × List D), arr'.toList.map (·.key) = p.1.map (Value.int .i64) → (∀ w', (∀ x d, Rep S L w x d → Rep S L w' x d) → (∀ xs ds, RepA S L w xs ds → RepA S L w' xs ds) → RepA S L w' (arr'.toList.map (·.val)) p.2) →
          HRel B S L { w with heap := w.heap.setIfInBounds b (.map arr' clk') } (H.set id (.map p.1 p.2)) /\ Later B S S L L w { w with heap := w.heap.setIfInBounds b (.map arr' clk') } := by
        intro arr' clk' p p1 p2
        refine hr.writeO hid (by intro e; cases e) hL _ (.map p.1 p.2) (by intro e; cases e) rfl rfl rfl (by simp) (fun k hk => by simp [Array.getElem?_setIfInBounds, Ne.symm hk]) fun q1 q2 => ?_
        exact ⟨arr', clk', by simp [hlt], p1, p2 _ q1 q2⟩
      refine ⟨rfl, ?_⟩
      rcases find_ok (k := ik) arr.toList ks vs g2 g3 n x 0 with ⟨q1, q2, q3⟩ | ⟨j, u', e', q1, q2, q3, q4, q5, q6⟩
      · have hf := Jja (P := P) (w := w) h2 q2
        have := wr (arr.push { key := .int .i64 n, val := y, born := clk }) (clk + 1) (putM ks vs n x) (by rw [q3]; simp [g2]) (fun w' r1 r2 => by
          rw [q3]
          simp only [Array.toList_push, List.map_append, List.map_cons, List.map_nil]
          exact (r2 _ _ g3).append (RepA.cons (r1 _ _ hy) RepA.nil))
        refine ⟨_, ?_, this.1, this.2⟩
        simp [Instr.mapUpdate, run_underlying h1, hg, hc, hf, hset]
      · have hf := Jja (P := P) (w := w) h2 q4
        have q2' : arr[j]? = some e' := by simpa using q2
        have hks : (Instr.keyThatStays (.int .i64 n) (.int .i64 n)).run P w = .ok (.int .i64 n) w := by simp [Instr.keyThatStays, Instr.sameBits]
        have hj : j < arr.size := (Array.getElem?_eq_some_iff.1 q2').1
        have hmod : (arr.modify j fun e => { e with key := .int .i64 n, val := y }).toList = arr.toList.set j { e' with key := .int .i64 n, val := y } := by
          apply List.ext_getElem?
          intro i
          rw [Array.getElem?_toList, Array.getElem?_modify]
          by_cases hi : j = i
          · subst hi
            rw [if_pos rfl, q2', List.getElem?_set_self (by simpa using hj)]
            rfl
          · rw [if_neg hi, List.getElem?_set_ne hi, Array.getElem?_toList]
        have := wr (arr.modify j fun e => { e with key := .int .i64 n, val := y }) clk (putM ks vs n x) (by
          rw [q6, hmod, List.map_set, <- g2]
          apply List.ext_getElem?
          intro i
          by_cases hi : j = i
          · subst hi
            rw [List.getElem?_set_self (by simpa using hj), List.getElem?_map, q2]
            simp [q3]
          · rw [List.getElem?_set_ne hi]) (fun w' r1 r2 => by
          rw [q6, hmod, List.map_set]
          exact (r2 _ _ g3).set j (r1 _ _ hy))
        refine ⟨_, ?_, this.1, this.2⟩
        rw [Nat.zero_add] at hf
        simp [Instr.mapUpdate, run_underlying h1, hg, hc, hf, hset, q2', q3, hks]
    · cases h
  · cases h
theorem Qrn     {d : D} {H' : Heap} (t : TypeId) (h : newM H = some (d, H')) (hr : HRel B S L w H) :
    ∃ r w' L', (Instr.makeMap t none).run P w = .ok r w' /\ Rep S L' w' r d /\ HRel B S L' w' H' /\ Later B S S L L' w w' := by
  unfold newM at h
  simp only [Option.some.injEq, Prod.mk.injEq] at h
  obtain ⟨rfl, rfl⟩ := h
  have := hr.newO w rfl (Below.refl _ _) (.map #[] 0) 0 (.map [] []) fun w' L' _ _ hn => ⟨#[], 0, hn, rfl, RepA.nil⟩
  refine ⟨.map (some w.heap.size), _, _, by simp [Instr.makeMap], ?_, this.1, this.2⟩
  simp only [Rep]
  exact ⟨w.heap.size, 0, by rw [<- hr.len]; simp, rfl⟩
theorem Qkd {t : TypeId} (h : Jzx P t = true) : ∃ u, P.underlying t = some u /\ ∀ ms, u ≠ .interface ms := by
  unfold Jzx at h
  split at h
  · cases h
  · cases h
  · rename_i h1 h2
    cases hu : P.underlying t with
    | none => exact absurd hu h2
    | some u => exact ⟨u, rfl, fun ms e => h1 ms (by rw [hu, e])⟩
theorem Qli       {t u : TypeId} {zero x d : D} {ok : Bool} {v : Value} (hc : Jzx    P u = true) (hz : Jnx    P u = some zero) (h : Jgo     u zero ok x = some d) (hv : Rep S L w v x) :
    ∃ r, (Instr.typeAssert v t u ok).run P w = .ok r w /\ Rep S L w r d := by
  obtain ⟨z, z1, z2⟩ := Jyk (S := S) (L := L) (w := w) hz
  obtain ⟨ud, hu, hn⟩ := Qkd hc
  have fails : ok = true -> Rep S L w (.tuple #[z, .bool false]) (.tup [zero, .v (.bool false)]) := fun _ => by
    simp only [Rep]
    exact ⟨[z, .bool false], rfl, RepA.cons z2 (RepA.cons (by simp only [Rep]) RepA.nil)⟩
  unfold Jgo at h
  split at h
  · rename_i ty e
    simp only [Rep] at hv
    obtain ⟨y, rfl, hy⟩ := hv
    split at h
    · rename_i he
      subst he
      cases h
      refine ⟨if ok then .tuple #[y, .bool true] else y, ?_, ?_⟩
      · cases ud <;> first | (exact absurd rfl (hn _)) | simp [Instr.typeAssert, run_underlying hu]
      · cases ok
        · exact hy
        · simp only [if_true, Rep]
          exact ⟨[y, .bool true], rfl, RepA.cons hy (RepA.cons (by simp only [Rep]) RepA.nil)⟩
    · rename_i he
      split at h
      · rename_i hok
        subst hok
        cases h
        refine ⟨_, ?_, fails rfl⟩
        cases ud <;> first | (exact absurd rfl (hn _)) | simp [Instr.typeAssert, run_underlying hu, he, z1]
      · cases h
  · split at h
    · rename_i hok
      subst hok
      cases h
      simp only [Rep] at hv
      subst hv
      refine ⟨_, ?_, fails rfl⟩
      cases ud <;> first | (exact absurd rfl (hn _)) | simp [Instr.typeAssert, run_underlying hu, z1]
    · cases h
  · cases h
end
end Go.Proofs.YtinnbafplhcnpaaGreat
end
section
namespace Go.Proofs.YtinnbafplhcnpaaGreat
open Go.RowKit Go.Lib
set_option linter.unusedVariables false
set_option linter.unusedSimpArgs false
section
variable {P : Program} {B : Nat} {S : Nat -> Prop} {L : List (Nat × Nat)} {w : World} {H : Heap}
theorem Jyq       (hr : HRel B S L w H) {id : Nat} {t : TypeId} {sz : Nat} {cs : List D} (hid : H[id]? = some (HO.cells t sz cs)) {b c : Nat} (hL : L[id]? = some (b, c)) (off : Nat) {ys : List Value} {ds : List D} (hy2 : RepA S L w ys ds) (hok : ds.all Jcc    = true) (hle : off + ds.length ≤ cs.length) :
    ∃ w', (storeCells ⟨b, off, none⟩ ys).run P w = .ok () w' /\ HRel B S L w' (H.set id (.cells t sz (cs.take off ++ ds ++ cs.drop (off + ds.length)))) /\ Later B S S L L w w' := by
  obtain ⟨arr, g1, g2, g3, g4, g5⟩ := Jdt hr hid hL
  have hyl := hy2.length
  have hone := cells_one hy2 hok
  have hone0 : ∀ (j : Nat) (d : D), cs[j]? = some d -> ∃ x, arr[j]? = some x /\ x.oneCell' = true /\ Rep S L w x d := by
    obtain ⟨b', c', arr', k1, k2, k3, k4, k5, k6, k7, k8⟩ := hr.live id _ _ cs hid
    rw [hL] at k1; cases k1
    rw [g1] at k4; cases k4
    exact k8
  have hst := run_storeCells_at P b off t ys 0 arr w g1 (by omega) hone
  simp only [Nat.add_zero] at hst
  have hw := hr.write hid hL (arr.toList.take off ++ ys ++ arr.toList.drop (off + ys.length)).toArray (cs.take off ++ ds ++ cs.drop (off + ds.length)) (by
    simp only [List.size_toArray, List.length_append, List.length_take, List.length_drop, Array.length_toList]; omega) (by
    simp only [List.size_toArray, List.length_append, List.length_take, List.length_drop, Array.length_toList]; omega) (by
    intro j d hj
    by_cases h1 : j < off
    · rw [List.append_assoc, List.getElem?_append_left (by simp; omega), List.getElem?_take_of_lt h1] at hj
      obtain ⟨x, q1, q2, q3⟩ := hone0 j d hj
      refine ⟨x, ?_, q2, q3⟩
      simp only [List.getElem?_toArray, List.append_assoc]
      rw [List.getElem?_append_left (by simp; omega), List.getElem?_take_of_lt h1]
      simpa using q1
    · by_cases h2 : j < off + ds.length
      · rw [List.append_assoc, List.getElem?_append_right (by simp; omega), List.getElem?_append_left (by simp; omega)] at hj
        obtain ⟨x, q1, q2⟩ := hy2.get _ d hj
        refine ⟨x, ?_, Jfa (List.all_eq_true.1 hok d (List.mem_of_getElem? hj)) q2, q2⟩
        simp only [List.getElem?_toArray, List.append_assoc]
        rw [List.getElem?_append_right (by simp; omega), List.getElem?_append_left (by simp; omega), <- q1]
        congr 1
        simp; omega
      · rw [List.getElem?_append_right (by simp; omega), List.getElem?_drop] at hj
        obtain ⟨x, q1, q2, q3⟩ := hone0 _ d hj
        refine ⟨x, ?_, q2, q3⟩
        simp only [List.getElem?_toArray]
        rw [List.getElem?_append_right (by simp; omega), List.getElem?_drop, Array.getElem?_toList, <- q1]
        congr 1
        simp; omega)
  exact ⟨_, hst, hw.1, hw.2⟩
theorem Qki {x : D} {id off n : Nat} {v : Value} (h : htOf x = some (id, off, n)) (hv : Rep S L w v x) : ∃ b c o cap, L[id]? = some (b, c) /\ v = .slice (some ⟨b, o, none⟩) n cap /\ n <= cap /\ (0 < n -> o = off) := by
  unfold htOf at h
  split at h
  · cases h
    simp only [Rep] at hv
    obtain ⟨b, c, h1, h2, h3⟩ := hv
    exact ⟨b, c, 0, c, h1, h3, h2, fun _ => rfl⟩
  · cases h
    simp only [Rep] at hv
    exact hv
  · cases h
theorem Qm4      {sz m cap : Nat} {p : Option Addr} {vs : List Value} (hvl : vs.length = m * sz) (hp : (p = none ∧ m = 0 ∧ cap = 0) ∨ ∃ a, p = some a ∧ ∀ (j : Nat) (v : Value), vs[j]? = some v → w.cell? (a.add j) = some v) (k : Nat) (hk : k ≤ m) :
    (Builtin.firstCells sz k (.slice p m cap)).run P w = .ok (vs.take (k * sz)).toArray w := by
  have hkl : k * sz <= vs.length := by rw [hvl]; exact Nat.mul_le_mul_right _ hk
  rcases hp with ⟨rfl, rfl, rfl⟩ | ⟨a, rfl, hc⟩
  · have : vs = [] := List.eq_nil_of_length_eq_zero (by simpa using hvl)
    subst this
    simp [Builtin.firstCells]
  · have := run_loadCells_list (P := P) w a (vs.take (k * sz)) (fun j v hj => by
      have hlt := (List.getElem?_eq_some_iff.1 hj).1
      rw [List.getElem?_take_of_lt (by simp at hlt; omega)] at hj
      exact hc j v hj)
    rw [show (vs.take (k * sz)).length = k * sz from by rw [List.length_take]; omega] at this
    simp [Builtin.firstCells, this]
theorem Qsp     {t e : TypeId} {sz : Nat} {s x d : D} {v u : Value} {H' : Heap} (hi : Jmo     P t = some (e, sz)) (h : Jx1   sz s x H = some (d, H')) (hs : Rep S L w v s) (hx : Rep S L w u x) (hr : HRel B S L w H) (ts : Array TypeId) (ht0 : ts[0]? = some t) (ty : TypeId) :
    ∃ r w', (Builtin.copy_ ts ty #[v, u]).run P w = .ok r w' /\ Rep S L w' r d /\ HRel B S L w' H' /\ Later B S S L L w w' := by
  obtain ⟨i, z, ht, hinf, hz, rfl, hzs, hby⟩ := Jtr hi
  unfold Jx1 at h
  obtain ⟨⟨id, off, n⟩, hto, h⟩ := Option.bind_eq_some_iff.1 h
  simp only at h
  split at h
  · rename_i t' s' cs hid
    obtain ⟨new, hsrc, h⟩ := Option.bind_eq_some_iff.1 h
    split at h
    · rename_i hc
      obtain ⟨hsz, rfl, hle, hok⟩ := hc
      obtain ⟨p, m, cap, vs, rfl, hnl, hvs, hp⟩ := src_ok hsrc hx hr
      have hdiv : new.length / i.size = m := by rw [hnl]; exact Nat.mul_div_cancel m hsz
      rw [hdiv] at h hok
      simp only [Option.some.injEq, Prod.mk.injEq] at h
      obtain ⟨rfl, rfl⟩ := h
      obtain ⟨b, c, o, cap', hL, rfl, hnc, ho⟩ := Qki hto hs
      have hvl : vs.length = m * i.size := by rw [hvs.length, hnl]
      have hf := Qm4 (P := P) hvl hp (min m n) (Nat.min_le_left _ _)
      have hmin : min m n * i.size <= n * i.size := Nat.mul_le_mul_right _ (Nat.min_le_right _ _)
      have hmin2 : min m n * i.size <= m * i.size := Nat.mul_le_mul_right _ (Nat.min_le_left _ _)
      have htl : (new.take (min m n * i.size)).length = min m n * i.size := by rw [List.length_take]; omega
      by_cases hn0 : n = 0
      · subst hn0
        have hst : (storeCells ⟨b, o, none⟩ ([] : List Value)).run P w = .ok () w := rfl
        refine ⟨.int .i64 0, w, ?_, by simp only [Rep]; simp, ?_, Later.refl⟩
        · simp [Builtin.copy_, ht0, run_underlying ht, Builtin.lenOf, sizeOf, typeInfo, hinf, goInt]
          have hf0 : (Builtin.firstCells i.size 0 (.slice p m cap)).run P w = .ok #[] w := by simpa using hf
          simp [hf0, hst]
        · simp only [Nat.min_zero, Nat.zero_mul, List.take_zero, List.append_nil, Nat.add_zero, List.take_append_drop]
          have : H.set id (.cells t' i.size cs) = H := by
            apply List.ext_getElem?
            intro k
            by_cases hk : id = k
            · subst hk; rw [List.getElem?_set_self (List.getElem?_eq_some_iff.1 hid).1, hid]
            · rw [List.getElem?_set_ne hk]
          rw [this]; exact hr
      · obtain rfl := ho (by omega)
        obtain ⟨w', k1, k2, k3⟩ := Jyq (P := P) hr hid hL o (hvs.take (min m n * i.size)) hok (by rw [htl]; omega)
        rw [htl] at k2
        refine ⟨.int .i64 (min m n : Nat), w', ?_, by simp only [Rep], k2, k3⟩
        simp [Builtin.copy_, ht0, run_underlying ht, Builtin.lenOf, sizeOf, typeInfo, hinf, goInt]
        have hf' : (Builtin.firstCells i.size (Nat.min m n) (.slice p m cap)).run P w = .ok (vs.take (min m n * i.size)).toArray w := hf
        simp [hf', k1]
    · cases h
  · cases h
theorem Jyl {t e : TypeId} {sz : Nat} {z : List D} (h : Ju2 P t = some (e, sz, z)) : ∃ i zv, P.underlying t = some (.slice e) /\ P.info? e = some i /\ i.zero = some zv /\ i.size = sz /\ zv.cells.size = sz /\ i.bytes <= 1000 /\ z = zv.cells.toList.map D.v := by
  unfold Ju2 at h
  split at h
  · rename_i e' hu
    obtain ⟨i, hi, h⟩ := Option.bind_eq_some_iff.1 h
    split at h
    · rename_i zv hz
      split at h
      · rename_i hc
        cases h
        exact ⟨i, zv, hu, hi, hz, rfl, hc.1, hc.2, rfl⟩
      · cases h
    · cases h
  · cases h
theorem Jve (z : Array Value) (n : Nat) : ((Array.range (n * z.size)).map (fun i => z[i % z.size]!)).toList = (List.replicate n z.toList).flatten := by
  simp only [Array.toList_map, Array.toList_range]
  induction n with
  | zero => simp
  | succ n ih =>
    rw [List.replicate_succ', List.flatten_append, <- ih, Nat.succ_mul, List.range_add, List.map_append]
    congr 1
    simp only [List.flatten_cons, List.flatten_nil, List.append_nil, List.map_map]
    apply List.ext_getElem
    · simp
    · intro i h1 h2
      have hi : i < z.size := by simpa using h2
      simp [Nat.add_mod, Nat.mod_eq_of_lt hi, hi]
theorem Jy5 {xs : List Value} : RepA S L w xs (xs.map D.v) := by
  induction xs with
  | nil => exact RepA.nil
  | cons x r ih => exact RepA.cons (by simp only [Rep]) ih
theorem Jy3 (z : Array Value) (n : Nat) : RepA S L w (List.replicate n z.toList).flatten (List.replicate n (z.toList.map D.v)).flatten := by
  have : (List.replicate n (z.toList.map D.v)).flatten = ((List.replicate n z.toList).flatten).map D.v := by
    rw [List.map_flatten, List.map_replicate]
  rw [this]; exact Jy5
theorem Qo2      {t e : TypeId} {sz : Nat} {z : List D} {x d : D} {v : Value} {H' : Heap} (hi : Ju2    P t = some (e, sz, z)) (h : Jpn    sz z x H = some (d, H')) (hx : Rep S L w v x) (hr : HRel B S L w H) (ts : Array TypeId) (ht0 : ts[0]? = some t) (ty : TypeId) :
    ∃ r w', (Builtin.clear_ ts ty #[v]).run P w = .ok r w' /\ Rep S L w' r d /\ HRel B S L w' H' /\ Later B S S L L w w' := by
  obtain ⟨i, zv, ht, hinf, hz, rfl, hzs, hby, rfl⟩ := Jyl hi
  unfold Jpn at h
  obtain ⟨⟨id, off, n⟩, hto, h⟩ := Option.bind_eq_some_iff.1 h
  simp only at h
  split at h
  · rename_i t' s' cs hid
    split at h
    · rename_i hc
      obtain ⟨rfl, hzl, hle, hok⟩ := hc
      simp only [Option.some.injEq, Prod.mk.injEq] at h
      obtain ⟨rfl, rfl⟩ := h
      obtain ⟨b, c, o, cap', hL, rfl, hnc, ho⟩ := Qki hto hx
      by_cases hn0 : n = 0
      · subst hn0
        refine ⟨.tuple #[], w, ?_, by simp only [Rep]; rfl, ?_, Later.refl⟩
        · simp [Builtin.clear_, ht0, run_underlying ht]
        · simp only [List.replicate_zero, List.flatten_nil, List.append_nil, Nat.zero_mul, Nat.add_zero, List.take_append_drop]
          have : H.set id (.cells t' i.size cs) = H := by
            apply List.ext_getElem?
            intro k
            by_cases hk : id = k
            · subst hk; rw [List.getElem?_set_self (List.getElem?_eq_some_iff.1 hid).1, hid]
            · rw [List.getElem?_set_ne hk]
          rw [this]; exact hr
      · obtain rfl := ho (by omega)
        have hfl : ((List.replicate n (zv.cells.toList.map D.v)).flatten).length = n * i.size := by simp [hzs]
        have hall : ((List.replicate n (zv.cells.toList.map D.v)).flatten).all Jcc = true := by
          rw [List.all_eq_true]
          intro y hy
          obtain ⟨l, hl, hyl⟩ := List.mem_flatten.1 hy
          rw [List.eq_of_mem_replicate hl] at hyl
          exact List.all_eq_true.1 hok y hyl
        obtain ⟨w', k1, k2, k3⟩ := Jyq (P := P) hr hid hL o (Jy3 zv.cells n) hall (by rw [hfl]; omega)
        rw [hfl] at k2
        refine ⟨.tuple #[], w', ?_, by simp only [Rep]; rfl, k2, k3⟩
        have hzc : (Builtin.zeroCells zv.cells n).toList = (List.replicate n zv.cells.toList).flatten := Jve zv.cells n
        obtain ⟨n', rfl⟩ : ∃ k, n = k + 1 := ⟨n - 1, by omega⟩
        simp [Builtin.clear_, ht0, run_underlying ht, zeroValue, typeInfo, hinf, hz, hzc, k1]
    · cases h
  · cases h
theorem Jw7     (hr : HRel B S L w H) {t : TypeId} {sz c : Nat} {cs : List D} {xs : List Value} {id : Nat} {H' : Heap} (h : newH t sz cs H = some (id, H')) (hx : RepA S L w xs cs) (hl : xs.length = c * sz) (hc : c ≤ maxLen) (cells : Array Value) (hcells : cells = xs.toArray) :
    ∃ L', L'[id]? = some (w.heap.size, c) /\ HRel B S L' (w.alloc (.cells cells t)) H' /\ Later B S S L L' w (w.alloc (.cells cells t)) := by
  subst hcells
  unfold newH at h
  split at h
  · rename_i hok
    cases h
    have hn := hr.new w rfl (Below.refl _ _) t sz c cs xs.toArray (by simpa using hl) hc (by simp [hx.length]) (fun j d hj => by
      obtain ⟨x, h1, h2⟩ := hx.get j d hj
      exact ⟨x, by simpa using h1, Jfa        (List.all_eq_true.1 hok d (List.mem_of_getElem? hj)) h2, h2⟩)
    exact ⟨_, by rw [<- hr.len]; simp, hn.1, hn.2⟩
  · cases h
theorem Qrp     {t e : TypeId} {sz : Nat} {z : List D} {n m d : D} {u v : Value} {H' : Heap} (hi : Ju2    P t = some (e, sz, z)) (h : Jzm   e sz z n m H = some (d, H')) (hn : Rep S L w u n) (hm : Rep S L w v m) (hr : HRel B S L w H) :
    ∃ r w' L', (Instr.makeSlice t u v).run P w = .ok r w' /\ Rep S L' w' r d /\ HRel B S L' w' H' /\ Later B S S L L' w w' := by
  obtain ⟨i, zv, ht, hinf, hz, rfl, hzs, hby, rfl⟩ := Jyl hi
  unfold Jzm at h
  split at h
  · rename_i k1 a k2 b
    split at h
    · rename_i hc
      obtain ⟨rfl, h0, hle, _⟩ := hc
      cases hw : newH e i.size (List.replicate a.toNat (zv.cells.toList.map D.v)).flatten H with
      | none => rw [hw] at h; cases h
      | some r =>
        rw [hw] at h
        obtain ⟨id, H2⟩ := r
        simp only [Option.map_some, Option.some.injEq, Prod.mk.injEq] at h
        obtain ⟨rfl, rfl⟩ := h
        simp only [Rep] at hn hm
        subst hn; subst hm
        have hrun := run_make (P := P) w t e i zv ht hinf hz k1 k2 a a h0 (Int.le_refl _) (by
          have h1 : (i.bytes : Int) <= 1000 := by omega
          have h2 : (i.bytes : Int) * a <= 1000 * 4000000 := Int.mul_le_mul h1 hle h0 (by omega)
          omega) (by omega)
        have hcells : (madeCells zv.cells (a.toNat * i.size)).toList = (List.replicate a.toNat zv.cells.toList).flatten := by
          rw [<- hzs]; exact Jve zv.cells a.toNat
        have hrep : RepA S L w (madeCells zv.cells (a.toNat * i.size)).toList (List.replicate a.toNat (zv.cells.toList.map D.v)).flatten := by rw [hcells]; exact Jy3 zv.cells a.toNat
        obtain ⟨L', q1, q2, q3⟩ := Jw7 hr hw hrep (c := a.toNat) (by rw [Array.length_toList, size_madeCells]) (by unfold maxLen; omega) (madeCells zv.cells (a.toNat * i.size)) (by simp)
        refine ⟨_, _, L', hrun, ?_, q2, q3⟩
        simp only [Rep]
        exact ⟨_, _, q1, Nat.le_refl _, rfl⟩
    · cases h
  · cases h
theorem Qi9 (s : ByteArray) : RepA S L w (strCells s) (bytesD s) := by
  have : bytesD s = (strCells s).map D.v := by simp [bytesD, strCells]
  rw [this]; exact Jy5
theorem Qle (s : ByteArray) : (bytesD s).all Jcc = true := by
  rw [List.all_eq_true]
  intro y hy
  obtain ⟨b, _, rfl⟩ := List.mem_map.1 hy
  rfl
theorem Jx6 (s : ByteArray) : (bytesD s).length = s.size := by
  rw [bytesD, List.length_map, Array.length_toList]; rfl
set_option maxHeartbeats 1000000 in
theorem Qh5        {t t2 e : TypeId} {sz : Nat} {s x d : D} {v u : Value} {H' : Heap} (hi : Jmo     P t = some (e, sz)) (hstr : P.underlying t2 = some .string) (h : Jye     e sz s x H = some (d, H')) (hs : Rep S L w v s) (hx : Rep S L w u x) (hr : HRel B S L w H) (ty : TypeId) :
    ∃ r w' L', (Builtin.append_ #[t, t2] ty #[v, u]).run P w = .ok r w' /\ Rep S L' w' r d /\ HRel B S L' w' H' /\ Later B S S L L' w w' := by
  obtain ⟨i, z, ht, hinf, hz, rfl, hzs, hby⟩ := Jtr hi
  unfold Jye at h
  split at h
  case h_2 => cases h
  rename_i str
  split at h
  case isFalse => cases h
  rename_i h1
  simp only [Rep] at hx
  subst hx
  have hbl := Jx6 str
  have hok := Qle str
  have hvs := Qi9 (S := S) (L := L) (w := w) str
  have hvl := strCells_length str
  have hone := strCells_oneCell str
  unfold appH at h
  split at h
  · cases h
  · rename_i hg
    have hdiv : (bytesD str).length / i.size = str.size := by rw [hbl, h1, Nat.div_one]
    split at h
    · -- onto nil
      simp only [Rep] at hs
      subst hs
      split at h
      · rename_i h0
        cases h
        have hm : str.size = 0 := by omega
        refine ⟨.slice none 0 0, w, L, ?_, by simp only [Rep], hr, Later.refl⟩
        have hf := run_firstCells_string (P := P) w i.size str
        rw [hm] at hf
        simp [Builtin.append_, run_underlying ht, run_underlying hstr, sizeOf, typeInfo, hinf, Builtin.lenOf, hf, hm]
      · rename_i h0
        split at h
        · rename_i hle
          cases h
          have hrun := run_append_nil_string (P := P) w t t2 ty e i z ht hstr hinf hz str (by omega) (by omega) (by
            have : str.size * i.bytes <= 4000000 * 1000 := Nat.mul_le_mul (by omega) hby
            omega)
          have hge := grownCap_ge w str.size 0 e
          have hcm := grownCap_le_maxLen w str.size 0 e (by unfold maxLen; omega)
          have hcellsE : (str.data.map (fun b => Value.int .u8 b.toNat) : Array Value) = (strCells str).toArray := by
            apply Array.ext'
            simp [strCells]
          rw [hcellsE] at hrun
          have hn := hr.new w.drew rfl ((Below.refl _ _).drew) e i.size (grownCap w str.size 0 e) (bytesD str) ((strCells str).toArray ++ Builtin.zeroCells z.cells (grownCap w str.size 0 e - str.size)) (by
            simp only [Array.size_append, List.size_toArray, size_zeroCells, hzs, hvl, h1]
            omega) hcm (by simp [hvs.length]) (fun j d hj => by
            have := Jrl (zs := Builtin.zeroCells z.cells (grownCap w str.size 0 e - str.size)) (RepA.nil (S := S) (L := L) (w := w)) hvs (by simp) hok j d (by simpa using hj)
            simpa using this)
          refine ⟨_, _, _, hrun, ?_, hn.1, hn.2⟩
          simp only [Rep]
          refine ⟨w.heap.size, grownCap w str.size 0 e, by rw [<- hr.len]; simp, by rw [hdiv]; exact hge, by rw [hdiv]⟩
        · cases h
    · -- onto a row
      rename_i id n
      simp only [Rep] at hs
      obtain ⟨b, c, hL, hnc, rfl⟩ := hs
      split at h
      · rename_i t' sz' cs hid
        split at h
        · rename_i hc
          obtain ⟨rfl, rfl, hcl, hle⟩ := hc
          cases h
          rw [hdiv]
          obtain ⟨arr, g1, g2, g3, g4, g5⟩ := Jdt hr hid hL
          have hone0 : ∀ (j : Nat) (d : D), cs[j]? = some d -> ∃ x, arr[j]? = some x /\ x.oneCell' = true /\ Rep S L w x d := by
            obtain ⟨b', c', arr', k1, k2, k3, k4, k5, k6, k7, k8⟩ := hr.live id _ _ cs hid
            rw [hL] at k1; cases k1
            rw [g1] at k4; cases k4
            exact k8
          have hcl' : cs.length = n := by rw [hcl, h1, Nat.mul_one]
          have hga : arr.size = c := by rw [g2, h1, Nat.mul_one]
          by_cases hroom : n + str.size <= c
          · have hfit : n + str.size <= arr.size := by omega
            have hrun := run_append_room_string (P := P) w t t2 ty t' i ht hstr hinf h1 b n c arr g1 str hroom hfit
            have hw := hr.write hid hL (arr.toList.take n ++ strCells str ++ arr.toList.drop (n + str.size)).toArray (cs ++ bytesD str) (by
              simp only [List.size_toArray, List.length_append, List.length_take, List.length_drop, Array.length_toList]; omega) (by
              simp only [List.size_toArray, List.length_append, List.length_take, List.length_drop, Array.length_toList]; omega) (by
              intro j d hj
              by_cases hjl : j < cs.length
              · rw [List.getElem?_append_left hjl] at hj
                obtain ⟨x, hx1, hx2, hx3⟩ := hone0 j d hj
                refine ⟨x, ?_, hx2, hx3⟩
                have hja : j < arr.size := by omega
                simp only [List.getElem?_toArray, List.append_assoc]
                rw [List.getElem?_append_left (by simp; omega), List.getElem?_take_of_lt (by omega)]
                simpa using hx1
              · rw [List.getElem?_append_right (by omega)] at hj
                obtain ⟨x, hx1, hx2⟩ := hvs.get _ d hj
                have hm := List.all_eq_true.1 hok d (List.mem_of_getElem? hj)
                refine ⟨x, ?_, Jfa hm hx2, hx2⟩
                have hlt := (List.getElem?_eq_some_iff.1 hx1).1
                simp only [List.getElem?_toArray, List.append_assoc]
                rw [List.getElem?_append_right (by simp; omega)]
                simp only [List.length_take, Array.length_toList]
                rw [List.getElem?_append_left (by omega), <- hx1]
                congr 1; omega)
            have hmv := hw.1.move (id := id) (o := .cells t' i.size (cs ++ bytesD str)) (by
              have hlt := (List.getElem?_eq_some_iff.1 hid).1
              rw [List.getElem?_set_self hlt]) (by intro e; cases e) hL
            rw [List.set_set] at hmv
            refine ⟨_, _, _, hrun, ?_, hmv.1, hw.2.trans hmv.2⟩
            simp only [Rep]
            exact ⟨b, c, by rw [<- hr.len]; simp, hroom, rfl⟩
          · have holds : ∀ (j : Nat) (v : Value), (arr.toList.take cs.length)[j]? = some v → w.cell? ((⟨b, 0, none⟩ : Addr).add j) = some v := by
              intro j v hj
              rw [addr_add, Nat.zero_add, cell_of_heap g1]
              have hlt := (List.getElem?_eq_some_iff.1 hj).1
              rw [List.getElem?_take_of_lt (by simp at hlt; omega)] at hj
              simpa using hj
            have hol : (arr.toList.take cs.length).length = n * i.size := by rw [g5.length, hcl]
            have hbound : n + str.size <= 4000000 := by omega
            have hrun := run_append_grow_string (P := P) w t t2 ty t' i z ht hstr hinf hz ⟨b, 0, none⟩ n c (arr.toList.take cs.length) hol holds str (by omega) (by omega) (growslice_fits (by omega) (Nat.le_trans (Nat.mul_le_mul hbound hby) (by decide)))
            have hge := grownCap_ge w (n + str.size) c t'
            have hcm := grownCap_le_maxLen w (n + str.size) c t' (by unfold maxLen; omega)
            have hn := (hr.kill id).new w.drew rfl ((Below.refl _ _).drew) t' i.size (grownCap w (n + str.size) c t') (cs ++ bytesD str) ((arr.toList.take cs.length).toArray ++ (strCells str).toArray ++ Builtin.zeroCells z.cells (grownCap w (n + str.size) c t' - (n + str.size))) (by
              simp only [Array.size_append, List.size_toArray, size_zeroCells, hzs, hol, hvl, h1, Nat.mul_one]
              omega) hcm (by
              have h1 := g5.length; have h2 := hvs.length
              simp only [Array.size_append, List.size_toArray, List.length_append]; omega) (by
              intro j d hj
              obtain ⟨x, hx1, hx2⟩ := (g5.append hvs).get j d hj
              have hlt := (List.getElem?_eq_some_iff.1 hx1).1
              have hx1' : ((arr.toList.take cs.length).toArray ++ (strCells str).toArray ++ Builtin.zeroCells z.cells (grownCap w (n + str.size) c t' - (n + str.size)))[j]? = some x := by
                rw [Array.getElem?_append_left (by simpa using hlt)]
                simpa using hx1
              refine ⟨x, hx1', ?_, hx2⟩
              by_cases hjl : j < cs.length
              · rw [List.getElem?_append_left hjl] at hj
                obtain ⟨y, hy1, hy2, _⟩ := hone0 j d hj
                have h1 := g5.length
                rw [List.getElem?_append_left (by omega), List.getElem?_take_of_lt (by omega)] at hx1
                have : y = x := by
                  have : arr[j]? = some x := by simpa using hx1
                  rw [hy1] at this; exact Option.some.inj this
                rw [<- this]; exact hy2
              · rw [List.getElem?_append_right (by omega)] at hj
                exact Jfa        (List.all_eq_true.1 hok d (List.mem_of_getElem? hj)) hx2)
            refine ⟨_, _, _, hrun, ?_, hn.1, hn.2⟩
            simp only [Rep]
            exact ⟨w.heap.size, grownCap w (n + str.size) c t', by rw [<- hr.len]; simp, hge, rfl⟩
        · cases h
      · cases h
    · cases h
end
end Go.Proofs.YtinnbafplhcnpaaGreat
end
section
namespace Go.Proofs.YtinnbafplhcnpaaGreat
open Go.RowKit
set_option linter.unusedVariables false
set_option linter.unusedSimpArgs false
section
variable {P : Program} {B : Nat} {S : Nat -> Prop} {L : List (Nat × Nat)} {w : World} {H : Heap}
theorem Qeu {t : TypeId} {s : Option Nat} {x d : D} {u : Value} (hs : shapeOf P t = some s) (h : Jad s H x = some d) (hu : Rep S L w u x) (hr : HRel B S L w H) : ∃ r, (Instr.loadAt t u).run P w = .ok r w /\ Rep S L w r d := by
  have lift : ∀ (b o : Nat) (cs : List D), RepC S L w b o cs -> Jqf s cs 0 = some d -> ∃ r, (Instr.loadAt t (.pointer (some ⟨b, o, none⟩))).run P w = .ok r w /\ Rep S L w r d := fun b o cs hc hp =>
    Qju (P := P) (t := t) (show Juv P t cs 0 = some d by unfold Juv; rw [hs]; exact hp) hc
  unfold Jad at h
  split at h
  · rename_i id off
    split at h
    · rename_i t' sz cs hid
      simp only [Rep] at hu
      obtain ⟨b, c, hL, rfl⟩ := hu
      obtain ⟨arr, h1, h2, h3, h4, h5⟩ := Jdt hr hid hL
      refine lift b off _ ?_ h
      have h6 : RepC S L w b 0 cs := RepC.of h5 fun j x hj => by
        have hlt := (List.getElem?_eq_some_iff.1 hj).1
        rw [Nat.zero_add, cell_of_heap h1]
        rw [List.getElem?_take_of_lt (by simp at hlt; omega)] at hj
        simpa using hj
      have := h6.drop off
      rwa [Nat.zero_add] at this
    · cases h
  · unfold loadD at h
    obtain ⟨cs, hp, h⟩ := Option.bind_eq_some_iff.1 h
    unfold Qje at hp
    split at hp
    · cases hp
      simp only [Rep] at hu
      obtain ⟨b, o, rfl, hb, hc⟩ := hu
      obtain ⟨r, q1, q2⟩ := Qju (P := P) (t := t) (show Juv P t cs 0 = some d by unfold Juv; rw [hs]; exact h) hc
      exact ⟨r, q1, q2.lift⟩
    · cases hp
theorem Qiq       {t : TypeId} {i : TypeInfo} {x v : D} {u y : Value} {H' : Heap} (hi : P.info? t = some i) (h : Jhz    i.size x v H = some H') (hu : Rep S L w u x) (hv : Rep S L w y v) (hr : HRel B S L w H) :
    ∃ w', (Instr.storeAt t u y).run P w = .ok () w' /\ HRel B S L w' H' /\ Later B S S L L w w' := by
  unfold Jhz at h
  split at h
  · rename_i id off ds hds
    split at h
    · rename_i t' sz cs hid
      split at h
      · rename_i hc
        obtain ⟨hl, hle, hok⟩ := hc
        cases h
        simp only [Rep] at hu
        obtain ⟨b, c, hL, rfl⟩ := hu
        obtain ⟨ys, hy1, hy2⟩ := Jt0 hds hv
        obtain ⟨arr, g1, g2, g3, g4, g5⟩ := Jdt hr hid hL
        have hyl := hy2.length
        have hone := cells_one hy2 hok
        have hone0 : ∀ (j : Nat) (d : D), cs[j]? = some d -> ∃ x, arr[j]? = some x /\ x.oneCell' = true /\ Rep S L w x d := by
          obtain ⟨b', c', arr', k1, k2, k3, k4, k5, k6, k7, k8⟩ := hr.live id _ _ cs hid
          rw [hL] at k1; cases k1
          rw [g1] at k4; cases k4
          exact k8
        have hst := run_storeCells_at P b off t' ys 0 arr w g1 (by omega) hone
        simp only [Nat.add_zero] at hst
        have hw := hr.write hid hL (arr.toList.take off ++ ys ++ arr.toList.drop (off + ys.length)).toArray (cs.take off ++ ds ++ cs.drop (off + ds.length)) (by
          simp only [List.size_toArray, List.length_append, List.length_take, List.length_drop, Array.length_toList]; omega) (by
          simp only [List.size_toArray, List.length_append, List.length_take, List.length_drop, Array.length_toList]; omega) (by
          intro j d hj
          by_cases h1 : j < off
          · rw [List.append_assoc, List.getElem?_append_left (by simp; omega), List.getElem?_take_of_lt h1] at hj
            obtain ⟨x, q1, q2, q3⟩ := hone0 j d hj
            refine ⟨x, ?_, q2, q3⟩
            simp only [List.getElem?_toArray, List.append_assoc]
            rw [List.getElem?_append_left (by simp; omega), List.getElem?_take_of_lt h1]
            simpa using q1
          · by_cases h2 : j < off + ds.length
            · rw [List.append_assoc, List.getElem?_append_right (by simp; omega), List.getElem?_append_left (by simp; omega)] at hj
              obtain ⟨x, q1, q2⟩ := hy2.get _ d hj
              refine ⟨x, ?_, Jfa (List.all_eq_true.1 hok d (List.mem_of_getElem? hj)) q2, q2⟩
              simp only [List.getElem?_toArray, List.append_assoc]
              rw [List.getElem?_append_right (by simp; omega), List.getElem?_append_left (by simp; omega), <- q1]
              congr 1
              simp; omega
            · rw [List.getElem?_append_right (by simp; omega), List.getElem?_drop] at hj
              obtain ⟨x, q1, q2, q3⟩ := hone0 _ d hj
              refine ⟨x, ?_, q2, q3⟩
              simp only [List.getElem?_toArray]
              rw [List.getElem?_append_right (by simp; omega), List.getElem?_drop, Array.getElem?_toList, <- q1]
              congr 1
              simp; omega)
        refine ⟨_, ?_, hw.1, hw.2⟩
        have hsz : y.cells.size = i.size := by rw [hy1]; simp; omega
        simp [Instr.storeAt, Instr.sureAddr, storeVar, Jc1 hi, hsz, hy1, hst]
        rw [hy1] at hsz
        simp at hsz
        simp [hsz]
      · cases h
    · cases h
  · cases h
theorem Qrz {t : TypeId} {sz : Nat} {x i d : D} {v u : Value} (ht : Jkj P t = some sz) (h : idxH sz x i = some d) (hv : Rep S L w v x) (hu : Rep S L w u i) : ∃ r, (Instr.indexAt t v u).run P w = .ok r w /\ Rep S L w r d := by
  unfold idxH at h
  split at h
  · rename_i id n
    obtain ⟨k, hk, h⟩ := Option.bind_eq_some_iff.1 h
    split at h
    · rename_i hlt
      cases h
      obtain ⟨e, inf, h1, h2, h3⟩ := Ji3 ht
      obtain ⟨kd, rfl⟩ := Jqh hk hu
      simp only [Rep] at hv
      obtain ⟨b, c, hL, hnc, rfl⟩ := hv
      refine ⟨.pointer (some ⟨b, 0 + k * sz, none⟩), ?_, ?_⟩
      · simp [Instr.indexAt, asIntOf, run_underlying h1, hlt, Jc1 h2, h3, addr_add]
      · simp only [Rep]; exact ⟨b, c, hL, by simp⟩
    · cases h
  · rename_i id off n
    obtain ⟨k, hk, h⟩ := Option.bind_eq_some_iff.1 h
    split at h
    · rename_i hlt
      cases h
      obtain ⟨e, inf, h1, h2, h3⟩ := Ji3 ht
      obtain ⟨kd, rfl⟩ := Jqh hk hu
      simp only [Rep] at hv
      obtain ⟨b, c, o, cap, hL, rfl, hnc, ho⟩ := hv
      obtain rfl := ho (by omega)
      refine ⟨.pointer (some ⟨b, o + k * sz, none⟩), ?_, ?_⟩
      · simp [Instr.indexAt, asIntOf, run_underlying h1, hlt, Jc1 h2, h3, addr_add]
      · simp only [Rep]; exact ⟨b, c, hL, rfl⟩
    · cases h
  · exact Qob ht h hv hu
theorem Qr0 {t : TypeId} {a : Nat × Nat} {x i d : D} {v u : Value} (ht : arrD P t = some a) (h : idxA a.1 a.2 x i = some d) (hv : Rep S L w v x) (hu : Rep S L w u i) : ∃ r, (Instr.indexAt t v u).run P w = .ok r w /\ Rep S L w r d := by
  unfold arrD at ht
  split at ht
  · rename_i n e h1
    obtain ⟨inf, h2, rfl⟩ := Option.map_eq_some_iff.1 ht
    unfold idxA at h
    split at h
    · rename_i id off
      obtain ⟨k, hk, h⟩ := Option.bind_eq_some_iff.1 h
      split at h
      · rename_i hlt
        cases h
        obtain ⟨kd, rfl⟩ := Jqh hk hu
        simp only [Rep] at hv
        obtain ⟨b, c, hL, rfl⟩ := hv
        refine ⟨.pointer (some ⟨b, off + k * inf.size, none⟩), ?_, ?_⟩
        · simp only at hlt
          simp [Instr.indexAt, asIntOf, run_underlying h1, Instr.sureAddr, hlt, Jc1 h2, addr_add]
        · simp only [Rep]; exact ⟨b, c, hL, rfl⟩
      · cases h
    · cases h
  · cases ht
theorem Qso     {t : TypeId} {sz : Nat} {x d : D} {v : Value} {lo hi : Option D} {u1 u2 : Option Value} (ht : Jkj    P t = some sz) (h : cutH sz x lo hi = some d) (hv : Rep S L w v x)
    (hu : Jps S L w u1 lo) (hu' : Jps S L w u2 hi) : ∃ r, (Instr.sliceAt t v u1 u2 none).run P w = .ok r w /\ Rep S L w r d := by
  unfold cutH at h
  split at h
  · rename_i id n
    split at h
    · rename_i l k hl hk
      split at h
      · rename_i hc
        obtain ⟨rfl, hkn⟩ := hc
        cases h
        obtain ⟨e, inf, h1, h2, h3⟩ := Ji3 ht
        simp only [Rep] at hv
        obtain ⟨b, c, hL, hnc, rfl⟩ := hv
        have := Jkm (P := P) (w := w) (fl := true) (n := n) (cap := c) hl hk (Nat.zero_le _) (by omega) hu hu'
        refine ⟨.slice (some ⟨b, 0, none⟩) k c, ?_, ?_⟩
        · have e1 : (if c = 0 then (some ⟨b, 0, none⟩ : Option Addr) else some ⟨b, 0, none⟩) = some ⟨b, 0, none⟩ := by split <;> rfl
          simp [Instr.sliceAt, Instr.slice, run_underlying h1, this, Jc1 h2, h3, addr_add, e1]
        · simp only [Rep]; exact ⟨b, c, hL, by omega, rfl⟩
      · split at h
        · rename_i hc
          obtain ⟨hlk, hkn⟩ := hc
          cases h
          obtain ⟨e, inf, h1, h2, h3⟩ := Ji3 ht
          simp only [Rep] at hv
          obtain ⟨b, c, hL, hnc, rfl⟩ := hv
          have := Jkm (P := P) (w := w) (fl := true) (n := n) (cap := c) hl hk hlk (by omega) hu hu'
          refine ⟨.slice (some ⟨b, if c = l then 0 else 0 + l * sz, none⟩) (k - l) (c - l), ?_, ?_⟩
          · have e1 : (if c = l then (some ⟨b, 0, none⟩ : Option Addr) else some ⟨b, 0 + l * sz, none⟩) = some ⟨b, if c = l then 0 else 0 + l * sz, none⟩ := by split <;> rfl
            simp [Instr.sliceAt, Instr.slice, run_underlying h1, this, Jc1 h2, h3, addr_add]
            split <;> rfl
          · simp only [Rep]
            refine ⟨b, c, _, _, hL, rfl, by omega, fun hp => ?_⟩
            rw [if_neg (by omega), Nat.zero_add]
        · cases h
    · cases h
  · rename_i id off n
    split at h
    · rename_i l k hl hk
      split at h
      · rename_i hc
        obtain ⟨hlk, hkn⟩ := hc
        cases h
        obtain ⟨e, inf, h1, h2, h3⟩ := Ji3 ht
        simp only [Rep] at hv
        obtain ⟨b, c, o, cap, hL, rfl, hnc, ho⟩ := hv
        have := Jkm (P := P) (w := w) (fl := true) (n := n) (cap := cap) hl hk hlk (by omega) hu hu'
        refine ⟨.slice (some ⟨b, if cap = l then o else o + l * sz, none⟩) (k - l) (cap - l), ?_, ?_⟩
        · simp [Instr.sliceAt, Instr.slice, run_underlying h1, this, Jc1 h2, h3, addr_add]
          split <;> rfl
        · simp only [Rep]
          refine ⟨b, c, _, _, hL, rfl, by omega, fun hp => ?_⟩
          rw [if_neg (by omega), ho (by omega)]
      · cases h
    · cases h
  · exact cut_ok ht h hv hu hu'
theorem Qrt {t : TypeId} {x d : D} {v : Value} (h : lenH (kindOf P t) x = some d) (hv : Rep S L w v x) (ts : Array TypeId) (ht : ts[0]? = some t) (ty : TypeId) : ∃ r, (Builtin.len_ ts ty #[v]).run P w = .ok r w /\ Rep S L w r d := by
  unfold lenH at h
  split at h
  · rename_i k id n hk
    obtain ⟨e, hu⟩ := Jqk hk
    cases h
    simp only [Rep] at hv
    obtain ⟨b, c, hL, hnc, rfl⟩ := hv
    exact ⟨_, by simp [Builtin.len_, ht, run_underlying hu]; rfl, by simp only [Rep]; rfl⟩
  · rename_i k id off n hk
    obtain ⟨e, hu⟩ := Jqk hk
    cases h
    simp only [Rep] at hv
    obtain ⟨b, c, o, cap, hL, rfl, hnc, ho⟩ := hv
    exact ⟨_, by simp [Builtin.len_, ht, run_underlying hu]; rfl, by simp only [Rep]; rfl⟩
  · exact len_ok h hv ts ht ty
theorem Qc2 {t u : TypeId} {f off : Nat} {x d : D} {v : Value} {inf : TypeInfo} (hf : fldD P t f = some (u, off)) (hi : P.info? u = some inf) (hsz : ¬ inf.size = 0) (h : Jaa off x = some d) (hv : Rep S L w v x) : ∃ r, (Instr.fieldAt t v f).run P w = .ok r w /\ Rep S L w r d := by
  unfold fldD at hf
  split at hf
  · rename_i fs hu
    cases hfi : fs[f]? with
    | none => rw [hfi] at hf; cases hf
    | some fl =>
      rw [hfi] at hf
      simp only [Option.map_some, Option.some.injEq, Prod.mk.injEq] at hf
      obtain ⟨rfl, rfl⟩ := hf
      unfold Jaa at h
      split at h
      · rename_i id o
        cases h
        simp only [Rep] at hv
        obtain ⟨b, c, hL, rfl⟩ := hv
        refine ⟨.pointer (some ⟨b, o + fl.offset, none⟩), ?_, ?_⟩
        · simp [Instr.fieldAt, run_underlying hu, hfi, Instr.sureAddr, fieldPlace, Jc1 hi, hsz, addr_add]
        · simp only [Rep]; exact ⟨b, c, hL, rfl⟩
      · unfold Qfk at h
        cases hx : Qje x with
        | none => rw [hx] at h; cases h
        | some cs =>
          rw [hx] at h
          simp only [Option.map_some, Option.some.injEq] at h
          subst h
          unfold Qje at hx
          split at hx
          · cases hx
            simp only [Rep] at hv
            obtain ⟨b, o, rfl, hb, h2⟩ := hv
            refine ⟨.pointer (some ⟨b, o + fl.offset, none⟩), ?_, ?_⟩
            · simp [Instr.fieldAt, run_underlying hu, hfi, Instr.sureAddr, fieldPlace, Jc1 hi, hsz, addr_add]
            · simp only [Rep]; exact ⟨b, _, rfl, hb, h2.drop _⟩
          · cases hx
  · cases hf
set_option maxHeartbeats 2000000 in
theorem opH_ok {o : Oper} {d : D} {H' : Heap} {ρv : Operand → Value} {ρd : Operand → D} (h : opH P o.op ρd H = some (d, H')) (hρ : ∀ x, Rep S L w (ρv x) (ρd x)) (hr : HRel B S L w H) :
    ∃ x w' L', ((execOp ρv o).run P w = .ok (.value x) w' \/ ((execOp ρv o).run P w = .ok .skip w' /\ x = undef)) /\ Rep S L' w' x d /\ HRel B S L' w' H' /\ Later B S S L L' w w' := by
  obtain ⟨dst, op, type, pos, after, guard⟩ := o
  simp only at h
  have quiet : ∀ {s : Sem Value} {od : Option D}, same H od = some (d, H') → (∀ d, od = some d → ∃ r, s.run P w = .ok r w ∧ Rep S L w r d) →
      ∃ x w' L', ((do pure (.value (<- s)) : Sem Next).run P w = .ok (.value x) w' \/ ((do pure (.value (<- s)) : Sem Next).run P w = .ok .skip w' /\ x = undef)) /\ Rep S L' w' x d /\ HRel B S L' w' H' /\ Later B S S L L' w w' := by
    intro s od hs hall
    unfold same at hs
    cases od with
    | none => cases hs
    | some d' =>
      simp only [Option.map_some, Option.some.injEq, Prod.mk.injEq] at hs
      obtain ⟨rfl, rfl⟩ := hs
      obtain ⟨r, h1, h2⟩ := hall d' rfl
      exact ⟨r, w, L, .inl (by simp [h1]), h2, hr, Later.refl⟩
  unfold opH at h
  split at h
  · rename_i x
    cases h
    exact ⟨_, w, L, .inl rfl, hρ x, hr, Later.refl⟩
  · rename_i x
    cases h
    exact ⟨_, w, L, .inl rfl, hρ x, hr, Later.refl⟩
  · -- pick
    rename_i c a b
    unfold same Qnn at h
    cases hb : Qaz (ρd c) with
    | none => rw [hb] at h; cases h
    | some t =>
      rw [hb] at h
      simp only [Option.map_some, Option.some.injEq, Prod.mk.injEq] at h
      obtain ⟨rfl, rfl⟩ := h
      have hc := Qfy hb (hρ c)
      refine ⟨_, w, L, .inl (by simp [execOp, hc, asBool]; rfl), ?_, hr, Later.refl⟩
      cases t
      · exact hρ b
      · exact hρ a
  · -- load
    rename_i t a
    obtain ⟨s, hs, h⟩ := Option.bind_eq_some_iff.1 h
    exact quiet h fun d hd => Qeu hs hd (hρ a) hr
  · -- box
    rename_i t x
    unfold boxH at h
    obtain ⟨cs, hc, h⟩ := Option.bind_eq_some_iff.1 h
    cases hn : newH t cs.length cs H with
    | none => rw [hn] at h; cases h
    | some r =>
      rw [hn] at h
      obtain ⟨id, H2⟩ := r
      simp only [Option.map_some, Option.some.injEq, Prod.mk.injEq] at h
      obtain ⟨rfl, rfl⟩ := h
      obtain ⟨xs, h1, h2⟩ := Jt0 hc (hρ x)
      obtain ⟨L', q1, q2, q3⟩ := Jw7 hr hn h2 (c := 1) (by rw [h2.length]; simp) (by decide) _ h1
      exact ⟨.pointer (some ⟨w.heap.size, 0, none⟩), _, L', .inl (by simp [execOp, Instr.box, newVar, newRow]), by simp only [Rep]; exact ⟨_, _, q1, rfl⟩, q2, q3⟩
  · -- alloc
    rename_i t
    obtain ⟨z, hz, h⟩ := Option.bind_eq_some_iff.1 h
    unfold Jaz at h
    cases hn : newH t z.length z H with
    | none => rw [hn] at h; cases h
    | some r =>
      rw [hn] at h
      obtain ⟨id, H2⟩ := r
      simp only [Option.map_some, Option.some.injEq, Prod.mk.injEq] at h
      obtain ⟨rfl, rfl⟩ := h
      obtain ⟨i, zv, z1, z2, z3, z4⟩ := Jrw (S := S) (L := L) (w := w) hz
      obtain ⟨L', q1, q2, q3⟩ := Jw7 hr hn z4 (c := 1) (by rw [z4.length]; simp) (by decide) zv.cells (by simp)
      exact ⟨.pointer (some ⟨w.heap.size, 0, none⟩), _, L', .inl (by simp [execOp, Instr.alloc, zeroValue, typeInfo, z1, z2, newVar, newRow]), by simp only [Rep]; exact ⟨_, _, q1, rfl⟩, q2, q3⟩
  · -- store
    rename_i t a x
    obtain ⟨i, hi, h⟩ := Option.bind_eq_some_iff.1 h
    unfold setH at h
    cases hs : Jhz i.size (ρd a) (ρd x) H with
    | none => rw [hs] at h; cases h
    | some H2 =>
      rw [hs] at h
      simp only [Option.map_some, Option.some.injEq, Prod.mk.injEq] at h
      obtain ⟨rfl, rfl⟩ := h
      obtain ⟨w', h1, h2, h3⟩ := Qiq hi hs (hρ a) (hρ x) hr
      exact ⟨undef, w', L, .inr ⟨by simp [execOp, h1], rfl⟩, by simp only [Rep], h2, h3⟩
  · -- field
    rename_i t x f
    obtain ⟨⟨u, off⟩, hf, h⟩ := Option.bind_eq_some_iff.1 h
    obtain ⟨sh, hsh, h⟩ := Option.bind_eq_some_iff.1 h
    simp only at hsh h
    refine quiet h fun d hd => ?_
    unfold Jln at hd
    obtain ⟨cs, hx, hd⟩ := Option.bind_eq_some_iff.1 hd
    have hxr := hρ x
    unfold aggOf at hx
    split at hx
    · rename_i cs' hcs
      cases hx
      rw [hcs] at hxr
      simp only [Rep] at hxr
      obtain ⟨xs, h1, h2⟩ := hxr
      unfold fldD at hf
      split at hf
      · rename_i fs hu
        cases hfi : fs[f]? with
        | none => rw [hfi] at hf; cases hf
        | some fl =>
          rw [hfi] at hf
          simp only [Option.map_some, Option.some.injEq, Prod.mk.injEq] at hf
          obtain ⟨rfl, rfl⟩ := hf
          obtain ⟨r, h3, h4⟩ := Qrb (P := P) (t := fl.type) (show Juv P fl.type cs fl.offset = some d by unfold Juv; rw [hsh]; exact hd) h2
          refine ⟨r, ?_, h4⟩
          simp [Instr.field, run_underlying hu, hfi, h1, asAgg, h3]
      · cases hf
    · cases hx
  · -- fieldAddr
    rename_i t x f
    obtain ⟨⟨u, off⟩, hf, h⟩ := Option.bind_eq_some_iff.1 h
    obtain ⟨inf, hi, h⟩ := Option.bind_eq_some_iff.1 h
    simp only at hi h
    split at h
    · cases h
    · rename_i hsz
      exact quiet h fun d hd => Qc2 hf hi hsz hd (hρ x)
  · -- indexAddr
    rename_i t x i
    split at h
    · rename_i a ha
      exact quiet h fun d hd => Qr0 ha hd (hρ x) (hρ i)
    · obtain ⟨sz, hs, h⟩ := Option.bind_eq_some_iff.1 h
      exact quiet h fun d hd => Qrz hs hd (hρ x) (hρ i)
  · -- slice
    rename_i t x lo hi
    split at h
    · rename_i ht
      exact quiet h fun d hd => Qsn ht hd (hρ x) (Jm8 hρ lo) (Jm8 hρ hi)
    · obtain ⟨sz, hs, h⟩ := Option.bind_eq_some_iff.1 h
      exact quiet h fun d hd => Qso hs hd (hρ x) (Jm8 hρ lo) (Jm8 hρ hi)
  · -- build
    rename_i t ps
    exact quiet h fun d hd => Qo8 hρ ps hd
  · -- buildSlice
    rename_i t n ps
    obtain ⟨⟨e, sz, z⟩, hi, h⟩ := Option.bind_eq_some_iff.1 h
    simp only [rowH] at h
    obtain ⟨dr, hrow, h⟩ := Option.bind_eq_some_iff.1 h
    obtain ⟨els, he, h⟩ := Option.bind_eq_some_iff.1 h
    cases hn : newH e sz els.flatten H with
    | none => rw [hn] at h; cases h
    | some r =>
      rw [hn] at h
      obtain ⟨id, H2⟩ := r
      simp only [Option.map_some, Option.some.injEq, Prod.mk.injEq] at h
      obtain ⟨rfl, rfl⟩ := h
      obtain ⟨ys, h1, h2, h3, h4, h5⟩ := Qi3 hρ n ps hi hrow he
      obtain ⟨L', q1, q2, q3⟩ := Jw7 hr hn h2 (c := n) (by rw [h2.length, h3]) (by unfold maxLen; omega) _ rfl
      exact ⟨.slice (some ⟨w.heap.size, 0, none⟩) n n, _, L', .inl (by simp [execOp, h1]), by simp only [Rep]; exact ⟨_, _, q1, Nat.le_refl _, rfl⟩, q2, q3⟩
  · -- binOp
    rename_i op t x y ty
    exact quiet h fun d hd => Qsw x y hd (hρ x) (hρ y)
  · -- not
    rename_i t x
    refine quiet h fun d hd => ?_
    unfold notD at hd
    cases hb : Qaz (ρd x) with
    | none => rw [hb] at hd; cases hd
    | some b =>
      rw [hb] at hd
      simp only [Option.map_some, Option.some.injEq] at hd
      subst hd
      have hx := Qfy hb (hρ x)
      exact ⟨.bool !b, by rw [hx]; rfl, by simp only [Rep]⟩
  · -- neg
    rename_i t x
    refine quiet h fun d hd => ?_
    have hx := hρ x
    unfold negD at hd
    split at hd
    · rename_i k n hn
      cases hd
      rw [hn] at hx
      simp only [Rep] at hx
      exact ⟨_, by rw [hx]; rfl, by simp only [Rep]⟩
    · cases hd
  · -- xor
    rename_i t x
    refine quiet h fun d hd => ?_
    have hx := hρ x
    unfold xorD at hd
    split at hd
    · rename_i k n hn
      rw [hn] at hx
      simp only [Rep] at hx
      simp only [intD, Option.some.injEq] at hd
      subst hd
      exact ⟨_, by rw [hx]; rfl, by simp only [Rep]⟩
    · cases hd
  · -- makeSlice
    rename_i t n m
    obtain ⟨⟨e, sz, z⟩, hi, h⟩ := Option.bind_eq_some_iff.1 h
    obtain ⟨r, w', L', h1, h2, h3, h4⟩ := Qrp hi h (hρ n) (hρ m) hr
    exact ⟨r, w', L', .inl (by simp [execOp, h1]), h2, h3, h4⟩
  · -- convert
    rename_i s t x
    split at h
    · rename_i k1 k2 h1 h2
      refine quiet h fun d hd => ?_
      have hx := hρ x
      unfold Jmk at hd
      split at hd
      · rename_i k n hn
        cases hd
        rw [hn] at hx
        simp only [Rep] at hx
        refine ⟨_, ?_, by simp only [Rep]; rfl⟩
        simp [convert, run_underlying h1, run_underlying h2, hx, Conv.intToInt]
      · cases hd
    · rename_i e h1 h2
      split at h
      · rename_i h3
        exact quiet h fun d hd => Qld h1 h3 h2 hd (hρ x) hr
      · cases h
    · rename_i h1 h2
      refine quiet h fun d hd => ?_
      cases hs : strOf (ρd x) with
      | none => rw [hs] at hd; cases hd
      | some sv =>
        rw [hs] at hd
        simp only [Option.map_some, Option.some.injEq] at hd
        subst hd
        have hx := Jwk hs (hρ x)
        exact ⟨.string sv, by simp [convert, run_underlying h1, run_underlying h2, hx], by simp only [Rep]⟩
    · cases h
  · -- index
    rename_i t x i
    split at h
    · rename_i ht
      exact quiet h fun d hd => Qry ht hd (hρ x) (hρ i)
    · cases h
  · -- makeMap
    rename_i t
    split at h
    · obtain ⟨r, w', L', h1, h2, h3, h4⟩ := Qrn (P := P) t h hr
      exact ⟨r, w', L', .inl (by simp [execOp, h1]), h2, h3, h4⟩
    · cases h
  · -- mapUpdate
    rename_i t m k x
    obtain ⟨e, he, h⟩ := Option.bind_eq_some_iff.1 h
    obtain ⟨rfl, w', h1, h2, h3⟩ := Qp6 he h (hρ m) (hρ k) (hρ x) hr
    exact ⟨undef, w', L, .inr ⟨by simp [execOp, h1], rfl⟩, by simp only [Rep], h2, h3⟩
  · -- insert
    rename_i t m k x
    obtain ⟨e, he, h⟩ := Option.bind_eq_some_iff.1 h
    obtain ⟨rfl, w', h1, h2, h3⟩ := Qp6 he h (hρ m) (hρ k) (hρ x) hr
    exact ⟨undef, w', L, .inr ⟨by simp [execOp, h1], rfl⟩, by simp only [Rep], h2, h3⟩
  · -- lookup
    rename_i t m k ok
    obtain ⟨e, he, h⟩ := Option.bind_eq_some_iff.1 h
    obtain ⟨z, hz, h⟩ := Option.bind_eq_some_iff.1 h
    exact quiet h fun d hd => Qcu he hz hd (hρ m) (hρ k) hr
  · -- typeAssert
    rename_i x xt u ok
    split at h
    · rename_i hc
      obtain ⟨z, hz, h⟩ := Option.bind_eq_some_iff.1 h
      exact quiet h fun d hd => Qli hc hz hd (hρ x)
    · cases h
  · -- extract
    rename_i t i
    refine quiet h fun d hd => ?_
    unfold Jat at hd
    obtain ⟨ds, hds, hd⟩ := Option.bind_eq_some_iff.1 hd
    have ht := hρ t
    unfold Jup at hds
    split at hds
    · rename_i ds' he
      cases hds
      rw [he] at ht
      simp only [Rep] at ht
      obtain ⟨xs, h1, h2⟩ := ht
      obtain ⟨x, h3, h4⟩ := h2.get i d hd
      exact ⟨x, by simp [Instr.extract, h1, h3], h4⟩
    · cases hds
  · -- makeInterface
    rename_i t x
    have hconc : P.concrete t = true /\ d = .ifc t (ρd x) /\ H' = H := by
      unfold Program.concrete
      split at h
      · cases h
      · cases h
      · rename_i hn1 hn2
        cases h
        refine ⟨?_, rfl, rfl⟩
        split
        · rename_i ms he; exact absurd he (hn1 ms)
        · rename_i he; exact absurd he hn2
        · rfl
    obtain ⟨hc, rfl, rfl⟩ := hconc
    exact ⟨.iface t (ρv x), w, L, .inl (by simp [execOp, run_makeInterface w t (ρv x) hc]), by simp only [Rep]; exact ⟨_, rfl, hρ x⟩, hr, Later.refl⟩
  · -- makeFunc
    rename_i f a b
    cases h
    refine ⟨.func f (a.map ρv) (b.map ρv), w, L, .inl (by simp [execOp, Instr.makeFunc]), ?_, hr, Later.refl⟩
    simp only [Rep]
    exact ⟨a.toList.map ρv, b.toList.map ρv, by congr 1 <;> (apply Array.ext'; simp), RepA.ops hρ a.toList, RepA.ops hρ b.toList⟩
  · -- nilCheck
    rename_i x
    have hx := hρ x
    split at h
    · rename_i i o he
      cases h
      rw [he] at hx
      have hx' := hx
      simp only [Rep] at hx
      obtain ⟨b, c, hL, e⟩ := hx
      exact ⟨ρv x, w, L, .inl (by simp [execOp, e]), hx', hr, Later.refl⟩
    · rename_i cs he
      cases h
      rw [he] at hx
      have hx' := hx
      simp only [Rep] at hx
      obtain ⟨b, o, e, _⟩ := hx
      exact ⟨ρv x, w, L, .inl (by simp [execOp, e]), hx', hr, Later.refl⟩
    · cases h
  · -- len
    rename_i args ats
    split at h
    · rename_i x t r e1 e2
      have ha : args = #[x] := by rw [<- Array.toArray_toList (xs := args), e1]
      subst ha
      have ht : ats[0]? = some t := by rw [<- Array.getElem?_toList, e2]; rfl
      have := quiet (s := Builtin.len_ ats type #[ρv x]) h fun d hd => Qrt hd (hρ x) ats ht type
      simpa [execOp, resolve, invoke, builtin] using this
    · cases h
  · -- append
    rename_i args ats
    split at h
    · rename_i s x t t' e1 e2
      split at h
      · rename_i htt
        subst htt
        obtain ⟨⟨e, sz⟩, hi, h⟩ := Option.bind_eq_some_iff.1 h
        have ha : args = #[s, x] := by rw [<- Array.toArray_toList (xs := args), e1]
        have hb : ats = #[t, t] := by rw [<- Array.toArray_toList (xs := ats), e2]
        subst ha; subst hb
        obtain ⟨r, w', L', h1, h2, h3, h4⟩ := Qlm hi h (hρ s) (hρ x) hr type
        exact ⟨r, w', L', .inl (by simp [execOp, resolve, invoke, builtin, h1]), h2, h3, h4⟩
      · split at h
        · rename_i hstr
          obtain ⟨⟨e, sz⟩, hi, h⟩ := Option.bind_eq_some_iff.1 h
          have ha : args = #[s, x] := by rw [<- Array.toArray_toList (xs := args), e1]
          have hb : ats = #[t, t'] := by rw [<- Array.toArray_toList (xs := ats), e2]
          subst ha; subst hb
          obtain ⟨r, w', L', h1, h2, h3, h4⟩ := Qh5 hi hstr h (hρ s) (hρ x) hr type
          exact ⟨r, w', L', .inl (by simp [execOp, resolve, invoke, builtin, h1]), h2, h3, h4⟩
        · cases h
    · cases h
  · -- copy
    rename_i args ats
    split at h
    · rename_i s x t r e1 e2
      obtain ⟨⟨e, sz⟩, hi, h⟩ := Option.bind_eq_some_iff.1 h
      have ha : args = #[s, x] := by rw [<- Array.toArray_toList (xs := args), e1]
      have hb : ats[0]? = some t := by rw [<- Array.getElem?_toList, e2]; rfl
      subst ha
      obtain ⟨v, w', h1, h2, h3, h4⟩ := Qsp hi h (hρ s) (hρ x) hr ats hb type
      exact ⟨v, w', L, .inl (by simp [execOp, resolve, invoke, builtin, h1]), h2, h3, h4⟩
    · cases h
  · -- clear
    rename_i args ats
    split at h
    · rename_i x t r e1 e2
      obtain ⟨⟨e, sz, z⟩, hi, h⟩ := Option.bind_eq_some_iff.1 h
      have ha : args = #[x] := by rw [<- Array.toArray_toList (xs := args), e1]
      have hb : ats[0]? = some t := by rw [<- Array.getElem?_toList, e2]; rfl
      subst ha
      obtain ⟨v, w', h1, h2, h3, h4⟩ := Qo2 hi h (hρ x) hr ats hb type
      exact ⟨v, w', L, .inl (by simp [execOp, resolve, invoke, builtin, h1]), h2, h3, h4⟩
    · cases h
  · -- max
    rename_i args ats
    have hmax : ∀ d, maxD (args.toList.map ρd) = some d -> ∃ r, (Builtin.max_ ats type (args.map ρv)).run P w = .ok r w /\ Rep S L w r d := fun d hd => by
      obtain ⟨x, r, y, h1, h2, h3⟩ := Jvt (P := P) (w := w) _ Builtin.max2 (fun k k' a b => rfl) _ (args.toList.map ρv) hd (RepA.ops hρ args.toList)
      exact ⟨y, by simp [Builtin.max_, h1, h2], h3⟩
    have := quiet (s := Builtin.max_ ats type (args.map ρv)) h hmax
    simpa [execOp, resolve, invoke, builtin] using this
  · -- min
    rename_i args ats
    have hmin : ∀ d, minD (args.toList.map ρd) = some d -> ∃ r, (Builtin.min_ ats type (args.map ρv)).run P w = .ok r w /\ Rep S L w r d := fun d hd => by
      obtain ⟨x, r, y, h1, h2, h3⟩ := Jvt (P := P) (w := w) _ Builtin.min2 (fun k k' a b => rfl) _ (args.toList.map ρv) hd (RepA.ops hρ args.toList)
      exact ⟨y, by simp [Builtin.min_, h1, h2], h3⟩
    have := quiet (s := Builtin.min_ ats type (args.map ρv)) h hmin
    simpa [execOp, resolve, invoke, builtin] using this
  · cases h
end
end Go.Proofs.YtinnbafplhcnpaaGreat
end
