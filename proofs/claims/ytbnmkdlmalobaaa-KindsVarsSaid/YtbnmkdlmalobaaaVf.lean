/-
  Parts joined into one text: HDenDrawn. No condition.
-/
import Derived.Test.YtbnmkdlmalobaaaVe

section
namespace Go.Proofs.Ytbnmkdlmalobaaa
open Go.RowKit
set_option linter.unusedVariables false
set_option linter.unusedSimpArgs false

/-- The frame when k operations are over. -/
theorem runOps_take {P : Program} {T : Tab} {all : List Oper} : ∀ (ops : List Oper) (s s' : Fr), runOps P T all ops s = some s' → ∃ tr : Nat → Fr, tr 0 = s ∧ tr ops.length = s' ∧ (∀ i, i ≤ ops.length → (heapsOf P T all ops s)[i]? = some (tr i).2) ∧
    ∀ i o, ops[i]? = some o → ∃ d, oneD P T all o (tr i).1 (tr i).2 = some d ∧ tr (i + 1) = (putD (tr i).1 o.dst d.1, d.2)
  | [], s, s', h => by
    simp only [runOps, Option.some.injEq] at h
    exact ⟨fun _ => s, rfl, h, fun i hi => by
      obtain rfl : i = 0 := by simpa using hi
      rfl, fun i o hi => by simp at hi⟩
  | o :: r, s, s', h => by
    simp only [runOps] at h
    cases h1 : oneD P T all o s.1 s.2 with
    | none => rw [h1] at h; cases h
    | some d =>
      rw [h1, Option.bind_some] at h
      obtain ⟨tr, t0, t1, t3, t2⟩ := runOps_take r _ _ h
      refine ⟨fun k => match k with | 0 => s | k + 1 => tr k, rfl, t1, fun i hi => ?_, fun i x hi => ?_⟩
      · cases i with
        | zero => simp [heapsOf]
        | succ i =>
          simp only [heapsOf, h1, List.getElem?_cons_succ]
          exact t3 i (by simpa using hi)
      cases i with
      | zero =>
        obtain rfl : o = x := by simpa using hi
        exact ⟨d, h1, t0⟩
      | succ i => exact t2 i x (by simpa using hi)

theorem putD_length (fr : List D) (dst : Option Tmp) (d : D) : (putD fr dst d).length = fr.length := by
  cases dst <;> simp [putD]
theorem putD_other (fr : List D) (dst : Option Tmp) (d : D) (s : Nat) (h : dst ≠ some s) : (putD fr dst d)[s]? = fr[s]? := by
  cases dst with
  | none => rfl
  | some t => simp only [putD]; rw [List.getElem?_set_ne (fun e => h (by rw [e]))]

section
variable {P : Program} {T : Tab} {all : List Oper} {tr : Nat → Fr}
theorem tr_length (ht : ∀ i o, all[i]? = some o → ∃ d, oneD P T all o (tr i).1 (tr i).2 = some d ∧ tr (i + 1) = (putD (tr i).1 o.dst d.1, d.2)) (k : Nat) (hk : k ≤ all.length) : (tr k).1.length = (tr 0).1.length := by
  induction k with
  | zero => rfl
  | succ k ih =>
    obtain ⟨d, _, h⟩ := ht k all[k] (List.getElem?_eq_getElem (by omega))
    rw [h]
    simp only
    rw [putD_length, ih (by omega)]
/-- A slot that nobody writes stays. -/
theorem tr_stays (ht : ∀ i o, all[i]? = some o → ∃ d, oneD P T all o (tr i).1 (tr i).2 = some d ∧ tr (i + 1) = (putD (tr i).1 o.dst d.1, d.2)) (s : Nat) (k m : Nat) (hkm : k ≤ m) (hm : m ≤ all.length)
    (h : ∀ j o, k ≤ j → j < m → all[j]? = some o → o.dst ≠ some s) : (tr m).1[s]? = (tr k).1[s]? := by
  induction m with
  | zero => rw [show k = 0 from by omega]
  | succ m ih =>
    by_cases he : k = m + 1
    · rw [he]
    · obtain ⟨d, _, h1⟩ := ht m all[m] (List.getElem?_eq_getElem (by omega))
      rw [h1]
      simp only
      rw [putD_other _ _ _ _ (h m _ (by omega) (by omega) (List.getElem?_eq_getElem (by omega)))]
      exact ih (by omega) (by omega) fun j o h1 h2 h3 => h j o h1 (by omega) h3
/-- So do the objects. -/
theorem tr_objs (hT : TabOk P T) (ht : ∀ i o, all[i]? = some o → ∃ d, oneD P T all o (tr i).1 (tr i).2 = some d ∧ tr (i + 1) = (putD (tr i).1 o.dst d.1, d.2)) (k m : Nat) (hkm : k ≤ m) (hm : m ≤ all.length)
    (h : ∀ j o, k ≤ j → j < m → all[j]? = some o → hWrite T o.op = false) : (tr m).2 = (tr k).2 := by
  induction m with
  | zero => rw [show k = 0 from by omega]
  | succ m ih =>
    by_cases he : k = m + 1
    · rw [he]
    · obtain ⟨d, h0, h1⟩ := ht m all[m] (List.getElem?_eq_getElem (by omega))
      rw [h1]
      simp only
      have hq := h m all[m] (by omega) (by omega) (List.getElem?_eq_getElem (by omega))
      have : d.2 = (tr m).2 := by
        unfold oneD at h0
        split at h0
        · exact stepD_calm hT hq (show stepD P T all[m].op (evalD (tr m).1) (tr m).2 = some (d.1, d.2) from h0)
        · cases h0; rfl
        · cases h0
      rw [this]
      exact ih (by omega) (by omega) fun j o h1 h2 h3 => h j o h1 (by omega) h3
end

theorem write_read {T : Tab} {op : Op} (h : hWrite T op = true) : hRead op = true := by
  cases hq : hRead op with
  | true => rfl
  | false =>
    exfalso
    cases op with
    | call c =>
      obtain ⟨callee, args, ats⟩ := c
      cases callee with
      | builtin b => cases b <;> first | (simp [hRead] at hq; done) | (simp [hWrite] at h; done)
      | value f => simp [hRead] at hq
      | invoke => simp [hRead] at hq
    | _ => first | (simp [hRead] at hq; done) | (simp [hWrite] at h; done)
/-- Two operations may change places, for the guards hold. -/
def Exc (T : Tab) (ops : List Oper) (o : Oper) (i : Nat) (x : Oper) (j : Nat) (ρ : Operand → D) (hs : List Heap) : Prop := ∃ gs, excuse1 T ops o i x j = some gs ∧ ∀ g ∈ gs, g.holds ρ hs = true
theorem alloc_target {op : Op} (h : hAlloc op = true) : wTarget op = some [] := by
  cases op <;> first | rfl | (simp [hAlloc] at h; done)
section
variable {P : Program} {T : Tab} {all : List Oper} {tr : Nat → Fr}
theorem stable_eval (ht : ∀ i o, all[i]? = some o → ∃ d, oneD P T all o (tr i).1 (tr i).2 = some d ∧ tr (i + 1) = (putD (tr i).1 o.dst d.1, d.2)) (a : Operand) (k m : Nat) (hs : stable all k a = true) (hkm : k ≤ m) (hm : m ≤ all.length) : evalD (tr m).1 a = evalD (tr k).1 a := by
  cases a with
  | tmp t =>
    have := tr_stays ht t k m hkm hm fun j o h1 h2 h3 => by
      simp only [stable, List.all_eq_true] at hs
      have := hs o (by rw [List.mem_iff_getElem?]; exact ⟨j - k, by rw [List.getElem?_drop, show k + (j - k) = j from by omega]; exact h3⟩)
      simpa using this
    simp only [evalD, List.getD_eq_getElem?_getD, this]
  | _ => rfl
/-- An object that no write aims at, from k to m. -/
theorem obj_stays (hT : TabOk P T) (ht : ∀ i o, all[i]? = some o → ∃ d, oneD P T all o (tr i).1 (tr i).2 = some d ∧ tr (i + 1) = (putD (tr i).1 o.dst d.1, d.2)) (id k m : Nat) (hkm : k ≤ m) (hm : m ≤ all.length) (hid : id < (tr k).2.length)
    (h : ∀ j o, k ≤ j → j < m → all[j]? = some o → hWrite T o.op = true → (∃ ts, wTarget o.op = some ts ∧ ∀ b ∈ ts, idD (evalD (tr j).1 b) ≠ some id) ∨ sameB id (tr j).2 (tr (j + 1)).2 = true) : (tr m).2[id]? = (tr k).2[id]? ∧ id < (tr m).2.length := by
  induction m with
  | zero => obtain rfl : k = 0 := by omega
            exact ⟨rfl, hid⟩
  | succ m ih =>
    by_cases he : k = m + 1
    · subst he; exact ⟨rfl, hid⟩
    · obtain ⟨i1, i2⟩ := ih (by omega) (by omega) fun j o h1 h2 h3 => h j o h1 (by omega) h3
      obtain ⟨d, h0, h1⟩ := ht m all[m] (List.getElem?_eq_getElem (by omega))
      rw [h1]
      simp only
      have key : d.2[id]? = (tr m).2[id]? ∧ id < d.2.length := by
        unfold oneD at h0
        split at h0
        · cases hw : hWrite T all[m].op with
          | false =>
            have := stepD_calm hT hw (show stepD P T all[m].op (evalD (tr m).1) (tr m).2 = some (d.1, d.2) from h0)
            rw [this]; exact ⟨rfl, i2⟩
          | true =>
            rcases h m all[m] (by omega) (by omega) (List.getElem?_eq_getElem (by omega)) hw with ⟨ts, q1, q2⟩ | q
            · have := write_keeps i2 q1 q2 (show stepD P T all[m].op (evalD (tr m).1) (tr m).2 = some (d.1, d.2) from h0)
              exact ⟨this.1, by omega⟩
            · rw [h1] at q
              exact sameB_eq q
        · cases h0; exact ⟨rfl, i2⟩
        · cases h0
      exact ⟨key.1.trans i1, key.2⟩
end

/-- Each slot holds what it held when some operation had last written it, of those that have been carried out; so do the objects. -/
structure DrawInv (ds0 : List Deferred) (T : Tab) (ops : List Oper) (tr : Nat → Fr) (B : Nat) (S0 : Nat → Prop) (L0 : List (Nat × Nat)) (w0 : World) (d : Nat → Bool) (a : Act) (w : World) : Prop where
  defers : a.defers = ds0
  size : a.tmps.size = (tr 0).1.length
  shut : Shut ops d
  state : ∃ (S : Nat → Prop) (L : List (Nat × Nat)), Later B S0 S L0 L w0 w ∧
    (∃ k, k ≤ ops.length ∧ (k = 0 ∨ ∃ o, ops[k - 1]? = some o ∧ hWrite T o.op = true ∧ d (k - 1) = true ∧ 0 < k) ∧ (∀ j o, k ≤ j → ops[j]? = some o → hWrite T o.op = true → d j = false) ∧ HRel B S L w (tr k).2) ∧
    ∀ s, s < a.tmps.size → ∃ k, k ≤ ops.length ∧ (k = 0 ∨ ∃ o, ops[k - 1]? = some o ∧ o.dst = some s ∧ d (k - 1) = true ∧ 0 < k) ∧ (∀ j o, k ≤ j → ops[j]? = some o → o.dst = some s → d j = false) ∧
      Rep S L w (a.tmps.getD s undef) ((tr k).1.getD s .undef)

theorem stepsOk_of {F : Fence} {n : Nat} {P : Program} {ops : Array Oper} {Q : Exit → Act → World → Prop} {Inv : (Nat → Bool) → Act → World → Prop} : ∀ (l : List Oper) (k : Nat), (∀ j o, l[j]? = some o → StepOk F n P ops Q Inv (k + j) o) → stepsOk F n P ops Q Inv l k
  | [], k, h => trivial
  | o :: r, k, h => ⟨h 0 o rfl, stepsOk_of r (k + 1) fun j x hj => by
    have := h (j + 1) x (by simpa using hj)
    rwa [show k + (j + 1) = k + 1 + j from by omega] at this⟩

theorem put_getD (a : Act) (dst : Option Tmp) (v : Value) (s : Nat) (hs : s < a.tmps.size) : (a.put dst v).tmps.getD s undef = if dst = some s then v else a.tmps.getD s undef := by
  cases dst with
  | none => simp [Act.put]
  | some t =>
    simp only [Act.put, Option.some.injEq]
    rw [Array.getD_eq_getD_getElem?, Array.getElem?_setIfInBounds]
    by_cases he : t = s
    · subst he
      simp [hs]
    · simp [he]
theorem put_size (a : Act) (dst : Option Tmp) (v : Value) : (a.put dst v).tmps.size = a.tmps.size := by
  cases dst <;> simp [Act.put]
theorem HRel.drew {B : Nat} {S : Nat → Prop} {L : List (Nat × Nat)} {w : World} {H : Heap} (h : HRel B S L w H) : HRel B S L w.drew H ∧ Later B S S L L w w.drew := by
  have hl : Later B S S L L w w.drew := ⟨(Below.refl _ _).drew, kept_drew (Kept.refl _ _), fun _ h => h, List.prefix_refl _, fun _ h => .inl h, fun _ h => h⟩
  refine ⟨⟨h.len, h.small, h.base, fun id o hid ho => ?_, h.inj⟩, hl⟩
  obtain ⟨b, c, h1, h2, h3, h4⟩ := h.obj id o hid ho
  exact ⟨b, c, h1, h2, h3, h4.kept rfl (fun _ _ => hl.rep) (fun _ _ => hl.repA)⟩

set_option maxHeartbeats 1000000 in
theorem draw_ok {P : Program} {T : Tab} (hT : TabOk P T) (hm : P.follows .mixedOrders = true) {F : Fence} (hF : Wd F) {n id B N : Nat} {ops : Array Oper} {Q : Exit → Act → World → Prop} {a : Act} {w : World} {S : Nat → Prop} {L : List (Nat × Nat)} {fr fr' : Fr}
    (hd : drawOk T ops.toList = true) (hg : ∀ g ∈ guardsOf T ops.toList, g.holds (evalD fr'.1) (heapsOf P T ops.toList ops.toList fr) = true) (h : runOps P T ops.toList ops.toList fr = some fr') (hr : RepF B N S L w a fr) (hQ : ∀ a' w' S' L', RepF B N S' L' w' a' fr' → Later B S S' L L' w w' → Q .normal a' w') : (Code.region id ops true).wpIn F n P Q a w := by
  simp only [drawOk, Bool.and_eq_true] at hd
  obtain ⟨hac, hcl⟩ := hd
  obtain ⟨tr, t0, tn, th, ht⟩ := runOps_take ops.toList fr fr' h
  have hlen : (tr 0).1.length = a.tmps.size := by rw [t0, ← hr.tmps.length, Array.length_toList]
  have hpair : ∀ i j x y, ops.toList[i]? = some x → ops.toList[j]? = some y → i < j → (∀ d : Nat → Bool, Shut ops.toList d → d j = true → d i = true) ∨
      (slotClash ops.toList x y = false ∧ (heapClash T x y = false ∨ ∃ gs, excuse T ops.toList x i y j = some gs ∧ ∀ g ∈ gs, g.holds (evalD fr'.1) (heapsOf P T ops.toList ops.toList fr) = true)) := by
    intro i j x y hi hj hij
    have mj : (y, j) ∈ ops.toList.zipIdx := by rw [List.mem_zipIdx_iff_getElem?]; simpa using hj
    have mi : (x, i) ∈ (ops.toList.take j).zipIdx := by rw [List.mem_zipIdx_iff_getElem?]; simp [List.getElem?_take, hij]; simpa using hi
    have h1 := List.all_eq_true.1 hcl (y, j) mj
    have h2 := List.all_eq_true.1 h1 (x, i) mi
    simp only [Bool.or_eq_true, Bool.and_eq_true, Bool.not_eq_true'] at h2
    cases ho : ordB ops.toList i j with
    | true =>
      refine .inl fun d hs hdj => ?_
      unfold ordB at ho
      cases hgt : (ancs ops.toList [])[j]? with
      | none => rw [List.getD_eq_getElem?_getD, hgt] at ho; simp at ho
      | some m =>
        rw [List.getD_eq_getElem?_getD, hgt] at ho
        exact ancs_ok ops.toList d hs ops.toList [] [] rfl rfl (by simp) j m hgt i (by simpa using ho) hdj
    | false =>
      rw [ho] at h2
      simp only [Bool.false_eq_true, false_or] at h2
      refine .inr ⟨h2.1, ?_⟩
      cases hh : heapClash T x y with
      | false => exact .inl rfl
      | true =>
        rw [hh] at h2
        simp only [Bool.true_eq_false, false_or] at h2
        obtain ⟨gs, hgs⟩ := Option.isSome_iff_exists.1 h2.2
        refine .inr ⟨gs, hgs, fun g hgm => hg g ?_⟩
        unfold guardsOf
        refine List.mem_flatten.2 ⟨_, List.mem_map.2 ⟨(y, j), mj, rfl⟩, ?_⟩
        refine List.mem_flatten.2 ⟨_, List.mem_map.2 ⟨(x, i), mi, rfl⟩, ?_⟩
        simp only [hh, ho, Bool.not_true, Bool.or_self, Bool.false_eq_true, if_false, hgs, Option.getD_some]
        exact hgm
  have hww : ∀ i j x y, ops.toList[i]? = some x → ops.toList[j]? = some y → i < j → hWrite T x.op = true → hWrite T y.op = true → ∀ d : Nat → Bool, Shut ops.toList d → d j = true → d i = true := by
    intro i j x y hi hj hij hx hy
    rcases hpair i j x y hi hj hij with h1 | ⟨_, h1⟩
    · exact h1
    · have hry : hRead y.op = true := write_read hy
      rcases h1 with h1 | ⟨gs, h1, _⟩
      · simp [heapClash, hx, hry] at h1
      · simp [excuse, hx, hy] at h1
  obtain ⟨hdr, hlr⟩ := hr.objs.drew
  refine region_inv2 hm (DrawInv a.defers T ops.toList tr B S L w) hac ?_ ?_ ?_
  · refine ⟨rfl, hlen.symm, fun i o _ h => by simp at h, S, L, hlr, ⟨0, Nat.zero_le _, .inl rfl, fun _ _ _ _ _ => rfl, by rw [t0]; exact hdr⟩, fun s hs => ⟨0, Nat.zero_le _, .inl rfl, fun _ _ _ _ _ => rfl, ?_⟩⟩
    have := (hlr.repA hr.tmps).getD s undef
    rw [t0]
    simpa using this
  · refine stepsOk_of _ 0 fun i o ho => ?_
    rw [Nat.zero_add]
    intro d a1 w1 K hdi haft hinv hK
    obtain ⟨dd, h1, h2⟩ := ht i o ho
    have hilen : i < ops.toList.length := (List.getElem?_eq_some_iff.1 ho).1
    obtain ⟨S1, L1, hlat, ⟨kh, hkh, hkh1, hkh2, hobj⟩, hslot⟩ := hinv.state
    have hshut' : Shut ops.toList (upd d i) := by
      intro i' o' ho' hd' e he hb
      by_cases hii : i' = i
      · subst hii
        rw [ho] at ho'
        cases ho'
        have := haft e he hb
        by_cases hei : e.on = i'
        · rw [hei, upd_self]
        · rw [upd_other d hei]; exact this
      · rw [upd_other d hii] at hd'
        have := hinv.shut i' o' ho' hd' e he hb
        by_cases hei : e.on = i
        · rw [hei, upd_self]
        · rw [upd_other d hei]; exact this
    -- nobody that clashes stands on the wrong side
    have before : ∀ j x, j < i → ops.toList[j]? = some x → slotClash ops.toList x o = true → d j = true := by
      intro j x hj hx hc
      rcases hpair j i x o hx ho hj with h1 | ⟨h1, _⟩
      · have := h1 (upd d i) hshut' (upd_self d i)
        rwa [upd_other d (by omega)] at this
      · rw [hc] at h1; cases h1
    have notyet : ∀ j x, i < j → ops.toList[j]? = some x → (∀ d : Nat → Bool, Shut ops.toList d → d j = true → d i = true) → d j = false := by
      intro j x hj hx h1
      cases hdj : d j with
      | false => rfl
      | true =>
        have := h1 d hinv.shut hdj
        rw [hdi] at this; cases this
    have behind : ∀ j x, i < j → ops.toList[j]? = some x → slotClash ops.toList o x = true → d j = false := by
      intro j x hj hx hc
      rcases hpair i j o x ho hx hj with h1 | ⟨h1, _⟩
      · exact notyet j x hj hx h1
      · rw [hc] at h1; cases h1
    have hwB : ∀ j x, j < i → ops.toList[j]? = some x → hWrite T x.op = true → hWrite T o.op = true → d j = true := by
      intro j x hj hx hw1 hw2
      have := hww j i x o hx ho hj hw1 hw2 (upd d i) hshut' (upd_self d i)
      rwa [upd_other d (by omega)] at this
    have hwA : ∀ j x, i < j → ops.toList[j]? = some x → hWrite T o.op = true → hWrite T x.op = true → d j = false := fun j x hj hx hw1 hw2 => notyet j x hj hx (hww i j o x ho hx hj hw1 hw2)
    have hrB : ∀ j x, j < i → ops.toList[j]? = some x → hWrite T x.op = true → hRead o.op = true → hWrite T o.op = false → d j = true ∨ Exc T ops.toList o i x j (evalD fr'.1) (heapsOf P T ops.toList ops.toList fr) := by
      intro j x hj hx hw1 hro hwo
      rcases hpair j i x o hx ho hj with h1 | ⟨_, h1⟩
      · left
        have := h1 (upd d i) hshut' (upd_self d i)
        rwa [upd_other d (by omega)] at this
      · rcases h1 with h1 | ⟨gs, h1, h2⟩
        · simp [heapClash, hw1, hro] at h1
        · right
          simp only [excuse, hw1, hwo, Bool.not_true, Bool.false_and, Bool.false_eq_true, if_false, Bool.not_false, Bool.and_self, if_true] at h1
          exact ⟨gs, h1, h2⟩
    have hrA : ∀ j x, i < j → ops.toList[j]? = some x → hWrite T x.op = true → hAlloc x.op = false → hRead o.op = true → hWrite T o.op = false → d j = false ∨ Exc T ops.toList o i x j (evalD fr'.1) (heapsOf P T ops.toList ops.toList fr) := by
      intro j x hj hx hw1 hal hro hwo
      rcases hpair i j o x ho hx hj with h1 | ⟨_, h1⟩
      · exact .inl (notyet j x hj hx h1)
      · rcases h1 with h1 | ⟨gs, h1, h2⟩
        · simp [heapClash, hw1, hro, hal] at h1
        · right
          simp only [excuse, hw1, hwo, Bool.not_true, Bool.false_and, Bool.false_eq_true, if_false, Bool.not_false, Bool.and_self, if_true] at h1
          exact ⟨gs, h1, h2⟩
    have hbetween : ∀ j x, i < j → j < kh → ops.toList[j]? = some x → hWrite T x.op = true → d j = true := by
      intro j x hj1 hj2 hx hwx
      rcases hkh1 with h0 | ⟨y, hy, hwy, hdy, hpos⟩
      · omega
      · by_cases hjk : j = kh - 1
        · rw [hjk]; exact hdy
        · exact hww j (kh - 1) x y hx hy (by omega) hwx hwy d hinv.shut hdy
    -- what is read
    have hread : ∀ s ∈ slotsRead ops.toList o, Rep S1 L1 w1 (a1.tmps.getD s undef) ((tr i).1.getD s .undef) := by
      intro s hs
      by_cases hss : s < a1.tmps.size
      · obtain ⟨k, hk, hk1, hk2, hk3⟩ := hslot s hss
        have heq : (tr i).1[s]? = (tr k).1[s]? := by
          by_cases hki : k ≤ i
          · refine tr_stays ht s k i hki (by omega) fun j x hj1 hj2 hx hxs => ?_
            have h3 := before j x hj2 hx (by simp [slotClash, hxs, hs])
            rw [hk2 j x hj1 hx hxs] at h3; cases h3
          · rcases hk1 with h0 | ⟨x, hx, hxs, hdx, hpos⟩
            · omega
            · exfalso
              have hne : k - 1 ≠ i := by intro e; rw [e] at hdx; rw [hdi] at hdx; cases hdx
              have := behind (k - 1) x (by omega) hx (by simp [slotClash, hxs, hs])
              rw [this] at hdx; cases hdx
        rw [List.getD_eq_getElem?_getD, heq, ← List.getD_eq_getElem?_getD]
        exact hk3
      · have : (tr i).1[s]? = none := by
          rw [List.getElem?_eq_none]
          have := tr_length ht i (by omega)
          have := hinv.size
          omega
        rw [List.getD_eq_getElem?_getD, this]
        simp only [Option.getD_none, Rep]
    -- what has been carried out of it, if it but reads: objects are made alone
    have hgrown : hRead o.op = true → hWrite T o.op = false → (∀ j x, ops.toList[j]? = some x → ¬ Exc T ops.toList o i x j (evalD fr'.1) (heapsOf P T ops.toList ops.toList fr)) → ∃ t, (tr kh).2 = (tr i).2 ++ t := by
      intro hrd hwo hno
      by_cases hki : kh ≤ i
      · refine ⟨[], ?_⟩
        rw [List.append_nil]
        refine (tr_objs hT ht kh i hki (by omega) fun j x hj1 hj2 hx => ?_).symm
        cases hwx : hWrite T x.op with
        | false => rfl
        | true =>
          have h3 := (hrB j x hj2 hx hwx hrd hwo).resolve_right (hno j x hx)
          rw [hkh2 j x hj1 hx hwx] at h3; cases h3
      · -- each write between was carried out, and so clashes not
        have hwr : ∀ j x, i < j → j < kh → ops.toList[j]? = some x → hWrite T x.op = true → hAlloc x.op = true := by
          intro j x hj1 hj2 hx hwx
          cases hal : hAlloc x.op with
          | true => rfl
          | false =>
            exfalso
            have hnd := (hrA j x hj1 hx hwx hal hrd hwo).resolve_right (hno j x hx)
            rw [hbetween j x hj1 hj2 hx hwx] at hnd; cases hnd
        have hio : (tr (i + 1)).2 = (tr i).2 := by
          have := tr_objs hT ht i (i + 1) (by omega) (by omega) fun j x hj1 hj2 hx => by
            have : j = i := by omega
            subst this
            rw [ho] at hx; cases hx; exact hwo
          exact this
        have grow : ∀ m, i + 1 ≤ m → m ≤ kh → ∃ t, (tr m).2 = (tr i).2 ++ t := by
          intro m
          induction m with
          | zero => intro h; omega
          | succ m ih =>
            intro h1 h2
            by_cases he : m = i
            · subst he; exact ⟨[], by rw [hio, List.append_nil]⟩
            · obtain ⟨t, ht1⟩ := ih (by omega) (by omega)
              obtain ⟨dm, hm1, hm2⟩ := ht m ops.toList[m] (List.getElem?_eq_getElem (by omega))
              rw [hm2]
              simp only
              unfold oneD at hm1
              split at hm1
              · cases hwm : hWrite T ops.toList[m].op with
                | false =>
                  have := stepD_calm hT hwm (show stepD P T ops.toList[m].op (evalD (tr m).1) (tr m).2 = some (dm.1, dm.2) from hm1)
                  exact ⟨t, by rw [this, ht1]⟩
                | true =>
                  obtain ⟨t2, ht2⟩ := stepD_alloc (hwr m _ (by omega) (by omega) (List.getElem?_eq_getElem (by omega)) hwm) (show stepD P T ops.toList[m].op (evalD (tr m).1) (tr m).2 = some (dm.1, dm.2) from hm1)
                  exact ⟨t ++ t2, by rw [ht2, ht1, List.append_assoc]⟩
              · cases hm1; exact ⟨t, ht1⟩
              · cases hm1
        exact grow kh (by omega) (Nat.le_refl _)
    -- the objects, if it hangs on them
    have hobjs : hWrite T o.op = true → (tr kh).2 = (tr i).2 := by
      intro hwo
      by_cases hki : kh ≤ i
      · refine (tr_objs hT ht kh i hki (by omega) fun j x hj1 hj2 hx => ?_).symm
        cases hwx : hWrite T x.op with
        | false => rfl
        | true =>
          have h3 := hwB j x hj2 hx hwx hwo
          rw [hkh2 j x hj1 hx hwx] at h3; cases h3
      · rcases hkh1 with h0 | ⟨x, hx, hwx, hdx, hpos⟩
        · omega
        · exfalso
          have hne : kh - 1 ≠ i := by intro e; rw [e] at hdx; rw [hdi] at hdx; cases hdx
          have := hwA (kh - 1) x (by omega) hx hwo hwx
          rw [this] at hdx; cases hdx
    have hwant : ∀ b, wantedD ops.toList o (tr i).1 = some b → Region.wanted o (yielded ops a1.tmps) = b := fun b hw => yielded_of hw fun j want t v hg hj hb => by
      have h3 := hread t (List.mem_append.2 (.inr (by simp only [hg, hj]; simp)))
      rw [List.getD_eq_getElem?_getD, hb] at h3
      simp only [Option.getD_some, Rep] at h3
      have hts : t < a1.tmps.size := by
        have h5 := (List.getElem?_eq_some_iff.1 hb).1
        exact Nat.lt_of_lt_of_eq h5 ((tr_length ht i (by omega)).trans hinv.size.symm)
      rw [Array.getD_eq_getD_getElem?, Array.getElem?_eq_getElem hts] at h3
      simp only [Option.getD_some] at h3
      rw [Array.getElem?_eq_getElem hts, h3]
    -- what comes behind
    have hnext : ∀ v w' S' L', Rep S' L' w' v dd.1 → Later B S1 S' L1 L' w1 w' →
        ((hWrite T o.op = true ∧ HRel B S' L' w' dd.2) ∨ (hWrite T o.op = false ∧ HRel B S' L' w' (tr kh).2)) → K (a1.put o.dst v) w' := by
      intro v w' S' L' hv hl hob
      refine hK _ _ ⟨by rw [put_defers]; exact hinv.defers, by rw [put_size]; exact hinv.size, hshut', S', L', hlat.trans hl, ?_, fun s hs => ?_⟩
      · rcases hob with ⟨hw, hob⟩ | ⟨hw, hob⟩
        · refine ⟨i + 1, by omega, .inr ⟨o, by simpa using ho, hw, by simp [upd_self], by omega⟩, fun j x hj hx hwx => ?_, by rw [h2]; exact hob⟩
          rw [upd_other d (by omega)]
          exact hwA j x (by omega) hx hw hwx
        · refine ⟨kh, hkh, ?_, fun j x hj hx hwx => ?_, hob⟩
          · rcases hkh1 with h0 | ⟨x, hx, hxs, hdx, hpos⟩
            · exact .inl h0
            · exact .inr ⟨x, hx, hxs, by by_cases e : kh - 1 = i; (rw [e, upd_self]); (rw [upd_other d e]; exact hdx), hpos⟩
          · by_cases e : j = i
            · subst e
              rw [ho] at hx; cases hx
              rw [hw] at hwx; cases hwx
            · rw [upd_other d e]; exact hkh2 j x hj hx hwx
      · rw [put_size] at hs
        rw [put_getD _ _ _ _ hs]
        by_cases hds : o.dst = some s
        · rw [if_pos hds]
          refine ⟨i + 1, by omega, .inr ⟨o, by simpa using ho, hds, by simp [upd_self], by omega⟩, fun j x hj hx hxs => ?_, ?_⟩
          · rw [upd_other d (by omega)]
            exact behind j x (by omega) hx (by simp [slotClash, hds, hxs])
          · rw [h2, hds]
            simp only [putD]
            have hsl : s < (tr i).1.length := by
              have := tr_length ht i (by omega)
              have := hinv.size
              omega
            rw [List.getD_eq_getElem?_getD, List.getElem?_set_self hsl]
            exact hv
        · rw [if_neg hds]
          obtain ⟨k, hk, hk1, hk2, hk3⟩ := hslot s hs
          refine ⟨k, hk, ?_, fun j x hj hx hxs => ?_, hl.rep hk3⟩
          · rcases hk1 with h0 | ⟨x, hx, hxs, hdx, hpos⟩
            · exact .inl h0
            · exact .inr ⟨x, hx, hxs, by by_cases e : k - 1 = i; (rw [e, upd_self]); (rw [upd_other d e]; exact hdx), hpos⟩
          · by_cases e : j = i
            · subst e
              rw [ho] at hx; cases hx
              exact absurd hxs hds
            · rw [upd_other d e]; exact hk2 j x hj hx hxs
    unfold oneD at h1
    split at h1
    · rename_i hw
      rw [hwant _ hw]
      simp only [if_true]
      let ρ : Operand → D := fun x => match x with
        | .tmp t => if t ∈ slotsRead ops.toList o then (tr i).1.getD t .undef else .undef
        | x => evalD (tr i).1 x
      have hρe : ∀ x ∈ opReads o.op, ρ x = evalD (tr i).1 x := fun x hx => by
        cases x with
        | tmp t =>
          have : t ∈ slotsRead ops.toList o := by
            simp only [slotsRead, List.mem_append, List.mem_filterMap]
            exact .inl ⟨_, hx, rfl⟩
          simp only [ρ, if_pos this, evalD]
        | _ => rfl
      have hρc : stepD P T o.op ρ (tr i).2 = some (dd.1, dd.2) := by
        rw [← show stepD P T o.op (evalD (tr i).1) (tr i).2 = some (dd.1, dd.2) from h1]
        refine stepD_congr P T o.op _ _ _ fun x hx => ?_
        cases x with
        | tmp t =>
          have : t ∈ slotsRead ops.toList o := by
            simp only [slotsRead, List.mem_append, List.mem_filterMap]
            exact .inl ⟨_, hx, rfl⟩
          simp only [ρ, if_pos this, evalD]
        | _ => rfl
      have hρr : ∀ x, Rep S1 L1 w1 (a1.eval x) (ρ x) := by
        intro x
        cases x with
        | tmp t =>
          simp only [ρ, Act.eval]
          split
          · rename_i hm
            exact hread t hm
          · simp only [Rep]
        | func f =>
          simp only [ρ, evalD, Rep, RepA]
          exact ⟨[], [], rfl, rfl, rfl⟩
        | _ => simp only [ρ, evalD, Rep]; rfl
      cases hrd : hRead o.op with
      | false =>
        obtain ⟨_, hall⟩ := stepD_quiet hrd hρc
        have hwr : hWrite T o.op = false := by
          cases hxo : o.op with
          | call c =>
            rw [hxo] at hrd
            obtain ⟨callee, args, ats⟩ := c
            cases callee with
            | builtin b => cases b <;> first | (simp [hRead] at hrd; done) | rfl
            | value f => simp [hRead] at hrd
            | invoke => simp [hRead] at hrd
          | _ => rw [hxo] at hrd; first | rfl | (simp [hRead] at hrd; done)
        exact stepD_ok hT hF (hall (tr kh).2) hρr hobj fun v w' S' L' q1 q2 q3 => hnext v w' S' L' q1 q3 (.inr ⟨hwr, q2⟩)
      | true =>
        cases hwr : hWrite T o.op with
        | true =>
          have hob' : HRel B S1 L1 w1 (tr i).2 := by rw [← hobjs hwr]; exact hobj
          exact stepD_ok hT hF hρc hρr hob' fun v w' S' L' q1 q2 q3 => hnext v w' S' L' q1 q3 (.inl ⟨hwr, q2⟩)
        | false =>
          have hall : stepD P T o.op ρ (tr kh).2 = some (dd.1, (tr kh).2) := by
            have grown : (∀ j x, ops.toList[j]? = some x → ¬ Exc T ops.toList o i x j (evalD fr'.1) (heapsOf P T ops.toList ops.toList fr)) → stepD P T o.op ρ (tr kh).2 = some (dd.1, (tr kh).2) := by
              intro hno
              obtain ⟨t, htt⟩ := hgrown hrd hwr hno
              have hmono := stepD_mono hT hwr hρc t
              rwa [← htt] at hmono
            have hend : ∀ x k, k ≤ ops.toList.length → stable ops.toList k x = true → evalD fr'.1 x = evalD (tr k).1 x := fun x k hk hs => by
              rw [← tn]; exact stable_eval ht x k _ hs hk (Nat.le_refl _)
            cases hop : o.op with
            | load ty a =>
              have hρa : ρ a = evalD (tr i).1 a := hρe a (by rw [hop]; simp [opReads])
              rw [hop] at hρc
              simp only [stepD, opH] at hρc ⊢
              obtain ⟨sh, hsh, h3⟩ := Option.bind_eq_some_iff.1 hρc
              rw [hsh, Option.bind_some]
              have h4 := same_some h3
              have hexc : ∀ j x, j < ops.toList.length → Exc T ops.toList o i x j (evalD fr'.1) (heapsOf P T ops.toList ops.toList fr) → ∀ id, idD (ρ a) = some id → (∃ ts, wTarget x.op = some ts ∧ ∀ b ∈ ts, idD (evalD (tr j).1 b) ≠ some id) ∨ sameB id (tr j).2 (tr (j + 1)).2 = true := by
                rintro j x hj ⟨gs, e1, e2⟩ id hid
                simp only [excuse1, hop] at e1
                split at e1
                · rename_i ts hts
                  split at e1
                  · rename_i hst
                    simp only [Bool.and_eq_true, List.all_eq_true] at hst
                    cases e1
                    refine .inl ⟨ts, hts, fun b hb => ?_⟩
                    have := e2 (.apart a b) (List.mem_map.2 ⟨b, hb, rfl⟩)
                    simp only [Gd.holds] at this
                    rw [hend a i (by omega) hst.1, hend b j (by omega) (hst.2 b hb), ← hρa] at this
                    intro e
                    simp [apartB, hid, e] at this
                  · cases e1
                · split at e1
                  · rename_i hst
                    cases e1
                    right
                    have := e2 (.same a j) (by simp)
                    simp only [Gd.holds, th j (by omega), th (j + 1) (by omega)] at this
                    rw [hend a i (by omega) hst, ← hρa, hid] at this
                    exact this
                  · cases e1
              rw [load_at (H := (tr i).2) (H' := (tr kh).2) (fun id off hoff => ?_), h4]
              · rfl
              · have hid : idD (ρ a) = some id := by rw [hoff]; rfl
                by_cases hki : kh ≤ i
                · by_cases hlt : id < (tr kh).2.length
                  · exact ((obj_stays hT ht id kh i hki (by omega) hlt fun j x hj1 hj2 hx hwx => by
                      rcases hrB j x hj2 hx hwx hrd hwr with h5 | h5
                      · rw [hkh2 j x hj1 hx hwx] at h5; cases h5
                      · exact hexc j x (by omega) h5 id hid).1).symm
                  · exfalso
                    have hrep := hρr a
                    have hidL : id < L1.length := by
                      rw [hoff] at hrep
                      simp only [Rep] at hrep
                      obtain ⟨b, c, hL, _⟩ := hrep
                      exact (List.getElem?_eq_some_iff.1 hL).1
                    rw [hobj.len] at hidL
                    exact hlt hidL
                · have hlt : id < (tr i).2.length := load_in h4 id off hoff
                  exact (obj_stays hT ht id i kh (by omega) hkh hlt fun j x hj1 hj2 hx hwx => by
                    by_cases hji : j = i
                    · subst hji
                      rw [ho] at hx; cases hx
                      rw [hwr] at hwx; cases hwx
                    · cases hal : hAlloc x.op with
                      | true => exact .inl ⟨[], alloc_target hal, fun b hb => by cases hb⟩
                      | false =>
                        rcases hrA j x (by omega) hx hwx hal hrd hwr with h5 | h5
                        · rw [hbetween j x (by omega) hj2 hx hwx] at h5; cases h5
                        · exact hexc j x (by omega) h5 id hid).1
            | buildSlice t n ps =>
              rw [hop] at hρc hwr
              simp only [hWrite, Bool.not_eq_false'] at hwr
              simp only [stepD] at hρc ⊢
              rw [if_pos hwr] at hρc ⊢
              exact same_mk hρc
            | convert s ty a =>
              have hρa : ρ a = evalD (tr i).1 a := hρe a (by rw [hop]; simp [opReads])
              cases hwh : wholeB (ρ a) with
              | true => rw [hop] at hρc; exact conv_free hwh hρc _
              | false =>
                rw [← hop]
                refine grown fun j x hx => ?_
                rintro ⟨gs, e1, e2⟩
                simp only [excuse1, hop] at e1
                split at e1
                · rename_i hst
                  cases e1
                  have := e2 (.whole a) (by simp)
                  simp only [Gd.holds] at this
                  rw [hend a i (by omega) hst, ← hρa, hwh] at this
                  cases this
                · cases e1
            | call c =>
              obtain ⟨callee, args, ats⟩ := c
              cases callee with
              | value f =>
                cases f with
                | func f =>
                  have hρa : args.toList.map ρ = args.toList.map (evalD (tr i).1) := List.map_congr_left fun x hx => hρe x (by rw [hop]; simp [opReads, Call.operands]; first | exact .inr (by simpa using hx) | simpa using hx)
                  cases hpl : pureL (args.toList.map ρ) with
                  | true =>
                    rw [hop] at hρc hwr
                    exact call_free hT (by simpa [hWrite] using hwr) hpl hρc _
                  | false =>
                    rw [← hop]
                    refine grown fun j x hx => ?_
                    rintro ⟨gs, e1, e2⟩
                    simp only [excuse1, hop] at e1
                    split at e1
                    · rename_i hst
                      simp only [Bool.and_eq_true, List.all_eq_true] at hst
                      cases e1
                      have := e2 (.pure args.toList) (by simp)
                      simp only [Gd.holds] at this
                      rw [show args.toList.map (evalD fr'.1) = args.toList.map ρ from by
                        rw [hρa]
                        exact List.map_congr_left fun x hx => hend x i (by omega) (hst.2 x hx), hpl] at this
                      cases this
                    · cases e1
                | _ => rw [← hop]; exact grown fun j x hx => by rintro ⟨gs, e1, _⟩; simp [excuse1, hop] at e1
              | _ => rw [← hop]; exact grown fun j x hx => by rintro ⟨gs, e1, _⟩; simp [excuse1, hop] at e1
            | _ => rw [← hop]; exact grown fun j x hx => by rintro ⟨gs, e1, _⟩; simp [excuse1, hop] at e1
          exact stepD_ok hT hF hall hρr hobj fun v w' S' L' q1 q2 q3 => hnext v w' S' L' q1 q3 (.inr ⟨hwr, q2⟩)
    · rename_i hw
      rw [hwant _ hw]
      simp only [Bool.false_eq_true, if_false]
      cases h1
      refine ⟨fun f _ => hF.fn f, ?_⟩
      have hput : ∀ (b : Bool), hWrite T o.op = b → K (a1.put o.dst undef) w1 := by
        intro b hb
        cases b with
        | false => exact hnext _ _ S1 L1 (by simp only [Rep]) Later.refl (.inr ⟨hb, hobj⟩)
        | true =>
          refine hnext _ _ S1 L1 (by simp only [Rep]) Later.refl (.inl ⟨hb, ?_⟩)
          have hrd : hRead o.op = true := by
            cases hq : hRead o.op with
            | true => rfl
            | false =>
              exfalso
              cases hxo : o.op with
              | call c =>
                rw [hxo] at hq hb
                obtain ⟨callee, args, ats⟩ := c
                cases callee with
                | builtin b => cases b <;> first | (simp [hRead] at hq; done) | (simp [hWrite] at hb; done)
                | value f => simp [hRead] at hq
                | invoke => simp [hRead] at hq
              | _ => rw [hxo] at hq hb; first | (simp [hRead] at hq; done) | (simp [hWrite] at hb; done)
          rw [← hobjs hb]; exact hobj
      exact hput _ rfl
    · cases h1
  · intro d a1 w1 hall hinv
    obtain ⟨S1, L1, hlat, ⟨kh, hkh, hkh1, hkh2, hobj⟩, hslot⟩ := hinv.state
    have hsz := hinv.size
    have hfl : fr'.1.length = a1.tmps.size := by rw [← tn, tr_length ht _ (Nat.le_refl _), hsz]
    have hobj' : HRel B S1 L1 w1 fr'.2 := by
      have : (tr ops.toList.length).2 = (tr kh).2 := by
        refine tr_objs hT ht kh _ hkh (Nat.le_refl _) fun j x hj1 hj2 hx => ?_
        cases hwx : hWrite T x.op with
        | false => rfl
        | true =>
          have h1 := hkh2 j x hj1 hx hwx
          rw [hall j (by simpa using hj2)] at h1; cases h1
      rw [← tn, this]; exact hobj
    refine hQ _ _ S1 L1 ⟨by rw [hinv.defers]; exact hr.defers.later hlat, ?_, hobj'⟩ hlat
    have key : ∀ s, s < a1.tmps.size → Rep S1 L1 w1 (a1.tmps.getD s undef) (fr'.1.getD s .undef) := by
      intro s hs
      obtain ⟨k, hk, hk1, hk2, hk3⟩ := hslot s hs
      have heq : (tr ops.toList.length).1[s]? = (tr k).1[s]? := by
        refine tr_stays ht s k _ hk (Nat.le_refl _) fun j x hj1 hj2 hx hxs => ?_
        have h1 := hk2 j x hj1 hx hxs
        rw [hall j (by simpa using hj2)] at h1; cases h1
      rw [← tn, List.getD_eq_getElem?_getD, heq, ← List.getD_eq_getElem?_getD]
      exact hk3
    have build : ∀ (xs : List Value) (ds : List D), xs.length = ds.length → (∀ s, s < xs.length → Rep S1 L1 w1 (xs.getD s undef) (ds.getD s .undef)) → RepA S1 L1 w1 xs ds := by
      intro xs
      induction xs with
      | nil => intro ds hl _; cases ds with
        | nil => exact RepA.nil
        | cons => simp at hl
      | cons x r ih =>
        intro ds hl hh
        cases ds with
        | nil => simp at hl
        | cons e t => exact RepA.cons (by simpa using hh 0 (by simp)) (ih t (by simpa using hl) fun s hs => by simpa using hh (s + 1) (by simpa using hs))
    refine build _ _ (by rw [Array.length_toList, hfl]) fun s hs => ?_
    have := key s (by simpa using hs)
    simpa using this
end Go.Proofs.Ytbnmkdlmalobaaa
end
