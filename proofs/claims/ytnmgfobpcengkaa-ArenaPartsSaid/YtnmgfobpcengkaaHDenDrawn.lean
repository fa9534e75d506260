/-
  A region that draws its order comes to what it comes to in the text's order. Nothing here names the program.
-/
import Derived.Test.YtnmgfobpcengkaaHDenDraw
namespace Go.Proofs.Ytnmgfobpcengkaa
open Go.RowKit
set_option linter.unusedVariables false
set_option linter.unusedSimpArgs false

/-- The frame when k operations are over. -/
theorem runOps_take {P : Program} {T : Tab} {all : List Oper} : ∀ (ops : List Oper) (s s' : Fr), runOps P T all ops s = some s' → ∃ tr : Nat → Fr, tr 0 = s ∧ tr ops.length = s' ∧
    ∀ i o, ops[i]? = some o → ∃ d, oneD P T all o (tr i).1 (tr i).2 = some d ∧ tr (i + 1) = (putD (tr i).1 o.dst d.1, d.2)
  | [], s, s', h => by
    simp only [runOps, Option.some.injEq] at h
    exact ⟨fun _ => s, rfl, h, fun i o hi => by simp at hi⟩
  | o :: r, s, s', h => by
    simp only [runOps] at h
    cases h1 : oneD P T all o s.1 s.2 with
    | none => rw [h1] at h; cases h
    | some d =>
      rw [h1, Option.bind_some] at h
      obtain ⟨tr, t0, t1, t2⟩ := runOps_take r _ _ h
      refine ⟨fun k => match k with | 0 => s | k + 1 => tr k, rfl, t1, fun i x hi => ?_⟩
      cases i with
      | zero =>
        obtain rfl : o = x := by simpa using hi
        exact ⟨d, h1, t0⟩
      | succ i => exact t2 i x (by simpa using hi)

theorem putD_length (fr : List D) (dst : Option Tmp) (d : D) : (putD fr dst d).length = fr.length := by
  cases dst <;> simp [putD]
theorem putD_other (fr : List D) (dst : Option Tmp) (d : D) (s : Nat) (h : dst ≠ some s) : (putD fr dst d)[s]? = fr[s]? := by
  cases dst with
  | none => rfl
  | some t => simp only [putD]; rw [List.getElem?_set_ne (fun e => h (by rw [e]))]

section
variable {P : Program} {T : Tab} {all : List Oper} {tr : Nat → Fr}
theorem tr_length (ht : ∀ i o, all[i]? = some o → ∃ d, oneD P T all o (tr i).1 (tr i).2 = some d ∧ tr (i + 1) = (putD (tr i).1 o.dst d.1, d.2)) (k : Nat) (hk : k ≤ all.length) : (tr k).1.length = (tr 0).1.length := by
  induction k with
  | zero => rfl
  | succ k ih =>
    obtain ⟨d, _, h⟩ := ht k all[k] (List.getElem?_eq_getElem (by omega))
    rw [h]
    simp only
    rw [putD_length, ih (by omega)]
/-- A slot that nobody writes stays. -/
theorem tr_stays (ht : ∀ i o, all[i]? = some o → ∃ d, oneD P T all o (tr i).1 (tr i).2 = some d ∧ tr (i + 1) = (putD (tr i).1 o.dst d.1, d.2)) (s : Nat) (k m : Nat) (hkm : k ≤ m) (hm : m ≤ all.length)
    (h : ∀ j o, k ≤ j → j < m → all[j]? = some o → o.dst ≠ some s) : (tr m).1[s]? = (tr k).1[s]? := by
  induction m with
  | zero => rw [show k = 0 from by omega]
  | succ m ih =>
    by_cases he : k = m + 1
    · rw [he]
    · obtain ⟨d, _, h1⟩ := ht m all[m] (List.getElem?_eq_getElem (by omega))
      rw [h1]
      simp only
      rw [putD_other _ _ _ _ (h m _ (by omega) (by omega) (List.getElem?_eq_getElem (by omega)))]
      exact ih (by omega) (by omega) fun j o h1 h2 h3 => h j o h1 (by omega) h3
/-- So do the objects. -/
theorem tr_objs (hT : TabOk P T) (ht : ∀ i o, all[i]? = some o → ∃ d, oneD P T all o (tr i).1 (tr i).2 = some d ∧ tr (i + 1) = (putD (tr i).1 o.dst d.1, d.2)) (k m : Nat) (hkm : k ≤ m) (hm : m ≤ all.length)
    (h : ∀ j o, k ≤ j → j < m → all[j]? = some o → hWrite T o.op = false) : (tr m).2 = (tr k).2 := by
  induction m with
  | zero => rw [show k = 0 from by omega]
  | succ m ih =>
    by_cases he : k = m + 1
    · rw [he]
    · obtain ⟨d, h0, h1⟩ := ht m all[m] (List.getElem?_eq_getElem (by omega))
      rw [h1]
      simp only
      have hq := h m all[m] (by omega) (by omega) (List.getElem?_eq_getElem (by omega))
      have : d.2 = (tr m).2 := by
        unfold oneD at h0
        split at h0
        · exact stepD_calm hT hq (show stepD P T all[m].op (evalD (tr m).1) (tr m).2 = some (d.1, d.2) from h0)
        · cases h0; rfl
        · cases h0
      rw [this]
      exact ih (by omega) (by omega) fun j o h1 h2 h3 => h j o h1 (by omega) h3
end

/-- Each slot holds what it held when some operation had last written it, of those that have been carried out; so do the objects. -/
structure DrawInv (ds0 : List Deferred) (T : Tab) (ops : List Oper) (tr : Nat → Fr) (B : Nat) (S0 : Nat → Prop) (L0 : List (Nat × Nat)) (w0 : World) (d : Nat → Bool) (a : Act) (w : World) : Prop where
  defers : a.defers = ds0
  size : a.tmps.size = (tr 0).1.length
  shut : Shut ops d
  state : ∃ (S : Nat → Prop) (L : List (Nat × Nat)), Later B S0 S L0 L w0 w ∧
    (∃ k, k ≤ ops.length ∧ (k = 0 ∨ ∃ o, ops[k - 1]? = some o ∧ hWrite T o.op = true ∧ d (k - 1) = true ∧ 0 < k) ∧ (∀ j o, k ≤ j → ops[j]? = some o → hWrite T o.op = true → d j = false) ∧ HRel B S L w (tr k).2) ∧
    ∀ s, s < a.tmps.size → ∃ k, k ≤ ops.length ∧ (k = 0 ∨ ∃ o, ops[k - 1]? = some o ∧ o.dst = some s ∧ d (k - 1) = true ∧ 0 < k) ∧ (∀ j o, k ≤ j → ops[j]? = some o → o.dst = some s → d j = false) ∧
      Rep S L w (a.tmps.getD s undef) ((tr k).1.getD s .undef)

theorem stepsOk_of {F : Fence} {n : Nat} {P : Program} {ops : Array Oper} {Q : Exit → Act → World → Prop} {Inv : (Nat → Bool) → Act → World → Prop} : ∀ (l : List Oper) (k : Nat), (∀ j o, l[j]? = some o → StepOk F n P ops Q Inv (k + j) o) → stepsOk F n P ops Q Inv l k
  | [], k, h => trivial
  | o :: r, k, h => ⟨h 0 o rfl, stepsOk_of r (k + 1) fun j x hj => by
    have := h (j + 1) x (by simpa using hj)
    rwa [show k + (j + 1) = k + 1 + j from by omega] at this⟩

theorem put_getD (a : Act) (dst : Option Tmp) (v : Value) (s : Nat) (hs : s < a.tmps.size) : (a.put dst v).tmps.getD s undef = if dst = some s then v else a.tmps.getD s undef := by
  cases dst with
  | none => simp [Act.put]
  | some t =>
    simp only [Act.put, Option.some.injEq]
    rw [Array.getD_eq_getD_getElem?, Array.getElem?_setIfInBounds]
    by_cases he : t = s
    · subst he
      simp [hs]
    · simp [he]
theorem put_size (a : Act) (dst : Option Tmp) (v : Value) : (a.put dst v).tmps.size = a.tmps.size := by
  cases dst <;> simp [Act.put]
theorem HRel.drew {B : Nat} {S : Nat → Prop} {L : List (Nat × Nat)} {w : World} {H : Heap} (h : HRel B S L w H) : HRel B S L w.drew H ∧ Later B S S L L w w.drew := by
  have hl : Later B S S L L w w.drew := ⟨(Below.refl _ _).drew, kept_drew (Kept.refl _ _), fun _ h => h, List.prefix_refl _, fun _ h => .inl h, fun _ h => h⟩
  refine ⟨⟨h.len, h.small, h.base, fun id o hid ho => ?_, h.inj⟩, hl⟩
  obtain ⟨b, c, h1, h2, h3, h4⟩ := h.obj id o hid ho
  exact ⟨b, c, h1, h2, h3, h4.kept rfl (fun _ _ => hl.rep) (fun _ _ => hl.repA)⟩

set_option maxHeartbeats 1000000 in
theorem draw_ok {P : Program} {T : Tab} (hT : TabOk P T) (hm : P.follows .mixedOrders = true) {F : Fence} (hF : Wd F) {n id B N : Nat} {ops : Array Oper} {Q : Exit → Act → World → Prop} {a : Act} {w : World} {S : Nat → Prop} {L : List (Nat × Nat)} {fr fr' : Fr}
    (hd : drawOk T ops.toList = true) (h : runOps P T ops.toList ops.toList fr = some fr') (hr : RepF B N S L w a fr) (hQ : ∀ a' w' S' L', RepF B N S' L' w' a' fr' → Later B S S' L L' w w' → Q .normal a' w') : (Code.region id ops true).wpIn F n P Q a w := by
  simp only [drawOk, Bool.and_eq_true] at hd
  obtain ⟨hac, hcl⟩ := hd
  obtain ⟨tr, t0, tn, ht⟩ := runOps_take ops.toList fr fr' h
  have hlen : (tr 0).1.length = a.tmps.size := by rw [t0, ← hr.tmps.length, Array.length_toList]
  have hclash : ∀ i j x y, ops.toList[i]? = some x → ops.toList[j]? = some y → i < j → clash T ops.toList x y = true → ∀ d : Nat → Bool, Shut ops.toList d → d j = true → d i = true := by
    intro i j x y hi hj hij hc d hs hdj
    have h1 := List.all_eq_true.1 hcl (y, j) (by rw [List.mem_zipIdx_iff_getElem?]; simpa using hj)
    have h2 := List.all_eq_true.1 h1 (x, i) (by rw [List.mem_zipIdx_iff_getElem?]; simp [List.getElem?_take, hij]; simpa using hi)
    simp only [hc, Bool.not_true, Bool.false_or] at h2
    cases hg : (ancs ops.toList [])[j]? with
    | none => rw [List.getD_eq_getElem?_getD, hg] at h2; simp at h2
    | some m =>
      rw [List.getD_eq_getElem?_getD, hg] at h2
      exact ancs_ok ops.toList d hs ops.toList [] [] rfl rfl (by simp) j m hg i (by simpa using h2) hdj
  obtain ⟨hdr, hlr⟩ := hr.objs.drew
  refine region_inv hm (DrawInv a.defers T ops.toList tr B S L w) hac ?_ ?_ ?_
  · refine ⟨rfl, hlen.symm, fun i o _ h => by simp at h, S, L, hlr, ⟨0, Nat.zero_le _, .inl rfl, fun _ _ _ _ _ => rfl, by rw [t0]; exact hdr⟩, fun s hs => ⟨0, Nat.zero_le _, .inl rfl, fun _ _ _ _ _ => rfl, ?_⟩⟩
    have := (hlr.repA hr.tmps).getD s undef
    rw [t0]
    simpa using this
  · refine stepsOk_of _ 0 fun i o ho => ?_
    rw [Nat.zero_add]
    intro d a1 w1 K hdi haft hinv hK
    obtain ⟨dd, h1, h2⟩ := ht i o ho
    have hilen : i < ops.toList.length := (List.getElem?_eq_some_iff.1 ho).1
    obtain ⟨S1, L1, hlat, ⟨kh, hkh, hkh1, hkh2, hobj⟩, hslot⟩ := hinv.state
    have hshut' : Shut ops.toList (upd d i) := by
      intro i' o' ho' hd' e he hb
      by_cases hii : i' = i
      · subst hii
        rw [ho] at ho'
        cases ho'
        have := haft e he hb
        by_cases hei : e.on = i'
        · rw [hei, upd_self]
        · rw [upd_other d hei]; exact this
      · rw [upd_other d hii] at hd'
        have := hinv.shut i' o' ho' hd' e he hb
        by_cases hei : e.on = i
        · rw [hei, upd_self]
        · rw [upd_other d hei]; exact this
    -- nobody that clashes stands on the wrong side
    have before : ∀ j x, j < i → ops.toList[j]? = some x → clash T ops.toList x o = true → d j = true := by
      intro j x hj hx hc
      have := hclash j i x o hx ho hj hc (upd d i) hshut' (upd_self d i)
      rwa [upd_other d (by omega)] at this
    have behind : ∀ j x, i < j → ops.toList[j]? = some x → clash T ops.toList o x = true → d j = false := by
      intro j x hj hx hc
      cases hdj : d j with
      | false => rfl
      | true =>
        have := hclash i j o x ho hx hj hc d hinv.shut hdj
        rw [hdi] at this; cases this
    -- what is read
    have hread : ∀ s ∈ slotsRead ops.toList o, Rep S1 L1 w1 (a1.tmps.getD s undef) ((tr i).1.getD s .undef) := by
      intro s hs
      by_cases hss : s < a1.tmps.size
      · obtain ⟨k, hk, hk1, hk2, hk3⟩ := hslot s hss
        have heq : (tr i).1[s]? = (tr k).1[s]? := by
          by_cases hki : k ≤ i
          · refine tr_stays ht s k i hki (by omega) fun j x hj1 hj2 hx hxs => ?_
            have h3 := before j x hj2 hx (by simp [clash, hxs, hs])
            rw [hk2 j x hj1 hx hxs] at h3; cases h3
          · rcases hk1 with h0 | ⟨x, hx, hxs, hdx, hpos⟩
            · omega
            · exfalso
              have hne : k - 1 ≠ i := by intro e; rw [e] at hdx; rw [hdi] at hdx; cases hdx
              have := behind (k - 1) x (by omega) hx (by simp [clash, hxs, hs])
              rw [this] at hdx; cases hdx
        rw [List.getD_eq_getElem?_getD, heq, ← List.getD_eq_getElem?_getD]
        exact hk3
      · have : (tr i).1[s]? = none := by
          rw [List.getElem?_eq_none]
          have := tr_length ht i (by omega)
          have := hinv.size
          omega
        rw [List.getD_eq_getElem?_getD, this]
        simp only [Option.getD_none, Rep]
    -- what has been carried out of it, if it but reads: objects are made alone
    have hgrown : hRead o.op = true → hWrite T o.op = false → ∃ t, (tr kh).2 = (tr i).2 ++ t := by
      intro hrd hwo
      by_cases hki : kh ≤ i
      · refine ⟨[], ?_⟩
        rw [List.append_nil]
        refine (tr_objs hT ht kh i hki (by omega) fun j x hj1 hj2 hx => ?_).symm
        cases hwx : hWrite T x.op with
        | false => rfl
        | true =>
          have h3 := before j x hj2 hx (by simp [clash, hwx, hrd])
          rw [hkh2 j x hj1 hx hwx] at h3; cases h3
      · -- each write between was carried out, and so clashes not
        have hwr : ∀ j x, i < j → j < kh → ops.toList[j]? = some x → hWrite T x.op = true → hAlloc x.op = true := by
          intro j x hj1 hj2 hx hwx
          cases hal : hAlloc x.op with
          | true => rfl
          | false =>
            exfalso
            have hnd := behind j x hj1 hx (by simp [clash, hrd, hwx, hal])
            -- yet it was
            rcases hkh1 with h0 | ⟨y, hy, hwy, hdy, hpos⟩
            · omega
            · by_cases hjk : j = kh - 1
              · rw [hjk] at hnd; rw [hnd] at hdy; cases hdy
              · have := hclash j (kh - 1) x y hx hy (by omega) (by
                  have hry : hRead y.op = true := by
                    cases hq : hRead y.op with
                    | true => rfl
                    | false =>
                      exfalso
                      cases hyo : y.op with
                      | call c =>
                        rw [hyo] at hq hwy
                        obtain ⟨callee, args, ats⟩ := c
                        cases callee with
                        | builtin b => cases b <;> first | (simp [hRead] at hq; done) | (simp [hWrite] at hwy; done)
                        | value f => simp [hRead] at hq
                        | invoke => simp [hRead] at hq
                      | _ => rw [hyo] at hq hwy; first | (simp [hRead] at hq; done) | (simp [hWrite] at hwy; done)
                  simp [clash, hwx, hry]) d hinv.shut hdy
                rw [hnd] at this; cases this
        have hio : (tr (i + 1)).2 = (tr i).2 := by
          have := tr_objs hT ht i (i + 1) (by omega) (by omega) fun j x hj1 hj2 hx => by
            have : j = i := by omega
            subst this
            rw [ho] at hx; cases hx; exact hwo
          exact this
        have grow : ∀ m, i + 1 ≤ m → m ≤ kh → ∃ t, (tr m).2 = (tr i).2 ++ t := by
          intro m
          induction m with
          | zero => intro h; omega
          | succ m ih =>
            intro h1 h2
            by_cases he : m = i
            · subst he; exact ⟨[], by rw [hio, List.append_nil]⟩
            · obtain ⟨t, ht1⟩ := ih (by omega) (by omega)
              obtain ⟨dm, hm1, hm2⟩ := ht m ops.toList[m] (List.getElem?_eq_getElem (by omega))
              rw [hm2]
              simp only
              unfold oneD at hm1
              split at hm1
              · cases hwm : hWrite T ops.toList[m].op with
                | false =>
                  have := stepD_calm hT hwm (show stepD P T ops.toList[m].op (evalD (tr m).1) (tr m).2 = some (dm.1, dm.2) from hm1)
                  exact ⟨t, by rw [this, ht1]⟩
                | true =>
                  obtain ⟨t2, ht2⟩ := stepD_alloc (hwr m _ (by omega) (by omega) (List.getElem?_eq_getElem (by omega)) hwm) (show stepD P T ops.toList[m].op (evalD (tr m).1) (tr m).2 = some (dm.1, dm.2) from hm1)
                  exact ⟨t ++ t2, by rw [ht2, ht1, List.append_assoc]⟩
              · cases hm1; exact ⟨t, ht1⟩
              · cases hm1
        exact grow kh (by omega) (Nat.le_refl _)
    -- the objects, if it hangs on them
    have hobjs : hRead o.op = true → hWrite T o.op = true → (tr kh).2 = (tr i).2 := by
      intro hrd hwo
      by_cases hki : kh ≤ i
      · refine (tr_objs hT ht kh i hki (by omega) fun j x hj1 hj2 hx => ?_).symm
        cases hwx : hWrite T x.op with
        | false => rfl
        | true =>
          have h3 := before j x hj2 hx (by simp [clash, hwx, hrd])
          rw [hkh2 j x hj1 hx hwx] at h3; cases h3
      · rcases hkh1 with h0 | ⟨x, hx, hwx, hdx, hpos⟩
        · omega
        · exfalso
          have hne : kh - 1 ≠ i := by intro e; rw [e] at hdx; rw [hdi] at hdx; cases hdx
          have := behind (kh - 1) x (by omega) hx (by simp [clash, hwx, hrd, hwo])
          rw [this] at hdx; cases hdx
    have hwant : ∀ b, wantedD ops.toList o (tr i).1 = some b → Region.wanted o (yielded ops a1.tmps) = b := fun b hw => yielded_of hw fun j want t v hg hj hb => by
      have h3 := hread t (List.mem_append.2 (.inr (by simp only [hg, hj]; simp)))
      rw [List.getD_eq_getElem?_getD, hb] at h3
      simp only [Option.getD_some, Rep] at h3
      have hts : t < a1.tmps.size := by
        have h5 := (List.getElem?_eq_some_iff.1 hb).1
        exact Nat.lt_of_lt_of_eq h5 ((tr_length ht i (by omega)).trans hinv.size.symm)
      rw [Array.getD_eq_getD_getElem?, Array.getElem?_eq_getElem hts] at h3
      simp only [Option.getD_some] at h3
      rw [Array.getElem?_eq_getElem hts, h3]
    -- what comes behind
    have hnext : ∀ v w' S' L', Rep S' L' w' v dd.1 → Later B S1 S' L1 L' w1 w' →
        ((hWrite T o.op = true ∧ HRel B S' L' w' dd.2) ∨ (hWrite T o.op = false ∧ HRel B S' L' w' (tr kh).2)) → K (a1.put o.dst v) w' := by
      intro v w' S' L' hv hl hob
      refine hK _ _ ⟨by rw [put_defers]; exact hinv.defers, by rw [put_size]; exact hinv.size, hshut', S', L', hlat.trans hl, ?_, fun s hs => ?_⟩
      · rcases hob with ⟨hw, hob⟩ | ⟨hw, hob⟩
        · refine ⟨i + 1, by omega, .inr ⟨o, by simpa using ho, hw, by simp [upd_self], by omega⟩, fun j x hj hx hwx => ?_, by rw [h2]; exact hob⟩
          rw [upd_other d (by omega)]
          have hrx : hRead o.op = true ∨ True := .inr trivial
          refine behind j x (by omega) hx ?_
          have hrd : hRead x.op = true := by
            cases hq : hRead x.op with
            | true => rfl
            | false =>
              exfalso
              cases hxo : x.op with
              | call c =>
                rw [hxo] at hq hwx
                obtain ⟨callee, args, ats⟩ := c
                cases callee with
                | builtin b => cases b <;> first | (simp [hRead] at hq; done) | (simp [hWrite] at hwx; done)
                | value f => simp [hRead] at hq
                | invoke => simp [hRead] at hq
              | _ => rw [hxo] at hq hwx; first | (simp [hRead] at hq; done) | (simp [hWrite] at hwx; done)
          simp [clash, hw, hrd]
        · refine ⟨kh, hkh, ?_, fun j x hj hx hwx => ?_, hob⟩
          · rcases hkh1 with h0 | ⟨x, hx, hxs, hdx, hpos⟩
            · exact .inl h0
            · exact .inr ⟨x, hx, hxs, by by_cases e : kh - 1 = i; (rw [e, upd_self]); (rw [upd_other d e]; exact hdx), hpos⟩
          · by_cases e : j = i
            · subst e
              rw [ho] at hx; cases hx
              rw [hw] at hwx; cases hwx
            · rw [upd_other d e]; exact hkh2 j x hj hx hwx
      · rw [put_size] at hs
        rw [put_getD _ _ _ _ hs]
        by_cases hds : o.dst = some s
        · rw [if_pos hds]
          refine ⟨i + 1, by omega, .inr ⟨o, by simpa using ho, hds, by simp [upd_self], by omega⟩, fun j x hj hx hxs => ?_, ?_⟩
          · rw [upd_other d (by omega)]
            exact behind j x (by omega) hx (by simp [clash, hds, hxs])
          · rw [h2, hds]
            simp only [putD]
            have hsl : s < (tr i).1.length := by
              have := tr_length ht i (by omega)
              have := hinv.size
              omega
            rw [List.getD_eq_getElem?_getD, List.getElem?_set_self hsl]
            exact hv
        · rw [if_neg hds]
          obtain ⟨k, hk, hk1, hk2, hk3⟩ := hslot s hs
          refine ⟨k, hk, ?_, fun j x hj hx hxs => ?_, hl.rep hk3⟩
          · rcases hk1 with h0 | ⟨x, hx, hxs, hdx, hpos⟩
            · exact .inl h0
            · exact .inr ⟨x, hx, hxs, by by_cases e : k - 1 = i; (rw [e, upd_self]); (rw [upd_other d e]; exact hdx), hpos⟩
          · by_cases e : j = i
            · subst e
              rw [ho] at hx; cases hx
              exact absurd hxs hds
            · rw [upd_other d e]; exact hk2 j x hj hx hxs
    unfold oneD at h1
    split at h1
    · rename_i hw
      rw [hwant _ hw]
      simp only [if_true]
      let ρ : Operand → D := fun x => match x with
        | .tmp t => if t ∈ slotsRead ops.toList o then (tr i).1.getD t .undef else .undef
        | x => evalD (tr i).1 x
      have hρc : stepD P T o.op ρ (tr i).2 = some (dd.1, dd.2) := by
        rw [← show stepD P T o.op (evalD (tr i).1) (tr i).2 = some (dd.1, dd.2) from h1]
        refine stepD_congr P T o.op _ _ _ fun x hx => ?_
        cases x with
        | tmp t =>
          have : t ∈ slotsRead ops.toList o := by
            simp only [slotsRead, List.mem_append, List.mem_filterMap]
            exact .inl ⟨_, hx, rfl⟩
          simp only [ρ, if_pos this, evalD]
        | _ => rfl
      have hρr : ∀ x, Rep S1 L1 w1 (a1.eval x) (ρ x) := by
        intro x
        cases x with
        | tmp t =>
          simp only [ρ, Act.eval]
          split
          · rename_i hm
            exact hread t hm
          · simp only [Rep]
        | func f =>
          simp only [ρ, evalD, Rep, RepA]
          exact ⟨[], [], rfl, rfl, rfl⟩
        | _ => simp only [ρ, evalD, Rep]; rfl
      cases hrd : hRead o.op with
      | false =>
        obtain ⟨_, hall⟩ := stepD_quiet hrd hρc
        have hwr : hWrite T o.op = false := by
          cases hxo : o.op with
          | call c =>
            rw [hxo] at hrd
            obtain ⟨callee, args, ats⟩ := c
            cases callee with
            | builtin b => cases b <;> first | (simp [hRead] at hrd; done) | rfl
            | value f => simp [hRead] at hrd
            | invoke => simp [hRead] at hrd
          | _ => rw [hxo] at hrd; first | rfl | (simp [hRead] at hrd; done)
        exact stepD_ok hT hF (hall (tr kh).2) hρr hobj fun v w' S' L' q1 q2 q3 => hnext v w' S' L' q1 q3 (.inr ⟨hwr, q2⟩)
      | true =>
        cases hwr : hWrite T o.op with
        | true =>
          have hob' : HRel B S1 L1 w1 (tr i).2 := by rw [← hobjs hrd hwr]; exact hobj
          exact stepD_ok hT hF hρc hρr hob' fun v w' S' L' q1 q2 q3 => hnext v w' S' L' q1 q3 (.inl ⟨hwr, q2⟩)
        | false =>
          obtain ⟨t, htt⟩ := hgrown hrd hwr
          have hcalm := stepD_calm hT hwr hρc
          have hmono := stepD_mono hT hwr hρc t
          rw [← htt] at hmono
          exact stepD_ok hT hF hmono hρr hobj fun v w' S' L' q1 q2 q3 => hnext v w' S' L' q1 q3 (.inr ⟨hwr, q2⟩)
    · rename_i hw
      rw [hwant _ hw]
      simp only [Bool.false_eq_true, if_false]
      cases h1
      refine ⟨fun f _ => hF.fn f, ?_⟩
      have hput : ∀ (b : Bool), hWrite T o.op = b → K (a1.put o.dst undef) w1 := by
        intro b hb
        cases b with
        | false => exact hnext _ _ S1 L1 (by simp only [Rep]) Later.refl (.inr ⟨hb, hobj⟩)
        | true =>
          refine hnext _ _ S1 L1 (by simp only [Rep]) Later.refl (.inl ⟨hb, ?_⟩)
          have hrd : hRead o.op = true := by
            cases hq : hRead o.op with
            | true => rfl
            | false =>
              exfalso
              cases hxo : o.op with
              | call c =>
                rw [hxo] at hq hb
                obtain ⟨callee, args, ats⟩ := c
                cases callee with
                | builtin b => cases b <;> first | (simp [hRead] at hq; done) | (simp [hWrite] at hb; done)
                | value f => simp [hRead] at hq
                | invoke => simp [hRead] at hq
              | _ => rw [hxo] at hq hb; first | (simp [hRead] at hq; done) | (simp [hWrite] at hb; done)
          rw [← hobjs hrd hb]; exact hobj
      exact hput _ rfl
    · cases h1
  · intro d a1 w1 hall hinv
    obtain ⟨S1, L1, hlat, ⟨kh, hkh, hkh1, hkh2, hobj⟩, hslot⟩ := hinv.state
    have hsz := hinv.size
    have hfl : fr'.1.length = a1.tmps.size := by rw [← tn, tr_length ht _ (Nat.le_refl _), hsz]
    have hobj' : HRel B S1 L1 w1 fr'.2 := by
      have : (tr ops.toList.length).2 = (tr kh).2 := by
        refine tr_objs hT ht kh _ hkh (Nat.le_refl _) fun j x hj1 hj2 hx => ?_
        cases hwx : hWrite T x.op with
        | false => rfl
        | true =>
          have h1 := hkh2 j x hj1 hx hwx
          rw [hall j (by simpa using hj2)] at h1; cases h1
      rw [← tn, this]; exact hobj
    refine hQ _ _ S1 L1 ⟨by rw [hinv.defers]; exact hr.defers.later hlat, ?_, hobj'⟩ hlat
    have key : ∀ s, s < a1.tmps.size → Rep S1 L1 w1 (a1.tmps.getD s undef) (fr'.1.getD s .undef) := by
      intro s hs
      obtain ⟨k, hk, hk1, hk2, hk3⟩ := hslot s hs
      have heq : (tr ops.toList.length).1[s]? = (tr k).1[s]? := by
        refine tr_stays ht s k _ hk (Nat.le_refl _) fun j x hj1 hj2 hx hxs => ?_
        have h1 := hk2 j x hj1 hx hxs
        rw [hall j (by simpa using hj2)] at h1; cases h1
      rw [← tn, List.getD_eq_getElem?_getD, heq, ← List.getD_eq_getElem?_getD]
      exact hk3
    have build : ∀ (xs : List Value) (ds : List D), xs.length = ds.length → (∀ s, s < xs.length → Rep S1 L1 w1 (xs.getD s undef) (ds.getD s .undef)) → RepA S1 L1 w1 xs ds := by
      intro xs
      induction xs with
      | nil => intro ds hl _; cases ds with
        | nil => exact RepA.nil
        | cons => simp at hl
      | cons x r ih =>
        intro ds hl hh
        cases ds with
        | nil => simp at hl
        | cons e t => exact RepA.cons (by simpa using hh 0 (by simp)) (ih t (by simpa using hl) fun s hs => by simpa using hh (s + 1) (by simpa using hs))
    refine build _ _ (by rw [Array.length_toList, hfl]) fun s hs => ?_
    have := key s (by simpa using hs)
    simpa using this
end Go.Proofs.Ytnmgfobpcengkaa
