import Derived.Test.YtinnbafplhcnpaaGreatHd
section
namespace Go.Proofs.YtinnbafplhcnpaaGreat
open Go.RowKit
set_option linter.unusedVariables false
set_option linter.unusedSimpArgs false
theorem Jst         {P : Program} {T : Tab} {all : List Oper} : ∀ (ops : List Oper) (s s' : Fr), Jiu    P T all ops s = some s' → ∃ tr : Nat → Fr, tr 0 = s ∧ tr ops.length = s' ∧ (∀ i, i ≤ ops.length → (Jev     P T all ops s)[i]? = some (tr i).2) ∧
    ∀ i o, ops[i]? = some o -> ∃ d, oneD P T all o (tr i).1 (tr i).2 = some d /\ tr (i + 1) = (putD (tr i).1 o.dst d.1, d.2)
  | [], s, s', h => by
    simp only [Jiu, Option.some.injEq] at h
    exact ⟨fun _ => s, rfl, h, fun i hi => by
      obtain rfl : i = 0 := by simpa using hi
      rfl, fun i o hi => by simp at hi⟩
  | o :: r, s, s', h => by
    simp only [Jiu] at h
    cases h1 : oneD P T all o s.1 s.2 with
    | none => rw [h1] at h; cases h
    | some d =>
      rw [h1, Option.bind_some] at h
      obtain ⟨tr, t0, t1, t3, t2⟩ := Jst r _ _ h
      refine ⟨fun k => match k with | 0 => s | k + 1 => tr k, rfl, t1, fun i hi => ?_, fun i x hi => ?_⟩
      · cases i with
        | zero => simp [Jev]
        | succ i =>
          simp only [Jev, h1, List.getElem?_cons_succ]
          exact t3 i (by simpa using hi)
      cases i with
      | zero =>
        obtain rfl : o = x := by simpa using hi
        exact ⟨d, h1, t0⟩
      | succ i => exact t2 i x (by simpa using hi)
theorem Qcp (fr : List D) (dst : Option Tmp) (d : D) : (putD fr dst d).length = fr.length := by
  cases dst <;> simp [putD]
theorem Qgx (fr : List D) (dst : Option Tmp) (d : D) (s : Nat) (h : dst ≠ some s) : (putD fr dst d)[s]? = fr[s]? := by
  cases dst with
  | none => rfl
  | some t => simp only [putD]; rw [List.getElem?_set_ne (fun e => h (by rw [e]))]
section
variable {P : Program} {T : Tab} {all : List Oper} {tr : Nat -> Fr}
theorem Jos (ht : ∀ i o, all[i]? = some o -> ∃ d, oneD P T all o (tr i).1 (tr i).2 = some d /\ tr (i + 1) = (putD (tr i).1 o.dst d.1, d.2)) (k : Nat) (hk : k <= all.length) : (tr k).1.length = (tr 0).1.length := by
  induction k with
  | zero => rfl
  | succ k ih =>
    obtain ⟨d, _, h⟩ := ht k all[k] (List.getElem?_eq_getElem (by omega))
    rw [h]
    simp only
    rw [Qcp, ih (by omega)]
theorem Jwh      (ht : ∀ i o, all[i]? = some o → ∃ d, oneD P T all o (tr i).1 (tr i).2 = some d ∧ tr (i + 1) = (putD (tr i).1 o.dst d.1, d.2)) (s : Nat) (k m : Nat) (hkm : k ≤ m) (hm : m ≤ all.length)
    (h : ∀ j o, k <= j -> j < m -> all[j]? = some o -> o.dst ≠ some s) : (tr m).1[s]? = (tr k).1[s]? := by
  induction m with
  | zero => rw [show k = 0 from by omega]
  | succ m ih =>
    by_cases he : k = m + 1
    · rw [he]
    · obtain ⟨d, _, h1⟩ := ht m all[m] (List.getElem?_eq_getElem (by omega))
      rw [h1]
      simp only
      rw [Qgx _ _ _ _ (h m _ (by omega) (by omega) (List.getElem?_eq_getElem (by omega)))]
      exact ih (by omega) (by omega) fun j o h1 h2 h3 => h j o h1 (by omega) h3
theorem Jwi     (hT : TabOk P T) (ht : ∀ i o, all[i]? = some o → ∃ d, oneD P T all o (tr i).1 (tr i).2 = some d ∧ tr (i + 1) = (putD (tr i).1 o.dst d.1, d.2)) (k m : Nat) (hkm : k ≤ m) (hm : m ≤ all.length)
    (h : ∀ j o, k <= j -> j < m -> all[j]? = some o -> Jbe T o.op = false) : (tr m).2 = (tr k).2 := by
  induction m with
  | zero => rw [show k = 0 from by omega]
  | succ m ih =>
    by_cases he : k = m + 1
    · rw [he]
    · obtain ⟨d, h0, h1⟩ := ht m all[m] (List.getElem?_eq_getElem (by omega))
      rw [h1]
      simp only
      have hq := h m all[m] (by omega) (by omega) (List.getElem?_eq_getElem (by omega))
      have : d.2 = (tr m).2 := by
        unfold oneD at h0
        split at h0
        · exact Jp8 hT hq (show stepD P T all[m].op (Jd9 (tr m).1) (tr m).2 = some (d.1, d.2) from h0)
        · cases h0; rfl
        · cases h0
      rw [this]
      exact ih (by omega) (by omega) fun j o h1 h2 h3 => h j o h1 (by omega) h3
end
theorem Qf2 {T : Tab} {op : Op} (h : Jbe T op = true) : Jdp op = true := by
  cases hq : Jdp op with
  | true => rfl
  | false =>
    exfalso
    cases op with
    | call c =>
      obtain ⟨callee, args, ats⟩ := c
      cases callee with
      | builtin b => cases b <;> first | (simp [Jdp] at hq; done) | (simp [Jbe] at h; done)
      | value f => simp [Jdp] at hq
      | invoke => simp [Jdp] at hq
    | _ => first | (simp [Jdp] at hq; done) | (simp [Jbe] at h; done)
def Exc (T : Tab) (ops : List Oper) (o : Oper) (i : Nat) (x : Oper) (j : Nat) (ρ : Operand -> D) (hs : List Heap) : Prop := ∃ gs, Jk9 T ops o i x j = some gs /\ ∀ g ∈ gs, g.holds ρ hs = true
theorem Qa5 {op : Op} (h : Jkg op = true) : Jjq op = some [] := by
  cases op <;> first | rfl | (simp [Jkg] at h; done)
section
variable {P : Program} {T : Tab} {all : List Oper} {tr : Nat -> Fr}
theorem Qbv (ht : ∀ i o, all[i]? = some o -> ∃ d, oneD P T all o (tr i).1 (tr i).2 = some d /\ tr (i + 1) = (putD (tr i).1 o.dst d.1, d.2)) (a : Operand) (k m : Nat) (hs : stable all k a = true) (hkm : k <= m) (hm : m <= all.length) : Jd9 (tr m).1 a = Jd9 (tr k).1 a := by
  cases a with
  | tmp t =>
    have := Jwh ht t k m hkm hm fun j o h1 h2 h3 => by
      simp only [stable, List.all_eq_true] at hs
      have := hs o (by rw [List.mem_iff_getElem?]; exact ⟨j - k, by rw [List.getElem?_drop, show k + (j - k) = j from by omega]; exact h3⟩)
      simpa using this
    simp only [Jd9, List.getD_eq_getElem?_getD, this]
  | _ => rfl
theorem Jzf       (hT : TabOk P T) (ht : ∀ i o, all[i]? = some o → ∃ d, oneD P T all o (tr i).1 (tr i).2 = some d ∧ tr (i + 1) = (putD (tr i).1 o.dst d.1, d.2)) (id k m : Nat) (hkm : k ≤ m) (hm : m ≤ all.length) (hid : id < (tr k).2.length)
    (h : ∀ j o, k <= j -> j < m -> all[j]? = some o -> Jbe T o.op = true -> (∃ ts, Jjq o.op = some ts /\ ∀ b ∈ ts, idD (Jd9 (tr j).1 b) ≠ some id) \/ Qgd id (tr j).2 (tr (j + 1)).2 = true) : (tr m).2[id]? = (tr k).2[id]? /\ id < (tr m).2.length := by
  induction m with
  | zero => obtain rfl : k = 0 := by omega
            exact ⟨rfl, hid⟩
  | succ m ih =>
    by_cases he : k = m + 1
    · subst he; exact ⟨rfl, hid⟩
    · obtain ⟨i1, i2⟩ := ih (by omega) (by omega) fun j o h1 h2 h3 => h j o h1 (by omega) h3
      obtain ⟨d, h0, h1⟩ := ht m all[m] (List.getElem?_eq_getElem (by omega))
      rw [h1]
      simp only
      have key : d.2[id]? = (tr m).2[id]? /\ id < d.2.length := by
        unfold oneD at h0
        split at h0
        · cases hw : Jbe T all[m].op with
          | false =>
            have := Jp8 hT hw (show stepD P T all[m].op (Jd9 (tr m).1) (tr m).2 = some (d.1, d.2) from h0)
            rw [this]; exact ⟨rfl, i2⟩
          | true =>
            rcases h m all[m] (by omega) (by omega) (List.getElem?_eq_getElem (by omega)) hw with ⟨ts, q1, q2⟩ | q
            · have := Qbn i2 q1 q2 (show stepD P T all[m].op (Jd9 (tr m).1) (tr m).2 = some (d.1, d.2) from h0)
              exact ⟨this.1, by omega⟩
            · rw [h1] at q
              exact Qnb q
        · cases h0; exact ⟨rfl, i2⟩
        · cases h0
      exact ⟨key.1.trans i1, key.2⟩
end
structure DrawInv (ds0 : List Deferred) (T : Tab) (ops : List Oper) (tr : Nat -> Fr) (B : Nat) (S0 : Nat -> Prop) (L0 : List (Nat × Nat)) (w0 : World) (d : Nat -> Bool) (a : Act) (w : World) : Prop where
  defers : a.defers = ds0
  size : a.tmps.size = (tr 0).1.length
  shut : Shut ops d
  state : ∃ (S : Nat -> Prop) (L : List (Nat × Nat)), Later B S0 S L0 L w0 w /\
    (∃ k, k <= ops.length /\ (k = 0 \/ ∃ o, ops[k - 1]? = some o /\ Jbe T o.op = true /\ d (k - 1) = true /\ 0 < k) /\ (∀ j o, k <= j -> ops[j]? = some o -> Jbe T o.op = true -> d j = false) /\ HRel B S L w (tr k).2) /\
    ∀ s, s < a.tmps.size -> ∃ k, k <= ops.length /\ (k = 0 \/ ∃ o, ops[k - 1]? = some o /\ o.dst = some s /\ d (k - 1) = true /\ 0 < k) /\ (∀ j o, k <= j -> ops[j]? = some o -> o.dst = some s -> d j = false) /\
      Rep S L w (a.tmps.getD s undef) ((tr k).1.getD s .undef)
theorem Ju6 {F : Fence} {n : Nat} {P : Program} {ops : Array Oper} {Q : Exit -> Act -> World -> Prop} {Inv : (Nat -> Bool) -> Act -> World -> Prop} : ∀ (l : List Oper) (k : Nat), (∀ j o, l[j]? = some o -> Qlv F n P ops Q Inv (k + j) o) -> Jsj F n P ops Q Inv l k
  | [], k, h => trivial
  | o :: r, k, h => ⟨h 0 o rfl, Ju6 r (k + 1) fun j x hj => by
    have := h (j + 1) x (by simpa using hj)
    rwa [show k + (j + 1) = k + 1 + j from by omega] at this⟩
theorem Qnm (a : Act) (dst : Option Tmp) (v : Value) (s : Nat) (hs : s < a.tmps.size) : (a.put dst v).tmps.getD s undef = if dst = some s then v else a.tmps.getD s undef := by
  cases dst with
  | none => simp [Act.put]
  | some t =>
    simp only [Act.put, Option.some.injEq]
    rw [Array.getD_eq_getD_getElem?, Array.getElem?_setIfInBounds]
    by_cases he : t = s
    · subst he
      simp [hs]
    · simp [he]
theorem Qek (a : Act) (dst : Option Tmp) (v : Value) : (a.put dst v).tmps.size = a.tmps.size := by
  cases dst <;> simp [Act.put]
theorem HRel.drew {B : Nat} {S : Nat -> Prop} {L : List (Nat × Nat)} {w : World} {H : Heap} (h : HRel B S L w H) : HRel B S L w.drew H /\ Later B S S L L w w.drew := by
  have hl : Later B S S L L w w.drew := ⟨(Below.refl _ _).drew, Jzu (Kept.refl _ _), fun _ h => h, List.prefix_refl _, fun _ h => .inl h, fun _ h => h⟩
  refine ⟨⟨h.len, h.small, h.base, fun id o hid ho => ?_, h.inj⟩, hl⟩
  obtain ⟨b, c, h1, h2, h3, h4⟩ := h.obj id o hid ho
  exact ⟨b, c, h1, h2, h3, h4.kept rfl (fun _ _ => hl.rep) (fun _ _ => hl.repA)⟩
set_option maxHeartbeats 1000000 in
theorem Qsl     {P : Program} {T : Tab} (hT : TabOk P T) (hm : P.follows .mixedOrders = true) {F : Fence} (hF : Wd F) {n id B N : Nat} {ops : Array Oper} {Q : Exit → Act → World → Prop} {a : Act} {w : World} {S : Nat → Prop} {L : List (Nat × Nat)} {fr fr' : Fr}
    (hd : Qfn T ops.toList = true) (hg : ∀ g ∈ Jr5 T ops.toList, g.holds (Jd9 fr'.1) (Jev P T ops.toList ops.toList fr) = true) (h : Jiu P T ops.toList ops.toList fr = some fr') (hr : RepF B N S L w a fr) (hQ : ∀ a' w' S' L', RepF B N S' L' w' a' fr' -> Later B S S' L L' w w' -> Q .normal a' w') : (Code.region id ops true).wpIn F n P Q a w := by
  simp only [Qfn, Bool.and_eq_true] at hd
  obtain ⟨hac, hcl⟩ := hd
  obtain ⟨tr, t0, tn, th, ht⟩ := Jst ops.toList fr fr' h
  have hlen : (tr 0).1.length = a.tmps.size := by rw [t0, <- hr.tmps.length, Array.length_toList]
  have hpair : ∀ i j x y, ops.toList[i]? = some x → ops.toList[j]? = some y → i < j → (∀ d : Nat → Bool, Shut ops.toList d → d j = true → d i = true) ∨
      (Jio ops.toList x y = false /\ (Ji1 T x y = false \/ ∃ gs, Jvu T ops.toList x i y j = some gs /\ ∀ g ∈ gs, g.holds (Jd9 fr'.1) (Jev P T ops.toList ops.toList fr) = true)) := by
    intro i j x y hi hj hij
    have mj : (y, j) ∈ ops.toList.zipIdx := by rw [List.mem_zipIdx_iff_getElem?]; simpa using hj
    have mi : (x, i) ∈ (ops.toList.take j).zipIdx := by rw [List.mem_zipIdx_iff_getElem?]; simp [List.getElem?_take, hij]; simpa using hi
    have h1 := List.all_eq_true.1 hcl (y, j) mj
    have h2 := List.all_eq_true.1 h1 (x, i) mi
    simp only [Bool.or_eq_true, Bool.and_eq_true, Bool.not_eq_true'] at h2
    cases ho : ordB ops.toList i j with
    | true =>
      refine .inl fun d hs hdj => ?_
      unfold ordB at ho
      cases hgt : (ancs ops.toList [])[j]? with
      | none => rw [List.getD_eq_getElem?_getD, hgt] at ho; simp at ho
      | some m =>
        rw [List.getD_eq_getElem?_getD, hgt] at ho
        exact Qs5 ops.toList d hs ops.toList [] [] rfl rfl (by simp) j m hgt i (by simpa using ho) hdj
    | false =>
      rw [ho] at h2
      simp only [Bool.false_eq_true, false_or] at h2
      refine .inr ⟨h2.1, ?_⟩
      cases hh : Ji1 T x y with
      | false => exact .inl rfl
      | true =>
        rw [hh] at h2
        simp only [Bool.true_eq_false, false_or] at h2
        obtain ⟨gs, hgs⟩ := Option.isSome_iff_exists.1 h2.2
        refine .inr ⟨gs, hgs, fun g hgm => hg g ?_⟩
        unfold Jr5
        refine List.mem_flatten.2 ⟨_, List.mem_map.2 ⟨(y, j), mj, rfl⟩, ?_⟩
        refine List.mem_flatten.2 ⟨_, List.mem_map.2 ⟨(x, i), mi, rfl⟩, ?_⟩
        simp only [hh, ho, Bool.not_true, Bool.or_self, Bool.false_eq_true, if_false, hgs, Option.getD_some]
        exact hgm
  have hww : ∀ i j x y, ops.toList[i]? = some x -> ops.toList[j]? = some y -> i < j -> Jbe T x.op = true -> Jbe T y.op = true -> ∀ d : Nat -> Bool, Shut ops.toList d -> d j = true -> d i = true := by
    intro i j x y hi hj hij hx hy
    rcases hpair i j x y hi hj hij with h1 | ⟨_, h1⟩
    · exact h1
    · have hry : Jdp y.op = true := Qf2 hy
      rcases h1 with h1 | ⟨gs, h1, _⟩
      · simp [Ji1, hx, hry] at h1
      · simp [Jvu, hx, hy] at h1
  obtain ⟨hdr, hlr⟩ := hr.objs.drew
  refine Jsy hm (DrawInv a.defers T ops.toList tr B S L w) hac ?_ ?_ ?_
  · refine ⟨rfl, hlen.symm, fun i o _ h => by simp at h, S, L, hlr, ⟨0, Nat.zero_le _, .inl rfl, fun _ _ _ _ _ => rfl, by rw [t0]; exact hdr⟩, fun s hs => ⟨0, Nat.zero_le _, .inl rfl, fun _ _ _ _ _ => rfl, ?_⟩⟩
    have := (hlr.repA hr.tmps).getD s undef
    rw [t0]
    simpa using this
  · refine Ju6 _ 0 fun i o ho => ?_
    rw [Nat.zero_add]
    intro d a1 w1 K hdi haft hinv hK
    obtain ⟨dd, h1, h2⟩ := ht i o ho
    have hilen : i < ops.toList.length := (List.getElem?_eq_some_iff.1 ho).1
    obtain ⟨S1, L1, hlat, ⟨kh, hkh, hkh1, hkh2, hobj⟩, hslot⟩ := hinv.state
    have hshut' : Shut ops.toList (upd d i) := by
      intro i' o' ho' hd' e he hb
      by_cases hii : i' = i
      · subst hii
        rw [ho] at ho'
        cases ho'
        have := haft e he hb
        by_cases hei : e.on = i'
        · rw [hei, Jee]
        · rw [Jbl d hei]; exact this
      · rw [Jbl d hii] at hd'
        have := hinv.shut i' o' ho' hd' e he hb
        by_cases hei : e.on = i
        · rw [hei, Jee]
        · rw [Jbl d hei]; exact this
    -- nobody that clashes stands on the wrong side
    have before : ∀ j x, j < i -> ops.toList[j]? = some x -> Jio ops.toList x o = true -> d j = true := by
      intro j x hj hx hc
      rcases hpair j i x o hx ho hj with h1 | ⟨h1, _⟩
      · have := h1 (upd d i) hshut' (Jee d i)
        rwa [Jbl d (by omega)] at this
      · rw [hc] at h1; cases h1
    have notyet : ∀ j x, i < j -> ops.toList[j]? = some x -> (∀ d : Nat -> Bool, Shut ops.toList d -> d j = true -> d i = true) -> d j = false := by
      intro j x hj hx h1
      cases hdj : d j with
      | false => rfl
      | true =>
        have := h1 d hinv.shut hdj
        rw [hdi] at this; cases this
    have behind : ∀ j x, i < j -> ops.toList[j]? = some x -> Jio ops.toList o x = true -> d j = false := by
      intro j x hj hx hc
      rcases hpair i j o x ho hx hj with h1 | ⟨h1, _⟩
      · exact notyet j x hj hx h1
      · rw [hc] at h1; cases h1
    have hwB : ∀ j x, j < i -> ops.toList[j]? = some x -> Jbe T x.op = true -> Jbe T o.op = true -> d j = true := by
      intro j x hj hx hw1 hw2
      have := hww j i x o hx ho hj hw1 hw2 (upd d i) hshut' (Jee d i)
      rwa [Jbl d (by omega)] at this
    have hwA : ∀ j x, i < j -> ops.toList[j]? = some x -> Jbe T o.op = true -> Jbe T x.op = true -> d j = false := fun j x hj hx hw1 hw2 => notyet j x hj hx (hww i j o x ho hx hj hw1 hw2)
    have hrB : ∀ j x, j < i -> ops.toList[j]? = some x -> Jbe T x.op = true -> Jdp o.op = true -> Jbe T o.op = false -> d j = true \/ Exc T ops.toList o i x j (Jd9 fr'.1) (Jev P T ops.toList ops.toList fr) := by
      intro j x hj hx hw1 hro hwo
      rcases hpair j i x o hx ho hj with h1 | ⟨_, h1⟩
      · left
        have := h1 (upd d i) hshut' (Jee d i)
        rwa [Jbl d (by omega)] at this
      · rcases h1 with h1 | ⟨gs, h1, h2⟩
        · simp [Ji1, hw1, hro] at h1
        · right
          simp only [Jvu, hw1, hwo, Bool.not_true, Bool.false_and, Bool.false_eq_true, if_false, Bool.not_false, Bool.and_self, if_true] at h1
          exact ⟨gs, h1, h2⟩
    have hrA : ∀ j x, i < j -> ops.toList[j]? = some x -> Jbe T x.op = true -> Jkg x.op = false -> Jdp o.op = true -> Jbe T o.op = false -> d j = false \/ Exc T ops.toList o i x j (Jd9 fr'.1) (Jev P T ops.toList ops.toList fr) := by
      intro j x hj hx hw1 hal hro hwo
      rcases hpair i j o x ho hx hj with h1 | ⟨_, h1⟩
      · exact .inl (notyet j x hj hx h1)
      · rcases h1 with h1 | ⟨gs, h1, h2⟩
        · simp [Ji1, hw1, hro, hal] at h1
        · right
          simp only [Jvu, hw1, hwo, Bool.not_true, Bool.false_and, Bool.false_eq_true, if_false, Bool.not_false, Bool.and_self, if_true] at h1
          exact ⟨gs, h1, h2⟩
    have hbetween : ∀ j x, i < j -> j < kh -> ops.toList[j]? = some x -> Jbe T x.op = true -> d j = true := by
      intro j x hj1 hj2 hx hwx
      rcases hkh1 with h0 | ⟨y, hy, hwy, hdy, hpos⟩
      · omega
      · by_cases hjk : j = kh - 1
        · rw [hjk]; exact hdy
        · exact hww j (kh - 1) x y hx hy (by omega) hwx hwy d hinv.shut hdy
    -- what is read
    have hread : ∀ s ∈ Jhg ops.toList o, Rep S1 L1 w1 (a1.tmps.getD s undef) ((tr i).1.getD s .undef) := by
      intro s hs
      by_cases hss : s < a1.tmps.size
      · obtain ⟨k, hk, hk1, hk2, hk3⟩ := hslot s hss
        have heq : (tr i).1[s]? = (tr k).1[s]? := by
          by_cases hki : k <= i
          · refine Jwh ht s k i hki (by omega) fun j x hj1 hj2 hx hxs => ?_
            have h3 := before j x hj2 hx (by simp [Jio, hxs, hs])
            rw [hk2 j x hj1 hx hxs] at h3; cases h3
          · rcases hk1 with h0 | ⟨x, hx, hxs, hdx, hpos⟩
            · omega
            · exfalso
              have hne : k - 1 ≠ i := by intro e; rw [e] at hdx; rw [hdi] at hdx; cases hdx
              have := behind (k - 1) x (by omega) hx (by simp [Jio, hxs, hs])
              rw [this] at hdx; cases hdx
        rw [List.getD_eq_getElem?_getD, heq, <- List.getD_eq_getElem?_getD]
        exact hk3
      · have : (tr i).1[s]? = none := by
          rw [List.getElem?_eq_none]
          have := Jos ht i (by omega)
          have := hinv.size
          omega
        rw [List.getD_eq_getElem?_getD, this]
        simp only [Option.getD_none, Rep]
    -- what has been carried out of it, if it but reads: objects are made alone
    have hgrown : Jdp o.op = true -> Jbe T o.op = false -> (∀ j x, ops.toList[j]? = some x -> ¬ Exc T ops.toList o i x j (Jd9 fr'.1) (Jev P T ops.toList ops.toList fr)) -> ∃ t, (tr kh).2 = (tr i).2 ++ t := by
      intro hrd hwo hno
      by_cases hki : kh <= i
      · refine ⟨[], ?_⟩
        rw [List.append_nil]
        refine (Jwi hT ht kh i hki (by omega) fun j x hj1 hj2 hx => ?_).symm
        cases hwx : Jbe T x.op with
        | false => rfl
        | true =>
          have h3 := (hrB j x hj2 hx hwx hrd hwo).resolve_right (hno j x hx)
          rw [hkh2 j x hj1 hx hwx] at h3; cases h3
      · -- each write between was carried out, and so clashes not
        have hwr : ∀ j x, i < j -> j < kh -> ops.toList[j]? = some x -> Jbe T x.op = true -> Jkg x.op = true := by
          intro j x hj1 hj2 hx hwx
          cases hal : Jkg x.op with
          | true => rfl
          | false =>
            exfalso
            have hnd := (hrA j x hj1 hx hwx hal hrd hwo).resolve_right (hno j x hx)
            rw [hbetween j x hj1 hj2 hx hwx] at hnd; cases hnd
        have hio : (tr (i + 1)).2 = (tr i).2 := by
          have := Jwi hT ht i (i + 1) (by omega) (by omega) fun j x hj1 hj2 hx => by
            have : j = i := by omega
            subst this
            rw [ho] at hx; cases hx; exact hwo
          exact this
        have grow : ∀ m, i + 1 <= m -> m <= kh -> ∃ t, (tr m).2 = (tr i).2 ++ t := by
          intro m
          induction m with
          | zero => intro h; omega
          | succ m ih =>
            intro h1 h2
            by_cases he : m = i
            · subst he; exact ⟨[], by rw [hio, List.append_nil]⟩
            · obtain ⟨t, ht1⟩ := ih (by omega) (by omega)
              obtain ⟨dm, hm1, hm2⟩ := ht m ops.toList[m] (List.getElem?_eq_getElem (by omega))
              rw [hm2]
              simp only
              unfold oneD at hm1
              split at hm1
              · cases hwm : Jbe T ops.toList[m].op with
                | false =>
                  have := Jp8 hT hwm (show stepD P T ops.toList[m].op (Jd9 (tr m).1) (tr m).2 = some (dm.1, dm.2) from hm1)
                  exact ⟨t, by rw [this, ht1]⟩
                | true =>
                  obtain ⟨t2, ht2⟩ := Qbu (hwr m _ (by omega) (by omega) (List.getElem?_eq_getElem (by omega)) hwm) (show stepD P T ops.toList[m].op (Jd9 (tr m).1) (tr m).2 = some (dm.1, dm.2) from hm1)
                  exact ⟨t ++ t2, by rw [ht2, ht1, List.append_assoc]⟩
              · cases hm1; exact ⟨t, ht1⟩
              · cases hm1
        exact grow kh (by omega) (Nat.le_refl _)
    -- the objects, if it hangs on them
    have hobjs : Jbe T o.op = true -> (tr kh).2 = (tr i).2 := by
      intro hwo
      by_cases hki : kh <= i
      · refine (Jwi hT ht kh i hki (by omega) fun j x hj1 hj2 hx => ?_).symm
        cases hwx : Jbe T x.op with
        | false => rfl
        | true =>
          have h3 := hwB j x hj2 hx hwx hwo
          rw [hkh2 j x hj1 hx hwx] at h3; cases h3
      · rcases hkh1 with h0 | ⟨x, hx, hwx, hdx, hpos⟩
        · omega
        · exfalso
          have hne : kh - 1 ≠ i := by intro e; rw [e] at hdx; rw [hdi] at hdx; cases hdx
          have := hwA (kh - 1) x (by omega) hx hwo hwx
          rw [this] at hdx; cases hdx
    have hwant : ∀ b, Jjp ops.toList o (tr i).1 = some b -> Region.wanted o (yielded ops a1.tmps) = b := fun b hw => Ju3 hw fun j want t v hg hj hb => by
      have h3 := hread t (List.mem_append.2 (.inr (by simp only [hg, hj]; simp)))
      rw [List.getD_eq_getElem?_getD, hb] at h3
      simp only [Option.getD_some, Rep] at h3
      have hts : t < a1.tmps.size := by
        have h5 := (List.getElem?_eq_some_iff.1 hb).1
        exact Nat.lt_of_lt_of_eq h5 ((Jos ht i (by omega)).trans hinv.size.symm)
      rw [Array.getD_eq_getD_getElem?, Array.getElem?_eq_getElem hts] at h3
      simp only [Option.getD_some] at h3
      rw [Array.getElem?_eq_getElem hts, h3]
    -- what comes behind
    have hnext : ∀ v w' S' L', Rep S' L' w' v dd.1 → Later B S1 S' L1 L' w1 w' →
        ((Jbe T o.op = true /\ HRel B S' L' w' dd.2) \/ (Jbe T o.op = false /\ HRel B S' L' w' (tr kh).2)) -> K (a1.put o.dst v) w' := by
      intro v w' S' L' hv hl hob
      refine hK _ _ ⟨by rw [put_defers]; exact hinv.defers, by rw [Qek]; exact hinv.size, hshut', S', L', hlat.trans hl, ?_, fun s hs => ?_⟩
      · rcases hob with ⟨hw, hob⟩ | ⟨hw, hob⟩
        · refine ⟨i + 1, by omega, .inr ⟨o, by simpa using ho, hw, by simp [Jee], by omega⟩, fun j x hj hx hwx => ?_, by rw [h2]; exact hob⟩
          rw [Jbl d (by omega)]
          exact hwA j x (by omega) hx hw hwx
        · refine ⟨kh, hkh, ?_, fun j x hj hx hwx => ?_, hob⟩
          · rcases hkh1 with h0 | ⟨x, hx, hxs, hdx, hpos⟩
            · exact .inl h0
            · exact .inr ⟨x, hx, hxs, by by_cases e : kh - 1 = i; (rw [e, Jee]); (rw [Jbl d e]; exact hdx), hpos⟩
          · by_cases e : j = i
            · subst e
              rw [ho] at hx; cases hx
              rw [hw] at hwx; cases hwx
            · rw [Jbl d e]; exact hkh2 j x hj hx hwx
      · rw [Qek] at hs
        rw [Qnm _ _ _ _ hs]
        by_cases hds : o.dst = some s
        · rw [if_pos hds]
          refine ⟨i + 1, by omega, .inr ⟨o, by simpa using ho, hds, by simp [Jee], by omega⟩, fun j x hj hx hxs => ?_, ?_⟩
          · rw [Jbl d (by omega)]
            exact behind j x (by omega) hx (by simp [Jio, hds, hxs])
          · rw [h2, hds]
            simp only [putD]
            have hsl : s < (tr i).1.length := by
              have := Jos ht i (by omega)
              have := hinv.size
              omega
            rw [List.getD_eq_getElem?_getD, List.getElem?_set_self hsl]
            exact hv
        · rw [if_neg hds]
          obtain ⟨k, hk, hk1, hk2, hk3⟩ := hslot s hs
          refine ⟨k, hk, ?_, fun j x hj hx hxs => ?_, hl.rep hk3⟩
          · rcases hk1 with h0 | ⟨x, hx, hxs, hdx, hpos⟩
            · exact .inl h0
            · exact .inr ⟨x, hx, hxs, by by_cases e : k - 1 = i; (rw [e, Jee]); (rw [Jbl d e]; exact hdx), hpos⟩
          · by_cases e : j = i
            · subst e
              rw [ho] at hx; cases hx
              exact absurd hxs hds
            · rw [Jbl d e]; exact hk2 j x hj hx hxs
    unfold oneD at h1
    split at h1
    · rename_i hw
      rw [hwant _ hw]
      simp only [if_true]
      let ρ : Operand -> D := fun x => match x with
        | .tmp t => if t ∈ Jhg ops.toList o then (tr i).1.getD t .undef else .undef
        | x => Jd9 (tr i).1 x
      have hρe : ∀ x ∈ Jbj o.op, ρ x = Jd9 (tr i).1 x := fun x hx => by
        cases x with
        | tmp t =>
          have : t ∈ Jhg ops.toList o := by
            simp only [Jhg, List.mem_append, List.mem_filterMap]
            exact .inl ⟨_, hx, rfl⟩
          simp only [ρ, if_pos this, Jd9]
        | _ => rfl
      have hρc : stepD P T o.op ρ (tr i).2 = some (dd.1, dd.2) := by
        rw [<- show stepD P T o.op (Jd9 (tr i).1) (tr i).2 = some (dd.1, dd.2) from h1]
        refine Qbt P T o.op _ _ _ fun x hx => ?_
        cases x with
        | tmp t =>
          have : t ∈ Jhg ops.toList o := by
            simp only [Jhg, List.mem_append, List.mem_filterMap]
            exact .inl ⟨_, hx, rfl⟩
          simp only [ρ, if_pos this, Jd9]
        | _ => rfl
      have hρr : ∀ x, Rep S1 L1 w1 (a1.eval x) (ρ x) := by
        intro x
        cases x with
        | tmp t =>
          simp only [ρ, Act.eval]
          split
          · rename_i hm
            exact hread t hm
          · simp only [Rep]
        | func f =>
          simp only [ρ, Jd9, Rep, RepA]
          exact ⟨[], [], rfl, rfl, rfl⟩
        | _ => simp only [ρ, Jd9, Rep]; rfl
      cases hrd : Jdp o.op with
      | false =>
        obtain ⟨_, hall⟩ := Jod hrd hρc
        have hwr : Jbe T o.op = false := by
          cases hxo : o.op with
          | call c =>
            rw [hxo] at hrd
            obtain ⟨callee, args, ats⟩ := c
            cases callee with
            | builtin b => cases b <;> first | (simp [Jdp] at hrd; done) | rfl
            | value f => simp [Jdp] at hrd
            | invoke => simp [Jdp] at hrd
          | _ => rw [hxo] at hrd; first | rfl | (simp [Jdp] at hrd; done)
        exact Jrx hT hF (hall (tr kh).2) hρr hobj fun v w' S' L' q1 q2 q3 => hnext v w' S' L' q1 q3 (.inr ⟨hwr, q2⟩)
      | true =>
        cases hwr : Jbe T o.op with
        | true =>
          have hob' : HRel B S1 L1 w1 (tr i).2 := by rw [<- hobjs hwr]; exact hobj
          exact Jrx hT hF hρc hρr hob' fun v w' S' L' q1 q2 q3 => hnext v w' S' L' q1 q3 (.inl ⟨hwr, q2⟩)
        | false =>
          have hall : stepD P T o.op ρ (tr kh).2 = some (dd.1, (tr kh).2) := by
            have grown : (∀ j x, ops.toList[j]? = some x -> ¬ Exc T ops.toList o i x j (Jd9 fr'.1) (Jev P T ops.toList ops.toList fr)) -> stepD P T o.op ρ (tr kh).2 = some (dd.1, (tr kh).2) := by
              intro hno
              obtain ⟨t, htt⟩ := hgrown hrd hwr hno
              have hmono := Qf8 hT hwr hρc t
              rwa [<- htt] at hmono
            have hend : ∀ x k, k <= ops.toList.length -> stable ops.toList k x = true -> Jd9 fr'.1 x = Jd9 (tr k).1 x := fun x k hk hs => by
              rw [<- tn]; exact Qbv ht x k _ hs hk (Nat.le_refl _)
            cases hop : o.op with
            | load ty a =>
              have hρa : ρ a = Jd9 (tr i).1 a := hρe a (by rw [hop]; simp [Jbj])
              rw [hop] at hρc
              simp only [stepD, opH] at hρc ⊢
              obtain ⟨sh, hsh, h3⟩ := Option.bind_eq_some_iff.1 hρc
              rw [hsh, Option.bind_some]
              have h4 := Jit h3
              have hexc : ∀ j x, j < ops.toList.length -> Exc T ops.toList o i x j (Jd9 fr'.1) (Jev P T ops.toList ops.toList fr) -> ∀ id, idD (ρ a) = some id -> (∃ ts, Jjq x.op = some ts /\ ∀ b ∈ ts, idD (Jd9 (tr j).1 b) ≠ some id) \/ Qgd id (tr j).2 (tr (j + 1)).2 = true := by
                rintro j x hj ⟨gs, e1, e2⟩ id hid
                simp only [Jk9, hop] at e1
                split at e1
                · rename_i ts hts
                  split at e1
                  · rename_i hst
                    simp only [Bool.and_eq_true, List.all_eq_true] at hst
                    cases e1
                    refine .inl ⟨ts, hts, fun b hb => ?_⟩
                    have := e2 (.apart a b) (List.mem_map.2 ⟨b, hb, rfl⟩)
                    simp only [Gd.holds] at this
                    rw [hend a i (by omega) hst.1, hend b j (by omega) (hst.2 b hb), <- hρa] at this
                    intro e
                    simp [apartB, hid, e] at this
                  · cases e1
                · split at e1
                  · rename_i hst
                    cases e1
                    right
                    have := e2 (.same a j) (by simp)
                    simp only [Gd.holds, th j (by omega), th (j + 1) (by omega)] at this
                    rw [hend a i (by omega) hst, <- hρa, hid] at this
                    exact this
                  · cases e1
              rw [Qrr (H := (tr i).2) (H' := (tr kh).2) (fun id off hoff => ?_), h4]
              · rfl
              · have hid : idD (ρ a) = some id := by rw [hoff]; rfl
                by_cases hki : kh <= i
                · by_cases hlt : id < (tr kh).2.length
                  · exact ((Jzf       hT ht id kh i hki (by omega) hlt fun j x hj1 hj2 hx hwx => by
                      rcases hrB j x hj2 hx hwx hrd hwr with h5 | h5
                      · rw [hkh2 j x hj1 hx hwx] at h5; cases h5
                      · exact hexc j x (by omega) h5 id hid).1).symm
                  · exfalso
                    have hrep := hρr a
                    have hidL : id < L1.length := by
                      rw [hoff] at hrep
                      simp only [Rep] at hrep
                      obtain ⟨b, c, hL, _⟩ := hrep
                      exact (List.getElem?_eq_some_iff.1 hL).1
                    rw [hobj.len] at hidL
                    exact hlt hidL
                · have hlt : id < (tr i).2.length := Qrq h4 id off hoff
                  exact (Jzf hT ht id i kh (by omega) hkh hlt fun j x hj1 hj2 hx hwx => by
                    by_cases hji : j = i
                    · subst hji
                      rw [ho] at hx; cases hx
                      rw [hwr] at hwx; cases hwx
                    · cases hal : Jkg x.op with
                      | true => exact .inl ⟨[], Qa5 hal, fun b hb => by cases hb⟩
                      | false =>
                        rcases hrA j x (by omega) hx hwx hal hrd hwr with h5 | h5
                        · rw [hbetween j x (by omega) hj2 hx hwx] at h5; cases h5
                        · exact hexc j x (by omega) h5 id hid).1
            | convert s ty a =>
              have hρa : ρ a = Jd9 (tr i).1 a := hρe a (by rw [hop]; simp [Jbj])
              cases hwh : Jym (ρ a) with
              | true => rw [hop] at hρc; exact Qk4 hwh hρc _
              | false =>
                rw [<- hop]
                refine grown fun j x hx => ?_
                rintro ⟨gs, e1, e2⟩
                simp only [Jk9, hop] at e1
                split at e1
                · rename_i hst
                  cases e1
                  have := e2 (.whole a) (by simp)
                  simp only [Gd.holds] at this
                  rw [hend a i (by omega) hst, <- hρa, hwh] at this
                  cases this
                · cases e1
            | call c =>
              obtain ⟨callee, args, ats⟩ := c
              cases callee with
              | value f =>
                cases f with
                | func f =>
                  have hρa : args.toList.map ρ = args.toList.map (Jd9 (tr i).1) := List.map_congr_left fun x hx => hρe x (by rw [hop]; simp [Jbj, Call.operands]; first | exact .inr (by simpa using hx) | simpa using hx)
                  cases hpl : Jfi (args.toList.map ρ) with
                  | true =>
                    rw [hop] at hρc hwr
                    exact Qlc hT (by simpa [Jbe] using hwr) hpl hρc _
                  | false =>
                    rw [<- hop]
                    refine grown fun j x hx => ?_
                    rintro ⟨gs, e1, e2⟩
                    simp only [Jk9, hop] at e1
                    split at e1
                    · rename_i hst
                      simp only [Bool.and_eq_true, List.all_eq_true] at hst
                      cases e1
                      have := e2 (.pure args.toList) (by simp)
                      simp only [Gd.holds] at this
                      rw [show args.toList.map (Jd9 fr'.1) = args.toList.map ρ from by
                        rw [hρa]
                        exact List.map_congr_left fun x hx => hend x i (by omega) (hst.2 x hx), hpl] at this
                      cases this
                    · cases e1
                | _ => rw [<- hop]; exact grown fun j x hx => by rintro ⟨gs, e1, _⟩; simp [Jk9, hop] at e1
              | _ => rw [<- hop]; exact grown fun j x hx => by rintro ⟨gs, e1, _⟩; simp [Jk9, hop] at e1
            | _ => rw [<- hop]; exact grown fun j x hx => by rintro ⟨gs, e1, _⟩; simp [Jk9, hop] at e1
          exact Jrx hT hF hall hρr hobj fun v w' S' L' q1 q2 q3 => hnext v w' S' L' q1 q3 (.inr ⟨hwr, q2⟩)
    · rename_i hw
      rw [hwant _ hw]
      simp only [Bool.false_eq_true, if_false]
      cases h1
      refine ⟨fun f _ => hF.fn f, ?_⟩
      have hput : ∀ (b : Bool), Jbe T o.op = b -> K (a1.put o.dst undef) w1 := by
        intro b hb
        cases b with
        | false => exact hnext _ _ S1 L1 (by simp only [Rep]) Later.refl (.inr ⟨hb, hobj⟩)
        | true =>
          refine hnext _ _ S1 L1 (by simp only [Rep]) Later.refl (.inl ⟨hb, ?_⟩)
          have hrd : Jdp o.op = true := by
            cases hq : Jdp o.op with
            | true => rfl
            | false =>
              exfalso
              cases hxo : o.op with
              | call c =>
                rw [hxo] at hq hb
                obtain ⟨callee, args, ats⟩ := c
                cases callee with
                | builtin b => cases b <;> first | (simp [Jdp] at hq; done) | (simp [Jbe] at hb; done)
                | value f => simp [Jdp] at hq
                | invoke => simp [Jdp] at hq
              | _ => rw [hxo] at hq hb; first | (simp [Jdp] at hq; done) | (simp [Jbe] at hb; done)
          rw [<- hobjs hb]; exact hobj
      exact hput _ rfl
    · cases h1
  · intro d a1 w1 hall hinv
    obtain ⟨S1, L1, hlat, ⟨kh, hkh, hkh1, hkh2, hobj⟩, hslot⟩ := hinv.state
    have hsz := hinv.size
    have hfl : fr'.1.length = a1.tmps.size := by rw [<- tn, Jos ht _ (Nat.le_refl _), hsz]
    have hobj' : HRel B S1 L1 w1 fr'.2 := by
      have : (tr ops.toList.length).2 = (tr kh).2 := by
        refine Jwi hT ht kh _ hkh (Nat.le_refl _) fun j x hj1 hj2 hx => ?_
        cases hwx : Jbe T x.op with
        | false => rfl
        | true =>
          have h1 := hkh2 j x hj1 hx hwx
          rw [hall j (by simpa using hj2)] at h1; cases h1
      rw [<- tn, this]; exact hobj
    refine hQ _ _ S1 L1 ⟨by rw [hinv.defers]; exact hr.defers.later hlat, ?_, hobj'⟩ hlat
    have key : ∀ s, s < a1.tmps.size -> Rep S1 L1 w1 (a1.tmps.getD s undef) (fr'.1.getD s .undef) := by
      intro s hs
      obtain ⟨k, hk, hk1, hk2, hk3⟩ := hslot s hs
      have heq : (tr ops.toList.length).1[s]? = (tr k).1[s]? := by
        refine Jwh ht s k _ hk (Nat.le_refl _) fun j x hj1 hj2 hx hxs => ?_
        have h1 := hk2 j x hj1 hx hxs
        rw [hall j (by simpa using hj2)] at h1; cases h1
      rw [<- tn, List.getD_eq_getElem?_getD, heq, <- List.getD_eq_getElem?_getD]
      exact hk3
    have build : ∀ (xs : List Value) (ds : List D), xs.length = ds.length -> (∀ s, s < xs.length -> Rep S1 L1 w1 (xs.getD s undef) (ds.getD s .undef)) -> RepA S1 L1 w1 xs ds := by
      intro xs
      induction xs with
      | nil => intro ds hl _; cases ds with
        | nil => exact RepA.nil
        | cons => simp at hl
      | cons x r ih =>
        intro ds hl hh
        cases ds with
        | nil => simp at hl
        | cons e t => exact RepA.cons (by simpa using hh 0 (by simp)) (ih t (by simpa using hl) fun s hs => by simpa using hh (s + 1) (by simpa using hs))
    refine build _ _ (by rw [Array.length_toList, hfl]) fun s hs => ?_
    have := key s (by simpa using hs)
    simpa using this
end Go.Proofs.YtinnbafplhcnpaaGreat
end
section
namespace Go.Proofs.YtinnbafplhcnpaaGreat
open Go.RowKit
set_option linter.unusedVariables false
set_option linter.unusedSimpArgs false
def Jzv (body : Fr -> Option (Lv × Fr)) : Nat -> Fr -> Option (Lv × Fr)
  | 0, _ => none
  | n + 1, fr =>
    match body fr with
    | some (.normal, fr') => Jzv body n fr'
    | r => r
def Qqs (r : Option (Lv × Fr)) (k : Fr -> Option (Lv × Fr)) : Option (Lv × Fr) :=
  match r with
  | some (.normal, fr) => k fr
  | r => r
def condD (c : D) (x y : Option (Lv × Fr)) : Option (Lv × Fr) :=
  match c with
  | .v (.bool true) => x
  | .v (.bool false) => y
  | _ => none
def Jv4 (id : Nat) (r : Option (Lv × Fr)) : Option (Lv × Fr) :=
  match r with
  | some (.exit j, fr) => some (if j = id then .normal else .exit j, fr)
  | r => r
def regD (P : Program) (T : Tab) (ops : List Oper) (draw : Bool) (fr : Fr) : Option (Lv × Fr) :=
  if !draw || Qfn T ops then (Jiu P T ops ops fr).bind fun fr' => if !draw || (Jr5 T ops).all (Gd.holds (Jd9 fr'.1) (Jev P T ops ops fr)) then some (.normal, fr') else none else none
def Jg4 (kp : List Nat) : List D -> Nat -> List D
  | [], _ => []
  | d :: r, i => (if kp.contains i then d else .undef) :: Jg4 kp r (i + 1)
def forget (kp : List Nat) (fr : Fr) : Fr := (Jg4 kp fr.1 0, fr.2)
def leaveD (kp : List Nat) (r : Option (Lv × Fr)) : Option (Lv × Fr) := r.map fun p => (p.1, forget kp p.2)
def Jgd : Code -> Bool
  | .seq x y | .cond _ x y => Jgd x && Jgd y
  | .block _ c | .loop c | .scope c => Jgd c
  | .rangeFunc _ _ _ _ => false
  | _ => true
def Qhi (r : Option (D × Heap)) (id : Nat) : Option (Lv × Heap) :=
  match r with
  | some (_, H) =>
    match H[id]? with
    | some (.loop .ready _ _ _ _ _ _) => some (.normal, H.set id .dead)
    | some (.loop (.done .normal) _ _ _ _ _ _) => none
    | some (.loop (.done lv) _ _ _ _ _ _) => some (lv, H.set id .dead)
    | _ => none
  | none => none
def rangeS (T : Tab) (g : D) (ps : List Nat) (assign body : Code) (sz : Nat) (kp : List Nat) (s : List D) (H : Heap) : Option (Lv × Heap) :=
  match g with
  | .clo (.func f) fs cs => Qhi (look T f (fs ++ [.yld H.length] ++ cs) (H ++ [.loop .ready ps assign body sz kp s])) H.length
  | _ => none
def runC (P : Program) (T : Tab) (kp : List Nat) (n : Nat) : Code -> Fr -> Option (Lv × Fr)
  | .skip, fr | .label _, fr => some (.normal, fr)
  | .region _ ops draw, fr => regD P T ops.toList draw fr
  | .seq x y, fr => Qqs (runC P T kp n x fr) (runC P T kp n y)
  | .cond c x y, fr => condD (Jd9 fr.1 c) (runC P T kp n x fr) (runC P T kp n y fr)
  | .block id c, fr => Jv4 id (runC P T kp n c fr)
  | .loop c, fr => leaveD kp (Jzv (fun fr => runC P T kp n c (forget kp fr)) n fr)
  | .exit id, fr => some (.exit id, fr)
  | .ret, fr => some (.ret, fr)
  | .scope c, fr => runC P T kp n c fr
  | .rangeFunc g ps assign body, fr => (rangeS T (Jd9 fr.1 g) ps.toList assign body fr.1.length kp (kp.map (fr.1.getD · .undef)) fr.2).map fun r => (r.1, (fr.1, r.2))
  | _, _ => none
section
variable {P : Program} {T : Tab} {kp : List Nat}
theorem Jhc (kp : List Nat) : ∀ (l : List D) (i : Nat), (Jg4 kp l i).length = l.length
  | [], i => rfl
  | d :: r, i => by simp [Jg4, Jhc kp r (i + 1)]
theorem Jom (kp : List Nat) : ∀ (l : List D) (i t : Nat), (Jg4 kp l i).getD t .undef = if kp.contains (i + t) then l.getD t .undef else .undef
  | [], i, t => by simp [Jg4]
  | d :: r, i, 0 => by simp [Jg4]
  | d :: r, i, t + 1 => by
    have := Jom kp r (i + 1) t
    simp only [Jg4, List.getD_cons_succ]
    rw [this, show i + 1 + t = i + (t + 1) from by omega]
theorem Jqp {S : Nat -> Prop} {L : List (Nat × Nat)} {w : World} : ∀ (l : List D) (xs : List Value) (i : Nat), RepA S L w xs l -> RepA S L w xs (Jg4 kp l i)
  | [], xs, i, h => h
  | d :: r, xs, i, h => by
    simp only [RepA] at h
    obtain ⟨x, ys, rfl, h1, h2⟩ := h
    refine RepA.cons ?_ (Jqp r ys (i + 1) h2)
    split
    · exact h1
    · simp only [Rep]
theorem RepF.forget {B N : Nat} {S : Nat -> Prop} {L : List (Nat × Nat)} {w : World} {a : Act} {s : Fr} (h : RepF B N S L w a s) : RepF B N S L w a (forget kp s) := ⟨h.defers, Jqp _ _ 0 h.tmps, h.objs⟩
theorem Jkv {P : Program} {b : Frame} {a : Act} {k : List Item} {cs : List Frame} {w : World} {c : Code} : step P (lone (b.atR a (.code (.scope c) :: k)) cs w) = .next (lone (b.atR a (.code c :: .inScope c :: k)) cs w) :=
  step_lone_go (by simp [stepG, stepG.exec, Frame.atR])
theorem Jwl {P : Program} {b : Frame} {a : Act} {k : List Item} {cs : List Frame} {w : World} {c : Code} : step P (lone (b.atR a (.inScope c :: k)) cs w) = .next (lone (b.atR a k) cs w) :=
  step_lone_go (by simp [stepG, stepG.exec, Frame.atR])
theorem Joa {F : Fence} {n : Nat} {P : Program} {a : Act} {w : World} {Q : Exit -> Act -> World -> Prop} {c : Code} (h : c.wpIn F n P (Exit.noGoto Q) a w) : (Code.scope c).wpIn F n P Q a w := by
  intro b k cs hro hb hr
  have h0 : (lone (b.atR a (.code (.scope c) :: k)) cs w).fenced P F := fenced_calm hb hr rfl
  obtain ⟨e, a₁, w₁, hq, harr⟩ := h b (.inScope c :: k) cs hro hb hr
  cases e with
  | normal => exact ⟨.normal, a₁, w₁, hq, .head h0 Jkv (StepsIn.trans harr (.one (fenced_calm hb hr rfl) Jwl))⟩
  | exit id =>
    have hx : exitTo id (.inScope c :: k) = exitTo id k := by simp [exitTo]
    exact ⟨.exit id, a₁, w₁, hq, fun k' hk => .head h0 Jkv (harr.1 k' (by rw [hx]; exact hk)),
      fun hr' hk => let ⟨k₁, h1, h2⟩ := harr.2 hr' (by rw [hx]; exact hk); ⟨k₁, h1, .head h0 Jkv         h2⟩⟩
  | goto l => exact hq.elim
  | _ => exact ⟨_, a₁, w₁, hq, .of_steps (.one h0 Jkv) harr⟩
theorem Qoc (kp : List Nat) (g : Nat -> D) (t : Nat) : getU kp (kp.map g) t = if kp.contains t then g t else .undef := by
  induction kp with
  | nil => rfl
  | cons k r ih =>
    simp only [List.map_cons, getU]
    by_cases h : k = t
    · subst h; simp
    · rw [if_neg h, ih]
      have : (k :: r).contains t = r.contains t := by
        simp only [List.contains_cons]
        have : (t == k) = false := by simp; exact fun e => h e.symm
        rw [this, Bool.false_or]
      rw [this]
theorem Qse {S : Nat -> Prop} {L : List (Nat × Nat)} {w : World} {xs : List Value} {l : List D} (kp : List Nat) (h : RepA S L w xs l) : RepA S L w xs (frU l.length kp (kp.map (l.getD · .undef))) := by
  have : frU l.length kp (kp.map (l.getD · .undef)) = Jg4 kp l 0 := by
    apply List.ext_getElem?
    intro i
    by_cases hi : i < l.length
    · have h1 := Jom kp l 0 i
      have h2 : i < (Jg4 kp l 0).length := by rw [Jhc]; exact hi
      rw [List.getElem?_eq_getElem h2]
      rw [List.getD_eq_getElem?_getD, List.getElem?_eq_getElem h2, Option.getD_some, Nat.zero_add] at h1
      rw [h1, frU, List.getElem?_map, List.getElem?_range hi, Option.map_some, Qoc]
    · rw [List.getElem?_eq_none (by simp [frU]; omega), List.getElem?_eq_none (by rw [Jhc]; omega)]
  rw [this]
  exact Jqp l xs 0 h
theorem HRel.junk {B : Nat} {S : Nat -> Prop} {L : List (Nat × Nat)} {w : World} {H : Heap} (h : HRel B S L w H) (o : Obj) : HRel B S L (w.alloc o) H /\ Later B S S L L w (w.alloc o) := by
  have hold : ∀ k, k < w.heap.size -> (w.alloc o).heap[k]? = w.heap[k]? := fun k hk => Jjg w o hk
  have hl : Later B S S L L w (w.alloc o) := ⟨(Below.refl _ _).alloc h.base _, ⟨by simp, fun k hk => hold k (h.small k hk)⟩, fun _ hk => hk, List.prefix_refl _, fun _ h => .inl h, fun k hk => (hold k (Array.getElem?_eq_some_iff.1 hk).1).trans hk⟩
  refine ⟨⟨h.len, fun k hk => by have := h.small k hk; simp; omega, by have := h.base; simp; omega, ?_, h.inj⟩, hl⟩
  intro id o' hid ho'
  obtain ⟨b, c, h1, h2, h3, h4⟩ := h.obj id o' hid ho'
  exact ⟨b, c, h1, h2, h3, h4.kept (hold b (h4.lt ho')) (fun _ _ => hl.rep) (fun _ _ => hl.repA)⟩
theorem HRel.free {B : Nat} {S : Nat → Prop} {L : List (Nat × Nat)} {w : World} {H : Heap} (h : HRel B S L w H) {k : Nat} (hB : B ≤ k) (hS : ¬ S k) (hf : ∀ (id : Nat) (o : HO) (c : Nat), H[id]? = some o → o ≠ HO.dead → L[id]? ≠ some (k, c)) (o : Obj) :
    HRel B S L (w.putObj k o) H /\ Below B w (w.putObj k o) /\ Kept S w (w.putObj k o) := by
  have hother : ∀ i, i ≠ k -> (w.putObj k o).heap[i]? = w.heap[i]? := fun i hk => World.putObj_heap_other (fun e => hk e)
  have hk : Kept S w (w.putObj k o) := ⟨by simp, fun i hi => hother i (fun e => hS (e ▸ hi))⟩
  have hb : Below B w (w.putObj k o) := ⟨rfl, rfl, rfl, by simp, fun i hi => hother i (by omega)⟩
  refine ⟨⟨h.len, fun i hi => by have := h.small i hi; simpa using this, by have := h.base; simpa using this, ?_, h.inj⟩, hb, hk⟩
  intro id o' hid ho'
  obtain ⟨b, c, h1, h2, h3, h4⟩ := h.obj id o' hid ho'
  exact ⟨b, c, h1, h2, h3, h4.kept (hother b (fun e => hf id o' c hid ho' (e ▸ h1))) (fun y d hy => Rep.kept hk (fun _ h => h) (fun _ _ h => h) d y hy) (fun ys ds hy => RepA.kept hk (fun _ h => h) (fun _ _ h => h) ds ys hy)⟩
theorem HRel.shut {B : Nat} {S : Nat → Prop} {L : List (Nat × Nat)} {w : World} {H : Heap} (h : HRel B S L w H) {D : Nat} {x : Option (List Deferred)} (hD : w.heap[D]? = some (.deferred x)) (hS : ¬ S D) (hB : B ≤ D) (o : Obj) :
    HRel B S L (w.putObj D o) H /\ Below B w (w.putObj D o) /\ Kept S w (w.putObj D o) := by
  refine h.free hB hS (fun id o' c hid ho' hL => ?_) o
  obtain ⟨b, c', h1, h2, h3, h4⟩ := h.obj id o' hid ho'
  rw [hL] at h1
  cases h1
  exact h4.mark ho' x hD
theorem HRel.over {P : Program} {B : Nat} {S : Nat → Prop} {L : List (Nat × Nat)} {w : World} {H : Heap} (h : HRel B S L w H) {id : Nat} {st : LS} {ps : List Nat} {as' bd : Code} {sz : Nat} {kp : List Nat} {s : List D} (hid : H[id]? = some (.loop st ps as' bd sz kp s)) (hst : st.state ≠ .busy) {lp c : Nat} (hL : L[id]? = some (lp, c)) :
    ∃ w', (Instr.endLoop lp).run P w = .ok st.pend w' /\ HRel B S L w' (H.set id .dead) /\ Later B S S L L w w' := by
  obtain ⟨b, c', h1, h2, h3, r, h4, h5, h6, h7⟩ := h.obj id _ hid (by intro e; cases e)
  rw [hL] at h1
  cases h1
  have hr := run_endLoop (P := P) h4 (by rw [h5]; exact hst)
  obtain ⟨k1, k2, k3⟩ := (h.kill id).free h2 h3 (fun i o c2 hi ho hLi => by
    rcases Joj H id i _ o hi with ⟨_, e, _⟩ | ⟨e1, e⟩
    · exact ho e.symm
    · exact e1 (h.inj i id _ _ _ _ e ho hid (by intro e; cases e) hLi hL rfl)) (.loop { r with state := .exhausted })
  refine ⟨w.putObj lp (.loop { r with state := .exhausted }), by rw [<- h6]; exact hr, k1, k2, k3, fun _ hk => hk, List.prefix_refl _, fun _ hk => .inl hk, fun k hk => (World.putObj_heap_other (by rintro rfl; rw [h4] at hk; cases hk)).trans hk⟩
theorem Qb1     (hT : TabOk P T) (hm : P.follows .mixedOrders = true) {F : Fence} (hF : Wd F) {n m B N : Nat} (hN : B ≤ N) (c : Code) : ∀ {fr fr' : Fr} {x : Lv} {a : Act} {w : World} {S : Nat → Prop} {L : List (Nat × Nat)} {Q : Exit → Act → World → Prop}, runC P T kp n c fr = some (x, fr') → (F.round = none ∨ Jgd     c = true) → N ≤ w.heap.size → RepF B N S L w a fr →
    (∀ a' w' S' L', RepF B N S' L' w' a' fr' -> Later B S S' L L' w w' -> Q x.toExit a' w') -> c.wpIn F m P Q a w := by
  induction c with
  | skip =>
    intro fr fr' x a w S L Q h hn hN' hr hQ
    simp only [runC, Option.some.injEq, Prod.mk.injEq] at h
    obtain ⟨rfl, rfl⟩ := h
    exact wpIn_skip (hQ a w S L hr Later.refl)
  | label l =>
    intro fr fr' x a w S L Q h hn hN' hr hQ
    simp only [runC, Option.some.injEq, Prod.mk.injEq] at h
    obtain ⟨rfl, rfl⟩ := h
    exact wpIn_label (hQ a w S L hr Later.refl)
  | region id ops draw =>
    intro fr fr' x a w S L Q h hn hN' hr hQ
    simp only [runC, regD] at h
    split at h
    · rename_i hd
      cases ho : Jiu P T ops.toList ops.toList fr with
      | none => rw [ho] at h; cases h
      | some f2 =>
        rw [ho] at h
        simp only [Option.bind_some] at h
        split at h
        case isFalse => cases h
        rename_i hgd
        simp only [Option.some.injEq, Prod.mk.injEq] at h
        obtain ⟨rfl, rfl⟩ := h
        cases draw with
        | true => exact Qsl hT hm hF (by simpa using hd) (by simpa using hgd) ho hr hQ
        | false => exact wpIn_region (Qf3 hT hF ops _ _ a w S L fr _ (Qjc ops) ho hr hQ)
    · cases h
  | seq x y ihx ihy =>
    intro fr fr' e a w S L Q h hn hN' hr hQ
    simp only [runC] at h
    refine wpIn_seq ?_
    cases hx : runC P T kp n x fr with
    | none => rw [hx] at h; cases h
    | some p =>
      obtain ⟨e1, f1⟩ := p
      refine ihx hx (hn.imp (fun h => h) fun h => by simp only [Jgd, Bool.and_eq_true] at h; exact h.1) hN' hr fun a' w' S' L' h1 h2 => ?_
      rw [hx] at h
      cases e1 with
      | normal => exact ihy h (hn.imp (fun h => h) fun h => by simp only [Jgd, Bool.and_eq_true] at h; exact h.2) (Nat.le_trans hN' h2.kept.size) h1 fun a'' w'' S'' L'' h3 h4 => hQ a'' w'' S'' L'' h3 (h2.trans h4)
      | exit id =>
        simp only [Qqs, Option.some.injEq, Prod.mk.injEq] at h
        obtain ⟨rfl, rfl⟩ := h
        exact hQ a' w' S' L' h1 h2
      | ret =>
        simp only [Qqs, Option.some.injEq, Prod.mk.injEq] at h
        obtain ⟨rfl, rfl⟩ := h
        exact hQ a' w' S' L' h1 h2
  | cond c x y ihx ihy =>
    intro fr fr' e a w S L Q h hn hN' hr hQ
    simp only [runC] at h
    have hc := Jxw hr.tmps c
    unfold condD at h
    split at h
    · rename_i hb
      rw [hb] at hc
      simp only [Rep] at hc
      exact wpIn_cond_true hc (ihx h (hn.imp (fun h => h) fun h => by simp only [Jgd, Bool.and_eq_true] at h; exact h.1) hN' hr hQ)
    · rename_i hb
      rw [hb] at hc
      simp only [Rep] at hc
      exact wpIn_cond_false hc (ihy h (hn.imp (fun h => h) fun h => by simp only [Jgd, Bool.and_eq_true] at h; exact h.2) hN' hr hQ)
    · cases h
  | block id c ih =>
    intro fr fr' e a w S L Q h hn hN' hr hQ
    simp only [runC] at h
    refine wpIn_block ?_
    cases hx : runC P T kp n c fr with
    | none => rw [hx] at h; cases h
    | some p =>
      obtain ⟨e1, f1⟩ := p
      refine ih hx (hn.imp (fun h => h) fun h => by simpa only [Jgd] using h) hN' hr fun a' w' S' L' h1 h2 => ?_
      rw [hx] at h
      cases e1 with
      | normal =>
        simp only [Jv4, Option.some.injEq, Prod.mk.injEq] at h
        obtain ⟨rfl, rfl⟩ := h
        exact hQ a' w' S' L' h1 h2
      | ret =>
        simp only [Jv4, Option.some.injEq, Prod.mk.injEq] at h
        obtain ⟨rfl, rfl⟩ := h
        exact hQ a' w' S' L' h1 h2
      | exit j =>
        simp only [Jv4, Option.some.injEq, Prod.mk.injEq] at h
        obtain ⟨rfl, rfl⟩ := h
        simp only [Lv.toExit, Exit.inBlock]
        by_cases hj : j = id
        · rw [if_pos hj] at hQ ⊢
          exact hQ a' w' S' L' h1 h2
        · rw [if_neg hj] at hQ ⊢
          exact hQ a' w' S' L' h1 h2
  | loop c ih =>
    intro fr fr' e a w S L Q h hn hN' hr hQ
    simp only [runC] at h
    unfold leaveD at h
    obtain ⟨fr0, hit, hfr0⟩ : ∃ fr0, Jzv (fun fr => runC P T kp n c (forget kp fr)) n fr = some (e, fr0) /\ fr' = forget kp fr0 := by
      cases hx : Jzv (fun fr => runC P T kp n c (forget kp fr)) n fr with
      | none => rw [hx] at h; cases h
      | some p =>
        rw [hx] at h
        simp only [Option.map_some, Option.some.injEq, Prod.mk.injEq] at h
        obtain ⟨rfl, rfl⟩ := h
        exact ⟨p.2, rfl, rfl⟩
    subst hfr0
    clear h
    refine wpIn_loop_rounds n ?_
    have key : ∀ (k : Nat) (fr : Fr) (a : Act) (w : World) (S : Nat -> Prop) (L : List (Nat × Nat)), Jzv (fun fr => runC P T kp n c (forget kp fr)) k fr = some (e, fr0) -> N <= w.heap.size -> RepF B N S L w a fr -> (∀ a' w' S' L', RepF B N S' L' w' a' (forget kp fr0) -> Later B S S' L L' w w' -> Q e.toExit a' w') -> Code.roundsIn F m P c Q k a w := by
      intro k
      induction k with
      | zero => intro fr a w S L h; cases h
      | succ k ihk =>
        intro fr a w S L h hN' hr hQ
        rw [roundsIn_succ]
        simp only [Jzv] at h
        cases hx : runC P T kp n c (forget kp fr) with
        | none => rw [hx] at h; cases h
        | some p =>
          obtain ⟨e1, f1⟩ := p
          refine ih hx (hn.imp (fun h => h) fun h => by simpa only [Jgd] using h) hN' hr.forget fun a' w' S' L' h1 h2 => ?_
          rw [hx] at h
          cases e1 with
          | normal => exact ihk f1 a' w' S' L' h (Nat.le_trans hN' h2.kept.size) h1 fun a'' w'' S'' L'' h3 h4 => hQ a'' w'' S'' L'' h3 (h2.trans h4)
          | exit id =>
            simp only [Option.some.injEq, Prod.mk.injEq] at h
            obtain ⟨rfl, rfl⟩ := h
            exact hQ a' w' S' L' h1.forget h2
          | ret =>
            simp only [Option.some.injEq, Prod.mk.injEq] at h
            obtain ⟨rfl, rfl⟩ := h
            exact hQ a' w' S' L' h1.forget h2
    exact key n fr a w S L hit hN' hr hQ
  | exit id =>
    intro fr fr' x a w S L Q h hn hN' hr hQ
    simp only [runC, Option.some.injEq, Prod.mk.injEq] at h
    obtain ⟨rfl, rfl⟩ := h
    exact wpIn_exit (hQ a w S L hr Later.refl)
  | ret =>
    intro fr fr' x a w S L Q h hn hN' hr hQ
    simp only [runC, Option.some.injEq, Prod.mk.injEq] at h
    obtain ⟨rfl, rfl⟩ := h
    exact wpIn_ret (hQ a w S L hr Later.refl)
  | scope c ih =>
    intro fr fr' x a w S L Q h hn hN' hr hQ
    simp only [runC] at h
    refine Joa (ih h (hn.imp (fun h => h) fun h => by simpa only [Jgd] using h) hN' hr fun a' w' S' L' h1 h2 => ?_)
    have := hQ a' w' S' L' h1 h2
    cases x <;> exact this
  | rangeFunc g ps as' bd iha ihc =>
    intro fr fr' x a w S L Q h hn hN' hr hQ
    have hround : F.round = none := hn.elim (fun h => h) fun h => by simp [Jgd] at h
    have hFw : F = Fence.wide := by
      cases hF with
      | wide => rfl
      | round l => cases hround
    subst hFw
    simp only [runC] at h
    obtain ⟨⟨lv, H2⟩, hrs, h⟩ := Option.map_eq_some_iff.1 h
    cases h
    unfold rangeS at hrs
    have hid : fr.2.length = L.length := hr.objs.len.symm
    -- the two new objects
    let D := w.heap.size
    let lp := w.heap.size + 1
    refine wpIn_rangeFunc fun fn _ => ?_
    let rc : Loop := { state := .ready, pending := none, fn := fn, tmps := a.tmps, params := ps, assign := as', body := bd, defers := D }
    let w0 := w.alloc (.deferred (some []))
    let w1 := w0.alloc (.loop rc)
    have hsz0 : w0.heap.size = w.heap.size + 1 := by simp [w0]
    obtain ⟨j1, j2⟩ := hr.objs.junk (.deferred (some []))
    have hnew := j1.newO w0 rfl (Below.refl _ _) (.loop rc) 0 (.loop .ready ps.toList as' bd fr.1.length kp (kp.map (fr.1.getD · .undef))) fun w' L' hr' hra' hh =>
      ⟨rc, hh, rfl, rfl, rfl, rfl, rfl, Qse kp (hra' _ _ (j2.repA hr.tmps))⟩
    obtain ⟨n1, n2⟩ := hnew
    have hl1 := j2.trans n2
    have hmk : w1.heap[D]? = some (.deferred (some [])) := n2.marks D (heap_alloc_new w _)
    have hSD : ∀ S1 L1 w2, Later B S S1 (L ++ [(w0.heap.size, 0)]) L1 w1 w2 -> ¬ S1 D /\ w2.heap[D]? = some (.deferred (some [])) := by
      intro S1 L1 w2 hl
      refine ⟨fun hS => ?_, hl.marks D hmk⟩
      rcases hl.only D hS with h | h
      · have := hr.objs.small D h; omega
      · have : w1.heap.size = w.heap.size + 2 := by simp [w1, w0]
        omega
    have hL1 : (L ++ [(w0.heap.size, 0)])[fr.2.length]? = some (lp, 0) := by rw [hid]; simp [hsz0, lp]
    have hld := j2.repA hr.tmps
    -- the function is called
    cases hg : Jd9 fr.1 g with
    | clo fk fs cs =>
      cases fk with
      | func f =>
        rw [hg] at hrs
        simp only at hrs
        have hgr := Jxw hr.tmps g
        rw [hg] at hgr
        simp only [Rep] at hgr
        obtain ⟨ys, zs, hgv, hys, hzs⟩ := hgr
        cases hlk : look T f (fs ++ [.yld fr.2.length] ++ cs) (fr.2 ++ [.loop .ready ps.toList as' bd fr.1.length kp (kp.map (fr.1.getD · .undef))]) with
        | none => rw [hlk] at hrs; cases hrs
        | some r =>
          rw [hlk] at hrs
          obtain ⟨d, H3⟩ := r
          obtain ⟨G, hG, hd, _⟩ := look_ok hT hlk
          obtain ⟨fnn, b1, b2, b3⟩ := hG.body
          have hargs : RepA S (L ++ [(w0.heap.size, 0)]) w1 (ys ++ [Value.func (.yield lp) #[] #[]] ++ zs) (fs ++ [.yld fr.2.length] ++ cs) :=
            ((hl1.repA hys).append (RepA.cons (x := Value.func (.yield lp) #[] #[]) (by simp only [Rep]; exact ⟨lp, 0, hL1, rfl⟩) RepA.nil)).append (hl1.repA hzs)
          refine ⟨lp, [{ target := .collected D, args := #[] }], w1, { target := .fn (.func f) zs.toArray, args := ys.toArray ++ #[Value.func (.yield lp) #[] #[]] }, w1, f, (ys ++ [Value.func (.yield lp) #[] #[]] ++ zs).toArray, w1, ?_, ?_, fun _ _ => trivial, ?_, (fun h => by cases h), ?_⟩
          · exact run_enterLoop_outer _ _ _ _ _
          · simp only [resolve, hgv]
            simp [Deferred.ofValue, Act.eval]
          · have hb : fnn.body ≠ none := by intro e; rw [e] at b3; cases b3
            simp [invoke, callFunc, run_program, b1, b2, hb]
          · refine (callsIn_wide.2 (hG.calls _ _ d H3 hd B S _ _ w1 n1 hargs)).mono ?_
            rintro e w3 ⟨v, S3, L3, rfl, q1, q2, q3⟩
            have hL3 := Je8 q3.pre _ _ hL1
            obtain ⟨hS3, hD3⟩ := hSD S3 L3 w3 q3
            have fin : ∀ (st : LS) ps' as' bd' sz' kp' s', H3[fr.2.length]? = some (.loop st ps' as' bd' sz' kp' s') → st.state ≠ .busy →
                ∃ w4, (Instr.endLoop lp).run P w3 = .ok st.pend w4 /\ RepF B N S3 L3 w4 { a with defers := { target := .collected D, args := #[] } :: a.defers } (fr.1, H3.set fr.2.length .dead) /\ Later B S S3 L L3 w w4 := by
              intro st ps' as' bd' sz' kp' s' hid3 hbusy
              obtain ⟨w4, p1, p2, p3⟩ := q2.over (P := P) hid3 hbusy hL3
              have hall := (hl1.trans q3).trans p3
              refine ⟨w4, p1, ⟨?_, hall.repA hr.tmps, p2⟩, hall⟩
              obtain ⟨Ds, m1, m2, m3⟩ := hr.defers.later hall
              obtain ⟨Ds0, m1', _, m3'⟩ := hr.defers
              have hDs : Ds0 = Ds := by
                have : marksOf Ds0 = marksOf Ds := m1'.symm.trans m1
                simp only [marksOf] at this
                exact List.map_inj_right (fun x y e => by simpa using e) |>.1 this
              subst hDs
              refine ⟨D :: Ds0, by rw [m1']; rfl, List.nodup_cons.2 ⟨fun hm => ?_, m2⟩, fun E hE => ?_⟩
              · have := (Array.getElem?_eq_some_iff.1 (m3' D hm).2.2).1
                omega
              · rcases List.mem_cons.1 hE with rfl | hE
                · exact ⟨hN', hS3, p3.marks _ hD3⟩
                · exact m3 E hE
            unfold Qhi at hrs
            simp only at hrs
            split at hrs
            · rename_i hid3
              cases hrs
              obtain ⟨w4, p1, p2, p3⟩ := fin .ready _ _ _ _ _ _ hid3 (by intro e; cases e)
              exact ⟨none, w4, p1, hQ _ w4 S3 L3 p2 p3⟩
            · cases hrs
            · rename_i hlv hid3
              cases hrs
              obtain ⟨w4, p1, p2, p3⟩ := fin (.done _) _ _ _ _ _ _ hid3 (by intro e; cases e)
              have hq := hQ _ w4 S3 L3 p2 p3
              refine ⟨some _, w4, p1, ?_⟩
              cases lv with
              | normal => exact absurd rfl (by assumption)
              | exit j => exact wpIn_exit hq
              | ret => exact wpIn_ret hq
            · cases hrs
      | _ => rw [hg] at hrs; cases hrs
    | _ => rw [hg] at hrs; cases hrs
  | _ =>
    intro fr fr' x a w S L Q h hn hN' hr hQ
    simp only [runC] at h
    cases h
end
def resD (P : Program) (fr : Fr) : ResultVar -> Option D
  | .tmp t => some (fr.1.getD t .undef)
  | .cell a t => (shapeOf P t).bind fun s => Jad s fr.2 (fr.1.getD a .undef)
def Jkz (P : Program) (rs : List ResultVar) (fr : Fr) : Option D :=
  match rs.mapM (resD P fr) with
  | some [d] => some d
  | some ds => some (.tup ds)
  | none => none
def runF (P : Program) (T : Tab) (kp : List Nat) (n : Nat) (c : Code) (ntmps : Nat) (rs : List ResultVar) (ds : List D) (H : Heap) : Option (D × Heap) :=
  match runC P T kp n c (ds ++ List.replicate (ntmps - ds.length) .undef, H) with
  | some (.exit _, _) => none
  | some (_, fr) => (Jkz P rs fr).map fun d => (d, fr.2)
  | none => none
def Qen (a : Act) : ResultVar -> Sem Value
  | .tmp t => pure (a.tmps.getD t undef)
  | .cell a' t => do loadVar t (<- asAddr (a.tmps.getD a' undef))
theorem Qb4 (fn : Func) (a : Act) : results fn a.tmps = (do let vs <- fn.results.mapM (Qen a); pure (if h : vs.size = 1 then vs[0] else .tuple vs)) := by
  unfold results
  congr 2
theorem Qjx {P : Program} {t : TypeId} {v x : Value} {w : World} (h : (Instr.loadAt t v).run P w = .ok x w) : ∃ a, v = .pointer (some a) /\ (loadVar t a).run P w = .ok x w := by
  cases v with
  | pointer p =>
    cases p with
    | some a => exact ⟨a, rfl, by simpa [Instr.loadAt, Instr.sureAddr] using h⟩
    | none => simp [Instr.loadAt, Instr.sureAddr, stuck] at h
  | _ => simp [Instr.loadAt, Instr.sureAddr, stuck] at h
theorem Qq4     {P : Program} {w : World} {a : Act} {fr : Fr} {B N : Nat} {S : Nat → Prop} {L : List (Nat × Nat)} (hr : RepF B N S L w a fr) (r : ResultVar) (d : D) (h : resD P fr r = some d) :
    ∃ v, (Qen a r).run P w = .ok v w /\ Rep S L w v d := by
  cases r with
  | tmp t =>
    simp only [resD, Option.some.injEq] at h
    subst h
    have := hr.tmps.getD t undef
    exact ⟨_, rfl, by simpa using this⟩
  | cell t ty =>
    simp only [resD] at h
    obtain ⟨s, hs, h⟩ := Option.bind_eq_some_iff.1 h
    have h1 := hr.tmps.getD t undef
    obtain ⟨x, h3, h4⟩ := Qeu (P := P) hs h h1 hr.objs
    obtain ⟨ad, h5, h6⟩ := Qjx h3
    refine ⟨x, ?_, h4⟩
    have h1' : a.tmps.getD t undef = .pointer (some ad) := by simpa using h5
    simp [Qen, h1', asAddr, h6]
theorem Qgk {P : Program} {fn : Func} {w : World} {a : Act} {fr : Fr} {d : D} {B N : Nat} {S : Nat -> Prop} {L : List (Nat × Nat)} (hr : RepF B N S L w a fr) (h : Jkz P fn.results.toList fr = some d) : ∃ v, (results fn a.tmps).run P w = .ok v w /\ Rep S L w v d := by
  unfold Jkz at h
  have key : ∀ (rs : List ResultVar) (ds : List D), rs.mapM (resD P fr) = some ds -> ∃ vs : List Value, (rs.mapM (Qen a)).run P w = .ok vs w /\ RepA S L w vs ds := by
    intro rs
    induction rs with
    | nil => intro ds h; simp at h; subst h; exact ⟨[], rfl, RepA.nil⟩
    | cons r t ih =>
      intro ds h
      simp only [List.mapM_cons, Option.pure_def, Option.bind_eq_bind] at h
      cases h1 : resD P fr r with
      | none => rw [h1] at h; cases h
      | some e =>
        rw [h1, Option.bind_some] at h
        cases h2 : t.mapM (resD P fr) with
        | none => rw [h2] at h; cases h
        | some es =>
          rw [h2, Option.bind_some] at h
          cases h
          obtain ⟨v, h3, h4⟩ := Qq4 hr r e h1
          obtain ⟨vs, h5, h6⟩ := ih es h2
          refine ⟨v :: vs, ?_, RepA.cons h4 h6⟩
          simp only [List.mapM_cons, Sem.run_bind]
          rw [h3]
          simp only [Result.andThen_ok, Sem.run_bind]
          rw [h5]
          rfl
  cases hm : fn.results.toList.mapM (resD P fr) with
  | none => rw [hm] at h; cases h
  | some ds =>
    rw [hm] at h
    obtain ⟨vs, h1, h2⟩ := key _ _ hm
    have hl := h2.length
    rw [Qb4, Array.mapM_eq_mapM_toList]
    simp only [Sem.run_bind, Sem.run_map]
    rw [h1]
    simp only [Result.andThen_ok, Sem.run_pure]
    split at h
    · rename_i d' heq
      cases heq
      cases h
      obtain ⟨v, ys, rfl, h3, h4⟩ := by simpa only [RepA] using h2
      subst h4
      exact ⟨v, by simp, h3⟩
    · rename_i ds' hne heq
      cases heq
      cases h
      refine ⟨.tuple vs.toArray, ?_, by simp only [Rep]; exact ⟨vs, rfl, h2⟩⟩
      have : vs.length ≠ 1 := by
        intro e
        rw [hl] at e
        obtain ⟨x, rfl⟩ := List.length_eq_one_iff.1 e
        exact hne x rfl
      simp [this]
    · rename_i heq
      cases heq
theorem Jn0            {P : Program} {F : Fence} {n : Nat} {fn : Func} {tmps : Array Value} {R : Ending → World → Prop} (Inv : World → Prop) : ∀ (Ds : List Nat) (W : World), Ds.Nodup → (∀ D, D ∈ Ds → W.heap[D]? = some (.deferred (some []))) →
    (∀ A D, D ∈ Ds -> A.heap[D]? = some (.deferred (some [])) -> Inv A -> Inv (A.putObj D (.deferred none))) -> Inv W ->
    (∀ W', Inv W' -> ∃ v, (results fn tmps).run P W' = .ok v W' /\ R (.returned v) W') ->
    LeavesInM F n P fn tmps R (marksOf Ds) .returning W
  | [], W, _, _, _, h0, h => h W h0
  | D :: Ds, W, hnd, hD, hs, h0, h => by
    have hnd' := List.nodup_cons.1 hnd
    refine ⟨by simp, .inl ⟨D, _, rfl, run_takeDeferred (hD D (by simp)), ?_⟩⟩
    exact Jn0 Inv Ds _ hnd'.2 (fun E hE => (World.putObj_heap_other (by rintro rfl; exact hnd'.1 hE)).trans (hD E (by simp [hE])))
      (fun A E hE => hs A E (by simp [hE])) (hs W D (by simp) (hD D (by simp)) h0) h
theorem Ju9        {P : Program} {T : Tab} {kp : List Nat} (hT : TabOk P T) (hm : P.follows .mixedOrders = true) {f : FuncId} {fn : Func} {c : Code} (hf : P.funcs[f]? = some fn) (hb : fn.body = some c) {n : Nat} {ds : List D} {H H' : Heap} {d : D}
    (hn : runF P T kp n c fn.ntmps fn.results.toList ds H = some (d, H')) {B : Nat} {S : Nat -> Prop} {L : List (Nat × Nat)} {vs : List Value} {w : World} (ho : HRel B S L w H) (hv : RepA S L w vs ds) :
    Calls P f vs.toArray w fun e w' => ∃ v S' L', e = .returned v /\ Rep S' L' w' v d /\ HRel B S' L' w' H' /\ Later B S S' L L' w w' := by
  unfold runF at hn
  have hl := hv.length
  have hrep : RepF B w.heap.size S L w { tmps := vs.toArray ++ Array.replicate (fn.ntmps - vs.toArray.size) undef, defers := [] } (ds ++ List.replicate (fn.ntmps - ds.length) .undef, H) := by
    refine ⟨MarksOk.nil, ?_, ho⟩
    have h2 : ∀ k, RepA S L w (List.replicate k undef) (List.replicate k .undef) := by
      intro k
      induction k with
      | zero => exact RepA.nil
      | succ k ih => exact RepA.cons (by simp only [Rep]) ih
    have h3 := hv.append (h2 (fn.ntmps - ds.length))
    rw [<- hl] at h3 ⊢
    simpa using h3
  cases hr : runC P T kp n c (ds ++ List.replicate (fn.ntmps - ds.length) .undef, H) with
  | none => rw [hr] at hn; cases hn
  | some p =>
    obtain ⟨e, fr⟩ := p
    rw [hr] at hn
    have fin : ∀ lv : Lv, (Jkz      P fn.results.toList fr).map (fun d => (d, fr.2)) = some (d, H') → ∀ a' w' S' L', RepF B w.heap.size S' L' w' a' fr → Later B S S' L L' w w' →
        LeavesInM Fence.wide 1 P fn a'.tmps (fun e w' => ∃ v S' L', e = .returned v /\ Rep S' L' w' v d /\ HRel B S' L' w' H' /\ Later B S S' L L' w w') a'.defers .returning w' := by
      intro lv hres a' w' S' L' h1 h2
      cases hrs : Jkz P fn.results.toList fr with
      | none => rw [hrs] at hres; cases hres
      | some d' =>
        rw [hrs] at hres
        simp only [Option.map_some, Option.some.injEq, Prod.mk.injEq] at hres
        obtain ⟨rfl, rfl⟩ := hres
        obtain ⟨Ds, m1, m2, m3⟩ := h1.defers
        rw [m1]
        refine Jn0 (fun W => RepA S' L' W a'.tmps.toList fr.1 /\ HRel B S' L' W fr.2 /\ Later B S S' L L' w W) Ds w' m2 (fun D hD => (m3 D hD).2.2) ?_ ⟨h1.tmps, h1.objs, h2⟩ ?_
        · rintro A D hD hA ⟨i1, i2, i3⟩
          obtain ⟨k1, k2, k3⟩ := m3 D hD
          obtain ⟨q1, q2, q3⟩ := i2.shut hA k2 (Nat.le_trans ho.base k1) (.deferred none)
          refine ⟨RepA.kept q3 (fun _ h => h) (fun _ _ h => h) _ _ i1, q1, i3.below.trans q2, i3.kept.trans (q3.mono i3.more), i3.more, i3.pre, i3.only, fun k hk => ?_⟩
          have := (Array.getElem?_eq_some_iff.1 hk).1
          exact (World.putObj_heap_other (by rintro rfl; omega)).trans (i3.marks k hk)
        · rintro W ⟨i1, i2, i3⟩
          obtain ⟨v, h3, h4⟩ := Qgk (fn := fn) (a := ⟨a'.tmps, []⟩) (N := 0) ⟨MarksOk.nil, i1, i2⟩ hrs
          exact ⟨v, h3, v, S', L', rfl, h4, i2, i3⟩
    refine callsIn_wide.1 (callsIn_of_wp_marks (n := 1) hf hb trivial (Qb1 hT hm .wide ho.base c hr (.inl rfl) (Nat.le_refl _) hrep fun a' w' S' L' h1 h2 => ?_))
    cases e with
    | exit id => cases hn
    | normal => exact fin .normal hn a' w' S' L' h1 h2
    | ret => exact fin .ret hn a' w' S' L' h1 h2
theorem Qkj       {P : Program} {T : Tab} {kp : List Nat} (hT : TabOk P T) (hm : P.follows .mixedOrders = true) {f : FuncId} {fn : Func} {c : Code} (hf : P.funcs[f]? = some fn) (hb : fn.body = some c) (hname : fn.name ≠ "runtime.NumGoroutine") {G : List D → Heap → Option (D × Heap)}
    (h : ∀ ds H d H', G ds H = some (d, H') -> ∃ n, runF P T kp n c fn.ntmps fn.results.toList ds H = some (d, H')) : HCallOk P f G := by
  refine ⟨⟨fn, hf, hname, by rw [hb]; rfl⟩, fun ds H d H' hG B S L vs w ho hv => ?_⟩
  obtain ⟨n, hn⟩ := h ds H d H' hG
  exact Ju9 hT hm hf hb hn ho hv
theorem Jph (S : Nat -> Prop) (w : World) (hS : ∀ k, S k -> k < w.heap.size) : HRel w.heap.size S [] w [] :=
  ⟨rfl, hS, Nat.le_refl _, fun id o h => by simp at h, fun id id' o o' p p' h => by simp at h⟩
def outD (r : Option (D × Heap)) : Option D := r.bind fun x => Jbs x.2 9 x.1
theorem Qo7      {P : Program} {T : Tab} {kp : List Nat} (hT : TabOk P T) (hm : P.follows .mixedOrders = true) {f : FuncId} {fn : Func} {c : Code} (hf : P.funcs[f]? = some fn) (hb : fn.body = some c) (hname : fn.name ≠ "runtime.NumGoroutine") {F : List D → Option D}
    (h : ∀ ds d, F ds = some d -> ∃ n, outD (runF P T kp n c fn.ntmps fn.results.toList ds []) = some d) : CallOk P f F := by
  refine ⟨⟨fn, hf, hname, by rw [hb]; rfl⟩, fun ds d hF S vs w hS hv => ?_⟩
  obtain ⟨n, hn⟩ := h ds d hF
  unfold outD at hn
  obtain ⟨⟨d', H'⟩, hn, hd⟩ := Option.bind_eq_some_iff.1 hn
  refine (Ju9 hT hm hf hb hn (Jph S w hS) hv).mono ?_
  rintro e w' ⟨v, S', L', rfl, h1, h2, h3⟩
  refine ⟨v, rfl, ?_, h3.below⟩
  have h4 := Qfp h2 9 d' d v hd h1
  refine Rep.kept (Kept.refl _ _) (fun k hk => ?_) (fun i p hi => hi) d v h4
  rcases hk with hk | hk
  · rcases h3.only k hk with h5 | h5
    · exact .inl h5
    · exact .inr ⟨h5, h2.small k hk⟩
  · exact .inr hk
end Go.Proofs.YtinnbafplhcnpaaGreat
end
