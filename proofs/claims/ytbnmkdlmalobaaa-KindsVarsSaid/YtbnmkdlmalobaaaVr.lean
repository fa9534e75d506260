/-
  Parts joined into one text: Law09v. No condition.
-/
import Derived.Test.YtbnmkdlmalobaaaVq

section
namespace Go.Proofs.Ytbnmkdlmalobaaa
open Go.RowKit
set_option linter.unusedVariables false
set_option linter.unusedSimpArgs false
set_option maxRecDepth 100000

theorem vars_more (p : Pg) (t : Int) (h : varsV p = 0) (h0 : 0 ≤ t) (h9 : t ≤ 9) (b : List Nd) : varsV ⟨p.params, p.vars ++ [t], b⟩ = if p.vars.length = 12 then 14 else 0 := by
  unfold varsV at h
  split at h
  case isFalse => cases h
  rename_i hok
  simp only [varsOk, Bool.and_eq_true, decide_eq_true_eq, List.all_eq_true, List.mem_range] at hok
  obtain ⟨⟨a1, a2, a3⟩, a4⟩ := hok
  by_cases hl : p.vars.length = 12
  · rw [if_pos hl]
    exact varsV_no1 (by simp; omega)
  · rw [if_neg hl]
    unfold varsV
    rw [if_pos]
    simp only [varsOk, Bool.and_eq_true, decide_eq_true_eq, List.all_eq_true, List.mem_range, List.length_append, List.length_singleton]
    refine ⟨⟨a1, by omega, by omega⟩, fun i hi => ?_⟩
    by_cases hi2 : i < p.vars.length
    · have := a4 i hi2
      rw [getD_in _ _ _ hi2] at this
      rw [getD_in _ _ _ (by simp; omega), List.getElem_append_left hi2]
      exact this
    · obtain rfl : i = p.vars.length := by omega
      rw [getD_in _ _ _ (by simp)]
      simp only [List.getElem_append_right (Nat.le_refl _), vGood, decide_eq_true_eq]
      simp
      omega
theorem chk9_more (p : Pg) (t : Int) (h : chk9 p = 0) (h0 : 0 ≤ t) (h9 : t ≤ 9) : chk9 ⟨p.params, p.vars ++ [t], p.body⟩ = (if p.vars.length = 12 then 14 else 0) ∧ knd ⟨p.params, p.vars ++ [t], p.body⟩ 0 = 2 := by
  obtain ⟨c1, c2, c3, c4⟩ := chk9_ok h
  rw [knd_kv] at c4
  have hne : kv p.vars p.body ((0 : Nat) : Int) ≠ -1 := by intro e; have : kv p.vars p.body 0 = -1 := e; omega
  have hk : knd ⟨p.params, p.vars ++ [t], p.body⟩ 0 = 2 := by
    rw [knd_kv]
    have := kind_more p.vars t p.body p.body.length 0 (by omega) hne
    exact this.trans c4
  refine ⟨?_, hk⟩
  have hv := vars_more p t c2 h0 h9 p.body
  unfold chk9
  rw [if_neg (by simp [c1]), hv]
  split
  · rw [if_pos (by simp)]
  · rw [if_neg (by simp), if_neg]
    rw [not_or]
    exact ⟨Decidable.not_not.2 c3, Decidable.not_not.2 hk⟩

/-- A program whose variables are a row of the call's own, by value. -/
theorem deref_prog (H : Heap) (id n : Nat) (t : TypeId) (a : Int) (vs : List Int) (b : List Nd) (h : H[id]? = some (.cells t 1 (vs.map iD))) (hn : n = vs.length) : derefN H 9 (.agg [iD a, .hs id n, nodesD b]) = some (progD ⟨a, vs, b⟩) := by
  subst hn
  have : [iD a, D.hs id vs.length, nodesD b].mapM (derefN H 8) = some [iD a, intsD vs, nodesD b] := by
    simp only [List.mapM_cons, List.mapM_nil, derefN_pure H 8 (iD a) rfl, derefN_pure H 8 (nodesD b) rfl, deref_ints H 7 id t vs h]
    rfl
  show (List.mapM (derefN H 8) [iD a, D.hs id vs.length, nodesD b]).map D.agg = _
  rw [this]; rfl
theorem check9_obj (H : Heap) (id n : Nat) (t : TypeId) (a : Int) (vs : List Int) (b : List Nd) (h : H[id]? = some (.cells t 1 (vs.map iD))) (hn : n = vs.length) (hb : b.length ≤ 3000000) : liftF F_Check9 [.agg [iD a, .hs id n, nodesD b]] H = some (iD (chk9 ⟨a, vs, b⟩), H) := by
  have hd : [D.agg [iD a, .hs id n, nodesD b]].mapM (derefN H 9) = some [progD ⟨a, vs, b⟩] := by
    simp only [List.mapM_cons, List.mapM_nil, deref_prog H id n t a vs b h hn]; rfl
  rw [liftF_obj _ _ _ _ rfl hd]
  have : F_Check9 [progD ⟨a, vs, b⟩] = _ := f1_enc (A := progT) _ _
  rw [this, if_pos hb]; rfl
theorem of9_obj (H : Heap) (id n : Nat) (t : TypeId) (a : Int) (vs : List Int) (b : List Nd) (i : Int) (h : H[id]? = some (.cells t 1 (vs.map iD))) (hn : n = vs.length) (hb : b.length ≤ 3000000) : liftF F_Of9 [.agg [iD a, .hs id n, nodesD b], iD i] H = some (iD (knd ⟨a, vs, b⟩ i), H) := by
  have hd : [D.agg [iD a, .hs id n, nodesD b], iD i].mapM (derefN H 9) = some [progD ⟨a, vs, b⟩, iD i] := by
    simp only [List.mapM_cons, List.mapM_nil, deref_prog H id n t a vs b h hn, derefN_pure H 9 (iD i) rfl]; rfl
  rw [liftF_obj _ _ _ _ rfl hd]
  have : F_Of9 [progD ⟨a, vs, b⟩, iD i] = _ := f2_enc (A := progT) (B := intT) _ _ _
  rw [this, if_pos hb]; rfl

theorem pre_text (x0 x1 : D) : runK Try.prog L09 [] 0 58 (cutAt 5 (bodyOf Try.f5)) (ofFr [x0, x1] 0) [] (fun lv e H => some (lv, [getE e 1, getE e 2, getE e 4, getE e 5], H)) =
(thnH (boxH 25 x0 []) fun y0 h1 =>
thnH (liftF F_true [] h1) fun y2 h3 =>
thn (notD y2) fun y4 =>
condK y4
(some (.ret, [x1, y0, bD false, y2], h3))
(thn (loadH (some 3) h3 y0) fun y5 =>
thnH (liftF F_Few [y5] h3) fun y6 h7 =>
thn (notD y6) fun y8 =>
condK y8
(some (.ret, [x1, y0, y2, y2], h7))
(thn (loadH (some 3) h7 y0) fun y9 =>
thnH (liftF F_Check9 [y9] h7) fun y10 h11 =>
thn (binK .int .neq y10 (iD 0)) fun y12 =>
condK y12
(some (.ret, [x1, y0, y2, y2], h11))
(thn (binK .int .lss x1 (iD 0)) fun y13 =>
condK y13
(some (.ret, [x1, y0, y2, y2], h11))
(thn (binK .int .gtr x1 (iD 9)) fun y14 =>
condK y14
(some (.ret, [x1, y0, y2, y2], h11))
(some (.exit 999999, [x1, y0, bD false, y2], h11))))))) := by kernel_rfl
theorem tail_text (g : Nat → D) (h : Heap) : funK Try.prog L09 [] 0 (tailAt 6 (bodyOf Try.f5)) 58 Try.f5.results.toList ((List.range 58).map g) h =
(thn (fieldAtH 1 (g 2)) fun y34 =>
thn (loadH none h y34) fun y35 =>
thn (lenH .sl y35) fun y36 =>
thn (binK .int .eql y36 (iD 12)) fun y37 =>
condK y37
(condK (g 5)
(thn (loadH (some 3) h (g 7)) fun y38 =>
thnH (liftF F_Check9 [y38] h) fun y39 h40 =>
thn (binK .int .eql y39 (iD 14)) fun y41 =>
condK y41
(thn (loadH (some 3) h40 (g 7)) fun y42 =>
thnH (liftF F_Of9 [y42, (iD 0)] h40) fun y43 h44 =>
thn (binK .int .eql y43 (iD 2)) fun y45 =>
some (y45, h44))
(some ((bD false), h40)))
(some ((bD false), h)))
(condK (g 5)
(thn (loadH (some 3) h (g 7)) fun y46 =>
thnH (liftF F_Check9 [y46] h) fun y47 h48 =>
thn (binK .int .eql y47 (iD 0)) fun y49 =>
condK y49
(thn (loadH (some 3) h48 (g 7)) fun y50 =>
thnH (liftF F_Of9 [y50, (iD 0)] h48) fun y51 h52 =>
thn (binK .int .eql y51 (iD 2)) fun y53 =>
some (y53, h52))
(some ((bD false), h48)))
(some ((bD false), h)))) := by kernel_rfl

/-- Up to the region: either the law has its answer, or the region is come to. -/
theorem pre_gives (p : Pg) (t : Int) : (∃ l H, l.getD 2 .undef = bD true ∧ runK Try.prog L09 [] 0 58 (cutAt 5 (bodyOf Try.f5)) (ofFr [progD p, iD t] 0) [] (fun lv e H => some (lv, [getE e 1, getE e 2, getE e 4, getE e 5], H)) = some (.ret, l, H)) ∨
    (fewV p = true ∧ chk9 p = 0 ∧ 0 ≤ t ∧ t ≤ 9 ∧ runK Try.prog L09 [] 0 58 (cutAt 5 (bodyOf Try.f5)) (ofFr [progD p, iD t] 0) [] (fun lv e H => some (lv, [getE e 1, getE e 2, getE e 4, getE e 5], H)) = some (.exit 999999, [iD t, .hp 0 0, bD false, bD true], [.cells 25 3 [iD p.params, intsD p.vars, nodesD p.body]])) := by
  rw [pre_text]
  have ep : ∀ p : Pg, D.agg [iD p.params, intsD p.vars, nodesD p.body] = progD p := fun _ => rfl
  cases h1 : fewV p with
  | false => exact .inl ⟨[iD t, .hp 0 0, bD true, bD true], [.cells 25 3 [iD p.params, intsD p.vars, nodesD p.body]], rfl, by simp [true_pure, few_pure, ep, h1]⟩
  | true =>
    obtain ⟨_, hvl, hp, hp'⟩ := few_fits h1
    by_cases h2 : chk9 p = 0
    case neg => exact .inl ⟨[iD t, .hp 0 0, bD true, bD true], [.cells 25 3 [iD p.params, intsD p.vars, nodesD p.body]], rfl, by simp [true_pure, few_pure, ep, h1, check9_pure p hp', h2]⟩
    by_cases h3 : t < 0
    case pos => exact .inl ⟨[iD t, .hp 0 0, bD true, bD true], [.cells 25 3 [iD p.params, intsD p.vars, nodesD p.body]], rfl, by simp [true_pure, few_pure, ep, h1, check9_pure p hp', h2, h3]⟩
    by_cases h4 : 9 < t
    case pos => exact .inl ⟨[iD t, .hp 0 0, bD true, bD true], [.cells 25 3 [iD p.params, intsD p.vars, nodesD p.body]], rfl, by simp [true_pure, few_pure, ep, h1, check9_pure p hp', h2, h3, h4]⟩
    exact .inr ⟨rfl, h2, by omega, by omega, by simp [true_pure, few_pure, ep, h1, check9_pure p hp', h2, h3, h4]⟩
/-- Behind the region. -/
theorem tail_gives (p : Pg) (t : Int) (h1 : fewV p = true) (h2 : chk9 p = 0) (h3 : 0 ≤ t) (h4 : t ≤ 9) (g : Nat → D) (H : Heap) (i8 j : Nat) (e2 : g 2 = .hp 0 0) (e5 : g 5 = bD true) (e7 : g 7 = .hp j 0)
    (q0 : H[0]? = some (.cells 25 3 [iD p.params, intsD p.vars, nodesD p.body])) (q8 : H[i8]? = some (.cells 3 1 ((p.vars ++ [t]).map iD))) (qj : H[j]? = some (.cells 25 3 [iD p.params, .hs i8 (p.vars ++ [t]).length, nodesD p.body])) :
    ∃ H', funK Try.prog L09 [] 0 (tailAt 6 (bodyOf Try.f5)) 58 Try.f5.results.toList ((List.range 58).map g) H = some (bD true, H') := by
  rw [tail_text, e2, e5, e7]
  obtain ⟨_, hvl, hp, hp'⟩ := few_fits h1
  obtain ⟨q1, q2⟩ := chk9_more p t h2 h3 h4
  have l0 : loadH none H (.hp 0 1) = some (intsD p.vars) := by rw [loadV_at q0]; rfl
  have l1 : loadH (some 3) H (.hp j 0) = some (.agg [iD p.params, .hs i8 (p.vars ++ [t]).length, nodesD p.body]) := by rw [loadV_at qj]; rfl
  have c1 := check9_obj H i8 _ 3 p.params (p.vars ++ [t]) p.body q8 rfl hp'
  have c2 := of9_obj H i8 _ 3 p.params (p.vars ++ [t]) p.body 0 q8 rfl hp'
  by_cases h5 : p.vars.length = 12
  · rw [if_pos h5] at q1
    exact ⟨H, by simp only [List.length_append, List.length_singleton, h5] at l1 c1 c2; simp [l0, l1, c1, c2, q1, q2, h5]⟩
  · rw [if_neg h5] at q1
    have h5' : ¬ ((p.vars.length : Nat) : Int) = 12 := by omega
    exact ⟨H, by simp only [List.length_append, List.length_singleton] at l1 c1 c2; simp [l0, l1, c1, c2, q1, q2, h5']⟩

theorem rl_start (ds : List D) (n : Nat) (h : ds.length ≤ n) : Rl n (ofFr ds 0) (ds ++ List.replicate (n - ds.length) .undef) := by
  refine ⟨by simp; omega, fun t => ?_⟩
  rw [ofFr_get, if_pos (Nat.zero_le _), Nat.sub_zero, List.getD_eq_getElem?_getD, List.getD_eq_getElem?_getD]
  by_cases ht : t < ds.length
  · rw [List.getElem?_append_left ht]
  · rw [List.getElem?_append_right (by omega), List.getElem?_eq_none (by omega)]
    simp only [List.getElem?_replicate]
    split <;> rfl
theorem range_frame {fr : List D} {n : Nat} (h : fr.length = n) : (List.range n).map (fun s => fr.getD s .undef) = fr := by
  subst h
  apply List.ext_getElem (by simp)
  intro i h1 h2
  simp only [List.getElem_map, List.getElem_range, List.getD_eq_getElem?_getD, List.getElem?_eq_getElem h2, Option.getD_some]
theorem resV : Try.f5.results.toList = [.tmp 4] := by kernel_rfl
theorem splitV : tailAt 5 (bodyOf Try.f5) = .seq (.region 7 (opsV Try.f5).toArray true) (tailAt 6 (bodyOf Try.f5)) := by kernel_rfl
theorem acV : ((opsV Try.f5).zipIdx.all fun x => x.1.after.all fun e => decide (e.on < x.2) || !Region.binds .any e) = true := by kernel_rfl
theorem ngV : ((opsV Try.f5).all fun o => o.guard.isNone) = true := by kernel_rfl
theorem headsV : heads 5 (bodyOf Try.f5) = true := by kernel_rfl
theorem bodyV : Try.f5.body = some (bodyOf Try.f5) := by kernel_rfl
theorem ntmpsV : Try.f5.ntmps = 58 := by kernel_rfl

theorem kindsVars_walk (p : Pg) (v : Value) (t : Int) (w : World) (hv : Rep (· < w.heap.size) [] w v (progD p)) :
    Calls Try.prog 5 #[v, .int .i64 t] w fun e w' => e = .returned (.bool true) ∧ Below w.heap.size w w' := by
  refine law_body Try.func5 bodyV (ds := [progD p, iD t]) (vs := [v, .int .i64 t]) (RepA.cons hv (RepA.cons (rep_int t) RepA.nil)) fun Q a hrep hQ => ?_
  rw [ntmpsV] at hrep
  rcases pre_gives p t with ⟨l, H, hl, hrun⟩ | ⟨h1, h2, h3, h4, hrun⟩
  · obtain ⟨lv, fr', e', k1, k2, k3⟩ := runK_le _ _ _ _ _ _ (rl_start [progD p, iD t] 58 (by simp)) hrun
    simp only [Option.some.injEq, Prod.mk.injEq] at k3
    obtain ⟨rfl, rfl, rfl⟩ := k3
    refine cutAt_ok (kp := []) L09_ok mixed (Nat.le_refl _) 5 _ headsV k1 (Nat.le_refl _) hrep (fun e => by cases e) fun _ a' w' S' L' g1 g2 => hQ .ret a' w' S' L' fr' (fun j e => by cases e) ?_ g1 g2
    rw [resV]
    simp only [resultsD, List.mapM_cons, List.mapM_nil, resD]
    have : getE e' 4 = bD true := hl
    rw [k2.get] at this
    rw [this]; rfl
  · obtain ⟨lv, fr', e', k1, k2, k3⟩ := runK_le _ _ _ _ _ _ (rl_start [progD p, iD t] 58 (by simp)) hrun
    simp only [Option.some.injEq, Prod.mk.injEq, List.cons.injEq, k2.get, and_true] at k3
    obtain ⟨rfl, ⟨s1, s2, s4, s5⟩, hH⟩ := k3
    obtain ⟨_, hvl, hp, hp'⟩ := few_fits h1
    refine cutAt_ok (kp := []) L09_ok mixed (Nat.le_refl _) 5 _ headsV k1 (Nat.le_refl _) hrep (fun _ a' w' S' L' g1 g2 => ?_) fun e => absurd rfl e
    rw [splitV]
    refine wpIn_seq ?_
    refine region_J L09_ok mixed .wide (fun d fr H => ∃ i2 i5 i7 i8 j, JV fr'.1 p t d fr H i2 i5 i7 i8 j) acV ngV g1 ?_ (stepsV s1 s2 (by omega)) ?_
    · refine ⟨0, 0, 0, 0, 0, ?_⟩
      constructor
      case len => exact k2.len
      case keep => intro s _; rfl
      case h0 => rw [hH]; rfl
      all_goals (intro h; cases h)
    · rintro d fr2 H2 a2 w2 S2 L2 hall ⟨i2, i5, i7, i8, j, J⟩ r2 l2
      have all : ∀ i, i < 14 → d i = true := fun i hi => hall i (by show i < (opsV Try.f5).toArray.size; simp only [List.size_toArray, lenV]; exact hi)
      obtain ⟨H3, hT⟩ := tail_gives p t h1 h2 h3 h4 (fun s => fr2.getD s .undef) H2 i8 j ((J.keep 2 (by decide)).trans s2) ((J.keep 5 (by decide)).trans s5) (J.v12 (all 12 (by decide))) J.h0 (J.h8 (all 8 (by decide))) (J.h13 (all 13 (by decide)))
      have hF := funK_le hT
      unfold runF at hF
      rw [range_frame J.len] at hF
      simp only [J.len, Nat.sub_self, List.replicate_zero, List.append_nil] at hF
      cases hc : runC Try.prog L09 [] 0 (tailAt 6 (bodyOf Try.f5)) (fr2, H2) with
      | none => rw [hc] at hF; cases hF
      | some q =>
        obtain ⟨lv, fr3⟩ := q
        rw [hc] at hF
        refine runC_ok L09_ok mixed .wide (Nat.le_refl _) _ hc (.inl rfl) (Nat.le_trans g2.kept.size l2.kept.size) r2 fun a3 w3 S3 L3 m1 m2 => ?_
        have hres : ∀ lv : Lv, (resultsD Try.prog Try.f5.results.toList fr3).map (fun d => (d, fr3.2)) = some (bD true, H3) → resultsD Try.prog Try.f5.results.toList fr3 = some (bD true) := by
          intro _ h
          cases hr : resultsD Try.prog Try.f5.results.toList fr3 with
          | none => rw [hr] at h; cases h
          | some x => rw [hr] at h; simp only [Option.map_some, Option.some.injEq, Prod.mk.injEq] at h; rw [h.1]
        cases lv with
        | exit i => cases hF
        | normal => exact hQ .normal a3 w3 S3 L3 fr3 (fun i e => by cases e) (hres .normal hF) m1 ((g2.trans l2).trans m2)
        | ret => exact hQ .ret a3 w3 S3 L3 fr3 (fun i e => by cases e) (hres .ret hF) m1 ((g2.trans l2).trans m2)
end Go.Proofs.Ytbnmkdlmalobaaa
end
