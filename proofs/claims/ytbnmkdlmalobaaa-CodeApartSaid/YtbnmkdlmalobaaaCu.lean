/-
  Parts joined into one text: T10r, T10s, T10t, T10u. No condition.
-/
import Derived.Test.YtbnmkdlmalobaaaCt

section
namespace Go.Proofs.Ytbnmkdlmalobaaa
open Go.RowKit
set_option linter.unusedVariables false
set_option linter.unusedSimpArgs false
set_option maxRecDepth 100000

theorem move_in {s : By} {r : Rd} {to : Nat} {e : Int} (h : r.1 ≤ s.length) (ht : to ≤ s.length) : (moveV r to e).1 ≤ s.length := by
  unfold moveV
  split
  · split
    · exact ht
    · exact h
  · exact h
theorem leb_at {s : By} {r : Rd} (h : r.1 ≤ s.length) : (lebV s r.1).2.1 ≤ s.length := by
  have := (lebV_in s r.1).1
  omega
theorem cnt_in {s : By} {r : Rd} (h : r.1 ≤ s.length) (m : Int) : (cntV s r m).2.1 ≤ s.length := move_in h (leb_at h)
theorem byt_in {s : By} {r : Rd} (h : r.1 ≤ s.length) : (bytV s r).2.1 ≤ s.length := by
  unfold bytV
  split
  · exact move_in h (by omega)
  · exact move_in h h
theorem int_in {s : By} {r : Rd} (h : r.1 ≤ s.length) : (intV s r).2.1 ≤ s.length := by
  unfold intV
  split
  · exact move_in h (leb_at h)
  · exact move_in h h
theorem node_in {s : By} {r : Rd} (h : r.1 ≤ s.length) : (nodeR s r).2.1 ≤ s.length := by
  unfold nodeR
  simp only
  split
  · exact cnt_in (byt_in h) _
  · split
    · exact int_in (byt_in h)
    · exact byt_in h
theorem cnt_range (s : By) (r : Rd) (m : Int) (hm : 0 ≤ m) : 0 ≤ (cntV s r m).1 ∧ (cntV s r m).1 ≤ m := by
  unfold cntV
  simp only
  split
  · rename_i hz
    have h1 := (moveV_ok hz).1
    unfold cntE at h1
    split at h1
    · cases h1
    · rename_i hc
      have hl := lebV_range s r.1
      have hn : ¬ (m < 0 ∨ m < (lebV s r.1).1) := fun hh => hc ⟨h1, hh⟩
      omega
  · omega
theorem int_range (s : By) (r : Rd) : i64In (intV s r).1 := by
  have hl := lebV_range s r.1
  unfold intV i64In
  split
  · simp only
    split
    · unfold zagV
      split <;> omega
    · omega
  · simp
theorem node_range (s : By) (r : Rd) : i64In (nodeR s r).1.2 := by
  unfold nodeR
  simp only
  split
  · have := cnt_range s (bytV s r).2 200 (by omega)
    unfold i64In
    simp only
    omega
  · split
    · exact int_range _ _
    · unfold i64In; simp
theorem nodes_range (s : By) : ∀ (n : Nat) (r : Rd), ∀ x ∈ (nodesR s n r).1, i64In x.2
  | 0, r => by simp [nodesR]
  | n + 1, r => by
    unfold nodesR
    split
    · intro x hx
      rcases List.mem_cons.1 hx with rfl | hx
      · exact node_range s r
      · exact nodes_range s n _ x hx
    · simp
theorem nodes_many (s : By) : ∀ (n : Nat) (r : Rd), (nodesR s n r).1.length ≤ n
  | 0, r => by simp [nodesR]
  | n + 1, r => by
    unfold nodesR
    split
    · simp only [List.length_cons]
      have := nodes_many s n (nodeR s r).2
      omega
    · simp
theorem vars_many (s : By) : ∀ (n : Nat) (r : Rd), (varsR s n r).1.length = n
  | 0, r => by simp [varsR]
  | n + 1, r => by simp [varsR, vars_many s n]
theorem vars_in {s : By} : ∀ (n : Nat) {r : Rd}, r.1 ≤ s.length → (varsR s n r).2.1 ≤ s.length
  | 0, r, h => by simpa [varsR] using h
  | n + 1, r, h => by simp only [varsR]; exact vars_in n (byt_in h)

/-- What has been read: a parameters, variables, nodes; the reader's object ro at ri. -/
structure GetInv (ri : Nat) (ro : HO) (a : Int) (vs : List Int) (b : List Nd) (H : Heap) : Prop where
  len : 3 ≤ H.length
  ne : ri ≠ 0 ∧ ri ≠ 2
  ret : H[0]? = some (.cells 25 3 [iD 0, .v (.slice none 0 0), .v (.slice none 0 0)])
  rd : H[ri]? = some ro
  pg : ∃ d1 d2, H[2]? = some (.cells 25 3 [iD a, d1, d2]) ∧ Buf 3 1 H 3 d1 vs.length (intsC vs) ∧ Buf 39 2 H 3 d2 b.length (nodesC b) ∧ (∀ k q q', d1 = .hs k q → d2 ≠ .hs k q') ∧ ∀ q, d1 ≠ .hs ri q ∧ d2 ≠ .hs ri q
/-- The reader is moved, and objects are made and written that are none of these. -/
theorem GetInv.grow {ri : Nat} {ro : HO} {a : Int} {vs : List Int} {b : List Nd} {H H' : Heap} (h : GetInv ri ro a vs b H) (ro' : HO) (hl : H.length ≤ H'.length) (keep : ∀ i, i < H.length → i ≠ ri → H'[i]? = H[i]?) (hr : H'[ri]? = some ro') : GetInv ri ro' a vs b H' := by
  obtain ⟨h0, hne, h1, h2, d1, d2, h3, h4, h5, h6, h7⟩ := h
  have lt1 : ∀ k q, d1 = .hs k q → 3 ≤ k ∧ k < H.length := by rintro k q rfl; exact h4.lt
  have lt2 : ∀ k q, d2 = .hs k q → 3 ≤ k ∧ k < H.length := by rintro k q rfl; exact h5.lt
  exact ⟨by omega, hne, (keep 0 (by omega) (by omega)).trans h1, hr, d1, d2, (keep 2 (by omega) (by omega)).trans h3, h4.keep fun k q e => keep k (lt1 k q e).2 (fun hk => (h7 q).1 (by rw [← hk]; exact e)), h5.keep fun k q e => keep k (lt2 k q e).2 (fun hk => (h7 q).2 (by rw [← hk]; exact e)), h6, h7⟩
theorem GetInv.read {ri : Nat} {ro : HO} {a : Int} {vs : List Int} {b : List Nd} {H : Heap} (h : GetInv ri ro a vs b H) (ro' : HO) : GetInv ri ro' a vs b (H.set ri ro') := by
  have hl := (List.getElem?_eq_some_iff.1 h.rd).1
  exact h.grow ro' (by simp) (fun i hi hn => by rw [List.getElem?_set_ne (by omega)]) (by rw [List.getElem?_set_self hl])
theorem load_two (H : Heap) (k : Nat) (t : TypeId) (x y : D) (h : H[k]? = some (.cells t 2 [x, y])) : loadH (some 2) H (.hp k 0) = some (.agg [x, y]) := by simp [h]
/-- An append to one of two rows. -/
theorem two_buf {e1 e2 : TypeId} {sz1 sz2 : Nat} {H : Heap} {B : Nat} {d1 d2 : D} {n1 n2 m : Nat} {c1 c2 new : List D} (h1 : Buf e1 sz1 H B d1 n1 c1) (h2 : Buf e2 sz2 H B d2 n2 c2) (h3 : ∀ k q q', d1 = .hs k q → d2 ≠ .hs k q') (hsz : 0 < sz1) (hn : new.length = m * sz1) (hok : new.all cellOk = true) (hb : c1.length + new.length ≤ 4000000) (hB : B ≤ H.length) :
    ∃ d' H3, appH e1 sz1 d1 new H = some (d', H3) ∧ Buf e1 sz1 H3 B d' (n1 + m) (c1 ++ new) ∧ Buf e2 sz2 H3 B d2 n2 c2 ∧ (∀ k q q', d' = .hs k q → d2 ≠ .hs k q') ∧ Kp B H H3 ∧ (∀ k, k < H.length → (∀ q, d1 ≠ .hs k q) → H3[k]? = H[k]? ∧ ∀ q, d' ≠ .hs k q) := by
  obtain ⟨d', H3, a1, a2, a3, a4, a5⟩ := app_buf h1 hsz hn hok hb hB
  have lt2 : ∀ k q, d2 = .hs k q → k < H.length := by
    rintro k q rfl
    exact h2.lt.2
  refine ⟨d', H3, a1, a2, h2.keep fun k q e => a4 k (lt2 k q e) fun q' e' => h3 k q' q e' e, fun k q q' e e' => ?_, a3, fun k hk hq => ⟨a4 k hk hq, fun q e => ?_⟩⟩
  · have hlt := lt2 k q' e'
    rcases a5 with a5 | ⟨q0, a5⟩
    · exact h3 k q q' (by rw [← a5]; exact e) e'
    · rw [a5] at e
      cases e
      omega
  · rcases a5 with a5 | ⟨q0, a5⟩
    · exact hq q (by rw [← a5]; exact e)
    · rw [a5] at e
      cases e
      omega
/-- A variable more. -/
theorem get_var (ri : Nat) (ro : HO) (a : Int) (vs : List Int) (b : List Nd) (H : Heap) (h : GetInv ri ro a vs b H) (hv : vs.length ≤ 3000) (t : Int) : ∃ d d' H3 H4, loadH none H (.hp 2 1) = some d ∧
    rowH 3 1 1 [iD 0] [(0, iD t)] H = some (.hs H.length 1, H ++ [.cells 3 1 [iD t]]) ∧ appendH 3 1 d (.hs H.length 1) (H ++ [.cells 3 1 [iD t]]) = some (d', H3) ∧ setH 1 (.hp 2 1) d' H3 = some (.v undef, H4) ∧ GetInv ri ro a (vs ++ [t]) b H4 ∧
    (∀ k, k < H.length → k ≠ 2 → (∀ q, d ≠ .hs k q) → H4[k]? = H[k]?) := by
  obtain ⟨h0, hne, h1, h2, d1, d2, h3, h4, h5, h6, h7⟩ := h
  have hri := (List.getElem?_eq_some_iff.1 h2).1
  have hl0 := load_cellN H 2 1 _ _ _ _ h3 rfl
  have src : srcH 1 (H ++ [HO.cells 3 1 [iD t]]) (.hs H.length 1) = some (intsC [t]) := by
    have : (H ++ [HO.cells 3 1 [iD t]])[H.length]? = some (.cells 3 1 [iD t]) := by simp
    simp only [srcH, this]
    rfl
  obtain ⟨d', H3, a1, a2, a3, a4, a5, a6⟩ := two_buf (h4.app [HO.cells 3 1 [iD t]]) (h5.app [HO.cells 3 1 [iD t]]) h6 (m := 1) (new := intsC [t]) (by omega) rfl rfl (by rw [intsC_len, intsC_len]; simp; omega) (by simp; omega)
  have ap : appendH 3 1 d1 (.hs H.length 1) (H ++ [.cells 3 1 [iD t]]) = some (d', H3) := by unfold appendH; rw [src, Option.bind_some]; exact a1
  have keep : ∀ i, i < H.length → (∀ q, d1 ≠ .hs i q) → H3[i]? = H[i]? := fun i hi hq => by rw [(a6 i (by simp; omega) hq).1, List.getElem?_append_left hi]
  have low : ∀ i, i < 3 → ∀ q, d1 ≠ .hs i q := fun i hi q e => by
    rw [e] at h4
    have := h4.lt.1
    omega
  have c2 : H3[2]? = some (.cells 25 3 [iD a, d1, d2]) := (keep 2 (by omega) (low 2 (by omega))).trans h3
  have st := set_cellN H3 2 1 _ _ _ d' c2 (by simp) a2.cells a2.ok
  have hl3 := a5.1
  simp only [List.length_append, List.length_singleton] at hl3
  refine ⟨d1, d', H3, _, hl0, rfl, ap, st, ⟨by simp; omega, hne, ?_, ?_, d', d2, ?_, ?_, ?_, a4, fun q => ⟨(a6 ri (by simp; omega) fun q' => (h7 q').1).2 q, (h7 q).2⟩⟩, fun k hk hk2 hq => by rw [List.getElem?_set_ne (by omega)]; exact keep k hk hq⟩
  · rw [List.getElem?_set_ne (by omega), keep 0 (by omega) (low 0 (by omega))]; exact h1
  · rw [List.getElem?_set_ne (by omega), keep ri hri fun q => (h7 q).1]; exact h2
  · rw [List.getElem?_set_self (by omega)]; rfl
  · have := a2.set 2 (.cells 25 3 ([iD a, d1, d2].set 1 d')) (by omega)
    rw [List.length_append, intsC_app]
    exact this
  · exact a3.set 2 _ (by omega)
/-- A node more. -/
theorem get_node (ri : Nat) (ro : HO) (a : Int) (vs : List Int) (b : List Nd) (H : Heap) (h : GetInv ri ro a vs b H) (hv : b.length ≤ 1000) (x : Nd) : ∃ d d' H3 H4, loadH none H (.hp 2 2) = some d ∧
    rowH 39 2 1 [iD 0, iD 0] [(0, .agg [iD x.1, iD x.2])] H = some (.hs H.length 1, H ++ [.cells 39 2 [iD x.1, iD x.2]]) ∧ appendH 39 2 d (.hs H.length 1) (H ++ [.cells 39 2 [iD x.1, iD x.2]]) = some (d', H3) ∧ setH 1 (.hp 2 2) d' H3 = some (.v undef, H4) ∧ GetInv ri ro a vs (b ++ [x]) H4 ∧
    (∀ k, k < H.length → k ≠ 2 → (∀ q, d ≠ .hs k q) → H4[k]? = H[k]?) := by
  obtain ⟨h0, hne, h1, h2, d1, d2, h3, h4, h5, h6, h7⟩ := h
  have hri := (List.getElem?_eq_some_iff.1 h2).1
  have hl0 := load_cellN H 2 2 _ _ _ _ h3 rfl
  have src : srcH 2 (H ++ [HO.cells 39 2 [iD x.1, iD x.2]]) (.hs H.length 1) = some (nodesC [x]) := by
    have : (H ++ [HO.cells 39 2 [iD x.1, iD x.2]])[H.length]? = some (.cells 39 2 [iD x.1, iD x.2]) := by simp
    simp only [srcH, this]
    rfl
  obtain ⟨d', H3, a1, a2, a3, a4, a5, a6⟩ := two_buf (h5.app [HO.cells 39 2 [iD x.1, iD x.2]]) (h4.app [HO.cells 39 2 [iD x.1, iD x.2]]) (fun k q q' e e' => h6 k q' q e' e) (m := 1) (new := nodesC [x]) (by omega) rfl rfl (by rw [nodesC_len, nodesC_len]; simp; omega) (by simp; omega)
  have ap : appendH 39 2 d2 (.hs H.length 1) (H ++ [.cells 39 2 [iD x.1, iD x.2]]) = some (d', H3) := by unfold appendH; rw [src, Option.bind_some]; exact a1
  have keep : ∀ i, i < H.length → (∀ q, d2 ≠ .hs i q) → H3[i]? = H[i]? := fun i hi hq => by rw [(a6 i (by simp; omega) hq).1, List.getElem?_append_left hi]
  have low : ∀ i, i < 3 → ∀ q, d2 ≠ .hs i q := fun i hi q e => by
    rw [e] at h5
    have := h5.lt.1
    omega
  have c2 : H3[2]? = some (.cells 25 3 [iD a, d1, d2]) := (keep 2 (by omega) (low 2 (by omega))).trans h3
  have st := set_cellN H3 2 2 _ _ _ d' c2 (by simp) a2.cells a2.ok
  have hl3 := a5.1
  simp only [List.length_append, List.length_singleton] at hl3
  refine ⟨d2, d', H3, _, hl0, rfl, ap, st, ⟨by simp; omega, hne, ?_, ?_, d1, d', ?_, ?_, ?_, fun k q q' e e' => a4 k q' q e' e, fun q => ⟨(h7 q).1, (a6 ri (by simp; omega) fun q' => (h7 q').2).2 q⟩⟩, fun k hk hk2 hq => by rw [List.getElem?_set_ne (by omega)]; exact keep k hk hq⟩
  · rw [List.getElem?_set_ne (by omega), keep 0 (by omega) (low 0 (by omega))]; exact h1
  · rw [List.getElem?_set_ne (by omega), keep ri hri fun q => (h7 q).2]; exact h2
  · rw [List.getElem?_set_self (by omega)]; rfl
  · exact a3.set 2 _ (by omega)
  · have := a2.set 2 (.cells 25 3 ([iD a, d1, d2].set 2 d')) (by omega)
    rw [List.length_append, nodesC_app]
    exact this

theorem codeGet_vars (s : By) (hs : s.length ≤ 3000) (a : Int) (d4 : D) (N : Nat) : ∀ (m j q n : Nat) (r : Rd) (vs : List Int) (H : Heap), j + m = n → m < q → n ≤ 12 → vs.length ≤ j → r.1 ≤ s.length → GetInv 1 (rdO s r) a vs [] H →
    ∃ H', iterS (stepF Try.prog (T10n Try.prog) kp_code_Get N Try.f35 0) q [sD s, .hp 0 0, .hp 1 0, .hp 2 0, d4, iD n, iD j] H = some (.exit 0, [sD s, .hp 0 0, .hp 1 0, .hp 2 0, d4, iD n, iD n], H') ∧ GetInv 1 (rdO s (varsR s m r).2) a (vs ++ (varsR s m r).1) [] H'
  | 0, j, q, n, r, vs, H, hj, hq, hn, hv, hr, h => by
    obtain ⟨q, rfl⟩ : ∃ x, q = x + 1 := ⟨q - 1, by omega⟩
    obtain rfl : j = n := by omega
    refine ⟨H, iterS_exit ?_, by simpa [varsR] using h⟩
    rw [st_code_Get_0]
    simp
  | m + 1, j, q, n, r, vs, H, hj, hq, hn, hv, hr, h => by
    obtain ⟨q, rfl⟩ : ∃ x, q = x + 1 := ⟨q - 1, by omega⟩
    have h1 : (j : Int) < n := by omega
    have e1 := intD_add (j : Int) 1 (by omega) (by omega)
    have hby := rByte_ok s r H 1 h.rd hr (by omega)
    have hI1 := h.read (rdO s (bytV s r).2)
    have hu : intOf64 .i64 (u8D (bytV s r).1) = some (iD ((bytV s r).1.toNat : Int)) := by
      have := (bytV s r).1.toNat_lt
      exact i64_of _ _ (by omega) (by omega)
    obtain ⟨d, d', H3, H4, g1, g2, g3, g4, g5, _⟩ := get_var 1 _ a vs [] _ hI1 (by omega) ((bytV s r).1.toNat : Int)
    have g0 : loadH none H (.hp 2 1) = some d := by
      rw [← g1]
      simp only [loadH_hp]
      rw [List.getElem?_set_ne (by omega)]
    have hso : ∀ k : Option (Lv × List D × Heap), sameO (.hp 2 1) (some H) (some (H.set 1 (rdO s (bytV s r).2))) k = k := fun k => by
      obtain ⟨h0, _, _, h2, d1, d2, h3, h4, h5, h6, _⟩ := h
      exact sameO_hp 2 1 _ _ _ _ _ k h3 (by rw [List.getElem?_set_ne (by omega)]) (by simp [h4.eqB, h5.eqB])
    obtain ⟨H', z1, z2⟩ := codeGet_vars s hs a d4 N m (j + 1) q n (bytV s r).2 _ H4 (by omega) (by omega) hn (by simp; omega) (byt_in hr) g5
    have hstep : stepF Try.prog (T10n Try.prog) kp_code_Get N Try.f35 0 [sD s, .hp 0 0, .hp 1 0, .hp 2 0, d4, iD n, iD j] H = some (.normal, [sD s, .hp 0 0, .hp 1 0, .hp 2 0, d4, iD n, iD (j + 1 : Nat)], H4) := by
      rw [st_code_Get_0]
      simp only [binK_lss, thn_some, condK_bool, decide_eq_true_eq, h1, if_true, fieldAt_hp, Nat.zero_add, g0, hby, thnH_some, hu, g2, g3, g4, hso, binK_int, e1, Int.natCast_add, Int.cast_ofNat_Int]
    refine ⟨H', by rw [iterS_go hstep]; exact z1, ?_⟩
    simp only [varsR]
    rw [List.append_assoc] at z2
    exact z2

/-- One node is read: what the round does behind the byte. -/
theorem codeGet_body (s : By) (hs : s.length ≤ 3000) (a : Int) (vs : List Int) (d5 d6 : D) (N : Nat) : ∀ (m q n : Nat) (r : Rd) (b : List Nd) (H : Heap), b.length + m = n → m < q → n ≤ 200 → r.1 ≤ s.length → GetInv 1 (rdO s r) a vs b H →
    ∃ H', iterS (stepF Try.prog (T10n Try.prog) kp_code_Get N Try.f35 1) q [sD s, .hp 0 0, .hp 1 0, .hp 2 0, iD n, d5, d6] H = some (.exit 2, [sD s, .hp 0 0, .hp 1 0, .hp 2 0, iD n, d5, d6], H') ∧ GetInv 1 (rdO s (nodesR s m r).2) a vs (b ++ (nodesR s m r).1) H'
  | 0, q, n, r, b, H, hj, hq, hn, hr, h => by
    obtain ⟨q, rfl⟩ : ∃ x, q = x + 1 := ⟨q - 1, by omega⟩
    have h' := h
    obtain ⟨h0, _, _, h2, d1, d2, h3, h4, h5, h6, _⟩ := h
    have l0 := load_cellN H 2 2 _ _ _ _ h3 rfl
    have l1 := h5.lenH
    have hlt : ¬ (b.length : Int) < n := by omega
    refine ⟨H, iterS_exit ?_, by simpa [nodesR] using h'⟩
    rw [st_code_Get_1]
    simp [-loadH_hp, l0, l1, hlt]
  | m + 1, q, n, r, b, H, hj, hq, hn, hr, h => by
    obtain ⟨q, rfl⟩ : ∃ x, q = x + 1 := ⟨q - 1, by omega⟩
    have hlt : (b.length : Int) < n := by omega
    have l0 : ∃ d2, loadH none H (.hp 2 2) = some d2 ∧ lenH .sl d2 = some (iD b.length) := by
      obtain ⟨h0, _, _, h2, d1, d2, h3, h4, h5, h6, _⟩ := h
      exact ⟨d2, load_cellN H 2 2 _ _ _ _ h3 rfl, h5.lenH⟩
    obtain ⟨d2, l0, l1⟩ := l0
    have hend := rEnd_ok s r H 1 h.rd
    by_cases hE : endE s r = 5
    · have hby := rByte_ok s r H 1 h.rd hr (by omega)
      have hI1 := h.read (rdO s (bytV s r).2)
      have hr1 := byt_in (s := s) hr
      generalize hr1e : (bytV s r).2 = r1 at *
      generalize hte : ((bytV s r).1.toNat : Int) = t at *
      have hu : intOf64 .i64 (u8D (bytV s r).1) = some (iD t) := by
        have := (bytV s r).1.toNat_lt
        rw [← hte]
        exact i64_of _ _ (by omega) (by omega)
      generalize hH1 : H.set 1 (rdO s r1) = H1 at *
      have hbuild : buildR [(0, 1), (1, 1)] [iD 0, iD 0] [(0, iD t)] = some (.agg [iD t, iD 0]) := rfl
      have ha1 : allocH 39 [iD 0, iD 0] H1 = some (.hp H1.length 0, H1 ++ [.cells 39 2 [iD 0, iD 0]]) := rfl
      have hs1 : setH 2 (.hp H1.length 0) (.agg [iD t, iD 0]) (H1 ++ [.cells 39 2 [iD 0, iD 0]]) = some (.v undef, H1 ++ [.cells 39 2 [iD t, iD 0]]) := by
        simp [setH, storeH]
      have hk3 := hI1.len
      have hnode : (H1 ++ [HO.cells 39 2 [iD t, iD 0]])[H1.length]? = some (.cells 39 2 [iD t, iD 0]) := by simp
      have hk : (H1 ++ [HO.cells 39 2 [iD t, iD 0]]).length = H1.length + 1 := by simp
      have hold : ∀ i, i < H1.length → (H1 ++ [HO.cells 39 2 [iD t, iD 0]])[i]? = H1[i]? := fun i hi => List.getElem?_append_left hi
      generalize hH2 : H1 ++ [HO.cells 39 2 [iD t, iD 0]] = H2 at *
      have m0 := load_cellN H2 H1.length 0 _ _ _ _ hnode rfl
      have hc := codeOf_pure t
      have ha2 : allocH 69 [.v .nilFunc, .v .nilFunc] H2 = some (.hp H2.length 0, H2 ++ [.cells 69 2 [.v .nilFunc, .v .nilFunc]]) := rfl
      have hs2 : ∀ p g : D, cellOk p = true → cellOk g = true → setH 2 (.hp H2.length 0) (.agg [p, g]) (H2 ++ [.cells 69 2 [.v .nilFunc, .v .nilFunc]]) = some (.v undef, H2 ++ [.cells 69 2 [p, g]]) := fun p g hp hg => by
        simp [setH, storeH, hp, hg]
      have hform : ∀ p g : D, (H2 ++ [HO.cells 69 2 [p, g]])[H2.length]? = some (.cells 69 2 [p, g]) := fun p g => by simp
      have hold2 : ∀ (p g : D) (i : Nat), i < H2.length → (H2 ++ [HO.cells 69 2 [p, g]])[i]? = H2[i]? := fun p g i hi => List.getElem?_append_left hi
      -- what comes behind, once the number is known
      have fin : ∀ (H5 : Heap) (r2 : Rd) (v : Int), GetInv 1 (rdO s r2) a vs b H5 → nodeR s r = ((t, v), r2) → r2.1 ≤ s.length →
          ∃ d d' H3 H4, loadH none H5 (.hp 2 2) = some d ∧ rowH 39 2 1 [iD 0, iD 0] [(0, .agg [iD t, iD v])] H5 = some (.hs H5.length 1, H5 ++ [.cells 39 2 [iD t, iD v]]) ∧ appendH 39 2 d (.hs H5.length 1) (H5 ++ [.cells 39 2 [iD t, iD v]]) = some (d', H3) ∧ setH 1 (.hp 2 2) d' H3 = some (.v undef, H4) ∧
          ∃ H', iterS (stepF Try.prog (T10n Try.prog) kp_code_Get N Try.f35 1) q [sD s, .hp 0 0, .hp 1 0, .hp 2 0, iD n, d5, d6] H4 = some (.exit 2, [sD s, .hp 0 0, .hp 1 0, .hp 2 0, iD n, d5, d6], H') ∧ GetInv 1 (rdO s (nodesR s (m + 1) r).2) a vs (b ++ (nodesR s (m + 1) r).1) H' := by
        intro H5 r2 v hI5 hnr hr2
        obtain ⟨d, d', H3, H4, g1, g2, g3, g4, g5, _⟩ := get_node 1 _ a vs b H5 hI5 (by omega) (t, v)
        obtain ⟨H', z1, z2⟩ := codeGet_body s hs a vs d5 d6 N m q n r2 (b ++ [(t, v)]) H4 (by simp; omega) (by omega) hn hr2 g5
        refine ⟨d, d', H3, H4, g1, g2, g3, g4, H', z1, ?_⟩
        unfold nodesR
        rw [if_pos hE, hnr]
        rw [List.append_assoc] at z2
        exact z2
      by_cases hk2 : kindN t = 2
      · have hnr : nodeR s r = ((t, (intV s r1).1), (intV s r1).2) := by
          unfold nodeR
          simp only [hte, hr1e]
          rw [if_neg (by omega), if_pos hk2]
        have hs3 := hs2 (.clo (.func 77) [] []) (.clo (.func 78) [] []) rfl rfl
        have hf := hform (.clo (.func 77) [] []) (.clo (.func 78) [] [])
        have hold3 := hold2 (.clo (.func 77) [] []) (.clo (.func 78) [] [])
        have hl3 : (H2 ++ [HO.cells 69 2 [.clo (.func 77) [] [], .clo (.func 78) [] []]]).length = H2.length + 1 := by simp
        generalize hH3 : H2 ++ [HO.cells 69 2 [.clo (.func 77) [] [], .clo (.func 78) [] []]] = H3 at *
        have m1 := load_cellN H3 H2.length 1 _ _ _ _ hf rfl
        have hrd3 : H3[1]? = some (rdO s r1) := by rw [hold3 1 (by omega), hold 1 (by omega)]; exact hI1.rd
        have hcall : callClo (T10n Try.prog) (.clo (.func 78) [] []) [.hp 1 0] H3 = some (iD (intV s r1).1, H3.set 1 (rdO s (intV s r1).2)) := rInt_ok s r1 H3 1 hrd3 hr1 (by omega)
        have hn4 : (H3.set 1 (rdO s (intV s r1).2))[H1.length]? = some (.cells 39 2 [iD t, iD 0]) := by rw [List.getElem?_set_ne (by omega), hold3 _ (by omega)]; exact hnode
        have st := set_cellN _ H1.length 1 _ _ _ (iD (intV s r1).1) hn4 (by simp) rfl rfl
        have est : ([iD t, iD 0] : List D).set 1 (iD (intV s r1).1) = [iD t, iD (intV s r1).1] := rfl
        rw [est] at st
        have hn5 : ((H3.set 1 (rdO s (intV s r1).2)).set H1.length (.cells 39 2 [iD t, iD (intV s r1).1]))[H1.length]? = some (.cells 39 2 [iD t, iD (intV s r1).1]) := by rw [List.getElem?_set_self (by simp; omega)]
        have m2 := load_two _ _ _ _ _ hn5
        have hI5 : GetInv 1 (rdO s (intV s r1).2) a vs b ((H3.set 1 (rdO s (intV s r1).2)).set H1.length (.cells 39 2 [iD t, iD (intV s r1).1])) := by
          refine hI1.grow _ (by simp; omega) (fun i hi h1 => ?_) ?_
          · rw [List.getElem?_set_ne (by omega), List.getElem?_set_ne (by omega), hold3 i (by omega), hold i hi]
          · rw [List.getElem?_set_ne (by omega), List.getElem?_set_self (by omega)]
        obtain ⟨d, d', H7, H8, g1, g2, g3, g4, H', z1, z2⟩ := fin _ _ _ hI5 hnr (int_in hr1)
        have hstep : stepF Try.prog (T10n Try.prog) kp_code_Get N Try.f35 1 [sD s, .hp 0 0, .hp 1 0, .hp 2 0, iD n, d5, d6] H = some (.normal, [sD s, .hp 0 0, .hp 1 0, .hp 2 0, iD n, d5, d6], H8) := by
          rw [st_code_Get_1]
          rw [if_pos hk2] at hc
          simp only [fieldAt_hp, Nat.zero_add, Nat.add_zero, thn_some, l0, l1, binK_lss, condK_bool, decide_eq_true_eq, hlt, if_true, nilD_hp, hend, thnH_some, binK_neq, hE, bne_self_eq_false, Bool.false_eq_true, if_false, hby, hu, hbuild, ha1, hs1, m0, hc, ext0, ext1, ha2, hs3, m1, hcall, st, g1, m2, g2, g3, g4]
        exact ⟨H', by rw [iterS_go hstep]; exact z1, z2⟩
      · by_cases hk1 : kindN t = 1
        · have hnr : nodeR s r = ((t, (cntV s r1 200).1), (cntV s r1 200).2) := by
            unfold nodeR
            simp only [hte, hr1e]
            rw [if_pos hk1]
          have hs3 := hs2 (.clo (.func 54) [] []) (.clo (.func 79) [] []) rfl rfl
          have hf := hform (.clo (.func 54) [] []) (.clo (.func 79) [] [])
          have hold3 := hold2 (.clo (.func 54) [] []) (.clo (.func 79) [] [])
          have hl3 : (H2 ++ [HO.cells 69 2 [.clo (.func 54) [] [], .clo (.func 79) [] []]]).length = H2.length + 1 := by simp
          generalize hH3 : H2 ++ [HO.cells 69 2 [.clo (.func 54) [] [], .clo (.func 79) [] []]] = H3 at *
          have m1 := load_cellN H3 H2.length 1 _ _ _ _ hf rfl
          have hrd3 : H3[1]? = some (rdO s r1) := by rw [hold3 1 (by omega), hold 1 (by omega)]; exact hI1.rd
          have hcall : callClo (T10n Try.prog) (.clo (.func 79) [] []) [.hp 1 0] H3 = some (iD (cntV s r1 200).1, H3.set 1 (rdO s (cntV s r1 200).2)) := of1_ok s r1 H3 1 hrd3 hr1 (by omega)
          have hn4 : (H3.set 1 (rdO s (cntV s r1 200).2))[H1.length]? = some (.cells 39 2 [iD t, iD 0]) := by rw [List.getElem?_set_ne (by omega), hold3 _ (by omega)]; exact hnode
          have st := set_cellN _ H1.length 1 _ _ _ (iD (cntV s r1 200).1) hn4 (by simp) rfl rfl
          have est : ([iD t, iD 0] : List D).set 1 (iD (cntV s r1 200).1) = [iD t, iD (cntV s r1 200).1] := rfl
          rw [est] at st
          have hn5 : ((H3.set 1 (rdO s (cntV s r1 200).2)).set H1.length (.cells 39 2 [iD t, iD (cntV s r1 200).1]))[H1.length]? = some (.cells 39 2 [iD t, iD (cntV s r1 200).1]) := by rw [List.getElem?_set_self (by simp; omega)]
          have m2 := load_two _ _ _ _ _ hn5
          have hI5 : GetInv 1 (rdO s (cntV s r1 200).2) a vs b ((H3.set 1 (rdO s (cntV s r1 200).2)).set H1.length (.cells 39 2 [iD t, iD (cntV s r1 200).1])) := by
            refine hI1.grow _ (by simp; omega) (fun i hi h1 => ?_) ?_
            · rw [List.getElem?_set_ne (by omega), List.getElem?_set_ne (by omega), hold3 i (by omega), hold i hi]
            · rw [List.getElem?_set_ne (by omega), List.getElem?_set_self (by omega)]
          obtain ⟨d, d', H7, H8, g1, g2, g3, g4, H', z1, z2⟩ := fin _ _ _ hI5 hnr (cnt_in hr1 _)
          have hstep : stepF Try.prog (T10n Try.prog) kp_code_Get N Try.f35 1 [sD s, .hp 0 0, .hp 1 0, .hp 2 0, iD n, d5, d6] H = some (.normal, [sD s, .hp 0 0, .hp 1 0, .hp 2 0, iD n, d5, d6], H8) := by
            rw [st_code_Get_1]
            rw [if_neg hk2, if_pos hk1] at hc
            simp only [fieldAt_hp, Nat.zero_add, Nat.add_zero, thn_some, l0, l1, binK_lss, condK_bool, decide_eq_true_eq, hlt, if_true, nilD_hp, hend, thnH_some, binK_neq, hE, bne_self_eq_false, Bool.false_eq_true, if_false, hby, hu, hbuild, ha1, hs1, m0, hc, ext0, ext1, ha2, hs3, m1, hcall, st, g1, m2, g2, g3, g4]
          exact ⟨H', by rw [iterS_go hstep]; exact z1, z2⟩

        · have hnr : nodeR s r = ((t, 0), r1) := by
            unfold nodeR
            simp only [hte, hr1e]
            rw [if_neg hk1, if_neg hk2]
          have hs3 := hs2 (.v .nilFunc) (.v .nilFunc) rfl rfl
          have hold3 := hold2 (.v .nilFunc) (.v .nilFunc)
          have hl3 : (H2 ++ [HO.cells 69 2 [.v .nilFunc, .v .nilFunc]]).length = H2.length + 1 := by simp
          generalize hH3 : H2 ++ [HO.cells 69 2 [.v .nilFunc, .v .nilFunc]] = H3 at *
          have hn3 : H3[H1.length]? = some (.cells 39 2 [iD t, iD 0]) := by rw [hold3 _ (by omega)]; exact hnode
          have m2 := load_two _ _ _ _ _ hn3
          have hI5 : GetInv 1 (rdO s r1) a vs b H3 := by
            refine hI1.grow _ (by omega) (fun i hi h1 => ?_) ?_
            · rw [hold3 i (by omega), hold i hi]
            · rw [hold3 1 (by omega), hold 1 (by omega)]; exact hI1.rd
          obtain ⟨d, d', H7, H8, g1, g2, g3, g4, H', z1, z2⟩ := fin _ _ _ hI5 hnr hr1
          have hstep : stepF Try.prog (T10n Try.prog) kp_code_Get N Try.f35 1 [sD s, .hp 0 0, .hp 1 0, .hp 2 0, iD n, d5, d6] H = some (.normal, [sD s, .hp 0 0, .hp 1 0, .hp 2 0, iD n, d5, d6], H8) := by
            rw [st_code_Get_1]
            rw [if_neg hk2, if_neg hk1] at hc
            simp only [fieldAt_hp, Nat.zero_add, Nat.add_zero, thn_some, l0, l1, binK_lss, condK_bool, decide_eq_true_eq, hlt, if_true, nilD_hp, hend, thnH_some, binK_neq, hE, bne_self_eq_false, Bool.false_eq_true, if_false, hby, hu, hbuild, ha1, hs1, m0, hc, ext0, ext1, ha2, hs3, g1, m2, g2, g3, g4]
          exact ⟨H', by rw [iterS_go hstep]; exact z1, z2⟩
    · refine ⟨H, iterS_exit ?_, ?_⟩
      · rw [st_code_Get_1]
        simp [-loadH_hp, l0, l1, hlt, hend, hE]
      · unfold nodesR
        rw [if_neg hE, List.append_nil]
        exact h
end Go.Proofs.Ytbnmkdlmalobaaa
end

section
namespace Go.Proofs.Ytbnmkdlmalobaaa
open Go.RowKit
set_option linter.unusedVariables false
set_option linter.unusedSimpArgs false
set_option maxRecDepth 100000

def getR (s : By) : Pg × Int := if chk9 (decC s) = 0 ∧ encV (decC s) = s then (decC s, 0) else (⟨0, [], []⟩, 12)
theorem decC_range (s : By) : pgInB (decC s) = true ∧ (decC s).body.length ≤ 200 := by
  have hr := cnt_range s (varsR s (cntV s (cntV s (0, 0) 12).2 12).1.toNat (cntV s (cntV s (0, 0) 12).2 12).2).2 200 (by omega)
  refine ⟨pgInB_of fun x hx => ?_, ?_⟩
  · simp only [decC] at hx
    exact nodes_range s _ _ x hx
  · simp only [decC]
    have := nodes_many s (cntV s (varsR s (cntV s (cntV s (0, 0) 12).2 12).1.toNat (cntV s (cntV s (0, 0) 12).2 12).2).2 200).1.toNat (cntV s (varsR s (cntV s (cntV s (0, 0) 12).2 12).1.toNat (cntV s (cntV s (0, 0) 12).2 12).2).2 200).2
    omega
def F_CodeGet : List D → Option D := F1 strT fun s => if s.length ≤ 3000 then some (.tup [progD (getR s).1, iD (getR s).2]) else none
def retP : HO := .cells 25 3 [iD 0, .v (.slice none 0 0), .v (.slice none 0 0)]
/-- The program that was read is given back, or none. -/
theorem get_end (ri : Nat) (ro : HO) (s : By) (H : Heap) (p : Pg) (h : GetInv ri ro p.params p.vars p.body H) (hp : pgInB p = true) (hl : p.body.length ≤ 3000000) : ∃ d1 d2, loadH (some 3) H (.hp 2 0) = some (.agg [iD p.params, d1, d2]) ∧ liftF F_CodePut [.agg [iD p.params, d1, d2]] H = some (.tup [sD (putR p), iD (chk9 p)], H) ∧
    (∃ H', setH 3 (.hp 0 0) (.agg [iD p.params, d1, d2]) H = some (.v undef, H') ∧ loadH (some 3) H' (.hp 0 0) = some (.agg [iD p.params, d1, d2]) ∧ ∃ d', outD (some (.tup [.agg [iD p.params, d1, d2], iD 0], H')) = some d' ∧ Imp d' (.tup [progD p, iD 0])) ∧
    (∃ H', setH 3 (.hp 0 0) (.agg [iD 0, .v (.slice none 0 0), .v (.slice none 0 0)]) H = some (.v undef, H') ∧ loadH (some 3) H' (.hp 0 0) = some (.agg [iD 0, .v (.slice none 0 0), .v (.slice none 0 0)]) ∧ ∃ d', outD (some (.tup [.agg [iD 0, .v (.slice none 0 0), .v (.slice none 0 0)], iD 12], H')) = some d' ∧ Imp d' (.tup [progD ⟨0, [], []⟩, iD 12])) := by
  obtain ⟨h0, hne, h1, h2, d1, d2, h3, h4, h5, h6, h7⟩ := h
  have st : ∀ x y z : D, cellOk x = true → cellOk y = true → cellOk z = true → setH 3 (.hp 0 0) (.agg [x, y, z]) H = some (.v undef, H.set 0 (.cells 25 3 [x, y, z])) := fun x y z hx hy hz => by
    simp [setH, storeH, h1, hx, hy, hz]
  have ld : ∀ x y z : D, loadH (some 3) (H.set 0 (.cells 25 3 [x, y, z])) (.hp 0 0) = some (.agg [x, y, z]) := fun x y z => by
    simp [List.getElem?_set_self (show 0 < H.length by omega)]
  refine ⟨d1, d2, by simp [h3], ?_, ⟨_, st _ _ _ rfl h4.ok h5.ok, ld _ _ _, ?_⟩, ⟨_, st _ _ _ rfl rfl rfl, ld _ _ _, ?_⟩⟩
  · exact lift_prog h4 h5 _ (by rw [if_pos ⟨hp, hl⟩]) rfl
  · exact out_prog (h4.set 0 _ (by omega)) (h5.set 0 _ (by omega)) 0
  · exact out_prog (Buf.nil 3 1 _ 3) (Buf.nil 39 2 _ 3) 12
theorem C_CodeGet : CallOk Try.prog 35 F_CodeGet := call1 (kp := kp_code_Get) T10n_ok mixed Try.func35 (by kernel_rfl) (by decide) fun s d h => by
  split at h
  case isFalse => cases h
  rename_i hs
  cases h
  refine ⟨300, ?_⟩
  show ∃ d', outD (textK _ _ _ _ _ [sD s] []) = _ ∧ _
  rw [sh_code_Get]
  have hA := cnt_range s (0, 0) 12 (by omega)
  have hAi := cnt_in (s := s) (r := (0, 0)) (by simp) 12
  have c1 := rCount_ok s (0, 0) [retP, rdO s (0, 0)] 1 rfl (by simp) (by omega) 12 (by omega) (by omega)
  have hdec : decC s = ⟨(cntV s (0, 0) 12).1, (varsR s (cntV s (cntV s (0, 0) 12).2 12).1.toNat (cntV s (cntV s (0, 0) 12).2 12).2).1, (nodesR s (cntV s (varsR s (cntV s (cntV s (0, 0) 12).2 12).1.toNat (cntV s (cntV s (0, 0) 12).2 12).2).2 200).1.toNat (cntV s (varsR s (cntV s (cntV s (0, 0) 12).2 12).1.toNat (cntV s (cntV s (0, 0) 12).2 12).2).2 200).2).1⟩ := rfl
  obtain ⟨hpin, hpl⟩ := decC_range s
  generalize cntV s (0, 0) 12 = A at *
  have hB := cnt_range s A.2 12 (by omega)
  have hBi := cnt_in hAi 12
  generalize hH10 : ([retP, rdO s A.2, HO.cells 25 3 [iD A.1, .v (.slice none 0 0), .v (.slice none 0 0)]] : Heap) = H10
  have hI10 : GetInv 1 (rdO s A.2) A.1 [] [] H10 := by
    rw [← hH10]
    exact ⟨by simp, by omega, rfl, rfl, _, _, rfl, Buf.nil _ _ _ _, Buf.nil _ _ _ _, fun k q q' e => (by cases e), fun q => ⟨fun e => (by cases e), fun e => (by cases e)⟩⟩
  have c2 := rCount_ok s A.2 H10 1 hI10.rd hAi (by omega) 12 (by omega) (by omega)
  generalize cntV s A.2 12 = B at *
  have hI12 := hI10.read (rdO s B.2)
  generalize H10.set 1 (rdO s B.2) = H12 at *
  obtain ⟨n, hn⟩ := Int.eq_ofNat_of_zero_le hB.1
  have hBn : B.1.toNat = n := by omega
  obtain ⟨H15, z1, z2⟩ := codeGet_vars s hs A.1 .undef 300 n 0 300 n B.2 [] H12 (by omega) (by omega) (by omega) (by simp) hBi hI12
  rw [hBn] at hdec
  have hCi := vars_in n hBi
  have hvm := vars_many s n B.2
  generalize varsR s n B.2 = C at *
  have hDr := cnt_range s C.2 200 (by omega)
  have hDi := cnt_in hCi 200
  have c3 := rCount_ok s C.2 H15 1 z2.rd hCi (by omega) 200 (by omega) (by omega)
  generalize cntV s C.2 200 = D0 at *
  have hI17 := z2.read (rdO s D0.2)
  generalize H15.set 1 (rdO s D0.2) = H17 at *
  obtain ⟨k, hk⟩ := Int.eq_ofNat_of_zero_le hDr.1
  have hDn : D0.1.toNat = k := by omega
  obtain ⟨H20, y1, y2⟩ := codeGet_body s hs A.1 _ (iD n) (iD n) 300 k 300 k D0.2 [] H17 (by simp) (by omega) (by omega) hDi hI17
  rw [hDn] at hdec
  simp only [List.nil_append] at y2
  have y3 : GetInv 1 (rdO s (nodesR s k D0.2).2) (decC s).params (decC s).vars (decC s).body H20 := by rw [hdec]; exact y2
  obtain ⟨d1, d2, e1, e2, ⟨H', e3, e4, d', e5, e6⟩, ⟨H'', e7, e8, d'', e9, e10⟩⟩ := get_end 1 _ s H20 (decC s) y3 hpin (by omega)
  have z1' : loopF Try.prog (T10n Try.prog) kp_code_Get 300 Try.f35 0 [sD s, .hp 0 0, .hp 1 0, .hp 2 0, .undef, iD n, iD 0] H12 = _ := z1
  have y1' : loopF Try.prog (T10n Try.prog) kp_code_Get 300 Try.f35 1 [sD s, .hp 0 0, .hp 1 0, .hp 2 0, iD k, iD n, iD n] H17 = _ := y1
  have a1 : allocH 25 [iD 0, .v (.slice none 0 0), .v (.slice none 0 0)] [] = some (.hp 0 0, [retP]) := rfl
  have a2 : G_rOf Try.prog [sD s] [retP] = some (.hp 1 0, [retP, rdO s (0, 0)]) := rOf_ok s [retP]
  have a3 : buildR [(0, 1), (1, 1), (2, 1)] [iD 0, .v (.slice none 0 0), .v (.slice none 0 0)] [(0, iD A.1)] = some (.agg [iD A.1, .v (.slice none 0 0), .v (.slice none 0 0)]) := rfl
  have a4 : allocH 25 [iD 0, .v (.slice none 0 0), .v (.slice none 0 0)] ([retP, rdO s (0, 0)].set 1 (rdO s A.2)) = some (.hp 2 0, [retP, rdO s A.2, retP]) := rfl
  have a5 : setH 3 (.hp 2 0) (.agg [iD A.1, .v (.slice none 0 0), .v (.slice none 0 0)]) [retP, rdO s A.2, retP] = some (.v undef, H10) := by rw [← hH10]; rfl
  have a6 : buildR [(0, 1), (1, 1), (2, 1)] [iD 0, .v (.slice none 0 0), .v (.slice none 0 0)] [] = some (.agg [iD 0, .v (.slice none 0 0), .v (.slice none 0 0)]) := rfl
  simp only [a1, thnH_some, a2, c1, a3, thn_some, a4, a5, c2, hn, z1', leaveK_exit, condN_same, List.getD_cons_zero, List.getD_cons_succ, c3, hk, y1', e1, e2, ext0, ext1, binK_neq, condK_bool, str_ne]
  by_cases q1 : chk9 (decC s) = 0
  · have hP : putR (decC s) = encV (decC s) := by unfold putR; rw [if_pos q1]
    by_cases q2 : encV (decC s) = s
    · have hR : getR s = (decC s, 0) := by unfold getR; rw [if_pos ⟨q1, q2⟩]
      rw [hR]
      refine ⟨d', ?_, e6⟩
      simp only [q1, bne_self_eq_false, Bool.false_eq_true, if_false, hP, q2, decide_true, Bool.not_true, e3, thnH_some, e4, thn_some]
      exact e5
    · have hR : getR s = (⟨0, [], []⟩, 12) := by unfold getR; rw [if_neg (fun h => q2 h.2)]
      rw [hR]
      refine ⟨d'', ?_, e10⟩
      simp only [q1, bne_self_eq_false, Bool.false_eq_true, if_false, if_true, hP, q2, decide_false, Bool.not_false, a6, thn_some, e7, thnH_some, e8]
      exact e9
  · have hR : getR s = (⟨0, [], []⟩, 12) := by unfold getR; rw [if_neg (fun h => q1 h.1)]
    rw [hR]
    refine ⟨d'', ?_, e10⟩
    have q3 : (chk9 (decC s) != 0) = true := by simpa using q1
    simp only [q3, if_true, a6, thn_some, e7, thnH_some, e8]
    exact e9
end Go.Proofs.Ytbnmkdlmalobaaa
end

section
namespace Go.Proofs.Ytbnmkdlmalobaaa
open Go.RowKit
set_option linter.unusedVariables false
set_option linter.unusedSimpArgs false
set_option maxRecDepth 100000

theorem do_in {s : By} {r : Rd} (h : r.1 ≤ s.length) (k : Int) : (doV s r k).2.1 ≤ s.length := by
  have hi := (refV_in s r.1).1
  unfold doV
  split
  · exact h
  · split
    · split
      · exact h
      · simp only; omega
    · split
      · exact h
      · split
        · exact h
        · simp only; omega
theorem ask_in {s : By} {r : Rd} (h : r.1 ≤ s.length) (k : Int) : (askV10 s r k).2.1 ≤ s.length := by
  unfold askV10
  split
  · exact do_in h k
  · exact do_in h k
theorem do_range (s : By) (r : Rd) (k : Int) : i64In (doV s r k).1 ∨ (k ≠ 3 ∧ k ≠ 2 ∧ k ≠ 0) := by
  have hr := refV_range s r.1
  unfold doV i64In
  split
  · left; simp
  · split
    · split
      · left; simp
      · left
        have := (s.getD r.1 0).toNat_lt
        simp only
        omega
    · split
      · left; simp
      · split
        · left; simp
        · by_cases h3 : k = 3
          · left
            rw [if_pos h3]
            simp only
            unfold zagV
            split <;> omega
          · by_cases h2 : k = 2
            · left
              rename_i h
              rw [if_neg h3]
              simp only
              have : ¬ 1000000 < (refV s r.1).1 := fun hh => h ⟨h2, hh⟩
              omega
            · right
              rename_i h0 _ _ 
              exact ⟨h3, h2, by assumption⟩
theorem ask_range (s : By) (r : Rd) (k : Int) (hk : k = 0 ∨ k = 2 ∨ k = 3) : i64In (askV10 s r k).1 := by
  unfold askV10
  split
  · unfold i64In; simp
  · rcases do_range s r k with h | h
    · exact h
    · omega
theorem nodeQ_in {s : By} {r : Rd} (h : r.1 ≤ s.length) : (nodeQ s r).2.1 ≤ s.length := by
  unfold nodeQ
  simp only
  split
  · exact ask_in (ask_in h _) _
  · split
    · exact ask_in (ask_in h _) _
    · exact ask_in h _
theorem nodeQ_range (s : By) (r : Rd) : i64In (nodeQ s r).1.2 := by
  unfold nodeQ
  simp only
  split
  · exact ask_range _ _ _ (by omega)
  · split
    · exact ask_range _ _ _ (by omega)
    · unfold i64In; simp
theorem nodesQ_range (s : By) (n : Int) : ∀ (f i : Nat) (r : Rd), ∀ x ∈ (nodesQ s n f i r).1, i64In x.2
  | 0, i, r => by simp [nodesQ]
  | f + 1, i, r => by
    unfold nodesQ
    split
    · intro x hx
      rcases List.mem_cons.1 hx with rfl | hx
      · exact nodeQ_range s r
      · exact nodesQ_range s n f _ _ x hx
    · simp
theorem nodesQ_many (s : By) (n : Int) : ∀ (f i : Nat) (r : Rd), (nodesQ s n f i r).1.length ≤ f
  | 0, i, r => by simp [nodesQ]
  | f + 1, i, r => by
    unfold nodesQ
    split
    · simp only [List.length_cons]
      have := nodesQ_many s n f (i + 1) (nodeQ s r).2
      omega
    · simp
theorem varsQ_many (s : By) (n : Int) : ∀ (f i : Nat) (r : Rd), (varsQ s n f i r).1.length ≤ f
  | 0, i, r => by simp [varsQ]
  | f + 1, i, r => by
    unfold varsQ
    split
    · simp only [List.length_cons]
      have := varsQ_many s n f (i + 1) (askV10 s r 0).2
      omega
    · simp
theorem varsQ_in {s : By} (n : Int) : ∀ (f i : Nat) {r : Rd}, r.1 ≤ s.length → (varsQ s n f i r).2.1 ≤ s.length
  | 0, i, r, h => by simpa [varsQ] using h
  | f + 1, i, r, h => by
    unfold varsQ
    split
    · exact varsQ_in n f _ (ask_in h 0)
    · exact h

def rdQ (s : By) (r : Rd) : HO := .cells 85 3 [sD s, iD r.1, iD r.2]
theorem ask_pure (s : By) (r : Rd) (k : Int) (hk : k = 0 ∨ k = 2 ∨ k = 3) (hr : r.1 ≤ s.length) (hs : s.length ≤ 3000000) (H : Heap) : liftF F_Ask [.agg [sD s, iD r.1, iD r.2], iD k] H = some (.tup [.agg [sD s, iD (askV10 s r k).2.1, iD (askV10 s r k).2.2], iD (askV10 s r k).1], H) := by
  rw [liftF_pure _ _ _ rfl]
  have : F_Ask [.agg [sD s, iD r.1, iD r.2], iD k] = _ := f2_enc (A := rdT) (B := intT) _ (s, (r.1 : Int), r.2) k
  rw [this, if_pos (by simp only [doOk, decide_eq_true_eq]; exact ⟨hk, trivial, by omega, by omega, hs⟩)]
  rfl
theorem load_rdQ (s : By) (r : Rd) (H : Heap) (i : Nat) (h : H[i]? = some (rdQ s r)) : loadH (some 3) H (.hp i 0) = some (.agg [sD s, iD r.1, iD r.2]) := by simp [h, rdQ]
theorem set_rdQ (s : By) (r r' : Rd) (H : Heap) (i : Nat) (h : H[i]? = some (rdQ s r)) : setH 3 (.hp i 0) (.agg [sD s, iD r'.1, iD r'.2]) H = some (.v undef, H.set i (rdQ s r')) := by simp [setH, storeH, h, rdQ]
theorem new_rdQ (s : By) (r : Rd) (H : Heap) : ∃ H2, allocH 85 [.v (.string ⟨#[]⟩), iD 0, iD 0] H = some (.hp H.length 0, H2) ∧ setH 3 (.hp H.length 0) (.agg [sD s, iD r.1, iD r.2]) H2 = some (.v undef, H ++ [rdQ s r]) := by
  exact ⟨_, rfl, by simp [setH, storeH, rdQ]⟩

/-- What is appended leaves a new object alone. -/
theorem refGet_vars (s : By) (hs : s.length ≤ 3000) (a : Int) (nn : Int) (ri : Nat) (d6 d7 d8 : D) (N : Nat) : ∀ (f j q : Nat) (r : Rd) (vs : List Int) (H : Heap), j + f = 13 → f < q → vs.length ≤ j → r.1 ≤ s.length → GetInv ri (rdQ s r) a vs [] H →
    ∃ H' j', iterS (stepF Try.prog (T10n Try.prog) kp_offshootref10_Get N Try.f36 0) q [sD s, .hp 0 0, .hp 2 0, .hp ri 0, iD nn, iD j, d6, d7, d8] H = some (.exit 0, [sD s, .hp 0 0, .hp 2 0, .hp ri 0, iD nn, iD j', d6, d7, d8], H') ∧ GetInv ri (rdQ s (varsQ s nn f j r).2) a (vs ++ (varsQ s nn f j r).1) [] H'
  | 0, j, q, r, vs, H, hj, hq, hv, hr, h => by
    obtain ⟨q, rfl⟩ : ∃ x, q = x + 1 := ⟨q - 1, by omega⟩
    refine ⟨H, j, iterS_exit ?_, by simpa [varsQ] using h⟩
    rw [st_offshootref10_Get_0]
    have h2 : ¬ (j : Int) < 13 := by omega
    by_cases h1 : (j : Int) < nn
    · simp [h1, h2]
    · simp [h1]
  | f + 1, j, q, r, vs, H, hj, hq, hv, hr, h => by
    obtain ⟨q, rfl⟩ : ∃ x, q = x + 1 := ⟨q - 1, by omega⟩
    by_cases h1 : (j : Int) < nn
    · have h2 : (j : Int) < 13 := by omega
      have e1 := intD_add (j : Int) 1 (by omega) (by omega)
      have hrl := (List.getElem?_eq_some_iff.1 h.rd).1
      have hld := load_rdQ s r H ri h.rd
      have hask := ask_pure s r 0 (by omega) hr (by omega)
      obtain ⟨H2, n1, n2⟩ := new_rdQ s (askV10 s r 0).2 H
      have hI2 : GetInv ri (rdQ s r) a vs [] (H ++ [rdQ s (askV10 s r 0).2]) := h.grow _ (by simp) (fun i hi _ => List.getElem?_append_left hi) (by rw [List.getElem?_append_left hrl]; exact h.rd)
      have hnew : (H ++ [rdQ s (askV10 s r 0).2])[H.length]? = some (rdQ s (askV10 s r 0).2) := by simp
      obtain ⟨d, d', H3, H4, g1, g2, g3, g4, g5, g6⟩ := get_var ri _ a vs [] _ hI2 (by omega) (askV10 s r 0).1
      have hd : ∀ q, d ≠ .hs H.length q := by
        obtain ⟨_, _, _, _, d1, d2, h3, h4, h5, _, _⟩ := h
        have := load_cellN (H ++ [rdQ s (askV10 s r 0).2]) 2 1 _ _ _ _ (by rw [List.getElem?_append_left (List.getElem?_eq_some_iff.1 h3).1]; exact h3) rfl
        rw [g1] at this
        cases this
        rintro q rfl
        have := h4.lt.2
        omega
      have hnew4 : H4[H.length]? = some (rdQ s (askV10 s r 0).2) := (g6 H.length (by simp) (by have := h.len; omega) hd).trans hnew
      have hld4 := load_rdQ s _ H4 H.length hnew4
      have hset4 := set_rdQ s r (askV10 s r 0).2 H4 ri g5.rd
      have hI5 := g5.read (rdQ s (askV10 s r 0).2)
      obtain ⟨H', j', z1, z2⟩ := refGet_vars s hs a nn ri d6 d7 d8 N f (j + 1) q (askV10 s r 0).2 _ _ (by omega) (by omega) (by simp; omega) (ask_in hr 0) hI5
      have hstep : stepF Try.prog (T10n Try.prog) kp_offshootref10_Get N Try.f36 0 [sD s, .hp 0 0, .hp 2 0, .hp ri 0, iD nn, iD j, d6, d7, d8] H = some (.normal, [sD s, .hp 0 0, .hp 2 0, .hp ri 0, iD nn, iD (j + 1 : Nat), d6, d7, d8], H4.set ri (rdQ s (askV10 s r 0).2)) := by
        rw [st_offshootref10_Get_0]
        simp only [binK_lss, thn_some, condK_bool, decide_eq_true_eq, h1, h2, if_true, hld, hask, thnH_some, ext0, ext1, n1, n2, fieldAt_hp, Nat.zero_add, g1, g2, g3, g4, hld4, hset4, binK_int, e1, Int.natCast_add, Int.cast_ofNat_Int]
      refine ⟨H', j', by rw [iterS_go hstep]; exact z1, ?_⟩
      unfold varsQ
      rw [if_pos h1]
      rw [List.append_assoc] at z2
      exact z2
    · refine ⟨H, j, iterS_exit ?_, ?_⟩
      · rw [st_offshootref10_Get_0]
        simp [h1]
      · unfold varsQ
        rw [if_neg h1, List.append_nil]
        exact h
theorem GetInv.newRd {ri : Nat} {ro ro' : HO} {a : Int} {vs : List Int} {b : List Nd} {H : Heap} (h : GetInv ri ro a vs b H) : GetInv H.length ro' a vs b (H ++ [ro']) := by
  obtain ⟨h0, hne, h1, h2, d1, d2, h3, h4, h5, h6, h7⟩ := h
  refine ⟨by simp; omega, by omega, by rw [List.getElem?_append_left (by omega)]; exact h1, by simp, d1, d2, by rw [List.getElem?_append_left (by omega)]; exact h3, h4.app _, h5.app _, h6, fun q => ⟨?_, ?_⟩⟩
  · rintro rfl
    have := h4.lt.2
    omega
  · rintro rfl
    have := h5.lt.2
    omega
theorem setLast10 (H : Heap) (o o' : HO) : (H ++ [o]).set H.length o' = H ++ [o'] := by
  rw [List.set_append_right _ _ (Nat.le_refl _)]; simp
theorem refGet_body (s : By) (hs : s.length ≤ 3000) (a : Int) (vs : List Int) (mm : Int) (ri : Nat) (d3 d4 d5 : D) (N : Nat) : ∀ (f j q : Nat) (r : Rd) (b : List Nd) (H : Heap), j + f = 201 → f < q → b.length ≤ j → r.1 ≤ s.length → GetInv ri (rdQ s r) a vs b H →
    ∃ H' j', iterS (stepF Try.prog (T10n Try.prog) kp_offshootref10_Get N Try.f36 1) q [sD s, .hp 0 0, .hp 2 0, d3, d4, d5, .hp ri 0, iD mm, iD j] H = some (.exit 2, [sD s, .hp 0 0, .hp 2 0, d3, d4, d5, .hp ri 0, iD mm, iD j'], H') ∧ GetInv ri (rdQ s (nodesQ s mm f j r).2) a vs (b ++ (nodesQ s mm f j r).1) H'
  | 0, j, q, r, b, H, hj, hq, hv, hr, h => by
    obtain ⟨q, rfl⟩ : ∃ x, q = x + 1 := ⟨q - 1, by omega⟩
    refine ⟨H, j, iterS_exit ?_, by simpa [nodesQ] using h⟩
    rw [st_offshootref10_Get_1]
    have h2 : ¬ (j : Int) < 201 := by omega
    by_cases h1 : (j : Int) < mm
    · simp [h1, h2]
    · simp [h1]
  | f + 1, j, q, r, b, H, hj, hq, hv, hr, h => by
    obtain ⟨q, rfl⟩ : ∃ x, q = x + 1 := ⟨q - 1, by omega⟩
    by_cases h1 : (j : Int) < mm
    · have h2 : (j : Int) < 201 := by omega
      have e1 := intD_add (j : Int) 1 (by omega) (by omega)
      have hrl := (List.getElem?_eq_some_iff.1 h.rd).1
      have hld := load_rdQ s r H ri h.rd
      have hask := ask_pure s r 0 (by omega) hr (by omega)
      have hr1 := ask_in hr 0
      obtain ⟨H2, n1, n2⟩ := new_rdQ s (askV10 s r 0).2 H
      have hnQ : nodeQ s r = nodeQ s r := rfl
      generalize hAe : askV10 s r 0 = A at *
      obtain ⟨t, r1⟩ := A
      simp only at hr1 n2 hask
      have hnew1 : (H ++ [rdQ s r1])[H.length]? = some (rdQ s r1) := by simp
      have hld1 := load_rdQ s r1 _ H.length hnew1
      have hnum := numbered_pure t
      have fin : ∀ (v : Int) (r2 : Rd), nodeQ s r = ((t, v), r2) → r2.1 ≤ s.length → ∃ d d' H3 H4, loadH none (H ++ [rdQ s r2]) (.hp 2 2) = some d ∧ rowH 39 2 1 [iD 0, iD 0] [(0, .agg [iD t, iD v])] (H ++ [rdQ s r2]) = some (.hs (H ++ [rdQ s r2]).length 1, (H ++ [rdQ s r2]) ++ [.cells 39 2 [iD t, iD v]]) ∧
          appendH 39 2 d (.hs (H ++ [rdQ s r2]).length 1) ((H ++ [rdQ s r2]) ++ [.cells 39 2 [iD t, iD v]]) = some (d', H3) ∧ setH 1 (.hp 2 2) d' H3 = some (.v undef, H4) ∧ loadH (some 3) H4 (.hp H.length 0) = some (.agg [sD s, iD r2.1, iD r2.2]) ∧ setH 3 (.hp ri 0) (.agg [sD s, iD r2.1, iD r2.2]) H4 = some (.v undef, H4.set ri (rdQ s r2)) ∧
          ∃ H' j', iterS (stepF Try.prog (T10n Try.prog) kp_offshootref10_Get N Try.f36 1) q [sD s, .hp 0 0, .hp 2 0, d3, d4, d5, .hp ri 0, iD mm, iD (j + 1 : Nat)] (H4.set ri (rdQ s r2)) = some (.exit 2, [sD s, .hp 0 0, .hp 2 0, d3, d4, d5, .hp ri 0, iD mm, iD j'], H') ∧ GetInv ri (rdQ s (nodesQ s mm (f + 1) j r).2) a vs (b ++ (nodesQ s mm (f + 1) j r).1) H' := by
        intro v r2 hnq hr2
        have hI2 : GetInv ri (rdQ s r) a vs b (H ++ [rdQ s r2]) := h.grow _ (by simp) (fun i hi _ => List.getElem?_append_left hi) (by rw [List.getElem?_append_left hrl]; exact h.rd)
        have hnew : (H ++ [rdQ s r2])[H.length]? = some (rdQ s r2) := by simp
        obtain ⟨d, d', H3, H4, g1, g2, g3, g4, g5, g6⟩ := get_node ri _ a vs b _ hI2 (by omega) (t, v)
        have hd : ∀ q, d ≠ .hs H.length q := by
          obtain ⟨_, _, _, _, d1, d2, h3, h4, h5, _, _⟩ := h
          have := load_cellN (H ++ [rdQ s r2]) 2 2 _ _ _ _ (by rw [List.getElem?_append_left (List.getElem?_eq_some_iff.1 h3).1]; exact h3) rfl
          rw [g1] at this
          cases this
          rintro q rfl
          have := h5.lt.2
          omega
        have hnew4 : H4[H.length]? = some (rdQ s r2) := (g6 H.length (by simp) (by have := h.len; omega) hd).trans hnew
        have hld4 := load_rdQ s _ H4 H.length hnew4
        have hset4 := set_rdQ s r r2 H4 ri g5.rd
        have hI5 := g5.read (rdQ s r2)
        obtain ⟨H', j', z1, z2⟩ := refGet_body s hs a vs mm ri d3 d4 d5 N f (j + 1) q r2 _ _ (by omega) (by omega) (by simp; omega) hr2 hI5
        refine ⟨d, d', H3, H4, g1, g2, g3, g4, hld4, hset4, H', j', z1, ?_⟩
        unfold nodesQ
        rw [if_pos h1, hnq]
        rw [List.append_assoc] at z2
        exact z2
      have hb : ∀ v : Int, buildR [(0, 1), (1, 1)] [iD 0, iD 0] [(0, iD t), (1, iD v)] = some (.agg [iD t, iD v]) := fun v => rfl
      by_cases hk1 : kindN t = 1
      · have hask2 := ask_pure s r1 2 (by omega) hr1 (by omega)
        have hr2 := ask_in hr1 2
        have hnq : nodeQ s r = ((t, (askV10 s r1 2).1), (askV10 s r1 2).2) := by
          unfold nodeQ
          simp only [hAe]
          rw [if_pos hk1]
        generalize askV10 s r1 2 = A2 at *
        obtain ⟨v, r2⟩ := A2
        simp only at hr2 hnq hask2
        have hset := set_rdQ s r1 r2 _ H.length hnew1
        rw [setLast10] at hset
        obtain ⟨d, d', H3, H4, g1, g2, g3, g4, g5, g6, H', j', z1, z2⟩ := fin v r2 hnq hr2
        have hstep : stepF Try.prog (T10n Try.prog) kp_offshootref10_Get N Try.f36 1 [sD s, .hp 0 0, .hp 2 0, d3, d4, d5, .hp ri 0, iD mm, iD j] H = some (.normal, [sD s, .hp 0 0, .hp 2 0, d3, d4, d5, .hp ri 0, iD mm, iD (j + 1 : Nat)], H4.set ri (rdQ s r2)) := by
          rw [st_offshootref10_Get_1]
          have k2 : ¬ kindN t = 2 := by omega
          have k3 : (kindN t == 2) = false := by simpa using k2
          simp only [binK_lss, thn_some, condK_bool, decide_eq_true_eq, h1, h2, if_true, hld, hask, thnH_some, ext0, ext1, n1, n2, hnum, binK_eql, hk1, beq_self_eq_true, hld1, hask2, hset, k3, show ((1 : Int) == 2) = false from rfl, Bool.false_eq_true, if_false, fieldAt_hp, Nat.zero_add, g1, hb, g2, g3, g4, g5, g6, binK_int, e1, Int.natCast_add, Int.cast_ofNat_Int]
        exact ⟨H', j', by rw [iterS_go hstep]; exact z1, z2⟩
      · by_cases hk2 : kindN t = 2
        · have hask2 := ask_pure s r1 3 (by omega) hr1 (by omega)
          have hr2 := ask_in hr1 3
          have hnq : nodeQ s r = ((t, (askV10 s r1 3).1), (askV10 s r1 3).2) := by
            unfold nodeQ
            simp only [hAe]
            rw [if_neg hk1, if_pos hk2]
          generalize askV10 s r1 3 = A2 at *
          obtain ⟨v, r2⟩ := A2
          simp only at hr2 hnq hask2
          have hset := set_rdQ s r1 r2 _ H.length hnew1
          rw [setLast10] at hset
          obtain ⟨d, d', H3, H4, g1, g2, g3, g4, g5, g6, H', j', z1, z2⟩ := fin v r2 hnq hr2
          have hstep : stepF Try.prog (T10n Try.prog) kp_offshootref10_Get N Try.f36 1 [sD s, .hp 0 0, .hp 2 0, d3, d4, d5, .hp ri 0, iD mm, iD j] H = some (.normal, [sD s, .hp 0 0, .hp 2 0, d3, d4, d5, .hp ri 0, iD mm, iD (j + 1 : Nat)], H4.set ri (rdQ s r2)) := by
            rw [st_offshootref10_Get_1]
            simp only [binK_lss, thn_some, condK_bool, decide_eq_true_eq, h1, h2, if_true, hld, hask, thnH_some, ext0, ext1, n1, n2, hnum, binK_eql, hk2, show ((2 : Int) == 1) = false from rfl, beq_self_eq_true, hld1, hask2, hset, Bool.false_eq_true, if_false, fieldAt_hp, Nat.zero_add, g1, hb, g2, g3, g4, g5, g6, binK_int, e1, Int.natCast_add, Int.cast_ofNat_Int]
          exact ⟨H', j', by rw [iterS_go hstep]; exact z1, z2⟩
        · have hnq : nodeQ s r = ((t, 0), r1) := by
            unfold nodeQ
            simp only [hAe]
            rw [if_neg hk1, if_neg hk2]
          obtain ⟨d, d', H3, H4, g1, g2, g3, g4, g5, g6, H', j', z1, z2⟩ := fin 0 r1 hnq hr1
          have hstep : stepF Try.prog (T10n Try.prog) kp_offshootref10_Get N Try.f36 1 [sD s, .hp 0 0, .hp 2 0, d3, d4, d5, .hp ri 0, iD mm, iD j] H = some (.normal, [sD s, .hp 0 0, .hp 2 0, d3, d4, d5, .hp ri 0, iD mm, iD (j + 1 : Nat)], H4.set ri (rdQ s r1)) := by
            rw [st_offshootref10_Get_1]
            have k1 : (kindN t == 1) = false := by simpa using hk1
            have k2 : (kindN t == 2) = false := by simpa using hk2
            simp only [binK_lss, thn_some, condK_bool, decide_eq_true_eq, h1, h2, if_true, hld, hask, thnH_some, ext0, ext1, n1, n2, hnum, binK_eql, k1, k2, Bool.false_eq_true, if_false, fieldAt_hp, Nat.zero_add, g1, hb, g2, g3, g4, g5, g6, binK_int, e1, Int.natCast_add, Int.cast_ofNat_Int]
          exact ⟨H', j', by rw [iterS_go hstep]; exact z1, z2⟩
    · refine ⟨H, j, iterS_exit ?_, ?_⟩
      · rw [st_offshootref10_Get_1]
        simp [h1]
      · unfold nodesQ
        rw [if_neg h1, List.append_nil]
        exact h
def refR (s : By) : Pg × Int := if chk9 (decQ s) = 0 ∧ encV (decQ s) = s then (decQ s, 0) else (⟨0, [], []⟩, 12)
theorem decQ_range (s : By) : pgInB (decQ s) = true ∧ (decQ s).body.length ≤ 201 := by
  refine ⟨pgInB_of fun x hx => ?_, ?_⟩
  · simp only [decQ] at hx
    exact nodesQ_range s _ _ _ _ x hx
  · simp only [decQ]
    exact nodesQ_many s _ 201 _ _
/-- Both readers come to the same. -/
theorem refR_eq (s : By) : refR s = getR s := by
  unfold refR getR
  by_cases h1 : chk9 (decC s) = 0 ∧ encV (decC s) = s
  · have hp := pg_ok h1.1 (pgIn_of (decC_range s).1)
    have := decQ_enc _ hp []
    rw [List.append_nil, h1.2] at this
    rw [this]
  · by_cases h2 : chk9 (decQ s) = 0 ∧ encV (decQ s) = s
    · exfalso
      have hp := pg_ok h2.1 (pgIn_of (decQ_range s).1)
      have := dec_enc _ hp []
      rw [List.append_nil, h2.2] at this
      rw [this] at h1
      exact h1 h2
    · rw [if_neg h1, if_neg h2]
theorem C_RefCodeGet : CallOk Try.prog 36 F_CodeGet := call1 (kp := kp_offshootref10_Get) T10n_ok mixed Try.func36 (by kernel_rfl) (by decide) fun s d h => by
  split at h
  case isFalse => cases h
  rename_i hs
  cases h
  refine ⟨300, ?_⟩
  show ∃ d', outD (textK _ _ _ _ _ [sD s] []) = _ ∧ _
  rw [sh_offshootref10_Get, ← refR_eq]
  have hdec : decQ s = ⟨(askV10 s (0, 0) 2).1, (varsQ s (askV10 s (askV10 s (0, 0) 2).2 2).1 13 0 (askV10 s (askV10 s (0, 0) 2).2 2).2).1, (nodesQ s (askV10 s (varsQ s (askV10 s (askV10 s (0, 0) 2).2 2).1 13 0 (askV10 s (askV10 s (0, 0) 2).2 2).2).2 2).1 201 0 (askV10 s (varsQ s (askV10 s (askV10 s (0, 0) 2).2 2).1 13 0 (askV10 s (askV10 s (0, 0) 2).2 2).2).2 2).2).1⟩ := rfl
  obtain ⟨hpin, hpl⟩ := decQ_range s
  have c1 := ask_pure s (0, 0) 2 (by omega) (by simp) (by omega)
  have hAi := ask_in (s := s) (r := (0, 0)) (by simp) 2
  generalize askV10 s (0, 0) 2 = A at *
  have c2 := ask_pure s A.2 2 (by omega) hAi (by omega)
  have hBi := ask_in hAi 2
  generalize askV10 s A.2 2 = B at *
  generalize hH27 : ([retP, rdQ s A.2, HO.cells 25 3 [iD A.1, .v (.slice none 0 0), .v (.slice none 0 0)], rdQ s B.2] : Heap) = H27
  have hI27 : GetInv 3 (rdQ s B.2) A.1 [] [] H27 := by
    rw [← hH27]
    exact ⟨by simp, by omega, rfl, rfl, _, _, rfl, Buf.nil _ _ _ _, Buf.nil _ _ _ _, fun k q q' e => (by cases e), fun q => ⟨fun e => (by cases e), fun e => (by cases e)⟩⟩
  obtain ⟨H30, j, z1, z2⟩ := refGet_vars s hs A.1 B.1 3 .undef .undef .undef 300 13 0 300 B.2 [] H27 (by omega) (by omega) (by simp) hBi hI27
  have hCi := varsQ_in B.1 13 0 hBi
  generalize varsQ s B.1 13 0 B.2 = C at *
  have c3 := ask_pure s C.2 2 (by omega) hCi (by omega)
  have hDi := ask_in hCi 2
  generalize askV10 s C.2 2 = D0 at *
  have hld := load_rdQ s C.2 H30 3 z2.rd
  obtain ⟨H37, n1, n2⟩ := new_rdQ s D0.2 H30
  have hI39 : GetInv H30.length (rdQ s D0.2) A.1 ([] ++ C.1) [] (H30 ++ [rdQ s D0.2]) := z2.newRd
  obtain ⟨H42, k, y1, y2⟩ := refGet_body s hs A.1 _ D0.1 H30.length (.hp 3 0) (iD B.1) (iD j) 300 201 0 300 D0.2 [] _ (by omega) (by omega) (by simp) hDi hI39
  simp only [List.nil_append] at y2
  have y3 : GetInv H30.length (rdQ s (nodesQ s D0.1 201 0 D0.2).2) (decQ s).params (decQ s).vars (decQ s).body H42 := by rw [hdec]; exact y2
  obtain ⟨d1, d2, e1, e2, ⟨H', e3, e4, d', e5, e6⟩, ⟨H'', e7, e8, d'', e9, e10⟩⟩ := get_end _ _ s H42 (decQ s) y3 hpin (by omega)
  have hpar : (decQ s).params = A.1 := by rw [hdec]
  have z1' : loopF Try.prog (T10n Try.prog) kp_offshootref10_Get 300 Try.f36 0 [sD s, .hp 0 0, .hp 2 0, .hp 3 0, iD B.1, iD 0, .undef, .undef, .undef] H27 = _ := z1
  have y1' : loopF Try.prog (T10n Try.prog) kp_offshootref10_Get 300 Try.f36 1 [sD s, .hp 0 0, .hp 2 0, .hp 3 0, iD B.1, iD j, .hp H30.length 0, iD D0.1, iD 0] (H30 ++ [rdQ s D0.2]) = _ := y1
  have a1 : allocH 25 [iD 0, .v (.slice none 0 0), .v (.slice none 0 0)] [] = some (.hp 0 0, [retP]) := rfl
  have a2 : buildR [(0, 1), (1, 1), (2, 1)] [.v (.string ⟨#[]⟩), iD 0, iD 0] [(0, sD s)] = some (.agg [sD s, iD 0, iD 0]) := rfl
  have a3 : allocH 85 [.v (.string ⟨#[]⟩), iD 0, iD 0] [retP] = some (.hp 1 0, [retP, rdQ [] (0, 0)]) := rfl
  have a4 : setH 3 (.hp 1 0) (.agg [sD s, iD 0, iD 0]) [retP, rdQ [] (0, 0)] = some (.v undef, [retP, rdQ s (0, 0)]) := rfl
  have a5 : allocH 25 [iD 0, .v (.slice none 0 0), .v (.slice none 0 0)] [retP, rdQ s (0, 0)] = some (.hp 2 0, [retP, rdQ s (0, 0), retP]) := rfl
  have a6 : loadH (some 3) [retP, rdQ s (0, 0), retP] (.hp 1 0) = some (.agg [sD s, iD (((0, 0) : Rd).1), iD (((0, 0) : Rd).2)]) := rfl
  have a7 : setH 3 (.hp 1 0) (.agg [sD s, iD A.2.1, iD A.2.2]) [retP, rdQ s (0, 0), retP] = some (.v undef, [retP, rdQ s A.2, retP]) := rfl
  have a8 : setH 1 (.hp 2 0) (iD A.1) [retP, rdQ s A.2, retP] = some (.v undef, [retP, rdQ s A.2, .cells 25 3 [iD A.1, .v (.slice none 0 0), .v (.slice none 0 0)]]) := rfl
  have a9 : loadH (some 3) [retP, rdQ s A.2, .cells 25 3 [iD A.1, .v (.slice none 0 0), .v (.slice none 0 0)]] (.hp 1 0) = some (.agg [sD s, iD A.2.1, iD A.2.2]) := rfl
  have a10 : allocH 85 [.v (.string ⟨#[]⟩), iD 0, iD 0] [retP, rdQ s A.2, .cells 25 3 [iD A.1, .v (.slice none 0 0), .v (.slice none 0 0)]] = some (.hp 3 0, [retP, rdQ s A.2, .cells 25 3 [iD A.1, .v (.slice none 0 0), .v (.slice none 0 0)], rdQ [] (0, 0)]) := rfl
  have a11 : setH 3 (.hp 3 0) (.agg [sD s, iD B.2.1, iD B.2.2]) [retP, rdQ s A.2, .cells 25 3 [iD A.1, .v (.slice none 0 0), .v (.slice none 0 0)], rdQ [] (0, 0)] = some (.v undef, H27) := by rw [← hH27]; rfl
  have a12 : buildR [(0, 1), (1, 1), (2, 1)] [iD 0, .v (.slice none 0 0), .v (.slice none 0 0)] [] = some (.agg [iD 0, .v (.slice none 0 0), .v (.slice none 0 0)]) := rfl
  simp only [a1, thnH_some, a2, thn_some, a3, a4, a5, a6, c1, ext0, ext1, a7, fieldAt_hp, Nat.zero_add, a8, a9, c2, a10, a11, z1', leaveK_exit, condN_same, List.getD_cons_zero, List.getD_cons_succ, hld, c3, n1, n2, y1', e1, e2, binK_neq, condK_bool, str_ne]
  by_cases q1 : chk9 (decQ s) = 0
  · have hP : putR (decQ s) = encV (decQ s) := by unfold putR; rw [if_pos q1]
    by_cases q2 : encV (decQ s) = s
    · have hR : refR s = (decQ s, 0) := by unfold refR; rw [if_pos ⟨q1, q2⟩]
      rw [hR]
      refine ⟨d', ?_, e6⟩
      simp only [q1, bne_self_eq_false, Bool.false_eq_true, if_false, hP, q2, decide_true, Bool.not_true, e3, thnH_some, e4, thn_some]
      exact e5
    · have hR : refR s = (⟨0, [], []⟩, 12) := by unfold refR; rw [if_neg (fun h => q2 h.2)]
      rw [hR]
      refine ⟨d'', ?_, e10⟩
      simp only [q1, bne_self_eq_false, Bool.false_eq_true, if_false, if_true, hP, q2, decide_false, Bool.not_false, a12, thn_some, e7, thnH_some, e8]
      exact e9
  · have hR : refR s = (⟨0, [], []⟩, 12) := by unfold refR; rw [if_neg (fun h => q1 h.1)]
    rw [hR]
    refine ⟨d'', ?_, e10⟩
    have q3 : (chk9 (decQ s) != 0) = true := by simpa using q1
    simp only [q3, if_true, a12, thn_some, e7, thnH_some, e8]
    exact e9
end Go.Proofs.Ytbnmkdlmalobaaa
end

section
namespace Go.Proofs.Ytbnmkdlmalobaaa
open Go.RowKit
set_option linter.unusedVariables false
set_option maxRecDepth 100000

def fs10q (P : Program) : List Entry := (35, true, liftF F_CodeGet) :: (36, true, liftF F_CodeGet) :: fs10n P
theorem fs10q_ok : ∀ p ∈ fs10q Try.prog, EntryOk Try.prog p := entries_cons (entry_lift C_CodeGet) (entries_cons (entry_lift C_RefCodeGet) fs10n_ok)
def T10u (P : Program) : Tab := ⟨fs10q P, noYl⟩
theorem T10u_ok : TabOk Try.prog (T10u Try.prog) := tabOk_of fs10q_ok
theorem works10 : outD (textK Try.prog (T10u Try.prog) [] 20 Try.f32 [] []) = some (bD true) := by kernel_rfl
theorem C_works10 : CallOk Try.prog 32 F_true := call0 (kp := []) T10u_ok mixed Try.func32 (by kernel_rfl) (by decide) fun d h => by
  cases h
  exact ⟨20, _, works10, Imp.refl _⟩
def fsL10 (P : Program) : List Entry := (32, true, liftF F_true) :: fs10q P
theorem fsL10_ok : ∀ p ∈ fsL10 Try.prog, EntryOk Try.prog p := entries_cons (entry_lift C_works10) fs10q_ok
def L10 (P : Program) : Tab := ⟨fsL10 P, noYl⟩
theorem L10_ok : TabOk Try.prog (L10 Try.prog) := tabOk_of fsL10_ok
end Go.Proofs.Ytbnmkdlmalobaaa
end
