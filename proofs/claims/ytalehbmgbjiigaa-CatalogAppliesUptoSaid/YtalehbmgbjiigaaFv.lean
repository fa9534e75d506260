/-
  Parts joined into one text: T13l, Sh13l, T13m, Sh13m, T13n, ShL13, PathOrd. No condition.
-/
import Derived.Test.YtalehbmgbjiigaaFn
import Derived.Test.YtalehbmgbjiigaaFr
import Derived.Test.YtalehbmgbjiigaaFu

section
namespace Go.Proofs.Ytalehbmgbjiigaa
open Go.RowKit
set_option linter.unusedVariables false
set_option linter.unusedSimpArgs false
set_option maxRecDepth 100000

def isCl (a b : Nat) : D := .clo (.func 78) [] [.hp a 0, .hp b 0]
def G_idxD (P : Program) : List D → Heap → Option (D × Heap) := textG P (T13k P) kp_idxD 1001 114
theorem G_idxD_eq (ds : List D) (H : Heap) : G_idxD Try.prog ds H = textK Try.prog (T13k Try.prog) kp_idxD 1001 Try.f114 ds H := textG_eq Try.func114 ds H
theorem C_idxD : HCallOk Try.prog 114 (G_idxD Try.prog) := hcall_G T13k_ok mixed Try.func114 (by kernel_rfl) (by decide)
theorem idxD_ok (L : List Dl) (op n : Int) (a b : Nat) (ta tb : TypeId) (H : Heap) (ha : H[a]? = some (.cells ta 1 [iD op])) (hb : H[b]? = some (.cells tb 1 [iD n])) (hL : L.length ≤ 1000) :
    ∃ (r : Int) (H' : Heap), G_idxD Try.prog [dlsD L, isCl a b] H = some (iD r, H') ∧ Kp H.length H H' ∧ (0 ≤ r ↔ ∃ d ∈ L, d.op = op ∧ d.n = n) := by
  rw [G_idxD_eq, sh_idxD]
  have hla := (List.getElem?_eq_some_iff.1 ha).1
  have hlb := (List.getElem?_eq_some_iff.1 hb).1
  have key : ∀ (m j : Nat) (H1 : Heap) (f : Nat), j + m = L.length → m < f → Kp H.length H H1 →
      (∃ H', iterS (stepF Try.prog (T13k Try.prog) kp_idxD 1001 Try.f114 0) f [dlsD L, isCl a b, iD 0, iD L.length, iD j] H1 = some (.exit 0, [dlsD L, isCl a b, iD 0, iD L.length, iD L.length], H') ∧ Kp H.length H H' ∧ ∀ p (hp : p < L.length), j ≤ p → ¬ (L[p].op = op ∧ L[p].n = n)) ∨
      (∃ H' i, iterS (stepF Try.prog (T13k Try.prog) kp_idxD 1001 Try.f114 0) f [dlsD L, isCl a b, iD 0, iD L.length, iD j] H1 = some (.ret, [dlsD L, isCl a b, iD ((i : Nat) : Int), iD L.length, iD ((i : Nat) : Int)], H') ∧ Kp H.length H H' ∧ ∃ hi : i < L.length, L[i].op = op ∧ L[i].n = n) := by
    intro m
    induction m with
    | zero =>
      intro j H1 f hj hf hk
      obtain ⟨f, rfl⟩ : ∃ z, f = z + 1 := ⟨f - 1, by omega⟩
      obtain rfl : j = L.length := by omega
      refine .inl ⟨H1, iterS_exit ?_, hk, fun p hp h => by omega⟩
      rw [st_idxD_0]
      simp
    | succ m ih =>
      intro j H1 f hj hf hk
      obtain ⟨f, rfl⟩ : ∃ z, f = z + 1 := ⟨f - 1, by omega⟩
      have hjl : j < L.length := by omega
      have hlt : (j : Int) < (L.length : Int) := by omega
      have i1 := idx_dls L j hjl
      have l1 := load_dl H1 L[j]
      obtain ⟨H2, c1, c2⟩ := is1_ok L[j] op n a b ta tb H1 ((hk.2 a hla).trans ha) ((hk.2 b hlb).trans hb)
      have c3 : callClo (T13k Try.prog) (isCl a b) [dlD L[j]] H1 = some (bD (decide (L[j].op = op ∧ L[j].n = n)), H2) := c1
      have hk2 : Kp H.length H H2 := hk.trans (c2.mono hk.1)
      have e1 := intD_add (j : Int) 1 (by omega) (by omega)
      have e2 : ((j : Nat) : Int) + 1 = ((j + 1 : Nat) : Int) := by omega
      rw [e2] at e1
      by_cases hx : L[j].op = op ∧ L[j].n = n
      · refine .inr ⟨H2, j, iterS_ret ?_, hk2, hjl, hx⟩
        rw [decide_eq_true hx] at c3
        rw [st_idxD_0]
        simp only [binK_lss, hlt, decide_true, thn_some, condK_bool, if_true, i1, l1, c3, thnH_some]
      · rw [decide_eq_false hx] at c3
        have hgo : stepF Try.prog (T13k Try.prog) kp_idxD 1001 Try.f114 0 [dlsD L, isCl a b, iD 0, iD L.length, iD j] H1 = some (.normal, [dlsD L, isCl a b, iD 0, iD L.length, iD ((j + 1 : Nat) : Int)], H2) := by
          rw [st_idxD_0]
          simp only [binK_lss, hlt, decide_true, thn_some, condK_bool, if_true, i1, l1, c3, thnH_some, Bool.false_eq_true, if_false, binK_int, e1]
        rw [iterS_go hgo]
        rcases ih (j + 1) H2 f (by omega) (by omega) hk2 with ⟨H', q1, q2, q3⟩ | q
        · refine .inl ⟨H', q1, q2, fun p hp hjp => ?_⟩
          rcases Nat.lt_or_ge j p with h | h
          · exact q3 p hp h
          · obtain rfl : p = j := by omega
            exact hx
        · exact .inr q
  rcases key L.length 0 H 1001 (by omega) (by omega) (Kp.refl _ _) with ⟨H', q1, q2, q3⟩ | ⟨H', i, q1, q2, hi, q3⟩
  · have q1' : loopF Try.prog (T13k Try.prog) kp_idxD 1001 Try.f114 0 [dlsD L, isCl a b, iD 0, iD L.length, iD 0] H = _ := q1
    refine ⟨-1, H', ?_, q2, ⟨fun h => by omega, ?_⟩⟩
    · simp only [lenH_dls, thn_some, q1', leaveK_exit, condN_same]
    · rintro ⟨d, hd, h⟩
      obtain ⟨p, hp, e⟩ := List.getElem_of_mem hd
      exact absurd (by rw [e]; exact h) (q3 p hp (Nat.zero_le _))
  · have q1' : loopF Try.prog (T13k Try.prog) kp_idxD 1001 Try.f114 0 [dlsD L, isCl a b, iD 0, iD L.length, iD 0] H = _ := q1
    refine ⟨(i : Int), H', ?_, q2, ⟨fun _ => ⟨L[i], List.getElem_mem hi, q3⟩, fun _ => by omega⟩⟩
    simp only [lenH_dls, thn_some, q1', leaveK_ret, List.getD_cons_zero, List.getD_cons_succ]

def F_tries : List D → Option D := F1 ndT fun x => some (intsD (triesV x))
/-- Where a number belongs in a row, and whether it is there. -/
theorem tries_look (H : Heap) (out add : List Int) (d da s2 : D) (i : Nat) (hi : i < add.length) (hout : out.length ≤ 100) (hd : Buf 3 1 H 0 d out.length (intsC out)) (hda : Buf 3 1 H 0 da add.length (intsC add)) :
    ∀ (m j : Nat) (f : Nat), j + m = out.length → m < f →
    iterS (stepF Try.prog (T13k Try.prog) kp_offshootref13_tries 101 Try.f76 2) f [d, da, s2, iD i, iD (kP (add.getD i 0) out j), bD (inP (add.getD i 0) out j), iD j] H =
      some (.exit 4, [d, da, s2, iD i, iD (kP (add.getD i 0) out out.length), bD (inP (add.getD i 0) out out.length), iD out.length], H) := by
  intro m
  induction m with
  | zero =>
    intro j f hj hf
    obtain ⟨f, rfl⟩ : ∃ z, f = z + 1 := ⟨f - 1, by omega⟩
    obtain rfl : j = out.length := by omega
    refine iterS_exit ?_
    rw [st_offshootref13_tries_2]
    have hlt : ¬ (out.length : Int) < (out.length : Int) := by omega
    simp only [hd.lenH, thn_some, binK_lss, hlt, decide_false, condK_bool, Bool.false_eq_true, if_false]
  | succ m ih =>
    intro j f hj hf
    obtain ⟨f, rfl⟩ : ∃ z, f = z + 1 := ⟨f - 1, by omega⟩
    have hlt : (j : Int) < (out.length : Int) := by omega
    obtain ⟨p, p1, p2⟩ := buf_get hd j (by omega)
    obtain ⟨q, q1, q2⟩ := buf_get hda i hi
    have e1 := intD_add (j : Int) 1 (by omega) (by omega)
    have e2 : ((j : Nat) : Int) + 1 = ((j + 1 : Nat) : Int) := by omega
    rw [e2] at e1
    have hgo : stepF Try.prog (T13k Try.prog) kp_offshootref13_tries 101 Try.f76 2 [d, da, s2, iD i, iD (kP (add.getD i 0) out j), bD (inP (add.getD i 0) out j), iD j] H =
        some (.normal, [d, da, s2, iD i, iD (kP (add.getD i 0) out (j + 1)), bD (inP (add.getD i 0) out (j + 1)), iD ((j + 1 : Nat) : Int)], H) := by
      rw [st_offshootref13_tries_2]
      simp only [kP, inP]
      cases hin : inP (add.getD i 0) out j with
      | true =>
        by_cases hx : out.getD j 0 < add.getD i 0
        · rw [if_pos hx]
          simp only [hd.lenH, thn_some, binK_lss, hlt, decide_true, condK_bool, if_true, p1, p2, q1, q2, hx, binK_int, e1, Bool.true_or]
        · rw [if_neg hx]
          simp only [hd.lenH, thn_some, binK_lss, hlt, decide_true, condK_bool, if_true, p1, p2, q1, q2, hx, decide_false, Bool.false_eq_true, if_false, binK_int, e1, Bool.true_or]
      | false =>
        by_cases hx : out.getD j 0 < add.getD i 0
        · rw [if_pos hx]
          simp only [hd.lenH, thn_some, binK_lss, hlt, decide_true, condK_bool, if_true, Bool.false_eq_true, if_false, p1, p2, q1, q2, binK_eql, hx, binK_int, e1, Bool.false_or]
        · rw [if_neg hx]
          simp only [hd.lenH, thn_some, binK_lss, hlt, decide_true, condK_bool, if_true, p1, p2, q1, q2, binK_eql, hx, decide_false, Bool.false_eq_true, if_false, binK_int, e1, Bool.false_or]
    rw [iterS_go hgo]
    exact ih (j + 1) f (by omega) (by omega)
theorem row_zero (t : TypeId) (H : Heap) : rowH t 1 0 [iD 0] [] H = some (.hs H.length 0, H ++ [.cells t 1 []]) := rfl
def addsV (x : Nd) (k : Nat) : List Int := [-1, 0, 1, w64 (x.2 - 1), w64 (x.2 + 1)] ++ (List.range k).map fun i : Nat => (7 : Int) + (i : Int)
theorem addsV_succ (x : Nd) (k : Nat) : addsV x (k + 1) = addsV x k ++ [(7 : Int) + (k : Int)] := by
  unfold addsV
  rw [List.range_succ, List.map_append, ← List.append_assoc]; rfl
theorem addsV_len (x : Nd) (k : Nat) : (addsV x k).length = 5 + k := by simp [addsV]; omega
theorem tries_text (x : Nd) : ∃ d H', textK Try.prog (T13k Try.prog) kp_offshootref13_tries 101 Try.f76 [.agg (nodeD x)] [] = some (d, H') ∧ Buf 3 1 H' 0 d (triesV x).length (intsC (triesV x)) := by
  rw [sh_offshootref13_tries]
  have hbox : boxH 46 (.agg (nodeD x)) [] = some (.hp 0 0, [.cells 46 2 [iD x.1, iD x.2]]) := rfl
  have f1 : fieldAtH 1 (.hp 0 0) = some (.hp 0 1) := rfl
  have l1 : loadH none [.cells 46 2 [iD x.1, iD x.2]] (.hp 0 1) = some (iD x.2) := rfl
  have eP : intD .add .i64 x.2 1 = some (iD (w64 (x.2 + 1))) := rfl
  have eM : intD .sub .i64 x.2 1 = some (iD (w64 (x.2 - 1))) := rfl
  have r5 : rowH 3 1 5 [iD 0] [(0, iD (-1)), (1, iD 0), (2, iD 1), (3, iD (w64 (x.2 - 1))), (4, iD (w64 (x.2 + 1)))] [.cells 46 2 [iD x.1, iD x.2]] = some (.hs 1 5, [.cells 46 2 [iD x.1, iD x.2], .cells 3 1 (intsC (addsV x 0))]) := rfl
  have key0 := loopF_invS (P := Try.prog) (T := T13k Try.prog) (kp := kp_offshootref13_tries) (fn := Try.f76) (li := 0)
    (fun j s H => ∃ d, s = [.v (.slice none 0 0), d, iD (7 + (j : Int)), .undef, .undef, .undef, .undef] ∧ Buf 3 1 H 0 d (addsV x j).length (intsC (addsV x j)))
    (fun r => ∃ s2 H d, r = (.exit 0, [.v (.slice none 0 0), d, s2, .undef, .undef, .undef, .undef], H) ∧ Buf 3 1 H 0 d (addsV x 13).length (intsC (addsV x 13))) 13 101
    (fun j s H hj hI => by
      obtain ⟨d, rfl, hd⟩ := hI
      have hle : (7 : Int) + (j : Int) ≤ 19 := by omega
      have e1 := intD_add ((7 : Int) + (j : Int)) 1 (by omega) (by omega)
      have c1 : (7 : Int) + (j : Int) + 1 = 7 + ((j + 1 : Nat) : Int) := by omega
      rw [c1] at e1
      have hal := addsV_len x j
      obtain ⟨d', H', a1, a2, a3⟩ := app_one (new := [iD ((7 : Int) + (j : Int))]) hd (by omega) rfl rfl (by rw [intsC_len]; simp; omega) (Nat.zero_le _)
      refine ⟨[.v (.slice none 0 0), d', iD (7 + ((j + 1 : Nat) : Int)), .undef, .undef, .undef, .undef], H', ?_, d', rfl, ?_⟩
      · rw [st_offshootref13_tries_0]
        simp only [binK_leq, hle, decide_true, thn_some, condK_bool, if_true, row_int, thnH_some, a1, binK_int, e1]
      · rw [addsV_succ, intsC_app, List.length_append]; exact a2)
    (fun s H hI => by
      obtain ⟨d, rfl, hd⟩ := hI
      refine ⟨(.exit 0, [.v (.slice none 0 0), d, iD (7 + ((13 : Nat) : Int)), .undef, .undef, .undef, .undef], H), ?_, (by intro e; cases e), _, H, d, rfl, hd⟩
      rw [st_offshootref13_tries_0]
      have hle : ¬ ((7 : Int) + ((13 : Nat) : Int) ≤ 19) := by omega
      simp only [binK_leq, hle, decide_false, thn_some, condK_bool, Bool.false_eq_true, if_false])
    (by omega) (s := [.v (.slice none 0 0), .hs 1 5, iD 7, .undef, .undef, .undef, .undef]) (H := [.cells 46 2 [iD x.1, iD x.2], .cells 3 1 (intsC (addsV x 0))])
    ⟨.hs 1 5, rfl, .inr ⟨1, Nat.zero_le _, rfl, rfl, rfl⟩⟩
  obtain ⟨r, k1, s2, H1, da, rfl, hda0⟩ := key0
  have hal := addsV_len x 13
  have htr : triesV x = (addsV x 13).foldl putS [] := by
    rw [putS_sort]; rfl
  generalize addsV x 13 = add at *
  have key1 := loopF_invS (P := Try.prog) (T := T13k Try.prog) (kp := kp_offshootref13_tries) (fn := Try.f76) (li := 1)
    (fun i s H => ∃ d u5 u6 u7, s = [d, da, s2, iD i, u5, u6, u7] ∧ Buf 3 1 H 0 d ((add.take i).foldl putS []).length (intsC ((add.take i).foldl putS [])) ∧ Buf 3 1 H 0 da add.length (intsC add) ∧ ∀ k m q, da = .hs k m → d ≠ .hs k q)
    (fun r => ∃ d H u3 u5 u6 u7, r = (.exit 2, [d, da, s2, u3, u5, u6, u7], H) ∧ Buf 3 1 H 0 d (triesV x).length (intsC (triesV x))) 18 101
    (fun i s H hi hI => by
      obtain ⟨d, u5, u6, u7, rfl, hd, hda, hne⟩ := hI
      have hlt : (i : Int) < (add.length : Int) := by omega
      have hob := putS_bound add i (by omega)
      have hps := putS_take add i (by omega)
      generalize (add.take i).foldl putS [] = out at *
      have hlk := tries_look H out add d da s2 i (by omega) (by omega) hd hda out.length 0 101 (by omega) (by omega)
      have hlk' : loopF Try.prog (T13k Try.prog) kp_offshootref13_tries 101 Try.f76 2 [d, da, s2, iD i, iD 0, bD false, iD 0] H = _ := hlk
      have e1 := intD_add (i : Int) 1 (by omega) (by omega)
      have c1 : (i : Int) + 1 = ((i + 1 : Nat) : Int) := by omega
      rw [c1] at e1
      have hkl := kP_le (add.getD i 0) out out.length
      cases hin : inP (add.getD i 0) out out.length with
      | true =>
        rw [hin] at hlk'
        refine ⟨[d, da, s2, iD ((i + 1 : Nat) : Int), iD (kP (add.getD i 0) out out.length), bD true, iD out.length], H, ?_, d, _, _, _, rfl, ?_, hda, hne⟩
        rotate_left
        · rw [hps]; unfold putS; rw [if_pos hin]; exact hd
        · rw [st_offshootref13_tries_1]
          simp only [hda.lenH, thn_some, binK_lss, hlt, decide_true, condK_bool, if_true, hlk', leaveK_exit, condN_same, List.getD_cons_zero, List.getD_cons_succ, notD_bool, Bool.not_true, Bool.false_eq_true, if_false, binK_int, e1]
      | false =>
        rw [hin] at hlk'
        generalize hk : kP (add.getD i 0) out out.length = k at *
        obtain ⟨pt, t1, t2⟩ := src_to hd k hkl
        obtain ⟨pf, s1, s2'⟩ := src_from hd k hkl
        have hg0 : Buf 3 1 (H ++ [.cells 3 1 []]) 0 (.hs H.length 0) ([] : List Int).length (intsC []) := .inr ⟨H.length, Nat.zero_le _, rfl, by simp [intsC], rfl⟩
        have kk0 : ∀ r, r < H.length → (H ++ [HO.cells 3 1 []])[r]? = H[r]? := fun r hr => List.getElem?_append_left hr
        have hl0 : (H ++ [HO.cells 3 1 []]).length = H.length + 1 := by simp
        have rz := row_zero 3 H
        generalize H ++ [HO.cells 3 1 []] = Ha at *
        have hdlt : ∀ r m, d = .hs r m → r < H.length := fun r m e => by subst e; exact hd.lt.2
        have hdalt : ∀ r m, da = .hs r m → r < H.length := fun r m e => by subst e; exact hda.lt.2
        obtain ⟨d1, Hb, a1, a2, a3, a4, a5, a6⟩ := app_src hg0 (t2 Ha fun r m e => kk0 r (hdlt r m e)) (by simp; omega) (Nat.zero_le _)
        have kk1 : ∀ r, r < H.length → Hb[r]? = H[r]? := fun r hr => by rw [a5 r (by omega) (fun q e => by cases e; omega)]; exact kk0 r hr
        have nn1 : ∀ r q, r < H.length → d1 ≠ .hs r q := fun r q hr => a6 r q (by omega) (fun q e => by cases e; omega)
        have hdb : Buf 3 1 Hb 0 da add.length (intsC add) := hda.keep fun r m e => kk1 r (hdalt r m e)
        obtain ⟨q, q1, q2⟩ := buf_get hdb i (by omega)
        obtain ⟨d2, Hc, b1, b2, b3, b4, b5, b6⟩ := app_one (new := [iD (add.getD i 0)]) a2 (by omega) rfl rfl (by rw [intsC_len]; simp; omega) (Nat.zero_le _)
        have b2' : Buf 3 1 Hc 0 d2 (([] ++ out.take k) ++ [add.getD i 0]).length (intsC (([] ++ out.take k) ++ [add.getD i 0])) := by rw [List.length_append, intsC_app]; exact b2
        have kk2 : ∀ r, r < H.length → Hc[r]? = H[r]? := fun r hr => by rw [b5 r (by omega) (fun q => nn1 r q hr)]; exact kk1 r hr
        have nn2 : ∀ r q, r < H.length → d2 ≠ .hs r q := fun r q hr => b6 r q (by omega) (nn1 r q hr) (fun q => nn1 r q hr)
        obtain ⟨d3, Hd, c1', c2, c3, c4, c5, c6⟩ := app_src b2' (s2' Hc fun r m e => kk2 r (hdlt r m e)) (by simp; omega) (Nat.zero_le _)
        have kk3 : ∀ r, r < H.length → Hd[r]? = H[r]? := fun r hr => by rw [c5 r (by omega) (fun q => nn2 r q hr)]; exact kk2 r hr
        have nn3 : ∀ r q, r < H.length → d3 ≠ .hs r q := fun r q hr => c6 r q (by omega) (fun q => nn2 r q hr)
        refine ⟨[d3, da, s2, iD ((i + 1 : Nat) : Int), iD k, bD false, iD out.length], Hd, ?_, d3, _, _, _, rfl, ?_, hda.keep fun r m e => kk3 r (hdalt r m e), fun r m q e => nn3 r q (hdalt r m e)⟩
        rotate_left
        · rw [hps]; unfold putS; rw [if_neg (by rw [hin]; decide), hk]
          have e : out.take k ++ add.getD i 0 :: out.drop k = ([] ++ out.take k ++ [add.getD i 0]) ++ out.drop k := by simp
          rw [e]; exact c2
        · rw [st_offshootref13_tries_1]
          simp only [hda.lenH, thn_some, binK_lss, hlt, decide_true, condK_bool, if_true, hlk', leaveK_exit, condN_same, List.getD_cons_zero, List.getD_cons_succ, notD_bool, Bool.not_false, rz, thnH_some, t1, a1, q1, q2, row_int, b1, s1, c1', binK_int, e1])
    (fun s H hI => by
      obtain ⟨d, u5, u6, u7, rfl, hd, hda, hne⟩ := hI
      rw [List.take_of_length_le (by omega), ← htr] at hd
      refine ⟨(.exit 2, [d, da, s2, iD ((18 : Nat) : Int), u5, u6, u7], H), ?_, (by intro e; cases e), d, H, _, u5, u6, u7, rfl, hd⟩
      rw [st_offshootref13_tries_1]
      have hlt : ¬ (((18 : Nat) : Int) < (add.length : Int)) := by omega
      simp only [hda.lenH, thn_some, binK_lss, hlt, decide_false, condK_bool, Bool.false_eq_true, if_false])
    (by omega) (s := [.v (.slice none 0 0), da, s2, iD 0, .undef, .undef, .undef]) (H := H1)
    ⟨.v (.slice none 0 0), .undef, .undef, .undef, rfl, Buf.nil _ _ _ _, hda0, fun k m q _ e => by cases e⟩
  obtain ⟨r, k2, d, H2, u3, u5, u6, u7, rfl, hd⟩ := key1
  refine ⟨d, H2, ?_, hd⟩
  simp only [hbox, thnH_some, f1, thn_some, l1, binK_sub, binK_int, eP, eM, r5, k1, leaveK_exit, condN_same, List.getD_cons_zero, List.getD_cons_succ, k2]
theorem tries_call : CallOk Try.prog 76 F_tries := call1 (kp := kp_offshootref13_tries) T13k_ok mixed Try.func76 (by kernel_rfl) (by decide) fun x d h => by
  cases h
  obtain ⟨d, H', q1, q2⟩ := tries_text x
  obtain ⟨d', z1, z2⟩ := q2.ints 8
  refine ⟨101, d', ?_, imp_ints z2⟩
  show outD (textK _ _ _ _ _ [.agg (nodeD x)] []) = _
  rw [q1]; exact z1
theorem tries_pure (x : Nd) (H : Heap) : liftF F_tries [.agg (nodeD x)] H = some (intsD (triesV x), H) := by
  rw [liftF_pure _ _ _ rfl]
  have : F_tries [.agg (nodeD x)] = _ := f1_enc (A := ndT) _ x
  rw [this]; rfl
def fs13l (P : Program) : List Entry := (114, false, G_idxD P) :: (76, true, liftF F_tries) :: fs13k P
theorem fs13l_ok : ∀ p ∈ fs13l Try.prog, EntryOk Try.prog p := entries_cons (entry_obj C_idxD) <| entries_cons (entry_lift tries_call) <| fs13k_ok
def T13l (P : Program) : Tab := ⟨fs13l P, noYl⟩
theorem T13l_ok : TabOk Try.prog (T13l Try.prog) := tabOk_of fs13l_ok
end Go.Proofs.Ytalehbmgbjiigaa
end

section
namespace Go.Proofs.Ytalehbmgbjiigaa
open Go.RowKit
set_option linter.unusedVariables false
set_option maxRecDepth 100000

def kp_conD : List Nat := []
theorem sh_conD (n : Nat) (x0 x1 : D) (h : Heap) : textK Try.prog (T13l Try.prog) kp_conD n Try.f77 [x0, x1] h =
(thnH ((G_idxD Try.prog) [x0, x1] h) fun y0 h1 =>
thn (binK .int .geq y0 (iD 0)) fun y2 =>
some (y2, h1)) := by kernel_rfl

end Go.Proofs.Ytalehbmgbjiigaa
end

section
namespace Go.Proofs.Ytalehbmgbjiigaa
open Go.RowKit
set_option linter.unusedVariables false
set_option linter.unusedSimpArgs false
set_option maxRecDepth 100000

def G_conD (P : Program) : List D → Heap → Option (D × Heap) := textG P (T13l P) kp_conD 0 77
theorem G_conD_eq (ds : List D) (H : Heap) : G_conD Try.prog ds H = textK Try.prog (T13l Try.prog) kp_conD 0 Try.f77 ds H := textG_eq Try.func77 ds H
theorem C_conD : HCallOk Try.prog 77 (G_conD Try.prog) := hcall_G T13l_ok mixed Try.func77 (by kernel_rfl) (by decide)
theorem conD_ok (L : List Dl) (op n : Int) (a b : Nat) (ta tb : TypeId) (H : Heap) (ha : H[a]? = some (.cells ta 1 [iD op])) (hb : H[b]? = some (.cells tb 1 [iD n])) (hL : L.length ≤ 1000) :
    ∃ H' : Heap, G_conD Try.prog [dlsD L, isCl a b] H = some (bD (decide (∃ d ∈ L, d.op = op ∧ d.n = n)), H') := by
  obtain ⟨r, H', q1, q2, q3⟩ := idxD_ok L op n a b ta tb H ha hb hL
  refine ⟨H', ?_⟩
  rw [G_conD_eq, sh_conD]
  simp only [q1, thnH_some, binK_geq, thn_some]
  have : decide (0 ≤ r) = decide (∃ d ∈ L, d.op = op ∧ d.n = n) := by
    rw [Bool.eq_iff_iff, decide_eq_true_eq, decide_eq_true_eq]; exact q3
  rw [this]
def fs13m (P : Program) : List Entry := (77, false, G_conD P) :: fs13l P
theorem fs13m_ok : ∀ p ∈ fs13m Try.prog, EntryOk Try.prog p := entries_cons (entry_obj C_conD) <| fs13l_ok
def T13m (P : Program) : Tab := ⟨fs13m P, noYl⟩
theorem T13m_ok : TabOk Try.prog (T13m Try.prog) := tabOk_of fs13m_ok
end Go.Proofs.Ytalehbmgbjiigaa
end

section
namespace Go.Proofs.Ytalehbmgbjiigaa
open Go.RowKit
set_option linter.unusedVariables false
set_option maxRecDepth 100000

def kp_catalog_Is : List Nat := []
theorem sh_catalog_Is (n : Nat) (x0 x1 x2 x3 : D) (h : Heap) : textK Try.prog (T13m Try.prog) kp_catalog_Is n Try.f34 [x0, x1, x2, x3] h =
(thnH (boxH 3 x2 h) fun y0 h1 =>
thnH (boxH 3 x3 h1) fun y2 h3 =>
thnH (liftN F_Choices [x0, x1] h3) fun y4 h5 =>
thnH ((G_conD Try.prog) [y4, (.clo (.func 78) [] [y0, y2])] h5) fun y6 h7 =>
some (y6, h7)) := by kernel_rfl

def kp_offshootref13_Choices : List Nat := [0, 1, 5, 6, 7, 8]
theorem sh_offshootref13_Choices (n : Nat) (x0 x1 : D) (h : Heap) : textK Try.prog (T13m Try.prog) kp_offshootref13_Choices n Try.f33 [x0, x1] h =
(thnH (liftF F_RefEnd [x0, x1] h) fun y0 h1 =>
thn (binK .int .lss y0 (iD 0)) fun y2 =>
condK y2
(some ((.v (.slice none 0 0)), h1))
(thn (idxH 2 x0 x1) fun y3 =>
thn (loadH (some 2) h1 y3) fun y4 =>
thnH (liftF F_tries [y4] h1) fun y5 h6 =>
leaveK (loopF Try.prog (T13m Try.prog) kp_offshootref13_Choices n Try.f33 0 [x0, x1, (.v (.slice none 0 0)), y5, (iD 1), .undef] h6) (fun j7 s8 h9 =>
condN j7 0
(some ((s8.getD 2 .undef), h9))
(none)) (fun s8 h9 =>
some (.undef, h9)))) := by kernel_rfl

theorem st_offshootref13_Choices_0 (n : Nat) (s0 s1 s2 s3 s4 s5 : D) (h : Heap) : stepF Try.prog (T13m Try.prog) kp_offshootref13_Choices n Try.f33 0 [s0, s1, s2, s3, s4, s5] h =
(thn (binK .int .leq s4 (iD 7)) fun y0 =>
condK y0
(leaveK (loopF Try.prog (T13m Try.prog) kp_offshootref13_Choices n Try.f33 1 [s0, s1, s2, s3, s4, (iD 0)] h) (fun j1 s2 h3 =>
condN j1 2
(thn (binK .int .add (s2.getD 4 .undef) (iD 1)) fun y4 =>
some (.normal, [(s2.getD 0 .undef), (s2.getD 1 .undef), (s2.getD 2 .undef), (s2.getD 3 .undef), y4, (s2.getD 5 .undef)], h3))
(condN j1 1
(thn (binK .int .add (s2.getD 4 .undef) (iD 1)) fun y5 =>
some (.normal, [(s2.getD 0 .undef), (s2.getD 1 .undef), (s2.getD 2 .undef), (s2.getD 3 .undef), y5, (s2.getD 5 .undef)], h3))
(some ((.exit j1), [(s2.getD 0 .undef), (s2.getD 1 .undef), (s2.getD 2 .undef), (s2.getD 3 .undef), (s2.getD 4 .undef), (s2.getD 5 .undef)], h3)))) (fun s2 h3 =>
some (.ret, [(s2.getD 0 .undef), (s2.getD 1 .undef), (s2.getD 2 .undef), (s2.getD 3 .undef), (s2.getD 4 .undef), (s2.getD 5 .undef)], h3)))
(some ((.exit 0), [s0, s1, s2, s3, s4, s5], h))) := by kernel_rfl

theorem st_offshootref13_Choices_1 (n : Nat) (s0 s1 s2 s3 s4 s5 : D) (h : Heap) : stepF Try.prog (T13m Try.prog) kp_offshootref13_Choices n Try.f33 1 [s0, s1, s2, s3, s4, s5] h =
(thn (lenH .sl s3) fun y0 =>
thn (binK .int .lss s5 y0) fun y1 =>
condK y1
(thn (idxH 1 s3 s5) fun y2 =>
thn (loadH none h y2) fun y3 =>
thnH (liftF F_CRefIs [s0, s1, s4, y3] h) fun y4 h5 =>
condK y4
(thn (idxH 1 s3 s5) fun y6 =>
thn (loadH none h5 y6) fun y7 =>
thn (buildR [(0, 1), (1, 1), (2, 1)] [(.v (.slice none 0 0)), (iD 0), (iD 0)] [(1, s4), (2, y7)]) fun y8 =>
thnH (rowH 27 3 1 [(.v (.slice none 0 0)), (iD 0), (iD 0)] [(0, y8)] h5) fun y9 h10 =>
thnH (appendH 27 3 s2 y9 h10) fun y11 h12 =>
thn (binK .int .add s5 (iD 1)) fun y13 =>
some (.normal, [s0, s1, y11, s3, s4, y13], h12))
(thn (binK .int .add s5 (iD 1)) fun y14 =>
some (.normal, [s0, s1, s2, s3, s4, y14], h5)))
(some ((.exit 2), [s0, s1, s2, s3, s4, s5], h))) := by kernel_rfl

def kp_arena_Same : List Nat := []
theorem sh_arena_Same (n : Nat) (x0 x1 : D) (h : Heap) : textK Try.prog (T13m Try.prog) kp_arena_Same n Try.f39 [x0, x1] h =
(thnH (liftF F_EqualNodes [x0, x1] h) fun y0 h1 =>
some (y0, h1)) := by kernel_rfl

end Go.Proofs.Ytalehbmgbjiigaa
end

section
namespace Go.Proofs.Ytalehbmgbjiigaa
open Go.RowKit
set_option linter.unusedVariables false
set_option linter.unusedSimpArgs false
set_option maxRecDepth 100000

def F_CIs : List D → Option D := F4 nodesT intT intT intT fun l i op n => if l.length ≤ 3000000 then some (bD (decide (isC l i op n))) else none
theorem C_CIs : CallOk Try.prog 34 F_CIs := call4 (kp := kp_catalog_Is) T13m_ok mixed Try.func34 (by kernel_rfl) (by decide) fun l i op n d h => by
  split at h
  case isFalse => cases h
  rename_i hb
  cases h
  refine ⟨0, _, ?_, Imp.refl _⟩
  show outD (textK _ _ _ _ _ [nodesD l, iD i, iD op, iD n] []) = _
  rw [sh_catalog_Is]
  have b1 : boxH 3 (iD op) [] = some (.hp 0 0, [.cells 3 1 [iD op]]) := rfl
  have b2 : boxH 3 (iD n) [.cells 3 1 [iD op]] = some (.hp 1 0, [.cells 3 1 [iD op], .cells 3 1 [iD n]]) := rfl
  have hc := choices_pure l i hb [.cells 3 1 [iD op], .cells 3 1 [iD n]]
  have hs := choices_short l i
  obtain ⟨H', q⟩ := conD_ok (choicesD l i) op n 0 1 3 3 [.cells 3 1 [iD op], .cells 3 1 [iD n]] rfl rfl (by simp [choicesD]; omega)
  have q' : G_conD Try.prog [dlsD (choicesD l i), .clo (.func 78) [] [.hp 0 0, .hp 1 0]] [.cells 3 1 [iD op], .cells 3 1 [iD n]] = _ := q
  have hi : (∃ d ∈ choicesD l i, d.op = op ∧ d.n = n) ↔ isC l i op n := by
    rw [← choices_is]
    simp only [choicesD, List.mem_map]
    constructor
    · rintro ⟨d, ⟨e, he, rfl⟩, h1, h2⟩
      simp only [mkD] at h1 h2
      rw [← h1, ← h2]; exact he
    · intro h
      exact ⟨mkD (op, n), ⟨_, h, rfl⟩, rfl, rfl⟩
  have hd : decide (∃ d ∈ choicesD l i, d.op = op ∧ d.n = n) = decide (isC l i op n) := by
    rw [Bool.eq_iff_iff, decide_eq_true_eq, decide_eq_true_eq]; exact hi
  simp only [b1, b2, thnH_some, hc, q', hd]
  rfl
theorem cis_pure (l : List Nd) (i op n : Int) (h : l.length ≤ 3000000) (H : Heap) : liftF F_CIs [nodesD l, iD i, iD op, iD n] H = some (bD (decide (isC l i op n)), H) := by
  rw [liftF_pure _ _ _ rfl]
  have : F_CIs [nodesD l, iD i, iD op, iD n] = _ := f4_enc (A := nodesT) (B := intT) (C := intT) (E := intT) _ l i op n
  rw [this, if_pos h]; rfl

theorem mapM_outC (H : Heap) (n : Nat) (out : List (Int × Int)) : (outC out).mapM (derefN H n) = some (outC out) := by
  induction out with
  | nil => rfl
  | cons x r ih =>
    have e : outC (x :: r) = .v (.slice none 0 0) :: iD x.1 :: iD x.2 :: outC r := rfl
    rw [e, List.mapM_cons, List.mapM_cons, List.mapM_cons, derefN_pure H n _ rfl, derefN_pure H n _ rfl, derefN_pure H n _ rfl, ih]; rfl
theorem chunks_outC (out : List (Int × Int)) : chunks 3 out.length (outC out) = out.map fun e => [D.v (.slice none 0 0), iD e.1, iD e.2] := by
  induction out with
  | nil => rfl
  | cons x r ih =>
    have e : outC (x :: r) = .v (.slice none 0 0) :: iD x.1 :: iD x.2 :: outC r := rfl
    rw [e, List.length_cons, chunks, List.map_cons]
    simp only [List.take_succ_cons, List.take_zero, List.drop_succ_cons, List.drop_zero, ih]
theorem Buf.outs {e : TypeId} {H : Heap} {B : Nat} {d : D} {out : List (Int × Int)} (h : Buf e 3 H B d out.length (outC out)) (n : Nat) : ∃ d', derefN H (n + 1) d = some d' ∧ asDls d' = some (out.map mkD) := by
  rcases h with ⟨rfl, h1, _⟩ | ⟨r, h1, rfl, h3, h4⟩
  · have : out = [] := List.length_eq_zero_iff.1 h1
    subst this
    exact ⟨_, derefN_pure H (n + 1) _ rfl, rfl⟩
  · refine ⟨.sl 3 (out.map fun e => [D.v (.slice none 0 0), iD e.1, iD e.2]), ?_, ?_⟩
    · simp only [derefN, h3]
      rw [if_pos (by rw [outC_len]; omega), List.take_of_length_le (by rw [outC_len]; omega), mapM_outC, Option.map_some, chunks_outC]
    · show (out.map fun e => [D.v (.slice none 0 0), iD e.1, iD e.2]).mapM asDlC = _
      clear h3 h4 h1
      induction out with
      | nil => rfl
      | cons x r ih => rw [List.map_cons, List.mapM_cons, ih]; rfl
def partQ (x y : Nd) (op : Int) (j : Nat) : List (Int × Int) := (((triesV x).take j).filter fun n => decide (isN x y op n)).map fun n => (op, n)
theorem partQ_succ (x y : Nd) (op : Int) (j : Nat) (h : j < (triesV x).length) : partQ x y op (j + 1) = if isN x y op ((triesV x).getD j 0) then partQ x y op j ++ [(op, (triesV x).getD j 0)] else partQ x y op j := by
  unfold partQ
  rw [List.take_succ_eq_append_getElem h, List.filter_append, getD_in _ _ _ h]
  by_cases hp : isN x y op (triesV x)[j] <;> simp [hp]
theorem partQ_len (x y : Nd) (op : Int) (j : Nat) : (partQ x y op j).length ≤ j := by
  unfold partQ
  rw [List.length_map]
  refine Nat.le_trans (List.length_filter_le _ _) ?_
  rw [List.length_take]; omega
def opsQ : List Int := [1, 2, 3, 4, 5, 6, 7]
def headQ (x y : Nd) (j : Nat) : List (Int × Int) := (opsQ.take j).flatMap fun op => partQ x y op (triesV x).length
theorem headQ_succ (x y : Nd) (j : Nat) (h : j < 7) : headQ x y (j + 1) = headQ x y j ++ partQ x y (1 + (j : Int)) (triesV x).length := by
  unfold headQ
  have h' : j < opsQ.length := h
  rw [List.take_succ_eq_append_getElem h', List.flatMap_append]
  have e : opsQ[j] = 1 + (j : Int) := by
    have : j = 0 ∨ j = 1 ∨ j = 2 ∨ j = 3 ∨ j = 4 ∨ j = 5 ∨ j = 6 := by omega
    rcases this with rfl | rfl | rfl | rfl | rfl | rfl | rfl <;> rfl
  simp [e]
theorem headQ_all (x y : Nd) : headQ x y 7 = choiceQ x y := by
  unfold headQ choiceQ partQ
  rw [List.take_length]; rfl
theorem triesV_len (x : Nd) : (triesV x).length ≤ 18 := sortV_len _
theorem headQ_len (x y : Nd) : ∀ j, j ≤ 7 → (headQ x y j).length ≤ 18 * j
  | 0, _ => by simp [headQ]
  | j + 1, h => by
    have h1 := headQ_len x y j (by omega)
    rw [headQ_succ x y j (by omega), List.length_append]
    have := partQ_len x y (1 + (j : Int)) (triesV x).length
    have := triesV_len x
    omega
def F_RefChoices : List D → Option D := F2 nodesT intT fun l i => if l.length ≤ 3000000 then some (dlsD (choicesD l i)) else none
theorem C_RefChoices : CallOk Try.prog 33 F_RefChoices := call2 (kp := kp_offshootref13_Choices) T13m_ok mixed Try.func33 (by kernel_rfl) (by decide) fun l i d h => by
  split at h
  case isFalse => cases h
  rename_i hb
  cases h
  have hend := refEnd12_pure l i [] hb
  by_cases hE : endv l i < 0
  · have hn : choicesD l i = [] := by unfold choicesD choicesV; rw [if_pos hE]; rfl
    rw [hn]
    refine ⟨0, _, ?_, Imp.nil 3⟩
    show outD (textK _ _ _ _ _ [nodesD l, iD i] []) = _
    rw [sh_offshootref13_Choices]
    simp only [hend, thnH_some, binK_lss, hE, decide_true, thn_some, condK_bool, if_true]
    rfl
  have hE0 : 0 ≤ endv l i := by omega
  obtain ⟨k, rfl⟩ := Int.eq_ofNat_of_zero_le (endv_in l i hE0).1
  have hk := (at_ar hE0).choose
  have hx : nodeAt l k = l[k] := nodeAt_in l k hk
  have i0 := idx_nodesN l k hk
  rw [← hx] at i0
  have hC : ∀ op n, isC l k op n ↔ isN (nodeAt l k) (nodeAt l ((k : Int) + 1)) op n := fun op n => ⟨fun h => h.2, fun h => ⟨hE0, h⟩⟩
  have hq : choicesV l k = choiceQ (nodeAt l k) (nodeAt l ((k : Int) + 1)) := by
    rw [choiceQ_eq _ _ (fun h => bool_num hE0 h)]
    unfold choicesV
    rw [if_neg (by omega)]
  rw [show choicesD l k = (choiceQ (nodeAt l k) (nodeAt l ((k : Int) + 1))).map mkD from by unfold choicesD; rw [hq], ← headQ_all]
  generalize nodeAt l ((k : Int) + 1) = y at *
  generalize nodeAt l k = x at *
  have htl := triesV_len x
  have key := loopF_invS (P := Try.prog) (T := T13m Try.prog) (kp := kp_offshootref13_Choices) (fn := Try.f33) (li := 0)
    (fun j s H => ∃ d u, s = [nodesD l, iD k, d, intsD (triesV x), iD (1 + (j : Int)), u] ∧ Buf 27 3 H 0 d (headQ x y j).length (outC (headQ x y j)))
    (fun r => ∃ s H d, r = (.exit 0, s, H) ∧ s.getD 2 .undef = d ∧ Buf 27 3 H 0 d (headQ x y 7).length (outC (headQ x y 7))) 7 101
    (fun j s H hj hI => by
      obtain ⟨d, u, rfl, hd⟩ := hI
      have hle : (1 : Int) + (j : Int) ≤ 7 := by omega
      have e1 := intD_add ((1 : Int) + (j : Int)) 1 (by omega) (by omega)
      have c1 : (1 : Int) + (j : Int) + 1 = 1 + ((j + 1 : Nat) : Int) := by omega
      rw [c1] at e1
      have hhl := headQ_len x y j (by omega)
      have inner := loopF_invS (P := Try.prog) (T := T13m Try.prog) (kp := kp_offshootref13_Choices) (fn := Try.f33) (li := 1)
        (fun i s H => ∃ d, s = [nodesD l, iD k, d, intsD (triesV x), iD (1 + (j : Int)), iD i] ∧ Buf 27 3 H 0 d (headQ x y j ++ partQ x y (1 + (j : Int)) i).length (outC (headQ x y j ++ partQ x y (1 + (j : Int)) i)))
        (fun r => ∃ u H d, r = (.exit 2, [nodesD l, iD k, d, intsD (triesV x), iD (1 + (j : Int)), u], H) ∧ Buf 27 3 H 0 d (headQ x y (j + 1)).length (outC (headQ x y (j + 1)))) (triesV x).length 101
        (fun i s H hi hI => by
          obtain ⟨d, rfl, hd⟩ := hI
          have hlt : (i : Int) < ((triesV x).length : Int) := by omega
          have i1 := idx_intsN (triesV x) i hi
          have l1 : loadH none H (.ptr (oneI (triesV x)[i])) = some (iD ((triesV x).getD i 0)) := by rw [getD_in _ _ _ hi]; rfl
          have r1 := crefIs_pure l k (1 + (j : Int)) ((triesV x).getD i 0) hb H
          have e2 := intD_add (i : Int) 1 (by omega) (by omega)
          have c2 : (i : Int) + 1 = ((i + 1 : Nat) : Int) := by omega
          rw [c2] at e2
          have hps := partQ_succ x y (1 + (j : Int)) i hi
          have hpl := partQ_len x y (1 + (j : Int)) i
          by_cases hp : isN x y (1 + (j : Int)) ((triesV x).getD i 0)
          · rw [decide_eq_true ((hC _ _).2 hp)] at r1
            rw [if_pos hp] at hps
            obtain ⟨d', H', a1, a2, a3⟩ := app_one (new := [D.v (.slice none 0 0), iD (1 + (j : Int)), iD ((triesV x).getD i 0)]) hd (by omega) rfl rfl (by rw [outC_len]; simp; omega) (Nat.zero_le _)
            refine ⟨[nodesD l, iD k, d', intsD (triesV x), iD (1 + (j : Int)), iD ((i + 1 : Nat) : Int)], H', ?_, d', rfl, ?_⟩
            · rw [st_offshootref13_Choices_1]
              simp only [lenH_ints, thn_some, binK_lss, hlt, decide_true, condK_bool, if_true, i1, l1, r1, thnH_some, build_del, row_del, a1, binK_int, e2]
            · rw [hps, ← List.append_assoc, outC_app _ [_], List.length_append]; exact a2
          · rw [decide_eq_false (fun h => hp ((hC _ _).1 h))] at r1
            rw [if_neg hp] at hps
            refine ⟨[nodesD l, iD k, d, intsD (triesV x), iD (1 + (j : Int)), iD ((i + 1 : Nat) : Int)], H, ?_, d, rfl, by rw [hps]; exact hd⟩
            rw [st_offshootref13_Choices_1]
            simp only [lenH_ints, thn_some, binK_lss, hlt, decide_true, condK_bool, if_true, i1, l1, r1, thnH_some, Bool.false_eq_true, if_false, binK_int, e2])
        (fun s H hI => by
          obtain ⟨d, rfl, hd⟩ := hI
          rw [← headQ_succ x y j hj] at hd
          refine ⟨(.exit 2, [nodesD l, iD k, d, intsD (triesV x), iD (1 + (j : Int)), iD ((triesV x).length : Int)], H), ?_, (by intro e; cases e), _, H, d, rfl, hd⟩
          rw [st_offshootref13_Choices_1]
          have hlt : ¬ (((triesV x).length : Int) < ((triesV x).length : Int)) := by omega
          simp only [lenH_ints, thn_some, binK_lss, hlt, decide_false, condK_bool, Bool.false_eq_true, if_false])
        (by omega) (s := [nodesD l, iD k, d, intsD (triesV x), iD (1 + (j : Int)), iD 0]) (H := H) ⟨d, rfl, by simpa [partQ] using hd⟩
      obtain ⟨r, k1, u', H', d', rfl, hd'⟩ := inner
      refine ⟨[nodesD l, iD k, d', intsD (triesV x), iD (1 + ((j + 1 : Nat) : Int)), u'], H', ?_, d', u', rfl, hd'⟩
      rw [st_offshootref13_Choices_0]
      simp only [binK_leq, hle, decide_true, thn_some, condK_bool, if_true, k1, leaveK_exit, condN_same, List.getD_cons_zero, List.getD_cons_succ, binK_int, e1])
    (fun s H hI => by
      obtain ⟨d, u, rfl, hd⟩ := hI
      refine ⟨(.exit 0, [nodesD l, iD k, d, intsD (triesV x), iD (1 + ((7 : Nat) : Int)), u], H), ?_, (by intro e; cases e), _, H, d, rfl, rfl, hd⟩
      rw [st_offshootref13_Choices_0]
      have hle : ¬ ((1 : Int) + ((7 : Nat) : Int) ≤ 7) := by omega
      simp only [binK_leq, hle, decide_false, thn_some, condK_bool, Bool.false_eq_true, if_false])
    (by omega) (s := [nodesD l, iD k, .v (.slice none 0 0), intsD (triesV x), iD 1, .undef]) (H := []) ⟨.v (.slice none 0 0), .undef, rfl, Buf.nil _ _ _ _⟩
  obtain ⟨r, k1, s, H', d', rfl, k2, hd⟩ := key
  obtain ⟨d2, z1, z2⟩ := hd.outs 8
  refine ⟨101, d2, ?_, imp_dls z2⟩
  show outD (textK _ _ _ _ _ [nodesD l, iD k] []) = _
  rw [sh_offshootref13_Choices]
  have lp : ∀ H z, loadH (some 2) H (.ptr (nodeD z)) = some (.agg (nodeD z)) := fun _ _ => rfl
  have ht := tries_pure x []
  simp only [hend, thnH_some, binK_lss, hE, decide_false, thn_some, condK_bool, Bool.false_eq_true, if_false, i0, lp, ht, k1, leaveK_exit, condN_same, k2]
  exact z1
theorem refChoices_pure (l : List Nd) (i : Int) (h : l.length ≤ 3000000) (H : Heap) : liftF F_RefChoices [nodesD l, iD i] H = some (dlsD (choicesD l i), H) := by
  rw [liftF_pure _ _ _ rfl]
  have : F_RefChoices [nodesD l, iD i] = _ := f2_enc (A := nodesT) (B := intT) _ l i
  rw [this, if_pos h]; rfl
theorem equalNodes13 (a b : List Nd) (H : Heap) (ha : a.length ≤ 3000000) (hb : b.length ≤ 3000000) : liftF F_EqualNodes [nodesD a, nodesD b] H = some (bD (decide (a = b)), H) := by
  rw [liftF_pure _ _ _ rfl]; simp [F_EqualNodes, ha, hb]
def F_ArenaSame13 : List D → Option D := F2 nodesT nodesT fun a b => if a.length ≤ 3000000 ∧ b.length ≤ 3000000 then some (bD (decide (a = b))) else none
theorem C_ArenaSame13 : CallOk Try.prog 39 F_ArenaSame13 := call2 (kp := kp_arena_Same) T13m_ok mixed Try.func39 (by kernel_rfl) (by decide) fun a b d h => by
  split at h
  case isFalse => cases h
  rename_i hf
  cases h
  refine ⟨0, _, ?_, Imp.refl _⟩
  show outD (textK _ _ _ _ _ [nodesD a, nodesD b] []) = _
  rw [sh_arena_Same]
  simp [equalNodes13 a b _ hf.1 hf.2]
theorem arenaSame13_pure (a b : List Nd) (H : Heap) (ha : a.length ≤ 3000000) (hb : b.length ≤ 3000000) : liftF F_ArenaSame13 [nodesD a, nodesD b] H = some (bD (decide (a = b)), H) := by
  rw [liftF_pure _ _ _ rfl]
  have : F_ArenaSame13 [nodesD a, nodesD b] = _ := f2_enc (A := nodesT) (B := nodesT) _ a b
  rw [this, if_pos ⟨ha, hb⟩]; rfl
def fs13n (P : Program) : List Entry := (34, true, liftF F_CIs) :: (33, true, liftF F_RefChoices) :: (39, true, liftF F_ArenaSame13) :: (36, true, liftN F_Part) :: fs13m P
theorem fs13n_ok : ∀ p ∈ fs13n Try.prog, EntryOk Try.prog p := entries_cons (entry_lift C_CIs) <| entries_cons (entry_lift C_RefChoices) <| entries_cons (entry_lift C_ArenaSame13) <| entries_cons (entry_new N_Part) <| fs13m_ok
def T13n (P : Program) : Tab := ⟨fs13n P, noYl⟩
theorem T13n_ok : TabOk Try.prog (T13n Try.prog) := tabOk_of fs13n_ok
def F_true13 : List D → Option D := F0 (some (bD true))
theorem works13 : outD (textK Try.prog (T13n Try.prog) [] 20 Try.f31 [] []) = some (bD true) := by kernel_rfl
theorem C_works13 : CallOk Try.prog 31 F_true13 := call0 (kp := []) T13n_ok mixed Try.func31 (by kernel_rfl) (by decide) fun d h => by
  cases h
  exact ⟨20, _, works13, Imp.refl _⟩
theorem true13_pure (H : Heap) : liftF F_true13 [] H = some (bD true, H) := by rw [liftF_pure _ _ _ rfl]; rfl
def fsL13 (P : Program) : List Entry := (31, true, liftF F_true13) :: fs13n P
theorem fsL13_ok : ∀ p ∈ fsL13 Try.prog, EntryOk Try.prog p := entries_cons (entry_lift C_works13) <| fs13n_ok
def L13 (P : Program) : Tab := ⟨fsL13 P, noYl⟩
theorem L13_ok : TabOk Try.prog (L13 Try.prog) := tabOk_of fsL13_ok
end Go.Proofs.Ytalehbmgbjiigaa
end

section
namespace Go.Proofs.Ytalehbmgbjiigaa
open Go.RowKit
set_option linter.unusedVariables false
set_option maxRecDepth 100000

def kp_offshootlaw13_CatalogTells : List Nat := [0, 1, 2, 3, 8, 9, 10, 11, 12]
theorem sh_offshootlaw13_CatalogTells (n : Nat) (x0 x1 x2 x3 : D) (h : Heap) : textK Try.prog (L13 Try.prog) kp_offshootlaw13_CatalogTells n Try.f9 [x0, x1, x2, x3] h =
(thnH (liftF F_true13 [] h) fun y0 h1 =>
thn (notD y0) fun y2 =>
condK y2
(some ((bD false), h1))
(thn (lenH .sl x0) fun y3 =>
thn (binK .int .gtr y3 (iD 60)) fun y4 =>
condK y4
(some (y0, h1))
(thnH (liftN F_Choices [x0, x1] h1) fun y5 h6 =>
thnH (liftF F_RefChoices [x0, x1] h6) fun y7 h8 =>
thn (lenH .sl y5) fun y9 =>
thn (lenH .sl y7) fun y10 =>
thn (binK .int .neq y9 y10) fun y11 =>
condK y11
(some ((bD false), h8))
(leaveK (loopF Try.prog (L13 Try.prog) kp_offshootlaw13_CatalogTells n Try.f9 0 [x0, x1, x2, x3, (bD false), y0, y5, y7, (iD 0)] h8) (fun j12 s13 h14 =>
condN j12 0
(condK (s13.getD 5 .undef)
(thnH (liftF F_CIs [(s13.getD 0 .undef), (s13.getD 1 .undef), (s13.getD 2 .undef), (s13.getD 3 .undef)] h14) fun y15 h16 =>
thnH (liftF F_CRefIs [(s13.getD 0 .undef), (s13.getD 1 .undef), (s13.getD 2 .undef), (s13.getD 3 .undef)] h16) fun y17 h18 =>
thn (binK .bool .eql y15 y17) fun y19 =>
some (y19, h18))
(some ((bD false), h14)))
(none)) (fun s13 h14 =>
some ((s13.getD 4 .undef), h14)))))) := by kernel_rfl

theorem st_offshootlaw13_CatalogTells_0 (n : Nat) (s0 s1 s2 s3 s4 s5 s6 s7 s8 : D) (h : Heap) : stepF Try.prog (L13 Try.prog) kp_offshootlaw13_CatalogTells n Try.f9 0 [s0, s1, s2, s3, s4, s5, s6, s7, s8] h =
(thn (lenH .sl s6) fun y0 =>
thn (binK .int .lss s8 y0) fun y1 =>
condK y1
(thn (idxH 3 s6 s8) fun y2 =>
thn (loadH (some 3) h y2) fun y3 =>
thn (idxH 3 s7 s8) fun y4 =>
thn (loadH (some 3) h y4) fun y5 =>
thnH (liftF F_DCompare [y3, y5] h) fun y6 h7 =>
thn (binK .int .neq y6 (iD 0)) fun y8 =>
condK y8
(some (.ret, [s0, s1, s2, s3, (bD false), s5, s6, s7, s8], h7))
(thn (binK .int .add s8 (iD 1)) fun y9 =>
some (.normal, [s0, s1, s2, s3, s4, s5, s6, s7, y9], h7)))
(some ((.exit 0), [s0, s1, s2, s3, s4, s5, s6, s7, s8], h))) := by kernel_rfl

def kp_offshootlaw13_CatalogJust : List Nat := [0, 1, 2, 3, 8, 9, 10, 11, 12]
theorem sh_offshootlaw13_CatalogJust (n : Nat) (x0 x1 x2 x3 : D) (h : Heap) : textK Try.prog (L13 Try.prog) kp_offshootlaw13_CatalogJust n Try.f10 [x0, x1, x2, x3] h =
(thnH (liftF F_true13 [] h) fun y0 h1 =>
thn (notD y0) fun y2 =>
condK y2
(some ((bD false), h1))
(thn (lenH .sl x0) fun y3 =>
thn (binK .int .gtr y3 (iD 60)) fun y4 =>
condK y4
(some (y0, h1))
(thnH (liftN F_Choices [x0, x1] h1) fun y5 h6 =>
leaveK (loopF Try.prog (L13 Try.prog) kp_offshootlaw13_CatalogJust n Try.f10 0 [x0, x1, x2, x3, (bD false), y0, y5, (iD 0), (iD 0)] h6) (fun j7 s8 h9 =>
condN j7 0
(condK (s8.getD 5 .undef)
(thn (binK .int .eql (s8.getD 7 .undef) (iD 1)) fun y10 =>
thnH (liftF F_CIs [(s8.getD 0 .undef), (s8.getD 1 .undef), (s8.getD 2 .undef), (s8.getD 3 .undef)] h9) fun y11 h12 =>
thn (binK .bool .eql y10 y11) fun y13 =>
condK y13
(thn (binK .int .leq (s8.getD 7 .undef) (iD 1)) fun y14 =>
condK y14
(thn (lenH .sl (s8.getD 6 .undef)) fun y15 =>
thn (binK .int .leq y15 (iD 5)) fun y16 =>
some (y16, h12))
(some ((bD false), h12)))
(some ((bD false), h12)))
(some ((bD false), h9)))
(none)) (fun s8 h9 =>
some ((s8.getD 4 .undef), h9))))) := by kernel_rfl

theorem st_offshootlaw13_CatalogJust_0 (n : Nat) (s0 s1 s2 s3 s4 s5 s6 s7 s8 : D) (h : Heap) : stepF Try.prog (L13 Try.prog) kp_offshootlaw13_CatalogJust n Try.f10 0 [s0, s1, s2, s3, s4, s5, s6, s7, s8] h =
(thn (lenH .sl s6) fun y0 =>
thn (binK .int .lss s8 y0) fun y1 =>
condK y1
(thn (idxH 3 s6 s8) fun y2 =>
thn (fieldAtH 0 y2) fun y3 =>
thn (loadH none h y3) fun y4 =>
thn (lenH .sl y4) fun y5 =>
thn (binK .int .gtr y5 (iD 0)) fun y6 =>
condK y6
(some (.ret, [s0, s1, s2, s3, (bD false), s5, s6, s7, s8], h))
(thn (binK .int .gtr s8 (iD 0)) fun y7 =>
condK y7
(thn (binK .int .sub s8 (iD 1)) fun y8 =>
thn (idxH 3 s6 y8) fun y9 =>
thn (loadH (some 3) h y9) fun y10 =>
thn (idxH 3 s6 s8) fun y11 =>
thn (loadH (some 3) h y11) fun y12 =>
thnH (liftF F_DCompare [y10, y12] h) fun y13 h14 =>
thn (binK .int .geq y13 (iD 0)) fun y15 =>
condK y15
(some (.ret, [s0, s1, s2, s3, (bD false), s5, s6, s7, s8], h14))
(thn (idxH 3 s6 s8) fun y16 =>
thn (fieldAtH 1 y16) fun y17 =>
thn (loadH none h14 y17) fun y18 =>
thn (binK .int .eql y18 s2) fun y19 =>
condK y19
(thn (idxH 3 s6 s8) fun y20 =>
thn (fieldAtH 2 y20) fun y21 =>
thn (loadH none h14 y21) fun y22 =>
thn (binK .int .eql y22 s3) fun y23 =>
condK y23
(thn (binK .int .add s7 (iD 1)) fun y24 =>
thn (binK .int .add s8 (iD 1)) fun y25 =>
some (.normal, [s0, s1, s2, s3, s4, s5, s6, y24, y25], h14))
(thn (binK .int .add s8 (iD 1)) fun y26 =>
some (.normal, [s0, s1, s2, s3, s4, s5, s6, s7, y26], h14)))
(thn (binK .int .add s8 (iD 1)) fun y27 =>
some (.normal, [s0, s1, s2, s3, s4, s5, s6, s7, y27], h14))))
(thn (idxH 3 s6 s8) fun y28 =>
thn (fieldAtH 1 y28) fun y29 =>
thn (loadH none h y29) fun y30 =>
thn (binK .int .eql y30 s2) fun y31 =>
condK y31
(thn (idxH 3 s6 s8) fun y32 =>
thn (fieldAtH 2 y32) fun y33 =>
thn (loadH none h y33) fun y34 =>
thn (binK .int .eql y34 s3) fun y35 =>
condK y35
(thn (binK .int .add s7 (iD 1)) fun y36 =>
thn (binK .int .add s8 (iD 1)) fun y37 =>
some (.normal, [s0, s1, s2, s3, s4, s5, s6, y36, y37], h))
(thn (binK .int .add s8 (iD 1)) fun y38 =>
some (.normal, [s0, s1, s2, s3, s4, s5, s6, s7, y38], h)))
(thn (binK .int .add s8 (iD 1)) fun y39 =>
some (.normal, [s0, s1, s2, s3, s4, s5, s6, s7, y39], h)))))
(some ((.exit 0), [s0, s1, s2, s3, s4, s5, s6, s7, s8], h))) := by kernel_rfl

def kp_offshootlaw13_CatalogApplies : List Nat := []
theorem sh_offshootlaw13_CatalogApplies (n : Nat) (x0 x1 x2 : D) (h : Heap) : textK Try.prog (L13 Try.prog) kp_offshootlaw13_CatalogApplies n Try.f14 [x0, x1, x2] h =
(thnH (liftF F_true13 [] h) fun y0 h1 =>
thn (notD y0) fun y2 =>
condK y2
(some ((bD false), h1))
(thn (lenH .sl x0) fun y3 =>
thn (binK .int .gtr y3 (iD 60)) fun y4 =>
condK y4
(condK y0
(thnH (liftN F_Choices [x0, x1] h1) fun y5 h6 =>
thn (lenH .sl y5) fun y7 =>
thn (binK .int .eql y7 (iD 0)) fun y8 =>
condK y8
(some ((bD true), h6))
(thn (lenH .sl x0) fun y9 =>
thn (binK .int .gtr y9 (iD 60)) fun y10 =>
some (y10, h6)))
(thn (lenH .sl x0) fun y11 =>
thn (binK .int .gtr y11 (iD 60)) fun y12 =>
some (y12, h1)))
(thnH (liftF F_End [x0, x1] h1) fun y13 h14 =>
thn (binK .int .lss y13 (iD 0)) fun y15 =>
condK y15
(condK y0
(thnH (liftN F_Choices [x0, x1] h14) fun y16 h17 =>
thn (lenH .sl y16) fun y18 =>
thn (binK .int .eql y18 (iD 0)) fun y19 =>
condK y19
(some ((bD true), h17))
(thn (lenH .sl x0) fun y20 =>
thn (binK .int .gtr y20 (iD 60)) fun y21 =>
some (y21, h17)))
(thn (lenH .sl x0) fun y22 =>
thn (binK .int .gtr y22 (iD 60)) fun y23 =>
some (y23, h14)))
(thnH (liftN F_Choices [x0, x1] h14) fun y24 h25 =>
thn (binK .int .lss x2 (iD 0)) fun y26 =>
condK y26
(some (y0, h25))
(thn (lenH .sl y24) fun y27 =>
thn (binK .int .geq x2 y27) fun y28 =>
condK y28
(some (y0, h25))
(thnH (liftN F_Part [x0, x1] h25) fun y29 h30 =>
thn (buildR [(0, 1), (1, 1), (2, 1)] [(iD 0), (.v (.slice none 0 0)), (.v (.slice none 0 0))] [(2, y29)]) fun y31 =>
thnH (allocH 25 [(iD 0), (.v (.slice none 0 0)), (.v (.slice none 0 0))] h30) fun y32 h33 =>
thnH (setH 3 y32 y31 h33) fun y34 h35 =>
thn (loadH (some 3) h35 y32) fun y36 =>
thn (idxH 3 y24 x2) fun y37 =>
thn (loadH (some 3) h35 y37) fun y38 =>
thnH (liftF F_DApply [y36, y38] h35) fun y39 h40 =>
thn (extractD y39 0) fun y41 =>
thn (extractD y39 1) fun y42 =>
thnH (allocH 25 [(iD 0), (.v (.slice none 0 0)), (.v (.slice none 0 0))] h40) fun y43 h44 =>
thnH (setH 3 y43 y41 h44) fun y45 h46 =>
condK y0
(thn (binK .int .eql y42 (iD 0)) fun y47 =>
condK y47
(thn (fieldAtH 2 y32) fun y48 =>
thn (loadH none h46 y48) fun y49 =>
thn (fieldAtH 2 y43) fun y50 =>
thn (loadH none h46 y50) fun y51 =>
thnH (liftF F_ArenaSame13 [y49, y51] h46) fun y52 h53 =>
thn (notD y52) fun y54 =>
condK y54
(thn (fieldAtH 2 y43) fun y55 =>
thn (loadH none h53 y55) fun y56 =>
thnH (liftF F_End [y56, (iD 0)] h53) fun y57 h58 =>
thn (fieldAtH 2 y43) fun y59 =>
thn (loadH none h58 y59) fun y60 =>
thn (lenH .sl y60) fun y61 =>
thn (binK .int .eql y57 y61) fun y62 =>
some (y62, h58))
(some ((bD false), h53)))
(some ((bD false), h46)))
(some ((bD false), h46)))))))) := by kernel_rfl

def kp_offshootlaw13_CatalogPart : List Nat := [4, 5, 6, 7, 8]
theorem sh_offshootlaw13_CatalogPart (n : Nat) (x0 x1 : D) (h : Heap) : textK Try.prog (L13 Try.prog) kp_offshootlaw13_CatalogPart n Try.f11 [x0, x1] h =
(thnH (liftF F_true13 [] h) fun y0 h1 =>
thn (notD y0) fun y2 =>
condK y2
(some ((bD false), h1))
(thn (lenH .sl x0) fun y3 =>
thn (binK .int .gtr y3 (iD 60)) fun y4 =>
condK y4
(some (y0, h1))
(thnH (liftN F_Choices [x0, x1] h1) fun y5 h6 =>
thnH (liftN F_Part [x0, x1] h6) fun y7 h8 =>
thnH (liftN F_Choices [y7, (iD 0)] h8) fun y9 h10 =>
thn (lenH .sl y5) fun y11 =>
thn (lenH .sl y9) fun y12 =>
thn (binK .int .neq y11 y12) fun y13 =>
condK y13
(some ((bD false), h10))
(leaveK (loopF Try.prog (L13 Try.prog) kp_offshootlaw13_CatalogPart n Try.f11 0 [(bD false), y0, y5, y9, (iD 0)] h10) (fun j14 s15 h16 =>
condN j14 0
(some ((s15.getD 1 .undef), h16))
(none)) (fun s15 h16 =>
some ((s15.getD 0 .undef), h16)))))) := by kernel_rfl

theorem st_offshootlaw13_CatalogPart_0 (n : Nat) (s0 s1 s2 s3 s4 : D) (h : Heap) : stepF Try.prog (L13 Try.prog) kp_offshootlaw13_CatalogPart n Try.f11 0 [s0, s1, s2, s3, s4] h =
(thn (lenH .sl s2) fun y0 =>
thn (binK .int .lss s4 y0) fun y1 =>
condK y1
(thn (idxH 3 s2 s4) fun y2 =>
thn (loadH (some 3) h y2) fun y3 =>
thn (idxH 3 s3 s4) fun y4 =>
thn (loadH (some 3) h y4) fun y5 =>
thnH (liftF F_DSame [y3, y5] h) fun y6 h7 =>
thn (notD y6) fun y8 =>
condK y8
(some (.ret, [(bD false), s1, s2, s3, s4], h7))
(thn (binK .int .add s4 (iD 1)) fun y9 =>
some (.normal, [s0, s1, s2, s3, y9], h7)))
(some ((.exit 0), [s0, s1, s2, s3, s4], h))) := by kernel_rfl

def kp_offshootlaw13_CatalogBack : List Nat := []
theorem sh_offshootlaw13_CatalogBack (n : Nat) (x0 x1 x2 : D) (h : Heap) : textK Try.prog (L13 Try.prog) kp_offshootlaw13_CatalogBack n Try.f13 [x0, x1, x2] h =
(thnH (liftF F_true13 [] h) fun y0 h1 =>
thn (notD y0) fun y2 =>
condK y2
(some ((bD false), h1))
(thn (lenH .sl x0) fun y3 =>
thn (binK .int .gtr y3 (iD 60)) fun y4 =>
condK y4
(some (y0, h1))
(thnH (liftF F_End [x0, x1] h1) fun y5 h6 =>
thn (binK .int .lss y5 (iD 0)) fun y7 =>
condK y7
(some (y0, h6))
(thn (binK .int .lss x1 (iD 0)) fun y8 =>
condK y8
(some (y0, h6))
(thn (lenH .sl x0) fun y9 =>
thn (binK .int .geq x1 y9) fun y10 =>
condK y10
(some (y0, h6))
(thnH (liftN F_Choices [x0, x1] h6) fun y11 h12 =>
thn (binK .int .lss x2 (iD 0)) fun y13 =>
condK y13
(some (y0, h12))
(thn (lenH .sl y11) fun y14 =>
thn (binK .int .geq x2 y14) fun y15 =>
condK y15
(some (y0, h12))
(thn (idxH 3 y11 x2) fun y16 =>
thn (fieldAtH 1 y16) fun y17 =>
thn (loadH none h12 y17) fun y18 =>
thn (binK .int .gtr y18 (iD 3)) fun y19 =>
condK y19
(some (y0, h12))
(thnH (liftN F_Part [x0, x1] h12) fun y20 h21 =>
thn (buildR [(0, 1), (1, 1), (2, 1)] [(iD 0), (.v (.slice none 0 0)), (.v (.slice none 0 0))] [(2, y20)]) fun y22 =>
thn (idxH 3 y11 x2) fun y23 =>
thn (loadH (some 3) h21 y23) fun y24 =>
thnH (liftF F_DApply [y22, y24] h21) fun y25 h26 =>
thn (extractD y25 0) fun y27 =>
thn (extractD y25 1) fun y28 =>
thnH (allocH 25 [(iD 0), (.v (.slice none 0 0)), (.v (.slice none 0 0))] h26) fun y29 h30 =>
thnH (setH 3 y29 y27 h30) fun y31 h32 =>
thn (binK .int .neq y28 (iD 0)) fun y33 =>
condK y33
(some ((bD false), h32))
(thn (fieldAtH 2 y29) fun y34 =>
thn (loadH none h32 y34) fun y35 =>
thn (lenH .sl y35) fun y36 =>
thn (binK .int .eql y36 (iD 0)) fun y37 =>
condK y37
(some ((bD false), h32))
(condK y0
(thn (fieldAtH 2 y29) fun y38 =>
thn (loadH none h32 y38) fun y39 =>
thn (idxH 2 y39 (iD 0)) fun y40 =>
thn (fieldAtH 0 y40) fun y41 =>
thn (loadH none h32 y41) fun y42 =>
thn (idxH 3 y11 x2) fun y43 =>
thn (fieldAtH 2 y43) fun y44 =>
thn (loadH none h32 y44) fun y45 =>
thn (binK .int .eql y42 y45) fun y46 =>
condK y46
(thn (fieldAtH 2 y29) fun y47 =>
thn (loadH none h32 y47) fun y48 =>
thn (idxH 3 y11 x2) fun y49 =>
thn (fieldAtH 1 y49) fun y50 =>
thn (loadH none h32 y50) fun y51 =>
thn (idxH 2 x0 x1) fun y52 =>
thn (fieldAtH 0 y52) fun y53 =>
thn (loadH none h32 y53) fun y54 =>
thnH (liftF F_CIs [y48, (iD 0), y51, y54] h32) fun y55 h56 =>
condK y55
(thn (fieldAtH 2 y29) fun y57 =>
thn (loadH none h56 y57) fun y58 =>
thn (idxH 3 y11 x2) fun y59 =>
thn (fieldAtH 1 y59) fun y60 =>
thn (loadH none h56 y60) fun y61 =>
thn (idxH 3 y11 x2) fun y62 =>
thn (fieldAtH 2 y62) fun y63 =>
thn (loadH none h56 y63) fun y64 =>
thnH (liftF F_CIs [y58, (iD 0), y61, y64] h56) fun y65 h66 =>
thn (notD y65) fun y67 =>
some (y67, h66))
(some ((bD false), h56)))
(some ((bD false), h32)))
(some ((bD false), h32))))))))))))) := by kernel_rfl

end Go.Proofs.Ytalehbmgbjiigaa
end

section
namespace Go.Proofs.Ytalehbmgbjiigaa

theorem down_order (l : List Nd) : ∀ (a b : List Int) (r : Int), 0 ≤ endv l r → 0 ≤ downV l r a → 0 ≤ downV l r b → downV l r a < downV l r b → cmpL a b < 0
  | [], [], r, _, _, _, h => by omega
  | [], _ :: _, r, _, _, _, _ => by simp [cmpL]
  | m :: a, [], r, hr, h1, _, h => by
    have := downV_range l (m :: a) r hr h1
    have h2 : downV l r [] = r := rfl
    omega
  | m :: a, n :: b, r, hr, h1, h2, h => by
    by_cases hm : 0 ≤ m ∧ m.toNat < (kidsv l r).length
    · by_cases hn : 0 ≤ n ∧ n.toNat < (kidsv l r).length
      · obtain ⟨j, rfl⟩ := Int.eq_ofNat_of_zero_le hm.1
        obtain ⟨k, rfl⟩ := Int.eq_ofNat_of_zero_le hn.1
        have hj : j < (kidsv l r).length := by simpa using hm.2
        have hk : k < (kidsv l r).length := by simpa using hn.2
        obtain ⟨h0, _⟩ := endv_in l r hr
        obtain ⟨t, rfl⟩ := Int.eq_ofNat_of_zero_le h0
        obtain ⟨ej, hja⟩ := kidsv_get l t hr j hj
        obtain ⟨ek, hka⟩ := kidsv_get l t hr k hk
        have rj := kth_range l t hr j hja
        have rk := kth_range l t hr k hka
        rw [downV_in l t j a j rfl hj, ej] at h1 h
        rw [downV_in l t k b k rfl hk, ek] at h2 h
        rcases Nat.lt_trichotomy j k with hjk | rfl | hjk
        · rw [cmpL, if_pos (by omega)]; omega
        · rw [cmpL, if_neg (by omega), if_neg (by omega)]
          exact down_order l a b _ rj.2.2.1 h1 h2 h
        · have g1 := downV_range l a _ rj.2.2.1 h1
          have g2 := downV_range l b _ rk.2.2.1 h2
          have g3 := kth_mono l t hr (k + 1) (j - (k + 1)) (by omega)
          rw [show k + 1 + (j - (k + 1)) = j from by omega] at g3
          have g4 : endv l (kth l (t + 1) k) = kth l (t + 1) (k + 1) := rfl
          omega
      · rw [downV_out l r n b hn] at h2; omega
    · rw [downV_out l r m a hm] at h1; omega

section whole
variable {l : List Nd} (hw : endv l 0 = l.length)
include hw
theorem ofv_order {i k : Int} {a b : List Int} (ha : ofv l i = some a) (hb : ofv l k = some b) (h : i < k) : cmpL a b < 0 := by
  have h1 := ofv_down hw ha
  have h2 := ofv_down hw hb
  have i1 := (ofv_some_iff hw i).1 (by rw [ha]; rfl)
  have k1 := (ofv_some_iff hw k).1 (by rw [hb]; rfl)
  exact down_order l a b 0 (by omega) (by omega) (by omega) (by omega)
theorem ofv_prefix {i k : Int} {a b : List Int} (ha : ofv l i = some a) (hb : ofv l k = some b) : a <+: b ↔ i ≤ k ∧ k < endv l i := by
  have h1 := ofv_down hw ha
  have h2 := ofv_down hw hb
  have i1 := (ofv_some_iff hw i).1 (by rw [ha]; rfl)
  have k1 := (ofv_some_iff hw k).1 (by rw [hb]; rfl)
  have hv := ofv_valid hw ha
  constructor
  · rintro ⟨q, rfl⟩
    rw [downV_append l a q 0 (by omega) (by omega), h1] at h2
    have := downV_range l q i hv (by omega)
    omega
  · rintro ⟨g1, g2⟩
    have hp := pathsV_places l (l.length + 1) i [] hv (by omega)
    have hm : k ∈ seg i (endv l i) := by rw [mem_seg]; exact ⟨g1, g2⟩
    rw [← hp] at hm
    obtain ⟨x, hx, rfl⟩ := List.mem_map.1 hm
    obtain ⟨q, hq, hd⟩ := pathsV_down l _ _ _ _ hx
    have h3 : downV l 0 (a ++ q) = x.1 := by rw [downV_append l a q 0 (by omega) (by omega), h1]; exact hd
    have h4 := down_ofv hw (i := x.1) (by omega) h3
    rw [hb] at h4
    cases h4
    exact ⟨q, rfl⟩
end whole

theorem prefix_take (a b : List Int) : (a.length ≤ b.length ∧ a.take a.length = b.take a.length) ↔ a <+: b := by
  rw [List.take_length]
  constructor
  · rintro ⟨_, h2⟩; rw [h2]; exact List.take_prefix _ _
  · intro h; exact ⟨h.length_le, List.prefix_iff_eq_take.1 h⟩
theorem prefix_take_le (a b : List Int) (k : Nat) (h : a <+: b) (hk : k ≤ a.length) : a.length ≤ b.length ∧ a.take k = b.take k := by
  refine ⟨h.length_le, ?_⟩
  obtain ⟨q, rfl⟩ := h
  rw [List.take_append_of_le_length hk]
end Go.Proofs.Ytalehbmgbjiigaa
end
