/-
  Parts joined into one text: T13l, Sh13l, T13m, Sh13m, T13n, Of, Up, RefOf, PathClimb, T14a, Sh14a, T14b, Sh14b, T14c. No condition.
-/
import Derived.Test.YtinnbafplhcnpaaGreatGb
import Derived.Test.YtinnbafplhcnpaaGreatGg
import Derived.Test.YtinnbafplhcnpaaGreatGi
import Derived.Test.YtinnbafplhcnpaaGreatGj
import Derived.Test.YtinnbafplhcnpaaGreatGk
import Derived.Test.YtinnbafplhcnpaaGreatGn

section
namespace Go.Proofs.YtinnbafplhcnpaaGreat
open Go.RowKit
set_option linter.unusedVariables false
set_option linter.unusedSimpArgs false
set_option maxRecDepth 100000

def isCl (a b : Nat) : D := .clo (.func 50) [] [.hp a 0, .hp b 0]
def G_idxD (P : Program) : List D → Heap → Option (D × Heap) := textG P (T13k P) kp_idxD 1001 92
theorem G_idxD_eq (ds : List D) (H : Heap) : G_idxD Tryz.prog ds H = textK Tryz.prog (T13k Tryz.prog) kp_idxD 1001 Tryz.f92 ds H := textG_eq Tryz.func92 ds H
theorem C_idxD : HCallOk Tryz.prog 92 (G_idxD Tryz.prog) := hcall_G T13k_ok mixed Tryz.func92 (by kernel_rfl) (by decide)
theorem idxD_ok (L : List Dl) (op n : Int) (a b : Nat) (ta tb : TypeId) (H : Heap) (ha : H[a]? = some (.cells ta 1 [iD op])) (hb : H[b]? = some (.cells tb 1 [iD n])) (hL : L.length ≤ 1000) :
    ∃ (r : Int) (H' : Heap), G_idxD Tryz.prog [dlsD L, isCl a b] H = some (iD r, H') ∧ Kp H.length H H' ∧ (0 ≤ r ↔ ∃ d ∈ L, d.op = op ∧ d.n = n) := by
  rw [G_idxD_eq, sh_idxD]
  have hla := (List.getElem?_eq_some_iff.1 ha).1
  have hlb := (List.getElem?_eq_some_iff.1 hb).1
  have key : ∀ (m j : Nat) (H1 : Heap) (f : Nat), j + m = L.length → m < f → Kp H.length H H1 →
      (∃ H', iterS (stepF Tryz.prog (T13k Tryz.prog) kp_idxD 1001 Tryz.f92 0) f [dlsD L, isCl a b, iD 0, iD L.length, iD j] H1 = some (.exit 0, [dlsD L, isCl a b, iD 0, iD L.length, iD L.length], H') ∧ Kp H.length H H' ∧ ∀ p (hp : p < L.length), j ≤ p → ¬ (L[p].op = op ∧ L[p].n = n)) ∨
      (∃ H' i, iterS (stepF Tryz.prog (T13k Tryz.prog) kp_idxD 1001 Tryz.f92 0) f [dlsD L, isCl a b, iD 0, iD L.length, iD j] H1 = some (.ret, [dlsD L, isCl a b, iD ((i : Nat) : Int), iD L.length, iD ((i : Nat) : Int)], H') ∧ Kp H.length H H' ∧ ∃ hi : i < L.length, L[i].op = op ∧ L[i].n = n) := by
    intro m
    induction m with
    | zero =>
      intro j H1 f hj hf hk
      obtain ⟨f, rfl⟩ : ∃ z, f = z + 1 := ⟨f - 1, by omega⟩
      obtain rfl : j = L.length := by omega
      refine .inl ⟨H1, iterS_exit ?_, hk, fun p hp h => by omega⟩
      rw [st_idxD_0]
      simp
    | succ m ih =>
      intro j H1 f hj hf hk
      obtain ⟨f, rfl⟩ : ∃ z, f = z + 1 := ⟨f - 1, by omega⟩
      have hjl : j < L.length := by omega
      have hlt : (j : Int) < (L.length : Int) := by omega
      have i1 := idx_dls L j hjl
      have l1 := load_dl H1 L[j]
      obtain ⟨H2, c1, c2⟩ := is1_ok L[j] op n a b ta tb H1 ((hk.2 a hla).trans ha) ((hk.2 b hlb).trans hb)
      have c3 : callClo (T13k Tryz.prog) (isCl a b) [dlD L[j]] H1 = some (bD (decide (L[j].op = op ∧ L[j].n = n)), H2) := c1
      have hk2 : Kp H.length H H2 := hk.trans (c2.mono hk.1)
      have e1 := intD_add (j : Int) 1 (by omega) (by omega)
      have e2 : ((j : Nat) : Int) + 1 = ((j + 1 : Nat) : Int) := by omega
      rw [e2] at e1
      by_cases hx : L[j].op = op ∧ L[j].n = n
      · refine .inr ⟨H2, j, iterS_ret ?_, hk2, hjl, hx⟩
        rw [decide_eq_true hx] at c3
        rw [st_idxD_0]
        simp only [binK_lss, hlt, decide_true, thn_some, condK_bool, if_true, i1, l1, c3, thnH_some]
      · rw [decide_eq_false hx] at c3
        have hgo : stepF Tryz.prog (T13k Tryz.prog) kp_idxD 1001 Tryz.f92 0 [dlsD L, isCl a b, iD 0, iD L.length, iD j] H1 = some (.normal, [dlsD L, isCl a b, iD 0, iD L.length, iD ((j + 1 : Nat) : Int)], H2) := by
          rw [st_idxD_0]
          simp only [binK_lss, hlt, decide_true, thn_some, condK_bool, if_true, i1, l1, c3, thnH_some, Bool.false_eq_true, if_false, binK_int, e1]
        rw [iterS_go hgo]
        rcases ih (j + 1) H2 f (by omega) (by omega) hk2 with ⟨H', q1, q2, q3⟩ | q
        · refine .inl ⟨H', q1, q2, fun p hp hjp => ?_⟩
          rcases Nat.lt_or_ge j p with h | h
          · exact q3 p hp h
          · obtain rfl : p = j := by omega
            exact hx
        · exact .inr q
  rcases key L.length 0 H 1001 (by omega) (by omega) (Kp.refl _ _) with ⟨H', q1, q2, q3⟩ | ⟨H', i, q1, q2, hi, q3⟩
  · have q1' : loopF Tryz.prog (T13k Tryz.prog) kp_idxD 1001 Tryz.f92 0 [dlsD L, isCl a b, iD 0, iD L.length, iD 0] H = _ := q1
    refine ⟨-1, H', ?_, q2, ⟨fun h => by omega, ?_⟩⟩
    · simp only [lenH_dls, thn_some, q1', leaveK_exit, condN_same]
    · rintro ⟨d, hd, h⟩
      obtain ⟨p, hp, e⟩ := List.getElem_of_mem hd
      exact absurd (by rw [e]; exact h) (q3 p hp (Nat.zero_le _))
  · have q1' : loopF Tryz.prog (T13k Tryz.prog) kp_idxD 1001 Tryz.f92 0 [dlsD L, isCl a b, iD 0, iD L.length, iD 0] H = _ := q1
    refine ⟨(i : Int), H', ?_, q2, ⟨fun _ => ⟨L[i], List.getElem_mem hi, q3⟩, fun _ => by omega⟩⟩
    simp only [lenH_dls, thn_some, q1', leaveK_ret, List.getD_cons_zero, List.getD_cons_succ]

def F_tries : List D → Option D := F1 ndT fun x => some (intsD (triesV x))
/-- Where a number belongs in a row, and whether it is there. -/
theorem tries_look (H : Heap) (out add : List Int) (d da s2 : D) (i : Nat) (hi : i < add.length) (hout : out.length ≤ 100) (hd : Buf 3 1 H 0 d out.length (intsC out)) (hda : Buf 3 1 H 0 da add.length (intsC add)) :
    ∀ (m j : Nat) (f : Nat), j + m = out.length → m < f →
    iterS (stepF Tryz.prog (T13k Tryz.prog) kp_offshootref13_tries 101 Tryz.f62 2) f [d, da, s2, iD i, iD (kP (add.getD i 0) out j), bD (inP (add.getD i 0) out j), iD j] H =
      some (.exit 4, [d, da, s2, iD i, iD (kP (add.getD i 0) out out.length), bD (inP (add.getD i 0) out out.length), iD out.length], H) := by
  intro m
  induction m with
  | zero =>
    intro j f hj hf
    obtain ⟨f, rfl⟩ : ∃ z, f = z + 1 := ⟨f - 1, by omega⟩
    obtain rfl : j = out.length := by omega
    refine iterS_exit ?_
    rw [st_offshootref13_tries_2]
    have hlt : ¬ (out.length : Int) < (out.length : Int) := by omega
    simp only [hd.lenH, thn_some, binK_lss, hlt, decide_false, condK_bool, Bool.false_eq_true, if_false]
  | succ m ih =>
    intro j f hj hf
    obtain ⟨f, rfl⟩ : ∃ z, f = z + 1 := ⟨f - 1, by omega⟩
    have hlt : (j : Int) < (out.length : Int) := by omega
    obtain ⟨p, p1, p2⟩ := buf_get hd j (by omega)
    obtain ⟨q, q1, q2⟩ := buf_get hda i hi
    have e1 := intD_add (j : Int) 1 (by omega) (by omega)
    have e2 : ((j : Nat) : Int) + 1 = ((j + 1 : Nat) : Int) := by omega
    rw [e2] at e1
    have hgo : stepF Tryz.prog (T13k Tryz.prog) kp_offshootref13_tries 101 Tryz.f62 2 [d, da, s2, iD i, iD (kP (add.getD i 0) out j), bD (inP (add.getD i 0) out j), iD j] H =
        some (.normal, [d, da, s2, iD i, iD (kP (add.getD i 0) out (j + 1)), bD (inP (add.getD i 0) out (j + 1)), iD ((j + 1 : Nat) : Int)], H) := by
      rw [st_offshootref13_tries_2]
      simp only [kP, inP]
      cases hin : inP (add.getD i 0) out j with
      | true =>
        by_cases hx : out.getD j 0 < add.getD i 0
        · rw [if_pos hx]
          simp only [hd.lenH, thn_some, binK_lss, hlt, decide_true, condK_bool, if_true, p1, p2, q1, q2, hx, binK_int, e1, Bool.true_or]
        · rw [if_neg hx]
          simp only [hd.lenH, thn_some, binK_lss, hlt, decide_true, condK_bool, if_true, p1, p2, q1, q2, hx, decide_false, Bool.false_eq_true, if_false, binK_int, e1, Bool.true_or]
      | false =>
        by_cases hx : out.getD j 0 < add.getD i 0
        · rw [if_pos hx]
          simp only [hd.lenH, thn_some, binK_lss, hlt, decide_true, condK_bool, if_true, Bool.false_eq_true, if_false, p1, p2, q1, q2, binK_eql, hx, binK_int, e1, Bool.false_or]
        · rw [if_neg hx]
          simp only [hd.lenH, thn_some, binK_lss, hlt, decide_true, condK_bool, if_true, p1, p2, q1, q2, binK_eql, hx, decide_false, Bool.false_eq_true, if_false, binK_int, e1, Bool.false_or]
    rw [iterS_go hgo]
    exact ih (j + 1) f (by omega) (by omega)
theorem row_zero (t : TypeId) (H : Heap) : rowH t 1 0 [iD 0] [] H = some (.hs H.length 0, H ++ [.cells t 1 []]) := rfl
def addsV (x : Nd) (k : Nat) : List Int := [-1, 0, 1, w64 (x.2 - 1), w64 (x.2 + 1)] ++ (List.range k).map fun i : Nat => (7 : Int) + (i : Int)
theorem addsV_succ (x : Nd) (k : Nat) : addsV x (k + 1) = addsV x k ++ [(7 : Int) + (k : Int)] := by
  unfold addsV
  rw [List.range_succ, List.map_append, ← List.append_assoc]; rfl
theorem addsV_len (x : Nd) (k : Nat) : (addsV x k).length = 5 + k := by simp [addsV]; omega
theorem tries_text (x : Nd) : ∃ d H', textK Tryz.prog (T13k Tryz.prog) kp_offshootref13_tries 101 Tryz.f62 [.agg (nodeD x)] [] = some (d, H') ∧ Buf 3 1 H' 0 d (triesV x).length (intsC (triesV x)) := by
  rw [sh_offshootref13_tries]
  have hbox : boxH 54 (.agg (nodeD x)) [] = some (.hp 0 0, [.cells 54 2 [iD x.1, iD x.2]]) := rfl
  have f1 : fieldAtH 1 (.hp 0 0) = some (.hp 0 1) := rfl
  have l1 : loadH none [.cells 54 2 [iD x.1, iD x.2]] (.hp 0 1) = some (iD x.2) := rfl
  have eP : intD .add .i64 x.2 1 = some (iD (w64 (x.2 + 1))) := rfl
  have eM : intD .sub .i64 x.2 1 = some (iD (w64 (x.2 - 1))) := rfl
  have r5 : rowH 3 1 5 [iD 0] [(0, iD (-1)), (1, iD 0), (2, iD 1), (3, iD (w64 (x.2 - 1))), (4, iD (w64 (x.2 + 1)))] [.cells 54 2 [iD x.1, iD x.2]] = some (.hs 1 5, [.cells 54 2 [iD x.1, iD x.2], .cells 3 1 (intsC (addsV x 0))]) := rfl
  have key0 := loopF_invS (P := Tryz.prog) (T := T13k Tryz.prog) (kp := kp_offshootref13_tries) (fn := Tryz.f62) (li := 0)
    (fun j s H => ∃ d, s = [.v (.slice none 0 0), d, iD (7 + (j : Int)), .undef, .undef, .undef, .undef] ∧ Buf 3 1 H 0 d (addsV x j).length (intsC (addsV x j)))
    (fun r => ∃ s2 H d, r = (.exit 0, [.v (.slice none 0 0), d, s2, .undef, .undef, .undef, .undef], H) ∧ Buf 3 1 H 0 d (addsV x 13).length (intsC (addsV x 13))) 13 101
    (fun j s H hj hI => by
      obtain ⟨d, rfl, hd⟩ := hI
      have hle : (7 : Int) + (j : Int) ≤ 19 := by omega
      have e1 := intD_add ((7 : Int) + (j : Int)) 1 (by omega) (by omega)
      have c1 : (7 : Int) + (j : Int) + 1 = 7 + ((j + 1 : Nat) : Int) := by omega
      rw [c1] at e1
      have hal := addsV_len x j
      obtain ⟨d', H', a1, a2, a3⟩ := app_one (new := [iD ((7 : Int) + (j : Int))]) hd (by omega) rfl rfl (by rw [intsC_len]; simp; omega) (Nat.zero_le _)
      refine ⟨[.v (.slice none 0 0), d', iD (7 + ((j + 1 : Nat) : Int)), .undef, .undef, .undef, .undef], H', ?_, d', rfl, ?_⟩
      · rw [st_offshootref13_tries_0]
        simp only [binK_leq, hle, decide_true, thn_some, condK_bool, if_true, row_int, thnH_some, a1, binK_int, e1]
      · rw [addsV_succ, intsC_app, List.length_append]; exact a2)
    (fun s H hI => by
      obtain ⟨d, rfl, hd⟩ := hI
      refine ⟨(.exit 0, [.v (.slice none 0 0), d, iD (7 + ((13 : Nat) : Int)), .undef, .undef, .undef, .undef], H), ?_, (by intro e; cases e), _, H, d, rfl, hd⟩
      rw [st_offshootref13_tries_0]
      have hle : ¬ ((7 : Int) + ((13 : Nat) : Int) ≤ 19) := by omega
      simp only [binK_leq, hle, decide_false, thn_some, condK_bool, Bool.false_eq_true, if_false])
    (by omega) (s := [.v (.slice none 0 0), .hs 1 5, iD 7, .undef, .undef, .undef, .undef]) (H := [.cells 54 2 [iD x.1, iD x.2], .cells 3 1 (intsC (addsV x 0))])
    ⟨.hs 1 5, rfl, .inr ⟨1, Nat.zero_le _, rfl, rfl, rfl⟩⟩
  obtain ⟨r, k1, s2, H1, da, rfl, hda0⟩ := key0
  have hal := addsV_len x 13
  have htr : triesV x = (addsV x 13).foldl putS [] := by
    rw [putS_sort]; rfl
  generalize addsV x 13 = add at *
  have key1 := loopF_invS (P := Tryz.prog) (T := T13k Tryz.prog) (kp := kp_offshootref13_tries) (fn := Tryz.f62) (li := 1)
    (fun i s H => ∃ d u5 u6 u7, s = [d, da, s2, iD i, u5, u6, u7] ∧ Buf 3 1 H 0 d ((add.take i).foldl putS []).length (intsC ((add.take i).foldl putS [])) ∧ Buf 3 1 H 0 da add.length (intsC add) ∧ ∀ k m q, da = .hs k m → d ≠ .hs k q)
    (fun r => ∃ d H u3 u5 u6 u7, r = (.exit 2, [d, da, s2, u3, u5, u6, u7], H) ∧ Buf 3 1 H 0 d (triesV x).length (intsC (triesV x))) 18 101
    (fun i s H hi hI => by
      obtain ⟨d, u5, u6, u7, rfl, hd, hda, hne⟩ := hI
      have hlt : (i : Int) < (add.length : Int) := by omega
      have hob := putS_bound add i (by omega)
      have hps := putS_take add i (by omega)
      generalize (add.take i).foldl putS [] = out at *
      have hlk := tries_look H out add d da s2 i (by omega) (by omega) hd hda out.length 0 101 (by omega) (by omega)
      have hlk' : loopF Tryz.prog (T13k Tryz.prog) kp_offshootref13_tries 101 Tryz.f62 2 [d, da, s2, iD i, iD 0, bD false, iD 0] H = _ := hlk
      have e1 := intD_add (i : Int) 1 (by omega) (by omega)
      have c1 : (i : Int) + 1 = ((i + 1 : Nat) : Int) := by omega
      rw [c1] at e1
      have hkl := kP_le (add.getD i 0) out out.length
      cases hin : inP (add.getD i 0) out out.length with
      | true =>
        rw [hin] at hlk'
        refine ⟨[d, da, s2, iD ((i + 1 : Nat) : Int), iD (kP (add.getD i 0) out out.length), bD true, iD out.length], H, ?_, d, _, _, _, rfl, ?_, hda, hne⟩
        rotate_left
        · rw [hps]; unfold putS; rw [if_pos hin]; exact hd
        · rw [st_offshootref13_tries_1]
          simp only [hda.lenH, thn_some, binK_lss, hlt, decide_true, condK_bool, if_true, hlk', leaveK_exit, condN_same, List.getD_cons_zero, List.getD_cons_succ, notD_bool, Bool.not_true, Bool.false_eq_true, if_false, binK_int, e1]
      | false =>
        rw [hin] at hlk'
        generalize hk : kP (add.getD i 0) out out.length = k at *
        obtain ⟨pt, t1, t2⟩ := src_to hd k hkl
        obtain ⟨pf, s1, s2'⟩ := src_from hd k hkl
        have hg0 : Buf 3 1 (H ++ [.cells 3 1 []]) 0 (.hs H.length 0) ([] : List Int).length (intsC []) := .inr ⟨H.length, Nat.zero_le _, rfl, by simp [intsC], rfl⟩
        have kk0 : ∀ r, r < H.length → (H ++ [HO.cells 3 1 []])[r]? = H[r]? := fun r hr => List.getElem?_append_left hr
        have hl0 : (H ++ [HO.cells 3 1 []]).length = H.length + 1 := by simp
        have rz := row_zero 3 H
        generalize H ++ [HO.cells 3 1 []] = Ha at *
        have hdlt : ∀ r m, d = .hs r m → r < H.length := fun r m e => by subst e; exact hd.lt.2
        have hdalt : ∀ r m, da = .hs r m → r < H.length := fun r m e => by subst e; exact hda.lt.2
        obtain ⟨d1, Hb, a1, a2, a3, a4, a5, a6⟩ := app_src hg0 (t2 Ha fun r m e => kk0 r (hdlt r m e)) (by simp; omega) (Nat.zero_le _)
        have kk1 : ∀ r, r < H.length → Hb[r]? = H[r]? := fun r hr => by rw [a5 r (by omega) (fun q e => by cases e; omega)]; exact kk0 r hr
        have nn1 : ∀ r q, r < H.length → d1 ≠ .hs r q := fun r q hr => a6 r q (by omega) (fun q e => by cases e; omega)
        have hdb : Buf 3 1 Hb 0 da add.length (intsC add) := hda.keep fun r m e => kk1 r (hdalt r m e)
        obtain ⟨q, q1, q2⟩ := buf_get hdb i (by omega)
        obtain ⟨d2, Hc, b1, b2, b3, b4, b5, b6⟩ := app_one (new := [iD (add.getD i 0)]) a2 (by omega) rfl rfl (by rw [intsC_len]; simp; omega) (Nat.zero_le _)
        have b2' : Buf 3 1 Hc 0 d2 (([] ++ out.take k) ++ [add.getD i 0]).length (intsC (([] ++ out.take k) ++ [add.getD i 0])) := by rw [List.length_append, intsC_app]; exact b2
        have kk2 : ∀ r, r < H.length → Hc[r]? = H[r]? := fun r hr => by rw [b5 r (by omega) (fun q => nn1 r q hr)]; exact kk1 r hr
        have nn2 : ∀ r q, r < H.length → d2 ≠ .hs r q := fun r q hr => b6 r q (by omega) (nn1 r q hr) (fun q => nn1 r q hr)
        obtain ⟨d3, Hd, c1', c2, c3, c4, c5, c6⟩ := app_src b2' (s2' Hc fun r m e => kk2 r (hdlt r m e)) (by simp; omega) (Nat.zero_le _)
        have kk3 : ∀ r, r < H.length → Hd[r]? = H[r]? := fun r hr => by rw [c5 r (by omega) (fun q => nn2 r q hr)]; exact kk2 r hr
        have nn3 : ∀ r q, r < H.length → d3 ≠ .hs r q := fun r q hr => c6 r q (by omega) (fun q => nn2 r q hr)
        refine ⟨[d3, da, s2, iD ((i + 1 : Nat) : Int), iD k, bD false, iD out.length], Hd, ?_, d3, _, _, _, rfl, ?_, hda.keep fun r m e => kk3 r (hdalt r m e), fun r m q e => nn3 r q (hdalt r m e)⟩
        rotate_left
        · rw [hps]; unfold putS; rw [if_neg (by rw [hin]; decide), hk]
          have e : out.take k ++ add.getD i 0 :: out.drop k = ([] ++ out.take k ++ [add.getD i 0]) ++ out.drop k := by simp
          rw [e]; exact c2
        · rw [st_offshootref13_tries_1]
          simp only [hda.lenH, thn_some, binK_lss, hlt, decide_true, condK_bool, if_true, hlk', leaveK_exit, condN_same, List.getD_cons_zero, List.getD_cons_succ, notD_bool, Bool.not_false, rz, thnH_some, t1, a1, q1, q2, row_int, b1, s1, c1', binK_int, e1])
    (fun s H hI => by
      obtain ⟨d, u5, u6, u7, rfl, hd, hda, hne⟩ := hI
      rw [List.take_of_length_le (by omega), ← htr] at hd
      refine ⟨(.exit 2, [d, da, s2, iD ((18 : Nat) : Int), u5, u6, u7], H), ?_, (by intro e; cases e), d, H, _, u5, u6, u7, rfl, hd⟩
      rw [st_offshootref13_tries_1]
      have hlt : ¬ (((18 : Nat) : Int) < (add.length : Int)) := by omega
      simp only [hda.lenH, thn_some, binK_lss, hlt, decide_false, condK_bool, Bool.false_eq_true, if_false])
    (by omega) (s := [.v (.slice none 0 0), da, s2, iD 0, .undef, .undef, .undef]) (H := H1)
    ⟨.v (.slice none 0 0), .undef, .undef, .undef, rfl, Buf.nil _ _ _ _, hda0, fun k m q _ e => by cases e⟩
  obtain ⟨r, k2, d, H2, u3, u5, u6, u7, rfl, hd⟩ := key1
  refine ⟨d, H2, ?_, hd⟩
  simp only [hbox, thnH_some, f1, thn_some, l1, binK_sub, binK_int, eP, eM, r5, k1, leaveK_exit, condN_same, List.getD_cons_zero, List.getD_cons_succ, k2]
theorem tries_call : CallOk Tryz.prog 62 F_tries := call1 (kp := kp_offshootref13_tries) T13k_ok mixed Tryz.func62 (by kernel_rfl) (by decide) fun x d h => by
  cases h
  obtain ⟨d, H', q1, q2⟩ := tries_text x
  obtain ⟨d', z1, z2⟩ := q2.ints 8
  refine ⟨101, d', ?_, imp_ints z2⟩
  show outD (textK _ _ _ _ _ [.agg (nodeD x)] []) = _
  rw [q1]; exact z1
theorem tries_pure (x : Nd) (H : Heap) : liftF F_tries [.agg (nodeD x)] H = some (intsD (triesV x), H) := by
  rw [liftF_pure _ _ _ rfl]
  have : F_tries [.agg (nodeD x)] = _ := f1_enc (A := ndT) _ x
  rw [this]; rfl
def fs13l (P : Program) : List Entry := (92, false, G_idxD P) :: (62, true, liftF F_tries) :: fs13k P
theorem fs13l_ok : ∀ p ∈ fs13l Tryz.prog, EntryOk Tryz.prog p := entries_cons (entry_obj C_idxD) <| entries_cons (entry_lift tries_call) <| fs13k_ok
def T13l (P : Program) : Tab := ⟨fs13l P, noYl⟩
theorem T13l_ok : TabOk Tryz.prog (T13l Tryz.prog) := tabOk_of fs13l_ok
end Go.Proofs.YtinnbafplhcnpaaGreat
end

section
namespace Go.Proofs.YtinnbafplhcnpaaGreat
open Go.RowKit
set_option linter.unusedVariables false
set_option maxRecDepth 100000

def kp_conD : List Nat := []
theorem sh_conD (n : Nat) (x0 x1 : D) (h : Heap) : textK Tryz.prog (T13l Tryz.prog) kp_conD n Tryz.f49 [x0, x1] h =
(thnH ((G_idxD Tryz.prog) [x0, x1] h) fun y0 h1 =>
thn (binK .int .geq y0 (iD 0)) fun y2 =>
some (y2, h1)) := by kernel_rfl

end Go.Proofs.YtinnbafplhcnpaaGreat
end

section
namespace Go.Proofs.YtinnbafplhcnpaaGreat
open Go.RowKit
set_option linter.unusedVariables false
set_option linter.unusedSimpArgs false
set_option maxRecDepth 100000

def G_conD (P : Program) : List D → Heap → Option (D × Heap) := textG P (T13l P) kp_conD 0 49
theorem G_conD_eq (ds : List D) (H : Heap) : G_conD Tryz.prog ds H = textK Tryz.prog (T13l Tryz.prog) kp_conD 0 Tryz.f49 ds H := textG_eq Tryz.func49 ds H
theorem C_conD : HCallOk Tryz.prog 49 (G_conD Tryz.prog) := hcall_G T13l_ok mixed Tryz.func49 (by kernel_rfl) (by decide)
theorem conD_ok (L : List Dl) (op n : Int) (a b : Nat) (ta tb : TypeId) (H : Heap) (ha : H[a]? = some (.cells ta 1 [iD op])) (hb : H[b]? = some (.cells tb 1 [iD n])) (hL : L.length ≤ 1000) :
    ∃ H' : Heap, G_conD Tryz.prog [dlsD L, isCl a b] H = some (bD (decide (∃ d ∈ L, d.op = op ∧ d.n = n)), H') := by
  obtain ⟨r, H', q1, q2, q3⟩ := idxD_ok L op n a b ta tb H ha hb hL
  refine ⟨H', ?_⟩
  rw [G_conD_eq, sh_conD]
  simp only [q1, thnH_some, binK_geq, thn_some]
  have : decide (0 ≤ r) = decide (∃ d ∈ L, d.op = op ∧ d.n = n) := by
    rw [Bool.eq_iff_iff, decide_eq_true_eq, decide_eq_true_eq]; exact q3
  rw [this]
def fs13m (P : Program) : List Entry := (49, false, G_conD P) :: fs13l P
theorem fs13m_ok : ∀ p ∈ fs13m Tryz.prog, EntryOk Tryz.prog p := entries_cons (entry_obj C_conD) <| fs13l_ok
def T13m (P : Program) : Tab := ⟨fs13m P, noYl⟩
theorem T13m_ok : TabOk Tryz.prog (T13m Tryz.prog) := tabOk_of fs13m_ok
end Go.Proofs.YtinnbafplhcnpaaGreat
end

section
namespace Go.Proofs.YtinnbafplhcnpaaGreat
open Go.RowKit
set_option linter.unusedVariables false
set_option maxRecDepth 100000

def kp_catalog_Is : List Nat := []
theorem sh_catalog_Is (n : Nat) (x0 x1 x2 x3 : D) (h : Heap) : textK Tryz.prog (T13m Tryz.prog) kp_catalog_Is n Tryz.f27 [x0, x1, x2, x3] h =
(thnH (boxH 3 x2 h) fun y0 h1 =>
thnH (boxH 3 x3 h1) fun y2 h3 =>
thnH (liftN F_Choices [x0, x1] h3) fun y4 h5 =>
thnH ((G_conD Tryz.prog) [y4, (.clo (.func 50) [] [y0, y2])] h5) fun y6 h7 =>
some (y6, h7)) := by kernel_rfl

def kp_offshootref13_Choices : List Nat := [0, 1, 5, 6, 7, 8]
theorem sh_offshootref13_Choices (n : Nat) (x0 x1 : D) (h : Heap) : textK Tryz.prog (T13m Tryz.prog) kp_offshootref13_Choices n Tryz.f33 [x0, x1] h =
(thnH (liftF F_RefEnd [x0, x1] h) fun y0 h1 =>
thn (binK .int .lss y0 (iD 0)) fun y2 =>
condK y2
(some ((.v (.slice none 0 0)), h1))
(thn (idxH 2 x0 x1) fun y3 =>
thn (loadH (some 2) h1 y3) fun y4 =>
thnH (liftF F_tries [y4] h1) fun y5 h6 =>
leaveK (loopF Tryz.prog (T13m Tryz.prog) kp_offshootref13_Choices n Tryz.f33 0 [x0, x1, (.v (.slice none 0 0)), y5, (iD 1), .undef] h6) (fun j7 s8 h9 =>
condN j7 0
(some ((s8.getD 2 .undef), h9))
(none)) (fun s8 h9 =>
some (.undef, h9)))) := by kernel_rfl

theorem st_offshootref13_Choices_0 (n : Nat) (s0 s1 s2 s3 s4 s5 : D) (h : Heap) : stepF Tryz.prog (T13m Tryz.prog) kp_offshootref13_Choices n Tryz.f33 0 [s0, s1, s2, s3, s4, s5] h =
(thn (binK .int .leq s4 (iD 7)) fun y0 =>
condK y0
(leaveK (loopF Tryz.prog (T13m Tryz.prog) kp_offshootref13_Choices n Tryz.f33 1 [s0, s1, s2, s3, s4, (iD 0)] h) (fun j1 s2 h3 =>
condN j1 2
(thn (binK .int .add (s2.getD 4 .undef) (iD 1)) fun y4 =>
some (.normal, [(s2.getD 0 .undef), (s2.getD 1 .undef), (s2.getD 2 .undef), (s2.getD 3 .undef), y4, (s2.getD 5 .undef)], h3))
(condN j1 1
(thn (binK .int .add (s2.getD 4 .undef) (iD 1)) fun y5 =>
some (.normal, [(s2.getD 0 .undef), (s2.getD 1 .undef), (s2.getD 2 .undef), (s2.getD 3 .undef), y5, (s2.getD 5 .undef)], h3))
(some ((.exit j1), [(s2.getD 0 .undef), (s2.getD 1 .undef), (s2.getD 2 .undef), (s2.getD 3 .undef), (s2.getD 4 .undef), (s2.getD 5 .undef)], h3)))) (fun s2 h3 =>
some (.ret, [(s2.getD 0 .undef), (s2.getD 1 .undef), (s2.getD 2 .undef), (s2.getD 3 .undef), (s2.getD 4 .undef), (s2.getD 5 .undef)], h3)))
(some ((.exit 0), [s0, s1, s2, s3, s4, s5], h))) := by kernel_rfl

theorem st_offshootref13_Choices_1 (n : Nat) (s0 s1 s2 s3 s4 s5 : D) (h : Heap) : stepF Tryz.prog (T13m Tryz.prog) kp_offshootref13_Choices n Tryz.f33 1 [s0, s1, s2, s3, s4, s5] h =
(thn (lenH .sl s3) fun y0 =>
thn (binK .int .lss s5 y0) fun y1 =>
condK y1
(thn (idxH 1 s3 s5) fun y2 =>
thn (loadH none h y2) fun y3 =>
thnH (liftF F_CRefIs [s0, s1, s4, y3] h) fun y4 h5 =>
condK y4
(thn (idxH 1 s3 s5) fun y6 =>
thn (loadH none h5 y6) fun y7 =>
thn (buildR [(0, 1), (1, 1), (2, 1)] [(.v (.slice none 0 0)), (iD 0), (iD 0)] [(1, s4), (2, y7)]) fun y8 =>
thnH (rowH 34 3 1 [(.v (.slice none 0 0)), (iD 0), (iD 0)] [(0, y8)] h5) fun y9 h10 =>
thnH (appendH 34 3 s2 y9 h10) fun y11 h12 =>
thn (binK .int .add s5 (iD 1)) fun y13 =>
some (.normal, [s0, s1, y11, s3, s4, y13], h12))
(thn (binK .int .add s5 (iD 1)) fun y14 =>
some (.normal, [s0, s1, s2, s3, s4, y14], h5)))
(some ((.exit 2), [s0, s1, s2, s3, s4, s5], h))) := by kernel_rfl

end Go.Proofs.YtinnbafplhcnpaaGreat
end

section
namespace Go.Proofs.YtinnbafplhcnpaaGreat
open Go.RowKit
set_option linter.unusedVariables false
set_option linter.unusedSimpArgs false
set_option maxRecDepth 100000

def F_CIs : List D → Option D := F4 nodesT intT intT intT fun l i op n => if l.length ≤ 3000000 then some (bD (decide (isC l i op n))) else none
theorem C_CIs : CallOk Tryz.prog 27 F_CIs := call4 (kp := kp_catalog_Is) T13m_ok mixed Tryz.func27 (by kernel_rfl) (by decide) fun l i op n d h => by
  split at h
  case isFalse => cases h
  rename_i hb
  cases h
  refine ⟨0, _, ?_, Imp.refl _⟩
  show outD (textK _ _ _ _ _ [nodesD l, iD i, iD op, iD n] []) = _
  rw [sh_catalog_Is]
  have b1 : boxH 3 (iD op) [] = some (.hp 0 0, [.cells 3 1 [iD op]]) := rfl
  have b2 : boxH 3 (iD n) [.cells 3 1 [iD op]] = some (.hp 1 0, [.cells 3 1 [iD op], .cells 3 1 [iD n]]) := rfl
  have hc := choices_pure l i hb [.cells 3 1 [iD op], .cells 3 1 [iD n]]
  have hs := choices_short l i
  obtain ⟨H', q⟩ := conD_ok (choicesD l i) op n 0 1 3 3 [.cells 3 1 [iD op], .cells 3 1 [iD n]] rfl rfl (by simp [choicesD]; omega)
  have q' : G_conD Tryz.prog [dlsD (choicesD l i), .clo (.func 50) [] [.hp 0 0, .hp 1 0]] [.cells 3 1 [iD op], .cells 3 1 [iD n]] = _ := q
  have hi : (∃ d ∈ choicesD l i, d.op = op ∧ d.n = n) ↔ isC l i op n := by
    rw [← choices_is]
    simp only [choicesD, List.mem_map]
    constructor
    · rintro ⟨d, ⟨e, he, rfl⟩, h1, h2⟩
      simp only [mkD] at h1 h2
      rw [← h1, ← h2]; exact he
    · intro h
      exact ⟨mkD (op, n), ⟨_, h, rfl⟩, rfl, rfl⟩
  have hd : decide (∃ d ∈ choicesD l i, d.op = op ∧ d.n = n) = decide (isC l i op n) := by
    rw [Bool.eq_iff_iff, decide_eq_true_eq, decide_eq_true_eq]; exact hi
  simp only [b1, b2, thnH_some, hc, q', hd]
  rfl
theorem cis_pure (l : List Nd) (i op n : Int) (h : l.length ≤ 3000000) (H : Heap) : liftF F_CIs [nodesD l, iD i, iD op, iD n] H = some (bD (decide (isC l i op n)), H) := by
  rw [liftF_pure _ _ _ rfl]
  have : F_CIs [nodesD l, iD i, iD op, iD n] = _ := f4_enc (A := nodesT) (B := intT) (C := intT) (E := intT) _ l i op n
  rw [this, if_pos h]; rfl

theorem mapM_outC (H : Heap) (n : Nat) (out : List (Int × Int)) : (outC out).mapM (derefN H n) = some (outC out) := by
  induction out with
  | nil => rfl
  | cons x r ih =>
    have e : outC (x :: r) = .v (.slice none 0 0) :: iD x.1 :: iD x.2 :: outC r := rfl
    rw [e, List.mapM_cons, List.mapM_cons, List.mapM_cons, derefN_pure H n _ rfl, derefN_pure H n _ rfl, derefN_pure H n _ rfl, ih]; rfl
theorem chunks_outC (out : List (Int × Int)) : chunks 3 out.length (outC out) = out.map fun e => [D.v (.slice none 0 0), iD e.1, iD e.2] := by
  induction out with
  | nil => rfl
  | cons x r ih =>
    have e : outC (x :: r) = .v (.slice none 0 0) :: iD x.1 :: iD x.2 :: outC r := rfl
    rw [e, List.length_cons, chunks, List.map_cons]
    simp only [List.take_succ_cons, List.take_zero, List.drop_succ_cons, List.drop_zero, ih]
theorem Buf.outs {e : TypeId} {H : Heap} {B : Nat} {d : D} {out : List (Int × Int)} (h : Buf e 3 H B d out.length (outC out)) (n : Nat) : ∃ d', derefN H (n + 1) d = some d' ∧ asDls d' = some (out.map mkD) := by
  rcases h with ⟨rfl, h1, _⟩ | ⟨r, h1, rfl, h3, h4⟩
  · have : out = [] := List.length_eq_zero_iff.1 h1
    subst this
    exact ⟨_, derefN_pure H (n + 1) _ rfl, rfl⟩
  · refine ⟨.sl 3 (out.map fun e => [D.v (.slice none 0 0), iD e.1, iD e.2]), ?_, ?_⟩
    · simp only [derefN, h3]
      rw [if_pos (by rw [outC_len]; omega), List.take_of_length_le (by rw [outC_len]; omega), mapM_outC, Option.map_some, chunks_outC]
    · show (out.map fun e => [D.v (.slice none 0 0), iD e.1, iD e.2]).mapM asDlC = _
      clear h3 h4 h1
      induction out with
      | nil => rfl
      | cons x r ih => rw [List.map_cons, List.mapM_cons, ih]; rfl
def partQ (x y : Nd) (op : Int) (j : Nat) : List (Int × Int) := (((triesV x).take j).filter fun n => decide (isN x y op n)).map fun n => (op, n)
theorem partQ_succ (x y : Nd) (op : Int) (j : Nat) (h : j < (triesV x).length) : partQ x y op (j + 1) = if isN x y op ((triesV x).getD j 0) then partQ x y op j ++ [(op, (triesV x).getD j 0)] else partQ x y op j := by
  unfold partQ
  rw [List.take_succ_eq_append_getElem h, List.filter_append, getD_in _ _ _ h]
  by_cases hp : isN x y op (triesV x)[j] <;> simp [hp]
theorem partQ_len (x y : Nd) (op : Int) (j : Nat) : (partQ x y op j).length ≤ j := by
  unfold partQ
  rw [List.length_map]
  refine Nat.le_trans (List.length_filter_le _ _) ?_
  rw [List.length_take]; omega
def opsQ : List Int := [1, 2, 3, 4, 5, 6, 7]
def headQ (x y : Nd) (j : Nat) : List (Int × Int) := (opsQ.take j).flatMap fun op => partQ x y op (triesV x).length
theorem headQ_succ (x y : Nd) (j : Nat) (h : j < 7) : headQ x y (j + 1) = headQ x y j ++ partQ x y (1 + (j : Int)) (triesV x).length := by
  unfold headQ
  have h' : j < opsQ.length := h
  rw [List.take_succ_eq_append_getElem h', List.flatMap_append]
  have e : opsQ[j] = 1 + (j : Int) := by
    have : j = 0 ∨ j = 1 ∨ j = 2 ∨ j = 3 ∨ j = 4 ∨ j = 5 ∨ j = 6 := by omega
    rcases this with rfl | rfl | rfl | rfl | rfl | rfl | rfl <;> rfl
  simp [e]
theorem headQ_all (x y : Nd) : headQ x y 7 = choiceQ x y := by
  unfold headQ choiceQ partQ
  rw [List.take_length]; rfl
theorem triesV_len (x : Nd) : (triesV x).length ≤ 18 := sortV_len _
theorem headQ_len (x y : Nd) : ∀ j, j ≤ 7 → (headQ x y j).length ≤ 18 * j
  | 0, _ => by simp [headQ]
  | j + 1, h => by
    have h1 := headQ_len x y j (by omega)
    rw [headQ_succ x y j (by omega), List.length_append]
    have := partQ_len x y (1 + (j : Int)) (triesV x).length
    have := triesV_len x
    omega
def F_RefChoices : List D → Option D := F2 nodesT intT fun l i => if l.length ≤ 3000000 then some (dlsD (choicesD l i)) else none
theorem C_RefChoices : CallOk Tryz.prog 33 F_RefChoices := call2 (kp := kp_offshootref13_Choices) T13m_ok mixed Tryz.func33 (by kernel_rfl) (by decide) fun l i d h => by
  split at h
  case isFalse => cases h
  rename_i hb
  cases h
  have hend := refEnd12_pure l i [] hb
  by_cases hE : endv l i < 0
  · have hn : choicesD l i = [] := by unfold choicesD choicesV; rw [if_pos hE]; rfl
    rw [hn]
    refine ⟨0, _, ?_, Imp.nil 3⟩
    show outD (textK _ _ _ _ _ [nodesD l, iD i] []) = _
    rw [sh_offshootref13_Choices]
    simp only [hend, thnH_some, binK_lss, hE, decide_true, thn_some, condK_bool, if_true]
    rfl
  have hE0 : 0 ≤ endv l i := by omega
  obtain ⟨k, rfl⟩ := Int.eq_ofNat_of_zero_le (endv_in l i hE0).1
  have hk := (at_ar hE0).choose
  have hx : nodeAt l k = l[k] := nodeAt_in l k hk
  have i0 := idx_nodesN l k hk
  rw [← hx] at i0
  have hC : ∀ op n, isC l k op n ↔ isN (nodeAt l k) (nodeAt l ((k : Int) + 1)) op n := fun op n => ⟨fun h => h.2, fun h => ⟨hE0, h⟩⟩
  have hq : choicesV l k = choiceQ (nodeAt l k) (nodeAt l ((k : Int) + 1)) := by
    rw [choiceQ_eq _ _ (fun h => bool_num hE0 h)]
    unfold choicesV
    rw [if_neg (by omega)]
  rw [show choicesD l k = (choiceQ (nodeAt l k) (nodeAt l ((k : Int) + 1))).map mkD from by unfold choicesD; rw [hq], ← headQ_all]
  generalize nodeAt l ((k : Int) + 1) = y at *
  generalize nodeAt l k = x at *
  have htl := triesV_len x
  have key := loopF_invS (P := Tryz.prog) (T := T13m Tryz.prog) (kp := kp_offshootref13_Choices) (fn := Tryz.f33) (li := 0)
    (fun j s H => ∃ d u, s = [nodesD l, iD k, d, intsD (triesV x), iD (1 + (j : Int)), u] ∧ Buf 34 3 H 0 d (headQ x y j).length (outC (headQ x y j)))
    (fun r => ∃ s H d, r = (.exit 0, s, H) ∧ s.getD 2 .undef = d ∧ Buf 34 3 H 0 d (headQ x y 7).length (outC (headQ x y 7))) 7 101
    (fun j s H hj hI => by
      obtain ⟨d, u, rfl, hd⟩ := hI
      have hle : (1 : Int) + (j : Int) ≤ 7 := by omega
      have e1 := intD_add ((1 : Int) + (j : Int)) 1 (by omega) (by omega)
      have c1 : (1 : Int) + (j : Int) + 1 = 1 + ((j + 1 : Nat) : Int) := by omega
      rw [c1] at e1
      have hhl := headQ_len x y j (by omega)
      have inner := loopF_invS (P := Tryz.prog) (T := T13m Tryz.prog) (kp := kp_offshootref13_Choices) (fn := Tryz.f33) (li := 1)
        (fun i s H => ∃ d, s = [nodesD l, iD k, d, intsD (triesV x), iD (1 + (j : Int)), iD i] ∧ Buf 34 3 H 0 d (headQ x y j ++ partQ x y (1 + (j : Int)) i).length (outC (headQ x y j ++ partQ x y (1 + (j : Int)) i)))
        (fun r => ∃ u H d, r = (.exit 2, [nodesD l, iD k, d, intsD (triesV x), iD (1 + (j : Int)), u], H) ∧ Buf 34 3 H 0 d (headQ x y (j + 1)).length (outC (headQ x y (j + 1)))) (triesV x).length 101
        (fun i s H hi hI => by
          obtain ⟨d, rfl, hd⟩ := hI
          have hlt : (i : Int) < ((triesV x).length : Int) := by omega
          have i1 := idx_intsN (triesV x) i hi
          have l1 : loadH none H (.ptr (oneI (triesV x)[i])) = some (iD ((triesV x).getD i 0)) := by rw [getD_in _ _ _ hi]; rfl
          have r1 := crefIs_pure l k (1 + (j : Int)) ((triesV x).getD i 0) hb H
          have e2 := intD_add (i : Int) 1 (by omega) (by omega)
          have c2 : (i : Int) + 1 = ((i + 1 : Nat) : Int) := by omega
          rw [c2] at e2
          have hps := partQ_succ x y (1 + (j : Int)) i hi
          have hpl := partQ_len x y (1 + (j : Int)) i
          by_cases hp : isN x y (1 + (j : Int)) ((triesV x).getD i 0)
          · rw [decide_eq_true ((hC _ _).2 hp)] at r1
            rw [if_pos hp] at hps
            obtain ⟨d', H', a1, a2, a3⟩ := app_one (new := [D.v (.slice none 0 0), iD (1 + (j : Int)), iD ((triesV x).getD i 0)]) hd (by omega) rfl rfl (by rw [outC_len]; simp; omega) (Nat.zero_le _)
            refine ⟨[nodesD l, iD k, d', intsD (triesV x), iD (1 + (j : Int)), iD ((i + 1 : Nat) : Int)], H', ?_, d', rfl, ?_⟩
            · rw [st_offshootref13_Choices_1]
              simp only [lenH_ints, thn_some, binK_lss, hlt, decide_true, condK_bool, if_true, i1, l1, r1, thnH_some, build_del, row_del, a1, binK_int, e2]
            · rw [hps, ← List.append_assoc, outC_app _ [_], List.length_append]; exact a2
          · rw [decide_eq_false (fun h => hp ((hC _ _).1 h))] at r1
            rw [if_neg hp] at hps
            refine ⟨[nodesD l, iD k, d, intsD (triesV x), iD (1 + (j : Int)), iD ((i + 1 : Nat) : Int)], H, ?_, d, rfl, by rw [hps]; exact hd⟩
            rw [st_offshootref13_Choices_1]
            simp only [lenH_ints, thn_some, binK_lss, hlt, decide_true, condK_bool, if_true, i1, l1, r1, thnH_some, Bool.false_eq_true, if_false, binK_int, e2])
        (fun s H hI => by
          obtain ⟨d, rfl, hd⟩ := hI
          rw [← headQ_succ x y j hj] at hd
          refine ⟨(.exit 2, [nodesD l, iD k, d, intsD (triesV x), iD (1 + (j : Int)), iD ((triesV x).length : Int)], H), ?_, (by intro e; cases e), _, H, d, rfl, hd⟩
          rw [st_offshootref13_Choices_1]
          have hlt : ¬ (((triesV x).length : Int) < ((triesV x).length : Int)) := by omega
          simp only [lenH_ints, thn_some, binK_lss, hlt, decide_false, condK_bool, Bool.false_eq_true, if_false])
        (by omega) (s := [nodesD l, iD k, d, intsD (triesV x), iD (1 + (j : Int)), iD 0]) (H := H) ⟨d, rfl, by simpa [partQ] using hd⟩
      obtain ⟨r, k1, u', H', d', rfl, hd'⟩ := inner
      refine ⟨[nodesD l, iD k, d', intsD (triesV x), iD (1 + ((j + 1 : Nat) : Int)), u'], H', ?_, d', u', rfl, hd'⟩
      rw [st_offshootref13_Choices_0]
      simp only [binK_leq, hle, decide_true, thn_some, condK_bool, if_true, k1, leaveK_exit, condN_same, List.getD_cons_zero, List.getD_cons_succ, binK_int, e1])
    (fun s H hI => by
      obtain ⟨d, u, rfl, hd⟩ := hI
      refine ⟨(.exit 0, [nodesD l, iD k, d, intsD (triesV x), iD (1 + ((7 : Nat) : Int)), u], H), ?_, (by intro e; cases e), _, H, d, rfl, rfl, hd⟩
      rw [st_offshootref13_Choices_0]
      have hle : ¬ ((1 : Int) + ((7 : Nat) : Int) ≤ 7) := by omega
      simp only [binK_leq, hle, decide_false, thn_some, condK_bool, Bool.false_eq_true, if_false])
    (by omega) (s := [nodesD l, iD k, .v (.slice none 0 0), intsD (triesV x), iD 1, .undef]) (H := []) ⟨.v (.slice none 0 0), .undef, rfl, Buf.nil _ _ _ _⟩
  obtain ⟨r, k1, s, H', d', rfl, k2, hd⟩ := key
  obtain ⟨d2, z1, z2⟩ := hd.outs 8
  refine ⟨101, d2, ?_, imp_dls z2⟩
  show outD (textK _ _ _ _ _ [nodesD l, iD k] []) = _
  rw [sh_offshootref13_Choices]
  have lp : ∀ H z, loadH (some 2) H (.ptr (nodeD z)) = some (.agg (nodeD z)) := fun _ _ => rfl
  have ht := tries_pure x []
  simp only [hend, thnH_some, binK_lss, hE, decide_false, thn_some, condK_bool, Bool.false_eq_true, if_false, i0, lp, ht, k1, leaveK_exit, condN_same, k2]
  exact z1
theorem refChoices_pure (l : List Nd) (i : Int) (h : l.length ≤ 3000000) (H : Heap) : liftF F_RefChoices [nodesD l, iD i] H = some (dlsD (choicesD l i), H) := by
  rw [liftF_pure _ _ _ rfl]
  have : F_RefChoices [nodesD l, iD i] = _ := f2_enc (A := nodesT) (B := intT) _ l i
  rw [this, if_pos h]; rfl
def fs13n (P : Program) : List Entry := (27, true, liftF F_CIs) :: (33, true, liftF F_RefChoices) :: (42, true, liftN F_Part) :: fs13m P
theorem fs13n_ok : ∀ p ∈ fs13n Tryz.prog, EntryOk Tryz.prog p := entries_cons (entry_lift C_CIs) <| entries_cons (entry_lift C_RefChoices) <| entries_cons (entry_new N_Part) <| fs13m_ok
end Go.Proofs.YtinnbafplhcnpaaGreat
end

section
namespace Go.Proofs.YtinnbafplhcnpaaGreat
open Go.RowKit Go.Shelf
attribute [local go_sem] Oper.semAt_some

theorem ofv_all (l : List Nd) (i : Int) (h : endv l 0 = l.length) (xs : List Step) (hx : xs.map stepOf = pathsV (l.length + 1) l 0 []) (hn : ∀ x ∈ xs, x.1 ≠ i) : ofv l i = none := by
  rw [ofv, if_pos h, ← hx, Option.map_eq_none_iff, List.find?_eq_none]
  intro y hy
  obtain ⟨x, hx, rfl⟩ := List.mem_map.1 hy
  simpa [stepOf] using hn x hx
theorem ofv_some (l : List Nd) (i : Int) (h : endv l 0 = l.length) (pre : List Step) (x : Step) (hx : (pre ++ [x]).map stepOf <+: pathsV (l.length + 1) l 0 []) (hn : ∀ x ∈ pre, x.1 ≠ i) (hi : x.1 = i) : ofv l i = some x.2.2 := by
  obtain ⟨r, hr⟩ := hx
  rw [ofv, if_pos h, ← hr, List.map_append, List.append_assoc, List.find?_append]
  have h0 : (pre.map stepOf).find? (fun x => x.1 == i) = none := by
    rw [List.find?_eq_none]
    intro y hy
    obtain ⟨x, hx, rfl⟩ := List.mem_map.1 hy
    simpa [stepOf] using hn x hx
  rw [h0]
  simp [stepOf, hi]

theorem results_two_cells {fn : Func} {p q : Tmp} {tp tq : TypeId} (h : fn.results = #[.cell p tp, .cell q tq]) (tmps : Array Value) (P : Program) (w : World) {a b : Addr} {v u : Value}
    (hp : tmps.getD p undef = .pointer (some a)) (hq : tmps.getD q undef = .pointer (some b)) (hv : (loadVar tp a).run P w = .ok v w) (hu : (loadVar tq b).run P w = .ok u w) : (results fn tmps).run P w = .ok (.tuple #[v, u]) w := by
  rw [Array.getD_eq_getD_getElem?] at hp hq
  simp only [results, h]
  simp [Sem.run_bind, Result.andThen, hp, hq, asAddr, hv, hu]
theorem load_sliceVar (w : World) (b : Nat) (v : Value) (h : Boxed w b 22 v) : (loadVar 22 ⟨b, 0, none⟩).run Tryz.prog w = .ok v w := by
  have hc := h.cell
  simp [loadVar, go_sem, hc]
theorem load_boolVar (w : World) (b : Nat) (v : Value) (h : Boxed w b 4 v) : (loadVar 4 ⟨b, 0, none⟩).run Tryz.prog w = .ok v w := by
  have hc := h.cell
  simp [loadVar, go_sem, hc]

/-- What is looked away from: two boxes, and what is no argument's. -/
def OfX (S : Nat → Prop) (s : Nat) (k : Nat) : Prop := k = s + 1 ∨ k = s + 1 + 1 ∨ (k < s ∧ ¬ S k)
theorem ofX_lt {S : Nat → Prop} {s k : Nat} (h : OfX S s k) : k < s + 3 := by unfold OfX at h; omega
theorem ofX_no {S : Nat → Prop} {s k : Nat} (h : s + 3 ≤ k) : ¬ OfX S s k := fun q => by have := ofX_lt q; omega
theorem ofX_arg {S : Nat → Prop} {s k : Nat} (h : S k) (hk : k < s) : ¬ OfX S s k := by
  rintro (q | q | ⟨_, q⟩)
  · omega
  · omega
  · exact q h
theorem ofX_out {S : Nat → Prop} {s n k : Nat} (h : ¬ OfX S s k ∧ k < n) : S k ∨ (s ≤ k ∧ k < n) := by
  by_cases hk : k < s
  · by_cases hs : S k
    · exact .inl hs
    · exact absurd (.inr (.inr ⟨hk, hs⟩)) h.1
  · exact .inr ⟨by omega, h.2⟩

set_option maxRecDepth 100000 in
set_option maxHeartbeats 4000000 in
theorem Of_in (l : List Nd) (i : Int) (v : Value) (w : World) (S : Nat → Prop) (hS : ∀ k, S k → k < w.heap.size) (hv : NodesIn S w v l) (hl : l.length ≤ 3000000) :
    Calls Tryz.prog 21 #[v, .int .i64 i] w fun e w' => ∃ u, e = .returned (.tuple #[u, .bool (ofv l i).isSome]) ∧ IntsIn (fun k => S k ∨ (w.heap.size ≤ k ∧ k < w'.heap.size)) w' u ((ofv l i).getD []) ∧ Below w.heap.size w w' := by
  refine (callsIn_wide (n := 0)).1 ?_
  refine callsIn_of_wp_marks Tryz.func21 rfl trivial ?_ rfl
  simp only [Tryz.ntmps21, List.size_toArray, List.length_cons, List.length_nil, Nat.reduceAdd, Nat.reduceSub, Array.replicate_succ, Array.replicate_zero, List.push_toArray, List.append_toArray, List.nil_append, List.cons_append]
  have hvA : NodesAt w v l := hv.mono hS
  have hls := NodesIn.isSlice hv
  have hlen : l.length ≤ 4000000 := by omega
  obtain ⟨W0, hW0⟩ : ∃ W0, ((w.alloc (.cells #[.int .i64 i] 3)).alloc (.cells #[.slice none 0 0] 22)).alloc (.cells #[.bool false] 4) = W0 := ⟨_, rfl⟩
  have b1 : Boxed W0 w.heap.size 3 (.int .i64 i) := by rw [← hW0]; exact ((Boxed.new _ _ _).alloc _).alloc _
  have b2 : Boxed W0 (w.heap.size + 1) 22 (.slice none 0 0) := by rw [← hW0]; have := Boxed.new (w.alloc (.cells #[.int .i64 i] 3)) 22 (.slice none 0 0); rw [World.size_alloc] at this; exact this.alloc _
  have b3 : Boxed W0 (w.heap.size + 1 + 1) 4 (.bool false) := by rw [← hW0]; have := Boxed.new ((w.alloc (.cells #[.int .i64 i] 3)).alloc (.cells #[.slice none 0 0] 22)) 4 (.bool false); rwa [World.size_alloc, World.size_alloc] at this
  have hB0 : Below w.heap.size w W0 := by rw [← hW0]; exact (((Below.refl _ w).alloc (Nat.le_refl _) _).alloc (by simp) _).alloc (by simp; omega) _
  have hv0 : NodesAt W0 v l := NodesIn.below hvA hB0
  have HW := Lib.hid hW0
  clear hW0
  have hc1 := b1.cell
  by_cases hE : endv l 0 = l.length
  · have hE' : (endv l 0 != (l.length : Int)) = false := by simp [hE]
    have hEH := Lib.hid hE
    clear hE
    obtain ⟨pv, cv, hvs⟩ := NodesIn.slice hv
    subst hvs
    gi_wp2_with (fail)
    rw [HW.out]
    refine (callsIn_wide.2 (End_any l _ _ _ hv0 hlen)).mono ?_
    rintro e w1 ⟨rfl, hb1⟩
    have hB1 : Below w.heap.size w w1 := hB0.trans (hb1.mono hB0.size)
    have hz0 : w.heap.size + 2 < W0.heap.size := b3.lt
    have c1 := (hb1.cell (p := ⟨w.heap.size, 0, none⟩) (by show w.heap.size < _; omega)).trans b1.cell
    have hk1 := kept_below hb1
    have b1' : Boxed w1 w.heap.size 3 (.int .i64 i) := (hb1.block _ (by omega)).trans b1
    have b2' : Boxed w1 (w.heap.size + 1) 22 (.slice none 0 0) := (hb1.block _ (by omega)).trans b2
    have b3' : Boxed w1 (w.heap.size + 1 + 1) 4 (.bool false) := (hb1.block _ (by omega)).trans b3
    gi_wp2_with (gi_at_call 45; refine (callsIn_wide.2 (paths_any _ _ _ hls ⟨none, 0, 0, rfl⟩ _)).mono ?_; rintro e w2 ⟨rfl, rfl⟩)
    obtain ⟨w2, hw2⟩ : ∃ w2, ((w1.alloc (.cells #[.slice pv l.length cv] 23)).alloc (.cells #[.int .i64 0] 3)).alloc (.cells #[.slice none 0 0] 22) = w2 := ⟨_, rfl⟩
    rw [hw2]
    have hsz1 := hb1.size
    obtain ⟨q1, q2, q3⟩ := cells_three w1 (.slice pv l.length cv) (.int .i64 0) (.slice none 0 0) 23 3 22
    rw [hw2] at q1 q2 q3
    have hb2 : Below w1.heap.size w1 w2 := by rw [← hw2]; exact (((Below.refl _ w1).alloc (Nat.le_refl _) _).alloc (by simp) _).alloc (by simp; omega) _
    have hz2 : w2.heap.size = w1.heap.size + 3 := by rw [← hw2]; simp
    have hB2 : Below w.heap.size w w2 := hB1.trans (hb2.mono hB1.size)
    clear hw2
    have d1 : Boxed w2 w.heap.size 3 (.int .i64 i) := (hb2.block _ (by omega)).trans b1'
    have d2 : Boxed w2 (w.heap.size + 1) 22 (.slice none 0 0) := (hb2.block _ (by omega)).trans b2'
    have d3 : Boxed w2 (w.heap.size + 1 + 1) 4 (.bool false) := (hb2.block _ (by omega)).trans b3'
    have hXv : NodesIn (fun k => ¬ OfX S w.heap.size k ∧ k < w2.heap.size) w2 (.slice pv l.length cv) l := (NodesIn.kept hv (kept_of hB2 hS)).mono (fun k hk => ⟨ofX_arg hk (hS k hk), by have := hS k hk; omega⟩)
    refine range_rule (gf := 88) (lb := #[.pointer (some ⟨w1.heap.size + 1, 0, none⟩), .pointer (some ⟨w1.heap.size + 1 + 1, 0, none⟩), .pointer (some ⟨w1.heap.size, 0, none⟩)]) rfl (enters_of Tryz.func88 (by kernel_rfl) rfl)
      (encs := stepVals) (G := StepIn (OfX S w.heap.size)) (Kp := KeptBut (OfX S w.heap.size) (w2.heap.size + 2)) (N := (pathsV (l.length + 1) l 0 []).length) (R := stepsR (pathsV (l.length + 1) l 0 [])) (fun _ => rfl)
      (fun W' hb' hs' => by
        have hkW : KeptBut (OfX S w.heap.size) w2.heap.size w2 W' := keptBut_below hb'
        have := paths_iter l (.slice pv l.length cv) hlen (OfX S w.heap.size) (l.length + 1) 0 [] (.slice none 0 0) w1.heap.size (w1.heap.size + 1) (w1.heap.size + 1 + 1) W' (by omega) (by omega) (by omega) (by simp; omega) (fun k hk => by have := ofX_lt hk; omega)
          (ofX_no (by omega)) (ofX_no (by omega)) (ofX_no (by omega)) (hkW.cell (p := ⟨w1.heap.size, 0, none⟩) (ofX_no (by show _ ≤ w1.heap.size; omega)) q1) (hkW.cell (p := ⟨w1.heap.size + 1, 0, none⟩) (ofX_no (by show _ ≤ w1.heap.size + 1; omega)) q2) (hkW.cell (p := ⟨w1.heap.size + 1 + 1, 0, none⟩) (ofX_no (by show _ ≤ w1.heap.size + 1 + 1; omega)) q3)
          (SliceIn.keptBut hXv hkW) (.inl ⟨none, 0, rfl, rfl, rfl, fun _ => rfl⟩)
        rwa [hs'] at this)
      (fun h h' => h.trans h') (fun U q o o' h1 h2 h3 h4 _ => keptBut_putObj U q o o' h2 h3 h4)
      (fun pre U => (∀ x, x ∈ pre → x.1 ≠ i) ∧ Below w.heap.size w U ∧ Boxed U w.heap.size 3 (.int .i64 i) ∧ Boxed U (w.heap.size + 1) 22 (.slice none 0 0) ∧ Boxed U (w.heap.size + 1 + 1) 4 (.bool false))
      (fun cc pre U => cc = .ret ∧ Below w.heap.size w U ∧ ∃ (pre0 : List Step) (x : Step), pre = pre0 ++ [x] ∧ (∀ x, x ∈ pre0 → x.1 ≠ i) ∧ x.1 = i ∧ Boxed U (w.heap.size + 1) 22 x.2.1 ∧ Boxed U (w.heap.size + 1 + 1) 4 (.bool true) ∧ StepIn (OfX S w.heap.size) x U)
      ?hI ?hIx ?hG ?h0
      (fun x => { tmps := #[.slice pv l.length cv, .int .i64 i, undef, .pointer (some ⟨w.heap.size, 0, none⟩), .pointer (some ⟨w.heap.size + 1, 0, none⟩), .pointer (some ⟨w.heap.size + 1 + 1, 0, none⟩), .int .i64 x.1, x.2.1, .slice pv l.length cv, .int .i64 (endv l 0), .slice pv l.length cv, .int .i64 l.length, .bool false, .slice pv l.length cv, .func (.func 88) #[] #[.pointer (some ⟨w1.heap.size + 1, 0, none⟩), .pointer (some ⟨w1.heap.size + 1 + 1, 0, none⟩), .pointer (some ⟨w1.heap.size, 0, none⟩)], .int .i64 x.1, x.2.1, undef, undef, undef, undef], defers := [] }) ?assign ?body ?done ?stop
    case hI =>
      exact OwnFrom.and (ownFrom_pure _ _) (OwnFrom.and (ownFrom_below (Nat.le_refl _) (by omega)) (OwnFrom.and (Own.from (boxed_own _ _ _) _) (OwnFrom.and (Own.from (boxed_own _ _ _) _) (Own.from (boxed_own _ _ _) _))))
    case hIx =>
      intro cc
      refine OwnFrom.and (ownFrom_pure _ _) (OwnFrom.and (ownFrom_below (Nat.le_refl _) (by omega)) ?_)
      rintro pre A C row ⟨pre0, x, h1, h2, h3, h4, h5, h6⟩ hg hr
      exact ⟨pre0, x, h1, h2, h3, (Own.from (boxed_own _ _ (fun _ : Unit => x.2.1)) _) () A C row h4 hg hr, (Own.from (boxed_own _ _ (fun _ : Unit => Value.bool true)) _) () A C row h5 hg hr, ownFrom_slice () A C row h6 hg hr⟩
    case hG => exact fun x => ownFrom_slice
    case h0 => exact ⟨(fun _ h => by cases h), hB2, d1, d2, d3⟩
    case assign =>
      intro lq x U K hK
      dsimp only [stepVals]
      gi_wp2
      exact hK
    case body =>
      rintro lq pre ⟨xi, xv, xp⟩ U ⟨hn, hBU, e1, e2, e3⟩ hgx hlenN
      obtain ⟨px, cx, hxs⟩ := IntsIn.slice hgx
      dsimp only at hxs
      subst hxs
      have g1 := e1.cell
      by_cases hxi : xi = i
      · have hxb : (xi == i) = true := by simp [hxi]
        have HX := Lib.hid hxi
        clear hxi
        have g2 := e2.cell
        have g3 := e3.cell
        have f2 := e2.frozen
        have f3 := e3.frozen
        gi_wp2
        have k1 : KeptBut (OfX S w.heap.size) (w2.heap.size + 2) U (U.setCell ⟨w.heap.size + 1, 0, none⟩ (.slice px xp.length cx)) := keptBut_setCell U (.inl rfl) _
        have k2 : KeptBut (OfX S w.heap.size) (w2.heap.size + 2) U ((U.setCell ⟨w.heap.size + 1, 0, none⟩ (.slice px xp.length cx)).setCell ⟨w.heap.size + 1 + 1, 0, none⟩ (.bool true)) := k1.trans (keptBut_setCell _ (.inr (.inl rfl)) _)
        refine ⟨((KeepsOthers.setCell _ _ _).trans (KeepsOthers.setCell _ _ _)).from _, k2, rfl, (hBU.setCell (p := ⟨w.heap.size + 1, 0, none⟩) (by show _ ≤ w.heap.size + 1; omega) _).setCell (p := ⟨w.heap.size + 1 + 1, 0, none⟩) (by show _ ≤ w.heap.size + 1 + 1; omega) _, pre, (xi, .slice px xp.length cx, xp), rfl, hn, HX.out, ?_, ?_, SliceIn.keptBut hgx k2⟩
        · exact (e2.set _).other (by omega) _
        · exact (e3.other (by omega) _).set _
      · have hxb : (xi == i) = false := by simp [hxi]
        gi_wp2
        refine ⟨KeepsFrom.refl _ _, KeptBut.refl _ _ _, fun y hy => ?_, hBU, e1, e2, e3⟩
        rcases List.mem_append.1 hy with hy | hy
        · exact hn y hy
        · obtain rfl : y = (xi, .slice px xp.length cx, xp) := by simpa using hy
          exact hxi
    case done =>
      rintro D ys U hD hR ⟨hn, hBU, e1, e2, e3⟩ hK
      have g2 := e2.cell
      have g3 := e3.cell
      have f2 := e2.frozen
      have f3 := e3.frozen
      gi_wp2
      have hs1 := (e2.set (.slice none 0 0)).other (B' := w.heap.size + 1 + 1) (by omega) (.bool false)
      have hs2 := (e3.other (B' := w.heap.size + 1) (by omega) (.slice none 0 0)).set (.bool false)
      have hK' := ((KeepsOthers.setCell U ⟨w.heap.size + 1, 0, none⟩ (.slice none 0 0)).trans (KeepsOthers.setCell _ ⟨w.heap.size + 1 + 1, 0, none⟩ (.bool false))).same D _ hK rfl
      refine ⟨by simp, .inl ⟨_, _, rfl, run_takeDeferred hK', ?_⟩⟩
      have HO : ofv l i = none := ofv_all l i hEH.out ys (by simpa [stepsR] using hR) hn
      have hBs := (hBU.setCell (p := ⟨w.heap.size + 1, 0, none⟩) (by show _ ≤ w.heap.size + 1; omega) (.slice none 0 0)).setCell (p := ⟨w.heap.size + 1 + 1, 0, none⟩) (by show _ ≤ w.heap.size + 1 + 1; omega) (.bool false)
      exact ⟨_, results_two_cells rfl _ _ _ rfl rfl (load_sliceVar _ _ _ (boxed_putObj hs1 _ (by omega))) (load_boolVar _ _ _ (boxed_putObj hs2 _ (by omega))), .slice none 0 0, by rw [HO]; rfl, by rw [HO]; exact .inl ⟨none, 0, rfl, rfl, rfl, fun _ => rfl⟩,
        hBs.trans (belowK_b (w := w) (Nat.le_refl _) _ D _ _ (by omega) hK' rfl rfl)⟩
    case stop =>
      rintro D cc ys U hD hR ⟨rfl, hBU, pre0, x, h1, h2, h3, h4, h5, h6⟩ hK
      gi_wp2
      refine ⟨by simp, .inl ⟨_, _, rfl, run_takeDeferred hK, ?_⟩⟩
      have HO : ofv l i = some x.2.2 := ofv_some l i hEH.out pre0 x (by rw [← h1]; simpa [stepsR] using hR) h2 h3
      have h6' : StepIn (OfX S w.heap.size) x (U.putObj D (.deferred none)) := ownFrom_slice (B := w.heap.size) () U _ (some D) h6 (grownBy_putObj' U D _) (fun r e => by cases e; exact ⟨by omega, _, hK, rfl⟩)
      exact ⟨_, results_two_cells rfl _ _ _ rfl rfl (load_sliceVar _ _ _ (boxed_putObj h4 _ (by omega))) (load_boolVar _ _ _ (boxed_putObj h5 _ (by omega))), x.2.1, by rw [HO]; rfl, by rw [HO]; exact IntsIn.mono h6' (fun k hk => ofX_out hk),
        hBU.trans (belowK_b (w := w) (Nat.le_refl _) U D _ _ (by omega) hK rfl rfl)⟩
  · have hE' : (endv l 0 != (l.length : Int)) = true := by simp [hE]
    have HO := Lib.hid (ofv_no l i hE)
    clear hE
    obtain ⟨pv, cv, hvs⟩ := NodesIn.slice hv
    subst hvs
    gi_wp2_with (fail)
    rw [HW.out]
    refine (callsIn_wide.2 (End_any l _ _ _ hv0 hlen)).mono ?_
    rintro e w1 ⟨rfl, hb1⟩
    have hB1 : Below w.heap.size w w1 := hB0.trans (hb1.mono hB0.size)
    have hz0 : w.heap.size + 2 < W0.heap.size := b3.lt
    have b2' : Boxed w1 (w.heap.size + 1) 22 (.slice none 0 0) := (hb1.block _ (by omega)).trans b2
    have b3' : Boxed w1 (w.heap.size + 1 + 1) 4 (.bool false) := (hb1.block _ (by omega)).trans b3
    have c2 := b2'.cell
    have c3 := b3'.cell
    have f2 := b2'.frozen
    have f3 := b3'.frozen
    gi_wp2_with (fail)
    have hs1 := (b2'.set (.slice none 0 0)).other (B' := w.heap.size + 1 + 1) (by omega) (.bool false)
    have hs2 := (b3'.other (B' := w.heap.size + 1) (by omega) (.slice none 0 0)).set (.bool false)
    exact ⟨_, results_two_cells rfl _ _ _ rfl rfl (load_sliceVar _ _ _ hs1) (load_boolVar _ _ _ hs2), .slice none 0 0, by rw [HO.out]; rfl, by rw [HO.out]; exact .inl ⟨none, 0, rfl, rfl, rfl, fun _ => rfl⟩,
      (hB1.setCell (p := ⟨w.heap.size + 1, 0, none⟩) (by show _ ≤ w.heap.size + 1; omega) _).setCell (p := ⟨w.heap.size + 1 + 1, 0, none⟩) (by show _ ≤ w.heap.size + 1 + 1; omega) _⟩
end Go.Proofs.YtinnbafplhcnpaaGreat
end

section
namespace Go.Proofs.YtinnbafplhcnpaaGreat
open Go.RowKit

/-- Among the kids of the nodes from i on, fewer than n of them looked at: which one is at? -/
def upV (l : List Nd) (t : Int) : Nat → Nat → Int × Int
  | 0, _ => (-1, 0)
  | n + 1, i => match (kidsv l i).findIdx? (· == t) with | some k => ((i : Int), (k : Int)) | none => upV l t n (i + 1)

theorem upV_hit (l : List Nd) (t : Int) (n i k : Nat) (hk : k < (kidsv l i).length) (h : (kidsv l i)[k] = t) (hn : ∀ j, (hj : j < k) → (kidsv l i)[j]'(by omega) ≠ t) : upV l t (n + 1) i = ((i : Int), (k : Int)) := by
  have : (kidsv l i).findIdx? (· == t) = some k := by
    rw [List.findIdx?_eq_some_iff_getElem]
    exact ⟨hk, by simpa using h, fun j hj => by simpa using hn j hj⟩
  rw [upV, this]
theorem upV_miss (l : List Nd) (t : Int) (n i : Nat) (hn : ∀ j, (hj : j < (kidsv l i).length) → (kidsv l i)[j] ≠ t) : upV l t (n + 1) i = upV l t n (i + 1) := by
  have : (kidsv l i).findIdx? (· == t) = none := by
    rw [List.findIdx?_eq_none_iff]
    intro x hx
    obtain ⟨j, hj, rfl⟩ := List.getElem_of_mem hx
    simpa using hn j hj
  rw [upV, this]

set_option maxHeartbeats 4000000 in
theorem up_any (l : List Nd) (t : Nat) (v : Value) (w : World) (hv : NodesAt w v l) (hl : l.length ≤ 4000000) (ht : t ≤ 4000000) :
    Calls Tryz.prog 61 #[v, .int .i64 t] w fun e w' => e = .returned (.tuple #[.int .i64 (upV l t t 0).1, .int .i64 (upV l t t 0).2]) ∧ Below w.heap.size w w' := by
  obtain ⟨pv, cv, hvs⟩ := hv.slice
  subst hvs
  go_enter Tryz.func61, Tryz.ntmps61
  go_wp2
  go_loopw [6] (fun i wr => ∃ k : Nat, i = .int .i64 k ∧ k ≤ t ∧ Hid (upV l t t 0 = upV l t (t - k) k) ∧ Below w.heap.size w wr) (fun i _ => t - (intOf i).toNat)
  case atStart => exact ⟨0, rfl, Nat.zero_le _, Lib.hid rfl, Below.refl _ _⟩
  case round =>
    obtain ⟨k, rfl, hk, hu, hB⟩ := hrel
    have hsz := hB.size
    by_cases hlt : k < t
    · have hvr := NodesIn.below hv hB
      have hkl := kidsv_len l k
      go_wp2_with (go_at_call 99; refine (refKids_any l _ _ _ hvr hl).mono ?_; rintro e w2 ⟨q, rfl, hq, hb2⟩; obtain ⟨pq, cq, hqs⟩ := hq.slice; subst hqs)
      obtain ⟨wo, rfl⟩ : ∃ wo : World, wo = wr := ⟨_, rfl⟩
      go_loopw [8] (fun c wi => ∃ j : Nat, c = .int .i64 j ∧ j ≤ (kidsv l k).length ∧ Hid (∀ i, (hi : i < j) → ∀ (h : i < (kidsv l k).length), (kidsv l k)[i] ≠ t) ∧ wi = w2) (fun c _ => (kidsv l k).length - (intOf c).toNat)
      case atStart => exact ⟨0, rfl, Nat.zero_le _, Lib.hid (fun i hi => by omega), rfl⟩
      case round =>
        obtain ⟨j, rfl, hj, hno, rfl⟩ := hrel
        by_cases hlj : j < (kidsv l k).length
        · rcases hq.open with ⟨h0, _⟩ | ⟨bq, oq, cq', hqs, hqp, hqc, hqb, hqx⟩
          · exfalso; rw [h0] at hlj; simp at hlj
          obtain ⟨rfl, rfl⟩ : pq = some ⟨bq, oq, none⟩ ∧ cq = cq' := by simpa using hqs
          have gq := hqx j hlj
          clear hqx hqs
          by_cases he : (kidsv l k)[j] = t
          · have heb : ((kidsv l k)[j] == (t : Int)) = true := by simp [he]
            have HE := Lib.hid he
            clear he
            go_wp2
            go_ret2
            exact ⟨pair_eq (by rw [hu.out, show t - k = (t - k - 1) + 1 from by omega, upV_hit l t (t - k - 1) k j hlj HE.out (fun i hi => hno.out i hi (by omega))]), hB.trans (hb2.mono hsz)⟩
          · have heb : ((kidsv l k)[j] == (t : Int)) = false := by simp [he]
            have HE := Lib.hid he
            clear he
            go_wp2
            go_round
            case rel =>
              refine ⟨j + 1, by go_num, by omega, Lib.hid (fun i hi h => ?_), trivial⟩
              by_cases hij : i = j
              · subst hij; exact HE.out
              · exact hno.out i (by omega) h
            case measure => simp [intOf]; omega
        · go_wp2
          go_round
          case rel => exact ⟨k + 1, by go_num, by omega, Lib.hid (by rw [hu.out, show t - k = (t - (k + 1)) + 1 from by omega, upV_miss l t (t - (k + 1)) k (fun i hi => hno.out i (by omega) hi)]), hB.trans (hb2.mono hsz)⟩
          case measure => simp [intOf]; omega
    · go_wp2
      go_ret2
      exact ⟨pair_eq (by rw [hu.out, show t - k = 0 from by omega]; rfl), hB⟩
end Go.Proofs.YtinnbafplhcnpaaGreat
end

section
namespace Go.Proofs.YtinnbafplhcnpaaGreat
open Go.RowKit

/-- Up from the node at i, at most f times. -/
def climb (l : List Nd) : Nat → Int → Option (List Int)
  | 0, _ => none
  | f + 1, i => if endv l 0 = l.length ∧ 0 ≤ i ∧ i < l.length then (if i = 0 then some [] else (climb l f (upV l i i.toNat 0).1).map (· ++ [(upV l i i.toNat 0).2])) else none
theorem upV_lt (l : List Nd) (t : Int) : ∀ (n i : Nat), (upV l t n i).1 < i + n ∧ -1 ≤ (upV l t n i).1
  | 0, i => by simp only [upV]; omega
  | n + 1, i => by
    have := upV_lt l t n (i + 1)
    rw [upV]
    split
    · simp only []; omega
    · omega
theorem climb_no (l : List Nd) (f : Nat) (i : Int) (h : ¬ (endv l 0 = l.length ∧ 0 ≤ i ∧ i < l.length)) : climb l f i = none := by
  cases f with
  | zero => rfl
  | succ f => rw [climb, if_neg h]
theorem climb_root (l : List Nd) (f : Nat) (h : endv l 0 = l.length ∧ (0 : Int) ≤ 0 ∧ (0 : Int) < l.length) : climb l (f + 1) 0 = some [] := by rw [climb, if_pos h, if_pos rfl]
theorem climb_step (l : List Nd) (f : Nat) (i : Int) (h : endv l 0 = l.length ∧ 0 ≤ i ∧ i < l.length) (h0 : i ≠ 0) : climb l (f + 1) i = (climb l f (upV l i i.toNat 0).1).map (· ++ [(upV l i i.toNat 0).2]) := by rw [climb, if_pos h, if_neg h0]
set_option maxRecDepth 100000
set_option maxHeartbeats 1000000 in
theorem refOf_no (l : List Nd) (v : Value) (hl : l.length ≤ 4000000) (i : Int) (w : World) (hv : NodesAt w v l) (h : ¬ (endv l 0 = l.length ∧ 0 ≤ i ∧ i < l.length)) :
    Calls Tryz.prog 32 #[v, .int .i64 i] w fun e w' => e = .returned (.tuple #[.slice none 0 0, .bool false]) ∧ Below w.heap.size w w' := by
  obtain ⟨pv, cv, hvs⟩ := hv.slice
  subst hvs
  by_cases hE : endv l 0 = l.length
  · have hE' : (endv l 0 != (l.length : Int)) = false := by simp [hE]
    have hr : ¬ (0 ≤ i ∧ i < l.length) := fun h2 => h ⟨hE, h2⟩
    clear hE h
    by_cases hn : i < 0
    · clear hr
      go_enter Tryz.func32, Tryz.ntmps32
      go_wp2_with (go_at_call 60; refine (refEnd_any l _ _ _ hv hl).mono ?_; rintro e w1 ⟨rfl, hb1⟩)
      go_ret2
      exact ⟨rfl, hb1⟩
    · have hn2 : (l.length : Int) ≤ i := by omega
      clear hr
      go_enter Tryz.func32, Tryz.ntmps32
      go_wp2_with (go_at_call 60; refine (refEnd_any l _ _ _ hv hl).mono ?_; rintro e w1 ⟨rfl, hb1⟩)
      go_ret2
      exact ⟨rfl, hb1⟩
  · have hE' : (endv l 0 != (l.length : Int)) = true := by simp [hE]
    clear hE h
    go_enter Tryz.func32, Tryz.ntmps32
    go_wp2_with (go_at_call 60; refine (refEnd_any l _ _ _ hv hl).mono ?_; rintro e w1 ⟨rfl, hb1⟩)
    go_ret2
    exact ⟨rfl, hb1⟩

set_option maxHeartbeats 4000000 in
theorem refOf_any (l : List Nd) (v : Value) (hl : l.length ≤ 3000000) : ∀ (f : Nat) (i : Int) (w : World), -1 ≤ i → i + 1 < f → NodesAt w v l →
    Calls Tryz.prog 32 #[v, .int .i64 i] w fun e w' => ∃ u, e = .returned (.tuple #[u, .bool (climb l f i).isSome]) ∧ IntsIn (fun k => w.heap.size ≤ k ∧ k < w'.heap.size) w' u ((climb l f i).getD []) ∧ ((((climb l f i).getD []).length : Int) ≤ i + 1) ∧ Below w.heap.size w w' := by
  obtain ⟨i0, hi0, hz0, hz1, hz2⟩ := info_parts infoInt
  intro f
  induction f with
  | zero => intro i w h1 h2; omega
  | succ f ih =>
    intro i w hi1 hif hv
    by_cases hr : endv l 0 = l.length ∧ 0 ≤ i ∧ i < l.length
    · have hE' : (endv l 0 != (l.length : Int)) = false := by simp [hr.1]
      have hr2 : ¬ i < 0 := by omega
      have hr3 : ¬ (l.length : Int) ≤ i := by omega
      by_cases h0 : i = 0
      · subst h0
        have HC := Lib.hid (climb_root l f hr)
        have hne : ¬ l = [] := by rintro rfl; simp at hr
        have hned : decide (l = []) = false := by simp [hne]
        clear hr
        obtain ⟨pv, cv, hvs⟩ := hv.slice
        subst hvs
        go_enter Tryz.func32, Tryz.ntmps32
        go_wp2_with (go_at_call 60; refine (refEnd_any l _ _ _ hv (by omega)).mono ?_; rintro e w1 ⟨rfl, hb1⟩)
        go_ret2
        exact ⟨.slice none 0 0, by rw [HC.out]; rfl, by rw [HC.out]; exact .inl ⟨none, 0, rfl, rfl, rfl, fun _ => rfl⟩, by rw [HC.out]; simp, hb1⟩
      · have h0b : (i == 0) = false := by simp [h0]
        have HC := Lib.hid (climb_step l f i hr h0)
        obtain ⟨t, rfl⟩ := Int.eq_ofNat_of_zero_le hr.2.1
        have htl : t < l.length := by omega
        have hup := upV_lt l t t 0
        clear hr h0
        obtain ⟨pv, cv, hvs⟩ := hv.slice
        subst hvs
        rw [Int.toNat_natCast] at HC
        obtain ⟨x, hx⟩ : ∃ x, (upV l t t 0).1 = x := ⟨_, rfl⟩
        obtain ⟨y, hy⟩ : ∃ y, (upV l t t 0).2 = y := ⟨_, rfl⟩
        have hU := up_any l t (.slice pv l.length cv)
        rw [hx] at hup HC hU
        rw [hy] at HC hU
        clear hx hy
        have HU := Lib.hid hU
        clear hU
        cases hc : climb l f x with
        | none =>
          rw [hc] at HC
          have hih := fun w h => ih x w hup.2 (by omega) h
          rw [hc] at hih
          have HI := Lib.hid hih
          clear hih hc ih
          go_enter Tryz.func32, Tryz.ntmps32
          go_wp2_with (first
            | (go_at_call 60; refine (refEnd_any l _ _ _ hv (by omega)).mono ?_; rintro e w1 ⟨rfl, hb1⟩; have hv1 := NodesIn.below hv hb1)
            | (go_at_call 61; refine (HU.out _ hv1 (by omega) (by omega)).mono ?_; rintro e w2 ⟨rfl, hb2⟩; have hv2 := NodesIn.below hv1 hb2)
            | (go_at_call 32; refine (HI.out _ hv2).mono ?_; rintro e w3 ⟨u3, rfl, hu3, hn3, hb3⟩))
          go_ret2
          exact ⟨.slice none 0 0, by rw [HC.out]; rfl, by rw [HC.out]; exact .inl ⟨none, 0, rfl, rfl, rfl, fun _ => rfl⟩, by rw [HC.out]; simp; omega, hb1.trans ((hb2.mono hb1.size).trans (hb3.mono (Nat.le_trans hb1.size hb2.size)))⟩
        | some q =>
          rw [hc] at HC
          have hih := fun w h => ih x w hup.2 (by omega) h
          rw [hc] at hih
          have HI := Lib.hid hih
          clear hih hc ih
          go_enter Tryz.func32, Tryz.ntmps32
          go_wp2_with (first
            | (go_at_call 60; refine (refEnd_any l _ _ _ hv (by omega)).mono ?_; rintro e w1 ⟨rfl, hb1⟩; have hv1 := NodesIn.below hv hb1)
            | (go_at_call 61; refine (HU.out _ hv1 (by omega) (by omega)).mono ?_; rintro e w2 ⟨rfl, hb2⟩; have hv2 := NodesIn.below hv1 hb2)
            | (go_at_call 32; refine (HI.out _ hv2).mono ?_; rintro e w3 ⟨u3, rfl, hu3, hn3, hb3⟩; have hs1 := hb1.size; have hs2 := hb2.size; have hs3 := hb3.size; have hu3' := SliceIn.kept hu3 (kept_of (below_alloc1 w3 (.cells #[] 3)) (fun k hk => hk.2)); dsimp only [Option.getD_some] at hu3' hn3)
            | (at_builtin; refine wpList_append_in rfl (.tmp 41) (.tmp 42) 22 rfl w.heap.size 3 i0 (.int .i64 0) 1 8 Tryz.underlying22 hi0 hz0 hz1 hz2 rfl (by decide) _ _ _ rfl (ownsRow_empty w3 w.heap.size 3 1 (by omega)) _ q.length _ rfl hu3' (by simp) (ints_one q) (by unfold maxLen; omega) (by omega) (by simp; omega) ?_; intro v4 w4 hown4 hgrow4; have hs4 := hgrow4.size; rw [World.size_alloc] at hs4)
            | (at_builtin; refine wpList_append_in rfl (.tmp 43) (.tmp 45) 22 rfl w.heap.size 3 i0 (.int .i64 0) 1 8 Tryz.underlying22 hi0 hz0 hz1 hz2 rfl (by decide) _ _ _ rfl (hown4.alloc _) _ 1 [.int .i64 y] rfl (sliceIn_one w4 (.int .i64 y) 3) (by simp) (by simp [Value.oneCell']) (by unfold maxLen; omega) (by omega) (by simp; omega) ?_; intro v5 w5 hown5 hgrow5))
          go_ret2
          have hown5' : w5.ownsRow w.heap.size 3 1 v5 (q ++ [y]).length ((q ++ [y]).map (Value.int .i64)) := by simpa using hown5
          have hB3 : Below w.heap.size w w3 := hb1.trans ((hb2.mono hs1).trans (hb3.mono (Nat.le_trans hs1 hs2)))
          have hB4 : Below w.heap.size w w4 := (hB3.alloc (by omega) _).grown hgrow4 (by simp; omega) (fun j hj => ((ownsRow_empty w3 w.heap.size 3 1 (by omega)).lt j hj).1)
          have hB5 : Below w.heap.size w w5 := (hB4.alloc (by omega) _).grown hgrow5 (by simp; omega) (fun j hj => (hown4.lt j hj).1)
          exact ⟨v5, by rw [HC.out]; rfl, by rw [HC.out]; exact ownsRow_ints hown5', by rw [HC.out]; simp; omega, hB5⟩
    · have HC := Lib.hid (climb_no l (f + 1) i hr)
      refine (refOf_no l v (by omega) i w hv hr).mono ?_
      rintro e w' ⟨rfl, hb⟩
      exact ⟨.slice none 0 0, by rw [HC.out]; rfl, by rw [HC.out]; exact .inl ⟨none, 0, rfl, rfl, rfl, fun _ => rfl⟩, by rw [HC.out]; simp; omega, hb⟩
end Go.Proofs.YtinnbafplhcnpaaGreat
end

section
namespace Go.Proofs.YtinnbafplhcnpaaGreat

theorem upV_spec (l : List Nd) (t : Int) : ∀ (n i : Nat), (∃ j c : Nat, i ≤ j ∧ j < i + n ∧ ∃ hc : c < (kidsv l j).length, (kidsv l j)[c] = t) →
    ∃ j c : Nat, i ≤ j ∧ j < i + n ∧ upV l t n i = ((j : Int), (c : Int)) ∧ ∃ hc : c < (kidsv l j).length, (kidsv l j)[c] = t
  | 0, i, ⟨j, c, h1, h2, _⟩ => by omega
  | n + 1, i, ⟨j, c, h1, h2, hc, he⟩ => by
    cases hx : (kidsv l i).findIdx? (· == t) with
    | some k =>
      obtain ⟨hk, hk2, _⟩ := List.findIdx?_eq_some_iff_getElem.1 hx
      exact ⟨i, k, Nat.le_refl _, by omega, by rw [upV, hx], hk, by simpa using hk2⟩
    | none =>
      have hno := List.findIdx?_eq_none_iff.1 hx
      have hji : j ≠ i := by
        rintro rfl
        have := hno _ (List.getElem_mem hc)
        rw [he] at this
        simp at this
      obtain ⟨j', c', g1, g2, g3, g4⟩ := upV_spec l t n (i + 1) ⟨j, c, by omega, by omega, hc, he⟩
      exact ⟨j', c', by omega, by omega, by rw [upV, hx]; exact g3, g4⟩

/-- The path by definition is the path that is come to. -/
theorem climb_ofv (l : List Nd) : ∀ (f : Nat) (i : Int), -1 ≤ i → i + 1 < f → climb l f i = ofv l i
  | 0, i, h1, h2 => by omega
  | f + 1, i, h1, h2 => by
    by_cases hr : endv l 0 = l.length ∧ 0 ≤ i ∧ i < l.length
    · obtain ⟨hw, hr1, hr2⟩ := hr
      by_cases h0 : i = 0
      · subst h0
        rw [climb_root l f ⟨hw, hr1, hr2⟩, down_ofv hw (i := 0) (p := []) (by omega) rfl]
      · obtain ⟨t, rfl⟩ := Int.eq_ofNat_of_zero_le hr1
        obtain ⟨j, n, g1, g2, g3⟩ := ofv_parent hw (i := t) (by omega) hr2
        obtain ⟨j', c', e1, e2, e3, e4, e5⟩ := upV_spec l t t 0 ⟨j, n, by omega, by omega, g2, g3⟩
        rw [climb_step l f t ⟨hw, hr1, hr2⟩ h0, Int.toNat_natCast, e3]
        simp only []
        rw [climb_ofv l f j' (by omega) (by omega)]
        obtain ⟨p, hp⟩ := Option.isSome_iff_exists.1 ((ofv_some_iff hw (j' : Int)).2 ⟨by omega, by omega⟩)
        have := ofv_kid hw hp c' e4
        rw [e5] at this
        rw [hp, this]; rfl
    · rw [climb_no l _ i hr]
      by_cases hw : endv l 0 = l.length
      · cases ho : ofv l i with
        | none => rfl
        | some p => exact absurd ⟨hw, (ofv_some_iff hw i).1 (by rw [ho]; rfl)⟩ hr
      · rw [ofv_no l i hw]
end Go.Proofs.YtinnbafplhcnpaaGreat
end

section
namespace Go.Proofs.YtinnbafplhcnpaaGreat
open Go.RowKit
set_option linter.unusedVariables false
set_option linter.unusedSimpArgs false
set_option maxRecDepth 100000

def F_Of11 : List D → Option D := F2 nodesT intT fun l i => if l.length ≤ 3000000 then some (.tup [intsD ((ofv l i).getD []), bD (ofv l i).isSome]) else none
theorem rep_of11 {S : Nat → Prop} {w : World} {u : Value} {p : List Int} {b : Bool} (hu : IntsIn S w u p) : Rep S [] w (.tuple #[u, .bool b]) (.tup [intsD p, bD b]) := by
  simp only [Rep]
  exact ⟨[u, .bool b], rfl, RepA.cons (intsD_rep hu) (RepA.cons (by simp only [Rep]) RepA.nil)⟩
theorem C_Of11 : CallOk Tryz.prog 21 F_Of11 := by
  refine ⟨⟨_, Tryz.func21, by decide, rfl⟩, fun ds d hF S vs W hS hv => ?_⟩
  unfold F_Of11 F2 at hF
  split at hF
  · rename_i x0 x1
    obtain ⟨l, h0, hF⟩ := Option.bind_eq_some_iff.1 hF
    obtain ⟨i, h1, hF⟩ := Option.bind_eq_some_iff.1 hF
    simp only at hF
    split at hF
    case isFalse => cases hF
    rename_i G
    cases hF
    simp only [RepA] at hv
    obtain ⟨v_l, t0, rfl, r0, ⟨v_i, t1, rfl, r1, rfl⟩⟩ := hv
    have h_l : NodesIn S W v_l l := asNodes_ok h0 r0
    obtain rfl := asInt_ok h1 r1
    refine (Of_in l i v_l W S hS h_l (by omega)).mono ?_
    rintro e w1 ⟨u, rfl, hu, hb⟩
    exact ⟨_, rfl, rep_of11 hu, hb⟩
  · cases hF
theorem refOf_in (l : List Nd) (v : Value) (hl : l.length ≤ 3000000) (i : Int) (w : World) (hv : NodesAt w v l) :
    Calls Tryz.prog 32 #[v, .int .i64 i] w fun e w' => ∃ u, e = .returned (.tuple #[u, .bool (ofv l i).isSome]) ∧ IntsIn (fun k => w.heap.size ≤ k ∧ k < w'.heap.size) w' u ((ofv l i).getD []) ∧ Below w.heap.size w w' := by
  by_cases hi : -1 ≤ i
  · have h := refOf_any l v hl (i + 2).toNat i w hi (by omega) hv
    rw [climb_ofv l (i + 2).toNat i hi (by omega)] at h
    exact h.mono fun e w' ⟨u, h1, h2, _, h3⟩ => ⟨u, h1, h2, h3⟩
  · have ho : ofv l i = none := by
      by_cases hw : endv l 0 = l.length
      · cases hc : ofv l i with
        | none => rfl
        | some p =>
          have := (ofv_some_iff hw i).1 (by rw [hc]; rfl)
          omega
      · exact ofv_no l i hw
    have h := refOf_no l v (by omega) i w hv (by omega)
    rw [ho]
    exact h.mono fun e w' ⟨h1, h3⟩ => ⟨.slice none 0 0, h1, .inl ⟨none, 0, rfl, rfl, rfl, fun _ => rfl⟩, h3⟩
theorem C_RefOf11 : CallOk Tryz.prog 32 F_Of11 := by
  refine ⟨⟨_, Tryz.func32, by decide, rfl⟩, fun ds d hF S vs W hS hv => ?_⟩
  unfold F_Of11 F2 at hF
  split at hF
  · rename_i x0 x1
    obtain ⟨l, h0, hF⟩ := Option.bind_eq_some_iff.1 hF
    obtain ⟨i, h1, hF⟩ := Option.bind_eq_some_iff.1 hF
    simp only at hF
    split at hF
    case isFalse => cases hF
    rename_i G
    cases hF
    simp only [RepA] at hv
    obtain ⟨v_l, t0, rfl, r0, ⟨v_i, t1, rfl, r1, rfl⟩⟩ := hv
    have h_l : NodesAt W v_l l := (asNodes_ok h0 r0).mono hS
    obtain rfl := asInt_ok h1 r1
    refine (refOf_in l v_l (by omega) i W h_l).mono ?_
    rintro e w1 ⟨u, rfl, hu, hb⟩
    exact ⟨_, rfl, rep_of11 (hu.mono fun k hk => .inr hk), hb⟩
  · cases hF
theorem of11_pure (l : List Nd) (i : Int) (h : l.length ≤ 3000000) (H : Heap) : liftF F_Of11 [nodesD l, iD i] H = some (.tup [intsD ((ofv l i).getD []), bD (ofv l i).isSome], H) := by
  rw [liftF_pure _ _ _ rfl]
  have : F_Of11 [nodesD l, iD i] = _ := f2_enc (A := nodesT) (B := intT) _ l i
  rw [this, if_pos h]; rfl
def fs14a (P : Program) : List Entry := (21, true, liftF F_Of11) :: (32, true, liftF F_Of11) :: (19, true, liftF F_Check9) :: (31, true, liftF F_Check9) :: (29, true, liftF F_Of9) :: (11, true, liftF F_Few) :: fs13n P
theorem fs14a_ok : ∀ p ∈ fs14a Tryz.prog, EntryOk Tryz.prog p := entries_cons (entry_lift C_Of11) <| entries_cons (entry_lift C_RefOf11) <| entries_cons (entry_lift C_Check9) <| entries_cons (entry_lift C_RefCheck9) <| entries_cons (entry_lift C_Of9) <| entries_cons (entry_lift C_Few) <| fs13n_ok
def T14a (P : Program) : Tab := ⟨fs14a P, noYl⟩
theorem T14a_ok : TabOk Tryz.prog (T14a Tryz.prog) := tabOk_of fs14a_ok
end Go.Proofs.YtinnbafplhcnpaaGreat
end

section
namespace Go.Proofs.YtinnbafplhcnpaaGreat
open Go.RowKit
set_option linter.unusedVariables false
set_option maxRecDepth 100000

def kp_sites_book__each : List Nat := []
theorem sh_sites_book__each (n : Nat) (x0 : D) (h : Heap) : textK Tryz.prog (T14a Tryz.prog) kp_sites_book__each n Tryz.f96 [x0] h =
(thnH (boxH 55 x0 h) fun y0 h1 =>
some ((.clo (.func 126) [] [y0]), h1)) := by kernel_rfl

def kp_sites_Find : List Nat := [0, 3, 5, 6, 7]
theorem sh_sites_Find (n : Nat) (x0 x1 : D) (h : Heap) : textK Tryz.prog (T14a Tryz.prog) kp_sites_Find n Tryz.f23 [x0, x1] h =
(thnH (boxH 34 x1 h) fun y0 h1 =>
thn (lenH .sl x0) fun y2 =>
leaveK (loopF Tryz.prog (T14a Tryz.prog) kp_sites_Find n Tryz.f23 0 [x0, y0, (iD 0), y2, (iD (-1))] h1) (fun j3 s4 h5 =>
condN j3 0
(some ((s4.getD 4 .undef), h5))
(none)) (fun s4 h5 =>
some (.undef, h5))) := by kernel_rfl

theorem st_sites_Find_0 (n : Nat) (s0 s1 s2 s3 s4 : D) (h : Heap) : stepF Tryz.prog (T14a Tryz.prog) kp_sites_Find n Tryz.f23 0 [s0, s1, s2, s3, s4] h =
(thn (binK .int .lss s2 s3) fun y0 =>
condK y0
(thn (binK .int .sub s3 s2) fun y1 =>
thn (binK .int .quo y1 (iD 2)) fun y2 =>
thn (binK .int .add s2 y2) fun y3 =>
thn (idxH 3 s0 y3) fun y4 =>
thn (loadH (some 3) h y4) fun y5 =>
thn (loadH (some 3) h s1) fun y6 =>
thnH (liftF F_DCompare [y5, y6] h) fun y7 h8 =>
thn (binK .int .eql y7 (iD 0)) fun y9 =>
condK y9
(some ((.exit 0), [s0, s1, s2, s3, y3], h8))
(thn (binK .int .lss y7 (iD 0)) fun y10 =>
condK y10
(thn (binK .int .add y3 (iD 1)) fun y11 =>
some (.normal, [s0, s1, y11, s3, s4], h8))
(some (.normal, [s0, s1, s2, y3, s4], h8))))
(some ((.exit 0), [s0, s1, s2, s3, s4], h))) := by kernel_rfl

def kp_offshootref14_All : List Nat := [1, 5, 6, 7, 9, 10]
theorem sh_offshootref14_All (n : Nat) (x0 : D) (h : Heap) : textK Tryz.prog (T14a Tryz.prog) kp_offshootref14_All n Tryz.f13 [x0] h =
(thnH (boxH 25 x0 h) fun y0 h1 =>
thn (loadH (some 3) h1 y0) fun y2 =>
thnH (liftF F_Check9 [y2] h1) fun y3 h4 =>
thn (binK .int .neq y3 (iD 0)) fun y5 =>
condK y5
(some (.tup [(.v (.slice none 0 0)), y3], h4))
(leaveK (loopF Tryz.prog (T14a Tryz.prog) kp_offshootref14_All n Tryz.f13 0 [y0, (.v (.slice none 0 0)), (iD 0), .undef, .undef, .undef] h4) (fun j6 s7 h8 =>
condN j6 0
(some (.tup [(s7.getD 1 .undef), (iD 0)], h8))
(none)) (fun s7 h8 =>
some (.tup [.undef, .undef], h8)))) := by kernel_rfl

theorem st_offshootref14_All_0 (n : Nat) (s0 s1 s2 s3 s4 s5 : D) (h : Heap) : stepF Tryz.prog (T14a Tryz.prog) kp_offshootref14_All n Tryz.f13 0 [s0, s1, s2, s3, s4, s5] h =
(thn (fieldAtH 2 s0) fun y0 =>
thn (loadH none h y0) fun y1 =>
thn (lenH .sl y1) fun y2 =>
thn (binK .int .lss s2 y2) fun y3 =>
condK y3
(thn (fieldAtH 2 s0) fun y4 =>
thn (loadH none h y4) fun y5 =>
thnH (liftF F_Of11 [y5, s2] h) fun y6 h7 =>
thn (extractD y6 0) fun y8 =>
thn (extractD y6 1) fun y9 =>
thn (fieldAtH 2 s0) fun y10 =>
thn (loadH none h7 y10) fun y11 =>
thnH (liftF F_RefChoices [y11, s2] h7) fun y12 h13 =>
leaveK (loopF Tryz.prog (T14a Tryz.prog) kp_offshootref14_All n Tryz.f13 1 [s0, s1, s2, y8, y12, (iD 0)] h13) (fun j14 s15 h16 =>
condN j14 2
(thn (binK .int .add (s15.getD 2 .undef) (iD 1)) fun y17 =>
some (.normal, [(s15.getD 0 .undef), (s15.getD 1 .undef), y17, (s15.getD 3 .undef), (s15.getD 4 .undef), (s15.getD 5 .undef)], h16))
(condN j14 1
(thn (binK .int .add (s15.getD 2 .undef) (iD 1)) fun y18 =>
some (.normal, [(s15.getD 0 .undef), (s15.getD 1 .undef), y18, (s15.getD 3 .undef), (s15.getD 4 .undef), (s15.getD 5 .undef)], h16))
(some ((.exit j14), [(s15.getD 0 .undef), (s15.getD 1 .undef), (s15.getD 2 .undef), (s15.getD 3 .undef), (s15.getD 4 .undef), (s15.getD 5 .undef)], h16)))) (fun s15 h16 =>
some (.ret, [(s15.getD 0 .undef), (s15.getD 1 .undef), (s15.getD 2 .undef), (s15.getD 3 .undef), (s15.getD 4 .undef), (s15.getD 5 .undef)], h16)))
(some ((.exit 0), [s0, s1, s2, s3, s4, s5], h))) := by kernel_rfl

theorem st_offshootref14_All_1 (n : Nat) (s0 s1 s2 s3 s4 s5 : D) (h : Heap) : stepF Tryz.prog (T14a Tryz.prog) kp_offshootref14_All n Tryz.f13 1 [s0, s1, s2, s3, s4, s5] h =
(thn (lenH .sl s4) fun y0 =>
thn (binK .int .lss s5 y0) fun y1 =>
condK y1
(thn (idxH 3 s4 s5) fun y2 =>
thn (fieldAtH 1 y2) fun y3 =>
thn (loadH none h y3) fun y4 =>
thn (idxH 3 s4 s5) fun y5 =>
thn (fieldAtH 2 y5) fun y6 =>
thn (loadH none h y6) fun y7 =>
thn (buildR [(0, 1), (1, 1), (2, 1)] [(.v (.slice none 0 0)), (iD 0), (iD 0)] [(0, s3), (1, y4), (2, y7)]) fun y8 =>
thnH (rowH 34 3 1 [(.v (.slice none 0 0)), (iD 0), (iD 0)] [(0, y8)] h) fun y9 h10 =>
thnH (appendH 34 3 s1 y9 h10) fun y11 h12 =>
thn (binK .int .add s5 (iD 1)) fun y13 =>
some (.normal, [s0, y11, s2, s3, s4, y13], h12))
(some ((.exit 2), [s0, s1, s2, s3, s4, s5], h))) := by kernel_rfl

def kp_offshootref14_Same : List Nat := [0, 1, 4, 5]
theorem sh_offshootref14_Same (n : Nat) (x0 x1 : D) (h : Heap) : textK Tryz.prog (T14a Tryz.prog) kp_offshootref14_Same n Tryz.f14 [x0, x1] h =
(thn (lenH .sl x0) fun y0 =>
thn (lenH .sl x1) fun y1 =>
thn (binK .int .neq y0 y1) fun y2 =>
condK y2
(some ((bD false), h))
(leaveK (loopF Tryz.prog (T14a Tryz.prog) kp_offshootref14_Same n Tryz.f14 0 [x0, x1, (bD false), (iD 0)] h) (fun j3 s4 h5 =>
condN j3 0
(some ((bD true), h5))
(none)) (fun s4 h5 =>
some ((s4.getD 2 .undef), h5)))) := by kernel_rfl

theorem st_offshootref14_Same_0 (n : Nat) (s0 s1 s2 s3 : D) (h : Heap) : stepF Tryz.prog (T14a Tryz.prog) kp_offshootref14_Same n Tryz.f14 0 [s0, s1, s2, s3] h =
(thn (lenH .sl s0) fun y0 =>
thn (binK .int .lss s3 y0) fun y1 =>
condK y1
(thn (idxH 3 s0 s3) fun y2 =>
thn (loadH (some 3) h y2) fun y3 =>
thn (idxH 3 s1 s3) fun y4 =>
thn (loadH (some 3) h y4) fun y5 =>
thnH (liftF F_DCompare [y3, y5] h) fun y6 h7 =>
thn (binK .int .neq y6 (iD 0)) fun y8 =>
condK y8
(some (.ret, [s0, s1, (bD false), s3], h7))
(thn (binK .int .add s3 (iD 1)) fun y9 =>
some (.normal, [s0, s1, s2, y9], h7)))
(some ((.exit 0), [s0, s1, s2, s3], h))) := by kernel_rfl

def kp_offshootref14_Rises : List Nat := [0, 2, 3]
theorem sh_offshootref14_Rises (n : Nat) (x0 : D) (h : Heap) : textK Tryz.prog (T14a Tryz.prog) kp_offshootref14_Rises n Tryz.f25 [x0] h =
(leaveK (loopF Tryz.prog (T14a Tryz.prog) kp_offshootref14_Rises n Tryz.f25 0 [x0, (bD false), (iD 1)] h) (fun j0 s1 h2 =>
condN j0 0
(some ((bD true), h2))
(none)) (fun s1 h2 =>
some ((s1.getD 1 .undef), h2))) := by kernel_rfl

theorem st_offshootref14_Rises_0 (n : Nat) (s0 s1 s2 : D) (h : Heap) : stepF Tryz.prog (T14a Tryz.prog) kp_offshootref14_Rises n Tryz.f25 0 [s0, s1, s2] h =
(thn (lenH .sl s0) fun y0 =>
thn (binK .int .lss s2 y0) fun y1 =>
condK y1
(thn (binK .int .sub s2 (iD 1)) fun y2 =>
thn (idxH 3 s0 y2) fun y3 =>
thn (loadH (some 3) h y3) fun y4 =>
thn (idxH 3 s0 s2) fun y5 =>
thn (loadH (some 3) h y5) fun y6 =>
thnH (liftF F_DCompare [y4, y6] h) fun y7 h8 =>
thn (binK .int .geq y7 (iD 0)) fun y9 =>
condK y9
(some (.ret, [s0, (bD false), s2], h8))
(thn (binK .int .add s2 (iD 1)) fun y10 =>
some (.normal, [s0, s1, y10], h8)))
(some ((.exit 0), [s0, s1, s2], h))) := by kernel_rfl

def kp_offshootlaw14_few : List Nat := [0, 2, 3]
theorem sh_offshootlaw14_few (n : Nat) (x0 : D) (h : Heap) : textK Tryz.prog (T14a Tryz.prog) kp_offshootlaw14_few n Tryz.f15 [x0] h =
(thn (lenH .sl x0) fun y0 =>
thn (binK .int .gtr y0 (iD 300)) fun y1 =>
condK y1
(some ((bD false), h))
(leaveK (loopF Tryz.prog (T14a Tryz.prog) kp_offshootlaw14_few n Tryz.f15 0 [x0, (bD false), (iD 0)] h) (fun j2 s3 h4 =>
condN j2 0
(some ((bD true), h4))
(none)) (fun s3 h4 =>
some ((s3.getD 1 .undef), h4)))) := by kernel_rfl

theorem st_offshootlaw14_few_0 (n : Nat) (s0 s1 s2 : D) (h : Heap) : stepF Tryz.prog (T14a Tryz.prog) kp_offshootlaw14_few n Tryz.f15 0 [s0, s1, s2] h =
(thn (lenH .sl s0) fun y0 =>
thn (binK .int .lss s2 y0) fun y1 =>
condK y1
(thn (idxH 3 s0 s2) fun y2 =>
thn (fieldAtH 0 y2) fun y3 =>
thn (loadH none h y3) fun y4 =>
thn (lenH .sl y4) fun y5 =>
thn (binK .int .gtr y5 (iD 60)) fun y6 =>
condK y6
(some (.ret, [s0, (bD false), s2], h))
(thn (binK .int .add s2 (iD 1)) fun y7 =>
some (.normal, [s0, s1, y7], h)))
(some ((.exit 0), [s0, s1, s2], h))) := by kernel_rfl

end Go.Proofs.YtinnbafplhcnpaaGreat
end

section
namespace Go.Proofs.YtinnbafplhcnpaaGreat
open Go.RowKit
set_option linter.unusedVariables false
set_option linter.unusedSimpArgs false
set_option maxRecDepth 100000

def G_each (P : Program) : List D → Heap → Option (D × Heap) := textG P (T14a P) kp_sites_book__each 0 96
theorem G_each_eq (ds : List D) (H : Heap) : G_each Tryz.prog ds H = textK Tryz.prog (T14a Tryz.prog) kp_sites_book__each 0 Tryz.f96 ds H := textG_eq Tryz.func96 ds H
theorem C_each : HCallOk Tryz.prog 96 (G_each Tryz.prog) := hcall_G T14a_ok mixed Tryz.func96 (by kernel_rfl) (by decide)
def fs14b (P : Program) : List Entry := (96, false, G_each P) :: fs14a P
theorem fs14b_ok : ∀ p ∈ fs14b Tryz.prog, EntryOk Tryz.prog p := entries_cons (entry_obj C_each) <| fs14a_ok
def T14y (P : Program) (Y : Nat → List D → Heap → Option (D × Heap)) : Tab := ⟨fs14b P, Y⟩
theorem T14y_ok (Y : Nat → List D → Heap → Option (D × Heap)) (hY : YOk Tryz.prog Y) : TabOk Tryz.prog (T14y Tryz.prog Y) := ⟨fs14b_ok, hY⟩
end Go.Proofs.YtinnbafplhcnpaaGreat
end

section
namespace Go.Proofs.YtinnbafplhcnpaaGreat
open Go.RowKit
set_option linter.unusedVariables false
set_option maxRecDepth 100000
variable (Y : Nat → List D → Heap → Option (D × Heap))

def kp_sites_book__each_1 : List Nat := [0, 1, 4, 13, 14, 33, 34, 35]
theorem sh_sites_book__each_1 (n : Nat) (x0 x1 : D) (h : Heap) : textK Tryz.prog (T14y Tryz.prog Y) kp_sites_book__each_1 n Tryz.f126 [x0, x1] h =
(thn (loadH none h x1) fun y0 =>
thn (nilD y0) fun y1 =>
thn (fieldAtH 0 y1) fun y2 =>
thn (fieldAtH 2 y2) fun y3 =>
thn (loadH none h y3) fun y4 =>
thn (lenH .sl y4) fun y5 =>
leaveK (loopF Tryz.prog (T14y Tryz.prog Y) kp_sites_book__each_1 n Tryz.f126 0 [x0, x1, .undef, y5, (iD 0), .undef, .undef, .undef] h) (fun j6 s7 h8 =>
condN j6 0
(some (.tup [], h8))
(none)) (fun s7 h8 =>
some (.tup [], h8))) := by kernel_rfl

theorem st_sites_book__each_1_0 (n : Nat) (s0 s1 s2 s3 s4 s5 s6 s7 : D) (h : Heap) : stepF Tryz.prog (T14y Tryz.prog Y) kp_sites_book__each_1 n Tryz.f126 0 [s0, s1, s2, s3, s4, s5, s6, s7] h =
(thn (binK .int .lss s4 s3) fun y0 =>
condK y0
(thn (loadH none h s1) fun y1 =>
thn (nilD y1) fun y2 =>
thn (fieldAtH 0 y2) fun y3 =>
thn (fieldAtH 2 y3) fun y4 =>
thn (loadH none h y4) fun y5 =>
thnH (liftF F_Of11 [y5, s4] h) fun y6 h7 =>
thn (extractD y6 0) fun y8 =>
thn (extractD y6 1) fun y9 =>
thn (loadH none h7 s1) fun y10 =>
thn (nilD y10) fun y11 =>
thn (fieldAtH 0 y11) fun y12 =>
thn (fieldAtH 2 y12) fun y13 =>
thn (loadH none h7 y13) fun y14 =>
thnH (liftN F_Choices [y14, s4] h7) fun y15 h16 =>
thn (lenH .sl y15) fun y17 =>
leaveK (loopF Tryz.prog (T14y Tryz.prog Y) kp_sites_book__each_1 n Tryz.f126 1 [s0, s1, y8, s3, s4, y15, y17, (iD 0)] h16) (fun j18 s19 h20 =>
condN j18 2
(thn (binK .int .add (s19.getD 4 .undef) (iD 1)) fun y21 =>
some (.normal, [(s19.getD 0 .undef), (s19.getD 1 .undef), (s19.getD 2 .undef), (s19.getD 3 .undef), y21, (s19.getD 5 .undef), (s19.getD 6 .undef), (s19.getD 7 .undef)], h20))
(condN j18 1
(thn (binK .int .add (s19.getD 4 .undef) (iD 1)) fun y22 =>
some (.normal, [(s19.getD 0 .undef), (s19.getD 1 .undef), (s19.getD 2 .undef), (s19.getD 3 .undef), y22, (s19.getD 5 .undef), (s19.getD 6 .undef), (s19.getD 7 .undef)], h20))
(some ((.exit j18), [(s19.getD 0 .undef), (s19.getD 1 .undef), (s19.getD 2 .undef), (s19.getD 3 .undef), (s19.getD 4 .undef), (s19.getD 5 .undef), (s19.getD 6 .undef), (s19.getD 7 .undef)], h20)))) (fun s19 h20 =>
some (.ret, [(s19.getD 0 .undef), (s19.getD 1 .undef), (s19.getD 2 .undef), (s19.getD 3 .undef), (s19.getD 4 .undef), (s19.getD 5 .undef), (s19.getD 6 .undef), (s19.getD 7 .undef)], h20)))
(some ((.exit 0), [s0, s1, s2, s3, s4, s5, s6, s7], h))) := by kernel_rfl

theorem st_sites_book__each_1_1 (n : Nat) (s0 s1 s2 s3 s4 s5 s6 s7 : D) (h : Heap) : stepF Tryz.prog (T14y Tryz.prog Y) kp_sites_book__each_1 n Tryz.f126 1 [s0, s1, s2, s3, s4, s5, s6, s7] h =
(thn (binK .int .lss s7 s6) fun y0 =>
condK y0
(thn (idxH 3 s5 s7) fun y1 =>
thn (loadH (some 3) h y1) fun y2 =>
thnH (allocH 34 [(.v (.slice none 0 0)), (iD 0), (iD 0)] h) fun y3 h4 =>
thnH (setH 3 y3 y2 h4) fun y5 h6 =>
thnH (appendH 3 1 (.v (.slice none 0 0)) s2 h6) fun y7 h8 =>
thn (fieldAtH 0 y3) fun y9 =>
thnH (setH 1 y9 y7 h8) fun y10 h11 =>
thn (loadH (some 3) h11 y3) fun y12 =>
thnH (callClo (T14y Tryz.prog Y) s0 [y12] h11) fun y13 h14 =>
thn (notD y13) fun y15 =>
condK y15
(some (.ret, [s0, s1, s2, s3, s4, s5, s6, s7], h14))
(thn (binK .int .add s7 (iD 1)) fun y16 =>
some (.normal, [s0, s1, s2, s3, s4, s5, s6, y16], h14)))
(some ((.exit 2), [s0, s1, s2, s3, s4, s5, s6, s7], h))) := by kernel_rfl

end Go.Proofs.YtinnbafplhcnpaaGreat
end

section
namespace Go.Proofs.YtinnbafplhcnpaaGreat
open Go.RowKit
set_option linter.unusedVariables false
set_option linter.unusedSimpArgs false
set_option maxRecDepth 100000

def G_each1 (P : Program) (Y : Nat → List D → Heap → Option (D × Heap)) : List D → Heap → Option (D × Heap) := textG P (T14y P Y) kp_sites_book__each_1 300 126
theorem G_each1_eq (Y : Nat → List D → Heap → Option (D × Heap)) (ds : List D) (H : Heap) : G_each1 Tryz.prog Y ds H = textK Tryz.prog (T14y Tryz.prog Y) kp_sites_book__each_1 300 Tryz.f126 ds H := textG_eq Tryz.func126 ds H
theorem C_each1 (Y : Nat → List D → Heap → Option (D × Heap)) (hY : YOk Tryz.prog Y) : HCallOk Tryz.prog 126 (G_each1 Tryz.prog Y) := hcall_G (T14y_ok Y hY) mixed Tryz.func126 (by kernel_rfl) (by decide)
def T14f (P : Program) (Y : Nat → List D → Heap → Option (D × Heap)) : Tab := ⟨(126, false, G_each1 P Y) :: fs14b P, Y⟩
theorem T14f_ok (Y : Nat → List D → Heap → Option (D × Heap)) (hY : YOk Tryz.prog Y) : TabOk Tryz.prog (T14f Tryz.prog Y) := ⟨entries_cons (entry_obj (C_each1 Y hY)) fs14b_ok, hY⟩
def Y14 (P : Program) : Nat → List D → Heap → Option (D × Heap) := Yn P (T14f P) 0 1
theorem Y14_ok : YOk Tryz.prog (Y14 Tryz.prog) := Yn_ok T14f_ok mixed 0 1
end Go.Proofs.YtinnbafplhcnpaaGreat
end
