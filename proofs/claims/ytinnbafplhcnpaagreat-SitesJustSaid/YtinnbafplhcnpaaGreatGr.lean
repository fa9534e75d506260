/-
  Parts joined into one text: Law14, Law14b, ArgsP, ArgsR, ArgsS, Walk14. No condition.
-/
import Derived.ChangeMaps5
import Derived.Test.YtinnbafplhcnpaaGreatGf
import Derived.Test.YtinnbafplhcnpaaGreatGh
import Derived.Test.YtinnbafplhcnpaaGreatGi
import Derived.Test.YtinnbafplhcnpaaGreatGn
import Derived.Test.YtinnbafplhcnpaaGreatGq

section
namespace Go.Proofs.YtinnbafplhcnpaaGreat
open Go.RowKit
set_option linter.unusedVariables false
set_option linter.unusedSimpArgs false
set_option maxRecDepth 100000

theorem dsame14 (a b : Dl) (ha : a.path.length ≤ 3000000) (hb : b.path.length ≤ 3000000) (H : Heap) : liftF F_DSame [dlD a, dlD b] H = some (bD (decide (a = b)), H) := by
  rw [liftF_pure _ _ _ rfl]
  have : F_DSame [dlD a, dlD b] = _ := f2_enc (A := dlT) (B := dlT) _ a b
  rw [this, if_pos ⟨ha, hb⟩]; rfl
theorem path_all {p : Pg} {x : Dl} (hx : x ∈ allV14 p) : x.path.length ≤ p.body.length := by
  unfold allV14 at hx
  split at hx
  · rename_i h
    obtain ⟨h1, h2⟩ := chk9_len h
    have q := ((mem_sitesV h2 x).1 hx).1
    exact ofv_len14 p.body _ _ ((ofv_findv h2 _ q x.path).2 rfl)
  · cases hx
theorem sitesAll_text (p : Pg) : ∃ H, textK Tryz.prog (L14 Tryz.prog) kp_offshootlaw14_SitesAll 10 Tryz.f3 [progD p] [] = some (bD true, H) := by
  rw [sh_offshootlaw14_SitesAll]
  have hb1 : boxH 25 (progD p) [] = some (.hp 0 0, [progB p]) := rfl
  have l0 : loadH (some 3) [progB p] (.hp 0 0) = some (progD p) := rfl
  refine ⟨[progB p], ?_⟩
  cases h1 : fewV p with
  | false => simp only [hb1, thnH_some, true14_pure, notD_bool, Bool.not_true, thn_some, condK_bool, Bool.false_eq_true, if_false, l0, few_pure, h1, Bool.not_false, if_true]
  | true =>
    obtain ⟨hb, hv, hp, hp'⟩ := few_fits h1
    have a1 := sall_pure p hp' [progB p]
    have a2 := rall_pure p hp' [progB p]
    have a3 := rsame_pure (allV14 p) (allV14 p) (okL_all p) (okL_all p) [progB p]
    rw [decide_eq_true rfl] at a3
    have x0 : extractD (.tup [dlsD (allV14 p), iD (chk9 p)]) 0 = some (dlsD (allV14 p)) := rfl
    have x1 : extractD (.tup [dlsD (allV14 p), iD (chk9 p)]) 1 = some (iD (chk9 p)) := rfl
    simp only [hb1, thnH_some, true14_pure, notD_bool, Bool.not_true, thn_some, condK_bool, Bool.false_eq_true, if_false, l0, few_pure, h1, a1, a2, x0, x1, a3, if_true, binK_eql, beq_self_eq_true]
theorem all_hit (p : Pg) (d : Dl) : findD (allV14 p) d = -1 ∨ ∃ k : Nat, findD (allV14 p) d = k ∧ k < (allV14 p).length ∧ (allV14 p)[k]? = some d := findD_hit _ _
theorem sitesJust_text (p : Pg) (d : Dl) : ∃ H, textK Tryz.prog (L14 Tryz.prog) kp_offshootlaw14_SitesJust 10 Tryz.f7 [progD p, dlD d] [] = some (bD true, H) := by
  rw [sh_offshootlaw14_SitesJust]
  have hb1 : boxH 25 (progD p) [] = some (.hp 0 0, [progB p]) := rfl
  have hb2 : boxH 34 (dlD d) [progB p] = some (.hp 1 0, [progB p, delB d]) := rfl
  have l0 : loadH (some 3) [progB p, delB d] (.hp 0 0) = some (progD p) := rfl
  have l1 : loadH (some 3) [progB p, delB d] (.hp 1 0) = some (dlD d) := rfl
  cases h1 : fewV p with
  | false =>
    refine ⟨[progB p, delB d], ?_⟩
    simp only [hb1, hb2, thnH_some, true14_pure, notD_bool, Bool.not_true, thn_some, condK_bool, Bool.false_eq_true, if_false, l0, few_pure, h1, Bool.not_false, if_true]
  | true =>
    obtain ⟨hb, hv, hp, hp'⟩ := few_fits h1
    have ro : rowH 34 3 1 [.v (.slice none 0 0), iD 0, iD 0] [(0, dlD d)] [progB p, delB d] = some (.hs 2 1, [progB p, delB d, delB d]) := rfl
    have fw := few14_row 34 d [progB p, delB d, delB d] 2 rfl
    refine ⟨[progB p, delB d, delB d], ?_⟩
    by_cases h2 : d.path.length ≤ 60
    case neg =>
      rw [decide_eq_false h2] at fw
      simp only [hb1, hb2, thnH_some, true14_pure, notD_bool, Bool.not_true, thn_some, condK_bool, Bool.false_eq_true, if_false, l0, l1, few_pure, h1, if_true, ro, fw, Bool.not_false]
    rw [decide_eq_true h2] at fw
    have k0 : loadH (some 3) [progB p, delB d, delB d] (.hp 0 0) = some (progD p) := rfl
    have k1 : loadH (some 3) [progB p, delB d, delB d] (.hp 1 0) = some (dlD d) := rfl
    have ck := check14_pure p hp' [progB p, delB d, delB d]
    by_cases h0 : chk9 p = 0
    case neg =>
      have z0 : ((chk9 p) != 0) = true := bne_iff_ne.2 h0
      simp only [hb1, hb2, thnH_some, true14_pure, notD_bool, Bool.not_true, thn_some, condK_bool, Bool.false_eq_true, if_false, l0, l1, few_pure, h1, if_true, ro, fw, k0, ck, binK_neq, z0]
    have z0 : ((chk9 p) != 0) = false := by rw [h0]; rfl
    have al := sall_pure p hp' [progB p, delB d, delB d]
    have x0 : extractD (.tup [dlsD (allV14 p), iD (chk9 p)]) 0 = some (dlsD (allV14 p)) := rfl
    have x1 : extractD (.tup [dlsD (allV14 p), iD (chk9 p)]) 1 = some (iD (chk9 p)) := rfl
    have f2 : fieldAtH 2 (.hp 0 0) = some (.hp 0 2) := rfl
    have g0 : fieldAtH 0 (.hp 1 0) = some (.hp 1 0) := rfl
    have g1 : fieldAtH 1 (.hp 1 0) = some (.hp 1 1) := rfl
    have g2 : fieldAtH 2 (.hp 1 0) = some (.hp 1 2) := rfl
    have l2 : loadH none [progB p, delB d, delB d] (.hp 0 2) = some (nodesD p.body) := rfl
    have m0 : loadH none [progB p, delB d, delB d] (.hp 1 0) = some (intsD d.path) := rfl
    have m1 : loadH none [progB p, delB d, delB d] (.hp 1 1) = some (iD d.op) := rfl
    have m2 : loadH none [progB p, delB d, delB d] (.hp 1 2) = some (iD d.n) := rfl
    have hf := find_pure p.body d.path [progB p, delB d, delB d] hp' (by omega)
    have ci := cis_pure p.body (findv p.body d.path) d.op d.n hp' [progB p, delB d, delB d]
    have ri := rises_pure (allV14 p) (okL_all p) [progB p, delB d, delB d]
    rw [(rises_pw _).2 (allV14_sorted p)] at ri
    have sf := sfind_pure (allV14 p) d (okL_all p) (by omega) [progB p, delB d, delB d]
    have hiff := find_all h0 d
    have hv14 : isV14 p d = decide (chk9 p = 0 ∧ 0 ≤ findv p.body d.path ∧ isC p.body (findv p.body d.path) d.op d.n) := rfl
    have hge : ¬ ((allV14 p).length : Int) ≤ findD (allV14 p) d := by
      rcases all_hit p d with e | ⟨k, e, hk, _⟩ <;> omega
    have ds := dsame14 d d (by omega) (by omega) [progB p, delB d, delB d]
    rw [decide_eq_true rfl] at ds
    have fin : ∀ b : Bool, b = isV14 p d → (decide (0 ≤ findD (allV14 p) d) == b) = true := fun b e => by
      rw [e, beq_iff_eq, Bool.eq_iff_iff, decide_eq_true_eq]
      exact hiff.symm
    by_cases hfv : 0 ≤ findv p.body d.path
    · have hb' : decide (isC p.body (findv p.body d.path) d.op d.n) = isV14 p d := by rw [hv14]; simp [h0, hfv]
      have hfin := fin _ hb'
      by_cases hk : findD (allV14 p) d < 0
      · simp only [hb1, hb2, thnH_some, true14_pure, notD_bool, Bool.not_true, thn_some, condK_bool, Bool.false_eq_true, if_false, l0, l1, few_pure, h1, if_true, ro, fw, k0, k1, ck, binK_neq, z0, al, x0, x1, f2, g0, g1, g2, l2, m0, m1, m2, hf, binK_geq, hfv, decide_true, ci, ri, sf, lenH_dls, hge, decide_false, binK_bool_eq, hfin, binK_lss, hk]
      · obtain ⟨k, e, hkl, hget⟩ : ∃ k : Nat, findD (allV14 p) d = k ∧ k < (allV14 p).length ∧ (allV14 p)[k]? = some d := by
          rcases all_hit p d with e | h
          · omega
          · exact h
        have ix := idx_dls (allV14 p) k hkl
        have hk2 : (allV14 p)[k] = d := by rw [List.getElem?_eq_getElem hkl] at hget; exact Option.some.inj hget
        rw [hk2, ← e] at ix
        have ld := load_dl [progB p, delB d, delB d] d
        simp only [hb1, hb2, thnH_some, true14_pure, notD_bool, Bool.not_true, thn_some, condK_bool, Bool.false_eq_true, if_false, l0, l1, few_pure, h1, if_true, ro, fw, k0, k1, ck, binK_neq, z0, al, x0, x1, f2, g0, g1, g2, l2, m0, m1, m2, hf, binK_geq, hfv, decide_true, ci, ri, sf, lenH_dls, hge, decide_false, binK_bool_eq, hfin, binK_lss, hk, ix, ld, ds]
    · have hb' : false = isV14 p d := by rw [hv14]; simp [hfv]
      have hfin := fin _ hb'
      have hk : findD (allV14 p) d < 0 := by
        have : ¬ 0 ≤ findD (allV14 p) d := fun q => by have := hiff.2 q; rw [← hb'] at this; cases this
        omega
      simp only [hb1, hb2, thnH_some, true14_pure, notD_bool, Bool.not_true, thn_some, condK_bool, Bool.false_eq_true, if_false, l0, l1, few_pure, h1, if_true, ro, fw, k0, k1, ck, binK_neq, z0, al, x0, x1, f2, g0, g1, g2, l2, m0, m1, m2, hf, binK_geq, hfv, decide_false, ri, sf, lenH_dls, hge, binK_bool_eq, hfin, binK_lss, hk, decide_true]
end Go.Proofs.YtinnbafplhcnpaaGreat
end

section
namespace Go.Proofs.YtinnbafplhcnpaaGreat
open Go.RowKit
set_option linter.unusedVariables false
set_option linter.unusedSimpArgs false
set_option maxRecDepth 100000

theorem sitesFind_text (l : List Dl) (d : Dl) : ∃ H, textK Tryz.prog (L14 Tryz.prog) kp_offshootlaw14_SitesFind 302 Tryz.f6 [dlsD l, dlD d] [] = some (bD true, H) := by
  rw [sh_offshootlaw14_SitesFind]
  have hb1 : boxH 34 (dlD d) [] = some (.hp 0 0, [delB d]) := rfl
  have l0 : loadH (some 3) [delB d] (.hp 0 0) = some (dlD d) := rfl
  cases h1 : fewD l with
  | false =>
    refine ⟨[delB d], ?_⟩
    simp only [hb1, thnH_some, true14_pure, notD_bool, Bool.not_true, thn_some, condK_bool, Bool.false_eq_true, if_false, few14_pure, h1, Bool.not_false, if_true]
  | true =>
    have ro : rowH 34 3 1 [.v (.slice none 0 0), iD 0, iD 0] [(0, dlD d)] [delB d] = some (.hs 1 1, [delB d, delB d]) := rfl
    have fw := few14_row 34 d [delB d, delB d] 1 rfl
    refine ⟨[delB d, delB d], ?_⟩
    by_cases h2 : d.path.length ≤ 60
    case neg =>
      rw [decide_eq_false h2] at fw
      simp only [hb1, thnH_some, true14_pure, notD_bool, Bool.not_true, thn_some, condK_bool, Bool.false_eq_true, if_false, few14_pure, h1, l0, ro, fw, Bool.not_false, if_true]
    rw [decide_eq_true h2] at fw
    have hfew := h1
    simp only [fewD, Bool.and_eq_true, decide_eq_true_eq, List.all_eq_true] at hfew
    have hok : okL l := ⟨by omega, fun x hx => by have := hfew.2 x hx; omega⟩
    have k0 : loadH (some 3) [delB d, delB d] (.hp 0 0) = some (dlD d) := rfl
    have sf := sfind_pure l d hok (by omega) [delB d, delB d]
    have ri := rises_pure l hok [delB d, delB d]
    have hge : ¬ (l.length : Int) ≤ findD l d := by
      rcases findD_hit l d with e | ⟨k, e, hk, _⟩ <;> omega
    have hlt : ¬ findD l d < -1 := by
      rcases findD_hit l d with e | ⟨k, e, hk, _⟩ <;> omega
    rcases findD_hit l d with e | ⟨k, e, hkl, hget⟩
    · have hk : ¬ 0 ≤ findD l d := by omega
      cases hr : risesV l with
      | false =>
        rw [hr] at ri
        simp only [hb1, thnH_some, true14_pure, notD_bool, Bool.not_true, thn_some, condK_bool, Bool.false_eq_true, if_false, few14_pure, h1, l0, ro, fw, k0, sf, lenH_dls, binK_geq, hge, decide_false, binK_lss, hlt, hk, ri, Bool.not_false, if_true]
      | true =>
        rw [hr] at ri
        have hno : d ∉ l := fun hm => hk ((findD_iff l d ((rises_pw l).1 hr)).2 hm)
        have key := loopF_invS (P := Tryz.prog) (T := L14 Tryz.prog) (kp := kp_offshootlaw14_SitesFind) (fn := Tryz.f6) (li := 0)
          (fun j s H => s = [dlsD l, .hp 0 0, bD false, bD true, iD j] ∧ H = [delB d, delB d])
          (fun r => r = (.exit 0, [dlsD l, .hp 0 0, bD false, bD true, iD l.length], [delB d, delB d])) l.length 302
          (fun j s H hj hI => by
            obtain ⟨rfl, rfl⟩ := hI
            have hlt : (j : Int) < (l.length : Int) := by omega
            have i1 := idx_dls l j hj
            have l1 := load_dl [delB d, delB d] l[j]
            have hmj := List.getElem_mem hj
            have c1 := dsame14 l[j] d (hok.2 _ hmj) (by omega) [delB d, delB d]
            rw [decide_eq_false (fun e => hno (by rw [← e]; exact hmj))] at c1
            have e1 := intD_add (j : Int) 1 (by omega) (by omega)
            refine ⟨[dlsD l, .hp 0 0, bD false, bD true, iD ((j + 1 : Nat) : Int)], [delB d, delB d], ?_, rfl, rfl⟩
            rw [st_offshootlaw14_SitesFind_0]
            simp only [lenH_dls, thn_some, binK_lss, hlt, decide_true, condK_bool, if_true, i1, l1, k0, c1, thnH_some, Bool.false_eq_true, if_false, binK_int, e1]
            rfl)
          (fun s H hI => by
            obtain ⟨rfl, rfl⟩ := hI
            refine ⟨_, ?_, (by intro e; cases e), rfl⟩
            rw [st_offshootlaw14_SitesFind_0]
            simp)
          (by omega) (s := [dlsD l, .hp 0 0, bD false, bD true, iD 0]) (H := [delB d, delB d]) ⟨rfl, rfl⟩
        obtain ⟨r, k1, rfl⟩ := key
        simp only [hb1, thnH_some, true14_pure, notD_bool, Bool.not_true, thn_some, condK_bool, Bool.false_eq_true, if_false, few14_pure, h1, l0, ro, fw, k0, sf, lenH_dls, binK_geq, hge, decide_false, binK_lss, hlt, hk, ri, k1, leaveK_exit, condN_same, List.getD_cons_zero, List.getD_cons_succ]
    · have hk : 0 ≤ findD l d := by omega
      have ix := idx_dls l k hkl
      have hk2 : l[k] = d := by rw [List.getElem?_eq_getElem hkl] at hget; exact Option.some.inj hget
      rw [hk2, ← e] at ix
      have ld := load_dl [delB d, delB d] d
      have ds := dsame14 d d (by omega) (by omega) [delB d, delB d]
      rw [decide_eq_true rfl] at ds
      cases hr : risesV l with
      | false =>
        rw [hr] at ri
        simp only [hb1, thnH_some, true14_pure, notD_bool, Bool.not_true, thn_some, condK_bool, Bool.false_eq_true, if_false, few14_pure, h1, l0, ro, fw, k0, sf, lenH_dls, binK_geq, hge, decide_false, binK_lss, hlt, hk, decide_true, if_true, ix, ld, ds, ri, Bool.not_false]
      | true =>
        rw [hr] at ri
        simp only [hb1, thnH_some, true14_pure, notD_bool, Bool.not_true, thn_some, condK_bool, Bool.false_eq_true, if_false, few14_pure, h1, l0, ro, fw, k0, sf, lenH_dls, binK_geq, hge, decide_false, binK_lss, hlt, hk, decide_true, if_true, ix, ld, ds, ri]
/-- How many of the first deltas have a path. -/
def cntP (ok : Bool) (own : List Int) (L : List Dl) : Nat := if ok then (L.filter fun x => decide (x.path = own)).length else 0
theorem cntP_succ (ok : Bool) (own : List Int) (L : List Dl) (j : Nat) (h : j < L.length) : cntP ok own (L.take (j + 1)) = cntP ok own (L.take j) + if ok = true ∧ L[j].path = own then 1 else 0 := by
  unfold cntP
  cases ok
  · simp
  · rw [List.take_succ_eq_append_getElem h, List.filter_append, List.length_append]
    by_cases e : L[j].path = own <;> simp [e]
theorem sitesCount_text (p : Pg) (at_ : Int) : ∃ H, textK Tryz.prog (L14 Tryz.prog) kp_offshootlaw14_SitesCount 2000 Tryz.f5 [progD p, iD at_] [] = some (bD true, H) := by
  rw [sh_offshootlaw14_SitesCount]
  have hb1 : boxH 25 (progD p) [] = some (.hp 0 0, [progB p]) := rfl
  have l0 : loadH (some 3) [progB p] (.hp 0 0) = some (progD p) := rfl
  refine ⟨[progB p], ?_⟩
  cases h1 : fewV p with
  | false => simp only [hb1, thnH_some, true14_pure, notD_bool, Bool.not_true, thn_some, condK_bool, Bool.false_eq_true, if_false, l0, few_pure, h1, Bool.not_false, if_true]
  | true =>
    obtain ⟨hb, hv, hp, hp'⟩ := few_fits h1
    have a1 := sall_pure p hp' [progB p]
    have x0 : extractD (.tup [dlsD (allV14 p), iD (chk9 p)]) 0 = some (dlsD (allV14 p)) := rfl
    have x1 : extractD (.tup [dlsD (allV14 p), iD (chk9 p)]) 1 = some (iD (chk9 p)) := rfl
    by_cases h0 : chk9 p = 0
    case neg =>
      have z0 : ((chk9 p) != 0) = true := bne_iff_ne.2 h0
      have ck := check14_pure p hp' [progB p]
      have hv0 : allV14 p = [] := by unfold allV14; rw [if_neg h0]
      have ln : (((allV14 p).length : Nat) : Int) = 0 := by rw [hv0]; rfl
      simp only [hb1, thnH_some, true14_pure, notD_bool, Bool.not_true, thn_some, condK_bool, Bool.false_eq_true, if_false, l0, few_pure, h1, a1, x0, x1, binK_neq, z0, if_true, ck, binK_eql, beq_self_eq_true, lenH_dls, ln]
    have z0 : ((chk9 p) != 0) = false := by rw [h0]; rfl
    obtain ⟨_, hE⟩ := chk9_len h0
    have hvs : allV14 p = headS p.body p.body.length := by unfold allV14; rw [if_pos h0]; rfl
    have hvl : (allV14 p).length ≤ 300 := by rw [hvs]; have := headS_len p.body p.body.length; omega
    have f2 : fieldAtH 2 (.hp 0 0) = some (.hp 0 2) := rfl
    have l2 : loadH none [progB p] (.hp 0 2) = some (nodesD p.body) := rfl
    have key := loopF_invS (P := Tryz.prog) (T := L14 Tryz.prog) (kp := kp_offshootlaw14_SitesCount) (fn := Tryz.f5) (li := 0)
      (fun j s H => s = [iD at_, .hp 0 0, bD true, dlsD (allV14 p), iD (headS p.body j).length, iD j, .undef, .undef, .undef, .undef] ∧ H = [progB p])
      (fun r => r = (.exit 0, [iD at_, .hp 0 0, bD true, dlsD (allV14 p), iD (headS p.body p.body.length).length, iD p.body.length, .undef, .undef, .undef, .undef], [progB p])) p.body.length 2000
      (fun j s H hj hI => by
        obtain ⟨rfl, rfl⟩ := hI
        have hlt : (j : Int) < (p.body.length : Int) := by omega
        have ch := choices_pure p.body j hp' [progB p]
        have hl1 := headS_len p.body j
        have hl2 := siteV_len p.body j
        have hl3 := choices_short p.body j
        have hl4 : (choicesD p.body j).length = (siteV p.body j).length := by rw [hl2]; simp [choicesD]
        have e1 := intD_add (j : Int) 1 (by omega) (by omega)
        have e2 := intD_add ((headS p.body j).length : Int) ((choicesD p.body j).length : Int) (by omega) (by omega)
        have c2 : ((headS p.body j).length : Int) + ((choicesD p.body j).length : Int) = ((headS p.body (j + 1)).length : Int) := by
          rw [headS_succ, List.length_append, hl4]; omega
        rw [c2] at e2
        refine ⟨[iD at_, .hp 0 0, bD true, dlsD (allV14 p), iD (headS p.body (j + 1)).length, iD ((j + 1 : Nat) : Int), .undef, .undef, .undef, .undef], [progB p], ?_, rfl, rfl⟩
        rw [st_offshootlaw14_SitesCount_0]
        simp only [f2, thn_some, l2, lenH_nodes, binK_lss, hlt, decide_true, condK_bool, if_true, ch, thnH_some, lenH_dls, binK_int, e2, e1]
        rfl)
      (fun s H hI => by
        obtain ⟨rfl, rfl⟩ := hI
        refine ⟨_, ?_, (by intro e; cases e), rfl⟩
        rw [st_offshootlaw14_SitesCount_0]
        have hlt : ¬ (p.body.length : Int) < (p.body.length : Int) := by omega
        simp only [f2, thn_some, l2, lenH_nodes, binK_lss, hlt, decide_false, condK_bool, Bool.false_eq_true, if_false])
      (by omega) (s := [iD at_, .hp 0 0, bD true, dlsD (allV14 p), iD 0, iD 0, .undef, .undef, .undef, .undef]) (H := [progB p]) ⟨rfl, rfl⟩
    obtain ⟨r, k1, rfl⟩ := key
    have o1 := of11_pure p.body at_ hp' [progB p]
    have y0 : extractD (.tup [intsD ((ofv p.body at_).getD []), bD (ofv p.body at_).isSome]) 0 = some (intsD ((ofv p.body at_).getD [])) := rfl
    have y1 : extractD (.tup [intsD ((ofv p.body at_).getD []), bD (ofv p.body at_).isSome]) 1 = some (bD (ofv p.body at_).isSome) := rfl
    have hown : ((ofv p.body at_).getD []).length ≤ 3000000 := by
      cases ho : ofv p.body at_ with
      | none => simp
      | some q => have := ofv_len14 p.body at_ q ho; simp; omega
    have hc : cntP (ofv p.body at_).isSome ((ofv p.body at_).getD []) (allV14 p) = (choicesD p.body at_).length := by
      unfold cntP
      cases ho : ofv p.body at_ with
      | none =>
        have hneg : endv p.body at_ < 0 := by
          refine Decidable.byContradiction fun hc => ?_
          have h3 := endv_in p.body at_ (by omega)
          have := (ofv_some_iff hE at_).2 ⟨h3.1, by omega⟩
          rw [ho] at this; cases this
        have : choicesD p.body at_ = [] := by unfold choicesD choicesV; rw [if_pos hneg]; rfl
        rw [this]; rfl
      | some q =>
        have := sitesV_own hE at_ q ho
        have hv2 : allV14 p = sitesV p.body := hvs
        rw [hv2]
        simp only [Option.isSome_some, if_true, Option.getD_some]
        rw [this, siteV_len]; simp [choicesD]
    have hq : ∀ x ∈ allV14 p, x.path.length ≤ 3000000 := fun x hx => by have := path_all hx; omega
    have ch := choices_pure p.body at_ hp' [progB p]
    have hcl := choices_short p.body at_
    have hcl2 : (choicesD p.body at_).length ≤ 5 := by simp [choicesD]; omega
    have hvs' : ((headS p.body p.body.length).length : Int) = ((allV14 p).length : Int) := by rw [hvs]
    rw [hvs'] at k1
    generalize (ofv p.body at_).getD [] = own at *
    generalize (ofv p.body at_).isSome = okb at *
    have hcb : ∀ j, cntP okb own ((allV14 p).take j) ≤ 300 := fun j => by
      unfold cntP
      split
      · refine Nat.le_trans (List.length_filter_le _ _) ?_
        rw [List.length_take]; omega
      · omega
    generalize allV14 p = L at *
    have key2 := loopF_invS (P := Tryz.prog) (T := L14 Tryz.prog) (kp := kp_offshootlaw14_SitesCount) (fn := Tryz.f5) (li := 1)
      (fun j s H => s = [iD at_, .hp 0 0, bD true, dlsD L, iD L.length, iD p.body.length, intsD own, bD okb, iD (cntP okb own (L.take j)), iD j] ∧ H = [progB p])
      (fun r => r = (.exit 2, [iD at_, .hp 0 0, bD true, dlsD L, iD L.length, iD p.body.length, intsD own, bD okb, iD (cntP okb own L), iD L.length], [progB p])) L.length 2000
      (fun j s H hj hI => by
        obtain ⟨rfl, rfl⟩ := hI
        have hlt : (j : Int) < (L.length : Int) := by omega
        have i1 := idx_dls L j hj
        have g0 : fieldAtH 0 (.ptr (dlC L[j])) = some (.ptr (dlC L[j])) := rfl
        have g1 : loadH none [progB p] (.ptr (dlC L[j])) = some (intsD L[j].path) := rfl
        have cm := compare_pure L[j].path own [progB p] (hq _ (List.getElem_mem hj)) hown
        have e1 := intD_add (j : Int) 1 (by omega) (by omega)
        have hs := cntP_succ okb own L j hj
        have hcj := hcb j
        have e2 := intD_add ((cntP okb own (L.take j)) : Int) 1 (by omega) (by omega)
        refine ⟨[iD at_, .hp 0 0, bD true, dlsD L, iD L.length, iD p.body.length, intsD own, bD okb, iD (cntP okb own (L.take (j + 1))), iD ((j + 1 : Nat) : Int)], [progB p], ?_, rfl, rfl⟩
        rw [st_offshootlaw14_SitesCount_1, hs]
        cases hok : okb with
        | false =>
          rw [hok] at hs e2
          simp only [lenH_dls, thn_some, binK_lss, hlt, decide_true, condK_bool, if_true, Bool.false_eq_true, false_and, if_false, Nat.add_zero, binK_int, e1]
          rfl
        | true =>
          rw [hok] at hs e2
          by_cases he : L[j].path = own
          · have q : ((cmpL L[j].path own) == 0) = true := by rw [(cmpL_zero _ _).2 he]; rfl
            rw [if_pos ⟨rfl, he⟩]
            simp only [lenH_dls, thn_some, binK_lss, hlt, decide_true, condK_bool, if_true, i1, g0, g1, cm, thnH_some, binK_eql, q, binK_int, e1, e2]
            rfl
          · have q : ((cmpL L[j].path own) == 0) = false := beq_eq_false_iff_ne.2 fun z => he ((cmpL_zero _ _).1 z)
            rw [if_neg (fun z => he z.2)]
            simp only [lenH_dls, thn_some, binK_lss, hlt, decide_true, condK_bool, if_true, i1, g0, g1, cm, thnH_some, binK_eql, q, Bool.false_eq_true, if_false, binK_int, e1, Nat.add_zero]
            rfl)
      (fun s H hI => by
        obtain ⟨rfl, rfl⟩ := hI
        refine ⟨_, ?_, (by intro e; cases e), rfl⟩
        rw [st_offshootlaw14_SitesCount_1, List.take_length]
        have hlt : ¬ (L.length : Int) < (L.length : Int) := by omega
        simp only [lenH_dls, thn_some, binK_lss, hlt, decide_false, condK_bool, Bool.false_eq_true, if_false])
      (by omega) (s := [iD at_, .hp 0 0, bD true, dlsD L, iD L.length, iD p.body.length, intsD own, bD okb, iD 0, iD 0]) (H := [progB p]) ⟨by cases okb <;> simp [cntP], rfl⟩
    obtain ⟨r, k2, rfl⟩ := key2
    have hc' : ((cntP okb own L : Nat) : Int) = ((choicesD p.body at_).length : Int) := by rw [hc]
    simp only [hb1, thnH_some, true14_pure, notD_bool, Bool.not_true, thn_some, condK_bool, Bool.false_eq_true, if_false, l0, few_pure, h1, a1, x0, x1, binK_neq, z0, k1, leaveK_exit, condN_same, List.getD_cons_zero, List.getD_cons_succ, f2, l2, o1, y0, y1, k2, if_true, lenH_dls, binK_eql, beq_self_eq_true, ch, hc']
end Go.Proofs.YtinnbafplhcnpaaGreat
end

section
namespace Go.Proofs.YtinnbafplhcnpaaGreat
open Go.ChangeShapes Go.WideShapes Go.ChangeAt Go.RowKit Go.Deep Go.Joins
set_option linter.unusedVariables false
set_option maxRecDepth 100000

section
variable {H : Type} {enc : TypeId × Value → H} {W : World} {d : DataW H} {p : List MemPlace}
end
end Go.Proofs.YtinnbafplhcnpaaGreat
end

section
namespace Go.Proofs.YtinnbafplhcnpaaGreat
open Go.ChangeShapes Go.WideShapes Go.ChangeAt Go.RowKit Go.Deep Go.Joins Go.ChangeMaps
set_option linter.unusedVariables false
set_option maxRecDepth 100000

section
variable {H : Type} {enc : TypeId × Value → H} {W : World} {d : DataW H} {p : List MemPlace}
abbrev goInt (n : Int) : Prop := -9223372036854775808 ≤ n ∧ n ≤ 9223372036854775807
theorem wf_int {n : Int} (h : (Lit.int .i64 n).wf = true) : goInt n := by
  have e1 : IntKind.i64.min = -9223372036854775808 := by decide
  have e2 : IntKind.i64.max = 9223372036854775807 := by decide
  simp only [Lit.wf, Bool.and_eq_true, decide_eq_true_eq, e1, e2] at h
  exact h
theorem intsR_of {v : Value} {n0 : Nat} {y : DataW H × List MemPlace} (hf : DataW.trod enc Tryz.prog W 0 (fun _ => true) true n0 22 [v] = some y) : ∃ l, IntsAt W v l ∧ ∀ n ∈ l, goInt n := by
  rcases open_ints Tryz.underlying22 Tryz.underlying3 (by kernel_rfl) hf with ⟨hcs, _⟩ | ⟨x, len, cap, zs, hcs, _, hl, hm, hz, _, hcell, hwz⟩
  · simp only [List.cons.injEq, and_true] at hcs
    subst hcs
    exact ⟨[], .inl ⟨none, 0, rfl, rfl, rfl, fun _ => rfl⟩, by simp⟩
  · simp only [List.cons.injEq, and_true] at hcs
    subst hcs
    have hz' : zs.length = cap := by simpa using hz
    refine ⟨zs.take len, ?_, fun n hn => wf_int (hwz n (List.mem_of_mem_take hn))⟩
    have hlen : (zs.take len).length = len := by rw [List.length_take]; omega
    by_cases h0 : len = 0
    · subst h0; exact .inl ⟨_, cap, rfl, hlen, by simp, fun h => by cases h⟩
    · obtain ⟨b, off, rfl, hc⟩ := ints_at hcell (by omega)
      refine .inr ⟨b, off, cap, by rw [hlen], by omega, by omega, ?_, fun j hj => ?_⟩
      · exact block_lt (hc 0 (by omega))
      · have hj' : j < len := by rw [List.length_map, hlen] at hj; exact hj
        have hjz : j < zs.length := by omega
        rw [hc j hjz, List.getElem?_map, List.getElem?_take_of_lt hj', List.getElem?_eq_getElem hjz]
        simp [hjz]

theorem nodesR_of {v : Value} {n0 : Nat} {y : DataW H × List MemPlace} (hf : DataW.trod enc Tryz.prog W 0 (fun _ => true) true n0 23 [v] = some y) : ∃ l, NodesAt W v l ∧ ∀ n ∈ l, goInt n.1 ∧ goInt n.2 := by
  rcases open_slice_pairs Tryz.underlying23 Tryz.underlying54 (by kernel_rfl) rfl rfl (by kernel_rfl) (by kernel_rfl) hf with ⟨hcs, _⟩ | ⟨x, len, cap, m, n, V0, V1, D0, D1, P0, P1, hcs, _, hl, hm, hmm, _, hx⟩
  · simp only [List.cons.injEq, and_true] at hcs
    subst hcs
    exact ⟨[], .inl ⟨none, 0, rfl, rfl, rfl, fun _ => rfl⟩, by simp⟩
  · simp only [List.cons.injEq, and_true] at hcs
    subst hcs
    have hm' : m = cap := by simpa using hmm
    subst hm'
    have hnum : ∀ i, i < m → ∃ t z : Int, V0 i = .int .i64 t ∧ V1 i = .int .i64 z ∧ goInt t ∧ goInt z := fun i hi => by
      obtain ⟨_, _, h0, h1⟩ := hx i hi
      obtain ⟨t, e0, _, w0⟩ := DataW.trod_int Tryz.underlying3 h0
      obtain ⟨z, e1, _, w1⟩ := DataW.trod_int Tryz.underlying3 h1
      exact ⟨t, z, by simpa using e0, by simpa using e1, wf_int w0, wf_int w1⟩
    let f : Nat → Nd := fun i => (match V0 i with | .int _ t => t | _ => 0, match V1 i with | .int _ z => z | _ => 0)
    have hf0 : ∀ i, i < m → V0 i = .int .i64 (f i).1 ∧ V1 i = .int .i64 (f i).2 ∧ goInt (f i).1 ∧ goInt (f i).2 := fun i hi => by
      obtain ⟨t, z, e0, e1, w0, w1⟩ := hnum i hi
      simp only [f, e0, e1]; exact ⟨trivial, trivial, w0, w1⟩
    refine ⟨(List.range len).map f, ?_, fun n hn => by
      obtain ⟨i, hi, rfl⟩ := List.mem_map.1 hn
      exact (hf0 i (by have := List.mem_range.1 hi; omega)).2.2⟩
    have hlen : ((List.range len).map f).length = len := by simp
    by_cases h0 : len = 0
    · subst h0; exact .inl ⟨_, m, rfl, by simp, by simp [nodeCells], fun h => by cases h⟩
    · have hc0 := (hx 0 (by omega)).1
      have hsp := spot_none hc0
      obtain ⟨b, off, sp⟩ := x
      have hsp' : sp = none := by simpa [Addr.add] using hsp
      subst hsp'
      have hblt : b < W.heap.size := by have := block_lt hc0; rwa [addr_addA] at this
      refine .inr ⟨b, off, m, by rw [hlen], by omega, by omega, hblt, fun j hj => ?_⟩
      rw [nodeCells_length, hlen] at hj
      obtain ⟨q, hq⟩ : ∃ q, j = 2 * q ∨ j = 2 * q + 1 := ⟨j / 2, by omega⟩
      have hqm : q < m := by omega
      have hql : q < ((List.range len).map f).length := by rw [hlen]; omega
      obtain ⟨g1, g2, _⟩ := hx q hqm
      obtain ⟨e0, e1, _⟩ := hf0 q hqm
      rw [addr_addA] at g1 g2
      rcases hq with rfl | rfl
      · rw [nodeCells_get0 _ q hql, show off + 2 * q = off + q * 2 from by omega, g1, e0]; simp
      · rw [nodeCells_get1 _ q hql, show off + (2 * q + 1) = off + (q * 2 + 1) from by omega, g2, e1]; simp

/-- A program of Go's numbers. -/
def pgGo (x : Pg) : Prop := goInt x.params ∧ (∀ n ∈ x.vars, goInt n) ∧ ∀ n ∈ x.body, goInt n.1 ∧ goInt n.2
theorem arg_progR {base : Nat} {v : Value} (hv : Value.okWide Tryz.prog W .any base 25 v) (h : DataW.Trod enc Tryz.prog W 0 (fun _ => true) true 25 v d p) : ∃ x : Pg, Rep (· < W.heap.size) [] W v (progD x) ∧ pgGo x := by
  obtain ⟨v0, v1, v2, y0, y1, y2, n, rfl, _, _, h0, h1, h2⟩ := open_agg3 Tryz.underlying25 (by kernel_rfl) (by kernel_rfl) hv h
  obtain ⟨t, e0, _, i0⟩ := DataW.trod_int Tryz.underlying3 h0
  obtain ⟨l1, w1, i1⟩ := intsR_of h1
  obtain ⟨l2, w2, i2⟩ := nodesR_of h2
  simp at e0
  refine ⟨⟨t, l1, l2⟩, ?_, wf_int i0, i1, i2⟩
  simp only [progD, progC, Rep]
  exact ⟨[v0, v1, v2], rfl, RepA.cons (by rw [e0]; exact rep_int t) (RepA.cons (intsD_rep w1) (RepA.cons (nodesD_rep w2) RepA.nil))⟩
end
end Go.Proofs.YtinnbafplhcnpaaGreat
end

section
namespace Go.Proofs.YtinnbafplhcnpaaGreat
open Go.ChangeShapes Go.WideShapes Go.ChangeAt Go.RowKit Go.Deep Go.Joins Go.ChangeMaps
set_option linter.unusedVariables false
set_option maxRecDepth 100000

section
variable {H : Type} {enc : TypeId × Value → H} {W : World} {d : DataW H} {p : List MemPlace}
theorem arg_deltaS {base : Nat} {v : Value} (hv : Value.okWide Tryz.prog W .any base 34 v) (h : DataW.Trod enc Tryz.prog W 0 (fun _ => true) true 34 v d p) : ∃ x : Dl, Rep (· < W.heap.size) [] W v (dlD x) := by
  obtain ⟨v0, v1, v2, y0, y1, y2, n, rfl, _, _, h0, h1, h2⟩ := open_agg3 Tryz.underlying34 (by kernel_rfl) (by kernel_rfl) hv h
  obtain ⟨l0, w0, i0⟩ := intsR_of h0
  obtain ⟨o, e1, _, i1⟩ := DataW.trod_int Tryz.underlying3 h1
  obtain ⟨m, e2, _, i2⟩ := DataW.trod_int Tryz.underlying3 h2
  simp at e1 e2
  refine ⟨⟨l0, o, m⟩, ?_⟩
  simp only [dlD, dlC, Rep]
  exact ⟨[v0, v1, v2], rfl, RepA.cons (intsD_rep w0) (RepA.cons (by rw [e1]; exact rep_int o) (RepA.cons (by rw [e2]; exact rep_int m) RepA.nil))⟩
theorem repR_each {S : Nat → Prop} {b sz : Nat} : ∀ (els : List (List D)) (o : Nat), (∀ i (h : i < els.length), els[i].length = sz ∧ RepC S [] W b (o + i * sz) els[i]) → RepR S [] W b o sz els
  | [], o, h => by simp only [RepR]
  | e :: r, o, h => by
    simp only [RepR]
    have h0 := h 0 (by simp)
    simp only [Nat.zero_mul, Nat.add_zero, List.getElem_cons_zero] at h0
    refine ⟨h0.1, h0.2, repR_each r (o + sz) fun i hi => ?_⟩
    have := h (i + 1) (by simp; omega)
    simp only [List.getElem_cons_succ] at this
    rwa [show o + sz + i * sz = o + (i + 1) * sz from by rw [Nat.add_mul]; omega]
theorem arg_deltasS {base : Nat} {v : Value} (hv : Value.okWide Tryz.prog W .any base 28 v) (h : DataW.Trod enc Tryz.prog W 0 (fun _ => true) true 28 v d p) : ∃ l : List Dl, Rep (· < W.heap.size) [] W v (dlsD l) := by
  obtain ⟨a, len, cap, rfl⟩ := okWide_slice Tryz.underlying28 hv
  obtain ⟨fuel, hf⟩ := h
  have ce : Tryz.prog.cellsOf 34 = 3 := by kernel_rfl
  have cA : Tryz.prog.cellsOf 22 = 1 := by kernel_rfl
  have cI : Tryz.prog.cellsOf 3 = 1 := by kernel_rfl
  rcases open_slice Tryz.underlying28 hf with ⟨hcs, _⟩ | ⟨x, l, c, m, n, DD, Pl, hcs, _, hl, hm, hmm, _, hx⟩
  · simp [Value.cells] at hcs
    obtain ⟨rfl, rfl, rfl⟩ := hcs
    refine ⟨[], ?_⟩
    simp only [dlsD, List.map_nil, Rep]
    exact .inl ⟨trivial, none, 0, rfl, fun _ => rfl⟩
  · simp [Value.cells] at hcs
    obtain ⟨rfl, rfl, rfl⟩ := hcs
    have hm' : m = cap := by simpa using hmm
    subst hm'
    have each : ∀ i, i < m → ∃ q : Dl × Value, W.cell? (x.add (i * 3)) = some q.2 ∧ IntsAt W q.2 q.1.path ∧ W.cell? (x.add (i * 3 + 1)) = some (.int .i64 q.1.op) ∧ W.cell? (x.add (i * 3 + 2)) = some (.int .i64 q.1.n) := by
      intro i hi
      obtain ⟨cs', h1, h2⟩ := hx i hi
      rw [ce] at h1
      obtain ⟨_, hlen, hcell⟩ := World.cells?_some h1
      match cs', hlen with
      | [v0, v1, v2], _ =>
        obtain ⟨y0, y1, y2, n', hxx, _, g0, g1, g2⟩ := trod_struct3 Tryz.underlying34 h2
        have e0 := hcell 0 (by omega)
        have e1 := hcell 1 (by omega)
        have e2 := hcell 2 (by omega)
        rw [Go.Deep.add_add] at e0 e1 e2
        obtain ⟨l0, w0, _⟩ := intsR_of (v := v0) (y := y0) (n0 := n') (by simpa [cA] using g0)
        obtain ⟨o, z1, _, _⟩ := DataW.trod_int Tryz.underlying3 (show DataW.trod enc Tryz.prog W 0 (fun _ => true) true n' 3 [v1] = some y1 by simpa [cI] using g1)
        obtain ⟨k, z2, _, _⟩ := DataW.trod_int Tryz.underlying3 (show DataW.trod enc Tryz.prog W 0 (fun _ => true) true n' 3 [v2] = some y2 by simpa [cI] using g2)
        simp at z1 z2
        subst z1
        subst z2
        exact ⟨(⟨l0, o, k⟩, v0), by simpa using e0, w0, by simpa using e1, by simpa using e2⟩
    obtain ⟨q, hq⟩ := choose_lt each
    refine ⟨(List.range len).map fun i => (q i).1, ?_⟩
    by_cases h0 : len = 0
    · subst h0
      simp only [dlsD, List.range_zero, List.map_nil, Rep]
      exact .inl ⟨trivial, _, m, rfl, fun e => by cases e⟩
    · have hc0 := (hq 0 (by omega)).1
      have hsp := spot_none hc0
      obtain ⟨b, off, sp⟩ := x
      have hsp' : sp = none := by simpa [Addr.add] using hsp
      subst hsp'
      have hblt : b < W.heap.size := by have := block_lt hc0; rwa [addr_addA] at this
      simp only [dlsD, Rep]
      refine .inr ⟨b, off, m, by simp, by simp; omega, by simp; omega, hblt, repR_each _ _ fun i hi => ?_⟩
      simp only [List.length_map, List.length_range] at hi
      obtain ⟨g0, g1, g2, g3⟩ := hq i (by omega)
      rw [addr_addA] at g0 g2 g3
      have he : ((List.map (fun i => (q i).1) (List.range len)).map dlC)[i]'(by simpa using hi) = dlC (q i).1 := by simp
      rw [he]
      refine ⟨rfl, ?_⟩
      simp only [dlC, RepC]
      refine ⟨⟨_, g0, intsD_rep g1⟩, ⟨_, by rw [Nat.add_assoc]; exact g2, rep_int _⟩, ⟨_, by rw [Nat.add_assoc, Nat.add_assoc]; exact g3, rep_int _⟩, trivial⟩
end
end Go.Proofs.YtinnbafplhcnpaaGreat
end

section
namespace Go.Proofs.YtinnbafplhcnpaaGreat
open Go.RowKit
set_option linter.unusedVariables false

theorem sitesAll_walk (p : Pg) (v : Value) (w : World) (hv : Rep (· < w.heap.size) [] w v (progD p)) (hp : pgGo p) :
    Calls Tryz.prog 3 #[v] w fun e w' => e = .returned (.bool true) ∧ Below w.heap.size w w' := by
  obtain ⟨H, hH⟩ := sitesAll_text p
  exact law_walk L14_ok mixed Tryz.func3 (by kernel_rfl) (by decide) hH (vs := [v]) (RepA.cons hv RepA.nil)
theorem sitesJust_walk (p : Pg) (v : Value) (d : Dl) (u : Value) (w : World) (hv : Rep (· < w.heap.size) [] w v (progD p)) (hp : pgGo p) (hu : Rep (· < w.heap.size) [] w u (dlD d)) :
    Calls Tryz.prog 7 #[v, u] w fun e w' => e = .returned (.bool true) ∧ Below w.heap.size w w' := by
  obtain ⟨H, hH⟩ := sitesJust_text p d
  exact law_walk L14_ok mixed Tryz.func7 (by kernel_rfl) (by decide) hH (vs := [v, u]) (RepA.cons hv (RepA.cons hu RepA.nil))
theorem sitesFind_walk (l : List Dl) (v : Value) (d : Dl) (u : Value) (w : World) (hv : Rep (· < w.heap.size) [] w v (dlsD l)) (hu : Rep (· < w.heap.size) [] w u (dlD d)) :
    Calls Tryz.prog 6 #[v, u] w fun e w' => e = .returned (.bool true) ∧ Below w.heap.size w w' := by
  obtain ⟨H, hH⟩ := sitesFind_text l d
  exact law_walk L14_ok mixed Tryz.func6 (by kernel_rfl) (by decide) hH (vs := [v, u]) (RepA.cons hv (RepA.cons hu RepA.nil))
theorem sitesCount_walk (p : Pg) (v : Value) (n : Int) (w : World) (hv : Rep (· < w.heap.size) [] w v (progD p)) (hp : pgGo p) :
    Calls Tryz.prog 5 #[v, .int .i64 n] w fun e w' => e = .returned (.bool true) ∧ Below w.heap.size w w' := by
  obtain ⟨H, hH⟩ := sitesCount_text p n
  exact law_walk L14_ok mixed Tryz.func5 (by kernel_rfl) (by decide) hH (vs := [v, .int .i64 n]) (RepA.cons hv (RepA.cons (rep_int n) RepA.nil))
end Go.Proofs.YtinnbafplhcnpaaGreat
end
