/-
  Parts joined into one text: C09h, C09i, T09h. No condition.
-/
import Derived.Test.YtinnbafplhcnpaaGreatGl

section
namespace Go.Proofs.YtinnbafplhcnpaaGreat
open Go.RowKit
set_option linter.unusedVariables false
set_option linter.unusedSimpArgs false
set_option maxHeartbeats 1000000

theorem refOf_tag1 (m : Nat) (p : Pg) (k : Nat) (hp : p.body.length ≤ 3000000) (hm : 0 < m) (hE : 0 ≤ endv p.body k) (hk : k < p.body.length) (hkm : ∀ j ∈ kidsv p.body k, p.body.length < j.toNat + m) (htg : p.body[k].1 = 1) : ∃ H, textK Tryz.prog (T09f m) kp_offshootref09_Of ((kidsv p.body k).length + 1) Tryz.f59 [progD p, iD k] [] = some (iD (kindV (m + 1) p.vars p.body k), H) := by
  rw [sh_offshootref09_Of]
  have hE' : ¬ endv p.body k < 0 := by omega
  have har : 0 ≤ ar p.body[k] := by have := endv_ar p.body k hE; rwa [arAt_in _ _ hk] at this
  have hcount := kids_count p.body k hE hk
  rw [show p.body[k] = (p.body[k].1, p.body[k].2) from rfl] at har hcount
  have hkl := kidsv_len p.body k
  have hkind := kind_all m p k hE hk
  have hend := refEnd_pure p.body k hp
  have hkids := refKids_pure p.body k hp
  have ea : ∀ o : HO, allocH 54 [iD 0, iD 0] [o] = some (.hp 1 0, [o, .cells 54 2 [iD 0, iD 0]]) := fun o => rfl
  have es : ∀ o : HO, setH 2 (.hp 1 0) (.agg (nodeD p.body[k])) [o, .cells 54 2 [iD 0, iD 0]] = some (.v undef, [o, .cells 54 2 [iD p.body[k].1, iD p.body[k].2]]) := fun o => rfl
  have ep : D.agg [iD p.params, intsD p.vars, nodesD p.body] = progD p := rfl
  have hkid : ∀ j ∈ kidsv p.body k, 0 ≤ j ∧ j.toNat < p.body.length := fun j hj => by
    obtain ⟨c, hc, e⟩ := List.getElem_of_mem hj
    have := kid_facts p.body k c hc
    rw [e] at this
    exact ⟨by omega, this.2.2.2⟩
  have hall := all_obj m p (kidsv p.body k) hp (by omega) hm hkm
  have hblk := blocks_pure p (kidsv p.body k) (by omega) hkid
  have hloop := blk_loop m p (.cells 54 2 [iD p.body[k].1, iD p.body[k].2]) (kidsv p.body k) hp hm hkl hkm ((kidsv p.body k).length + 1) (by omega)
  have hti : ∀ t, p.body[k].1 = t → inner p.body[k].1 = inner t := fun t e => by rw [e]
  rw [htg] at *
  generalize hnn : p.body[k].2 = nn at *
  have a1 : ∀ (o1 o2 : HO) (a : Int), liftF (F_all m) [progD p, intsD (kidsv p.body k), .hs 2 1] [o1, o2, .cells 3 1 [iD a]] = some (bD (allV m p (kidsv p.body k) [a]), [o1, o2, .cells 3 1 [iD a]]) := fun o1 o2 a => hall _ 2 3 [a] rfl
  have a2 : ∀ (o1 o2 : HO) (a b : Int), liftF (F_all m) [progD p, intsD (kidsv p.body k), .hs 2 2] [o1, o2, .cells 3 1 [iD a, iD b]] = some (bD (allV m p (kidsv p.body k) [a, b]), [o1, o2, .cells 3 1 [iD a, iD b]]) := fun o1 o2 a b => hall _ 2 3 [a, b] rfl
  have a3 : ∀ (o1 o2 : HO) (a b c : Int), liftF (F_all m) [progD p, intsD (kidsv p.body k), .hs 2 3] [o1, o2, .cells 3 1 [iD a, iD b, iD c]] = some (bD (allV m p (kidsv p.body k) [a, b, c]), [o1, o2, .cells 3 1 [iD a, iD b, iD c]]) := fun o1 o2 a b c => hall _ 2 3 [a, b, c] rfl
  · skip
    have hq := hkind (.plain [] 0) rfl
    have hnil : kidsv p.body k = [] := by
      have h0 : ar (1, nn) ≤ 0 := by unfold ar lim; simp; try (split <;> omega)
      apply List.eq_nil_of_length_eq_zero; omega
    rw [hnil] at hq
    exact ⟨_, by simp [idx_nodesN _ _ hk, hend, hE', ea, es, hkids, ep, typed_pure, size_pure, kindF_pure, row1, row2, row3, a1, a2, a3, hblk, hq, ruleKind, askV, inner, allV]; rfl⟩

theorem refOf_tag2 (m : Nat) (p : Pg) (k : Nat) (hp : p.body.length ≤ 3000000) (hm : 0 < m) (hE : 0 ≤ endv p.body k) (hk : k < p.body.length) (hkm : ∀ j ∈ kidsv p.body k, p.body.length < j.toNat + m) (htg : p.body[k].1 = 2) : ∃ H, textK Tryz.prog (T09f m) kp_offshootref09_Of ((kidsv p.body k).length + 1) Tryz.f59 [progD p, iD k] [] = some (iD (kindV (m + 1) p.vars p.body k), H) := by
  rw [sh_offshootref09_Of]
  have hE' : ¬ endv p.body k < 0 := by omega
  have har : 0 ≤ ar p.body[k] := by have := endv_ar p.body k hE; rwa [arAt_in _ _ hk] at this
  have hcount := kids_count p.body k hE hk
  rw [show p.body[k] = (p.body[k].1, p.body[k].2) from rfl] at har hcount
  have hkl := kidsv_len p.body k
  have hkind := kind_all m p k hE hk
  have hend := refEnd_pure p.body k hp
  have hkids := refKids_pure p.body k hp
  have ea : ∀ o : HO, allocH 54 [iD 0, iD 0] [o] = some (.hp 1 0, [o, .cells 54 2 [iD 0, iD 0]]) := fun o => rfl
  have es : ∀ o : HO, setH 2 (.hp 1 0) (.agg (nodeD p.body[k])) [o, .cells 54 2 [iD 0, iD 0]] = some (.v undef, [o, .cells 54 2 [iD p.body[k].1, iD p.body[k].2]]) := fun o => rfl
  have ep : D.agg [iD p.params, intsD p.vars, nodesD p.body] = progD p := rfl
  have hkid : ∀ j ∈ kidsv p.body k, 0 ≤ j ∧ j.toNat < p.body.length := fun j hj => by
    obtain ⟨c, hc, e⟩ := List.getElem_of_mem hj
    have := kid_facts p.body k c hc
    rw [e] at this
    exact ⟨by omega, this.2.2.2⟩
  have hall := all_obj m p (kidsv p.body k) hp (by omega) hm hkm
  have hblk := blocks_pure p (kidsv p.body k) (by omega) hkid
  have hloop := blk_loop m p (.cells 54 2 [iD p.body[k].1, iD p.body[k].2]) (kidsv p.body k) hp hm hkl hkm ((kidsv p.body k).length + 1) (by omega)
  have hti : ∀ t, p.body[k].1 = t → inner p.body[k].1 = inner t := fun t e => by rw [e]
  rw [htg] at *
  generalize hnn : p.body[k].2 = nn at *
  have a1 : ∀ (o1 o2 : HO) (a : Int), liftF (F_all m) [progD p, intsD (kidsv p.body k), .hs 2 1] [o1, o2, .cells 3 1 [iD a]] = some (bD (allV m p (kidsv p.body k) [a]), [o1, o2, .cells 3 1 [iD a]]) := fun o1 o2 a => hall _ 2 3 [a] rfl
  have a2 : ∀ (o1 o2 : HO) (a b : Int), liftF (F_all m) [progD p, intsD (kidsv p.body k), .hs 2 2] [o1, o2, .cells 3 1 [iD a, iD b]] = some (bD (allV m p (kidsv p.body k) [a, b]), [o1, o2, .cells 3 1 [iD a, iD b]]) := fun o1 o2 a b => hall _ 2 3 [a, b] rfl
  have a3 : ∀ (o1 o2 : HO) (a b c : Int), liftF (F_all m) [progD p, intsD (kidsv p.body k), .hs 2 3] [o1, o2, .cells 3 1 [iD a, iD b, iD c]] = some (bD (allV m p (kidsv p.body k) [a, b, c]), [o1, o2, .cells 3 1 [iD a, iD b, iD c]]) := fun o1 o2 a b c => hall _ 2 3 [a, b, c] rfl
  · skip
    have hq := hkind (.plain [] 1) rfl
    have hnil : kidsv p.body k = [] := by
      have h0 : ar (2, nn) ≤ 0 := by unfold ar lim; simp; try (split <;> omega)
      apply List.eq_nil_of_length_eq_zero; omega
    rw [hnil] at hq
    exact ⟨_, by simp [idx_nodesN _ _ hk, hend, hE', ea, es, hkids, ep, typed_pure, size_pure, kindF_pure, row1, row2, row3, a1, a2, a3, hblk, hq, ruleKind, askV, inner, allV]; rfl⟩

theorem refOf_tag3 (m : Nat) (p : Pg) (k : Nat) (hp : p.body.length ≤ 3000000) (hm : 0 < m) (hE : 0 ≤ endv p.body k) (hk : k < p.body.length) (hkm : ∀ j ∈ kidsv p.body k, p.body.length < j.toNat + m) (htg : p.body[k].1 = 3) : ∃ H, textK Tryz.prog (T09f m) kp_offshootref09_Of ((kidsv p.body k).length + 1) Tryz.f59 [progD p, iD k] [] = some (iD (kindV (m + 1) p.vars p.body k), H) := by
  rw [sh_offshootref09_Of]
  have hE' : ¬ endv p.body k < 0 := by omega
  have har : 0 ≤ ar p.body[k] := by have := endv_ar p.body k hE; rwa [arAt_in _ _ hk] at this
  have hcount := kids_count p.body k hE hk
  rw [show p.body[k] = (p.body[k].1, p.body[k].2) from rfl] at har hcount
  have hkl := kidsv_len p.body k
  have hkind := kind_all m p k hE hk
  have hend := refEnd_pure p.body k hp
  have hkids := refKids_pure p.body k hp
  have ea : ∀ o : HO, allocH 54 [iD 0, iD 0] [o] = some (.hp 1 0, [o, .cells 54 2 [iD 0, iD 0]]) := fun o => rfl
  have es : ∀ o : HO, setH 2 (.hp 1 0) (.agg (nodeD p.body[k])) [o, .cells 54 2 [iD 0, iD 0]] = some (.v undef, [o, .cells 54 2 [iD p.body[k].1, iD p.body[k].2]]) := fun o => rfl
  have ep : D.agg [iD p.params, intsD p.vars, nodesD p.body] = progD p := rfl
  have hkid : ∀ j ∈ kidsv p.body k, 0 ≤ j ∧ j.toNat < p.body.length := fun j hj => by
    obtain ⟨c, hc, e⟩ := List.getElem_of_mem hj
    have := kid_facts p.body k c hc
    rw [e] at this
    exact ⟨by omega, this.2.2.2⟩
  have hall := all_obj m p (kidsv p.body k) hp (by omega) hm hkm
  have hblk := blocks_pure p (kidsv p.body k) (by omega) hkid
  have hloop := blk_loop m p (.cells 54 2 [iD p.body[k].1, iD p.body[k].2]) (kidsv p.body k) hp hm hkl hkm ((kidsv p.body k).length + 1) (by omega)
  have hti : ∀ t, p.body[k].1 = t → inner p.body[k].1 = inner t := fun t e => by rw [e]
  rw [htg] at *
  generalize hnn : p.body[k].2 = nn at *
  have a1 : ∀ (o1 o2 : HO) (a : Int), liftF (F_all m) [progD p, intsD (kidsv p.body k), .hs 2 1] [o1, o2, .cells 3 1 [iD a]] = some (bD (allV m p (kidsv p.body k) [a]), [o1, o2, .cells 3 1 [iD a]]) := fun o1 o2 a => hall _ 2 3 [a] rfl
  have a2 : ∀ (o1 o2 : HO) (a b : Int), liftF (F_all m) [progD p, intsD (kidsv p.body k), .hs 2 2] [o1, o2, .cells 3 1 [iD a, iD b]] = some (bD (allV m p (kidsv p.body k) [a, b]), [o1, o2, .cells 3 1 [iD a, iD b]]) := fun o1 o2 a b => hall _ 2 3 [a, b] rfl
  have a3 : ∀ (o1 o2 : HO) (a b c : Int), liftF (F_all m) [progD p, intsD (kidsv p.body k), .hs 2 3] [o1, o2, .cells 3 1 [iD a, iD b, iD c]] = some (bD (allV m p (kidsv p.body k) [a, b, c]), [o1, o2, .cells 3 1 [iD a, iD b, iD c]]) := fun o1 o2 a b c => hall _ 2 3 [a, b, c] rfl
  · skip
    have hq := hkind (.scalar false) rfl
    have hnil : kidsv p.body k = [] := by
      have h0 : ar (3, nn) ≤ 0 := by unfold ar lim; simp; try (split <;> omega)
      apply List.eq_nil_of_length_eq_zero; omega
    rw [hnil] at hq
    by_cases h0 : typedV p.vars nn = 0
    · exact ⟨_, by simp [idx_nodesN _ _ hk, hend, hE', ea, es, hkids, ep, typed_pure, size_pure, kindF_pure, row1, row2, row3, a1, a2, a3, hblk, hq, ruleKind, scalarKindV, askV, inner, allV, h0, hnn]; rfl⟩
    · by_cases h1 : typedV p.vars nn = 1
      · exact ⟨_, by simp [idx_nodesN _ _ hk, hend, hE', ea, es, hkids, ep, typed_pure, size_pure, kindF_pure, row1, row2, row3, a1, a2, a3, hblk, hq, ruleKind, scalarKindV, askV, inner, allV, h0, h1, hnn]; rfl⟩
      · exact ⟨_, by simp [idx_nodesN _ _ hk, hend, hE', ea, es, hkids, ep, typed_pure, size_pure, kindF_pure, row1, row2, row3, a1, a2, a3, hblk, hq, ruleKind, scalarKindV, askV, inner, allV, h0, h1, hnn]; rfl⟩

theorem refOf_tag4 (m : Nat) (p : Pg) (k : Nat) (hp : p.body.length ≤ 3000000) (hm : 0 < m) (hE : 0 ≤ endv p.body k) (hk : k < p.body.length) (hkm : ∀ j ∈ kidsv p.body k, p.body.length < j.toNat + m) (htg : p.body[k].1 = 4) : ∃ H, textK Tryz.prog (T09f m) kp_offshootref09_Of ((kidsv p.body k).length + 1) Tryz.f59 [progD p, iD k] [] = some (iD (kindV (m + 1) p.vars p.body k), H) := by
  rw [sh_offshootref09_Of]
  have hE' : ¬ endv p.body k < 0 := by omega
  have har : 0 ≤ ar p.body[k] := by have := endv_ar p.body k hE; rwa [arAt_in _ _ hk] at this
  have hcount := kids_count p.body k hE hk
  rw [show p.body[k] = (p.body[k].1, p.body[k].2) from rfl] at har hcount
  have hkl := kidsv_len p.body k
  have hkind := kind_all m p k hE hk
  have hend := refEnd_pure p.body k hp
  have hkids := refKids_pure p.body k hp
  have ea : ∀ o : HO, allocH 54 [iD 0, iD 0] [o] = some (.hp 1 0, [o, .cells 54 2 [iD 0, iD 0]]) := fun o => rfl
  have es : ∀ o : HO, setH 2 (.hp 1 0) (.agg (nodeD p.body[k])) [o, .cells 54 2 [iD 0, iD 0]] = some (.v undef, [o, .cells 54 2 [iD p.body[k].1, iD p.body[k].2]]) := fun o => rfl
  have ep : D.agg [iD p.params, intsD p.vars, nodesD p.body] = progD p := rfl
  have hkid : ∀ j ∈ kidsv p.body k, 0 ≤ j ∧ j.toNat < p.body.length := fun j hj => by
    obtain ⟨c, hc, e⟩ := List.getElem_of_mem hj
    have := kid_facts p.body k c hc
    rw [e] at this
    exact ⟨by omega, this.2.2.2⟩
  have hall := all_obj m p (kidsv p.body k) hp (by omega) hm hkm
  have hblk := blocks_pure p (kidsv p.body k) (by omega) hkid
  have hloop := blk_loop m p (.cells 54 2 [iD p.body[k].1, iD p.body[k].2]) (kidsv p.body k) hp hm hkl hkm ((kidsv p.body k).length + 1) (by omega)
  have hti : ∀ t, p.body[k].1 = t → inner p.body[k].1 = inner t := fun t e => by rw [e]
  rw [htg] at *
  generalize hnn : p.body[k].2 = nn at *
  have a1 : ∀ (o1 o2 : HO) (a : Int), liftF (F_all m) [progD p, intsD (kidsv p.body k), .hs 2 1] [o1, o2, .cells 3 1 [iD a]] = some (bD (allV m p (kidsv p.body k) [a]), [o1, o2, .cells 3 1 [iD a]]) := fun o1 o2 a => hall _ 2 3 [a] rfl
  have a2 : ∀ (o1 o2 : HO) (a b : Int), liftF (F_all m) [progD p, intsD (kidsv p.body k), .hs 2 2] [o1, o2, .cells 3 1 [iD a, iD b]] = some (bD (allV m p (kidsv p.body k) [a, b]), [o1, o2, .cells 3 1 [iD a, iD b]]) := fun o1 o2 a b => hall _ 2 3 [a, b] rfl
  have a3 : ∀ (o1 o2 : HO) (a b c : Int), liftF (F_all m) [progD p, intsD (kidsv p.body k), .hs 2 3] [o1, o2, .cells 3 1 [iD a, iD b, iD c]] = some (bD (allV m p (kidsv p.body k) [a, b, c]), [o1, o2, .cells 3 1 [iD a, iD b, iD c]]) := fun o1 o2 a b c => hall _ 2 3 [a, b, c] rfl
  · skip
    have hq := hkind (.array [0] 0) rfl
    by_cases hs : sizeV (typedV p.vars nn) = 0
    · exact ⟨_, by simp [idx_nodesN _ _ hk, hend, hE', ea, es, hkids, ep, typed_pure, size_pure, kindF_pure, row1, row2, row3, a1, a2, a3, hblk, hq, ruleKind, arrayKindV, hs, hnn]; rfl⟩
    · have hs2 := sizeV_pos _ hs
      cases hv : allV m p (kidsv p.body k) [0] <;> exact ⟨_, by simp [idx_nodesN _ _ hk, hend, hE', ea, es, hkids, ep, typed_pure, size_pure, kindF_pure, row1, row2, row3, a1, a2, a3, hblk, hq, ruleKind, arrayKindV, askV, inner, hs, hs2, hv, hnn]; rfl⟩

theorem refOf_tag5 (m : Nat) (p : Pg) (k : Nat) (hp : p.body.length ≤ 3000000) (hm : 0 < m) (hE : 0 ≤ endv p.body k) (hk : k < p.body.length) (hkm : ∀ j ∈ kidsv p.body k, p.body.length < j.toNat + m) (htg : p.body[k].1 = 5) : ∃ H, textK Tryz.prog (T09f m) kp_offshootref09_Of ((kidsv p.body k).length + 1) Tryz.f59 [progD p, iD k] [] = some (iD (kindV (m + 1) p.vars p.body k), H) := by
  rw [sh_offshootref09_Of]
  have hE' : ¬ endv p.body k < 0 := by omega
  have har : 0 ≤ ar p.body[k] := by have := endv_ar p.body k hE; rwa [arAt_in _ _ hk] at this
  have hcount := kids_count p.body k hE hk
  rw [show p.body[k] = (p.body[k].1, p.body[k].2) from rfl] at har hcount
  have hkl := kidsv_len p.body k
  have hkind := kind_all m p k hE hk
  have hend := refEnd_pure p.body k hp
  have hkids := refKids_pure p.body k hp
  have ea : ∀ o : HO, allocH 54 [iD 0, iD 0] [o] = some (.hp 1 0, [o, .cells 54 2 [iD 0, iD 0]]) := fun o => rfl
  have es : ∀ o : HO, setH 2 (.hp 1 0) (.agg (nodeD p.body[k])) [o, .cells 54 2 [iD 0, iD 0]] = some (.v undef, [o, .cells 54 2 [iD p.body[k].1, iD p.body[k].2]]) := fun o => rfl
  have ep : D.agg [iD p.params, intsD p.vars, nodesD p.body] = progD p := rfl
  have hkid : ∀ j ∈ kidsv p.body k, 0 ≤ j ∧ j.toNat < p.body.length := fun j hj => by
    obtain ⟨c, hc, e⟩ := List.getElem_of_mem hj
    have := kid_facts p.body k c hc
    rw [e] at this
    exact ⟨by omega, this.2.2.2⟩
  have hall := all_obj m p (kidsv p.body k) hp (by omega) hm hkm
  have hblk := blocks_pure p (kidsv p.body k) (by omega) hkid
  have hloop := blk_loop m p (.cells 54 2 [iD p.body[k].1, iD p.body[k].2]) (kidsv p.body k) hp hm hkl hkm ((kidsv p.body k).length + 1) (by omega)
  have hti : ∀ t, p.body[k].1 = t → inner p.body[k].1 = inner t := fun t e => by rw [e]
  rw [htg] at *
  generalize hnn : p.body[k].2 = nn at *
  have a1 : ∀ (o1 o2 : HO) (a : Int), liftF (F_all m) [progD p, intsD (kidsv p.body k), .hs 2 1] [o1, o2, .cells 3 1 [iD a]] = some (bD (allV m p (kidsv p.body k) [a]), [o1, o2, .cells 3 1 [iD a]]) := fun o1 o2 a => hall _ 2 3 [a] rfl
  have a2 : ∀ (o1 o2 : HO) (a b : Int), liftF (F_all m) [progD p, intsD (kidsv p.body k), .hs 2 2] [o1, o2, .cells 3 1 [iD a, iD b]] = some (bD (allV m p (kidsv p.body k) [a, b]), [o1, o2, .cells 3 1 [iD a, iD b]]) := fun o1 o2 a b => hall _ 2 3 [a, b] rfl
  have a3 : ∀ (o1 o2 : HO) (a b c : Int), liftF (F_all m) [progD p, intsD (kidsv p.body k), .hs 2 3] [o1, o2, .cells 3 1 [iD a, iD b, iD c]] = some (bD (allV m p (kidsv p.body k) [a, b, c]), [o1, o2, .cells 3 1 [iD a, iD b, iD c]]) := fun o1 o2 a b c => hall _ 2 3 [a, b, c] rfl
  · skip
    have hq := hkind (.plain [0] 0) rfl
    cases hv : allV m p (kidsv p.body k) [0] <;> exact ⟨_, by simp [idx_nodesN _ _ hk, hend, hE', ea, es, hkids, ep, typed_pure, size_pure, kindF_pure, row1, row2, row3, a1, a2, a3, hblk, hq, ruleKind, askV, inner, hv]; rfl⟩

theorem refOf_tag6 (m : Nat) (p : Pg) (k : Nat) (hp : p.body.length ≤ 3000000) (hm : 0 < m) (hE : 0 ≤ endv p.body k) (hk : k < p.body.length) (hkm : ∀ j ∈ kidsv p.body k, p.body.length < j.toNat + m) (htg : p.body[k].1 = 6) : ∃ H, textK Tryz.prog (T09f m) kp_offshootref09_Of ((kidsv p.body k).length + 1) Tryz.f59 [progD p, iD k] [] = some (iD (kindV (m + 1) p.vars p.body k), H) := by
  rw [sh_offshootref09_Of]
  have hE' : ¬ endv p.body k < 0 := by omega
  have har : 0 ≤ ar p.body[k] := by have := endv_ar p.body k hE; rwa [arAt_in _ _ hk] at this
  have hcount := kids_count p.body k hE hk
  rw [show p.body[k] = (p.body[k].1, p.body[k].2) from rfl] at har hcount
  have hkl := kidsv_len p.body k
  have hkind := kind_all m p k hE hk
  have hend := refEnd_pure p.body k hp
  have hkids := refKids_pure p.body k hp
  have ea : ∀ o : HO, allocH 54 [iD 0, iD 0] [o] = some (.hp 1 0, [o, .cells 54 2 [iD 0, iD 0]]) := fun o => rfl
  have es : ∀ o : HO, setH 2 (.hp 1 0) (.agg (nodeD p.body[k])) [o, .cells 54 2 [iD 0, iD 0]] = some (.v undef, [o, .cells 54 2 [iD p.body[k].1, iD p.body[k].2]]) := fun o => rfl
  have ep : D.agg [iD p.params, intsD p.vars, nodesD p.body] = progD p := rfl
  have hkid : ∀ j ∈ kidsv p.body k, 0 ≤ j ∧ j.toNat < p.body.length := fun j hj => by
    obtain ⟨c, hc, e⟩ := List.getElem_of_mem hj
    have := kid_facts p.body k c hc
    rw [e] at this
    exact ⟨by omega, this.2.2.2⟩
  have hall := all_obj m p (kidsv p.body k) hp (by omega) hm hkm
  have hblk := blocks_pure p (kidsv p.body k) (by omega) hkid
  have hloop := blk_loop m p (.cells 54 2 [iD p.body[k].1, iD p.body[k].2]) (kidsv p.body k) hp hm hkl hkm ((kidsv p.body k).length + 1) (by omega)
  have hti : ∀ t, p.body[k].1 = t → inner p.body[k].1 = inner t := fun t e => by rw [e]
  rw [htg] at *
  generalize hnn : p.body[k].2 = nn at *
  have a1 : ∀ (o1 o2 : HO) (a : Int), liftF (F_all m) [progD p, intsD (kidsv p.body k), .hs 2 1] [o1, o2, .cells 3 1 [iD a]] = some (bD (allV m p (kidsv p.body k) [a]), [o1, o2, .cells 3 1 [iD a]]) := fun o1 o2 a => hall _ 2 3 [a] rfl
  have a2 : ∀ (o1 o2 : HO) (a b : Int), liftF (F_all m) [progD p, intsD (kidsv p.body k), .hs 2 2] [o1, o2, .cells 3 1 [iD a, iD b]] = some (bD (allV m p (kidsv p.body k) [a, b]), [o1, o2, .cells 3 1 [iD a, iD b]]) := fun o1 o2 a b => hall _ 2 3 [a, b] rfl
  have a3 : ∀ (o1 o2 : HO) (a b c : Int), liftF (F_all m) [progD p, intsD (kidsv p.body k), .hs 2 3] [o1, o2, .cells 3 1 [iD a, iD b, iD c]] = some (bD (allV m p (kidsv p.body k) [a, b, c]), [o1, o2, .cells 3 1 [iD a, iD b, iD c]]) := fun o1 o2 a b c => hall _ 2 3 [a, b, c] rfl
  · skip
    have hq := hkind (.plain [1] 1) rfl
    cases hv : allV m p (kidsv p.body k) [1] <;> exact ⟨_, by simp [idx_nodesN _ _ hk, hend, hE', ea, es, hkids, ep, typed_pure, size_pure, kindF_pure, row1, row2, row3, a1, a2, a3, hblk, hq, ruleKind, askV, inner, hv]; rfl⟩

theorem refOf_tag7 (m : Nat) (p : Pg) (k : Nat) (hp : p.body.length ≤ 3000000) (hm : 0 < m) (hE : 0 ≤ endv p.body k) (hk : k < p.body.length) (hkm : ∀ j ∈ kidsv p.body k, p.body.length < j.toNat + m) (htg : p.body[k].1 = 7) : ∃ H, textK Tryz.prog (T09f m) kp_offshootref09_Of ((kidsv p.body k).length + 1) Tryz.f59 [progD p, iD k] [] = some (iD (kindV (m + 1) p.vars p.body k), H) := by
  rw [sh_offshootref09_Of]
  have hE' : ¬ endv p.body k < 0 := by omega
  have har : 0 ≤ ar p.body[k] := by have := endv_ar p.body k hE; rwa [arAt_in _ _ hk] at this
  have hcount := kids_count p.body k hE hk
  rw [show p.body[k] = (p.body[k].1, p.body[k].2) from rfl] at har hcount
  have hkl := kidsv_len p.body k
  have hkind := kind_all m p k hE hk
  have hend := refEnd_pure p.body k hp
  have hkids := refKids_pure p.body k hp
  have ea : ∀ o : HO, allocH 54 [iD 0, iD 0] [o] = some (.hp 1 0, [o, .cells 54 2 [iD 0, iD 0]]) := fun o => rfl
  have es : ∀ o : HO, setH 2 (.hp 1 0) (.agg (nodeD p.body[k])) [o, .cells 54 2 [iD 0, iD 0]] = some (.v undef, [o, .cells 54 2 [iD p.body[k].1, iD p.body[k].2]]) := fun o => rfl
  have ep : D.agg [iD p.params, intsD p.vars, nodesD p.body] = progD p := rfl
  have hkid : ∀ j ∈ kidsv p.body k, 0 ≤ j ∧ j.toNat < p.body.length := fun j hj => by
    obtain ⟨c, hc, e⟩ := List.getElem_of_mem hj
    have := kid_facts p.body k c hc
    rw [e] at this
    exact ⟨by omega, this.2.2.2⟩
  have hall := all_obj m p (kidsv p.body k) hp (by omega) hm hkm
  have hblk := blocks_pure p (kidsv p.body k) (by omega) hkid
  have hloop := blk_loop m p (.cells 54 2 [iD p.body[k].1, iD p.body[k].2]) (kidsv p.body k) hp hm hkl hkm ((kidsv p.body k).length + 1) (by omega)
  have hti : ∀ t, p.body[k].1 = t → inner p.body[k].1 = inner t := fun t e => by rw [e]
  rw [htg] at *
  generalize hnn : p.body[k].2 = nn at *
  have a1 : ∀ (o1 o2 : HO) (a : Int), liftF (F_all m) [progD p, intsD (kidsv p.body k), .hs 2 1] [o1, o2, .cells 3 1 [iD a]] = some (bD (allV m p (kidsv p.body k) [a]), [o1, o2, .cells 3 1 [iD a]]) := fun o1 o2 a => hall _ 2 3 [a] rfl
  have a2 : ∀ (o1 o2 : HO) (a b : Int), liftF (F_all m) [progD p, intsD (kidsv p.body k), .hs 2 2] [o1, o2, .cells 3 1 [iD a, iD b]] = some (bD (allV m p (kidsv p.body k) [a, b]), [o1, o2, .cells 3 1 [iD a, iD b]]) := fun o1 o2 a b => hall _ 2 3 [a, b] rfl
  have a3 : ∀ (o1 o2 : HO) (a b c : Int), liftF (F_all m) [progD p, intsD (kidsv p.body k), .hs 2 3] [o1, o2, .cells 3 1 [iD a, iD b, iD c]] = some (bD (allV m p (kidsv p.body k) [a, b, c]), [o1, o2, .cells 3 1 [iD a, iD b, iD c]]) := fun o1 o2 a b c => hall _ 2 3 [a, b, c] rfl
  · skip
    have hq := hkind (.plain [0, 0] 0) rfl
    cases hv : allV m p (kidsv p.body k) [0, 0] <;> exact ⟨_, by simp [idx_nodesN _ _ hk, hend, hE', ea, es, hkids, ep, typed_pure, size_pure, kindF_pure, row1, row2, row3, a1, a2, a3, hblk, hq, ruleKind, askV, inner, hv]; rfl⟩

theorem refOf_tag8 (m : Nat) (p : Pg) (k : Nat) (hp : p.body.length ≤ 3000000) (hm : 0 < m) (hE : 0 ≤ endv p.body k) (hk : k < p.body.length) (hkm : ∀ j ∈ kidsv p.body k, p.body.length < j.toNat + m) (htg : p.body[k].1 = 8) : ∃ H, textK Tryz.prog (T09f m) kp_offshootref09_Of ((kidsv p.body k).length + 1) Tryz.f59 [progD p, iD k] [] = some (iD (kindV (m + 1) p.vars p.body k), H) := by
  rw [sh_offshootref09_Of]
  have hE' : ¬ endv p.body k < 0 := by omega
  have har : 0 ≤ ar p.body[k] := by have := endv_ar p.body k hE; rwa [arAt_in _ _ hk] at this
  have hcount := kids_count p.body k hE hk
  rw [show p.body[k] = (p.body[k].1, p.body[k].2) from rfl] at har hcount
  have hkl := kidsv_len p.body k
  have hkind := kind_all m p k hE hk
  have hend := refEnd_pure p.body k hp
  have hkids := refKids_pure p.body k hp
  have ea : ∀ o : HO, allocH 54 [iD 0, iD 0] [o] = some (.hp 1 0, [o, .cells 54 2 [iD 0, iD 0]]) := fun o => rfl
  have es : ∀ o : HO, setH 2 (.hp 1 0) (.agg (nodeD p.body[k])) [o, .cells 54 2 [iD 0, iD 0]] = some (.v undef, [o, .cells 54 2 [iD p.body[k].1, iD p.body[k].2]]) := fun o => rfl
  have ep : D.agg [iD p.params, intsD p.vars, nodesD p.body] = progD p := rfl
  have hkid : ∀ j ∈ kidsv p.body k, 0 ≤ j ∧ j.toNat < p.body.length := fun j hj => by
    obtain ⟨c, hc, e⟩ := List.getElem_of_mem hj
    have := kid_facts p.body k c hc
    rw [e] at this
    exact ⟨by omega, this.2.2.2⟩
  have hall := all_obj m p (kidsv p.body k) hp (by omega) hm hkm
  have hblk := blocks_pure p (kidsv p.body k) (by omega) hkid
  have hloop := blk_loop m p (.cells 54 2 [iD p.body[k].1, iD p.body[k].2]) (kidsv p.body k) hp hm hkl hkm ((kidsv p.body k).length + 1) (by omega)
  have hti : ∀ t, p.body[k].1 = t → inner p.body[k].1 = inner t := fun t e => by rw [e]
  rw [htg] at *
  generalize hnn : p.body[k].2 = nn at *
  have a1 : ∀ (o1 o2 : HO) (a : Int), liftF (F_all m) [progD p, intsD (kidsv p.body k), .hs 2 1] [o1, o2, .cells 3 1 [iD a]] = some (bD (allV m p (kidsv p.body k) [a]), [o1, o2, .cells 3 1 [iD a]]) := fun o1 o2 a => hall _ 2 3 [a] rfl
  have a2 : ∀ (o1 o2 : HO) (a b : Int), liftF (F_all m) [progD p, intsD (kidsv p.body k), .hs 2 2] [o1, o2, .cells 3 1 [iD a, iD b]] = some (bD (allV m p (kidsv p.body k) [a, b]), [o1, o2, .cells 3 1 [iD a, iD b]]) := fun o1 o2 a b => hall _ 2 3 [a, b] rfl
  have a3 : ∀ (o1 o2 : HO) (a b c : Int), liftF (F_all m) [progD p, intsD (kidsv p.body k), .hs 2 3] [o1, o2, .cells 3 1 [iD a, iD b, iD c]] = some (bD (allV m p (kidsv p.body k) [a, b, c]), [o1, o2, .cells 3 1 [iD a, iD b, iD c]]) := fun o1 o2 a b c => hall _ 2 3 [a, b, c] rfl
  · skip
    have hq := hkind (.plain [0, 0] 0) rfl
    cases hv : allV m p (kidsv p.body k) [0, 0] <;> exact ⟨_, by simp [idx_nodesN _ _ hk, hend, hE', ea, es, hkids, ep, typed_pure, size_pure, kindF_pure, row1, row2, row3, a1, a2, a3, hblk, hq, ruleKind, askV, inner, hv]; rfl⟩

theorem refOf_tag9 (m : Nat) (p : Pg) (k : Nat) (hp : p.body.length ≤ 3000000) (hm : 0 < m) (hE : 0 ≤ endv p.body k) (hk : k < p.body.length) (hkm : ∀ j ∈ kidsv p.body k, p.body.length < j.toNat + m) (htg : p.body[k].1 = 9) : ∃ H, textK Tryz.prog (T09f m) kp_offshootref09_Of ((kidsv p.body k).length + 1) Tryz.f59 [progD p, iD k] [] = some (iD (kindV (m + 1) p.vars p.body k), H) := by
  rw [sh_offshootref09_Of]
  have hE' : ¬ endv p.body k < 0 := by omega
  have har : 0 ≤ ar p.body[k] := by have := endv_ar p.body k hE; rwa [arAt_in _ _ hk] at this
  have hcount := kids_count p.body k hE hk
  rw [show p.body[k] = (p.body[k].1, p.body[k].2) from rfl] at har hcount
  have hkl := kidsv_len p.body k
  have hkind := kind_all m p k hE hk
  have hend := refEnd_pure p.body k hp
  have hkids := refKids_pure p.body k hp
  have ea : ∀ o : HO, allocH 54 [iD 0, iD 0] [o] = some (.hp 1 0, [o, .cells 54 2 [iD 0, iD 0]]) := fun o => rfl
  have es : ∀ o : HO, setH 2 (.hp 1 0) (.agg (nodeD p.body[k])) [o, .cells 54 2 [iD 0, iD 0]] = some (.v undef, [o, .cells 54 2 [iD p.body[k].1, iD p.body[k].2]]) := fun o => rfl
  have ep : D.agg [iD p.params, intsD p.vars, nodesD p.body] = progD p := rfl
  have hkid : ∀ j ∈ kidsv p.body k, 0 ≤ j ∧ j.toNat < p.body.length := fun j hj => by
    obtain ⟨c, hc, e⟩ := List.getElem_of_mem hj
    have := kid_facts p.body k c hc
    rw [e] at this
    exact ⟨by omega, this.2.2.2⟩
  have hall := all_obj m p (kidsv p.body k) hp (by omega) hm hkm
  have hblk := blocks_pure p (kidsv p.body k) (by omega) hkid
  have hloop := blk_loop m p (.cells 54 2 [iD p.body[k].1, iD p.body[k].2]) (kidsv p.body k) hp hm hkl hkm ((kidsv p.body k).length + 1) (by omega)
  have hti : ∀ t, p.body[k].1 = t → inner p.body[k].1 = inner t := fun t e => by rw [e]
  rw [htg] at *
  generalize hnn : p.body[k].2 = nn at *
  have a1 : ∀ (o1 o2 : HO) (a : Int), liftF (F_all m) [progD p, intsD (kidsv p.body k), .hs 2 1] [o1, o2, .cells 3 1 [iD a]] = some (bD (allV m p (kidsv p.body k) [a]), [o1, o2, .cells 3 1 [iD a]]) := fun o1 o2 a => hall _ 2 3 [a] rfl
  have a2 : ∀ (o1 o2 : HO) (a b : Int), liftF (F_all m) [progD p, intsD (kidsv p.body k), .hs 2 2] [o1, o2, .cells 3 1 [iD a, iD b]] = some (bD (allV m p (kidsv p.body k) [a, b]), [o1, o2, .cells 3 1 [iD a, iD b]]) := fun o1 o2 a b => hall _ 2 3 [a, b] rfl
  have a3 : ∀ (o1 o2 : HO) (a b c : Int), liftF (F_all m) [progD p, intsD (kidsv p.body k), .hs 2 3] [o1, o2, .cells 3 1 [iD a, iD b, iD c]] = some (bD (allV m p (kidsv p.body k) [a, b, c]), [o1, o2, .cells 3 1 [iD a, iD b, iD c]]) := fun o1 o2 a b c => hall _ 2 3 [a, b, c] rfl
  · skip
    have hq := hkind (.plain [0, 0] 0) rfl
    cases hv : allV m p (kidsv p.body k) [0, 0] <;> exact ⟨_, by simp [idx_nodesN _ _ hk, hend, hE', ea, es, hkids, ep, typed_pure, size_pure, kindF_pure, row1, row2, row3, a1, a2, a3, hblk, hq, ruleKind, askV, inner, hv]; rfl⟩

theorem refOf_tag10 (m : Nat) (p : Pg) (k : Nat) (hp : p.body.length ≤ 3000000) (hm : 0 < m) (hE : 0 ≤ endv p.body k) (hk : k < p.body.length) (hkm : ∀ j ∈ kidsv p.body k, p.body.length < j.toNat + m) (htg : p.body[k].1 = 10) : ∃ H, textK Tryz.prog (T09f m) kp_offshootref09_Of ((kidsv p.body k).length + 1) Tryz.f59 [progD p, iD k] [] = some (iD (kindV (m + 1) p.vars p.body k), H) := by
  rw [sh_offshootref09_Of]
  have hE' : ¬ endv p.body k < 0 := by omega
  have har : 0 ≤ ar p.body[k] := by have := endv_ar p.body k hE; rwa [arAt_in _ _ hk] at this
  have hcount := kids_count p.body k hE hk
  rw [show p.body[k] = (p.body[k].1, p.body[k].2) from rfl] at har hcount
  have hkl := kidsv_len p.body k
  have hkind := kind_all m p k hE hk
  have hend := refEnd_pure p.body k hp
  have hkids := refKids_pure p.body k hp
  have ea : ∀ o : HO, allocH 54 [iD 0, iD 0] [o] = some (.hp 1 0, [o, .cells 54 2 [iD 0, iD 0]]) := fun o => rfl
  have es : ∀ o : HO, setH 2 (.hp 1 0) (.agg (nodeD p.body[k])) [o, .cells 54 2 [iD 0, iD 0]] = some (.v undef, [o, .cells 54 2 [iD p.body[k].1, iD p.body[k].2]]) := fun o => rfl
  have ep : D.agg [iD p.params, intsD p.vars, nodesD p.body] = progD p := rfl
  have hkid : ∀ j ∈ kidsv p.body k, 0 ≤ j ∧ j.toNat < p.body.length := fun j hj => by
    obtain ⟨c, hc, e⟩ := List.getElem_of_mem hj
    have := kid_facts p.body k c hc
    rw [e] at this
    exact ⟨by omega, this.2.2.2⟩
  have hall := all_obj m p (kidsv p.body k) hp (by omega) hm hkm
  have hblk := blocks_pure p (kidsv p.body k) (by omega) hkid
  have hloop := blk_loop m p (.cells 54 2 [iD p.body[k].1, iD p.body[k].2]) (kidsv p.body k) hp hm hkl hkm ((kidsv p.body k).length + 1) (by omega)
  have hti : ∀ t, p.body[k].1 = t → inner p.body[k].1 = inner t := fun t e => by rw [e]
  rw [htg] at *
  generalize hnn : p.body[k].2 = nn at *
  have a1 : ∀ (o1 o2 : HO) (a : Int), liftF (F_all m) [progD p, intsD (kidsv p.body k), .hs 2 1] [o1, o2, .cells 3 1 [iD a]] = some (bD (allV m p (kidsv p.body k) [a]), [o1, o2, .cells 3 1 [iD a]]) := fun o1 o2 a => hall _ 2 3 [a] rfl
  have a2 : ∀ (o1 o2 : HO) (a b : Int), liftF (F_all m) [progD p, intsD (kidsv p.body k), .hs 2 2] [o1, o2, .cells 3 1 [iD a, iD b]] = some (bD (allV m p (kidsv p.body k) [a, b]), [o1, o2, .cells 3 1 [iD a, iD b]]) := fun o1 o2 a b => hall _ 2 3 [a, b] rfl
  have a3 : ∀ (o1 o2 : HO) (a b c : Int), liftF (F_all m) [progD p, intsD (kidsv p.body k), .hs 2 3] [o1, o2, .cells 3 1 [iD a, iD b, iD c]] = some (bD (allV m p (kidsv p.body k) [a, b, c]), [o1, o2, .cells 3 1 [iD a, iD b, iD c]]) := fun o1 o2 a b c => hall _ 2 3 [a, b, c] rfl
  · skip
    have hq := hkind (.plain [0, 0] 0) rfl
    cases hv : allV m p (kidsv p.body k) [0, 0] <;> exact ⟨_, by simp [idx_nodesN _ _ hk, hend, hE', ea, es, hkids, ep, typed_pure, size_pure, kindF_pure, row1, row2, row3, a1, a2, a3, hblk, hq, ruleKind, askV, inner, hv]; rfl⟩

theorem refOf_tag11 (m : Nat) (p : Pg) (k : Nat) (hp : p.body.length ≤ 3000000) (hm : 0 < m) (hE : 0 ≤ endv p.body k) (hk : k < p.body.length) (hkm : ∀ j ∈ kidsv p.body k, p.body.length < j.toNat + m) (htg : p.body[k].1 = 11) : ∃ H, textK Tryz.prog (T09f m) kp_offshootref09_Of ((kidsv p.body k).length + 1) Tryz.f59 [progD p, iD k] [] = some (iD (kindV (m + 1) p.vars p.body k), H) := by
  rw [sh_offshootref09_Of]
  have hE' : ¬ endv p.body k < 0 := by omega
  have har : 0 ≤ ar p.body[k] := by have := endv_ar p.body k hE; rwa [arAt_in _ _ hk] at this
  have hcount := kids_count p.body k hE hk
  rw [show p.body[k] = (p.body[k].1, p.body[k].2) from rfl] at har hcount
  have hkl := kidsv_len p.body k
  have hkind := kind_all m p k hE hk
  have hend := refEnd_pure p.body k hp
  have hkids := refKids_pure p.body k hp
  have ea : ∀ o : HO, allocH 54 [iD 0, iD 0] [o] = some (.hp 1 0, [o, .cells 54 2 [iD 0, iD 0]]) := fun o => rfl
  have es : ∀ o : HO, setH 2 (.hp 1 0) (.agg (nodeD p.body[k])) [o, .cells 54 2 [iD 0, iD 0]] = some (.v undef, [o, .cells 54 2 [iD p.body[k].1, iD p.body[k].2]]) := fun o => rfl
  have ep : D.agg [iD p.params, intsD p.vars, nodesD p.body] = progD p := rfl
  have hkid : ∀ j ∈ kidsv p.body k, 0 ≤ j ∧ j.toNat < p.body.length := fun j hj => by
    obtain ⟨c, hc, e⟩ := List.getElem_of_mem hj
    have := kid_facts p.body k c hc
    rw [e] at this
    exact ⟨by omega, this.2.2.2⟩
  have hall := all_obj m p (kidsv p.body k) hp (by omega) hm hkm
  have hblk := blocks_pure p (kidsv p.body k) (by omega) hkid
  have hloop := blk_loop m p (.cells 54 2 [iD p.body[k].1, iD p.body[k].2]) (kidsv p.body k) hp hm hkl hkm ((kidsv p.body k).length + 1) (by omega)
  have hti : ∀ t, p.body[k].1 = t → inner p.body[k].1 = inner t := fun t e => by rw [e]
  rw [htg] at *
  generalize hnn : p.body[k].2 = nn at *
  have a1 : ∀ (o1 o2 : HO) (a : Int), liftF (F_all m) [progD p, intsD (kidsv p.body k), .hs 2 1] [o1, o2, .cells 3 1 [iD a]] = some (bD (allV m p (kidsv p.body k) [a]), [o1, o2, .cells 3 1 [iD a]]) := fun o1 o2 a => hall _ 2 3 [a] rfl
  have a2 : ∀ (o1 o2 : HO) (a b : Int), liftF (F_all m) [progD p, intsD (kidsv p.body k), .hs 2 2] [o1, o2, .cells 3 1 [iD a, iD b]] = some (bD (allV m p (kidsv p.body k) [a, b]), [o1, o2, .cells 3 1 [iD a, iD b]]) := fun o1 o2 a b => hall _ 2 3 [a, b] rfl
  have a3 : ∀ (o1 o2 : HO) (a b c : Int), liftF (F_all m) [progD p, intsD (kidsv p.body k), .hs 2 3] [o1, o2, .cells 3 1 [iD a, iD b, iD c]] = some (bD (allV m p (kidsv p.body k) [a, b, c]), [o1, o2, .cells 3 1 [iD a, iD b, iD c]]) := fun o1 o2 a b c => hall _ 2 3 [a, b, c] rfl
  · skip
    have hq := hkind (.plain [0, 0] 0) rfl
    cases hv : allV m p (kidsv p.body k) [0, 0] <;> exact ⟨_, by simp [idx_nodesN _ _ hk, hend, hE', ea, es, hkids, ep, typed_pure, size_pure, kindF_pure, row1, row2, row3, a1, a2, a3, hblk, hq, ruleKind, askV, inner, hv]; rfl⟩

theorem refOf_tag12 (m : Nat) (p : Pg) (k : Nat) (hp : p.body.length ≤ 3000000) (hm : 0 < m) (hE : 0 ≤ endv p.body k) (hk : k < p.body.length) (hkm : ∀ j ∈ kidsv p.body k, p.body.length < j.toNat + m) (htg : p.body[k].1 = 12) : ∃ H, textK Tryz.prog (T09f m) kp_offshootref09_Of ((kidsv p.body k).length + 1) Tryz.f59 [progD p, iD k] [] = some (iD (kindV (m + 1) p.vars p.body k), H) := by
  rw [sh_offshootref09_Of]
  have hE' : ¬ endv p.body k < 0 := by omega
  have har : 0 ≤ ar p.body[k] := by have := endv_ar p.body k hE; rwa [arAt_in _ _ hk] at this
  have hcount := kids_count p.body k hE hk
  rw [show p.body[k] = (p.body[k].1, p.body[k].2) from rfl] at har hcount
  have hkl := kidsv_len p.body k
  have hkind := kind_all m p k hE hk
  have hend := refEnd_pure p.body k hp
  have hkids := refKids_pure p.body k hp
  have ea : ∀ o : HO, allocH 54 [iD 0, iD 0] [o] = some (.hp 1 0, [o, .cells 54 2 [iD 0, iD 0]]) := fun o => rfl
  have es : ∀ o : HO, setH 2 (.hp 1 0) (.agg (nodeD p.body[k])) [o, .cells 54 2 [iD 0, iD 0]] = some (.v undef, [o, .cells 54 2 [iD p.body[k].1, iD p.body[k].2]]) := fun o => rfl
  have ep : D.agg [iD p.params, intsD p.vars, nodesD p.body] = progD p := rfl
  have hkid : ∀ j ∈ kidsv p.body k, 0 ≤ j ∧ j.toNat < p.body.length := fun j hj => by
    obtain ⟨c, hc, e⟩ := List.getElem_of_mem hj
    have := kid_facts p.body k c hc
    rw [e] at this
    exact ⟨by omega, this.2.2.2⟩
  have hall := all_obj m p (kidsv p.body k) hp (by omega) hm hkm
  have hblk := blocks_pure p (kidsv p.body k) (by omega) hkid
  have hloop := blk_loop m p (.cells 54 2 [iD p.body[k].1, iD p.body[k].2]) (kidsv p.body k) hp hm hkl hkm ((kidsv p.body k).length + 1) (by omega)
  have hti : ∀ t, p.body[k].1 = t → inner p.body[k].1 = inner t := fun t e => by rw [e]
  rw [htg] at *
  generalize hnn : p.body[k].2 = nn at *
  have a1 : ∀ (o1 o2 : HO) (a : Int), liftF (F_all m) [progD p, intsD (kidsv p.body k), .hs 2 1] [o1, o2, .cells 3 1 [iD a]] = some (bD (allV m p (kidsv p.body k) [a]), [o1, o2, .cells 3 1 [iD a]]) := fun o1 o2 a => hall _ 2 3 [a] rfl
  have a2 : ∀ (o1 o2 : HO) (a b : Int), liftF (F_all m) [progD p, intsD (kidsv p.body k), .hs 2 2] [o1, o2, .cells 3 1 [iD a, iD b]] = some (bD (allV m p (kidsv p.body k) [a, b]), [o1, o2, .cells 3 1 [iD a, iD b]]) := fun o1 o2 a b => hall _ 2 3 [a, b] rfl
  have a3 : ∀ (o1 o2 : HO) (a b c : Int), liftF (F_all m) [progD p, intsD (kidsv p.body k), .hs 2 3] [o1, o2, .cells 3 1 [iD a, iD b, iD c]] = some (bD (allV m p (kidsv p.body k) [a, b, c]), [o1, o2, .cells 3 1 [iD a, iD b, iD c]]) := fun o1 o2 a b c => hall _ 2 3 [a, b, c] rfl
  · skip
    have hq := hkind (.plain [0, 0] 1) rfl
    cases hv : allV m p (kidsv p.body k) [0, 0] <;> exact ⟨_, by simp [idx_nodesN _ _ hk, hend, hE', ea, es, hkids, ep, typed_pure, size_pure, kindF_pure, row1, row2, row3, a1, a2, a3, hblk, hq, ruleKind, askV, inner, hv]; rfl⟩

theorem refOf_tag13 (m : Nat) (p : Pg) (k : Nat) (hp : p.body.length ≤ 3000000) (hm : 0 < m) (hE : 0 ≤ endv p.body k) (hk : k < p.body.length) (hkm : ∀ j ∈ kidsv p.body k, p.body.length < j.toNat + m) (htg : p.body[k].1 = 13) : ∃ H, textK Tryz.prog (T09f m) kp_offshootref09_Of ((kidsv p.body k).length + 1) Tryz.f59 [progD p, iD k] [] = some (iD (kindV (m + 1) p.vars p.body k), H) := by
  rw [sh_offshootref09_Of]
  have hE' : ¬ endv p.body k < 0 := by omega
  have har : 0 ≤ ar p.body[k] := by have := endv_ar p.body k hE; rwa [arAt_in _ _ hk] at this
  have hcount := kids_count p.body k hE hk
  rw [show p.body[k] = (p.body[k].1, p.body[k].2) from rfl] at har hcount
  have hkl := kidsv_len p.body k
  have hkind := kind_all m p k hE hk
  have hend := refEnd_pure p.body k hp
  have hkids := refKids_pure p.body k hp
  have ea : ∀ o : HO, allocH 54 [iD 0, iD 0] [o] = some (.hp 1 0, [o, .cells 54 2 [iD 0, iD 0]]) := fun o => rfl
  have es : ∀ o : HO, setH 2 (.hp 1 0) (.agg (nodeD p.body[k])) [o, .cells 54 2 [iD 0, iD 0]] = some (.v undef, [o, .cells 54 2 [iD p.body[k].1, iD p.body[k].2]]) := fun o => rfl
  have ep : D.agg [iD p.params, intsD p.vars, nodesD p.body] = progD p := rfl
  have hkid : ∀ j ∈ kidsv p.body k, 0 ≤ j ∧ j.toNat < p.body.length := fun j hj => by
    obtain ⟨c, hc, e⟩ := List.getElem_of_mem hj
    have := kid_facts p.body k c hc
    rw [e] at this
    exact ⟨by omega, this.2.2.2⟩
  have hall := all_obj m p (kidsv p.body k) hp (by omega) hm hkm
  have hblk := blocks_pure p (kidsv p.body k) (by omega) hkid
  have hloop := blk_loop m p (.cells 54 2 [iD p.body[k].1, iD p.body[k].2]) (kidsv p.body k) hp hm hkl hkm ((kidsv p.body k).length + 1) (by omega)
  have hti : ∀ t, p.body[k].1 = t → inner p.body[k].1 = inner t := fun t e => by rw [e]
  rw [htg] at *
  generalize hnn : p.body[k].2 = nn at *
  have a1 : ∀ (o1 o2 : HO) (a : Int), liftF (F_all m) [progD p, intsD (kidsv p.body k), .hs 2 1] [o1, o2, .cells 3 1 [iD a]] = some (bD (allV m p (kidsv p.body k) [a]), [o1, o2, .cells 3 1 [iD a]]) := fun o1 o2 a => hall _ 2 3 [a] rfl
  have a2 : ∀ (o1 o2 : HO) (a b : Int), liftF (F_all m) [progD p, intsD (kidsv p.body k), .hs 2 2] [o1, o2, .cells 3 1 [iD a, iD b]] = some (bD (allV m p (kidsv p.body k) [a, b]), [o1, o2, .cells 3 1 [iD a, iD b]]) := fun o1 o2 a b => hall _ 2 3 [a, b] rfl
  have a3 : ∀ (o1 o2 : HO) (a b c : Int), liftF (F_all m) [progD p, intsD (kidsv p.body k), .hs 2 3] [o1, o2, .cells 3 1 [iD a, iD b, iD c]] = some (bD (allV m p (kidsv p.body k) [a, b, c]), [o1, o2, .cells 3 1 [iD a, iD b, iD c]]) := fun o1 o2 a b c => hall _ 2 3 [a, b, c] rfl
  · skip
    have hq := hkind (.plain [0, 0] 1) rfl
    cases hv : allV m p (kidsv p.body k) [0, 0] <;> exact ⟨_, by simp [idx_nodesN _ _ hk, hend, hE', ea, es, hkids, ep, typed_pure, size_pure, kindF_pure, row1, row2, row3, a1, a2, a3, hblk, hq, ruleKind, askV, inner, hv]; rfl⟩

theorem refOf_tag14 (m : Nat) (p : Pg) (k : Nat) (hp : p.body.length ≤ 3000000) (hm : 0 < m) (hE : 0 ≤ endv p.body k) (hk : k < p.body.length) (hkm : ∀ j ∈ kidsv p.body k, p.body.length < j.toNat + m) (htg : p.body[k].1 = 14) : ∃ H, textK Tryz.prog (T09f m) kp_offshootref09_Of ((kidsv p.body k).length + 1) Tryz.f59 [progD p, iD k] [] = some (iD (kindV (m + 1) p.vars p.body k), H) := by
  rw [sh_offshootref09_Of]
  have hE' : ¬ endv p.body k < 0 := by omega
  have har : 0 ≤ ar p.body[k] := by have := endv_ar p.body k hE; rwa [arAt_in _ _ hk] at this
  have hcount := kids_count p.body k hE hk
  rw [show p.body[k] = (p.body[k].1, p.body[k].2) from rfl] at har hcount
  have hkl := kidsv_len p.body k
  have hkind := kind_all m p k hE hk
  have hend := refEnd_pure p.body k hp
  have hkids := refKids_pure p.body k hp
  have ea : ∀ o : HO, allocH 54 [iD 0, iD 0] [o] = some (.hp 1 0, [o, .cells 54 2 [iD 0, iD 0]]) := fun o => rfl
  have es : ∀ o : HO, setH 2 (.hp 1 0) (.agg (nodeD p.body[k])) [o, .cells 54 2 [iD 0, iD 0]] = some (.v undef, [o, .cells 54 2 [iD p.body[k].1, iD p.body[k].2]]) := fun o => rfl
  have ep : D.agg [iD p.params, intsD p.vars, nodesD p.body] = progD p := rfl
  have hkid : ∀ j ∈ kidsv p.body k, 0 ≤ j ∧ j.toNat < p.body.length := fun j hj => by
    obtain ⟨c, hc, e⟩ := List.getElem_of_mem hj
    have := kid_facts p.body k c hc
    rw [e] at this
    exact ⟨by omega, this.2.2.2⟩
  have hall := all_obj m p (kidsv p.body k) hp (by omega) hm hkm
  have hblk := blocks_pure p (kidsv p.body k) (by omega) hkid
  have hloop := blk_loop m p (.cells 54 2 [iD p.body[k].1, iD p.body[k].2]) (kidsv p.body k) hp hm hkl hkm ((kidsv p.body k).length + 1) (by omega)
  have hti : ∀ t, p.body[k].1 = t → inner p.body[k].1 = inner t := fun t e => by rw [e]
  rw [htg] at *
  generalize hnn : p.body[k].2 = nn at *
  have a1 : ∀ (o1 o2 : HO) (a : Int), liftF (F_all m) [progD p, intsD (kidsv p.body k), .hs 2 1] [o1, o2, .cells 3 1 [iD a]] = some (bD (allV m p (kidsv p.body k) [a]), [o1, o2, .cells 3 1 [iD a]]) := fun o1 o2 a => hall _ 2 3 [a] rfl
  have a2 : ∀ (o1 o2 : HO) (a b : Int), liftF (F_all m) [progD p, intsD (kidsv p.body k), .hs 2 2] [o1, o2, .cells 3 1 [iD a, iD b]] = some (bD (allV m p (kidsv p.body k) [a, b]), [o1, o2, .cells 3 1 [iD a, iD b]]) := fun o1 o2 a b => hall _ 2 3 [a, b] rfl
  have a3 : ∀ (o1 o2 : HO) (a b c : Int), liftF (F_all m) [progD p, intsD (kidsv p.body k), .hs 2 3] [o1, o2, .cells 3 1 [iD a, iD b, iD c]] = some (bD (allV m p (kidsv p.body k) [a, b, c]), [o1, o2, .cells 3 1 [iD a, iD b, iD c]]) := fun o1 o2 a b c => hall _ 2 3 [a, b, c] rfl
  · skip
    have hq := hkind (.plain [0, 0] 1) rfl
    cases hv : allV m p (kidsv p.body k) [0, 0] <;> exact ⟨_, by simp [idx_nodesN _ _ hk, hend, hE', ea, es, hkids, ep, typed_pure, size_pure, kindF_pure, row1, row2, row3, a1, a2, a3, hblk, hq, ruleKind, askV, inner, hv]; rfl⟩

end Go.Proofs.YtinnbafplhcnpaaGreat
end

section
namespace Go.Proofs.YtinnbafplhcnpaaGreat
open Go.RowKit
set_option linter.unusedVariables false
set_option linter.unusedSimpArgs false
set_option maxHeartbeats 1000000

theorem refOf_tag15 (m : Nat) (p : Pg) (k : Nat) (hp : p.body.length ≤ 3000000) (hm : 0 < m) (hE : 0 ≤ endv p.body k) (hk : k < p.body.length) (hkm : ∀ j ∈ kidsv p.body k, p.body.length < j.toNat + m) (htg : p.body[k].1 = 15) : ∃ H, textK Tryz.prog (T09f m) kp_offshootref09_Of ((kidsv p.body k).length + 1) Tryz.f59 [progD p, iD k] [] = some (iD (kindV (m + 1) p.vars p.body k), H) := by
  rw [sh_offshootref09_Of]
  have hE' : ¬ endv p.body k < 0 := by omega
  have har : 0 ≤ ar p.body[k] := by have := endv_ar p.body k hE; rwa [arAt_in _ _ hk] at this
  have hcount := kids_count p.body k hE hk
  rw [show p.body[k] = (p.body[k].1, p.body[k].2) from rfl] at har hcount
  have hkl := kidsv_len p.body k
  have hkind := kind_all m p k hE hk
  have hend := refEnd_pure p.body k hp
  have hkids := refKids_pure p.body k hp
  have ea : ∀ o : HO, allocH 54 [iD 0, iD 0] [o] = some (.hp 1 0, [o, .cells 54 2 [iD 0, iD 0]]) := fun o => rfl
  have es : ∀ o : HO, setH 2 (.hp 1 0) (.agg (nodeD p.body[k])) [o, .cells 54 2 [iD 0, iD 0]] = some (.v undef, [o, .cells 54 2 [iD p.body[k].1, iD p.body[k].2]]) := fun o => rfl
  have ep : D.agg [iD p.params, intsD p.vars, nodesD p.body] = progD p := rfl
  have hkid : ∀ j ∈ kidsv p.body k, 0 ≤ j ∧ j.toNat < p.body.length := fun j hj => by
    obtain ⟨c, hc, e⟩ := List.getElem_of_mem hj
    have := kid_facts p.body k c hc
    rw [e] at this
    exact ⟨by omega, this.2.2.2⟩
  have hall := all_obj m p (kidsv p.body k) hp (by omega) hm hkm
  have hblk := blocks_pure p (kidsv p.body k) (by omega) hkid
  have hloop := blk_loop m p (.cells 54 2 [iD p.body[k].1, iD p.body[k].2]) (kidsv p.body k) hp hm hkl hkm ((kidsv p.body k).length + 1) (by omega)
  have hti : ∀ t, p.body[k].1 = t → inner p.body[k].1 = inner t := fun t e => by rw [e]
  rw [htg] at *
  generalize hnn : p.body[k].2 = nn at *
  have a1 : ∀ (o1 o2 : HO) (a : Int), liftF (F_all m) [progD p, intsD (kidsv p.body k), .hs 2 1] [o1, o2, .cells 3 1 [iD a]] = some (bD (allV m p (kidsv p.body k) [a]), [o1, o2, .cells 3 1 [iD a]]) := fun o1 o2 a => hall _ 2 3 [a] rfl
  have a2 : ∀ (o1 o2 : HO) (a b : Int), liftF (F_all m) [progD p, intsD (kidsv p.body k), .hs 2 2] [o1, o2, .cells 3 1 [iD a, iD b]] = some (bD (allV m p (kidsv p.body k) [a, b]), [o1, o2, .cells 3 1 [iD a, iD b]]) := fun o1 o2 a b => hall _ 2 3 [a, b] rfl
  have a3 : ∀ (o1 o2 : HO) (a b c : Int), liftF (F_all m) [progD p, intsD (kidsv p.body k), .hs 2 3] [o1, o2, .cells 3 1 [iD a, iD b, iD c]] = some (bD (allV m p (kidsv p.body k) [a, b, c]), [o1, o2, .cells 3 1 [iD a, iD b, iD c]]) := fun o1 o2 a b c => hall _ 2 3 [a, b, c] rfl
  · skip
    have hq := hkind (.plain [0, 0] 1) rfl
    cases hv : allV m p (kidsv p.body k) [0, 0] <;> exact ⟨_, by simp [idx_nodesN _ _ hk, hend, hE', ea, es, hkids, ep, typed_pure, size_pure, kindF_pure, row1, row2, row3, a1, a2, a3, hblk, hq, ruleKind, askV, inner, hv]; rfl⟩

theorem refOf_tag16 (m : Nat) (p : Pg) (k : Nat) (hp : p.body.length ≤ 3000000) (hm : 0 < m) (hE : 0 ≤ endv p.body k) (hk : k < p.body.length) (hkm : ∀ j ∈ kidsv p.body k, p.body.length < j.toNat + m) (htg : p.body[k].1 = 16) : ∃ H, textK Tryz.prog (T09f m) kp_offshootref09_Of ((kidsv p.body k).length + 1) Tryz.f59 [progD p, iD k] [] = some (iD (kindV (m + 1) p.vars p.body k), H) := by
  rw [sh_offshootref09_Of]
  have hE' : ¬ endv p.body k < 0 := by omega
  have har : 0 ≤ ar p.body[k] := by have := endv_ar p.body k hE; rwa [arAt_in _ _ hk] at this
  have hcount := kids_count p.body k hE hk
  rw [show p.body[k] = (p.body[k].1, p.body[k].2) from rfl] at har hcount
  have hkl := kidsv_len p.body k
  have hkind := kind_all m p k hE hk
  have hend := refEnd_pure p.body k hp
  have hkids := refKids_pure p.body k hp
  have ea : ∀ o : HO, allocH 54 [iD 0, iD 0] [o] = some (.hp 1 0, [o, .cells 54 2 [iD 0, iD 0]]) := fun o => rfl
  have es : ∀ o : HO, setH 2 (.hp 1 0) (.agg (nodeD p.body[k])) [o, .cells 54 2 [iD 0, iD 0]] = some (.v undef, [o, .cells 54 2 [iD p.body[k].1, iD p.body[k].2]]) := fun o => rfl
  have ep : D.agg [iD p.params, intsD p.vars, nodesD p.body] = progD p := rfl
  have hkid : ∀ j ∈ kidsv p.body k, 0 ≤ j ∧ j.toNat < p.body.length := fun j hj => by
    obtain ⟨c, hc, e⟩ := List.getElem_of_mem hj
    have := kid_facts p.body k c hc
    rw [e] at this
    exact ⟨by omega, this.2.2.2⟩
  have hall := all_obj m p (kidsv p.body k) hp (by omega) hm hkm
  have hblk := blocks_pure p (kidsv p.body k) (by omega) hkid
  have hloop := blk_loop m p (.cells 54 2 [iD p.body[k].1, iD p.body[k].2]) (kidsv p.body k) hp hm hkl hkm ((kidsv p.body k).length + 1) (by omega)
  have hti : ∀ t, p.body[k].1 = t → inner p.body[k].1 = inner t := fun t e => by rw [e]
  rw [htg] at *
  generalize hnn : p.body[k].2 = nn at *
  have a1 : ∀ (o1 o2 : HO) (a : Int), liftF (F_all m) [progD p, intsD (kidsv p.body k), .hs 2 1] [o1, o2, .cells 3 1 [iD a]] = some (bD (allV m p (kidsv p.body k) [a]), [o1, o2, .cells 3 1 [iD a]]) := fun o1 o2 a => hall _ 2 3 [a] rfl
  have a2 : ∀ (o1 o2 : HO) (a b : Int), liftF (F_all m) [progD p, intsD (kidsv p.body k), .hs 2 2] [o1, o2, .cells 3 1 [iD a, iD b]] = some (bD (allV m p (kidsv p.body k) [a, b]), [o1, o2, .cells 3 1 [iD a, iD b]]) := fun o1 o2 a b => hall _ 2 3 [a, b] rfl
  have a3 : ∀ (o1 o2 : HO) (a b c : Int), liftF (F_all m) [progD p, intsD (kidsv p.body k), .hs 2 3] [o1, o2, .cells 3 1 [iD a, iD b, iD c]] = some (bD (allV m p (kidsv p.body k) [a, b, c]), [o1, o2, .cells 3 1 [iD a, iD b, iD c]]) := fun o1 o2 a b c => hall _ 2 3 [a, b, c] rfl
  · skip
    have hq := hkind (.plain [0, 0] 1) rfl
    cases hv : allV m p (kidsv p.body k) [0, 0] <;> exact ⟨_, by simp [idx_nodesN _ _ hk, hend, hE', ea, es, hkids, ep, typed_pure, size_pure, kindF_pure, row1, row2, row3, a1, a2, a3, hblk, hq, ruleKind, askV, inner, hv]; rfl⟩

theorem refOf_tag17 (m : Nat) (p : Pg) (k : Nat) (hp : p.body.length ≤ 3000000) (hm : 0 < m) (hE : 0 ≤ endv p.body k) (hk : k < p.body.length) (hkm : ∀ j ∈ kidsv p.body k, p.body.length < j.toNat + m) (htg : p.body[k].1 = 17) : ∃ H, textK Tryz.prog (T09f m) kp_offshootref09_Of ((kidsv p.body k).length + 1) Tryz.f59 [progD p, iD k] [] = some (iD (kindV (m + 1) p.vars p.body k), H) := by
  rw [sh_offshootref09_Of]
  have hE' : ¬ endv p.body k < 0 := by omega
  have har : 0 ≤ ar p.body[k] := by have := endv_ar p.body k hE; rwa [arAt_in _ _ hk] at this
  have hcount := kids_count p.body k hE hk
  rw [show p.body[k] = (p.body[k].1, p.body[k].2) from rfl] at har hcount
  have hkl := kidsv_len p.body k
  have hkind := kind_all m p k hE hk
  have hend := refEnd_pure p.body k hp
  have hkids := refKids_pure p.body k hp
  have ea : ∀ o : HO, allocH 54 [iD 0, iD 0] [o] = some (.hp 1 0, [o, .cells 54 2 [iD 0, iD 0]]) := fun o => rfl
  have es : ∀ o : HO, setH 2 (.hp 1 0) (.agg (nodeD p.body[k])) [o, .cells 54 2 [iD 0, iD 0]] = some (.v undef, [o, .cells 54 2 [iD p.body[k].1, iD p.body[k].2]]) := fun o => rfl
  have ep : D.agg [iD p.params, intsD p.vars, nodesD p.body] = progD p := rfl
  have hkid : ∀ j ∈ kidsv p.body k, 0 ≤ j ∧ j.toNat < p.body.length := fun j hj => by
    obtain ⟨c, hc, e⟩ := List.getElem_of_mem hj
    have := kid_facts p.body k c hc
    rw [e] at this
    exact ⟨by omega, this.2.2.2⟩
  have hall := all_obj m p (kidsv p.body k) hp (by omega) hm hkm
  have hblk := blocks_pure p (kidsv p.body k) (by omega) hkid
  have hloop := blk_loop m p (.cells 54 2 [iD p.body[k].1, iD p.body[k].2]) (kidsv p.body k) hp hm hkl hkm ((kidsv p.body k).length + 1) (by omega)
  have hti : ∀ t, p.body[k].1 = t → inner p.body[k].1 = inner t := fun t e => by rw [e]
  rw [htg] at *
  generalize hnn : p.body[k].2 = nn at *
  have a1 : ∀ (o1 o2 : HO) (a : Int), liftF (F_all m) [progD p, intsD (kidsv p.body k), .hs 2 1] [o1, o2, .cells 3 1 [iD a]] = some (bD (allV m p (kidsv p.body k) [a]), [o1, o2, .cells 3 1 [iD a]]) := fun o1 o2 a => hall _ 2 3 [a] rfl
  have a2 : ∀ (o1 o2 : HO) (a b : Int), liftF (F_all m) [progD p, intsD (kidsv p.body k), .hs 2 2] [o1, o2, .cells 3 1 [iD a, iD b]] = some (bD (allV m p (kidsv p.body k) [a, b]), [o1, o2, .cells 3 1 [iD a, iD b]]) := fun o1 o2 a b => hall _ 2 3 [a, b] rfl
  have a3 : ∀ (o1 o2 : HO) (a b c : Int), liftF (F_all m) [progD p, intsD (kidsv p.body k), .hs 2 3] [o1, o2, .cells 3 1 [iD a, iD b, iD c]] = some (bD (allV m p (kidsv p.body k) [a, b, c]), [o1, o2, .cells 3 1 [iD a, iD b, iD c]]) := fun o1 o2 a b c => hall _ 2 3 [a, b, c] rfl
  · skip
    have hq := hkind (.plain [0, 0] 1) rfl
    cases hv : allV m p (kidsv p.body k) [0, 0] <;> exact ⟨_, by simp [idx_nodesN _ _ hk, hend, hE', ea, es, hkids, ep, typed_pure, size_pure, kindF_pure, row1, row2, row3, a1, a2, a3, hblk, hq, ruleKind, askV, inner, hv]; rfl⟩

theorem refOf_tag18 (m : Nat) (p : Pg) (k : Nat) (hp : p.body.length ≤ 3000000) (hm : 0 < m) (hE : 0 ≤ endv p.body k) (hk : k < p.body.length) (hkm : ∀ j ∈ kidsv p.body k, p.body.length < j.toNat + m) (htg : p.body[k].1 = 18) : ∃ H, textK Tryz.prog (T09f m) kp_offshootref09_Of ((kidsv p.body k).length + 1) Tryz.f59 [progD p, iD k] [] = some (iD (kindV (m + 1) p.vars p.body k), H) := by
  rw [sh_offshootref09_Of]
  have hE' : ¬ endv p.body k < 0 := by omega
  have har : 0 ≤ ar p.body[k] := by have := endv_ar p.body k hE; rwa [arAt_in _ _ hk] at this
  have hcount := kids_count p.body k hE hk
  rw [show p.body[k] = (p.body[k].1, p.body[k].2) from rfl] at har hcount
  have hkl := kidsv_len p.body k
  have hkind := kind_all m p k hE hk
  have hend := refEnd_pure p.body k hp
  have hkids := refKids_pure p.body k hp
  have ea : ∀ o : HO, allocH 54 [iD 0, iD 0] [o] = some (.hp 1 0, [o, .cells 54 2 [iD 0, iD 0]]) := fun o => rfl
  have es : ∀ o : HO, setH 2 (.hp 1 0) (.agg (nodeD p.body[k])) [o, .cells 54 2 [iD 0, iD 0]] = some (.v undef, [o, .cells 54 2 [iD p.body[k].1, iD p.body[k].2]]) := fun o => rfl
  have ep : D.agg [iD p.params, intsD p.vars, nodesD p.body] = progD p := rfl
  have hkid : ∀ j ∈ kidsv p.body k, 0 ≤ j ∧ j.toNat < p.body.length := fun j hj => by
    obtain ⟨c, hc, e⟩ := List.getElem_of_mem hj
    have := kid_facts p.body k c hc
    rw [e] at this
    exact ⟨by omega, this.2.2.2⟩
  have hall := all_obj m p (kidsv p.body k) hp (by omega) hm hkm
  have hblk := blocks_pure p (kidsv p.body k) (by omega) hkid
  have hloop := blk_loop m p (.cells 54 2 [iD p.body[k].1, iD p.body[k].2]) (kidsv p.body k) hp hm hkl hkm ((kidsv p.body k).length + 1) (by omega)
  have hti : ∀ t, p.body[k].1 = t → inner p.body[k].1 = inner t := fun t e => by rw [e]
  rw [htg] at *
  generalize hnn : p.body[k].2 = nn at *
  have a1 : ∀ (o1 o2 : HO) (a : Int), liftF (F_all m) [progD p, intsD (kidsv p.body k), .hs 2 1] [o1, o2, .cells 3 1 [iD a]] = some (bD (allV m p (kidsv p.body k) [a]), [o1, o2, .cells 3 1 [iD a]]) := fun o1 o2 a => hall _ 2 3 [a] rfl
  have a2 : ∀ (o1 o2 : HO) (a b : Int), liftF (F_all m) [progD p, intsD (kidsv p.body k), .hs 2 2] [o1, o2, .cells 3 1 [iD a, iD b]] = some (bD (allV m p (kidsv p.body k) [a, b]), [o1, o2, .cells 3 1 [iD a, iD b]]) := fun o1 o2 a b => hall _ 2 3 [a, b] rfl
  have a3 : ∀ (o1 o2 : HO) (a b c : Int), liftF (F_all m) [progD p, intsD (kidsv p.body k), .hs 2 3] [o1, o2, .cells 3 1 [iD a, iD b, iD c]] = some (bD (allV m p (kidsv p.body k) [a, b, c]), [o1, o2, .cells 3 1 [iD a, iD b, iD c]]) := fun o1 o2 a b c => hall _ 2 3 [a, b, c] rfl
  · skip
    have hq := hkind (.plain [1, 1] 1) rfl
    cases hv : allV m p (kidsv p.body k) [1, 1] <;> exact ⟨_, by simp [idx_nodesN _ _ hk, hend, hE', ea, es, hkids, ep, typed_pure, size_pure, kindF_pure, row1, row2, row3, a1, a2, a3, hblk, hq, ruleKind, askV, inner, hv]; rfl⟩

theorem refOf_tag19 (m : Nat) (p : Pg) (k : Nat) (hp : p.body.length ≤ 3000000) (hm : 0 < m) (hE : 0 ≤ endv p.body k) (hk : k < p.body.length) (hkm : ∀ j ∈ kidsv p.body k, p.body.length < j.toNat + m) (htg : p.body[k].1 = 19) : ∃ H, textK Tryz.prog (T09f m) kp_offshootref09_Of ((kidsv p.body k).length + 1) Tryz.f59 [progD p, iD k] [] = some (iD (kindV (m + 1) p.vars p.body k), H) := by
  rw [sh_offshootref09_Of]
  have hE' : ¬ endv p.body k < 0 := by omega
  have har : 0 ≤ ar p.body[k] := by have := endv_ar p.body k hE; rwa [arAt_in _ _ hk] at this
  have hcount := kids_count p.body k hE hk
  rw [show p.body[k] = (p.body[k].1, p.body[k].2) from rfl] at har hcount
  have hkl := kidsv_len p.body k
  have hkind := kind_all m p k hE hk
  have hend := refEnd_pure p.body k hp
  have hkids := refKids_pure p.body k hp
  have ea : ∀ o : HO, allocH 54 [iD 0, iD 0] [o] = some (.hp 1 0, [o, .cells 54 2 [iD 0, iD 0]]) := fun o => rfl
  have es : ∀ o : HO, setH 2 (.hp 1 0) (.agg (nodeD p.body[k])) [o, .cells 54 2 [iD 0, iD 0]] = some (.v undef, [o, .cells 54 2 [iD p.body[k].1, iD p.body[k].2]]) := fun o => rfl
  have ep : D.agg [iD p.params, intsD p.vars, nodesD p.body] = progD p := rfl
  have hkid : ∀ j ∈ kidsv p.body k, 0 ≤ j ∧ j.toNat < p.body.length := fun j hj => by
    obtain ⟨c, hc, e⟩ := List.getElem_of_mem hj
    have := kid_facts p.body k c hc
    rw [e] at this
    exact ⟨by omega, this.2.2.2⟩
  have hall := all_obj m p (kidsv p.body k) hp (by omega) hm hkm
  have hblk := blocks_pure p (kidsv p.body k) (by omega) hkid
  have hloop := blk_loop m p (.cells 54 2 [iD p.body[k].1, iD p.body[k].2]) (kidsv p.body k) hp hm hkl hkm ((kidsv p.body k).length + 1) (by omega)
  have hti : ∀ t, p.body[k].1 = t → inner p.body[k].1 = inner t := fun t e => by rw [e]
  rw [htg] at *
  generalize hnn : p.body[k].2 = nn at *
  have a1 : ∀ (o1 o2 : HO) (a : Int), liftF (F_all m) [progD p, intsD (kidsv p.body k), .hs 2 1] [o1, o2, .cells 3 1 [iD a]] = some (bD (allV m p (kidsv p.body k) [a]), [o1, o2, .cells 3 1 [iD a]]) := fun o1 o2 a => hall _ 2 3 [a] rfl
  have a2 : ∀ (o1 o2 : HO) (a b : Int), liftF (F_all m) [progD p, intsD (kidsv p.body k), .hs 2 2] [o1, o2, .cells 3 1 [iD a, iD b]] = some (bD (allV m p (kidsv p.body k) [a, b]), [o1, o2, .cells 3 1 [iD a, iD b]]) := fun o1 o2 a b => hall _ 2 3 [a, b] rfl
  have a3 : ∀ (o1 o2 : HO) (a b c : Int), liftF (F_all m) [progD p, intsD (kidsv p.body k), .hs 2 3] [o1, o2, .cells 3 1 [iD a, iD b, iD c]] = some (bD (allV m p (kidsv p.body k) [a, b, c]), [o1, o2, .cells 3 1 [iD a, iD b, iD c]]) := fun o1 o2 a b c => hall _ 2 3 [a, b, c] rfl
  · skip
    have hq := hkind (.plain [1, 1] 1) rfl
    cases hv : allV m p (kidsv p.body k) [1, 1] <;> exact ⟨_, by simp [idx_nodesN _ _ hk, hend, hE', ea, es, hkids, ep, typed_pure, size_pure, kindF_pure, row1, row2, row3, a1, a2, a3, hblk, hq, ruleKind, askV, inner, hv]; rfl⟩

theorem refOf_tag20 (m : Nat) (p : Pg) (k : Nat) (hp : p.body.length ≤ 3000000) (hm : 0 < m) (hE : 0 ≤ endv p.body k) (hk : k < p.body.length) (hkm : ∀ j ∈ kidsv p.body k, p.body.length < j.toNat + m) (htg : p.body[k].1 = 20) : ∃ H, textK Tryz.prog (T09f m) kp_offshootref09_Of ((kidsv p.body k).length + 1) Tryz.f59 [progD p, iD k] [] = some (iD (kindV (m + 1) p.vars p.body k), H) := by
  rw [sh_offshootref09_Of]
  have hE' : ¬ endv p.body k < 0 := by omega
  have har : 0 ≤ ar p.body[k] := by have := endv_ar p.body k hE; rwa [arAt_in _ _ hk] at this
  have hcount := kids_count p.body k hE hk
  rw [show p.body[k] = (p.body[k].1, p.body[k].2) from rfl] at har hcount
  have hkl := kidsv_len p.body k
  have hkind := kind_all m p k hE hk
  have hend := refEnd_pure p.body k hp
  have hkids := refKids_pure p.body k hp
  have ea : ∀ o : HO, allocH 54 [iD 0, iD 0] [o] = some (.hp 1 0, [o, .cells 54 2 [iD 0, iD 0]]) := fun o => rfl
  have es : ∀ o : HO, setH 2 (.hp 1 0) (.agg (nodeD p.body[k])) [o, .cells 54 2 [iD 0, iD 0]] = some (.v undef, [o, .cells 54 2 [iD p.body[k].1, iD p.body[k].2]]) := fun o => rfl
  have ep : D.agg [iD p.params, intsD p.vars, nodesD p.body] = progD p := rfl
  have hkid : ∀ j ∈ kidsv p.body k, 0 ≤ j ∧ j.toNat < p.body.length := fun j hj => by
    obtain ⟨c, hc, e⟩ := List.getElem_of_mem hj
    have := kid_facts p.body k c hc
    rw [e] at this
    exact ⟨by omega, this.2.2.2⟩
  have hall := all_obj m p (kidsv p.body k) hp (by omega) hm hkm
  have hblk := blocks_pure p (kidsv p.body k) (by omega) hkid
  have hloop := blk_loop m p (.cells 54 2 [iD p.body[k].1, iD p.body[k].2]) (kidsv p.body k) hp hm hkl hkm ((kidsv p.body k).length + 1) (by omega)
  have hti : ∀ t, p.body[k].1 = t → inner p.body[k].1 = inner t := fun t e => by rw [e]
  rw [htg] at *
  generalize hnn : p.body[k].2 = nn at *
  have a1 : ∀ (o1 o2 : HO) (a : Int), liftF (F_all m) [progD p, intsD (kidsv p.body k), .hs 2 1] [o1, o2, .cells 3 1 [iD a]] = some (bD (allV m p (kidsv p.body k) [a]), [o1, o2, .cells 3 1 [iD a]]) := fun o1 o2 a => hall _ 2 3 [a] rfl
  have a2 : ∀ (o1 o2 : HO) (a b : Int), liftF (F_all m) [progD p, intsD (kidsv p.body k), .hs 2 2] [o1, o2, .cells 3 1 [iD a, iD b]] = some (bD (allV m p (kidsv p.body k) [a, b]), [o1, o2, .cells 3 1 [iD a, iD b]]) := fun o1 o2 a b => hall _ 2 3 [a, b] rfl
  have a3 : ∀ (o1 o2 : HO) (a b c : Int), liftF (F_all m) [progD p, intsD (kidsv p.body k), .hs 2 3] [o1, o2, .cells 3 1 [iD a, iD b, iD c]] = some (bD (allV m p (kidsv p.body k) [a, b, c]), [o1, o2, .cells 3 1 [iD a, iD b, iD c]]) := fun o1 o2 a b c => hall _ 2 3 [a, b, c] rfl
  · skip
    have hq := hkind .none rfl
    have hal : allV m p (kidsv p.body k) (List.replicate (kidsv p.body k).length 2) = (List.range (kidsv p.body k).length).all fun j => decide (kindV m p.vars p.body ((kidsv p.body k).getD j 0) = 2) := by
      simp only [allV, List.length_replicate, decide_true, Bool.true_and]
      rw [Bool.eq_iff_iff]; simp only [List.all_eq_true, List.mem_range, decide_eq_true_eq]
      constructor <;> (intro q j hj; have := q j hj; simpa [hj] using this)
    rcases hloop with ⟨q1, q2⟩ | ⟨i, _, q1, q2, q3, q4⟩
    · have hv : ((List.range (kidsv p.body k).length).all fun j => decide (kindV m p.vars p.body ((kidsv p.body k).getD j 0) = 2)) = true := by rw [List.all_eq_true]; intro i hi; exact q1 i (Nat.zero_le _) (by simpa using hi)
      simp only [cast0] at q2
      rw [hv] at hal
      exact ⟨_, by simp [idx_nodesN _ _ hk, hend, hE', ea, es, hkids, ep, typed_pure, size_pure, kindF_pure, row1, row2, row3, a1, a2, a3, hblk, hq, ruleKind, askV, inner, hal, q2]; rfl⟩
    · have hv : ((List.range (kidsv p.body k).length).all fun j => decide (kindV m p.vars p.body ((kidsv p.body k).getD j 0) = 2)) = false := by
        rw [Bool.eq_false_iff]; intro e; rw [List.all_eq_true] at e
        have := e i (by simpa using q1)
        rw [q2] at this; cases this
      simp only [cast0] at q4
      rw [hv] at hal
      exact ⟨_, by simp [idx_nodesN _ _ hk, hend, hE', ea, es, hkids, ep, typed_pure, size_pure, kindF_pure, row1, row2, row3, a1, a2, a3, hblk, hq, ruleKind, askV, inner, hal, q4]; rfl⟩

theorem refOf_tag21 (m : Nat) (p : Pg) (k : Nat) (hp : p.body.length ≤ 3000000) (hm : 0 < m) (hE : 0 ≤ endv p.body k) (hk : k < p.body.length) (hkm : ∀ j ∈ kidsv p.body k, p.body.length < j.toNat + m) (htg : p.body[k].1 = 21) : ∃ H, textK Tryz.prog (T09f m) kp_offshootref09_Of ((kidsv p.body k).length + 1) Tryz.f59 [progD p, iD k] [] = some (iD (kindV (m + 1) p.vars p.body k), H) := by
  rw [sh_offshootref09_Of]
  have hE' : ¬ endv p.body k < 0 := by omega
  have har : 0 ≤ ar p.body[k] := by have := endv_ar p.body k hE; rwa [arAt_in _ _ hk] at this
  have hcount := kids_count p.body k hE hk
  rw [show p.body[k] = (p.body[k].1, p.body[k].2) from rfl] at har hcount
  have hkl := kidsv_len p.body k
  have hkind := kind_all m p k hE hk
  have hend := refEnd_pure p.body k hp
  have hkids := refKids_pure p.body k hp
  have ea : ∀ o : HO, allocH 54 [iD 0, iD 0] [o] = some (.hp 1 0, [o, .cells 54 2 [iD 0, iD 0]]) := fun o => rfl
  have es : ∀ o : HO, setH 2 (.hp 1 0) (.agg (nodeD p.body[k])) [o, .cells 54 2 [iD 0, iD 0]] = some (.v undef, [o, .cells 54 2 [iD p.body[k].1, iD p.body[k].2]]) := fun o => rfl
  have ep : D.agg [iD p.params, intsD p.vars, nodesD p.body] = progD p := rfl
  have hkid : ∀ j ∈ kidsv p.body k, 0 ≤ j ∧ j.toNat < p.body.length := fun j hj => by
    obtain ⟨c, hc, e⟩ := List.getElem_of_mem hj
    have := kid_facts p.body k c hc
    rw [e] at this
    exact ⟨by omega, this.2.2.2⟩
  have hall := all_obj m p (kidsv p.body k) hp (by omega) hm hkm
  have hblk := blocks_pure p (kidsv p.body k) (by omega) hkid
  have hloop := blk_loop m p (.cells 54 2 [iD p.body[k].1, iD p.body[k].2]) (kidsv p.body k) hp hm hkl hkm ((kidsv p.body k).length + 1) (by omega)
  have hti : ∀ t, p.body[k].1 = t → inner p.body[k].1 = inner t := fun t e => by rw [e]
  rw [htg] at *
  generalize hnn : p.body[k].2 = nn at *
  have a1 : ∀ (o1 o2 : HO) (a : Int), liftF (F_all m) [progD p, intsD (kidsv p.body k), .hs 2 1] [o1, o2, .cells 3 1 [iD a]] = some (bD (allV m p (kidsv p.body k) [a]), [o1, o2, .cells 3 1 [iD a]]) := fun o1 o2 a => hall _ 2 3 [a] rfl
  have a2 : ∀ (o1 o2 : HO) (a b : Int), liftF (F_all m) [progD p, intsD (kidsv p.body k), .hs 2 2] [o1, o2, .cells 3 1 [iD a, iD b]] = some (bD (allV m p (kidsv p.body k) [a, b]), [o1, o2, .cells 3 1 [iD a, iD b]]) := fun o1 o2 a b => hall _ 2 3 [a, b] rfl
  have a3 : ∀ (o1 o2 : HO) (a b c : Int), liftF (F_all m) [progD p, intsD (kidsv p.body k), .hs 2 3] [o1, o2, .cells 3 1 [iD a, iD b, iD c]] = some (bD (allV m p (kidsv p.body k) [a, b, c]), [o1, o2, .cells 3 1 [iD a, iD b, iD c]]) := fun o1 o2 a b c => hall _ 2 3 [a, b, c] rfl
  · skip
    have hq := hkind (.scalar true) rfl
    have h0n : 0 ≤ nn := by have : nn < 0 → ar (21, nn) < 0 := (fun h => by unfold ar lim; simp [h]); omega
    have hin : typedV p.vars nn ≠ -1 → nn.toNat < p.vars.length ∧ p.vars.getD nn.toNat 0 = typedV p.vars nn := fun h => by
      by_cases hl : nn.toNat < p.vars.length
      · exact ⟨hl, by rw [typed_in h0n hl, getD_in _ _ _ hl]⟩
      · exact absurd (typed_out h0n (by omega)) h
    by_cases h0 : typedV p.vars nn = 0
    · obtain ⟨hi1, hi2⟩ := hin (by omega)
      have hask : askV p.vars p.body[k] (kidsv p.body k).length (.scalar true) = [0] := by simp only [askV, hnn, hi1, if_true, hi2, h0]
      rw [hask] at hq
      cases hv : allV m p (kidsv p.body k) [0] <;> exact ⟨_, by simp [idx_nodesN _ _ hk, hend, hE', ea, es, hkids, ep, typed_pure, size_pure, kindF_pure, row1, row2, row3, a1, a2, a3, hblk, hq, ruleKind, scalarKindV, inner, h0, hv, hnn]; rfl⟩
    by_cases h1 : typedV p.vars nn = 1
    · obtain ⟨hi1, hi2⟩ := hin (by omega)
      have hask : askV p.vars p.body[k] (kidsv p.body k).length (.scalar true) = [1] := by simp only [askV, hnn, hi1, if_true, hi2, h1]
      rw [hask] at hq
      cases hv : allV m p (kidsv p.body k) [1] <;> exact ⟨_, by simp [idx_nodesN _ _ hk, hend, hE', ea, es, hkids, ep, typed_pure, size_pure, kindF_pure, row1, row2, row3, a1, a2, a3, hblk, hq, ruleKind, scalarKindV, inner, h1, hv, hnn]; rfl⟩
    exact ⟨_, by simp [idx_nodesN _ _ hk, hend, hE', ea, es, hkids, ep, typed_pure, size_pure, kindF_pure, row1, row2, row3, a1, a2, a3, hblk, hq, ruleKind, scalarKindV, h0, h1, hnn]; rfl⟩

theorem refOf_tag22 (m : Nat) (p : Pg) (k : Nat) (hp : p.body.length ≤ 3000000) (hm : 0 < m) (hE : 0 ≤ endv p.body k) (hk : k < p.body.length) (hkm : ∀ j ∈ kidsv p.body k, p.body.length < j.toNat + m) (htg : p.body[k].1 = 22) : ∃ H, textK Tryz.prog (T09f m) kp_offshootref09_Of ((kidsv p.body k).length + 1) Tryz.f59 [progD p, iD k] [] = some (iD (kindV (m + 1) p.vars p.body k), H) := by
  rw [sh_offshootref09_Of]
  have hE' : ¬ endv p.body k < 0 := by omega
  have har : 0 ≤ ar p.body[k] := by have := endv_ar p.body k hE; rwa [arAt_in _ _ hk] at this
  have hcount := kids_count p.body k hE hk
  rw [show p.body[k] = (p.body[k].1, p.body[k].2) from rfl] at har hcount
  have hkl := kidsv_len p.body k
  have hkind := kind_all m p k hE hk
  have hend := refEnd_pure p.body k hp
  have hkids := refKids_pure p.body k hp
  have ea : ∀ o : HO, allocH 54 [iD 0, iD 0] [o] = some (.hp 1 0, [o, .cells 54 2 [iD 0, iD 0]]) := fun o => rfl
  have es : ∀ o : HO, setH 2 (.hp 1 0) (.agg (nodeD p.body[k])) [o, .cells 54 2 [iD 0, iD 0]] = some (.v undef, [o, .cells 54 2 [iD p.body[k].1, iD p.body[k].2]]) := fun o => rfl
  have ep : D.agg [iD p.params, intsD p.vars, nodesD p.body] = progD p := rfl
  have hkid : ∀ j ∈ kidsv p.body k, 0 ≤ j ∧ j.toNat < p.body.length := fun j hj => by
    obtain ⟨c, hc, e⟩ := List.getElem_of_mem hj
    have := kid_facts p.body k c hc
    rw [e] at this
    exact ⟨by omega, this.2.2.2⟩
  have hall := all_obj m p (kidsv p.body k) hp (by omega) hm hkm
  have hblk := blocks_pure p (kidsv p.body k) (by omega) hkid
  have hloop := blk_loop m p (.cells 54 2 [iD p.body[k].1, iD p.body[k].2]) (kidsv p.body k) hp hm hkl hkm ((kidsv p.body k).length + 1) (by omega)
  have hti : ∀ t, p.body[k].1 = t → inner p.body[k].1 = inner t := fun t e => by rw [e]
  rw [htg] at *
  generalize hnn : p.body[k].2 = nn at *
  have a1 : ∀ (o1 o2 : HO) (a : Int), liftF (F_all m) [progD p, intsD (kidsv p.body k), .hs 2 1] [o1, o2, .cells 3 1 [iD a]] = some (bD (allV m p (kidsv p.body k) [a]), [o1, o2, .cells 3 1 [iD a]]) := fun o1 o2 a => hall _ 2 3 [a] rfl
  have a2 : ∀ (o1 o2 : HO) (a b : Int), liftF (F_all m) [progD p, intsD (kidsv p.body k), .hs 2 2] [o1, o2, .cells 3 1 [iD a, iD b]] = some (bD (allV m p (kidsv p.body k) [a, b]), [o1, o2, .cells 3 1 [iD a, iD b]]) := fun o1 o2 a b => hall _ 2 3 [a, b] rfl
  have a3 : ∀ (o1 o2 : HO) (a b c : Int), liftF (F_all m) [progD p, intsD (kidsv p.body k), .hs 2 3] [o1, o2, .cells 3 1 [iD a, iD b, iD c]] = some (bD (allV m p (kidsv p.body k) [a, b, c]), [o1, o2, .cells 3 1 [iD a, iD b, iD c]]) := fun o1 o2 a b c => hall _ 2 3 [a, b, c] rfl
  · skip
    have hq := hkind (.array [0, 0] 2) rfl
    by_cases hs : sizeV (typedV p.vars nn) = 0
    · exact ⟨_, by simp [idx_nodesN _ _ hk, hend, hE', ea, es, hkids, ep, typed_pure, size_pure, kindF_pure, row1, row2, row3, a1, a2, a3, hblk, hq, ruleKind, arrayKindV, hs, hnn]; rfl⟩
    · have hs2 := sizeV_pos _ hs
      cases hv : allV m p (kidsv p.body k) [0, 0] <;> exact ⟨_, by simp [idx_nodesN _ _ hk, hend, hE', ea, es, hkids, ep, typed_pure, size_pure, kindF_pure, row1, row2, row3, a1, a2, a3, hblk, hq, ruleKind, arrayKindV, askV, inner, hs, hs2, hv, hnn]; rfl⟩

theorem refOf_tag23 (m : Nat) (p : Pg) (k : Nat) (hp : p.body.length ≤ 3000000) (hm : 0 < m) (hE : 0 ≤ endv p.body k) (hk : k < p.body.length) (hkm : ∀ j ∈ kidsv p.body k, p.body.length < j.toNat + m) (htg : p.body[k].1 = 23) : ∃ H, textK Tryz.prog (T09f m) kp_offshootref09_Of ((kidsv p.body k).length + 1) Tryz.f59 [progD p, iD k] [] = some (iD (kindV (m + 1) p.vars p.body k), H) := by
  rw [sh_offshootref09_Of]
  have hE' : ¬ endv p.body k < 0 := by omega
  have har : 0 ≤ ar p.body[k] := by have := endv_ar p.body k hE; rwa [arAt_in _ _ hk] at this
  have hcount := kids_count p.body k hE hk
  rw [show p.body[k] = (p.body[k].1, p.body[k].2) from rfl] at har hcount
  have hkl := kidsv_len p.body k
  have hkind := kind_all m p k hE hk
  have hend := refEnd_pure p.body k hp
  have hkids := refKids_pure p.body k hp
  have ea : ∀ o : HO, allocH 54 [iD 0, iD 0] [o] = some (.hp 1 0, [o, .cells 54 2 [iD 0, iD 0]]) := fun o => rfl
  have es : ∀ o : HO, setH 2 (.hp 1 0) (.agg (nodeD p.body[k])) [o, .cells 54 2 [iD 0, iD 0]] = some (.v undef, [o, .cells 54 2 [iD p.body[k].1, iD p.body[k].2]]) := fun o => rfl
  have ep : D.agg [iD p.params, intsD p.vars, nodesD p.body] = progD p := rfl
  have hkid : ∀ j ∈ kidsv p.body k, 0 ≤ j ∧ j.toNat < p.body.length := fun j hj => by
    obtain ⟨c, hc, e⟩ := List.getElem_of_mem hj
    have := kid_facts p.body k c hc
    rw [e] at this
    exact ⟨by omega, this.2.2.2⟩
  have hall := all_obj m p (kidsv p.body k) hp (by omega) hm hkm
  have hblk := blocks_pure p (kidsv p.body k) (by omega) hkid
  have hloop := blk_loop m p (.cells 54 2 [iD p.body[k].1, iD p.body[k].2]) (kidsv p.body k) hp hm hkl hkm ((kidsv p.body k).length + 1) (by omega)
  have hti : ∀ t, p.body[k].1 = t → inner p.body[k].1 = inner t := fun t e => by rw [e]
  rw [htg] at *
  generalize hnn : p.body[k].2 = nn at *
  have a1 : ∀ (o1 o2 : HO) (a : Int), liftF (F_all m) [progD p, intsD (kidsv p.body k), .hs 2 1] [o1, o2, .cells 3 1 [iD a]] = some (bD (allV m p (kidsv p.body k) [a]), [o1, o2, .cells 3 1 [iD a]]) := fun o1 o2 a => hall _ 2 3 [a] rfl
  have a2 : ∀ (o1 o2 : HO) (a b : Int), liftF (F_all m) [progD p, intsD (kidsv p.body k), .hs 2 2] [o1, o2, .cells 3 1 [iD a, iD b]] = some (bD (allV m p (kidsv p.body k) [a, b]), [o1, o2, .cells 3 1 [iD a, iD b]]) := fun o1 o2 a b => hall _ 2 3 [a, b] rfl
  have a3 : ∀ (o1 o2 : HO) (a b c : Int), liftF (F_all m) [progD p, intsD (kidsv p.body k), .hs 2 3] [o1, o2, .cells 3 1 [iD a, iD b, iD c]] = some (bD (allV m p (kidsv p.body k) [a, b, c]), [o1, o2, .cells 3 1 [iD a, iD b, iD c]]) := fun o1 o2 a b c => hall _ 2 3 [a, b, c] rfl
  · skip
    have hq := hkind (.plain [1, 2, 2] 2) rfl
    cases hv : allV m p (kidsv p.body k) [1, 2, 2] <;> cases hb : blkV p.body (kidsv p.body k) 1 <;> exact ⟨_, by simp [idx_nodesN _ _ hk, hend, hE', ea, es, hkids, ep, typed_pure, size_pure, kindF_pure, row1, row2, row3, a1, a2, a3, hblk, hq, ruleKind, askV, inner, hv, hb]; rfl⟩

theorem refOf_tag24 (m : Nat) (p : Pg) (k : Nat) (hp : p.body.length ≤ 3000000) (hm : 0 < m) (hE : 0 ≤ endv p.body k) (hk : k < p.body.length) (hkm : ∀ j ∈ kidsv p.body k, p.body.length < j.toNat + m) (htg : p.body[k].1 = 24) : ∃ H, textK Tryz.prog (T09f m) kp_offshootref09_Of ((kidsv p.body k).length + 1) Tryz.f59 [progD p, iD k] [] = some (iD (kindV (m + 1) p.vars p.body k), H) := by
  rw [sh_offshootref09_Of]
  have hE' : ¬ endv p.body k < 0 := by omega
  have har : 0 ≤ ar p.body[k] := by have := endv_ar p.body k hE; rwa [arAt_in _ _ hk] at this
  have hcount := kids_count p.body k hE hk
  rw [show p.body[k] = (p.body[k].1, p.body[k].2) from rfl] at har hcount
  have hkl := kidsv_len p.body k
  have hkind := kind_all m p k hE hk
  have hend := refEnd_pure p.body k hp
  have hkids := refKids_pure p.body k hp
  have ea : ∀ o : HO, allocH 54 [iD 0, iD 0] [o] = some (.hp 1 0, [o, .cells 54 2 [iD 0, iD 0]]) := fun o => rfl
  have es : ∀ o : HO, setH 2 (.hp 1 0) (.agg (nodeD p.body[k])) [o, .cells 54 2 [iD 0, iD 0]] = some (.v undef, [o, .cells 54 2 [iD p.body[k].1, iD p.body[k].2]]) := fun o => rfl
  have ep : D.agg [iD p.params, intsD p.vars, nodesD p.body] = progD p := rfl
  have hkid : ∀ j ∈ kidsv p.body k, 0 ≤ j ∧ j.toNat < p.body.length := fun j hj => by
    obtain ⟨c, hc, e⟩ := List.getElem_of_mem hj
    have := kid_facts p.body k c hc
    rw [e] at this
    exact ⟨by omega, this.2.2.2⟩
  have hall := all_obj m p (kidsv p.body k) hp (by omega) hm hkm
  have hblk := blocks_pure p (kidsv p.body k) (by omega) hkid
  have hloop := blk_loop m p (.cells 54 2 [iD p.body[k].1, iD p.body[k].2]) (kidsv p.body k) hp hm hkl hkm ((kidsv p.body k).length + 1) (by omega)
  have hti : ∀ t, p.body[k].1 = t → inner p.body[k].1 = inner t := fun t e => by rw [e]
  rw [htg] at *
  generalize hnn : p.body[k].2 = nn at *
  have a1 : ∀ (o1 o2 : HO) (a : Int), liftF (F_all m) [progD p, intsD (kidsv p.body k), .hs 2 1] [o1, o2, .cells 3 1 [iD a]] = some (bD (allV m p (kidsv p.body k) [a]), [o1, o2, .cells 3 1 [iD a]]) := fun o1 o2 a => hall _ 2 3 [a] rfl
  have a2 : ∀ (o1 o2 : HO) (a b : Int), liftF (F_all m) [progD p, intsD (kidsv p.body k), .hs 2 2] [o1, o2, .cells 3 1 [iD a, iD b]] = some (bD (allV m p (kidsv p.body k) [a, b]), [o1, o2, .cells 3 1 [iD a, iD b]]) := fun o1 o2 a b => hall _ 2 3 [a, b] rfl
  have a3 : ∀ (o1 o2 : HO) (a b c : Int), liftF (F_all m) [progD p, intsD (kidsv p.body k), .hs 2 3] [o1, o2, .cells 3 1 [iD a, iD b, iD c]] = some (bD (allV m p (kidsv p.body k) [a, b, c]), [o1, o2, .cells 3 1 [iD a, iD b, iD c]]) := fun o1 o2 a b c => hall _ 2 3 [a, b, c] rfl
  · skip
    have hq := hkind (.plain [1, 2] 2) rfl
    cases hv : allV m p (kidsv p.body k) [1, 2] <;> cases hb : blkV p.body (kidsv p.body k) 1 <;> exact ⟨_, by simp [idx_nodesN _ _ hk, hend, hE', ea, es, hkids, ep, typed_pure, size_pure, kindF_pure, row1, row2, row3, a1, a2, a3, hblk, hq, ruleKind, askV, inner, hv, hb]; rfl⟩

theorem refOf_tag25 (m : Nat) (p : Pg) (k : Nat) (hp : p.body.length ≤ 3000000) (hm : 0 < m) (hE : 0 ≤ endv p.body k) (hk : k < p.body.length) (hkm : ∀ j ∈ kidsv p.body k, p.body.length < j.toNat + m) (htg : p.body[k].1 = 25) : ∃ H, textK Tryz.prog (T09f m) kp_offshootref09_Of ((kidsv p.body k).length + 1) Tryz.f59 [progD p, iD k] [] = some (iD (kindV (m + 1) p.vars p.body k), H) := by
  rw [sh_offshootref09_Of]
  have hE' : ¬ endv p.body k < 0 := by omega
  have har : 0 ≤ ar p.body[k] := by have := endv_ar p.body k hE; rwa [arAt_in _ _ hk] at this
  have hcount := kids_count p.body k hE hk
  rw [show p.body[k] = (p.body[k].1, p.body[k].2) from rfl] at har hcount
  have hkl := kidsv_len p.body k
  have hkind := kind_all m p k hE hk
  have hend := refEnd_pure p.body k hp
  have hkids := refKids_pure p.body k hp
  have ea : ∀ o : HO, allocH 54 [iD 0, iD 0] [o] = some (.hp 1 0, [o, .cells 54 2 [iD 0, iD 0]]) := fun o => rfl
  have es : ∀ o : HO, setH 2 (.hp 1 0) (.agg (nodeD p.body[k])) [o, .cells 54 2 [iD 0, iD 0]] = some (.v undef, [o, .cells 54 2 [iD p.body[k].1, iD p.body[k].2]]) := fun o => rfl
  have ep : D.agg [iD p.params, intsD p.vars, nodesD p.body] = progD p := rfl
  have hkid : ∀ j ∈ kidsv p.body k, 0 ≤ j ∧ j.toNat < p.body.length := fun j hj => by
    obtain ⟨c, hc, e⟩ := List.getElem_of_mem hj
    have := kid_facts p.body k c hc
    rw [e] at this
    exact ⟨by omega, this.2.2.2⟩
  have hall := all_obj m p (kidsv p.body k) hp (by omega) hm hkm
  have hblk := blocks_pure p (kidsv p.body k) (by omega) hkid
  have hloop := blk_loop m p (.cells 54 2 [iD p.body[k].1, iD p.body[k].2]) (kidsv p.body k) hp hm hkl hkm ((kidsv p.body k).length + 1) (by omega)
  have hti : ∀ t, p.body[k].1 = t → inner p.body[k].1 = inner t := fun t e => by rw [e]
  rw [htg] at *
  generalize hnn : p.body[k].2 = nn at *
  have a1 : ∀ (o1 o2 : HO) (a : Int), liftF (F_all m) [progD p, intsD (kidsv p.body k), .hs 2 1] [o1, o2, .cells 3 1 [iD a]] = some (bD (allV m p (kidsv p.body k) [a]), [o1, o2, .cells 3 1 [iD a]]) := fun o1 o2 a => hall _ 2 3 [a] rfl
  have a2 : ∀ (o1 o2 : HO) (a b : Int), liftF (F_all m) [progD p, intsD (kidsv p.body k), .hs 2 2] [o1, o2, .cells 3 1 [iD a, iD b]] = some (bD (allV m p (kidsv p.body k) [a, b]), [o1, o2, .cells 3 1 [iD a, iD b]]) := fun o1 o2 a b => hall _ 2 3 [a, b] rfl
  have a3 : ∀ (o1 o2 : HO) (a b c : Int), liftF (F_all m) [progD p, intsD (kidsv p.body k), .hs 2 3] [o1, o2, .cells 3 1 [iD a, iD b, iD c]] = some (bD (allV m p (kidsv p.body k) [a, b, c]), [o1, o2, .cells 3 1 [iD a, iD b, iD c]]) := fun o1 o2 a b c => hall _ 2 3 [a, b, c] rfl
  · skip
    have hq := hkind (.plain [0] 2) rfl
    cases hv : allV m p (kidsv p.body k) [0] <;> exact ⟨_, by simp [idx_nodesN _ _ hk, hend, hE', ea, es, hkids, ep, typed_pure, size_pure, kindF_pure, row1, row2, row3, a1, a2, a3, hblk, hq, ruleKind, askV, inner, hv]; rfl⟩

theorem refOf_tag26 (m : Nat) (p : Pg) (k : Nat) (hp : p.body.length ≤ 3000000) (hm : 0 < m) (hE : 0 ≤ endv p.body k) (hk : k < p.body.length) (hkm : ∀ j ∈ kidsv p.body k, p.body.length < j.toNat + m) (htg : p.body[k].1 = 26) : ∃ H, textK Tryz.prog (T09f m) kp_offshootref09_Of ((kidsv p.body k).length + 1) Tryz.f59 [progD p, iD k] [] = some (iD (kindV (m + 1) p.vars p.body k), H) := by
  rw [sh_offshootref09_Of]
  have hE' : ¬ endv p.body k < 0 := by omega
  have har : 0 ≤ ar p.body[k] := by have := endv_ar p.body k hE; rwa [arAt_in _ _ hk] at this
  have hcount := kids_count p.body k hE hk
  rw [show p.body[k] = (p.body[k].1, p.body[k].2) from rfl] at har hcount
  have hkl := kidsv_len p.body k
  have hkind := kind_all m p k hE hk
  have hend := refEnd_pure p.body k hp
  have hkids := refKids_pure p.body k hp
  have ea : ∀ o : HO, allocH 54 [iD 0, iD 0] [o] = some (.hp 1 0, [o, .cells 54 2 [iD 0, iD 0]]) := fun o => rfl
  have es : ∀ o : HO, setH 2 (.hp 1 0) (.agg (nodeD p.body[k])) [o, .cells 54 2 [iD 0, iD 0]] = some (.v undef, [o, .cells 54 2 [iD p.body[k].1, iD p.body[k].2]]) := fun o => rfl
  have ep : D.agg [iD p.params, intsD p.vars, nodesD p.body] = progD p := rfl
  have hkid : ∀ j ∈ kidsv p.body k, 0 ≤ j ∧ j.toNat < p.body.length := fun j hj => by
    obtain ⟨c, hc, e⟩ := List.getElem_of_mem hj
    have := kid_facts p.body k c hc
    rw [e] at this
    exact ⟨by omega, this.2.2.2⟩
  have hall := all_obj m p (kidsv p.body k) hp (by omega) hm hkm
  have hblk := blocks_pure p (kidsv p.body k) (by omega) hkid
  have hloop := blk_loop m p (.cells 54 2 [iD p.body[k].1, iD p.body[k].2]) (kidsv p.body k) hp hm hkl hkm ((kidsv p.body k).length + 1) (by omega)
  have hti : ∀ t, p.body[k].1 = t → inner p.body[k].1 = inner t := fun t e => by rw [e]
  rw [htg] at *
  generalize hnn : p.body[k].2 = nn at *
  have a1 : ∀ (o1 o2 : HO) (a : Int), liftF (F_all m) [progD p, intsD (kidsv p.body k), .hs 2 1] [o1, o2, .cells 3 1 [iD a]] = some (bD (allV m p (kidsv p.body k) [a]), [o1, o2, .cells 3 1 [iD a]]) := fun o1 o2 a => hall _ 2 3 [a] rfl
  have a2 : ∀ (o1 o2 : HO) (a b : Int), liftF (F_all m) [progD p, intsD (kidsv p.body k), .hs 2 2] [o1, o2, .cells 3 1 [iD a, iD b]] = some (bD (allV m p (kidsv p.body k) [a, b]), [o1, o2, .cells 3 1 [iD a, iD b]]) := fun o1 o2 a b => hall _ 2 3 [a, b] rfl
  have a3 : ∀ (o1 o2 : HO) (a b c : Int), liftF (F_all m) [progD p, intsD (kidsv p.body k), .hs 2 3] [o1, o2, .cells 3 1 [iD a, iD b, iD c]] = some (bD (allV m p (kidsv p.body k) [a, b, c]), [o1, o2, .cells 3 1 [iD a, iD b, iD c]]) := fun o1 o2 a b c => hall _ 2 3 [a, b, c] rfl
  · skip
    have hq := hkind (.plain [] 2) rfl
    have hnil : kidsv p.body k = [] := by
      have h0 : ar (26, nn) ≤ 0 := by unfold ar lim; simp; try (split <;> omega)
      apply List.eq_nil_of_length_eq_zero; omega
    rw [hnil] at hq
    exact ⟨_, by simp [idx_nodesN _ _ hk, hend, hE', ea, es, hkids, ep, typed_pure, size_pure, kindF_pure, row1, row2, row3, a1, a2, a3, hblk, hq, ruleKind, askV, inner, allV]; rfl⟩
end Go.Proofs.YtinnbafplhcnpaaGreat
end

section
namespace Go.Proofs.YtinnbafplhcnpaaGreat
open Go.RowKit
set_option linter.unusedVariables false
set_option linter.unusedSimpArgs false

theorem refOf_text (m : Nat) (p : Pg) (k : Nat) (hp : p.body.length ≤ 3000000) (hm : 0 < m) (hE : 0 ≤ endv p.body k) (hk : k < p.body.length) (hkm : ∀ j ∈ kidsv p.body k, p.body.length < j.toNat + m) :
    ∃ H, textK Tryz.prog (T09f m) kp_offshootref09_Of ((kidsv p.body k).length + 1) Tryz.f59 [progD p, iD k] [] = some (iD (kindV (m + 1) p.vars p.body k), H) := by
  have har : 0 ≤ ar p.body[k] := by have := endv_ar p.body k hE; rwa [arAt_in _ _ hk] at this
  have htag := ar_tag _ har
  have hcases : p.body[k].1 = 1 ∨ p.body[k].1 = 2 ∨ p.body[k].1 = 3 ∨ p.body[k].1 = 4 ∨ p.body[k].1 = 5 ∨ p.body[k].1 = 6 ∨ p.body[k].1 = 7 ∨ p.body[k].1 = 8 ∨ p.body[k].1 = 9 ∨ p.body[k].1 = 10 ∨ p.body[k].1 = 11 ∨ p.body[k].1 = 12 ∨ p.body[k].1 = 13 ∨ p.body[k].1 = 14 ∨ p.body[k].1 = 15 ∨ p.body[k].1 = 16 ∨ p.body[k].1 = 17 ∨ p.body[k].1 = 18 ∨ p.body[k].1 = 19 ∨ p.body[k].1 = 20 ∨ p.body[k].1 = 21 ∨ p.body[k].1 = 22 ∨ p.body[k].1 = 23 ∨ p.body[k].1 = 24 ∨ p.body[k].1 = 25 ∨ p.body[k].1 = 26 := by omega
  rcases hcases with h | h | h | h | h | h | h | h | h | h | h | h | h | h | h | h | h | h | h | h | h | h | h | h | h | h
  · exact refOf_tag1 m p k hp hm hE hk hkm h
  · exact refOf_tag2 m p k hp hm hE hk hkm h
  · exact refOf_tag3 m p k hp hm hE hk hkm h
  · exact refOf_tag4 m p k hp hm hE hk hkm h
  · exact refOf_tag5 m p k hp hm hE hk hkm h
  · exact refOf_tag6 m p k hp hm hE hk hkm h
  · exact refOf_tag7 m p k hp hm hE hk hkm h
  · exact refOf_tag8 m p k hp hm hE hk hkm h
  · exact refOf_tag9 m p k hp hm hE hk hkm h
  · exact refOf_tag10 m p k hp hm hE hk hkm h
  · exact refOf_tag11 m p k hp hm hE hk hkm h
  · exact refOf_tag12 m p k hp hm hE hk hkm h
  · exact refOf_tag13 m p k hp hm hE hk hkm h
  · exact refOf_tag14 m p k hp hm hE hk hkm h
  · exact refOf_tag15 m p k hp hm hE hk hkm h
  · exact refOf_tag16 m p k hp hm hE hk hkm h
  · exact refOf_tag17 m p k hp hm hE hk hkm h
  · exact refOf_tag18 m p k hp hm hE hk hkm h
  · exact refOf_tag19 m p k hp hm hE hk hkm h
  · exact refOf_tag20 m p k hp hm hE hk hkm h
  · exact refOf_tag21 m p k hp hm hE hk hkm h
  · exact refOf_tag22 m p k hp hm hE hk hkm h
  · exact refOf_tag23 m p k hp hm hE hk hkm h
  · exact refOf_tag24 m p k hp hm hE hk hkm h
  · exact refOf_tag25 m p k hp hm hE hk hkm h
  · exact refOf_tag26 m p k hp hm hE hk hkm h

theorem C_refOf : ∀ m : Nat, CallOk Tryz.prog 59 (F_refOf m)
  | 0 => ⟨⟨_, Tryz.func59, by decide, rfl⟩, fun ds d hF => by
      exfalso
      unfold F_refOf F2 at hF
      split at hF
      · obtain ⟨p, _, hF⟩ := Option.bind_eq_some_iff.1 hF
        obtain ⟨i, _, hF⟩ := Option.bind_eq_some_iff.1 hF
        simp only at hF
        split at hF
        · rename_i hc
          omega
        · cases hF
      · cases hF⟩
  | m + 1 => by
    have hT : TabOk Tryz.prog (T09f m) := tabOk_of (entries_cons (entry_lift (C_refOf m)) (entries_cons (entry_lift (C_all m (C_refOf m))) fs09d_ok))
    refine call2 (kp := kp_offshootref09_Of) hT mixed Tryz.func59 (by kernel_rfl) (by decide) fun p i d h => ?_
    split at h
    case isFalse => cases h
    rename_i hc
    obtain ⟨hp, _, hi⟩ := hc
    cases h
    by_cases hE : endv p.body i < 0
    · refine ⟨0, _, ?_, Imp.refl _⟩
      show outD (textK _ _ _ _ _ [progD p, iD i] []) = _
      rw [sh_offshootref09_Of]
      simp [refEnd_pure p.body i hp, hE, kindV]
    · have hE' : 0 ≤ endv p.body i := by omega
      obtain ⟨h0, hil⟩ := endv_in p.body i hE'
      obtain ⟨k, rfl⟩ := Int.eq_ofNat_of_zero_le h0
      have hk : k < p.body.length := by simpa using hil
      have hkm : ∀ j ∈ kidsv p.body k, p.body.length < j.toNat + m := fun j hj => by
        obtain ⟨c, hc, e⟩ := List.getElem_of_mem hj
        have := (kid_facts p.body k c hc).1
        rw [e] at this
        rcases hi with hi | hi
        · omega
        · simp only [Int.toNat_natCast] at hi; omega
      have hm : 0 < m := by
        rcases hi with hi | hi
        · omega
        · simp only [Int.toNat_natCast] at hi; omega
      obtain ⟨H, hH⟩ := refOf_text m p k hp hm hE' hk hkm
      refine ⟨(kidsv p.body k).length + 1, _, ?_, Imp.refl _⟩
      show outD (textK _ _ _ _ _ [progD p, iD (k : Int)] []) = _
      rw [hH]; simp

/-- A node's kind. -/
def knd (p : Pg) (i : Int) : Int := kindV (p.body.length + 1) p.vars p.body i
def F_Of9 : List D → Option D := F2 progT intT fun p i => if p.body.length ≤ 3000000 then some (iD (knd p i)) else none
theorem C_refOf9 : CallOk Tryz.prog 59 F_Of9 := call_any C_refOf fun ds d hF => by
  unfold F_Of9 F2 at hF
  split at hF
  · obtain ⟨p, h1, hF⟩ := Option.bind_eq_some_iff.1 hF
    obtain ⟨i, h2, hF⟩ := Option.bind_eq_some_iff.1 hF
    simp only at hF
    split at hF
    · rename_i hp
      cases hF
      refine ⟨p.body.length + 1, ?_⟩
      simp only [F_refOf, F2, h1, h2, Option.bind_some]
      rw [if_pos ⟨hp, by omega, .inr (by omega)⟩]
      rfl
    · cases hF
  · cases hF
def F_ofAll : List D → Option D := F2 chkT intT fun p i => if ofOk p i then some (iD (knd p i)) else none
theorem C_ofAll : CallOk Tryz.prog 54 F_ofAll := call_any C_of fun ds d hF => by
  unfold F_ofAll F2 at hF
  split at hF
  · obtain ⟨p, h1, hF⟩ := Option.bind_eq_some_iff.1 hF
    obtain ⟨i, h2, hF⟩ := Option.bind_eq_some_iff.1 hF
    simp only at hF
    split at hF
    · rename_i hp
      cases hF
      refine ⟨p.body.length + 1, ?_⟩
      simp only [F_of, F2, h1, h2, Option.bind_some]
      rw [if_pos]
      · rfl
      · simp only [hp, Bool.true_and, decide_eq_true_eq]; omega
    · cases hF
  · cases hF
def fs09h : List Entry := (59, true, liftF F_Of9) :: (54, true, liftF F_ofAll) :: fs09d
theorem fs09h_ok : ∀ p ∈ fs09h, EntryOk Tryz.prog p := entries_cons (entry_lift C_refOf9) <| entries_cons (entry_lift C_ofAll) <| fs09d_ok
def T09h : Tab := ⟨fs09h, noYl⟩
theorem T09h_ok : TabOk Tryz.prog T09h := tabOk_of fs09h_ok
end Go.Proofs.YtinnbafplhcnpaaGreat
end
