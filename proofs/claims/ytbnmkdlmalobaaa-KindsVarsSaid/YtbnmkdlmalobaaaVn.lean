/-
  Parts joined into one text: C09h. No condition.
-/
import Derived.Test.YtbnmkdlmalobaaaVm

section
namespace Go.Proofs.Ytbnmkdlmalobaaa
open Go.RowKit
set_option linter.unusedVariables false
set_option linter.unusedSimpArgs false
set_option maxHeartbeats 1000000

theorem refOf_tag1 (m : Nat) (p : Pg) (k : Nat) (hp : p.body.length ≤ 3000000) (hm : 0 < m) (hE : 0 ≤ endv p.body k) (hk : k < p.body.length) (hkm : ∀ j ∈ kidsv p.body k, p.body.length < j.toNat + m) (htg : p.body[k].1 = 1) : ∃ H, textK Try.prog (T09f m) kp_offshootref09_Of ((kidsv p.body k).length + 1) Try.f26 [progD p, iD k] [] = some (iD (kindV (m + 1) p.vars p.body k), H) := by
  rw [sh_offshootref09_Of]
  have hE' : ¬ endv p.body k < 0 := by omega
  have har : 0 ≤ ar p.body[k] := by have := endv_ar p.body k hE; rwa [arAt_in _ _ hk] at this
  have hcount := kids_count p.body k hE hk
  rw [show p.body[k] = (p.body[k].1, p.body[k].2) from rfl] at har hcount
  have hkl := kidsv_len p.body k
  have hkind := kind_all m p k hE hk
  have hend := refEnd_pure p.body k hp
  have hkids := refKids_pure p.body k hp
  have ea : ∀ o : HO, allocH 39 [iD 0, iD 0] [o] = some (.hp 1 0, [o, .cells 39 2 [iD 0, iD 0]]) := fun o => rfl
  have es : ∀ o : HO, setH 2 (.hp 1 0) (.agg (nodeD p.body[k])) [o, .cells 39 2 [iD 0, iD 0]] = some (.v undef, [o, .cells 39 2 [iD p.body[k].1, iD p.body[k].2]]) := fun o => rfl
  have ep : D.agg [iD p.params, intsD p.vars, nodesD p.body] = progD p := rfl
  have hkid : ∀ j ∈ kidsv p.body k, 0 ≤ j ∧ j.toNat < p.body.length := fun j hj => by
    obtain ⟨c, hc, e⟩ := List.getElem_of_mem hj
    have := kid_facts p.body k c hc
    rw [e] at this
    exact ⟨by omega, this.2.2.2⟩
  have hall := all_obj m p (kidsv p.body k) hp (by omega) hm hkm
  have hblk := blocks_pure p (kidsv p.body k) (by omega) hkid
  have hloop := blk_loop m p (.cells 39 2 [iD p.body[k].1, iD p.body[k].2]) (kidsv p.body k) hp hm hkl hkm ((kidsv p.body k).length + 1) (by omega)
  have hti : ∀ t, p.body[k].1 = t → inner p.body[k].1 = inner t := fun t e => by rw [e]
  rw [htg] at *
  generalize hnn : p.body[k].2 = nn at *
  have a1 : ∀ (o1 o2 : HO) (a : Int), liftF (F_all m) [progD p, intsD (kidsv p.body k), .hs 2 1] [o1, o2, .cells 3 1 [iD a]] = some (bD (allV m p (kidsv p.body k) [a]), [o1, o2, .cells 3 1 [iD a]]) := fun o1 o2 a => hall _ 2 3 [a] rfl
  have a2 : ∀ (o1 o2 : HO) (a b : Int), liftF (F_all m) [progD p, intsD (kidsv p.body k), .hs 2 2] [o1, o2, .cells 3 1 [iD a, iD b]] = some (bD (allV m p (kidsv p.body k) [a, b]), [o1, o2, .cells 3 1 [iD a, iD b]]) := fun o1 o2 a b => hall _ 2 3 [a, b] rfl
  have a3 : ∀ (o1 o2 : HO) (a b c : Int), liftF (F_all m) [progD p, intsD (kidsv p.body k), .hs 2 3] [o1, o2, .cells 3 1 [iD a, iD b, iD c]] = some (bD (allV m p (kidsv p.body k) [a, b, c]), [o1, o2, .cells 3 1 [iD a, iD b, iD c]]) := fun o1 o2 a b c => hall _ 2 3 [a, b, c] rfl
  · skip
    have hq := hkind (.plain [] 0) rfl
    have hnil : kidsv p.body k = [] := by
      have h0 : ar (1, nn) ≤ 0 := by unfold ar lim; simp; try (split <;> omega)
      apply List.eq_nil_of_length_eq_zero; omega
    rw [hnil] at hq
    exact ⟨_, by simp [idx_nodesN _ _ hk, hend, hE', ea, es, hkids, ep, typed_pure, size_pure, kindF_pure, row1, row2, row3, a1, a2, a3, hblk, hq, ruleKind, askV, inner, allV]; rfl⟩

theorem refOf_tag2 (m : Nat) (p : Pg) (k : Nat) (hp : p.body.length ≤ 3000000) (hm : 0 < m) (hE : 0 ≤ endv p.body k) (hk : k < p.body.length) (hkm : ∀ j ∈ kidsv p.body k, p.body.length < j.toNat + m) (htg : p.body[k].1 = 2) : ∃ H, textK Try.prog (T09f m) kp_offshootref09_Of ((kidsv p.body k).length + 1) Try.f26 [progD p, iD k] [] = some (iD (kindV (m + 1) p.vars p.body k), H) := by
  rw [sh_offshootref09_Of]
  have hE' : ¬ endv p.body k < 0 := by omega
  have har : 0 ≤ ar p.body[k] := by have := endv_ar p.body k hE; rwa [arAt_in _ _ hk] at this
  have hcount := kids_count p.body k hE hk
  rw [show p.body[k] = (p.body[k].1, p.body[k].2) from rfl] at har hcount
  have hkl := kidsv_len p.body k
  have hkind := kind_all m p k hE hk
  have hend := refEnd_pure p.body k hp
  have hkids := refKids_pure p.body k hp
  have ea : ∀ o : HO, allocH 39 [iD 0, iD 0] [o] = some (.hp 1 0, [o, .cells 39 2 [iD 0, iD 0]]) := fun o => rfl
  have es : ∀ o : HO, setH 2 (.hp 1 0) (.agg (nodeD p.body[k])) [o, .cells 39 2 [iD 0, iD 0]] = some (.v undef, [o, .cells 39 2 [iD p.body[k].1, iD p.body[k].2]]) := fun o => rfl
  have ep : D.agg [iD p.params, intsD p.vars, nodesD p.body] = progD p := rfl
  have hkid : ∀ j ∈ kidsv p.body k, 0 ≤ j ∧ j.toNat < p.body.length := fun j hj => by
    obtain ⟨c, hc, e⟩ := List.getElem_of_mem hj
    have := kid_facts p.body k c hc
    rw [e] at this
    exact ⟨by omega, this.2.2.2⟩
  have hall := all_obj m p (kidsv p.body k) hp (by omega) hm hkm
  have hblk := blocks_pure p (kidsv p.body k) (by omega) hkid
  have hloop := blk_loop m p (.cells 39 2 [iD p.body[k].1, iD p.body[k].2]) (kidsv p.body k) hp hm hkl hkm ((kidsv p.body k).length + 1) (by omega)
  have hti : ∀ t, p.body[k].1 = t → inner p.body[k].1 = inner t := fun t e => by rw [e]
  rw [htg] at *
  generalize hnn : p.body[k].2 = nn at *
  have a1 : ∀ (o1 o2 : HO) (a : Int), liftF (F_all m) [progD p, intsD (kidsv p.body k), .hs 2 1] [o1, o2, .cells 3 1 [iD a]] = some (bD (allV m p (kidsv p.body k) [a]), [o1, o2, .cells 3 1 [iD a]]) := fun o1 o2 a => hall _ 2 3 [a] rfl
  have a2 : ∀ (o1 o2 : HO) (a b : Int), liftF (F_all m) [progD p, intsD (kidsv p.body k), .hs 2 2] [o1, o2, .cells 3 1 [iD a, iD b]] = some (bD (allV m p (kidsv p.body k) [a, b]), [o1, o2, .cells 3 1 [iD a, iD b]]) := fun o1 o2 a b => hall _ 2 3 [a, b] rfl
  have a3 : ∀ (o1 o2 : HO) (a b c : Int), liftF (F_all m) [progD p, intsD (kidsv p.body k), .hs 2 3] [o1, o2, .cells 3 1 [iD a, iD b, iD c]] = some (bD (allV m p (kidsv p.body k) [a, b, c]), [o1, o2, .cells 3 1 [iD a, iD b, iD c]]) := fun o1 o2 a b c => hall _ 2 3 [a, b, c] rfl
  · skip
    have hq := hkind (.plain [] 1) rfl
    have hnil : kidsv p.body k = [] := by
      have h0 : ar (2, nn) ≤ 0 := by unfold ar lim; simp; try (split <;> omega)
      apply List.eq_nil_of_length_eq_zero; omega
    rw [hnil] at hq
    exact ⟨_, by simp [idx_nodesN _ _ hk, hend, hE', ea, es, hkids, ep, typed_pure, size_pure, kindF_pure, row1, row2, row3, a1, a2, a3, hblk, hq, ruleKind, askV, inner, allV]; rfl⟩

theorem refOf_tag3 (m : Nat) (p : Pg) (k : Nat) (hp : p.body.length ≤ 3000000) (hm : 0 < m) (hE : 0 ≤ endv p.body k) (hk : k < p.body.length) (hkm : ∀ j ∈ kidsv p.body k, p.body.length < j.toNat + m) (htg : p.body[k].1 = 3) : ∃ H, textK Try.prog (T09f m) kp_offshootref09_Of ((kidsv p.body k).length + 1) Try.f26 [progD p, iD k] [] = some (iD (kindV (m + 1) p.vars p.body k), H) := by
  rw [sh_offshootref09_Of]
  have hE' : ¬ endv p.body k < 0 := by omega
  have har : 0 ≤ ar p.body[k] := by have := endv_ar p.body k hE; rwa [arAt_in _ _ hk] at this
  have hcount := kids_count p.body k hE hk
  rw [show p.body[k] = (p.body[k].1, p.body[k].2) from rfl] at har hcount
  have hkl := kidsv_len p.body k
  have hkind := kind_all m p k hE hk
  have hend := refEnd_pure p.body k hp
  have hkids := refKids_pure p.body k hp
  have ea : ∀ o : HO, allocH 39 [iD 0, iD 0] [o] = some (.hp 1 0, [o, .cells 39 2 [iD 0, iD 0]]) := fun o => rfl
  have es : ∀ o : HO, setH 2 (.hp 1 0) (.agg (nodeD p.body[k])) [o, .cells 39 2 [iD 0, iD 0]] = some (.v undef, [o, .cells 39 2 [iD p.body[k].1, iD p.body[k].2]]) := fun o => rfl
  have ep : D.agg [iD p.params, intsD p.vars, nodesD p.body] = progD p := rfl
  have hkid : ∀ j ∈ kidsv p.body k, 0 ≤ j ∧ j.toNat < p.body.length := fun j hj => by
    obtain ⟨c, hc, e⟩ := List.getElem_of_mem hj
    have := kid_facts p.body k c hc
    rw [e] at this
    exact ⟨by omega, this.2.2.2⟩
  have hall := all_obj m p (kidsv p.body k) hp (by omega) hm hkm
  have hblk := blocks_pure p (kidsv p.body k) (by omega) hkid
  have hloop := blk_loop m p (.cells 39 2 [iD p.body[k].1, iD p.body[k].2]) (kidsv p.body k) hp hm hkl hkm ((kidsv p.body k).length + 1) (by omega)
  have hti : ∀ t, p.body[k].1 = t → inner p.body[k].1 = inner t := fun t e => by rw [e]
  rw [htg] at *
  generalize hnn : p.body[k].2 = nn at *
  have a1 : ∀ (o1 o2 : HO) (a : Int), liftF (F_all m) [progD p, intsD (kidsv p.body k), .hs 2 1] [o1, o2, .cells 3 1 [iD a]] = some (bD (allV m p (kidsv p.body k) [a]), [o1, o2, .cells 3 1 [iD a]]) := fun o1 o2 a => hall _ 2 3 [a] rfl
  have a2 : ∀ (o1 o2 : HO) (a b : Int), liftF (F_all m) [progD p, intsD (kidsv p.body k), .hs 2 2] [o1, o2, .cells 3 1 [iD a, iD b]] = some (bD (allV m p (kidsv p.body k) [a, b]), [o1, o2, .cells 3 1 [iD a, iD b]]) := fun o1 o2 a b => hall _ 2 3 [a, b] rfl
  have a3 : ∀ (o1 o2 : HO) (a b c : Int), liftF (F_all m) [progD p, intsD (kidsv p.body k), .hs 2 3] [o1, o2, .cells 3 1 [iD a, iD b, iD c]] = some (bD (allV m p (kidsv p.body k) [a, b, c]), [o1, o2, .cells 3 1 [iD a, iD b, iD c]]) := fun o1 o2 a b c => hall _ 2 3 [a, b, c] rfl
  · skip
    have hq := hkind (.scalar false) rfl
    have hnil : kidsv p.body k = [] := by
      have h0 : ar (3, nn) ≤ 0 := by unfold ar lim; simp; try (split <;> omega)
      apply List.eq_nil_of_length_eq_zero; omega
    rw [hnil] at hq
    by_cases h0 : typedV p.vars nn = 0
    · exact ⟨_, by simp [idx_nodesN _ _ hk, hend, hE', ea, es, hkids, ep, typed_pure, size_pure, kindF_pure, row1, row2, row3, a1, a2, a3, hblk, hq, ruleKind, scalarKindV, askV, inner, allV, h0, hnn]; rfl⟩
    · by_cases h1 : typedV p.vars nn = 1
      · exact ⟨_, by simp [idx_nodesN _ _ hk, hend, hE', ea, es, hkids, ep, typed_pure, size_pure, kindF_pure, row1, row2, row3, a1, a2, a3, hblk, hq, ruleKind, scalarKindV, askV, inner, allV, h0, h1, hnn]; rfl⟩
      · exact ⟨_, by simp [idx_nodesN _ _ hk, hend, hE', ea, es, hkids, ep, typed_pure, size_pure, kindF_pure, row1, row2, row3, a1, a2, a3, hblk, hq, ruleKind, scalarKindV, askV, inner, allV, h0, h1, hnn]; rfl⟩

theorem refOf_tag4 (m : Nat) (p : Pg) (k : Nat) (hp : p.body.length ≤ 3000000) (hm : 0 < m) (hE : 0 ≤ endv p.body k) (hk : k < p.body.length) (hkm : ∀ j ∈ kidsv p.body k, p.body.length < j.toNat + m) (htg : p.body[k].1 = 4) : ∃ H, textK Try.prog (T09f m) kp_offshootref09_Of ((kidsv p.body k).length + 1) Try.f26 [progD p, iD k] [] = some (iD (kindV (m + 1) p.vars p.body k), H) := by
  rw [sh_offshootref09_Of]
  have hE' : ¬ endv p.body k < 0 := by omega
  have har : 0 ≤ ar p.body[k] := by have := endv_ar p.body k hE; rwa [arAt_in _ _ hk] at this
  have hcount := kids_count p.body k hE hk
  rw [show p.body[k] = (p.body[k].1, p.body[k].2) from rfl] at har hcount
  have hkl := kidsv_len p.body k
  have hkind := kind_all m p k hE hk
  have hend := refEnd_pure p.body k hp
  have hkids := refKids_pure p.body k hp
  have ea : ∀ o : HO, allocH 39 [iD 0, iD 0] [o] = some (.hp 1 0, [o, .cells 39 2 [iD 0, iD 0]]) := fun o => rfl
  have es : ∀ o : HO, setH 2 (.hp 1 0) (.agg (nodeD p.body[k])) [o, .cells 39 2 [iD 0, iD 0]] = some (.v undef, [o, .cells 39 2 [iD p.body[k].1, iD p.body[k].2]]) := fun o => rfl
  have ep : D.agg [iD p.params, intsD p.vars, nodesD p.body] = progD p := rfl
  have hkid : ∀ j ∈ kidsv p.body k, 0 ≤ j ∧ j.toNat < p.body.length := fun j hj => by
    obtain ⟨c, hc, e⟩ := List.getElem_of_mem hj
    have := kid_facts p.body k c hc
    rw [e] at this
    exact ⟨by omega, this.2.2.2⟩
  have hall := all_obj m p (kidsv p.body k) hp (by omega) hm hkm
  have hblk := blocks_pure p (kidsv p.body k) (by omega) hkid
  have hloop := blk_loop m p (.cells 39 2 [iD p.body[k].1, iD p.body[k].2]) (kidsv p.body k) hp hm hkl hkm ((kidsv p.body k).length + 1) (by omega)
  have hti : ∀ t, p.body[k].1 = t → inner p.body[k].1 = inner t := fun t e => by rw [e]
  rw [htg] at *
  generalize hnn : p.body[k].2 = nn at *
  have a1 : ∀ (o1 o2 : HO) (a : Int), liftF (F_all m) [progD p, intsD (kidsv p.body k), .hs 2 1] [o1, o2, .cells 3 1 [iD a]] = some (bD (allV m p (kidsv p.body k) [a]), [o1, o2, .cells 3 1 [iD a]]) := fun o1 o2 a => hall _ 2 3 [a] rfl
  have a2 : ∀ (o1 o2 : HO) (a b : Int), liftF (F_all m) [progD p, intsD (kidsv p.body k), .hs 2 2] [o1, o2, .cells 3 1 [iD a, iD b]] = some (bD (allV m p (kidsv p.body k) [a, b]), [o1, o2, .cells 3 1 [iD a, iD b]]) := fun o1 o2 a b => hall _ 2 3 [a, b] rfl
  have a3 : ∀ (o1 o2 : HO) (a b c : Int), liftF (F_all m) [progD p, intsD (kidsv p.body k), .hs 2 3] [o1, o2, .cells 3 1 [iD a, iD b, iD c]] = some (bD (allV m p (kidsv p.body k) [a, b, c]), [o1, o2, .cells 3 1 [iD a, iD b, iD c]]) := fun o1 o2 a b c => hall _ 2 3 [a, b, c] rfl
  · skip
    have hq := hkind (.array [0] 0) rfl
    by_cases hs : sizeV (typedV p.vars nn) = 0
    · exact ⟨_, by simp [idx_nodesN _ _ hk, hend, hE', ea, es, hkids, ep, typed_pure, size_pure, kindF_pure, row1, row2, row3, a1, a2, a3, hblk, hq, ruleKind, arrayKindV, hs, hnn]; rfl⟩
    · have hs2 := sizeV_pos _ hs
      cases hv : allV m p (kidsv p.body k) [0] <;> exact ⟨_, by simp [idx_nodesN _ _ hk, hend, hE', ea, es, hkids, ep, typed_pure, size_pure, kindF_pure, row1, row2, row3, a1, a2, a3, hblk, hq, ruleKind, arrayKindV, askV, inner, hs, hs2, hv, hnn]; rfl⟩

theorem refOf_tag5 (m : Nat) (p : Pg) (k : Nat) (hp : p.body.length ≤ 3000000) (hm : 0 < m) (hE : 0 ≤ endv p.body k) (hk : k < p.body.length) (hkm : ∀ j ∈ kidsv p.body k, p.body.length < j.toNat + m) (htg : p.body[k].1 = 5) : ∃ H, textK Try.prog (T09f m) kp_offshootref09_Of ((kidsv p.body k).length + 1) Try.f26 [progD p, iD k] [] = some (iD (kindV (m + 1) p.vars p.body k), H) := by
  rw [sh_offshootref09_Of]
  have hE' : ¬ endv p.body k < 0 := by omega
  have har : 0 ≤ ar p.body[k] := by have := endv_ar p.body k hE; rwa [arAt_in _ _ hk] at this
  have hcount := kids_count p.body k hE hk
  rw [show p.body[k] = (p.body[k].1, p.body[k].2) from rfl] at har hcount
  have hkl := kidsv_len p.body k
  have hkind := kind_all m p k hE hk
  have hend := refEnd_pure p.body k hp
  have hkids := refKids_pure p.body k hp
  have ea : ∀ o : HO, allocH 39 [iD 0, iD 0] [o] = some (.hp 1 0, [o, .cells 39 2 [iD 0, iD 0]]) := fun o => rfl
  have es : ∀ o : HO, setH 2 (.hp 1 0) (.agg (nodeD p.body[k])) [o, .cells 39 2 [iD 0, iD 0]] = some (.v undef, [o, .cells 39 2 [iD p.body[k].1, iD p.body[k].2]]) := fun o => rfl
  have ep : D.agg [iD p.params, intsD p.vars, nodesD p.body] = progD p := rfl
  have hkid : ∀ j ∈ kidsv p.body k, 0 ≤ j ∧ j.toNat < p.body.length := fun j hj => by
    obtain ⟨c, hc, e⟩ := List.getElem_of_mem hj
    have := kid_facts p.body k c hc
    rw [e] at this
    exact ⟨by omega, this.2.2.2⟩
  have hall := all_obj m p (kidsv p.body k) hp (by omega) hm hkm
  have hblk := blocks_pure p (kidsv p.body k) (by omega) hkid
  have hloop := blk_loop m p (.cells 39 2 [iD p.body[k].1, iD p.body[k].2]) (kidsv p.body k) hp hm hkl hkm ((kidsv p.body k).length + 1) (by omega)
  have hti : ∀ t, p.body[k].1 = t → inner p.body[k].1 = inner t := fun t e => by rw [e]
  rw [htg] at *
  generalize hnn : p.body[k].2 = nn at *
  have a1 : ∀ (o1 o2 : HO) (a : Int), liftF (F_all m) [progD p, intsD (kidsv p.body k), .hs 2 1] [o1, o2, .cells 3 1 [iD a]] = some (bD (allV m p (kidsv p.body k) [a]), [o1, o2, .cells 3 1 [iD a]]) := fun o1 o2 a => hall _ 2 3 [a] rfl
  have a2 : ∀ (o1 o2 : HO) (a b : Int), liftF (F_all m) [progD p, intsD (kidsv p.body k), .hs 2 2] [o1, o2, .cells 3 1 [iD a, iD b]] = some (bD (allV m p (kidsv p.body k) [a, b]), [o1, o2, .cells 3 1 [iD a, iD b]]) := fun o1 o2 a b => hall _ 2 3 [a, b] rfl
  have a3 : ∀ (o1 o2 : HO) (a b c : Int), liftF (F_all m) [progD p, intsD (kidsv p.body k), .hs 2 3] [o1, o2, .cells 3 1 [iD a, iD b, iD c]] = some (bD (allV m p (kidsv p.body k) [a, b, c]), [o1, o2, .cells 3 1 [iD a, iD b, iD c]]) := fun o1 o2 a b c => hall _ 2 3 [a, b, c] rfl
  · skip
    have hq := hkind (.plain [0] 0) rfl
    cases hv : allV m p (kidsv p.body k) [0] <;> exact ⟨_, by simp [idx_nodesN _ _ hk, hend, hE', ea, es, hkids, ep, typed_pure, size_pure, kindF_pure, row1, row2, row3, a1, a2, a3, hblk, hq, ruleKind, askV, inner, hv]; rfl⟩

theorem refOf_tag6 (m : Nat) (p : Pg) (k : Nat) (hp : p.body.length ≤ 3000000) (hm : 0 < m) (hE : 0 ≤ endv p.body k) (hk : k < p.body.length) (hkm : ∀ j ∈ kidsv p.body k, p.body.length < j.toNat + m) (htg : p.body[k].1 = 6) : ∃ H, textK Try.prog (T09f m) kp_offshootref09_Of ((kidsv p.body k).length + 1) Try.f26 [progD p, iD k] [] = some (iD (kindV (m + 1) p.vars p.body k), H) := by
  rw [sh_offshootref09_Of]
  have hE' : ¬ endv p.body k < 0 := by omega
  have har : 0 ≤ ar p.body[k] := by have := endv_ar p.body k hE; rwa [arAt_in _ _ hk] at this
  have hcount := kids_count p.body k hE hk
  rw [show p.body[k] = (p.body[k].1, p.body[k].2) from rfl] at har hcount
  have hkl := kidsv_len p.body k
  have hkind := kind_all m p k hE hk
  have hend := refEnd_pure p.body k hp
  have hkids := refKids_pure p.body k hp
  have ea : ∀ o : HO, allocH 39 [iD 0, iD 0] [o] = some (.hp 1 0, [o, .cells 39 2 [iD 0, iD 0]]) := fun o => rfl
  have es : ∀ o : HO, setH 2 (.hp 1 0) (.agg (nodeD p.body[k])) [o, .cells 39 2 [iD 0, iD 0]] = some (.v undef, [o, .cells 39 2 [iD p.body[k].1, iD p.body[k].2]]) := fun o => rfl
  have ep : D.agg [iD p.params, intsD p.vars, nodesD p.body] = progD p := rfl
  have hkid : ∀ j ∈ kidsv p.body k, 0 ≤ j ∧ j.toNat < p.body.length := fun j hj => by
    obtain ⟨c, hc, e⟩ := List.getElem_of_mem hj
    have := kid_facts p.body k c hc
    rw [e] at this
    exact ⟨by omega, this.2.2.2⟩
  have hall := all_obj m p (kidsv p.body k) hp (by omega) hm hkm
  have hblk := blocks_pure p (kidsv p.body k) (by omega) hkid
  have hloop := blk_loop m p (.cells 39 2 [iD p.body[k].1, iD p.body[k].2]) (kidsv p.body k) hp hm hkl hkm ((kidsv p.body k).length + 1) (by omega)
  have hti : ∀ t, p.body[k].1 = t → inner p.body[k].1 = inner t := fun t e => by rw [e]
  rw [htg] at *
  generalize hnn : p.body[k].2 = nn at *
  have a1 : ∀ (o1 o2 : HO) (a : Int), liftF (F_all m) [progD p, intsD (kidsv p.body k), .hs 2 1] [o1, o2, .cells 3 1 [iD a]] = some (bD (allV m p (kidsv p.body k) [a]), [o1, o2, .cells 3 1 [iD a]]) := fun o1 o2 a => hall _ 2 3 [a] rfl
  have a2 : ∀ (o1 o2 : HO) (a b : Int), liftF (F_all m) [progD p, intsD (kidsv p.body k), .hs 2 2] [o1, o2, .cells 3 1 [iD a, iD b]] = some (bD (allV m p (kidsv p.body k) [a, b]), [o1, o2, .cells 3 1 [iD a, iD b]]) := fun o1 o2 a b => hall _ 2 3 [a, b] rfl
  have a3 : ∀ (o1 o2 : HO) (a b c : Int), liftF (F_all m) [progD p, intsD (kidsv p.body k), .hs 2 3] [o1, o2, .cells 3 1 [iD a, iD b, iD c]] = some (bD (allV m p (kidsv p.body k) [a, b, c]), [o1, o2, .cells 3 1 [iD a, iD b, iD c]]) := fun o1 o2 a b c => hall _ 2 3 [a, b, c] rfl
  · skip
    have hq := hkind (.plain [1] 1) rfl
    cases hv : allV m p (kidsv p.body k) [1] <;> exact ⟨_, by simp [idx_nodesN _ _ hk, hend, hE', ea, es, hkids, ep, typed_pure, size_pure, kindF_pure, row1, row2, row3, a1, a2, a3, hblk, hq, ruleKind, askV, inner, hv]; rfl⟩

theorem refOf_tag7 (m : Nat) (p : Pg) (k : Nat) (hp : p.body.length ≤ 3000000) (hm : 0 < m) (hE : 0 ≤ endv p.body k) (hk : k < p.body.length) (hkm : ∀ j ∈ kidsv p.body k, p.body.length < j.toNat + m) (htg : p.body[k].1 = 7) : ∃ H, textK Try.prog (T09f m) kp_offshootref09_Of ((kidsv p.body k).length + 1) Try.f26 [progD p, iD k] [] = some (iD (kindV (m + 1) p.vars p.body k), H) := by
  rw [sh_offshootref09_Of]
  have hE' : ¬ endv p.body k < 0 := by omega
  have har : 0 ≤ ar p.body[k] := by have := endv_ar p.body k hE; rwa [arAt_in _ _ hk] at this
  have hcount := kids_count p.body k hE hk
  rw [show p.body[k] = (p.body[k].1, p.body[k].2) from rfl] at har hcount
  have hkl := kidsv_len p.body k
  have hkind := kind_all m p k hE hk
  have hend := refEnd_pure p.body k hp
  have hkids := refKids_pure p.body k hp
  have ea : ∀ o : HO, allocH 39 [iD 0, iD 0] [o] = some (.hp 1 0, [o, .cells 39 2 [iD 0, iD 0]]) := fun o => rfl
  have es : ∀ o : HO, setH 2 (.hp 1 0) (.agg (nodeD p.body[k])) [o, .cells 39 2 [iD 0, iD 0]] = some (.v undef, [o, .cells 39 2 [iD p.body[k].1, iD p.body[k].2]]) := fun o => rfl
  have ep : D.agg [iD p.params, intsD p.vars, nodesD p.body] = progD p := rfl
  have hkid : ∀ j ∈ kidsv p.body k, 0 ≤ j ∧ j.toNat < p.body.length := fun j hj => by
    obtain ⟨c, hc, e⟩ := List.getElem_of_mem hj
    have := kid_facts p.body k c hc
    rw [e] at this
    exact ⟨by omega, this.2.2.2⟩
  have hall := all_obj m p (kidsv p.body k) hp (by omega) hm hkm
  have hblk := blocks_pure p (kidsv p.body k) (by omega) hkid
  have hloop := blk_loop m p (.cells 39 2 [iD p.body[k].1, iD p.body[k].2]) (kidsv p.body k) hp hm hkl hkm ((kidsv p.body k).length + 1) (by omega)
  have hti : ∀ t, p.body[k].1 = t → inner p.body[k].1 = inner t := fun t e => by rw [e]
  rw [htg] at *
  generalize hnn : p.body[k].2 = nn at *
  have a1 : ∀ (o1 o2 : HO) (a : Int), liftF (F_all m) [progD p, intsD (kidsv p.body k), .hs 2 1] [o1, o2, .cells 3 1 [iD a]] = some (bD (allV m p (kidsv p.body k) [a]), [o1, o2, .cells 3 1 [iD a]]) := fun o1 o2 a => hall _ 2 3 [a] rfl
  have a2 : ∀ (o1 o2 : HO) (a b : Int), liftF (F_all m) [progD p, intsD (kidsv p.body k), .hs 2 2] [o1, o2, .cells 3 1 [iD a, iD b]] = some (bD (allV m p (kidsv p.body k) [a, b]), [o1, o2, .cells 3 1 [iD a, iD b]]) := fun o1 o2 a b => hall _ 2 3 [a, b] rfl
  have a3 : ∀ (o1 o2 : HO) (a b c : Int), liftF (F_all m) [progD p, intsD (kidsv p.body k), .hs 2 3] [o1, o2, .cells 3 1 [iD a, iD b, iD c]] = some (bD (allV m p (kidsv p.body k) [a, b, c]), [o1, o2, .cells 3 1 [iD a, iD b, iD c]]) := fun o1 o2 a b c => hall _ 2 3 [a, b, c] rfl
  · skip
    have hq := hkind (.plain [0, 0] 0) rfl
    cases hv : allV m p (kidsv p.body k) [0, 0] <;> exact ⟨_, by simp [idx_nodesN _ _ hk, hend, hE', ea, es, hkids, ep, typed_pure, size_pure, kindF_pure, row1, row2, row3, a1, a2, a3, hblk, hq, ruleKind, askV, inner, hv]; rfl⟩

theorem refOf_tag8 (m : Nat) (p : Pg) (k : Nat) (hp : p.body.length ≤ 3000000) (hm : 0 < m) (hE : 0 ≤ endv p.body k) (hk : k < p.body.length) (hkm : ∀ j ∈ kidsv p.body k, p.body.length < j.toNat + m) (htg : p.body[k].1 = 8) : ∃ H, textK Try.prog (T09f m) kp_offshootref09_Of ((kidsv p.body k).length + 1) Try.f26 [progD p, iD k] [] = some (iD (kindV (m + 1) p.vars p.body k), H) := by
  rw [sh_offshootref09_Of]
  have hE' : ¬ endv p.body k < 0 := by omega
  have har : 0 ≤ ar p.body[k] := by have := endv_ar p.body k hE; rwa [arAt_in _ _ hk] at this
  have hcount := kids_count p.body k hE hk
  rw [show p.body[k] = (p.body[k].1, p.body[k].2) from rfl] at har hcount
  have hkl := kidsv_len p.body k
  have hkind := kind_all m p k hE hk
  have hend := refEnd_pure p.body k hp
  have hkids := refKids_pure p.body k hp
  have ea : ∀ o : HO, allocH 39 [iD 0, iD 0] [o] = some (.hp 1 0, [o, .cells 39 2 [iD 0, iD 0]]) := fun o => rfl
  have es : ∀ o : HO, setH 2 (.hp 1 0) (.agg (nodeD p.body[k])) [o, .cells 39 2 [iD 0, iD 0]] = some (.v undef, [o, .cells 39 2 [iD p.body[k].1, iD p.body[k].2]]) := fun o => rfl
  have ep : D.agg [iD p.params, intsD p.vars, nodesD p.body] = progD p := rfl
  have hkid : ∀ j ∈ kidsv p.body k, 0 ≤ j ∧ j.toNat < p.body.length := fun j hj => by
    obtain ⟨c, hc, e⟩ := List.getElem_of_mem hj
    have := kid_facts p.body k c hc
    rw [e] at this
    exact ⟨by omega, this.2.2.2⟩
  have hall := all_obj m p (kidsv p.body k) hp (by omega) hm hkm
  have hblk := blocks_pure p (kidsv p.body k) (by omega) hkid
  have hloop := blk_loop m p (.cells 39 2 [iD p.body[k].1, iD p.body[k].2]) (kidsv p.body k) hp hm hkl hkm ((kidsv p.body k).length + 1) (by omega)
  have hti : ∀ t, p.body[k].1 = t → inner p.body[k].1 = inner t := fun t e => by rw [e]
  rw [htg] at *
  generalize hnn : p.body[k].2 = nn at *
  have a1 : ∀ (o1 o2 : HO) (a : Int), liftF (F_all m) [progD p, intsD (kidsv p.body k), .hs 2 1] [o1, o2, .cells 3 1 [iD a]] = some (bD (allV m p (kidsv p.body k) [a]), [o1, o2, .cells 3 1 [iD a]]) := fun o1 o2 a => hall _ 2 3 [a] rfl
  have a2 : ∀ (o1 o2 : HO) (a b : Int), liftF (F_all m) [progD p, intsD (kidsv p.body k), .hs 2 2] [o1, o2, .cells 3 1 [iD a, iD b]] = some (bD (allV m p (kidsv p.body k) [a, b]), [o1, o2, .cells 3 1 [iD a, iD b]]) := fun o1 o2 a b => hall _ 2 3 [a, b] rfl
  have a3 : ∀ (o1 o2 : HO) (a b c : Int), liftF (F_all m) [progD p, intsD (kidsv p.body k), .hs 2 3] [o1, o2, .cells 3 1 [iD a, iD b, iD c]] = some (bD (allV m p (kidsv p.body k) [a, b, c]), [o1, o2, .cells 3 1 [iD a, iD b, iD c]]) := fun o1 o2 a b c => hall _ 2 3 [a, b, c] rfl
  · skip
    have hq := hkind (.plain [0, 0] 0) rfl
    cases hv : allV m p (kidsv p.body k) [0, 0] <;> exact ⟨_, by simp [idx_nodesN _ _ hk, hend, hE', ea, es, hkids, ep, typed_pure, size_pure, kindF_pure, row1, row2, row3, a1, a2, a3, hblk, hq, ruleKind, askV, inner, hv]; rfl⟩

theorem refOf_tag9 (m : Nat) (p : Pg) (k : Nat) (hp : p.body.length ≤ 3000000) (hm : 0 < m) (hE : 0 ≤ endv p.body k) (hk : k < p.body.length) (hkm : ∀ j ∈ kidsv p.body k, p.body.length < j.toNat + m) (htg : p.body[k].1 = 9) : ∃ H, textK Try.prog (T09f m) kp_offshootref09_Of ((kidsv p.body k).length + 1) Try.f26 [progD p, iD k] [] = some (iD (kindV (m + 1) p.vars p.body k), H) := by
  rw [sh_offshootref09_Of]
  have hE' : ¬ endv p.body k < 0 := by omega
  have har : 0 ≤ ar p.body[k] := by have := endv_ar p.body k hE; rwa [arAt_in _ _ hk] at this
  have hcount := kids_count p.body k hE hk
  rw [show p.body[k] = (p.body[k].1, p.body[k].2) from rfl] at har hcount
  have hkl := kidsv_len p.body k
  have hkind := kind_all m p k hE hk
  have hend := refEnd_pure p.body k hp
  have hkids := refKids_pure p.body k hp
  have ea : ∀ o : HO, allocH 39 [iD 0, iD 0] [o] = some (.hp 1 0, [o, .cells 39 2 [iD 0, iD 0]]) := fun o => rfl
  have es : ∀ o : HO, setH 2 (.hp 1 0) (.agg (nodeD p.body[k])) [o, .cells 39 2 [iD 0, iD 0]] = some (.v undef, [o, .cells 39 2 [iD p.body[k].1, iD p.body[k].2]]) := fun o => rfl
  have ep : D.agg [iD p.params, intsD p.vars, nodesD p.body] = progD p := rfl
  have hkid : ∀ j ∈ kidsv p.body k, 0 ≤ j ∧ j.toNat < p.body.length := fun j hj => by
    obtain ⟨c, hc, e⟩ := List.getElem_of_mem hj
    have := kid_facts p.body k c hc
    rw [e] at this
    exact ⟨by omega, this.2.2.2⟩
  have hall := all_obj m p (kidsv p.body k) hp (by omega) hm hkm
  have hblk := blocks_pure p (kidsv p.body k) (by omega) hkid
  have hloop := blk_loop m p (.cells 39 2 [iD p.body[k].1, iD p.body[k].2]) (kidsv p.body k) hp hm hkl hkm ((kidsv p.body k).length + 1) (by omega)
  have hti : ∀ t, p.body[k].1 = t → inner p.body[k].1 = inner t := fun t e => by rw [e]
  rw [htg] at *
  generalize hnn : p.body[k].2 = nn at *
  have a1 : ∀ (o1 o2 : HO) (a : Int), liftF (F_all m) [progD p, intsD (kidsv p.body k), .hs 2 1] [o1, o2, .cells 3 1 [iD a]] = some (bD (allV m p (kidsv p.body k) [a]), [o1, o2, .cells 3 1 [iD a]]) := fun o1 o2 a => hall _ 2 3 [a] rfl
  have a2 : ∀ (o1 o2 : HO) (a b : Int), liftF (F_all m) [progD p, intsD (kidsv p.body k), .hs 2 2] [o1, o2, .cells 3 1 [iD a, iD b]] = some (bD (allV m p (kidsv p.body k) [a, b]), [o1, o2, .cells 3 1 [iD a, iD b]]) := fun o1 o2 a b => hall _ 2 3 [a, b] rfl
  have a3 : ∀ (o1 o2 : HO) (a b c : Int), liftF (F_all m) [progD p, intsD (kidsv p.body k), .hs 2 3] [o1, o2, .cells 3 1 [iD a, iD b, iD c]] = some (bD (allV m p (kidsv p.body k) [a, b, c]), [o1, o2, .cells 3 1 [iD a, iD b, iD c]]) := fun o1 o2 a b c => hall _ 2 3 [a, b, c] rfl
  · skip
    have hq := hkind (.plain [0, 0] 0) rfl
    cases hv : allV m p (kidsv p.body k) [0, 0] <;> exact ⟨_, by simp [idx_nodesN _ _ hk, hend, hE', ea, es, hkids, ep, typed_pure, size_pure, kindF_pure, row1, row2, row3, a1, a2, a3, hblk, hq, ruleKind, askV, inner, hv]; rfl⟩

theorem refOf_tag10 (m : Nat) (p : Pg) (k : Nat) (hp : p.body.length ≤ 3000000) (hm : 0 < m) (hE : 0 ≤ endv p.body k) (hk : k < p.body.length) (hkm : ∀ j ∈ kidsv p.body k, p.body.length < j.toNat + m) (htg : p.body[k].1 = 10) : ∃ H, textK Try.prog (T09f m) kp_offshootref09_Of ((kidsv p.body k).length + 1) Try.f26 [progD p, iD k] [] = some (iD (kindV (m + 1) p.vars p.body k), H) := by
  rw [sh_offshootref09_Of]
  have hE' : ¬ endv p.body k < 0 := by omega
  have har : 0 ≤ ar p.body[k] := by have := endv_ar p.body k hE; rwa [arAt_in _ _ hk] at this
  have hcount := kids_count p.body k hE hk
  rw [show p.body[k] = (p.body[k].1, p.body[k].2) from rfl] at har hcount
  have hkl := kidsv_len p.body k
  have hkind := kind_all m p k hE hk
  have hend := refEnd_pure p.body k hp
  have hkids := refKids_pure p.body k hp
  have ea : ∀ o : HO, allocH 39 [iD 0, iD 0] [o] = some (.hp 1 0, [o, .cells 39 2 [iD 0, iD 0]]) := fun o => rfl
  have es : ∀ o : HO, setH 2 (.hp 1 0) (.agg (nodeD p.body[k])) [o, .cells 39 2 [iD 0, iD 0]] = some (.v undef, [o, .cells 39 2 [iD p.body[k].1, iD p.body[k].2]]) := fun o => rfl
  have ep : D.agg [iD p.params, intsD p.vars, nodesD p.body] = progD p := rfl
  have hkid : ∀ j ∈ kidsv p.body k, 0 ≤ j ∧ j.toNat < p.body.length := fun j hj => by
    obtain ⟨c, hc, e⟩ := List.getElem_of_mem hj
    have := kid_facts p.body k c hc
    rw [e] at this
    exact ⟨by omega, this.2.2.2⟩
  have hall := all_obj m p (kidsv p.body k) hp (by omega) hm hkm
  have hblk := blocks_pure p (kidsv p.body k) (by omega) hkid
  have hloop := blk_loop m p (.cells 39 2 [iD p.body[k].1, iD p.body[k].2]) (kidsv p.body k) hp hm hkl hkm ((kidsv p.body k).length + 1) (by omega)
  have hti : ∀ t, p.body[k].1 = t → inner p.body[k].1 = inner t := fun t e => by rw [e]
  rw [htg] at *
  generalize hnn : p.body[k].2 = nn at *
  have a1 : ∀ (o1 o2 : HO) (a : Int), liftF (F_all m) [progD p, intsD (kidsv p.body k), .hs 2 1] [o1, o2, .cells 3 1 [iD a]] = some (bD (allV m p (kidsv p.body k) [a]), [o1, o2, .cells 3 1 [iD a]]) := fun o1 o2 a => hall _ 2 3 [a] rfl
  have a2 : ∀ (o1 o2 : HO) (a b : Int), liftF (F_all m) [progD p, intsD (kidsv p.body k), .hs 2 2] [o1, o2, .cells 3 1 [iD a, iD b]] = some (bD (allV m p (kidsv p.body k) [a, b]), [o1, o2, .cells 3 1 [iD a, iD b]]) := fun o1 o2 a b => hall _ 2 3 [a, b] rfl
  have a3 : ∀ (o1 o2 : HO) (a b c : Int), liftF (F_all m) [progD p, intsD (kidsv p.body k), .hs 2 3] [o1, o2, .cells 3 1 [iD a, iD b, iD c]] = some (bD (allV m p (kidsv p.body k) [a, b, c]), [o1, o2, .cells 3 1 [iD a, iD b, iD c]]) := fun o1 o2 a b c => hall _ 2 3 [a, b, c] rfl
  · skip
    have hq := hkind (.plain [0, 0] 0) rfl
    cases hv : allV m p (kidsv p.body k) [0, 0] <;> exact ⟨_, by simp [idx_nodesN _ _ hk, hend, hE', ea, es, hkids, ep, typed_pure, size_pure, kindF_pure, row1, row2, row3, a1, a2, a3, hblk, hq, ruleKind, askV, inner, hv]; rfl⟩

theorem refOf_tag11 (m : Nat) (p : Pg) (k : Nat) (hp : p.body.length ≤ 3000000) (hm : 0 < m) (hE : 0 ≤ endv p.body k) (hk : k < p.body.length) (hkm : ∀ j ∈ kidsv p.body k, p.body.length < j.toNat + m) (htg : p.body[k].1 = 11) : ∃ H, textK Try.prog (T09f m) kp_offshootref09_Of ((kidsv p.body k).length + 1) Try.f26 [progD p, iD k] [] = some (iD (kindV (m + 1) p.vars p.body k), H) := by
  rw [sh_offshootref09_Of]
  have hE' : ¬ endv p.body k < 0 := by omega
  have har : 0 ≤ ar p.body[k] := by have := endv_ar p.body k hE; rwa [arAt_in _ _ hk] at this
  have hcount := kids_count p.body k hE hk
  rw [show p.body[k] = (p.body[k].1, p.body[k].2) from rfl] at har hcount
  have hkl := kidsv_len p.body k
  have hkind := kind_all m p k hE hk
  have hend := refEnd_pure p.body k hp
  have hkids := refKids_pure p.body k hp
  have ea : ∀ o : HO, allocH 39 [iD 0, iD 0] [o] = some (.hp 1 0, [o, .cells 39 2 [iD 0, iD 0]]) := fun o => rfl
  have es : ∀ o : HO, setH 2 (.hp 1 0) (.agg (nodeD p.body[k])) [o, .cells 39 2 [iD 0, iD 0]] = some (.v undef, [o, .cells 39 2 [iD p.body[k].1, iD p.body[k].2]]) := fun o => rfl
  have ep : D.agg [iD p.params, intsD p.vars, nodesD p.body] = progD p := rfl
  have hkid : ∀ j ∈ kidsv p.body k, 0 ≤ j ∧ j.toNat < p.body.length := fun j hj => by
    obtain ⟨c, hc, e⟩ := List.getElem_of_mem hj
    have := kid_facts p.body k c hc
    rw [e] at this
    exact ⟨by omega, this.2.2.2⟩
  have hall := all_obj m p (kidsv p.body k) hp (by omega) hm hkm
  have hblk := blocks_pure p (kidsv p.body k) (by omega) hkid
  have hloop := blk_loop m p (.cells 39 2 [iD p.body[k].1, iD p.body[k].2]) (kidsv p.body k) hp hm hkl hkm ((kidsv p.body k).length + 1) (by omega)
  have hti : ∀ t, p.body[k].1 = t → inner p.body[k].1 = inner t := fun t e => by rw [e]
  rw [htg] at *
  generalize hnn : p.body[k].2 = nn at *
  have a1 : ∀ (o1 o2 : HO) (a : Int), liftF (F_all m) [progD p, intsD (kidsv p.body k), .hs 2 1] [o1, o2, .cells 3 1 [iD a]] = some (bD (allV m p (kidsv p.body k) [a]), [o1, o2, .cells 3 1 [iD a]]) := fun o1 o2 a => hall _ 2 3 [a] rfl
  have a2 : ∀ (o1 o2 : HO) (a b : Int), liftF (F_all m) [progD p, intsD (kidsv p.body k), .hs 2 2] [o1, o2, .cells 3 1 [iD a, iD b]] = some (bD (allV m p (kidsv p.body k) [a, b]), [o1, o2, .cells 3 1 [iD a, iD b]]) := fun o1 o2 a b => hall _ 2 3 [a, b] rfl
  have a3 : ∀ (o1 o2 : HO) (a b c : Int), liftF (F_all m) [progD p, intsD (kidsv p.body k), .hs 2 3] [o1, o2, .cells 3 1 [iD a, iD b, iD c]] = some (bD (allV m p (kidsv p.body k) [a, b, c]), [o1, o2, .cells 3 1 [iD a, iD b, iD c]]) := fun o1 o2 a b c => hall _ 2 3 [a, b, c] rfl
  · skip
    have hq := hkind (.plain [0, 0] 0) rfl
    cases hv : allV m p (kidsv p.body k) [0, 0] <;> exact ⟨_, by simp [idx_nodesN _ _ hk, hend, hE', ea, es, hkids, ep, typed_pure, size_pure, kindF_pure, row1, row2, row3, a1, a2, a3, hblk, hq, ruleKind, askV, inner, hv]; rfl⟩

theorem refOf_tag12 (m : Nat) (p : Pg) (k : Nat) (hp : p.body.length ≤ 3000000) (hm : 0 < m) (hE : 0 ≤ endv p.body k) (hk : k < p.body.length) (hkm : ∀ j ∈ kidsv p.body k, p.body.length < j.toNat + m) (htg : p.body[k].1 = 12) : ∃ H, textK Try.prog (T09f m) kp_offshootref09_Of ((kidsv p.body k).length + 1) Try.f26 [progD p, iD k] [] = some (iD (kindV (m + 1) p.vars p.body k), H) := by
  rw [sh_offshootref09_Of]
  have hE' : ¬ endv p.body k < 0 := by omega
  have har : 0 ≤ ar p.body[k] := by have := endv_ar p.body k hE; rwa [arAt_in _ _ hk] at this
  have hcount := kids_count p.body k hE hk
  rw [show p.body[k] = (p.body[k].1, p.body[k].2) from rfl] at har hcount
  have hkl := kidsv_len p.body k
  have hkind := kind_all m p k hE hk
  have hend := refEnd_pure p.body k hp
  have hkids := refKids_pure p.body k hp
  have ea : ∀ o : HO, allocH 39 [iD 0, iD 0] [o] = some (.hp 1 0, [o, .cells 39 2 [iD 0, iD 0]]) := fun o => rfl
  have es : ∀ o : HO, setH 2 (.hp 1 0) (.agg (nodeD p.body[k])) [o, .cells 39 2 [iD 0, iD 0]] = some (.v undef, [o, .cells 39 2 [iD p.body[k].1, iD p.body[k].2]]) := fun o => rfl
  have ep : D.agg [iD p.params, intsD p.vars, nodesD p.body] = progD p := rfl
  have hkid : ∀ j ∈ kidsv p.body k, 0 ≤ j ∧ j.toNat < p.body.length := fun j hj => by
    obtain ⟨c, hc, e⟩ := List.getElem_of_mem hj
    have := kid_facts p.body k c hc
    rw [e] at this
    exact ⟨by omega, this.2.2.2⟩
  have hall := all_obj m p (kidsv p.body k) hp (by omega) hm hkm
  have hblk := blocks_pure p (kidsv p.body k) (by omega) hkid
  have hloop := blk_loop m p (.cells 39 2 [iD p.body[k].1, iD p.body[k].2]) (kidsv p.body k) hp hm hkl hkm ((kidsv p.body k).length + 1) (by omega)
  have hti : ∀ t, p.body[k].1 = t → inner p.body[k].1 = inner t := fun t e => by rw [e]
  rw [htg] at *
  generalize hnn : p.body[k].2 = nn at *
  have a1 : ∀ (o1 o2 : HO) (a : Int), liftF (F_all m) [progD p, intsD (kidsv p.body k), .hs 2 1] [o1, o2, .cells 3 1 [iD a]] = some (bD (allV m p (kidsv p.body k) [a]), [o1, o2, .cells 3 1 [iD a]]) := fun o1 o2 a => hall _ 2 3 [a] rfl
  have a2 : ∀ (o1 o2 : HO) (a b : Int), liftF (F_all m) [progD p, intsD (kidsv p.body k), .hs 2 2] [o1, o2, .cells 3 1 [iD a, iD b]] = some (bD (allV m p (kidsv p.body k) [a, b]), [o1, o2, .cells 3 1 [iD a, iD b]]) := fun o1 o2 a b => hall _ 2 3 [a, b] rfl
  have a3 : ∀ (o1 o2 : HO) (a b c : Int), liftF (F_all m) [progD p, intsD (kidsv p.body k), .hs 2 3] [o1, o2, .cells 3 1 [iD a, iD b, iD c]] = some (bD (allV m p (kidsv p.body k) [a, b, c]), [o1, o2, .cells 3 1 [iD a, iD b, iD c]]) := fun o1 o2 a b c => hall _ 2 3 [a, b, c] rfl
  · skip
    have hq := hkind (.plain [0, 0] 1) rfl
    cases hv : allV m p (kidsv p.body k) [0, 0] <;> exact ⟨_, by simp [idx_nodesN _ _ hk, hend, hE', ea, es, hkids, ep, typed_pure, size_pure, kindF_pure, row1, row2, row3, a1, a2, a3, hblk, hq, ruleKind, askV, inner, hv]; rfl⟩

theorem refOf_tag13 (m : Nat) (p : Pg) (k : Nat) (hp : p.body.length ≤ 3000000) (hm : 0 < m) (hE : 0 ≤ endv p.body k) (hk : k < p.body.length) (hkm : ∀ j ∈ kidsv p.body k, p.body.length < j.toNat + m) (htg : p.body[k].1 = 13) : ∃ H, textK Try.prog (T09f m) kp_offshootref09_Of ((kidsv p.body k).length + 1) Try.f26 [progD p, iD k] [] = some (iD (kindV (m + 1) p.vars p.body k), H) := by
  rw [sh_offshootref09_Of]
  have hE' : ¬ endv p.body k < 0 := by omega
  have har : 0 ≤ ar p.body[k] := by have := endv_ar p.body k hE; rwa [arAt_in _ _ hk] at this
  have hcount := kids_count p.body k hE hk
  rw [show p.body[k] = (p.body[k].1, p.body[k].2) from rfl] at har hcount
  have hkl := kidsv_len p.body k
  have hkind := kind_all m p k hE hk
  have hend := refEnd_pure p.body k hp
  have hkids := refKids_pure p.body k hp
  have ea : ∀ o : HO, allocH 39 [iD 0, iD 0] [o] = some (.hp 1 0, [o, .cells 39 2 [iD 0, iD 0]]) := fun o => rfl
  have es : ∀ o : HO, setH 2 (.hp 1 0) (.agg (nodeD p.body[k])) [o, .cells 39 2 [iD 0, iD 0]] = some (.v undef, [o, .cells 39 2 [iD p.body[k].1, iD p.body[k].2]]) := fun o => rfl
  have ep : D.agg [iD p.params, intsD p.vars, nodesD p.body] = progD p := rfl
  have hkid : ∀ j ∈ kidsv p.body k, 0 ≤ j ∧ j.toNat < p.body.length := fun j hj => by
    obtain ⟨c, hc, e⟩ := List.getElem_of_mem hj
    have := kid_facts p.body k c hc
    rw [e] at this
    exact ⟨by omega, this.2.2.2⟩
  have hall := all_obj m p (kidsv p.body k) hp (by omega) hm hkm
  have hblk := blocks_pure p (kidsv p.body k) (by omega) hkid
  have hloop := blk_loop m p (.cells 39 2 [iD p.body[k].1, iD p.body[k].2]) (kidsv p.body k) hp hm hkl hkm ((kidsv p.body k).length + 1) (by omega)
  have hti : ∀ t, p.body[k].1 = t → inner p.body[k].1 = inner t := fun t e => by rw [e]
  rw [htg] at *
  generalize hnn : p.body[k].2 = nn at *
  have a1 : ∀ (o1 o2 : HO) (a : Int), liftF (F_all m) [progD p, intsD (kidsv p.body k), .hs 2 1] [o1, o2, .cells 3 1 [iD a]] = some (bD (allV m p (kidsv p.body k) [a]), [o1, o2, .cells 3 1 [iD a]]) := fun o1 o2 a => hall _ 2 3 [a] rfl
  have a2 : ∀ (o1 o2 : HO) (a b : Int), liftF (F_all m) [progD p, intsD (kidsv p.body k), .hs 2 2] [o1, o2, .cells 3 1 [iD a, iD b]] = some (bD (allV m p (kidsv p.body k) [a, b]), [o1, o2, .cells 3 1 [iD a, iD b]]) := fun o1 o2 a b => hall _ 2 3 [a, b] rfl
  have a3 : ∀ (o1 o2 : HO) (a b c : Int), liftF (F_all m) [progD p, intsD (kidsv p.body k), .hs 2 3] [o1, o2, .cells 3 1 [iD a, iD b, iD c]] = some (bD (allV m p (kidsv p.body k) [a, b, c]), [o1, o2, .cells 3 1 [iD a, iD b, iD c]]) := fun o1 o2 a b c => hall _ 2 3 [a, b, c] rfl
  · skip
    have hq := hkind (.plain [0, 0] 1) rfl
    cases hv : allV m p (kidsv p.body k) [0, 0] <;> exact ⟨_, by simp [idx_nodesN _ _ hk, hend, hE', ea, es, hkids, ep, typed_pure, size_pure, kindF_pure, row1, row2, row3, a1, a2, a3, hblk, hq, ruleKind, askV, inner, hv]; rfl⟩

theorem refOf_tag14 (m : Nat) (p : Pg) (k : Nat) (hp : p.body.length ≤ 3000000) (hm : 0 < m) (hE : 0 ≤ endv p.body k) (hk : k < p.body.length) (hkm : ∀ j ∈ kidsv p.body k, p.body.length < j.toNat + m) (htg : p.body[k].1 = 14) : ∃ H, textK Try.prog (T09f m) kp_offshootref09_Of ((kidsv p.body k).length + 1) Try.f26 [progD p, iD k] [] = some (iD (kindV (m + 1) p.vars p.body k), H) := by
  rw [sh_offshootref09_Of]
  have hE' : ¬ endv p.body k < 0 := by omega
  have har : 0 ≤ ar p.body[k] := by have := endv_ar p.body k hE; rwa [arAt_in _ _ hk] at this
  have hcount := kids_count p.body k hE hk
  rw [show p.body[k] = (p.body[k].1, p.body[k].2) from rfl] at har hcount
  have hkl := kidsv_len p.body k
  have hkind := kind_all m p k hE hk
  have hend := refEnd_pure p.body k hp
  have hkids := refKids_pure p.body k hp
  have ea : ∀ o : HO, allocH 39 [iD 0, iD 0] [o] = some (.hp 1 0, [o, .cells 39 2 [iD 0, iD 0]]) := fun o => rfl
  have es : ∀ o : HO, setH 2 (.hp 1 0) (.agg (nodeD p.body[k])) [o, .cells 39 2 [iD 0, iD 0]] = some (.v undef, [o, .cells 39 2 [iD p.body[k].1, iD p.body[k].2]]) := fun o => rfl
  have ep : D.agg [iD p.params, intsD p.vars, nodesD p.body] = progD p := rfl
  have hkid : ∀ j ∈ kidsv p.body k, 0 ≤ j ∧ j.toNat < p.body.length := fun j hj => by
    obtain ⟨c, hc, e⟩ := List.getElem_of_mem hj
    have := kid_facts p.body k c hc
    rw [e] at this
    exact ⟨by omega, this.2.2.2⟩
  have hall := all_obj m p (kidsv p.body k) hp (by omega) hm hkm
  have hblk := blocks_pure p (kidsv p.body k) (by omega) hkid
  have hloop := blk_loop m p (.cells 39 2 [iD p.body[k].1, iD p.body[k].2]) (kidsv p.body k) hp hm hkl hkm ((kidsv p.body k).length + 1) (by omega)
  have hti : ∀ t, p.body[k].1 = t → inner p.body[k].1 = inner t := fun t e => by rw [e]
  rw [htg] at *
  generalize hnn : p.body[k].2 = nn at *
  have a1 : ∀ (o1 o2 : HO) (a : Int), liftF (F_all m) [progD p, intsD (kidsv p.body k), .hs 2 1] [o1, o2, .cells 3 1 [iD a]] = some (bD (allV m p (kidsv p.body k) [a]), [o1, o2, .cells 3 1 [iD a]]) := fun o1 o2 a => hall _ 2 3 [a] rfl
  have a2 : ∀ (o1 o2 : HO) (a b : Int), liftF (F_all m) [progD p, intsD (kidsv p.body k), .hs 2 2] [o1, o2, .cells 3 1 [iD a, iD b]] = some (bD (allV m p (kidsv p.body k) [a, b]), [o1, o2, .cells 3 1 [iD a, iD b]]) := fun o1 o2 a b => hall _ 2 3 [a, b] rfl
  have a3 : ∀ (o1 o2 : HO) (a b c : Int), liftF (F_all m) [progD p, intsD (kidsv p.body k), .hs 2 3] [o1, o2, .cells 3 1 [iD a, iD b, iD c]] = some (bD (allV m p (kidsv p.body k) [a, b, c]), [o1, o2, .cells 3 1 [iD a, iD b, iD c]]) := fun o1 o2 a b c => hall _ 2 3 [a, b, c] rfl
  · skip
    have hq := hkind (.plain [0, 0] 1) rfl
    cases hv : allV m p (kidsv p.body k) [0, 0] <;> exact ⟨_, by simp [idx_nodesN _ _ hk, hend, hE', ea, es, hkids, ep, typed_pure, size_pure, kindF_pure, row1, row2, row3, a1, a2, a3, hblk, hq, ruleKind, askV, inner, hv]; rfl⟩

end Go.Proofs.Ytbnmkdlmalobaaa
end
