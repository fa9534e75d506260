/-
  Parts joined into one text: C09i, T09h, Sh09j, T09j, Sh09k, T09k. No condition.
-/
import Derived.Test.YtbnmkdlmalobaaaVm
import Derived.Test.YtbnmkdlmalobaaaVn

section
namespace Go.Proofs.Ytbnmkdlmalobaaa
open Go.RowKit
set_option linter.unusedVariables false
set_option linter.unusedSimpArgs false
set_option maxHeartbeats 1000000

theorem refOf_tag15 (m : Nat) (p : Pg) (k : Nat) (hp : p.body.length ≤ 3000000) (hm : 0 < m) (hE : 0 ≤ endv p.body k) (hk : k < p.body.length) (hkm : ∀ j ∈ kidsv p.body k, p.body.length < j.toNat + m) (htg : p.body[k].1 = 15) : ∃ H, textK Try.prog (T09f m) kp_offshootref09_Of ((kidsv p.body k).length + 1) Try.f26 [progD p, iD k] [] = some (iD (kindV (m + 1) p.vars p.body k), H) := by
  rw [sh_offshootref09_Of]
  have hE' : ¬ endv p.body k < 0 := by omega
  have har : 0 ≤ ar p.body[k] := by have := endv_ar p.body k hE; rwa [arAt_in _ _ hk] at this
  have hcount := kids_count p.body k hE hk
  rw [show p.body[k] = (p.body[k].1, p.body[k].2) from rfl] at har hcount
  have hkl := kidsv_len p.body k
  have hkind := kind_all m p k hE hk
  have hend := refEnd_pure p.body k hp
  have hkids := refKids_pure p.body k hp
  have ea : ∀ o : HO, allocH 39 [iD 0, iD 0] [o] = some (.hp 1 0, [o, .cells 39 2 [iD 0, iD 0]]) := fun o => rfl
  have es : ∀ o : HO, setH 2 (.hp 1 0) (.agg (nodeD p.body[k])) [o, .cells 39 2 [iD 0, iD 0]] = some (.v undef, [o, .cells 39 2 [iD p.body[k].1, iD p.body[k].2]]) := fun o => rfl
  have ep : D.agg [iD p.params, intsD p.vars, nodesD p.body] = progD p := rfl
  have hkid : ∀ j ∈ kidsv p.body k, 0 ≤ j ∧ j.toNat < p.body.length := fun j hj => by
    obtain ⟨c, hc, e⟩ := List.getElem_of_mem hj
    have := kid_facts p.body k c hc
    rw [e] at this
    exact ⟨by omega, this.2.2.2⟩
  have hall := all_obj m p (kidsv p.body k) hp (by omega) hm hkm
  have hblk := blocks_pure p (kidsv p.body k) (by omega) hkid
  have hloop := blk_loop m p (.cells 39 2 [iD p.body[k].1, iD p.body[k].2]) (kidsv p.body k) hp hm hkl hkm ((kidsv p.body k).length + 1) (by omega)
  have hti : ∀ t, p.body[k].1 = t → inner p.body[k].1 = inner t := fun t e => by rw [e]
  rw [htg] at *
  generalize hnn : p.body[k].2 = nn at *
  have a1 : ∀ (o1 o2 : HO) (a : Int), liftF (F_all m) [progD p, intsD (kidsv p.body k), .hs 2 1] [o1, o2, .cells 3 1 [iD a]] = some (bD (allV m p (kidsv p.body k) [a]), [o1, o2, .cells 3 1 [iD a]]) := fun o1 o2 a => hall _ 2 3 [a] rfl
  have a2 : ∀ (o1 o2 : HO) (a b : Int), liftF (F_all m) [progD p, intsD (kidsv p.body k), .hs 2 2] [o1, o2, .cells 3 1 [iD a, iD b]] = some (bD (allV m p (kidsv p.body k) [a, b]), [o1, o2, .cells 3 1 [iD a, iD b]]) := fun o1 o2 a b => hall _ 2 3 [a, b] rfl
  have a3 : ∀ (o1 o2 : HO) (a b c : Int), liftF (F_all m) [progD p, intsD (kidsv p.body k), .hs 2 3] [o1, o2, .cells 3 1 [iD a, iD b, iD c]] = some (bD (allV m p (kidsv p.body k) [a, b, c]), [o1, o2, .cells 3 1 [iD a, iD b, iD c]]) := fun o1 o2 a b c => hall _ 2 3 [a, b, c] rfl
  · skip
    have hq := hkind (.plain [0, 0] 1) rfl
    cases hv : allV m p (kidsv p.body k) [0, 0] <;> exact ⟨_, by simp [idx_nodesN _ _ hk, hend, hE', ea, es, hkids, ep, typed_pure, size_pure, kindF_pure, row1, row2, row3, a1, a2, a3, hblk, hq, ruleKind, askV, inner, hv]; rfl⟩

theorem refOf_tag16 (m : Nat) (p : Pg) (k : Nat) (hp : p.body.length ≤ 3000000) (hm : 0 < m) (hE : 0 ≤ endv p.body k) (hk : k < p.body.length) (hkm : ∀ j ∈ kidsv p.body k, p.body.length < j.toNat + m) (htg : p.body[k].1 = 16) : ∃ H, textK Try.prog (T09f m) kp_offshootref09_Of ((kidsv p.body k).length + 1) Try.f26 [progD p, iD k] [] = some (iD (kindV (m + 1) p.vars p.body k), H) := by
  rw [sh_offshootref09_Of]
  have hE' : ¬ endv p.body k < 0 := by omega
  have har : 0 ≤ ar p.body[k] := by have := endv_ar p.body k hE; rwa [arAt_in _ _ hk] at this
  have hcount := kids_count p.body k hE hk
  rw [show p.body[k] = (p.body[k].1, p.body[k].2) from rfl] at har hcount
  have hkl := kidsv_len p.body k
  have hkind := kind_all m p k hE hk
  have hend := refEnd_pure p.body k hp
  have hkids := refKids_pure p.body k hp
  have ea : ∀ o : HO, allocH 39 [iD 0, iD 0] [o] = some (.hp 1 0, [o, .cells 39 2 [iD 0, iD 0]]) := fun o => rfl
  have es : ∀ o : HO, setH 2 (.hp 1 0) (.agg (nodeD p.body[k])) [o, .cells 39 2 [iD 0, iD 0]] = some (.v undef, [o, .cells 39 2 [iD p.body[k].1, iD p.body[k].2]]) := fun o => rfl
  have ep : D.agg [iD p.params, intsD p.vars, nodesD p.body] = progD p := rfl
  have hkid : ∀ j ∈ kidsv p.body k, 0 ≤ j ∧ j.toNat < p.body.length := fun j hj => by
    obtain ⟨c, hc, e⟩ := List.getElem_of_mem hj
    have := kid_facts p.body k c hc
    rw [e] at this
    exact ⟨by omega, this.2.2.2⟩
  have hall := all_obj m p (kidsv p.body k) hp (by omega) hm hkm
  have hblk := blocks_pure p (kidsv p.body k) (by omega) hkid
  have hloop := blk_loop m p (.cells 39 2 [iD p.body[k].1, iD p.body[k].2]) (kidsv p.body k) hp hm hkl hkm ((kidsv p.body k).length + 1) (by omega)
  have hti : ∀ t, p.body[k].1 = t → inner p.body[k].1 = inner t := fun t e => by rw [e]
  rw [htg] at *
  generalize hnn : p.body[k].2 = nn at *
  have a1 : ∀ (o1 o2 : HO) (a : Int), liftF (F_all m) [progD p, intsD (kidsv p.body k), .hs 2 1] [o1, o2, .cells 3 1 [iD a]] = some (bD (allV m p (kidsv p.body k) [a]), [o1, o2, .cells 3 1 [iD a]]) := fun o1 o2 a => hall _ 2 3 [a] rfl
  have a2 : ∀ (o1 o2 : HO) (a b : Int), liftF (F_all m) [progD p, intsD (kidsv p.body k), .hs 2 2] [o1, o2, .cells 3 1 [iD a, iD b]] = some (bD (allV m p (kidsv p.body k) [a, b]), [o1, o2, .cells 3 1 [iD a, iD b]]) := fun o1 o2 a b => hall _ 2 3 [a, b] rfl
  have a3 : ∀ (o1 o2 : HO) (a b c : Int), liftF (F_all m) [progD p, intsD (kidsv p.body k), .hs 2 3] [o1, o2, .cells 3 1 [iD a, iD b, iD c]] = some (bD (allV m p (kidsv p.body k) [a, b, c]), [o1, o2, .cells 3 1 [iD a, iD b, iD c]]) := fun o1 o2 a b c => hall _ 2 3 [a, b, c] rfl
  · skip
    have hq := hkind (.plain [0, 0] 1) rfl
    cases hv : allV m p (kidsv p.body k) [0, 0] <;> exact ⟨_, by simp [idx_nodesN _ _ hk, hend, hE', ea, es, hkids, ep, typed_pure, size_pure, kindF_pure, row1, row2, row3, a1, a2, a3, hblk, hq, ruleKind, askV, inner, hv]; rfl⟩

theorem refOf_tag17 (m : Nat) (p : Pg) (k : Nat) (hp : p.body.length ≤ 3000000) (hm : 0 < m) (hE : 0 ≤ endv p.body k) (hk : k < p.body.length) (hkm : ∀ j ∈ kidsv p.body k, p.body.length < j.toNat + m) (htg : p.body[k].1 = 17) : ∃ H, textK Try.prog (T09f m) kp_offshootref09_Of ((kidsv p.body k).length + 1) Try.f26 [progD p, iD k] [] = some (iD (kindV (m + 1) p.vars p.body k), H) := by
  rw [sh_offshootref09_Of]
  have hE' : ¬ endv p.body k < 0 := by omega
  have har : 0 ≤ ar p.body[k] := by have := endv_ar p.body k hE; rwa [arAt_in _ _ hk] at this
  have hcount := kids_count p.body k hE hk
  rw [show p.body[k] = (p.body[k].1, p.body[k].2) from rfl] at har hcount
  have hkl := kidsv_len p.body k
  have hkind := kind_all m p k hE hk
  have hend := refEnd_pure p.body k hp
  have hkids := refKids_pure p.body k hp
  have ea : ∀ o : HO, allocH 39 [iD 0, iD 0] [o] = some (.hp 1 0, [o, .cells 39 2 [iD 0, iD 0]]) := fun o => rfl
  have es : ∀ o : HO, setH 2 (.hp 1 0) (.agg (nodeD p.body[k])) [o, .cells 39 2 [iD 0, iD 0]] = some (.v undef, [o, .cells 39 2 [iD p.body[k].1, iD p.body[k].2]]) := fun o => rfl
  have ep : D.agg [iD p.params, intsD p.vars, nodesD p.body] = progD p := rfl
  have hkid : ∀ j ∈ kidsv p.body k, 0 ≤ j ∧ j.toNat < p.body.length := fun j hj => by
    obtain ⟨c, hc, e⟩ := List.getElem_of_mem hj
    have := kid_facts p.body k c hc
    rw [e] at this
    exact ⟨by omega, this.2.2.2⟩
  have hall := all_obj m p (kidsv p.body k) hp (by omega) hm hkm
  have hblk := blocks_pure p (kidsv p.body k) (by omega) hkid
  have hloop := blk_loop m p (.cells 39 2 [iD p.body[k].1, iD p.body[k].2]) (kidsv p.body k) hp hm hkl hkm ((kidsv p.body k).length + 1) (by omega)
  have hti : ∀ t, p.body[k].1 = t → inner p.body[k].1 = inner t := fun t e => by rw [e]
  rw [htg] at *
  generalize hnn : p.body[k].2 = nn at *
  have a1 : ∀ (o1 o2 : HO) (a : Int), liftF (F_all m) [progD p, intsD (kidsv p.body k), .hs 2 1] [o1, o2, .cells 3 1 [iD a]] = some (bD (allV m p (kidsv p.body k) [a]), [o1, o2, .cells 3 1 [iD a]]) := fun o1 o2 a => hall _ 2 3 [a] rfl
  have a2 : ∀ (o1 o2 : HO) (a b : Int), liftF (F_all m) [progD p, intsD (kidsv p.body k), .hs 2 2] [o1, o2, .cells 3 1 [iD a, iD b]] = some (bD (allV m p (kidsv p.body k) [a, b]), [o1, o2, .cells 3 1 [iD a, iD b]]) := fun o1 o2 a b => hall _ 2 3 [a, b] rfl
  have a3 : ∀ (o1 o2 : HO) (a b c : Int), liftF (F_all m) [progD p, intsD (kidsv p.body k), .hs 2 3] [o1, o2, .cells 3 1 [iD a, iD b, iD c]] = some (bD (allV m p (kidsv p.body k) [a, b, c]), [o1, o2, .cells 3 1 [iD a, iD b, iD c]]) := fun o1 o2 a b c => hall _ 2 3 [a, b, c] rfl
  · skip
    have hq := hkind (.plain [0, 0] 1) rfl
    cases hv : allV m p (kidsv p.body k) [0, 0] <;> exact ⟨_, by simp [idx_nodesN _ _ hk, hend, hE', ea, es, hkids, ep, typed_pure, size_pure, kindF_pure, row1, row2, row3, a1, a2, a3, hblk, hq, ruleKind, askV, inner, hv]; rfl⟩

theorem refOf_tag18 (m : Nat) (p : Pg) (k : Nat) (hp : p.body.length ≤ 3000000) (hm : 0 < m) (hE : 0 ≤ endv p.body k) (hk : k < p.body.length) (hkm : ∀ j ∈ kidsv p.body k, p.body.length < j.toNat + m) (htg : p.body[k].1 = 18) : ∃ H, textK Try.prog (T09f m) kp_offshootref09_Of ((kidsv p.body k).length + 1) Try.f26 [progD p, iD k] [] = some (iD (kindV (m + 1) p.vars p.body k), H) := by
  rw [sh_offshootref09_Of]
  have hE' : ¬ endv p.body k < 0 := by omega
  have har : 0 ≤ ar p.body[k] := by have := endv_ar p.body k hE; rwa [arAt_in _ _ hk] at this
  have hcount := kids_count p.body k hE hk
  rw [show p.body[k] = (p.body[k].1, p.body[k].2) from rfl] at har hcount
  have hkl := kidsv_len p.body k
  have hkind := kind_all m p k hE hk
  have hend := refEnd_pure p.body k hp
  have hkids := refKids_pure p.body k hp
  have ea : ∀ o : HO, allocH 39 [iD 0, iD 0] [o] = some (.hp 1 0, [o, .cells 39 2 [iD 0, iD 0]]) := fun o => rfl
  have es : ∀ o : HO, setH 2 (.hp 1 0) (.agg (nodeD p.body[k])) [o, .cells 39 2 [iD 0, iD 0]] = some (.v undef, [o, .cells 39 2 [iD p.body[k].1, iD p.body[k].2]]) := fun o => rfl
  have ep : D.agg [iD p.params, intsD p.vars, nodesD p.body] = progD p := rfl
  have hkid : ∀ j ∈ kidsv p.body k, 0 ≤ j ∧ j.toNat < p.body.length := fun j hj => by
    obtain ⟨c, hc, e⟩ := List.getElem_of_mem hj
    have := kid_facts p.body k c hc
    rw [e] at this
    exact ⟨by omega, this.2.2.2⟩
  have hall := all_obj m p (kidsv p.body k) hp (by omega) hm hkm
  have hblk := blocks_pure p (kidsv p.body k) (by omega) hkid
  have hloop := blk_loop m p (.cells 39 2 [iD p.body[k].1, iD p.body[k].2]) (kidsv p.body k) hp hm hkl hkm ((kidsv p.body k).length + 1) (by omega)
  have hti : ∀ t, p.body[k].1 = t → inner p.body[k].1 = inner t := fun t e => by rw [e]
  rw [htg] at *
  generalize hnn : p.body[k].2 = nn at *
  have a1 : ∀ (o1 o2 : HO) (a : Int), liftF (F_all m) [progD p, intsD (kidsv p.body k), .hs 2 1] [o1, o2, .cells 3 1 [iD a]] = some (bD (allV m p (kidsv p.body k) [a]), [o1, o2, .cells 3 1 [iD a]]) := fun o1 o2 a => hall _ 2 3 [a] rfl
  have a2 : ∀ (o1 o2 : HO) (a b : Int), liftF (F_all m) [progD p, intsD (kidsv p.body k), .hs 2 2] [o1, o2, .cells 3 1 [iD a, iD b]] = some (bD (allV m p (kidsv p.body k) [a, b]), [o1, o2, .cells 3 1 [iD a, iD b]]) := fun o1 o2 a b => hall _ 2 3 [a, b] rfl
  have a3 : ∀ (o1 o2 : HO) (a b c : Int), liftF (F_all m) [progD p, intsD (kidsv p.body k), .hs 2 3] [o1, o2, .cells 3 1 [iD a, iD b, iD c]] = some (bD (allV m p (kidsv p.body k) [a, b, c]), [o1, o2, .cells 3 1 [iD a, iD b, iD c]]) := fun o1 o2 a b c => hall _ 2 3 [a, b, c] rfl
  · skip
    have hq := hkind (.plain [1, 1] 1) rfl
    cases hv : allV m p (kidsv p.body k) [1, 1] <;> exact ⟨_, by simp [idx_nodesN _ _ hk, hend, hE', ea, es, hkids, ep, typed_pure, size_pure, kindF_pure, row1, row2, row3, a1, a2, a3, hblk, hq, ruleKind, askV, inner, hv]; rfl⟩

theorem refOf_tag19 (m : Nat) (p : Pg) (k : Nat) (hp : p.body.length ≤ 3000000) (hm : 0 < m) (hE : 0 ≤ endv p.body k) (hk : k < p.body.length) (hkm : ∀ j ∈ kidsv p.body k, p.body.length < j.toNat + m) (htg : p.body[k].1 = 19) : ∃ H, textK Try.prog (T09f m) kp_offshootref09_Of ((kidsv p.body k).length + 1) Try.f26 [progD p, iD k] [] = some (iD (kindV (m + 1) p.vars p.body k), H) := by
  rw [sh_offshootref09_Of]
  have hE' : ¬ endv p.body k < 0 := by omega
  have har : 0 ≤ ar p.body[k] := by have := endv_ar p.body k hE; rwa [arAt_in _ _ hk] at this
  have hcount := kids_count p.body k hE hk
  rw [show p.body[k] = (p.body[k].1, p.body[k].2) from rfl] at har hcount
  have hkl := kidsv_len p.body k
  have hkind := kind_all m p k hE hk
  have hend := refEnd_pure p.body k hp
  have hkids := refKids_pure p.body k hp
  have ea : ∀ o : HO, allocH 39 [iD 0, iD 0] [o] = some (.hp 1 0, [o, .cells 39 2 [iD 0, iD 0]]) := fun o => rfl
  have es : ∀ o : HO, setH 2 (.hp 1 0) (.agg (nodeD p.body[k])) [o, .cells 39 2 [iD 0, iD 0]] = some (.v undef, [o, .cells 39 2 [iD p.body[k].1, iD p.body[k].2]]) := fun o => rfl
  have ep : D.agg [iD p.params, intsD p.vars, nodesD p.body] = progD p := rfl
  have hkid : ∀ j ∈ kidsv p.body k, 0 ≤ j ∧ j.toNat < p.body.length := fun j hj => by
    obtain ⟨c, hc, e⟩ := List.getElem_of_mem hj
    have := kid_facts p.body k c hc
    rw [e] at this
    exact ⟨by omega, this.2.2.2⟩
  have hall := all_obj m p (kidsv p.body k) hp (by omega) hm hkm
  have hblk := blocks_pure p (kidsv p.body k) (by omega) hkid
  have hloop := blk_loop m p (.cells 39 2 [iD p.body[k].1, iD p.body[k].2]) (kidsv p.body k) hp hm hkl hkm ((kidsv p.body k).length + 1) (by omega)
  have hti : ∀ t, p.body[k].1 = t → inner p.body[k].1 = inner t := fun t e => by rw [e]
  rw [htg] at *
  generalize hnn : p.body[k].2 = nn at *
  have a1 : ∀ (o1 o2 : HO) (a : Int), liftF (F_all m) [progD p, intsD (kidsv p.body k), .hs 2 1] [o1, o2, .cells 3 1 [iD a]] = some (bD (allV m p (kidsv p.body k) [a]), [o1, o2, .cells 3 1 [iD a]]) := fun o1 o2 a => hall _ 2 3 [a] rfl
  have a2 : ∀ (o1 o2 : HO) (a b : Int), liftF (F_all m) [progD p, intsD (kidsv p.body k), .hs 2 2] [o1, o2, .cells 3 1 [iD a, iD b]] = some (bD (allV m p (kidsv p.body k) [a, b]), [o1, o2, .cells 3 1 [iD a, iD b]]) := fun o1 o2 a b => hall _ 2 3 [a, b] rfl
  have a3 : ∀ (o1 o2 : HO) (a b c : Int), liftF (F_all m) [progD p, intsD (kidsv p.body k), .hs 2 3] [o1, o2, .cells 3 1 [iD a, iD b, iD c]] = some (bD (allV m p (kidsv p.body k) [a, b, c]), [o1, o2, .cells 3 1 [iD a, iD b, iD c]]) := fun o1 o2 a b c => hall _ 2 3 [a, b, c] rfl
  · skip
    have hq := hkind (.plain [1, 1] 1) rfl
    cases hv : allV m p (kidsv p.body k) [1, 1] <;> exact ⟨_, by simp [idx_nodesN _ _ hk, hend, hE', ea, es, hkids, ep, typed_pure, size_pure, kindF_pure, row1, row2, row3, a1, a2, a3, hblk, hq, ruleKind, askV, inner, hv]; rfl⟩

theorem refOf_tag20 (m : Nat) (p : Pg) (k : Nat) (hp : p.body.length ≤ 3000000) (hm : 0 < m) (hE : 0 ≤ endv p.body k) (hk : k < p.body.length) (hkm : ∀ j ∈ kidsv p.body k, p.body.length < j.toNat + m) (htg : p.body[k].1 = 20) : ∃ H, textK Try.prog (T09f m) kp_offshootref09_Of ((kidsv p.body k).length + 1) Try.f26 [progD p, iD k] [] = some (iD (kindV (m + 1) p.vars p.body k), H) := by
  rw [sh_offshootref09_Of]
  have hE' : ¬ endv p.body k < 0 := by omega
  have har : 0 ≤ ar p.body[k] := by have := endv_ar p.body k hE; rwa [arAt_in _ _ hk] at this
  have hcount := kids_count p.body k hE hk
  rw [show p.body[k] = (p.body[k].1, p.body[k].2) from rfl] at har hcount
  have hkl := kidsv_len p.body k
  have hkind := kind_all m p k hE hk
  have hend := refEnd_pure p.body k hp
  have hkids := refKids_pure p.body k hp
  have ea : ∀ o : HO, allocH 39 [iD 0, iD 0] [o] = some (.hp 1 0, [o, .cells 39 2 [iD 0, iD 0]]) := fun o => rfl
  have es : ∀ o : HO, setH 2 (.hp 1 0) (.agg (nodeD p.body[k])) [o, .cells 39 2 [iD 0, iD 0]] = some (.v undef, [o, .cells 39 2 [iD p.body[k].1, iD p.body[k].2]]) := fun o => rfl
  have ep : D.agg [iD p.params, intsD p.vars, nodesD p.body] = progD p := rfl
  have hkid : ∀ j ∈ kidsv p.body k, 0 ≤ j ∧ j.toNat < p.body.length := fun j hj => by
    obtain ⟨c, hc, e⟩ := List.getElem_of_mem hj
    have := kid_facts p.body k c hc
    rw [e] at this
    exact ⟨by omega, this.2.2.2⟩
  have hall := all_obj m p (kidsv p.body k) hp (by omega) hm hkm
  have hblk := blocks_pure p (kidsv p.body k) (by omega) hkid
  have hloop := blk_loop m p (.cells 39 2 [iD p.body[k].1, iD p.body[k].2]) (kidsv p.body k) hp hm hkl hkm ((kidsv p.body k).length + 1) (by omega)
  have hti : ∀ t, p.body[k].1 = t → inner p.body[k].1 = inner t := fun t e => by rw [e]
  rw [htg] at *
  generalize hnn : p.body[k].2 = nn at *
  have a1 : ∀ (o1 o2 : HO) (a : Int), liftF (F_all m) [progD p, intsD (kidsv p.body k), .hs 2 1] [o1, o2, .cells 3 1 [iD a]] = some (bD (allV m p (kidsv p.body k) [a]), [o1, o2, .cells 3 1 [iD a]]) := fun o1 o2 a => hall _ 2 3 [a] rfl
  have a2 : ∀ (o1 o2 : HO) (a b : Int), liftF (F_all m) [progD p, intsD (kidsv p.body k), .hs 2 2] [o1, o2, .cells 3 1 [iD a, iD b]] = some (bD (allV m p (kidsv p.body k) [a, b]), [o1, o2, .cells 3 1 [iD a, iD b]]) := fun o1 o2 a b => hall _ 2 3 [a, b] rfl
  have a3 : ∀ (o1 o2 : HO) (a b c : Int), liftF (F_all m) [progD p, intsD (kidsv p.body k), .hs 2 3] [o1, o2, .cells 3 1 [iD a, iD b, iD c]] = some (bD (allV m p (kidsv p.body k) [a, b, c]), [o1, o2, .cells 3 1 [iD a, iD b, iD c]]) := fun o1 o2 a b c => hall _ 2 3 [a, b, c] rfl
  · skip
    have hq := hkind .none rfl
    have hal : allV m p (kidsv p.body k) (List.replicate (kidsv p.body k).length 2) = (List.range (kidsv p.body k).length).all fun j => decide (kindV m p.vars p.body ((kidsv p.body k).getD j 0) = 2) := by
      simp only [allV, List.length_replicate, decide_true, Bool.true_and]
      rw [Bool.eq_iff_iff]; simp only [List.all_eq_true, List.mem_range, decide_eq_true_eq]
      constructor <;> (intro q j hj; have := q j hj; simpa [hj] using this)
    rcases hloop with ⟨q1, q2⟩ | ⟨i, _, q1, q2, q3, q4⟩
    · have hv : ((List.range (kidsv p.body k).length).all fun j => decide (kindV m p.vars p.body ((kidsv p.body k).getD j 0) = 2)) = true := by rw [List.all_eq_true]; intro i hi; exact q1 i (Nat.zero_le _) (by simpa using hi)
      simp only [cast0] at q2
      rw [hv] at hal
      exact ⟨_, by simp [idx_nodesN _ _ hk, hend, hE', ea, es, hkids, ep, typed_pure, size_pure, kindF_pure, row1, row2, row3, a1, a2, a3, hblk, hq, ruleKind, askV, inner, hal, q2]; rfl⟩
    · have hv : ((List.range (kidsv p.body k).length).all fun j => decide (kindV m p.vars p.body ((kidsv p.body k).getD j 0) = 2)) = false := by
        rw [Bool.eq_false_iff]; intro e; rw [List.all_eq_true] at e
        have := e i (by simpa using q1)
        rw [q2] at this; cases this
      simp only [cast0] at q4
      rw [hv] at hal
      exact ⟨_, by simp [idx_nodesN _ _ hk, hend, hE', ea, es, hkids, ep, typed_pure, size_pure, kindF_pure, row1, row2, row3, a1, a2, a3, hblk, hq, ruleKind, askV, inner, hal, q4]; rfl⟩

theorem refOf_tag21 (m : Nat) (p : Pg) (k : Nat) (hp : p.body.length ≤ 3000000) (hm : 0 < m) (hE : 0 ≤ endv p.body k) (hk : k < p.body.length) (hkm : ∀ j ∈ kidsv p.body k, p.body.length < j.toNat + m) (htg : p.body[k].1 = 21) : ∃ H, textK Try.prog (T09f m) kp_offshootref09_Of ((kidsv p.body k).length + 1) Try.f26 [progD p, iD k] [] = some (iD (kindV (m + 1) p.vars p.body k), H) := by
  rw [sh_offshootref09_Of]
  have hE' : ¬ endv p.body k < 0 := by omega
  have har : 0 ≤ ar p.body[k] := by have := endv_ar p.body k hE; rwa [arAt_in _ _ hk] at this
  have hcount := kids_count p.body k hE hk
  rw [show p.body[k] = (p.body[k].1, p.body[k].2) from rfl] at har hcount
  have hkl := kidsv_len p.body k
  have hkind := kind_all m p k hE hk
  have hend := refEnd_pure p.body k hp
  have hkids := refKids_pure p.body k hp
  have ea : ∀ o : HO, allocH 39 [iD 0, iD 0] [o] = some (.hp 1 0, [o, .cells 39 2 [iD 0, iD 0]]) := fun o => rfl
  have es : ∀ o : HO, setH 2 (.hp 1 0) (.agg (nodeD p.body[k])) [o, .cells 39 2 [iD 0, iD 0]] = some (.v undef, [o, .cells 39 2 [iD p.body[k].1, iD p.body[k].2]]) := fun o => rfl
  have ep : D.agg [iD p.params, intsD p.vars, nodesD p.body] = progD p := rfl
  have hkid : ∀ j ∈ kidsv p.body k, 0 ≤ j ∧ j.toNat < p.body.length := fun j hj => by
    obtain ⟨c, hc, e⟩ := List.getElem_of_mem hj
    have := kid_facts p.body k c hc
    rw [e] at this
    exact ⟨by omega, this.2.2.2⟩
  have hall := all_obj m p (kidsv p.body k) hp (by omega) hm hkm
  have hblk := blocks_pure p (kidsv p.body k) (by omega) hkid
  have hloop := blk_loop m p (.cells 39 2 [iD p.body[k].1, iD p.body[k].2]) (kidsv p.body k) hp hm hkl hkm ((kidsv p.body k).length + 1) (by omega)
  have hti : ∀ t, p.body[k].1 = t → inner p.body[k].1 = inner t := fun t e => by rw [e]
  rw [htg] at *
  generalize hnn : p.body[k].2 = nn at *
  have a1 : ∀ (o1 o2 : HO) (a : Int), liftF (F_all m) [progD p, intsD (kidsv p.body k), .hs 2 1] [o1, o2, .cells 3 1 [iD a]] = some (bD (allV m p (kidsv p.body k) [a]), [o1, o2, .cells 3 1 [iD a]]) := fun o1 o2 a => hall _ 2 3 [a] rfl
  have a2 : ∀ (o1 o2 : HO) (a b : Int), liftF (F_all m) [progD p, intsD (kidsv p.body k), .hs 2 2] [o1, o2, .cells 3 1 [iD a, iD b]] = some (bD (allV m p (kidsv p.body k) [a, b]), [o1, o2, .cells 3 1 [iD a, iD b]]) := fun o1 o2 a b => hall _ 2 3 [a, b] rfl
  have a3 : ∀ (o1 o2 : HO) (a b c : Int), liftF (F_all m) [progD p, intsD (kidsv p.body k), .hs 2 3] [o1, o2, .cells 3 1 [iD a, iD b, iD c]] = some (bD (allV m p (kidsv p.body k) [a, b, c]), [o1, o2, .cells 3 1 [iD a, iD b, iD c]]) := fun o1 o2 a b c => hall _ 2 3 [a, b, c] rfl
  · skip
    have hq := hkind (.scalar true) rfl
    have h0n : 0 ≤ nn := by have : nn < 0 → ar (21, nn) < 0 := (fun h => by unfold ar lim; simp [h]); omega
    have hin : typedV p.vars nn ≠ -1 → nn.toNat < p.vars.length ∧ p.vars.getD nn.toNat 0 = typedV p.vars nn := fun h => by
      by_cases hl : nn.toNat < p.vars.length
      · exact ⟨hl, by rw [typed_in h0n hl, getD_in _ _ _ hl]⟩
      · exact absurd (typed_out h0n (by omega)) h
    by_cases h0 : typedV p.vars nn = 0
    · obtain ⟨hi1, hi2⟩ := hin (by omega)
      have hask : askV p.vars p.body[k] (kidsv p.body k).length (.scalar true) = [0] := by simp only [askV, hnn, hi1, if_true, hi2, h0]
      rw [hask] at hq
      cases hv : allV m p (kidsv p.body k) [0] <;> exact ⟨_, by simp [idx_nodesN _ _ hk, hend, hE', ea, es, hkids, ep, typed_pure, size_pure, kindF_pure, row1, row2, row3, a1, a2, a3, hblk, hq, ruleKind, scalarKindV, inner, h0, hv, hnn]; rfl⟩
    by_cases h1 : typedV p.vars nn = 1
    · obtain ⟨hi1, hi2⟩ := hin (by omega)
      have hask : askV p.vars p.body[k] (kidsv p.body k).length (.scalar true) = [1] := by simp only [askV, hnn, hi1, if_true, hi2, h1]
      rw [hask] at hq
      cases hv : allV m p (kidsv p.body k) [1] <;> exact ⟨_, by simp [idx_nodesN _ _ hk, hend, hE', ea, es, hkids, ep, typed_pure, size_pure, kindF_pure, row1, row2, row3, a1, a2, a3, hblk, hq, ruleKind, scalarKindV, inner, h1, hv, hnn]; rfl⟩
    exact ⟨_, by simp [idx_nodesN _ _ hk, hend, hE', ea, es, hkids, ep, typed_pure, size_pure, kindF_pure, row1, row2, row3, a1, a2, a3, hblk, hq, ruleKind, scalarKindV, h0, h1, hnn]; rfl⟩

theorem refOf_tag22 (m : Nat) (p : Pg) (k : Nat) (hp : p.body.length ≤ 3000000) (hm : 0 < m) (hE : 0 ≤ endv p.body k) (hk : k < p.body.length) (hkm : ∀ j ∈ kidsv p.body k, p.body.length < j.toNat + m) (htg : p.body[k].1 = 22) : ∃ H, textK Try.prog (T09f m) kp_offshootref09_Of ((kidsv p.body k).length + 1) Try.f26 [progD p, iD k] [] = some (iD (kindV (m + 1) p.vars p.body k), H) := by
  rw [sh_offshootref09_Of]
  have hE' : ¬ endv p.body k < 0 := by omega
  have har : 0 ≤ ar p.body[k] := by have := endv_ar p.body k hE; rwa [arAt_in _ _ hk] at this
  have hcount := kids_count p.body k hE hk
  rw [show p.body[k] = (p.body[k].1, p.body[k].2) from rfl] at har hcount
  have hkl := kidsv_len p.body k
  have hkind := kind_all m p k hE hk
  have hend := refEnd_pure p.body k hp
  have hkids := refKids_pure p.body k hp
  have ea : ∀ o : HO, allocH 39 [iD 0, iD 0] [o] = some (.hp 1 0, [o, .cells 39 2 [iD 0, iD 0]]) := fun o => rfl
  have es : ∀ o : HO, setH 2 (.hp 1 0) (.agg (nodeD p.body[k])) [o, .cells 39 2 [iD 0, iD 0]] = some (.v undef, [o, .cells 39 2 [iD p.body[k].1, iD p.body[k].2]]) := fun o => rfl
  have ep : D.agg [iD p.params, intsD p.vars, nodesD p.body] = progD p := rfl
  have hkid : ∀ j ∈ kidsv p.body k, 0 ≤ j ∧ j.toNat < p.body.length := fun j hj => by
    obtain ⟨c, hc, e⟩ := List.getElem_of_mem hj
    have := kid_facts p.body k c hc
    rw [e] at this
    exact ⟨by omega, this.2.2.2⟩
  have hall := all_obj m p (kidsv p.body k) hp (by omega) hm hkm
  have hblk := blocks_pure p (kidsv p.body k) (by omega) hkid
  have hloop := blk_loop m p (.cells 39 2 [iD p.body[k].1, iD p.body[k].2]) (kidsv p.body k) hp hm hkl hkm ((kidsv p.body k).length + 1) (by omega)
  have hti : ∀ t, p.body[k].1 = t → inner p.body[k].1 = inner t := fun t e => by rw [e]
  rw [htg] at *
  generalize hnn : p.body[k].2 = nn at *
  have a1 : ∀ (o1 o2 : HO) (a : Int), liftF (F_all m) [progD p, intsD (kidsv p.body k), .hs 2 1] [o1, o2, .cells 3 1 [iD a]] = some (bD (allV m p (kidsv p.body k) [a]), [o1, o2, .cells 3 1 [iD a]]) := fun o1 o2 a => hall _ 2 3 [a] rfl
  have a2 : ∀ (o1 o2 : HO) (a b : Int), liftF (F_all m) [progD p, intsD (kidsv p.body k), .hs 2 2] [o1, o2, .cells 3 1 [iD a, iD b]] = some (bD (allV m p (kidsv p.body k) [a, b]), [o1, o2, .cells 3 1 [iD a, iD b]]) := fun o1 o2 a b => hall _ 2 3 [a, b] rfl
  have a3 : ∀ (o1 o2 : HO) (a b c : Int), liftF (F_all m) [progD p, intsD (kidsv p.body k), .hs 2 3] [o1, o2, .cells 3 1 [iD a, iD b, iD c]] = some (bD (allV m p (kidsv p.body k) [a, b, c]), [o1, o2, .cells 3 1 [iD a, iD b, iD c]]) := fun o1 o2 a b c => hall _ 2 3 [a, b, c] rfl
  · skip
    have hq := hkind (.array [0, 0] 2) rfl
    by_cases hs : sizeV (typedV p.vars nn) = 0
    · exact ⟨_, by simp [idx_nodesN _ _ hk, hend, hE', ea, es, hkids, ep, typed_pure, size_pure, kindF_pure, row1, row2, row3, a1, a2, a3, hblk, hq, ruleKind, arrayKindV, hs, hnn]; rfl⟩
    · have hs2 := sizeV_pos _ hs
      cases hv : allV m p (kidsv p.body k) [0, 0] <;> exact ⟨_, by simp [idx_nodesN _ _ hk, hend, hE', ea, es, hkids, ep, typed_pure, size_pure, kindF_pure, row1, row2, row3, a1, a2, a3, hblk, hq, ruleKind, arrayKindV, askV, inner, hs, hs2, hv, hnn]; rfl⟩

theorem refOf_tag23 (m : Nat) (p : Pg) (k : Nat) (hp : p.body.length ≤ 3000000) (hm : 0 < m) (hE : 0 ≤ endv p.body k) (hk : k < p.body.length) (hkm : ∀ j ∈ kidsv p.body k, p.body.length < j.toNat + m) (htg : p.body[k].1 = 23) : ∃ H, textK Try.prog (T09f m) kp_offshootref09_Of ((kidsv p.body k).length + 1) Try.f26 [progD p, iD k] [] = some (iD (kindV (m + 1) p.vars p.body k), H) := by
  rw [sh_offshootref09_Of]
  have hE' : ¬ endv p.body k < 0 := by omega
  have har : 0 ≤ ar p.body[k] := by have := endv_ar p.body k hE; rwa [arAt_in _ _ hk] at this
  have hcount := kids_count p.body k hE hk
  rw [show p.body[k] = (p.body[k].1, p.body[k].2) from rfl] at har hcount
  have hkl := kidsv_len p.body k
  have hkind := kind_all m p k hE hk
  have hend := refEnd_pure p.body k hp
  have hkids := refKids_pure p.body k hp
  have ea : ∀ o : HO, allocH 39 [iD 0, iD 0] [o] = some (.hp 1 0, [o, .cells 39 2 [iD 0, iD 0]]) := fun o => rfl
  have es : ∀ o : HO, setH 2 (.hp 1 0) (.agg (nodeD p.body[k])) [o, .cells 39 2 [iD 0, iD 0]] = some (.v undef, [o, .cells 39 2 [iD p.body[k].1, iD p.body[k].2]]) := fun o => rfl
  have ep : D.agg [iD p.params, intsD p.vars, nodesD p.body] = progD p := rfl
  have hkid : ∀ j ∈ kidsv p.body k, 0 ≤ j ∧ j.toNat < p.body.length := fun j hj => by
    obtain ⟨c, hc, e⟩ := List.getElem_of_mem hj
    have := kid_facts p.body k c hc
    rw [e] at this
    exact ⟨by omega, this.2.2.2⟩
  have hall := all_obj m p (kidsv p.body k) hp (by omega) hm hkm
  have hblk := blocks_pure p (kidsv p.body k) (by omega) hkid
  have hloop := blk_loop m p (.cells 39 2 [iD p.body[k].1, iD p.body[k].2]) (kidsv p.body k) hp hm hkl hkm ((kidsv p.body k).length + 1) (by omega)
  have hti : ∀ t, p.body[k].1 = t → inner p.body[k].1 = inner t := fun t e => by rw [e]
  rw [htg] at *
  generalize hnn : p.body[k].2 = nn at *
  have a1 : ∀ (o1 o2 : HO) (a : Int), liftF (F_all m) [progD p, intsD (kidsv p.body k), .hs 2 1] [o1, o2, .cells 3 1 [iD a]] = some (bD (allV m p (kidsv p.body k) [a]), [o1, o2, .cells 3 1 [iD a]]) := fun o1 o2 a => hall _ 2 3 [a] rfl
  have a2 : ∀ (o1 o2 : HO) (a b : Int), liftF (F_all m) [progD p, intsD (kidsv p.body k), .hs 2 2] [o1, o2, .cells 3 1 [iD a, iD b]] = some (bD (allV m p (kidsv p.body k) [a, b]), [o1, o2, .cells 3 1 [iD a, iD b]]) := fun o1 o2 a b => hall _ 2 3 [a, b] rfl
  have a3 : ∀ (o1 o2 : HO) (a b c : Int), liftF (F_all m) [progD p, intsD (kidsv p.body k), .hs 2 3] [o1, o2, .cells 3 1 [iD a, iD b, iD c]] = some (bD (allV m p (kidsv p.body k) [a, b, c]), [o1, o2, .cells 3 1 [iD a, iD b, iD c]]) := fun o1 o2 a b c => hall _ 2 3 [a, b, c] rfl
  · skip
    have hq := hkind (.plain [1, 2, 2] 2) rfl
    cases hv : allV m p (kidsv p.body k) [1, 2, 2] <;> cases hb : blkV p.body (kidsv p.body k) 1 <;> exact ⟨_, by simp [idx_nodesN _ _ hk, hend, hE', ea, es, hkids, ep, typed_pure, size_pure, kindF_pure, row1, row2, row3, a1, a2, a3, hblk, hq, ruleKind, askV, inner, hv, hb]; rfl⟩

theorem refOf_tag24 (m : Nat) (p : Pg) (k : Nat) (hp : p.body.length ≤ 3000000) (hm : 0 < m) (hE : 0 ≤ endv p.body k) (hk : k < p.body.length) (hkm : ∀ j ∈ kidsv p.body k, p.body.length < j.toNat + m) (htg : p.body[k].1 = 24) : ∃ H, textK Try.prog (T09f m) kp_offshootref09_Of ((kidsv p.body k).length + 1) Try.f26 [progD p, iD k] [] = some (iD (kindV (m + 1) p.vars p.body k), H) := by
  rw [sh_offshootref09_Of]
  have hE' : ¬ endv p.body k < 0 := by omega
  have har : 0 ≤ ar p.body[k] := by have := endv_ar p.body k hE; rwa [arAt_in _ _ hk] at this
  have hcount := kids_count p.body k hE hk
  rw [show p.body[k] = (p.body[k].1, p.body[k].2) from rfl] at har hcount
  have hkl := kidsv_len p.body k
  have hkind := kind_all m p k hE hk
  have hend := refEnd_pure p.body k hp
  have hkids := refKids_pure p.body k hp
  have ea : ∀ o : HO, allocH 39 [iD 0, iD 0] [o] = some (.hp 1 0, [o, .cells 39 2 [iD 0, iD 0]]) := fun o => rfl
  have es : ∀ o : HO, setH 2 (.hp 1 0) (.agg (nodeD p.body[k])) [o, .cells 39 2 [iD 0, iD 0]] = some (.v undef, [o, .cells 39 2 [iD p.body[k].1, iD p.body[k].2]]) := fun o => rfl
  have ep : D.agg [iD p.params, intsD p.vars, nodesD p.body] = progD p := rfl
  have hkid : ∀ j ∈ kidsv p.body k, 0 ≤ j ∧ j.toNat < p.body.length := fun j hj => by
    obtain ⟨c, hc, e⟩ := List.getElem_of_mem hj
    have := kid_facts p.body k c hc
    rw [e] at this
    exact ⟨by omega, this.2.2.2⟩
  have hall := all_obj m p (kidsv p.body k) hp (by omega) hm hkm
  have hblk := blocks_pure p (kidsv p.body k) (by omega) hkid
  have hloop := blk_loop m p (.cells 39 2 [iD p.body[k].1, iD p.body[k].2]) (kidsv p.body k) hp hm hkl hkm ((kidsv p.body k).length + 1) (by omega)
  have hti : ∀ t, p.body[k].1 = t → inner p.body[k].1 = inner t := fun t e => by rw [e]
  rw [htg] at *
  generalize hnn : p.body[k].2 = nn at *
  have a1 : ∀ (o1 o2 : HO) (a : Int), liftF (F_all m) [progD p, intsD (kidsv p.body k), .hs 2 1] [o1, o2, .cells 3 1 [iD a]] = some (bD (allV m p (kidsv p.body k) [a]), [o1, o2, .cells 3 1 [iD a]]) := fun o1 o2 a => hall _ 2 3 [a] rfl
  have a2 : ∀ (o1 o2 : HO) (a b : Int), liftF (F_all m) [progD p, intsD (kidsv p.body k), .hs 2 2] [o1, o2, .cells 3 1 [iD a, iD b]] = some (bD (allV m p (kidsv p.body k) [a, b]), [o1, o2, .cells 3 1 [iD a, iD b]]) := fun o1 o2 a b => hall _ 2 3 [a, b] rfl
  have a3 : ∀ (o1 o2 : HO) (a b c : Int), liftF (F_all m) [progD p, intsD (kidsv p.body k), .hs 2 3] [o1, o2, .cells 3 1 [iD a, iD b, iD c]] = some (bD (allV m p (kidsv p.body k) [a, b, c]), [o1, o2, .cells 3 1 [iD a, iD b, iD c]]) := fun o1 o2 a b c => hall _ 2 3 [a, b, c] rfl
  · skip
    have hq := hkind (.plain [1, 2] 2) rfl
    cases hv : allV m p (kidsv p.body k) [1, 2] <;> cases hb : blkV p.body (kidsv p.body k) 1 <;> exact ⟨_, by simp [idx_nodesN _ _ hk, hend, hE', ea, es, hkids, ep, typed_pure, size_pure, kindF_pure, row1, row2, row3, a1, a2, a3, hblk, hq, ruleKind, askV, inner, hv, hb]; rfl⟩

theorem refOf_tag25 (m : Nat) (p : Pg) (k : Nat) (hp : p.body.length ≤ 3000000) (hm : 0 < m) (hE : 0 ≤ endv p.body k) (hk : k < p.body.length) (hkm : ∀ j ∈ kidsv p.body k, p.body.length < j.toNat + m) (htg : p.body[k].1 = 25) : ∃ H, textK Try.prog (T09f m) kp_offshootref09_Of ((kidsv p.body k).length + 1) Try.f26 [progD p, iD k] [] = some (iD (kindV (m + 1) p.vars p.body k), H) := by
  rw [sh_offshootref09_Of]
  have hE' : ¬ endv p.body k < 0 := by omega
  have har : 0 ≤ ar p.body[k] := by have := endv_ar p.body k hE; rwa [arAt_in _ _ hk] at this
  have hcount := kids_count p.body k hE hk
  rw [show p.body[k] = (p.body[k].1, p.body[k].2) from rfl] at har hcount
  have hkl := kidsv_len p.body k
  have hkind := kind_all m p k hE hk
  have hend := refEnd_pure p.body k hp
  have hkids := refKids_pure p.body k hp
  have ea : ∀ o : HO, allocH 39 [iD 0, iD 0] [o] = some (.hp 1 0, [o, .cells 39 2 [iD 0, iD 0]]) := fun o => rfl
  have es : ∀ o : HO, setH 2 (.hp 1 0) (.agg (nodeD p.body[k])) [o, .cells 39 2 [iD 0, iD 0]] = some (.v undef, [o, .cells 39 2 [iD p.body[k].1, iD p.body[k].2]]) := fun o => rfl
  have ep : D.agg [iD p.params, intsD p.vars, nodesD p.body] = progD p := rfl
  have hkid : ∀ j ∈ kidsv p.body k, 0 ≤ j ∧ j.toNat < p.body.length := fun j hj => by
    obtain ⟨c, hc, e⟩ := List.getElem_of_mem hj
    have := kid_facts p.body k c hc
    rw [e] at this
    exact ⟨by omega, this.2.2.2⟩
  have hall := all_obj m p (kidsv p.body k) hp (by omega) hm hkm
  have hblk := blocks_pure p (kidsv p.body k) (by omega) hkid
  have hloop := blk_loop m p (.cells 39 2 [iD p.body[k].1, iD p.body[k].2]) (kidsv p.body k) hp hm hkl hkm ((kidsv p.body k).length + 1) (by omega)
  have hti : ∀ t, p.body[k].1 = t → inner p.body[k].1 = inner t := fun t e => by rw [e]
  rw [htg] at *
  generalize hnn : p.body[k].2 = nn at *
  have a1 : ∀ (o1 o2 : HO) (a : Int), liftF (F_all m) [progD p, intsD (kidsv p.body k), .hs 2 1] [o1, o2, .cells 3 1 [iD a]] = some (bD (allV m p (kidsv p.body k) [a]), [o1, o2, .cells 3 1 [iD a]]) := fun o1 o2 a => hall _ 2 3 [a] rfl
  have a2 : ∀ (o1 o2 : HO) (a b : Int), liftF (F_all m) [progD p, intsD (kidsv p.body k), .hs 2 2] [o1, o2, .cells 3 1 [iD a, iD b]] = some (bD (allV m p (kidsv p.body k) [a, b]), [o1, o2, .cells 3 1 [iD a, iD b]]) := fun o1 o2 a b => hall _ 2 3 [a, b] rfl
  have a3 : ∀ (o1 o2 : HO) (a b c : Int), liftF (F_all m) [progD p, intsD (kidsv p.body k), .hs 2 3] [o1, o2, .cells 3 1 [iD a, iD b, iD c]] = some (bD (allV m p (kidsv p.body k) [a, b, c]), [o1, o2, .cells 3 1 [iD a, iD b, iD c]]) := fun o1 o2 a b c => hall _ 2 3 [a, b, c] rfl
  · skip
    have hq := hkind (.plain [0] 2) rfl
    cases hv : allV m p (kidsv p.body k) [0] <;> exact ⟨_, by simp [idx_nodesN _ _ hk, hend, hE', ea, es, hkids, ep, typed_pure, size_pure, kindF_pure, row1, row2, row3, a1, a2, a3, hblk, hq, ruleKind, askV, inner, hv]; rfl⟩

theorem refOf_tag26 (m : Nat) (p : Pg) (k : Nat) (hp : p.body.length ≤ 3000000) (hm : 0 < m) (hE : 0 ≤ endv p.body k) (hk : k < p.body.length) (hkm : ∀ j ∈ kidsv p.body k, p.body.length < j.toNat + m) (htg : p.body[k].1 = 26) : ∃ H, textK Try.prog (T09f m) kp_offshootref09_Of ((kidsv p.body k).length + 1) Try.f26 [progD p, iD k] [] = some (iD (kindV (m + 1) p.vars p.body k), H) := by
  rw [sh_offshootref09_Of]
  have hE' : ¬ endv p.body k < 0 := by omega
  have har : 0 ≤ ar p.body[k] := by have := endv_ar p.body k hE; rwa [arAt_in _ _ hk] at this
  have hcount := kids_count p.body k hE hk
  rw [show p.body[k] = (p.body[k].1, p.body[k].2) from rfl] at har hcount
  have hkl := kidsv_len p.body k
  have hkind := kind_all m p k hE hk
  have hend := refEnd_pure p.body k hp
  have hkids := refKids_pure p.body k hp
  have ea : ∀ o : HO, allocH 39 [iD 0, iD 0] [o] = some (.hp 1 0, [o, .cells 39 2 [iD 0, iD 0]]) := fun o => rfl
  have es : ∀ o : HO, setH 2 (.hp 1 0) (.agg (nodeD p.body[k])) [o, .cells 39 2 [iD 0, iD 0]] = some (.v undef, [o, .cells 39 2 [iD p.body[k].1, iD p.body[k].2]]) := fun o => rfl
  have ep : D.agg [iD p.params, intsD p.vars, nodesD p.body] = progD p := rfl
  have hkid : ∀ j ∈ kidsv p.body k, 0 ≤ j ∧ j.toNat < p.body.length := fun j hj => by
    obtain ⟨c, hc, e⟩ := List.getElem_of_mem hj
    have := kid_facts p.body k c hc
    rw [e] at this
    exact ⟨by omega, this.2.2.2⟩
  have hall := all_obj m p (kidsv p.body k) hp (by omega) hm hkm
  have hblk := blocks_pure p (kidsv p.body k) (by omega) hkid
  have hloop := blk_loop m p (.cells 39 2 [iD p.body[k].1, iD p.body[k].2]) (kidsv p.body k) hp hm hkl hkm ((kidsv p.body k).length + 1) (by omega)
  have hti : ∀ t, p.body[k].1 = t → inner p.body[k].1 = inner t := fun t e => by rw [e]
  rw [htg] at *
  generalize hnn : p.body[k].2 = nn at *
  have a1 : ∀ (o1 o2 : HO) (a : Int), liftF (F_all m) [progD p, intsD (kidsv p.body k), .hs 2 1] [o1, o2, .cells 3 1 [iD a]] = some (bD (allV m p (kidsv p.body k) [a]), [o1, o2, .cells 3 1 [iD a]]) := fun o1 o2 a => hall _ 2 3 [a] rfl
  have a2 : ∀ (o1 o2 : HO) (a b : Int), liftF (F_all m) [progD p, intsD (kidsv p.body k), .hs 2 2] [o1, o2, .cells 3 1 [iD a, iD b]] = some (bD (allV m p (kidsv p.body k) [a, b]), [o1, o2, .cells 3 1 [iD a, iD b]]) := fun o1 o2 a b => hall _ 2 3 [a, b] rfl
  have a3 : ∀ (o1 o2 : HO) (a b c : Int), liftF (F_all m) [progD p, intsD (kidsv p.body k), .hs 2 3] [o1, o2, .cells 3 1 [iD a, iD b, iD c]] = some (bD (allV m p (kidsv p.body k) [a, b, c]), [o1, o2, .cells 3 1 [iD a, iD b, iD c]]) := fun o1 o2 a b c => hall _ 2 3 [a, b, c] rfl
  · skip
    have hq := hkind (.plain [] 2) rfl
    have hnil : kidsv p.body k = [] := by
      have h0 : ar (26, nn) ≤ 0 := by unfold ar lim; simp; try (split <;> omega)
      apply List.eq_nil_of_length_eq_zero; omega
    rw [hnil] at hq
    exact ⟨_, by simp [idx_nodesN _ _ hk, hend, hE', ea, es, hkids, ep, typed_pure, size_pure, kindF_pure, row1, row2, row3, a1, a2, a3, hblk, hq, ruleKind, askV, inner, allV]; rfl⟩
end Go.Proofs.Ytbnmkdlmalobaaa
end

section
namespace Go.Proofs.Ytbnmkdlmalobaaa
open Go.RowKit
set_option linter.unusedVariables false
set_option linter.unusedSimpArgs false

theorem refOf_text (m : Nat) (p : Pg) (k : Nat) (hp : p.body.length ≤ 3000000) (hm : 0 < m) (hE : 0 ≤ endv p.body k) (hk : k < p.body.length) (hkm : ∀ j ∈ kidsv p.body k, p.body.length < j.toNat + m) :
    ∃ H, textK Try.prog (T09f m) kp_offshootref09_Of ((kidsv p.body k).length + 1) Try.f26 [progD p, iD k] [] = some (iD (kindV (m + 1) p.vars p.body k), H) := by
  have har : 0 ≤ ar p.body[k] := by have := endv_ar p.body k hE; rwa [arAt_in _ _ hk] at this
  have htag := ar_tag _ har
  have hcases : p.body[k].1 = 1 ∨ p.body[k].1 = 2 ∨ p.body[k].1 = 3 ∨ p.body[k].1 = 4 ∨ p.body[k].1 = 5 ∨ p.body[k].1 = 6 ∨ p.body[k].1 = 7 ∨ p.body[k].1 = 8 ∨ p.body[k].1 = 9 ∨ p.body[k].1 = 10 ∨ p.body[k].1 = 11 ∨ p.body[k].1 = 12 ∨ p.body[k].1 = 13 ∨ p.body[k].1 = 14 ∨ p.body[k].1 = 15 ∨ p.body[k].1 = 16 ∨ p.body[k].1 = 17 ∨ p.body[k].1 = 18 ∨ p.body[k].1 = 19 ∨ p.body[k].1 = 20 ∨ p.body[k].1 = 21 ∨ p.body[k].1 = 22 ∨ p.body[k].1 = 23 ∨ p.body[k].1 = 24 ∨ p.body[k].1 = 25 ∨ p.body[k].1 = 26 := by omega
  rcases hcases with h | h | h | h | h | h | h | h | h | h | h | h | h | h | h | h | h | h | h | h | h | h | h | h | h | h
  · exact refOf_tag1 m p k hp hm hE hk hkm h
  · exact refOf_tag2 m p k hp hm hE hk hkm h
  · exact refOf_tag3 m p k hp hm hE hk hkm h
  · exact refOf_tag4 m p k hp hm hE hk hkm h
  · exact refOf_tag5 m p k hp hm hE hk hkm h
  · exact refOf_tag6 m p k hp hm hE hk hkm h
  · exact refOf_tag7 m p k hp hm hE hk hkm h
  · exact refOf_tag8 m p k hp hm hE hk hkm h
  · exact refOf_tag9 m p k hp hm hE hk hkm h
  · exact refOf_tag10 m p k hp hm hE hk hkm h
  · exact refOf_tag11 m p k hp hm hE hk hkm h
  · exact refOf_tag12 m p k hp hm hE hk hkm h
  · exact refOf_tag13 m p k hp hm hE hk hkm h
  · exact refOf_tag14 m p k hp hm hE hk hkm h
  · exact refOf_tag15 m p k hp hm hE hk hkm h
  · exact refOf_tag16 m p k hp hm hE hk hkm h
  · exact refOf_tag17 m p k hp hm hE hk hkm h
  · exact refOf_tag18 m p k hp hm hE hk hkm h
  · exact refOf_tag19 m p k hp hm hE hk hkm h
  · exact refOf_tag20 m p k hp hm hE hk hkm h
  · exact refOf_tag21 m p k hp hm hE hk hkm h
  · exact refOf_tag22 m p k hp hm hE hk hkm h
  · exact refOf_tag23 m p k hp hm hE hk hkm h
  · exact refOf_tag24 m p k hp hm hE hk hkm h
  · exact refOf_tag25 m p k hp hm hE hk hkm h
  · exact refOf_tag26 m p k hp hm hE hk hkm h

theorem C_refOf : ∀ m : Nat, CallOk Try.prog 26 (F_refOf m)
  | 0 => ⟨⟨_, Try.func26, by decide, rfl⟩, fun ds d hF => by
      exfalso
      unfold F_refOf F2 at hF
      split at hF
      · obtain ⟨p, _, hF⟩ := Option.bind_eq_some_iff.1 hF
        obtain ⟨i, _, hF⟩ := Option.bind_eq_some_iff.1 hF
        simp only at hF
        split at hF
        · rename_i hc
          omega
        · cases hF
      · cases hF⟩
  | m + 1 => by
    have hT : TabOk Try.prog (T09f m) := tabOk_of (entries_cons (entry_lift (C_refOf m)) (entries_cons (entry_lift (C_all m (C_refOf m))) fs09d_ok))
    refine call2 (kp := kp_offshootref09_Of) hT mixed Try.func26 (by kernel_rfl) (by decide) fun p i d h => ?_
    split at h
    case isFalse => cases h
    rename_i hc
    obtain ⟨hp, _, hi⟩ := hc
    cases h
    by_cases hE : endv p.body i < 0
    · refine ⟨0, _, ?_, Imp.refl _⟩
      show outD (textK _ _ _ _ _ [progD p, iD i] []) = _
      rw [sh_offshootref09_Of]
      simp [refEnd_pure p.body i hp, hE, kindV]
    · have hE' : 0 ≤ endv p.body i := by omega
      obtain ⟨h0, hil⟩ := endv_in p.body i hE'
      obtain ⟨k, rfl⟩ := Int.eq_ofNat_of_zero_le h0
      have hk : k < p.body.length := by simpa using hil
      have hkm : ∀ j ∈ kidsv p.body k, p.body.length < j.toNat + m := fun j hj => by
        obtain ⟨c, hc, e⟩ := List.getElem_of_mem hj
        have := (kid_facts p.body k c hc).1
        rw [e] at this
        rcases hi with hi | hi
        · omega
        · simp only [Int.toNat_natCast] at hi; omega
      have hm : 0 < m := by
        rcases hi with hi | hi
        · omega
        · simp only [Int.toNat_natCast] at hi; omega
      obtain ⟨H, hH⟩ := refOf_text m p k hp hm hE' hk hkm
      refine ⟨(kidsv p.body k).length + 1, _, ?_, Imp.refl _⟩
      show outD (textK _ _ _ _ _ [progD p, iD (k : Int)] []) = _
      rw [hH]; simp

/-- A node's kind. -/
def knd (p : Pg) (i : Int) : Int := kindV (p.body.length + 1) p.vars p.body i
def F_Of9 : List D → Option D := F2 progT intT fun p i => if p.body.length ≤ 3000000 then some (iD (knd p i)) else none
/-- It makes no difference how deep one may go, if it is deep enough. -/
theorem kindV_deep : ∀ (a b : Nat) (vs : List Int) (l : List Nd) (i : Int), 0 ≤ endv l i → l.length < i.toNat + a → l.length < i.toNat + b → kindV a vs l i = kindV b vs l i
  | 0, b, vs, l, i, h, ha, hb => by have := (endv_in l i h).2; omega
  | a, 0, vs, l, i, h, ha, hb => by have := (endv_in l i h).2; omega
  | a + 1, b + 1, vs, l, i, h, ha, hb => by
    obtain ⟨h0, hil⟩ := endv_in l i h
    obtain ⟨k, rfl⟩ := Int.eq_ofNat_of_zero_le h0
    simp only [Int.toNat_natCast] at ha hb
    have hk : ∀ j, j < (kidsv l k).length → kindV a vs l ((kidsv l k).getD j 0) = kindV b vs l ((kidsv l k).getD j 0) := fun j hj => by
      rw [getD_in _ _ _ hj]
      have := kid_facts l k j hj
      exact kindV_deep a b vs l _ this.2.1 (by omega) (by omega)
    have hall : ∀ f : Nat → Bool, ((List.range (kidsv l k).length).all fun j => decide (kindV a vs l ((kidsv l k).getD j 0) = (askV vs (nodeAt l k) (kidsv l k).length (ruleOf (nodeAt l k).1)).getD j 0) && f j) = ((List.range (kidsv l k).length).all fun j => decide (kindV b vs l ((kidsv l k).getD j 0) = (askV vs (nodeAt l k) (kidsv l k).length (ruleOf (nodeAt l k).1)).getD j 0) && f j) := fun f => by
      rw [Bool.eq_iff_iff]
      simp only [List.all_eq_true, List.mem_range]
      constructor
      · intro q j hj; have := q j hj; rwa [hk j hj] at this
      · intro q j hj; have := q j hj; rwa [hk j hj]
    rw [kindV, kindV, hall]
theorem C_refOf9 : CallOk Try.prog 26 F_Of9 := call_any C_refOf fun ds d hF => by
  unfold F_Of9 F2 at hF
  split at hF
  · obtain ⟨p, h1, hF⟩ := Option.bind_eq_some_iff.1 hF
    obtain ⟨i, h2, hF⟩ := Option.bind_eq_some_iff.1 hF
    simp only at hF
    split at hF
    · rename_i hp
      cases hF
      refine ⟨p.body.length + 1, ?_⟩
      simp only [F_refOf, F2, h1, h2, Option.bind_some]
      rw [if_pos ⟨hp, by omega, .inr (by omega)⟩]
      rfl
    · cases hF
  · cases hF
def F_ofAll : List D → Option D := F2 chkT intT fun p i => if ofOk p i then some (iD (knd p i)) else none
theorem C_ofAll : CallOk Try.prog 44 F_ofAll := call_any C_of fun ds d hF => by
  unfold F_ofAll F2 at hF
  split at hF
  · obtain ⟨p, h1, hF⟩ := Option.bind_eq_some_iff.1 hF
    obtain ⟨i, h2, hF⟩ := Option.bind_eq_some_iff.1 hF
    simp only at hF
    split at hF
    · rename_i hp
      cases hF
      refine ⟨p.body.length + 1, ?_⟩
      simp only [F_of, F2, h1, h2, Option.bind_some]
      rw [if_pos]
      · rfl
      · simp only [hp, Bool.true_and, decide_eq_true_eq]; omega
    · cases hF
  · cases hF
def fs09h : List Entry := (26, true, liftF F_Of9) :: (44, true, liftF F_ofAll) :: fs09d
theorem fs09h_ok : ∀ p ∈ fs09h, EntryOk Try.prog p := entries_cons (entry_lift C_refOf9) <| entries_cons (entry_lift C_ofAll) <| fs09d_ok
def T09h : Tab := ⟨fs09h, noYl⟩
theorem T09h_ok : TabOk Try.prog T09h := tabOk_of fs09h_ok
end Go.Proofs.Ytbnmkdlmalobaaa
end

section
namespace Go.Proofs.Ytbnmkdlmalobaaa
open Go.RowKit
set_option linter.unusedVariables false
set_option maxRecDepth 100000

def kp_kinds_Of : List Nat := []
theorem sh_kinds_Of (n : Nat) (x0 x1 : D) (h : Heap) : textK Try.prog T09h kp_kinds_Of n Try.f25 [x0, x1] h =
(thnH (boxH 25 x0 h) fun y0 h1 =>
thn (fieldAtH 2 y0) fun y2 =>
thn (loadH none h1 y2) fun y3 =>
thnH (liftF F_End [y3, x1] h1) fun y4 h5 =>
thn (binK .int .lss y4 (iD 0)) fun y6 =>
condK y6
(some ((iD (-1)), h5))
(thn (loadH (some 3) h5 y0) fun y7 =>
thnH (liftF F_rules [] h5) fun y8 h9 =>
thn (buildR [(0, 3), (3, 1)] [(iD 0), (.v (.slice none 0 0)), (.v (.slice none 0 0)), (.v (.map none))] [(0, y7), (1, y8)]) fun y10 =>
thnH (liftF F_ofAll [y10, x1] h9) fun y11 h12 =>
some (y11, h12))) := by kernel_rfl

end Go.Proofs.Ytbnmkdlmalobaaa
end

section
namespace Go.Proofs.Ytbnmkdlmalobaaa
open Go.RowKit
set_option linter.unusedVariables false
set_option linter.unusedSimpArgs false

theorem knd_no {p : Pg} {i : Int} (h : endv p.body i < 0) : knd p i = -1 := by rw [knd, kindV, if_pos h]
theorem rules_pure (H : Heap) : liftF F_rules [] H = some (rulesD, H) := by rw [liftF_pure _ _ _ rfl]; rfl
theorem ofAll_pure (p : Pg) (i : Int) (h : ofOk p i = true) (H : Heap) : liftF F_ofAll [.agg (chkC p), iD i] H = some (iD (knd p i), H) := by
  rw [liftF_pure _ _ _ rfl]
  have : F_ofAll [.agg (chkC p), iD i] = _ := f2_enc (A := chkT) (B := intT) _ p i
  rw [this, if_pos h]; rfl
theorem C_Of9 : CallOk Try.prog 25 F_Of9 := call2 (kp := kp_kinds_Of) T09h_ok mixed Try.func25 (by kernel_rfl) (by decide) fun p i d h => by
  split at h
  case isFalse => cases h
  rename_i hp
  cases h
  refine ⟨0, _, ?_, Imp.refl _⟩
  show outD (textK _ _ _ _ _ [progD p, iD i] []) = _
  rw [sh_kinds_Of]
  by_cases hE : endv p.body i < 0
  · simp [end_pure p.body i hp, hE, knd_no hE]
  · have hb : buildR [(0, 3), (3, 1)] [iD 0, .v (.slice none 0 0), .v (.slice none 0 0), .v (.map none)] [(0, .agg [iD p.params, intsD p.vars, nodesD p.body]), (1, rulesD)] = some (.agg (chkC p)) := rfl
    have hok : ofOk p i = true := by simp only [ofOk, decide_eq_true_eq]; omega
    simp [end_pure p.body i hp, hE, rules_pure, hb, ofAll_pure p i hok]

def fs09j : List Entry := (25, true, liftF F_Of9) :: fs09h
theorem fs09j_ok : ∀ p ∈ fs09j, EntryOk Try.prog p := entries_cons (entry_lift C_Of9) <| fs09h_ok
def T09j : Tab := ⟨fs09j, noYl⟩
theorem T09j_ok : TabOk Try.prog T09j := tabOk_of fs09j_ok
end Go.Proofs.Ytbnmkdlmalobaaa
end

section
namespace Go.Proofs.Ytbnmkdlmalobaaa
open Go.RowKit
set_option linter.unusedVariables false
set_option maxRecDepth 100000

def kp_kinds_Check : List Nat := []
theorem sh_kinds_Check (n : Nat) (x0 : D) (h : Heap) : textK Try.prog T09j kp_kinds_Check n Try.f18 [x0] h =
(thnH (boxH 25 x0 h) fun y0 h1 =>
thn (fieldAtH 2 y0) fun y2 =>
thn (loadH none h1 y2) fun y3 =>
thnH (liftF F_Check [y3] h1) fun y4 h5 =>
thn (binK .int .neq y4 (iD 0)) fun y6 =>
condK y6
(some (y4, h5))
(thn (loadH (some 3) h5 y0) fun y7 =>
thnH (liftF F_Vars [y7] h5) fun y8 h9 =>
thn (binK .int .neq y8 (iD 0)) fun y10 =>
condK y10
(some (y8, h9))
(thn (fieldAtH 2 y0) fun y11 =>
thn (loadH none h9 y11) fun y12 =>
thn (idxH 2 y12 (iD 0)) fun y13 =>
thn (fieldAtH 0 y13) fun y14 =>
thn (loadH none h9 y14) fun y15 =>
thn (binK .int .neq y15 (iD 20)) fun y16 =>
condK y16
(some ((iD 15), h9))
(thn (loadH (some 3) h9 y0) fun y17 =>
thnH (liftF F_Of9 [y17, (iD 0)] h9) fun y18 h19 =>
thn (binK .int .neq y18 (iD 2)) fun y20 =>
condK y20
(some ((iD 15), h19))
(some ((iD 0), h19)))))) := by kernel_rfl

def kp_offshootref09_Check : List Nat := []
theorem sh_offshootref09_Check (n : Nat) (x0 : D) (h : Heap) : textK Try.prog T09j kp_offshootref09_Check n Try.f19 [x0] h =
(thnH (boxH 25 x0 h) fun y0 h1 =>
thn (fieldAtH 2 y0) fun y2 =>
thn (loadH none h1 y2) fun y3 =>
thnH (liftF F_RefCheck [y3] h1) fun y4 h5 =>
thn (binK .int .neq y4 (iD 0)) fun y6 =>
condK y6
(some (y4, h5))
(thn (loadH (some 3) h5 y0) fun y7 =>
thnH (liftF F_Vars [y7] h5) fun y8 h9 =>
thn (binK .int .neq y8 (iD 0)) fun y10 =>
condK y10
(some (y8, h9))
(thn (fieldAtH 2 y0) fun y11 =>
thn (loadH none h9 y11) fun y12 =>
thn (idxH 2 y12 (iD 0)) fun y13 =>
thn (fieldAtH 0 y13) fun y14 =>
thn (loadH none h9 y14) fun y15 =>
thn (binK .int .neq y15 (iD 20)) fun y16 =>
condK y16
(some ((iD 15), h9))
(thn (loadH (some 3) h9 y0) fun y17 =>
thnH (liftF F_Of9 [y17, (iD 0)] h9) fun y18 h19 =>
thn (binK .int .neq y18 (iD 2)) fun y20 =>
condK y20
(some ((iD 15), h19))
(some ((iD 0), h19)))))) := by kernel_rfl

end Go.Proofs.Ytbnmkdlmalobaaa
end

section
namespace Go.Proofs.Ytbnmkdlmalobaaa
open Go.RowKit
set_option linter.unusedVariables false
set_option linter.unusedSimpArgs false

/-- Is a program typed? -/
def chk9 (p : Pg) : Int :=
  if checkV p.body ≠ 0 then checkV p.body else
  if varsV p ≠ 0 then varsV p else
  if (nodeAt p.body 0).1 ≠ 20 ∨ knd p 0 ≠ 2 then 15 else 0
def F_Check9 : List D → Option D := F1 progT fun p => if p.body.length ≤ 3000000 then some (iD (chk9 p)) else none
theorem check_pure (l : List Nd) (h : l.length ≤ 3000000) (H : Heap) : liftF F_Check [nodesD l] H = some (iD (checkV l), H) := by
  rw [liftF_pure _ _ _ rfl]; simp [F_Check, h]
theorem refCheck_pure (l : List Nd) (h : l.length ≤ 3000000) (H : Heap) : liftF F_RefCheck [nodesD l] H = some (iD (checkV l), H) := by
  rw [liftF_pure _ _ _ rfl]; simp [F_RefCheck, h]
theorem vars_pure (p : Pg) (H : Heap) : liftF F_Vars [progD p] H = some (iD (varsV p), H) := by
  rw [liftF_pure _ _ _ rfl]
  have : F_Vars [progD p] = _ := f1_enc (A := progT) _ p
  rw [this]; rfl
theorem of9_pure (p : Pg) (i : Int) (h : p.body.length ≤ 3000000) (H : Heap) : liftF F_Of9 [progD p, iD i] H = some (iD (knd p i), H) := by
  rw [liftF_pure _ _ _ rfl]
  have : F_Of9 [progD p, iD i] = _ := f2_enc (A := progT) (B := intT) _ p i
  rw [this, if_pos h]; rfl
theorem check_pos {l : List Nd} (h : checkV l = 0) : 0 < l.length := by
  unfold checkV at h
  split at h
  · cases h
  · omega
theorem C_Check9 : CallOk Try.prog 18 F_Check9 := call1 (kp := kp_kinds_Check) T09j_ok mixed Try.func18 (by kernel_rfl) (by decide) fun p d h => by
  split at h
  case isFalse => cases h
  rename_i hp
  cases h
  refine ⟨0, _, ?_, Imp.refl _⟩
  show outD (textK _ _ _ _ _ [progD p] []) = _
  rw [sh_kinds_Check]
  have ep : D.agg [iD p.params, intsD p.vars, nodesD p.body] = progD p := rfl
  unfold chk9
  by_cases h1 : checkV p.body = 0
  · by_cases h2 : varsV p = 0
    · have h0 := check_pos h1
      have hn : nodeAt p.body 0 = p.body[0] := by unfold nodeAt; exact getD_in _ 0 _ h0
      have hi := idx_nodesN p.body 0 h0
      simp only [cast0] at hi
      by_cases h3 : (p.body[0]).1 = 20
      · by_cases h4 : knd p 0 = 2
        · simp [check_pure _ hp, h1, vars_pure, h2, hn, hi, h3, of9_pure p 0 hp, h4, ep]
        · simp [check_pure _ hp, h1, vars_pure, h2, hn, hi, h3, of9_pure p 0 hp, h4, ep]
      · simp [check_pure _ hp, h1, vars_pure, h2, hn, hi, h3, ep]
    · simp [check_pure _ hp, h1, vars_pure, h2, ep]
  · simp [check_pure _ hp, h1]
theorem C_RefCheck9 : CallOk Try.prog 19 F_Check9 := call1 (kp := kp_offshootref09_Check) T09j_ok mixed Try.func19 (by kernel_rfl) (by decide) fun p d h => by
  split at h
  case isFalse => cases h
  rename_i hp
  cases h
  refine ⟨0, _, ?_, Imp.refl _⟩
  show outD (textK _ _ _ _ _ [progD p] []) = _
  rw [sh_offshootref09_Check]
  have ep : D.agg [iD p.params, intsD p.vars, nodesD p.body] = progD p := rfl
  unfold chk9
  by_cases h1 : checkV p.body = 0
  · by_cases h2 : varsV p = 0
    · have h0 := check_pos h1
      have hn : nodeAt p.body 0 = p.body[0] := by unfold nodeAt; exact getD_in _ 0 _ h0
      have hi := idx_nodesN p.body 0 h0
      simp only [cast0] at hi
      by_cases h3 : (p.body[0]).1 = 20
      · by_cases h4 : knd p 0 = 2
        · simp [refCheck_pure _ hp, h1, vars_pure, h2, hn, hi, h3, of9_pure p 0 hp, h4, ep]
        · simp [refCheck_pure _ hp, h1, vars_pure, h2, hn, hi, h3, of9_pure p 0 hp, h4, ep]
      · simp [refCheck_pure _ hp, h1, vars_pure, h2, hn, hi, h3, ep]
    · simp [refCheck_pure _ hp, h1, vars_pure, h2, ep]
  · simp [refCheck_pure _ hp, h1]
def fs09k : List Entry := (18, true, liftF F_Check9) :: (19, true, liftF F_Check9) :: fs09j
theorem fs09k_ok : ∀ p ∈ fs09k, EntryOk Try.prog p := entries_cons (entry_lift C_Check9) <| entries_cons (entry_lift C_RefCheck9) <| fs09j_ok
def T09k : Tab := ⟨fs09k, noYl⟩
theorem T09k_ok : TabOk Try.prog T09k := tabOk_of fs09k_ok

/-- A function without parameters that gives true. -/
def F_true : List D → Option D := F0 (some (bD true))
theorem works09 : outD (textK Try.prog T09k [] 20 Try.f15 [] []) = some (bD true) := by kernel_rfl
theorem C_works09 : CallOk Try.prog 15 F_true := call0 (kp := []) T09k_ok mixed Try.func15 (by kernel_rfl) (by decide) fun d h => by
  cases h
  exact ⟨20, _, works09, Imp.refl _⟩
def fsL09 : List Entry := (15, true, liftF F_true) :: fs09k
theorem fsL09_ok : ∀ p ∈ fsL09, EntryOk Try.prog p := entries_cons (entry_lift C_works09) <| fs09k_ok
def L09 : Tab := ⟨fsL09, noYl⟩
theorem L09_ok : TabOk Try.prog L09 := tabOk_of fsL09_ok
end Go.Proofs.Ytbnmkdlmalobaaa
end
