import Derived.Test.YtinnbafplhcnpaaGreatHg
import Derived.Test.YtinnbafplhcnpaaGreatHj
import Derived.Test.YtinnbafplhcnpaaGreatHn
import Derived.Test.YtinnbafplhcnpaaGreatHo
section
namespace Go.Proofs.YtinnbafplhcnpaaGreat
open Go.RowKit
set_option linter.unusedVariables false
set_option linter.unusedSimpArgs false
set_option maxHeartbeats 1000000
theorem Qci (m : Nat) (p : Pg) (k : Nat) (hp : p.body.length <= 3000000) (hm : 0 < m) (hE : 0 <= endv p.body k) (hk : k < p.body.length) (hkm : ∀ j ∈ Jab p.body k, p.body.length < j.toNat + m) (htg : p.body[k].1 = 15) : ∃ H, Jap Tryz.prog (T09f m) Jam ((Jab p.body k).length + 1) Tryz.f59 [Jak p, iD k] [] = some (iD (Jcp (m + 1) p.vars p.body k), H) := by
  rw [Jao]
  have hE' : ¬ endv p.body k < 0 := by omega
  have har : 0 <= ar p.body[k] := by have := Jck p.body k hE; rwa [Jb1 _ _ hk] at this
  have hcount := Jbq p.body k hE hk
  rw [show p.body[k] = (p.body[k].1, p.body[k].2) from rfl] at har hcount
  have hkl := Jbn p.body k
  have hkind := Jcl m p k hE hk
  have hend := Ja9 p.body k hp
  have hkids := Ja1 p.body k hp
  have ea : ∀ o : HO, Jaz 54 [iD 0, iD 0] [o] = some (.hp 1 0, [o, .cells 54 2 [iD 0, iD 0]]) := fun o => rfl
  have es : ∀ o : HO, setH 2 (.hp 1 0) (.agg (Jax p.body[k])) [o, .cells 54 2 [iD 0, iD 0]] = some (.v undef, [o, .cells 54 2 [iD p.body[k].1, iD p.body[k].2]]) := fun o => rfl
  have ep : D.agg [iD p.params, Jag p.vars, Jaf p.body] = Jak p := rfl
  have hkid : ∀ j ∈ Jab p.body k, 0 <= j /\ j.toNat < p.body.length := fun j hj => by
    obtain ⟨c, hc, e⟩ := List.getElem_of_mem hj
    have := Jbc p.body k c hc
    rw [e] at this
    exact ⟨by omega, this.2.2.2⟩
  have hall := Jda m p (Jab p.body k) hp (by omega) hm hkm
  have hblk := Jbf p (Jab p.body k) (by omega) hkid
  have hloop := Jcm m p (.cells 54 2 [iD p.body[k].1, iD p.body[k].2]) (Jab p.body k) hp hm hkl hkm ((Jab p.body k).length + 1) (by omega)
  have hti : ∀ t, p.body[k].1 = t -> inner p.body[k].1 = inner t := fun t e => by rw [e]
  rw [htg] at *
  generalize hnn : p.body[k].2 = nn at *
  have a1 : ∀ (o1 o2 : HO) (a : Int), Jae (Jbi m) [Jak p, Jag (Jab p.body k), .hs 2 1] [o1, o2, .cells 3 1 [iD a]] = some (bD (allV m p (Jab p.body k) [a]), [o1, o2, .cells 3 1 [iD a]]) := fun o1 o2 a => hall _ 2 3 [a] rfl
  have a2 : ∀ (o1 o2 : HO) (a b : Int), Jae (Jbi m) [Jak p, Jag (Jab p.body k), .hs 2 2] [o1, o2, .cells 3 1 [iD a, iD b]] = some (bD (allV m p (Jab p.body k) [a, b]), [o1, o2, .cells 3 1 [iD a, iD b]]) := fun o1 o2 a b => hall _ 2 3 [a, b] rfl
  have a3 : ∀ (o1 o2 : HO) (a b c : Int), Jae (Jbi m) [Jak p, Jag (Jab p.body k), .hs 2 3] [o1, o2, .cells 3 1 [iD a, iD b, iD c]] = some (bD (allV m p (Jab p.body k) [a, b, c]), [o1, o2, .cells 3 1 [iD a, iD b, iD c]]) := fun o1 o2 a b c => hall _ 2 3 [a, b, c] rfl
  · skip
    have hq := hkind (.plain [0, 0] 1) rfl
    cases hv : allV m p (Jab p.body k) [0, 0] <;> exact ⟨_, by simp [Jav _ _ hk, hend, hE', ea, es, hkids, ep, Ja4, Ja8, Ja5, row1, row2, row3, a1, a2, a3, hblk, hq, Jau, askV, inner, hv]; rfl⟩
theorem Qch (m : Nat) (p : Pg) (k : Nat) (hp : p.body.length <= 3000000) (hm : 0 < m) (hE : 0 <= endv p.body k) (hk : k < p.body.length) (hkm : ∀ j ∈ Jab p.body k, p.body.length < j.toNat + m) (htg : p.body[k].1 = 16) : ∃ H, Jap Tryz.prog (T09f m) Jam ((Jab p.body k).length + 1) Tryz.f59 [Jak p, iD k] [] = some (iD (Jcp (m + 1) p.vars p.body k), H) := by
  rw [Jao]
  have hE' : ¬ endv p.body k < 0 := by omega
  have har : 0 <= ar p.body[k] := by have := Jck p.body k hE; rwa [Jb1 _ _ hk] at this
  have hcount := Jbq p.body k hE hk
  rw [show p.body[k] = (p.body[k].1, p.body[k].2) from rfl] at har hcount
  have hkl := Jbn p.body k
  have hkind := Jcl m p k hE hk
  have hend := Ja9 p.body k hp
  have hkids := Ja1 p.body k hp
  have ea : ∀ o : HO, Jaz 54 [iD 0, iD 0] [o] = some (.hp 1 0, [o, .cells 54 2 [iD 0, iD 0]]) := fun o => rfl
  have es : ∀ o : HO, setH 2 (.hp 1 0) (.agg (Jax p.body[k])) [o, .cells 54 2 [iD 0, iD 0]] = some (.v undef, [o, .cells 54 2 [iD p.body[k].1, iD p.body[k].2]]) := fun o => rfl
  have ep : D.agg [iD p.params, Jag p.vars, Jaf p.body] = Jak p := rfl
  have hkid : ∀ j ∈ Jab p.body k, 0 <= j /\ j.toNat < p.body.length := fun j hj => by
    obtain ⟨c, hc, e⟩ := List.getElem_of_mem hj
    have := Jbc p.body k c hc
    rw [e] at this
    exact ⟨by omega, this.2.2.2⟩
  have hall := Jda m p (Jab p.body k) hp (by omega) hm hkm
  have hblk := Jbf p (Jab p.body k) (by omega) hkid
  have hloop := Jcm m p (.cells 54 2 [iD p.body[k].1, iD p.body[k].2]) (Jab p.body k) hp hm hkl hkm ((Jab p.body k).length + 1) (by omega)
  have hti : ∀ t, p.body[k].1 = t -> inner p.body[k].1 = inner t := fun t e => by rw [e]
  rw [htg] at *
  generalize hnn : p.body[k].2 = nn at *
  have a1 : ∀ (o1 o2 : HO) (a : Int), Jae (Jbi m) [Jak p, Jag (Jab p.body k), .hs 2 1] [o1, o2, .cells 3 1 [iD a]] = some (bD (allV m p (Jab p.body k) [a]), [o1, o2, .cells 3 1 [iD a]]) := fun o1 o2 a => hall _ 2 3 [a] rfl
  have a2 : ∀ (o1 o2 : HO) (a b : Int), Jae (Jbi m) [Jak p, Jag (Jab p.body k), .hs 2 2] [o1, o2, .cells 3 1 [iD a, iD b]] = some (bD (allV m p (Jab p.body k) [a, b]), [o1, o2, .cells 3 1 [iD a, iD b]]) := fun o1 o2 a b => hall _ 2 3 [a, b] rfl
  have a3 : ∀ (o1 o2 : HO) (a b c : Int), Jae (Jbi m) [Jak p, Jag (Jab p.body k), .hs 2 3] [o1, o2, .cells 3 1 [iD a, iD b, iD c]] = some (bD (allV m p (Jab p.body k) [a, b, c]), [o1, o2, .cells 3 1 [iD a, iD b, iD c]]) := fun o1 o2 a b c => hall _ 2 3 [a, b, c] rfl
  · skip
    have hq := hkind (.plain [0, 0] 1) rfl
    cases hv : allV m p (Jab p.body k) [0, 0] <;> exact ⟨_, by simp [Jav _ _ hk, hend, hE', ea, es, hkids, ep, Ja4, Ja8, Ja5, row1, row2, row3, a1, a2, a3, hblk, hq, Jau, askV, inner, hv]; rfl⟩
theorem Qcg (m : Nat) (p : Pg) (k : Nat) (hp : p.body.length <= 3000000) (hm : 0 < m) (hE : 0 <= endv p.body k) (hk : k < p.body.length) (hkm : ∀ j ∈ Jab p.body k, p.body.length < j.toNat + m) (htg : p.body[k].1 = 17) : ∃ H, Jap Tryz.prog (T09f m) Jam ((Jab p.body k).length + 1) Tryz.f59 [Jak p, iD k] [] = some (iD (Jcp (m + 1) p.vars p.body k), H) := by
  rw [Jao]
  have hE' : ¬ endv p.body k < 0 := by omega
  have har : 0 <= ar p.body[k] := by have := Jck p.body k hE; rwa [Jb1 _ _ hk] at this
  have hcount := Jbq p.body k hE hk
  rw [show p.body[k] = (p.body[k].1, p.body[k].2) from rfl] at har hcount
  have hkl := Jbn p.body k
  have hkind := Jcl m p k hE hk
  have hend := Ja9 p.body k hp
  have hkids := Ja1 p.body k hp
  have ea : ∀ o : HO, Jaz 54 [iD 0, iD 0] [o] = some (.hp 1 0, [o, .cells 54 2 [iD 0, iD 0]]) := fun o => rfl
  have es : ∀ o : HO, setH 2 (.hp 1 0) (.agg (Jax p.body[k])) [o, .cells 54 2 [iD 0, iD 0]] = some (.v undef, [o, .cells 54 2 [iD p.body[k].1, iD p.body[k].2]]) := fun o => rfl
  have ep : D.agg [iD p.params, Jag p.vars, Jaf p.body] = Jak p := rfl
  have hkid : ∀ j ∈ Jab p.body k, 0 <= j /\ j.toNat < p.body.length := fun j hj => by
    obtain ⟨c, hc, e⟩ := List.getElem_of_mem hj
    have := Jbc p.body k c hc
    rw [e] at this
    exact ⟨by omega, this.2.2.2⟩
  have hall := Jda m p (Jab p.body k) hp (by omega) hm hkm
  have hblk := Jbf p (Jab p.body k) (by omega) hkid
  have hloop := Jcm m p (.cells 54 2 [iD p.body[k].1, iD p.body[k].2]) (Jab p.body k) hp hm hkl hkm ((Jab p.body k).length + 1) (by omega)
  have hti : ∀ t, p.body[k].1 = t -> inner p.body[k].1 = inner t := fun t e => by rw [e]
  rw [htg] at *
  generalize hnn : p.body[k].2 = nn at *
  have a1 : ∀ (o1 o2 : HO) (a : Int), Jae (Jbi m) [Jak p, Jag (Jab p.body k), .hs 2 1] [o1, o2, .cells 3 1 [iD a]] = some (bD (allV m p (Jab p.body k) [a]), [o1, o2, .cells 3 1 [iD a]]) := fun o1 o2 a => hall _ 2 3 [a] rfl
  have a2 : ∀ (o1 o2 : HO) (a b : Int), Jae (Jbi m) [Jak p, Jag (Jab p.body k), .hs 2 2] [o1, o2, .cells 3 1 [iD a, iD b]] = some (bD (allV m p (Jab p.body k) [a, b]), [o1, o2, .cells 3 1 [iD a, iD b]]) := fun o1 o2 a b => hall _ 2 3 [a, b] rfl
  have a3 : ∀ (o1 o2 : HO) (a b c : Int), Jae (Jbi m) [Jak p, Jag (Jab p.body k), .hs 2 3] [o1, o2, .cells 3 1 [iD a, iD b, iD c]] = some (bD (allV m p (Jab p.body k) [a, b, c]), [o1, o2, .cells 3 1 [iD a, iD b, iD c]]) := fun o1 o2 a b c => hall _ 2 3 [a, b, c] rfl
  · skip
    have hq := hkind (.plain [0, 0] 1) rfl
    cases hv : allV m p (Jab p.body k) [0, 0] <;> exact ⟨_, by simp [Jav _ _ hk, hend, hE', ea, es, hkids, ep, Ja4, Ja8, Ja5, row1, row2, row3, a1, a2, a3, hblk, hq, Jau, askV, inner, hv]; rfl⟩
theorem Qcf (m : Nat) (p : Pg) (k : Nat) (hp : p.body.length <= 3000000) (hm : 0 < m) (hE : 0 <= endv p.body k) (hk : k < p.body.length) (hkm : ∀ j ∈ Jab p.body k, p.body.length < j.toNat + m) (htg : p.body[k].1 = 18) : ∃ H, Jap Tryz.prog (T09f m) Jam ((Jab p.body k).length + 1) Tryz.f59 [Jak p, iD k] [] = some (iD (Jcp (m + 1) p.vars p.body k), H) := by
  rw [Jao]
  have hE' : ¬ endv p.body k < 0 := by omega
  have har : 0 <= ar p.body[k] := by have := Jck p.body k hE; rwa [Jb1 _ _ hk] at this
  have hcount := Jbq p.body k hE hk
  rw [show p.body[k] = (p.body[k].1, p.body[k].2) from rfl] at har hcount
  have hkl := Jbn p.body k
  have hkind := Jcl m p k hE hk
  have hend := Ja9 p.body k hp
  have hkids := Ja1 p.body k hp
  have ea : ∀ o : HO, Jaz 54 [iD 0, iD 0] [o] = some (.hp 1 0, [o, .cells 54 2 [iD 0, iD 0]]) := fun o => rfl
  have es : ∀ o : HO, setH 2 (.hp 1 0) (.agg (Jax p.body[k])) [o, .cells 54 2 [iD 0, iD 0]] = some (.v undef, [o, .cells 54 2 [iD p.body[k].1, iD p.body[k].2]]) := fun o => rfl
  have ep : D.agg [iD p.params, Jag p.vars, Jaf p.body] = Jak p := rfl
  have hkid : ∀ j ∈ Jab p.body k, 0 <= j /\ j.toNat < p.body.length := fun j hj => by
    obtain ⟨c, hc, e⟩ := List.getElem_of_mem hj
    have := Jbc p.body k c hc
    rw [e] at this
    exact ⟨by omega, this.2.2.2⟩
  have hall := Jda m p (Jab p.body k) hp (by omega) hm hkm
  have hblk := Jbf p (Jab p.body k) (by omega) hkid
  have hloop := Jcm m p (.cells 54 2 [iD p.body[k].1, iD p.body[k].2]) (Jab p.body k) hp hm hkl hkm ((Jab p.body k).length + 1) (by omega)
  have hti : ∀ t, p.body[k].1 = t -> inner p.body[k].1 = inner t := fun t e => by rw [e]
  rw [htg] at *
  generalize hnn : p.body[k].2 = nn at *
  have a1 : ∀ (o1 o2 : HO) (a : Int), Jae (Jbi m) [Jak p, Jag (Jab p.body k), .hs 2 1] [o1, o2, .cells 3 1 [iD a]] = some (bD (allV m p (Jab p.body k) [a]), [o1, o2, .cells 3 1 [iD a]]) := fun o1 o2 a => hall _ 2 3 [a] rfl
  have a2 : ∀ (o1 o2 : HO) (a b : Int), Jae (Jbi m) [Jak p, Jag (Jab p.body k), .hs 2 2] [o1, o2, .cells 3 1 [iD a, iD b]] = some (bD (allV m p (Jab p.body k) [a, b]), [o1, o2, .cells 3 1 [iD a, iD b]]) := fun o1 o2 a b => hall _ 2 3 [a, b] rfl
  have a3 : ∀ (o1 o2 : HO) (a b c : Int), Jae (Jbi m) [Jak p, Jag (Jab p.body k), .hs 2 3] [o1, o2, .cells 3 1 [iD a, iD b, iD c]] = some (bD (allV m p (Jab p.body k) [a, b, c]), [o1, o2, .cells 3 1 [iD a, iD b, iD c]]) := fun o1 o2 a b c => hall _ 2 3 [a, b, c] rfl
  · skip
    have hq := hkind (.plain [1, 1] 1) rfl
    cases hv : allV m p (Jab p.body k) [1, 1] <;> exact ⟨_, by simp [Jav _ _ hk, hend, hE', ea, es, hkids, ep, Ja4, Ja8, Ja5, row1, row2, row3, a1, a2, a3, hblk, hq, Jau, askV, inner, hv]; rfl⟩
theorem Qce (m : Nat) (p : Pg) (k : Nat) (hp : p.body.length <= 3000000) (hm : 0 < m) (hE : 0 <= endv p.body k) (hk : k < p.body.length) (hkm : ∀ j ∈ Jab p.body k, p.body.length < j.toNat + m) (htg : p.body[k].1 = 19) : ∃ H, Jap Tryz.prog (T09f m) Jam ((Jab p.body k).length + 1) Tryz.f59 [Jak p, iD k] [] = some (iD (Jcp (m + 1) p.vars p.body k), H) := by
  rw [Jao]
  have hE' : ¬ endv p.body k < 0 := by omega
  have har : 0 <= ar p.body[k] := by have := Jck p.body k hE; rwa [Jb1 _ _ hk] at this
  have hcount := Jbq p.body k hE hk
  rw [show p.body[k] = (p.body[k].1, p.body[k].2) from rfl] at har hcount
  have hkl := Jbn p.body k
  have hkind := Jcl m p k hE hk
  have hend := Ja9 p.body k hp
  have hkids := Ja1 p.body k hp
  have ea : ∀ o : HO, Jaz 54 [iD 0, iD 0] [o] = some (.hp 1 0, [o, .cells 54 2 [iD 0, iD 0]]) := fun o => rfl
  have es : ∀ o : HO, setH 2 (.hp 1 0) (.agg (Jax p.body[k])) [o, .cells 54 2 [iD 0, iD 0]] = some (.v undef, [o, .cells 54 2 [iD p.body[k].1, iD p.body[k].2]]) := fun o => rfl
  have ep : D.agg [iD p.params, Jag p.vars, Jaf p.body] = Jak p := rfl
  have hkid : ∀ j ∈ Jab p.body k, 0 <= j /\ j.toNat < p.body.length := fun j hj => by
    obtain ⟨c, hc, e⟩ := List.getElem_of_mem hj
    have := Jbc p.body k c hc
    rw [e] at this
    exact ⟨by omega, this.2.2.2⟩
  have hall := Jda m p (Jab p.body k) hp (by omega) hm hkm
  have hblk := Jbf p (Jab p.body k) (by omega) hkid
  have hloop := Jcm m p (.cells 54 2 [iD p.body[k].1, iD p.body[k].2]) (Jab p.body k) hp hm hkl hkm ((Jab p.body k).length + 1) (by omega)
  have hti : ∀ t, p.body[k].1 = t -> inner p.body[k].1 = inner t := fun t e => by rw [e]
  rw [htg] at *
  generalize hnn : p.body[k].2 = nn at *
  have a1 : ∀ (o1 o2 : HO) (a : Int), Jae (Jbi m) [Jak p, Jag (Jab p.body k), .hs 2 1] [o1, o2, .cells 3 1 [iD a]] = some (bD (allV m p (Jab p.body k) [a]), [o1, o2, .cells 3 1 [iD a]]) := fun o1 o2 a => hall _ 2 3 [a] rfl
  have a2 : ∀ (o1 o2 : HO) (a b : Int), Jae (Jbi m) [Jak p, Jag (Jab p.body k), .hs 2 2] [o1, o2, .cells 3 1 [iD a, iD b]] = some (bD (allV m p (Jab p.body k) [a, b]), [o1, o2, .cells 3 1 [iD a, iD b]]) := fun o1 o2 a b => hall _ 2 3 [a, b] rfl
  have a3 : ∀ (o1 o2 : HO) (a b c : Int), Jae (Jbi m) [Jak p, Jag (Jab p.body k), .hs 2 3] [o1, o2, .cells 3 1 [iD a, iD b, iD c]] = some (bD (allV m p (Jab p.body k) [a, b, c]), [o1, o2, .cells 3 1 [iD a, iD b, iD c]]) := fun o1 o2 a b c => hall _ 2 3 [a, b, c] rfl
  · skip
    have hq := hkind (.plain [1, 1] 1) rfl
    cases hv : allV m p (Jab p.body k) [1, 1] <;> exact ⟨_, by simp [Jav _ _ hk, hend, hE', ea, es, hkids, ep, Ja4, Ja8, Ja5, row1, row2, row3, a1, a2, a3, hblk, hq, Jau, askV, inner, hv]; rfl⟩
theorem Qcd (m : Nat) (p : Pg) (k : Nat) (hp : p.body.length <= 3000000) (hm : 0 < m) (hE : 0 <= endv p.body k) (hk : k < p.body.length) (hkm : ∀ j ∈ Jab p.body k, p.body.length < j.toNat + m) (htg : p.body[k].1 = 20) : ∃ H, Jap Tryz.prog (T09f m) Jam ((Jab p.body k).length + 1) Tryz.f59 [Jak p, iD k] [] = some (iD (Jcp (m + 1) p.vars p.body k), H) := by
  rw [Jao]
  have hE' : ¬ endv p.body k < 0 := by omega
  have har : 0 <= ar p.body[k] := by have := Jck p.body k hE; rwa [Jb1 _ _ hk] at this
  have hcount := Jbq p.body k hE hk
  rw [show p.body[k] = (p.body[k].1, p.body[k].2) from rfl] at har hcount
  have hkl := Jbn p.body k
  have hkind := Jcl m p k hE hk
  have hend := Ja9 p.body k hp
  have hkids := Ja1 p.body k hp
  have ea : ∀ o : HO, Jaz 54 [iD 0, iD 0] [o] = some (.hp 1 0, [o, .cells 54 2 [iD 0, iD 0]]) := fun o => rfl
  have es : ∀ o : HO, setH 2 (.hp 1 0) (.agg (Jax p.body[k])) [o, .cells 54 2 [iD 0, iD 0]] = some (.v undef, [o, .cells 54 2 [iD p.body[k].1, iD p.body[k].2]]) := fun o => rfl
  have ep : D.agg [iD p.params, Jag p.vars, Jaf p.body] = Jak p := rfl
  have hkid : ∀ j ∈ Jab p.body k, 0 <= j /\ j.toNat < p.body.length := fun j hj => by
    obtain ⟨c, hc, e⟩ := List.getElem_of_mem hj
    have := Jbc p.body k c hc
    rw [e] at this
    exact ⟨by omega, this.2.2.2⟩
  have hall := Jda m p (Jab p.body k) hp (by omega) hm hkm
  have hblk := Jbf p (Jab p.body k) (by omega) hkid
  have hloop := Jcm m p (.cells 54 2 [iD p.body[k].1, iD p.body[k].2]) (Jab p.body k) hp hm hkl hkm ((Jab p.body k).length + 1) (by omega)
  have hti : ∀ t, p.body[k].1 = t -> inner p.body[k].1 = inner t := fun t e => by rw [e]
  rw [htg] at *
  generalize hnn : p.body[k].2 = nn at *
  have a1 : ∀ (o1 o2 : HO) (a : Int), Jae (Jbi m) [Jak p, Jag (Jab p.body k), .hs 2 1] [o1, o2, .cells 3 1 [iD a]] = some (bD (allV m p (Jab p.body k) [a]), [o1, o2, .cells 3 1 [iD a]]) := fun o1 o2 a => hall _ 2 3 [a] rfl
  have a2 : ∀ (o1 o2 : HO) (a b : Int), Jae (Jbi m) [Jak p, Jag (Jab p.body k), .hs 2 2] [o1, o2, .cells 3 1 [iD a, iD b]] = some (bD (allV m p (Jab p.body k) [a, b]), [o1, o2, .cells 3 1 [iD a, iD b]]) := fun o1 o2 a b => hall _ 2 3 [a, b] rfl
  have a3 : ∀ (o1 o2 : HO) (a b c : Int), Jae (Jbi m) [Jak p, Jag (Jab p.body k), .hs 2 3] [o1, o2, .cells 3 1 [iD a, iD b, iD c]] = some (bD (allV m p (Jab p.body k) [a, b, c]), [o1, o2, .cells 3 1 [iD a, iD b, iD c]]) := fun o1 o2 a b c => hall _ 2 3 [a, b, c] rfl
  · skip
    have hq := hkind .none rfl
    have hal : allV m p (Jab p.body k) (List.replicate (Jab p.body k).length 2) = (List.range (Jab p.body k).length).all fun j => decide (Jcp m p.vars p.body ((Jab p.body k).getD j 0) = 2) := by
      simp only [allV, List.length_replicate, decide_true, Bool.true_and]
      rw [Bool.eq_iff_iff]; simp only [List.all_eq_true, List.mem_range, decide_eq_true_eq]
      constructor <;> (intro q j hj; have := q j hj; simpa [hj] using this)
    rcases hloop with ⟨q1, q2⟩ | ⟨i, _, q1, q2, q3, q4⟩
    · have hv : ((List.range (Jab p.body k).length).all fun j => decide (Jcp m p.vars p.body ((Jab p.body k).getD j 0) = 2)) = true := by rw [List.all_eq_true]; intro i hi; exact q1 i (Nat.zero_le _) (by simpa using hi)
      simp only [Jld] at q2
      rw [hv] at hal
      exact ⟨_, by simp [Jav _ _ hk, hend, hE', ea, es, hkids, ep, Ja4, Ja8, Ja5, row1, row2, row3, a1, a2, a3, hblk, hq, Jau, askV, inner, hal, q2]; rfl⟩
    · have hv : ((List.range (Jab   p.body k).length).all fun j => decide (Jcp   m p.vars p.body ((Jab   p.body k).getD j 0) = 2)) = false := by
        rw [Bool.eq_false_iff]; intro e; rw [List.all_eq_true] at e
        have := e i (by simpa using q1)
        rw [q2] at this; cases this
      simp only [Jld] at q4
      rw [hv] at hal
      exact ⟨_, by simp [Jav _ _ hk, hend, hE', ea, es, hkids, ep, Ja4, Ja8, Ja5, row1, row2, row3, a1, a2, a3, hblk, hq, Jau, askV, inner, hal, q4]; rfl⟩
theorem Qcc (m : Nat) (p : Pg) (k : Nat) (hp : p.body.length <= 3000000) (hm : 0 < m) (hE : 0 <= endv p.body k) (hk : k < p.body.length) (hkm : ∀ j ∈ Jab p.body k, p.body.length < j.toNat + m) (htg : p.body[k].1 = 21) : ∃ H, Jap Tryz.prog (T09f m) Jam ((Jab p.body k).length + 1) Tryz.f59 [Jak p, iD k] [] = some (iD (Jcp (m + 1) p.vars p.body k), H) := by
  rw [Jao]
  have hE' : ¬ endv p.body k < 0 := by omega
  have har : 0 <= ar p.body[k] := by have := Jck p.body k hE; rwa [Jb1 _ _ hk] at this
  have hcount := Jbq p.body k hE hk
  rw [show p.body[k] = (p.body[k].1, p.body[k].2) from rfl] at har hcount
  have hkl := Jbn p.body k
  have hkind := Jcl m p k hE hk
  have hend := Ja9 p.body k hp
  have hkids := Ja1 p.body k hp
  have ea : ∀ o : HO, Jaz 54 [iD 0, iD 0] [o] = some (.hp 1 0, [o, .cells 54 2 [iD 0, iD 0]]) := fun o => rfl
  have es : ∀ o : HO, setH 2 (.hp 1 0) (.agg (Jax p.body[k])) [o, .cells 54 2 [iD 0, iD 0]] = some (.v undef, [o, .cells 54 2 [iD p.body[k].1, iD p.body[k].2]]) := fun o => rfl
  have ep : D.agg [iD p.params, Jag p.vars, Jaf p.body] = Jak p := rfl
  have hkid : ∀ j ∈ Jab p.body k, 0 <= j /\ j.toNat < p.body.length := fun j hj => by
    obtain ⟨c, hc, e⟩ := List.getElem_of_mem hj
    have := Jbc p.body k c hc
    rw [e] at this
    exact ⟨by omega, this.2.2.2⟩
  have hall := Jda m p (Jab p.body k) hp (by omega) hm hkm
  have hblk := Jbf p (Jab p.body k) (by omega) hkid
  have hloop := Jcm m p (.cells 54 2 [iD p.body[k].1, iD p.body[k].2]) (Jab p.body k) hp hm hkl hkm ((Jab p.body k).length + 1) (by omega)
  have hti : ∀ t, p.body[k].1 = t -> inner p.body[k].1 = inner t := fun t e => by rw [e]
  rw [htg] at *
  generalize hnn : p.body[k].2 = nn at *
  have a1 : ∀ (o1 o2 : HO) (a : Int), Jae (Jbi m) [Jak p, Jag (Jab p.body k), .hs 2 1] [o1, o2, .cells 3 1 [iD a]] = some (bD (allV m p (Jab p.body k) [a]), [o1, o2, .cells 3 1 [iD a]]) := fun o1 o2 a => hall _ 2 3 [a] rfl
  have a2 : ∀ (o1 o2 : HO) (a b : Int), Jae (Jbi m) [Jak p, Jag (Jab p.body k), .hs 2 2] [o1, o2, .cells 3 1 [iD a, iD b]] = some (bD (allV m p (Jab p.body k) [a, b]), [o1, o2, .cells 3 1 [iD a, iD b]]) := fun o1 o2 a b => hall _ 2 3 [a, b] rfl
  have a3 : ∀ (o1 o2 : HO) (a b c : Int), Jae (Jbi m) [Jak p, Jag (Jab p.body k), .hs 2 3] [o1, o2, .cells 3 1 [iD a, iD b, iD c]] = some (bD (allV m p (Jab p.body k) [a, b, c]), [o1, o2, .cells 3 1 [iD a, iD b, iD c]]) := fun o1 o2 a b c => hall _ 2 3 [a, b, c] rfl
  · skip
    have hq := hkind (.scalar true) rfl
    have h0n : 0 <= nn := by have : nn < 0 -> ar (21, nn) < 0 := (fun h => by unfold ar lim; simp [h]); omega
    have hin : Jfd p.vars nn ≠ -1 -> nn.toNat < p.vars.length /\ p.vars.getD nn.toNat 0 = Jfd p.vars nn := fun h => by
      by_cases hl : nn.toNat < p.vars.length
      · exact ⟨hl, by rw [Jwg h0n hl, getD_in _ _ _ hl]⟩
      · exact absurd (Jsh h0n (by omega)) h
    by_cases h0 : Jfd p.vars nn = 0
    · obtain ⟨hi1, hi2⟩ := hin (by omega)
      have hask : askV p.vars p.body[k] (Jab p.body k).length (.scalar true) = [0] := by simp only [askV, hnn, hi1, if_true, hi2, h0]
      rw [hask] at hq
      cases hv : allV m p (Jab p.body k) [0] <;> exact ⟨_, by simp [Jav _ _ hk, hend, hE', ea, es, hkids, ep, Ja4, Ja8, Ja5, row1, row2, row3, a1, a2, a3, hblk, hq, Jau, Jcv, inner, h0, hv, hnn]; rfl⟩
    by_cases h1 : Jfd p.vars nn = 1
    · obtain ⟨hi1, hi2⟩ := hin (by omega)
      have hask : askV p.vars p.body[k] (Jab p.body k).length (.scalar true) = [1] := by simp only [askV, hnn, hi1, if_true, hi2, h1]
      rw [hask] at hq
      cases hv : allV m p (Jab p.body k) [1] <;> exact ⟨_, by simp [Jav _ _ hk, hend, hE', ea, es, hkids, ep, Ja4, Ja8, Ja5, row1, row2, row3, a1, a2, a3, hblk, hq, Jau, Jcv, inner, h1, hv, hnn]; rfl⟩
    exact ⟨_, by simp [Jav _ _ hk, hend, hE', ea, es, hkids, ep, Ja4, Ja8, Ja5, row1, row2, row3, a1, a2, a3, hblk, hq, Jau, Jcv, h0, h1, hnn]; rfl⟩
theorem Qcb (m : Nat) (p : Pg) (k : Nat) (hp : p.body.length <= 3000000) (hm : 0 < m) (hE : 0 <= endv p.body k) (hk : k < p.body.length) (hkm : ∀ j ∈ Jab p.body k, p.body.length < j.toNat + m) (htg : p.body[k].1 = 22) : ∃ H, Jap Tryz.prog (T09f m) Jam ((Jab p.body k).length + 1) Tryz.f59 [Jak p, iD k] [] = some (iD (Jcp (m + 1) p.vars p.body k), H) := by
  rw [Jao]
  have hE' : ¬ endv p.body k < 0 := by omega
  have har : 0 <= ar p.body[k] := by have := Jck p.body k hE; rwa [Jb1 _ _ hk] at this
  have hcount := Jbq p.body k hE hk
  rw [show p.body[k] = (p.body[k].1, p.body[k].2) from rfl] at har hcount
  have hkl := Jbn p.body k
  have hkind := Jcl m p k hE hk
  have hend := Ja9 p.body k hp
  have hkids := Ja1 p.body k hp
  have ea : ∀ o : HO, Jaz 54 [iD 0, iD 0] [o] = some (.hp 1 0, [o, .cells 54 2 [iD 0, iD 0]]) := fun o => rfl
  have es : ∀ o : HO, setH 2 (.hp 1 0) (.agg (Jax p.body[k])) [o, .cells 54 2 [iD 0, iD 0]] = some (.v undef, [o, .cells 54 2 [iD p.body[k].1, iD p.body[k].2]]) := fun o => rfl
  have ep : D.agg [iD p.params, Jag p.vars, Jaf p.body] = Jak p := rfl
  have hkid : ∀ j ∈ Jab p.body k, 0 <= j /\ j.toNat < p.body.length := fun j hj => by
    obtain ⟨c, hc, e⟩ := List.getElem_of_mem hj
    have := Jbc p.body k c hc
    rw [e] at this
    exact ⟨by omega, this.2.2.2⟩
  have hall := Jda m p (Jab p.body k) hp (by omega) hm hkm
  have hblk := Jbf p (Jab p.body k) (by omega) hkid
  have hloop := Jcm m p (.cells 54 2 [iD p.body[k].1, iD p.body[k].2]) (Jab p.body k) hp hm hkl hkm ((Jab p.body k).length + 1) (by omega)
  have hti : ∀ t, p.body[k].1 = t -> inner p.body[k].1 = inner t := fun t e => by rw [e]
  rw [htg] at *
  generalize hnn : p.body[k].2 = nn at *
  have a1 : ∀ (o1 o2 : HO) (a : Int), Jae (Jbi m) [Jak p, Jag (Jab p.body k), .hs 2 1] [o1, o2, .cells 3 1 [iD a]] = some (bD (allV m p (Jab p.body k) [a]), [o1, o2, .cells 3 1 [iD a]]) := fun o1 o2 a => hall _ 2 3 [a] rfl
  have a2 : ∀ (o1 o2 : HO) (a b : Int), Jae (Jbi m) [Jak p, Jag (Jab p.body k), .hs 2 2] [o1, o2, .cells 3 1 [iD a, iD b]] = some (bD (allV m p (Jab p.body k) [a, b]), [o1, o2, .cells 3 1 [iD a, iD b]]) := fun o1 o2 a b => hall _ 2 3 [a, b] rfl
  have a3 : ∀ (o1 o2 : HO) (a b c : Int), Jae (Jbi m) [Jak p, Jag (Jab p.body k), .hs 2 3] [o1, o2, .cells 3 1 [iD a, iD b, iD c]] = some (bD (allV m p (Jab p.body k) [a, b, c]), [o1, o2, .cells 3 1 [iD a, iD b, iD c]]) := fun o1 o2 a b c => hall _ 2 3 [a, b, c] rfl
  · skip
    have hq := hkind (.array [0, 0] 2) rfl
    by_cases hs : Jnj (Jfd p.vars nn) = 0
    · exact ⟨_, by simp [Jav _ _ hk, hend, hE', ea, es, hkids, ep, Ja4, Ja8, Ja5, row1, row2, row3, a1, a2, a3, hblk, hq, Jau, Jeo, hs, hnn]; rfl⟩
    · have hs2 := Jyr _ hs
      cases hv : allV m p (Jab p.body k) [0, 0] <;> exact ⟨_, by simp [Jav _ _ hk, hend, hE', ea, es, hkids, ep, Ja4, Ja8, Ja5, row1, row2, row3, a1, a2, a3, hblk, hq, Jau, Jeo, askV, inner, hs, hs2, hv, hnn]; rfl⟩
theorem Qca (m : Nat) (p : Pg) (k : Nat) (hp : p.body.length <= 3000000) (hm : 0 < m) (hE : 0 <= endv p.body k) (hk : k < p.body.length) (hkm : ∀ j ∈ Jab p.body k, p.body.length < j.toNat + m) (htg : p.body[k].1 = 23) : ∃ H, Jap Tryz.prog (T09f m) Jam ((Jab p.body k).length + 1) Tryz.f59 [Jak p, iD k] [] = some (iD (Jcp (m + 1) p.vars p.body k), H) := by
  rw [Jao]
  have hE' : ¬ endv p.body k < 0 := by omega
  have har : 0 <= ar p.body[k] := by have := Jck p.body k hE; rwa [Jb1 _ _ hk] at this
  have hcount := Jbq p.body k hE hk
  rw [show p.body[k] = (p.body[k].1, p.body[k].2) from rfl] at har hcount
  have hkl := Jbn p.body k
  have hkind := Jcl m p k hE hk
  have hend := Ja9 p.body k hp
  have hkids := Ja1 p.body k hp
  have ea : ∀ o : HO, Jaz 54 [iD 0, iD 0] [o] = some (.hp 1 0, [o, .cells 54 2 [iD 0, iD 0]]) := fun o => rfl
  have es : ∀ o : HO, setH 2 (.hp 1 0) (.agg (Jax p.body[k])) [o, .cells 54 2 [iD 0, iD 0]] = some (.v undef, [o, .cells 54 2 [iD p.body[k].1, iD p.body[k].2]]) := fun o => rfl
  have ep : D.agg [iD p.params, Jag p.vars, Jaf p.body] = Jak p := rfl
  have hkid : ∀ j ∈ Jab p.body k, 0 <= j /\ j.toNat < p.body.length := fun j hj => by
    obtain ⟨c, hc, e⟩ := List.getElem_of_mem hj
    have := Jbc p.body k c hc
    rw [e] at this
    exact ⟨by omega, this.2.2.2⟩
  have hall := Jda m p (Jab p.body k) hp (by omega) hm hkm
  have hblk := Jbf p (Jab p.body k) (by omega) hkid
  have hloop := Jcm m p (.cells 54 2 [iD p.body[k].1, iD p.body[k].2]) (Jab p.body k) hp hm hkl hkm ((Jab p.body k).length + 1) (by omega)
  have hti : ∀ t, p.body[k].1 = t -> inner p.body[k].1 = inner t := fun t e => by rw [e]
  rw [htg] at *
  generalize hnn : p.body[k].2 = nn at *
  have a1 : ∀ (o1 o2 : HO) (a : Int), Jae (Jbi m) [Jak p, Jag (Jab p.body k), .hs 2 1] [o1, o2, .cells 3 1 [iD a]] = some (bD (allV m p (Jab p.body k) [a]), [o1, o2, .cells 3 1 [iD a]]) := fun o1 o2 a => hall _ 2 3 [a] rfl
  have a2 : ∀ (o1 o2 : HO) (a b : Int), Jae (Jbi m) [Jak p, Jag (Jab p.body k), .hs 2 2] [o1, o2, .cells 3 1 [iD a, iD b]] = some (bD (allV m p (Jab p.body k) [a, b]), [o1, o2, .cells 3 1 [iD a, iD b]]) := fun o1 o2 a b => hall _ 2 3 [a, b] rfl
  have a3 : ∀ (o1 o2 : HO) (a b c : Int), Jae (Jbi m) [Jak p, Jag (Jab p.body k), .hs 2 3] [o1, o2, .cells 3 1 [iD a, iD b, iD c]] = some (bD (allV m p (Jab p.body k) [a, b, c]), [o1, o2, .cells 3 1 [iD a, iD b, iD c]]) := fun o1 o2 a b c => hall _ 2 3 [a, b, c] rfl
  · skip
    have hq := hkind (.plain [1, 2, 2] 2) rfl
    cases hv : allV m p (Jab p.body k) [1, 2, 2] <;> cases hb : blkV p.body (Jab p.body k) 1 <;> exact ⟨_, by simp [Jav _ _ hk, hend, hE', ea, es, hkids, ep, Ja4, Ja8, Ja5, row1, row2, row3, a1, a2, a3, hblk, hq, Jau, askV, inner, hv, hb]; rfl⟩
theorem Qb9 (m : Nat) (p : Pg) (k : Nat) (hp : p.body.length <= 3000000) (hm : 0 < m) (hE : 0 <= endv p.body k) (hk : k < p.body.length) (hkm : ∀ j ∈ Jab p.body k, p.body.length < j.toNat + m) (htg : p.body[k].1 = 24) : ∃ H, Jap Tryz.prog (T09f m) Jam ((Jab p.body k).length + 1) Tryz.f59 [Jak p, iD k] [] = some (iD (Jcp (m + 1) p.vars p.body k), H) := by
  rw [Jao]
  have hE' : ¬ endv p.body k < 0 := by omega
  have har : 0 <= ar p.body[k] := by have := Jck p.body k hE; rwa [Jb1 _ _ hk] at this
  have hcount := Jbq p.body k hE hk
  rw [show p.body[k] = (p.body[k].1, p.body[k].2) from rfl] at har hcount
  have hkl := Jbn p.body k
  have hkind := Jcl m p k hE hk
  have hend := Ja9 p.body k hp
  have hkids := Ja1 p.body k hp
  have ea : ∀ o : HO, Jaz 54 [iD 0, iD 0] [o] = some (.hp 1 0, [o, .cells 54 2 [iD 0, iD 0]]) := fun o => rfl
  have es : ∀ o : HO, setH 2 (.hp 1 0) (.agg (Jax p.body[k])) [o, .cells 54 2 [iD 0, iD 0]] = some (.v undef, [o, .cells 54 2 [iD p.body[k].1, iD p.body[k].2]]) := fun o => rfl
  have ep : D.agg [iD p.params, Jag p.vars, Jaf p.body] = Jak p := rfl
  have hkid : ∀ j ∈ Jab p.body k, 0 <= j /\ j.toNat < p.body.length := fun j hj => by
    obtain ⟨c, hc, e⟩ := List.getElem_of_mem hj
    have := Jbc p.body k c hc
    rw [e] at this
    exact ⟨by omega, this.2.2.2⟩
  have hall := Jda m p (Jab p.body k) hp (by omega) hm hkm
  have hblk := Jbf p (Jab p.body k) (by omega) hkid
  have hloop := Jcm m p (.cells 54 2 [iD p.body[k].1, iD p.body[k].2]) (Jab p.body k) hp hm hkl hkm ((Jab p.body k).length + 1) (by omega)
  have hti : ∀ t, p.body[k].1 = t -> inner p.body[k].1 = inner t := fun t e => by rw [e]
  rw [htg] at *
  generalize hnn : p.body[k].2 = nn at *
  have a1 : ∀ (o1 o2 : HO) (a : Int), Jae (Jbi m) [Jak p, Jag (Jab p.body k), .hs 2 1] [o1, o2, .cells 3 1 [iD a]] = some (bD (allV m p (Jab p.body k) [a]), [o1, o2, .cells 3 1 [iD a]]) := fun o1 o2 a => hall _ 2 3 [a] rfl
  have a2 : ∀ (o1 o2 : HO) (a b : Int), Jae (Jbi m) [Jak p, Jag (Jab p.body k), .hs 2 2] [o1, o2, .cells 3 1 [iD a, iD b]] = some (bD (allV m p (Jab p.body k) [a, b]), [o1, o2, .cells 3 1 [iD a, iD b]]) := fun o1 o2 a b => hall _ 2 3 [a, b] rfl
  have a3 : ∀ (o1 o2 : HO) (a b c : Int), Jae (Jbi m) [Jak p, Jag (Jab p.body k), .hs 2 3] [o1, o2, .cells 3 1 [iD a, iD b, iD c]] = some (bD (allV m p (Jab p.body k) [a, b, c]), [o1, o2, .cells 3 1 [iD a, iD b, iD c]]) := fun o1 o2 a b c => hall _ 2 3 [a, b, c] rfl
  · skip
    have hq := hkind (.plain [1, 2] 2) rfl
    cases hv : allV m p (Jab p.body k) [1, 2] <;> cases hb : blkV p.body (Jab p.body k) 1 <;> exact ⟨_, by simp [Jav _ _ hk, hend, hE', ea, es, hkids, ep, Ja4, Ja8, Ja5, row1, row2, row3, a1, a2, a3, hblk, hq, Jau, askV, inner, hv, hb]; rfl⟩
theorem Qb8 (m : Nat) (p : Pg) (k : Nat) (hp : p.body.length <= 3000000) (hm : 0 < m) (hE : 0 <= endv p.body k) (hk : k < p.body.length) (hkm : ∀ j ∈ Jab p.body k, p.body.length < j.toNat + m) (htg : p.body[k].1 = 25) : ∃ H, Jap Tryz.prog (T09f m) Jam ((Jab p.body k).length + 1) Tryz.f59 [Jak p, iD k] [] = some (iD (Jcp (m + 1) p.vars p.body k), H) := by
  rw [Jao]
  have hE' : ¬ endv p.body k < 0 := by omega
  have har : 0 <= ar p.body[k] := by have := Jck p.body k hE; rwa [Jb1 _ _ hk] at this
  have hcount := Jbq p.body k hE hk
  rw [show p.body[k] = (p.body[k].1, p.body[k].2) from rfl] at har hcount
  have hkl := Jbn p.body k
  have hkind := Jcl m p k hE hk
  have hend := Ja9 p.body k hp
  have hkids := Ja1 p.body k hp
  have ea : ∀ o : HO, Jaz 54 [iD 0, iD 0] [o] = some (.hp 1 0, [o, .cells 54 2 [iD 0, iD 0]]) := fun o => rfl
  have es : ∀ o : HO, setH 2 (.hp 1 0) (.agg (Jax p.body[k])) [o, .cells 54 2 [iD 0, iD 0]] = some (.v undef, [o, .cells 54 2 [iD p.body[k].1, iD p.body[k].2]]) := fun o => rfl
  have ep : D.agg [iD p.params, Jag p.vars, Jaf p.body] = Jak p := rfl
  have hkid : ∀ j ∈ Jab p.body k, 0 <= j /\ j.toNat < p.body.length := fun j hj => by
    obtain ⟨c, hc, e⟩ := List.getElem_of_mem hj
    have := Jbc p.body k c hc
    rw [e] at this
    exact ⟨by omega, this.2.2.2⟩
  have hall := Jda m p (Jab p.body k) hp (by omega) hm hkm
  have hblk := Jbf p (Jab p.body k) (by omega) hkid
  have hloop := Jcm m p (.cells 54 2 [iD p.body[k].1, iD p.body[k].2]) (Jab p.body k) hp hm hkl hkm ((Jab p.body k).length + 1) (by omega)
  have hti : ∀ t, p.body[k].1 = t -> inner p.body[k].1 = inner t := fun t e => by rw [e]
  rw [htg] at *
  generalize hnn : p.body[k].2 = nn at *
  have a1 : ∀ (o1 o2 : HO) (a : Int), Jae (Jbi m) [Jak p, Jag (Jab p.body k), .hs 2 1] [o1, o2, .cells 3 1 [iD a]] = some (bD (allV m p (Jab p.body k) [a]), [o1, o2, .cells 3 1 [iD a]]) := fun o1 o2 a => hall _ 2 3 [a] rfl
  have a2 : ∀ (o1 o2 : HO) (a b : Int), Jae (Jbi m) [Jak p, Jag (Jab p.body k), .hs 2 2] [o1, o2, .cells 3 1 [iD a, iD b]] = some (bD (allV m p (Jab p.body k) [a, b]), [o1, o2, .cells 3 1 [iD a, iD b]]) := fun o1 o2 a b => hall _ 2 3 [a, b] rfl
  have a3 : ∀ (o1 o2 : HO) (a b c : Int), Jae (Jbi m) [Jak p, Jag (Jab p.body k), .hs 2 3] [o1, o2, .cells 3 1 [iD a, iD b, iD c]] = some (bD (allV m p (Jab p.body k) [a, b, c]), [o1, o2, .cells 3 1 [iD a, iD b, iD c]]) := fun o1 o2 a b c => hall _ 2 3 [a, b, c] rfl
  · skip
    have hq := hkind (.plain [0] 2) rfl
    cases hv : allV m p (Jab p.body k) [0] <;> exact ⟨_, by simp [Jav _ _ hk, hend, hE', ea, es, hkids, ep, Ja4, Ja8, Ja5, row1, row2, row3, a1, a2, a3, hblk, hq, Jau, askV, inner, hv]; rfl⟩
theorem Qb7 (m : Nat) (p : Pg) (k : Nat) (hp : p.body.length <= 3000000) (hm : 0 < m) (hE : 0 <= endv p.body k) (hk : k < p.body.length) (hkm : ∀ j ∈ Jab p.body k, p.body.length < j.toNat + m) (htg : p.body[k].1 = 26) : ∃ H, Jap Tryz.prog (T09f m) Jam ((Jab p.body k).length + 1) Tryz.f59 [Jak p, iD k] [] = some (iD (Jcp (m + 1) p.vars p.body k), H) := by
  rw [Jao]
  have hE' : ¬ endv p.body k < 0 := by omega
  have har : 0 <= ar p.body[k] := by have := Jck p.body k hE; rwa [Jb1 _ _ hk] at this
  have hcount := Jbq p.body k hE hk
  rw [show p.body[k] = (p.body[k].1, p.body[k].2) from rfl] at har hcount
  have hkl := Jbn p.body k
  have hkind := Jcl m p k hE hk
  have hend := Ja9 p.body k hp
  have hkids := Ja1 p.body k hp
  have ea : ∀ o : HO, Jaz 54 [iD 0, iD 0] [o] = some (.hp 1 0, [o, .cells 54 2 [iD 0, iD 0]]) := fun o => rfl
  have es : ∀ o : HO, setH 2 (.hp 1 0) (.agg (Jax p.body[k])) [o, .cells 54 2 [iD 0, iD 0]] = some (.v undef, [o, .cells 54 2 [iD p.body[k].1, iD p.body[k].2]]) := fun o => rfl
  have ep : D.agg [iD p.params, Jag p.vars, Jaf p.body] = Jak p := rfl
  have hkid : ∀ j ∈ Jab p.body k, 0 <= j /\ j.toNat < p.body.length := fun j hj => by
    obtain ⟨c, hc, e⟩ := List.getElem_of_mem hj
    have := Jbc p.body k c hc
    rw [e] at this
    exact ⟨by omega, this.2.2.2⟩
  have hall := Jda m p (Jab p.body k) hp (by omega) hm hkm
  have hblk := Jbf p (Jab p.body k) (by omega) hkid
  have hloop := Jcm m p (.cells 54 2 [iD p.body[k].1, iD p.body[k].2]) (Jab p.body k) hp hm hkl hkm ((Jab p.body k).length + 1) (by omega)
  have hti : ∀ t, p.body[k].1 = t -> inner p.body[k].1 = inner t := fun t e => by rw [e]
  rw [htg] at *
  generalize hnn : p.body[k].2 = nn at *
  have a1 : ∀ (o1 o2 : HO) (a : Int), Jae (Jbi m) [Jak p, Jag (Jab p.body k), .hs 2 1] [o1, o2, .cells 3 1 [iD a]] = some (bD (allV m p (Jab p.body k) [a]), [o1, o2, .cells 3 1 [iD a]]) := fun o1 o2 a => hall _ 2 3 [a] rfl
  have a2 : ∀ (o1 o2 : HO) (a b : Int), Jae (Jbi m) [Jak p, Jag (Jab p.body k), .hs 2 2] [o1, o2, .cells 3 1 [iD a, iD b]] = some (bD (allV m p (Jab p.body k) [a, b]), [o1, o2, .cells 3 1 [iD a, iD b]]) := fun o1 o2 a b => hall _ 2 3 [a, b] rfl
  have a3 : ∀ (o1 o2 : HO) (a b c : Int), Jae (Jbi m) [Jak p, Jag (Jab p.body k), .hs 2 3] [o1, o2, .cells 3 1 [iD a, iD b, iD c]] = some (bD (allV m p (Jab p.body k) [a, b, c]), [o1, o2, .cells 3 1 [iD a, iD b, iD c]]) := fun o1 o2 a b c => hall _ 2 3 [a, b, c] rfl
  · skip
    have hq := hkind (.plain [] 2) rfl
    have hnil : Jab p.body k = [] := by
      have h0 : ar (26, nn) <= 0 := by unfold ar lim; simp; try (split <;> omega)
      apply List.eq_nil_of_length_eq_zero; omega
    rw [hnil] at hq
    exact ⟨_, by simp [Jav _ _ hk, hend, hE', ea, es, hkids, ep, Ja4, Ja8, Ja5, row1, row2, row3, a1, a2, a3, hblk, hq, Jau, askV, inner, allV]; rfl⟩
end Go.Proofs.YtinnbafplhcnpaaGreat
end
section
namespace Go.Proofs.YtinnbafplhcnpaaGreat
open Go.RowKit
set_option linter.unusedVariables false
set_option linter.unusedSimpArgs false
theorem Qgn        (m : Nat) (p : Pg) (k : Nat) (hp : p.body.length ≤ 3000000) (hm : 0 < m) (hE : 0 ≤ endv p.body k) (hk : k < p.body.length) (hkm : ∀ j ∈ Jab   p.body k, p.body.length < j.toNat + m) :
    ∃ H, Jap Tryz.prog (T09f m) Jam ((Jab p.body k).length + 1) Tryz.f59 [Jak p, iD k] [] = some (iD (Jcp (m + 1) p.vars p.body k), H) := by
  have har : 0 <= ar p.body[k] := by have := Jck p.body k hE; rwa [Jb1 _ _ hk] at this
  have htag := ar_tag _ har
  have hcases : p.body[k].1 = 1 \/ p.body[k].1 = 2 \/ p.body[k].1 = 3 \/ p.body[k].1 = 4 \/ p.body[k].1 = 5 \/ p.body[k].1 = 6 \/ p.body[k].1 = 7 \/ p.body[k].1 = 8 \/ p.body[k].1 = 9 \/ p.body[k].1 = 10 \/ p.body[k].1 = 11 \/ p.body[k].1 = 12 \/ p.body[k].1 = 13 \/ p.body[k].1 = 14 \/ p.body[k].1 = 15 \/ p.body[k].1 = 16 \/ p.body[k].1 = 17 \/ p.body[k].1 = 18 \/ p.body[k].1 = 19 \/ p.body[k].1 = 20 \/ p.body[k].1 = 21 \/ p.body[k].1 = 22 \/ p.body[k].1 = 23 \/ p.body[k].1 = 24 \/ p.body[k].1 = 25 \/ p.body[k].1 = 26 := by omega
  rcases hcases with h | h | h | h | h | h | h | h | h | h | h | h | h | h | h | h | h | h | h | h | h | h | h | h | h | h
  · exact Qgw m p k hp hm hE hk hkm h
  · exact Qgv m p k hp hm hE hk hkm h
  · exact Qgu m p k hp hm hE hk hkm h
  · exact Qgt m p k hp hm hE hk hkm h
  · exact Qgs m p k hp hm hE hk hkm h
  · exact Qgr m p k hp hm hE hk hkm h
  · exact Qgq m p k hp hm hE hk hkm h
  · exact Qgp m p k hp hm hE hk hkm h
  · exact Qgo m p k hp hm hE hk hkm h
  · exact Qcn m p k hp hm hE hk hkm h
  · exact Qcm m p k hp hm hE hk hkm h
  · exact Qcl m p k hp hm hE hk hkm h
  · exact Qck m p k hp hm hE hk hkm h
  · exact Qcj m p k hp hm hE hk hkm h
  · exact Qci m p k hp hm hE hk hkm h
  · exact Qch m p k hp hm hE hk hkm h
  · exact Qcg m p k hp hm hE hk hkm h
  · exact Qcf m p k hp hm hE hk hkm h
  · exact Qce m p k hp hm hE hk hkm h
  · exact Qcd m p k hp hm hE hk hkm h
  · exact Qcc m p k hp hm hE hk hkm h
  · exact Qcb m p k hp hm hE hk hkm h
  · exact Qca m p k hp hm hE hk hkm h
  · exact Qb9 m p k hp hm hE hk hkm h
  · exact Qb8 m p k hp hm hE hk hkm h
  · exact Qb7 m p k hp hm hE hk hkm h
theorem Qdx : ∀ m : Nat, CallOk Tryz.prog 59 (Jj0 m)
  | 0 => ⟨⟨_, Tryz.func59, by decide, rfl⟩, fun ds d hF => by
      exfalso
      unfold Jj0 F2 at hF
      split at hF
      · obtain ⟨p, _, hF⟩ := Option.bind_eq_some_iff.1 hF
        obtain ⟨i, _, hF⟩ := Option.bind_eq_some_iff.1 hF
        simp only at hF
        split at hF
        · rename_i hc
          omega
        · cases hF
      · cases hF⟩
  | m + 1 => by
    have hT : TabOk Tryz.prog (T09f m) := Jb4 (Jac (Jal (Qdx m)) (Jac (Jal (C_all m (Qdx m))) Jr8))
    refine Jlf (kp := Jam) hT mixed Tryz.func59 (by kernel_rfl) (by decide) fun p i d h => ?_
    split at h
    case isFalse => cases h
    rename_i hc
    obtain ⟨hp, _, hi⟩ := hc
    cases h
    by_cases hE : endv p.body i < 0
    · refine ⟨0, _, ?_, Imp.refl _⟩
      show outD (Jap _ _ _ _ _ [Jak p, iD i] []) = _
      rw [Jao]
      simp [Ja9 p.body i hp, hE, Jcp]
    · have hE' : 0 <= endv p.body i := by omega
      obtain ⟨h0, hil⟩ := Ja2 p.body i hE'
      obtain ⟨k, rfl⟩ := Int.eq_ofNat_of_zero_le h0
      have hk : k < p.body.length := by simpa using hil
      have hkm : ∀ j ∈ Jab p.body k, p.body.length < j.toNat + m := fun j hj => by
        obtain ⟨c, hc, e⟩ := List.getElem_of_mem hj
        have := (Jbc p.body k c hc).1
        rw [e] at this
        rcases hi with hi | hi
        · omega
        · simp only [Int.toNat_natCast] at hi; omega
      have hm : 0 < m := by
        rcases hi with hi | hi
        · omega
        · simp only [Int.toNat_natCast] at hi; omega
      obtain ⟨H, hH⟩ := Qgn m p k hp hm hE' hk hkm
      refine ⟨(Jab p.body k).length + 1, _, ?_, Imp.refl _⟩
      show outD (Jap _ _ _ _ _ [Jak p, iD (k : Int)] []) = _
      rw [hH]; simp
def knd (p : Pg) (i : Int) : Int := Jcp (p.body.length + 1) p.vars p.body i
def Jun : List D -> Option D := F2 progT intT fun p i => if p.body.length <= 3000000 then some (iD (knd p i)) else none
theorem Jvp : ∀ (a b : Nat) (vs : List Int) (l : List Nd) (i : Int), 0 <= endv l i -> l.length < i.toNat + a -> l.length < i.toNat + b -> Jcp a vs l i = Jcp b vs l i
  | 0, b, vs, l, i, h, ha, hb => by have := (Ja2 l i h).2; omega
  | a, 0, vs, l, i, h, ha, hb => by have := (Ja2 l i h).2; omega
  | a + 1, b + 1, vs, l, i, h, ha, hb => by
    obtain ⟨h0, hil⟩ := Ja2 l i h
    obtain ⟨k, rfl⟩ := Int.eq_ofNat_of_zero_le h0
    simp only [Int.toNat_natCast] at ha hb
    have hk : ∀ j, j < (Jab l k).length -> Jcp a vs l ((Jab l k).getD j 0) = Jcp b vs l ((Jab l k).getD j 0) := fun j hj => by
      rw [getD_in _ _ _ hj]
      have := Jbc l k j hj
      exact Jvp a b vs l _ this.2.1 (by omega) (by omega)
    have hall : ∀ f : Nat -> Bool, ((List.range (Jab l k).length).all fun j => decide (Jcp a vs l ((Jab l k).getD j 0) = (askV vs (nodeAt l k) (Jab l k).length (Jb6 (nodeAt l k).1)).getD j 0) && f j) = ((List.range (Jab l k).length).all fun j => decide (Jcp b vs l ((Jab l k).getD j 0) = (askV vs (nodeAt l k) (Jab l k).length (Jb6 (nodeAt l k).1)).getD j 0) && f j) := fun f => by
      rw [Bool.eq_iff_iff]
      simp only [List.all_eq_true, List.mem_range]
      constructor
      · intro q j hj; have := q j hj; rwa [hk j hj] at this
      · intro q j hj; have := q j hj; rwa [hk j hj]
    rw [Jcp, Jcp, hall]
theorem Qpt : CallOk Tryz.prog 59 Jun := Qfv Qdx fun ds d hF => by
  unfold Jun F2 at hF
  split at hF
  · obtain ⟨p, h1, hF⟩ := Option.bind_eq_some_iff.1 hF
    obtain ⟨i, h2, hF⟩ := Option.bind_eq_some_iff.1 hF
    simp only at hF
    split at hF
    · rename_i hp
      cases hF
      refine ⟨p.body.length + 1, ?_⟩
      simp only [Jj0, F2, h1, h2, Option.bind_some]
      rw [if_pos ⟨hp, by omega, .inr (by omega)⟩]
      rfl
    · cases hF
  · cases hF
def Jq3 : List D -> Option D := F2 chkT intT fun p i => if ofOk p i then some (iD (knd p i)) else none
theorem Qts : CallOk Tryz.prog 54 Jq3 := Qfv C_of fun ds d hF => by
  unfold Jq3 F2 at hF
  split at hF
  · obtain ⟨p, h1, hF⟩ := Option.bind_eq_some_iff.1 hF
    obtain ⟨i, h2, hF⟩ := Option.bind_eq_some_iff.1 hF
    simp only at hF
    split at hF
    · rename_i hp
      cases hF
      refine ⟨p.body.length + 1, ?_⟩
      simp only [F_of, F2, h1, h2, Option.bind_some]
      rw [if_pos]
      · rfl
      · simp only [hp, Bool.true_and, decide_eq_true_eq]; omega
    · cases hF
  · cases hF
def Qsa : List Entry := (59, true, Jae Jun) :: (54, true, Jae Jq3) :: Qkq
theorem Qff : ∀ p ∈ Qsa, Jbu Tryz.prog p := Jac (Jal Qpt) <| Jac (Jal Qts) <| Jr8
def T09h : Tab := ⟨Qsa, noYl⟩
theorem Qtj : TabOk Tryz.prog T09h := Jb4 Qff
end Go.Proofs.YtinnbafplhcnpaaGreat
end
section
namespace Go.Proofs.YtinnbafplhcnpaaGreat
open Go.RowKit
set_option linter.unusedVariables false
set_option maxRecDepth 100000
def Jtb : List Nat := []
theorem Qbx (n : Nat) (x0 x1 : D) (h : Heap) : Jap Tryz.prog T09h Jtb n Tryz.f29 [x0, x1] h =
(thnH (boxH 25 x0 h) fun y0 h1 =>
thn (Jaa 2 y0) fun y2 =>
thn (Jad none h1 y2) fun y3 =>
thnH (Jae Qic [y3, x1] h1) fun y4 h5 =>
thn (binK .int .lss y4 (iD 0)) fun y6 =>
Jah y6
(some ((iD (-1)), h5))
(thn (Jad (some 3) h5 y0) fun y7 =>
thnH (Jae Jyi [] h5) fun y8 h9 =>
thn (Jbv [(0, 3), (3, 1)] [(iD 0), (.v (.slice none 0 0)), (.v (.slice none 0 0)), (.v (.map none))] [(0, y7), (1, y8)]) fun y10 =>
thnH (Jae Jq3 [y10, x1] h9) fun y11 h12 =>
some (y11, h12))) := by kernel_rfl
end Go.Proofs.YtinnbafplhcnpaaGreat
end
section
namespace Go.Proofs.YtinnbafplhcnpaaGreat
open Go.RowKit
set_option linter.unusedVariables false
set_option linter.unusedSimpArgs false
theorem knd_no {p : Pg} {i : Int} (h : endv p.body i < 0) : knd p i = -1 := by rw [knd, Jcp, if_pos h]
theorem Qgg (H : Heap) : Jae Jyi [] H = some (Jjd, H) := by rw [Jar _ _ _ rfl]; rfl
theorem Qg4 (p : Pg) (i : Int) (h : ofOk p i = true) (H : Heap) : Jae Jq3 [.agg (chkC p), iD i] H = some (iD (knd p i), H) := by
  rw [Jar _ _ _ rfl]
  have : Jq3 [.agg (chkC p), iD i] = _ := Jht (A := chkT) (B := intT) _ p i
  rw [this, if_pos h]; rfl
theorem C_Of9 : CallOk Tryz.prog 29 Jun := Jlf (kp := Jtb) Qtj mixed Tryz.func29 (by kernel_rfl) (by decide) fun p i d h => by
  split at h
  case isFalse => cases h
  rename_i hp
  cases h
  refine ⟨0, _, ?_, Imp.refl _⟩
  show outD (Jap _ _ _ _ _ [Jak p, iD i] []) = _
  rw [Qbx]
  by_cases hE : endv p.body i < 0
  · simp [Qfm p.body i hp, hE, knd_no hE]
  · have hb : Jbv [(0, 3), (3, 1)] [iD 0, .v (.slice none 0 0), .v (.slice none 0 0), .v (.map none)] [(0, .agg [iD p.params, Jag p.vars, Jaf p.body]), (1, Jjd)] = some (.agg (chkC p)) := rfl
    have hok : ofOk p i = true := by simp only [ofOk, decide_eq_true_eq]; omega
    simp [Qfm p.body i hp, hE, Qgg, hb, Qg4 p i hok]
def fs09j : List Entry := (29, true, Jae Jun) :: Qsa
theorem Qos : ∀ p ∈ fs09j, Jbu Tryz.prog p := Jac (Jal C_Of9) <| Qff
def T09j : Tab := ⟨fs09j, noYl⟩
theorem Qlu : TabOk Tryz.prog T09j := Jb4 Qos
end Go.Proofs.YtinnbafplhcnpaaGreat
end
section
namespace Go.Proofs.YtinnbafplhcnpaaGreat
open Go.RowKit
set_option linter.unusedVariables false
set_option maxRecDepth 100000
def Jn3 : List Nat := []
theorem Jur (n : Nat) (x0 : D) (h : Heap) : Jap Tryz.prog T09j Jn3 n Tryz.f19 [x0] h =
(thnH (boxH 25 x0 h) fun y0 h1 =>
thn (Jaa 2 y0) fun y2 =>
thn (Jad none h1 y2) fun y3 =>
thnH (Jae Jq6 [y3] h1) fun y4 h5 =>
thn (binK .int .neq y4 (iD 0)) fun y6 =>
Jah y6
(some (y4, h5))
(thn (Jad (some 3) h5 y0) fun y7 =>
thnH (Jae Jrn [y7] h5) fun y8 h9 =>
thn (binK .int .neq y8 (iD 0)) fun y10 =>
Jah y10
(some (y8, h9))
(thn (Jaa 2 y0) fun y11 =>
thn (Jad none h9 y11) fun y12 =>
thn (idxH 2 y12 (iD 0)) fun y13 =>
thn (Jaa 0 y13) fun y14 =>
thn (Jad none h9 y14) fun y15 =>
thn (binK .int .neq y15 (iD 20)) fun y16 =>
Jah y16
(some ((iD 15), h9))
(thn (Jad (some 3) h9 y0) fun y17 =>
thnH (Jae Jun [y17, (iD 0)] h9) fun y18 h19 =>
thn (binK .int .neq y18 (iD 2)) fun y20 =>
Jah y20
(some ((iD 15), h19))
(some ((iD 0), h19)))))) := by kernel_rfl
def Jgw : List Nat := []
theorem Jlq (n : Nat) (x0 : D) (h : Heap) : Jap Tryz.prog T09j Jgw n Tryz.f31 [x0] h =
(thnH (boxH 25 x0 h) fun y0 h1 =>
thn (Jaa 2 y0) fun y2 =>
thn (Jad none h1 y2) fun y3 =>
thnH (Jae Jik [y3] h1) fun y4 h5 =>
thn (binK .int .neq y4 (iD 0)) fun y6 =>
Jah y6
(some (y4, h5))
(thn (Jad (some 3) h5 y0) fun y7 =>
thnH (Jae Jrn [y7] h5) fun y8 h9 =>
thn (binK .int .neq y8 (iD 0)) fun y10 =>
Jah y10
(some (y8, h9))
(thn (Jaa 2 y0) fun y11 =>
thn (Jad none h9 y11) fun y12 =>
thn (idxH 2 y12 (iD 0)) fun y13 =>
thn (Jaa 0 y13) fun y14 =>
thn (Jad none h9 y14) fun y15 =>
thn (binK .int .neq y15 (iD 20)) fun y16 =>
Jah y16
(some ((iD 15), h9))
(thn (Jad (some 3) h9 y0) fun y17 =>
thnH (Jae Jun [y17, (iD 0)] h9) fun y18 h19 =>
thn (binK .int .neq y18 (iD 2)) fun y20 =>
Jah y20
(some ((iD 15), h19))
(some ((iD 0), h19)))))) := by kernel_rfl
end Go.Proofs.YtinnbafplhcnpaaGreat
end
section
namespace Go.Proofs.YtinnbafplhcnpaaGreat
open Go.RowKit
set_option linter.unusedVariables false
set_option linter.unusedSimpArgs false
def chk9 (p : Pg) : Int :=
  if Jch p.body ≠ 0 then Jch p.body else
  if Joc p ≠ 0 then Joc p else
  if (nodeAt p.body 0).1 ≠ 20 \/ knd p 0 ≠ 2 then 15 else 0
def Jhe : List D -> Option D := F1 progT fun p => if p.body.length <= 3000000 then some (iD (chk9 p)) else none
theorem Jkk (l : List Nd) (h : l.length <= 3000000) (H : Heap) : Jae Jq6 [Jaf l] H = some (iD (Jch l), H) := by
  rw [Jar _ _ _ rfl]; simp [Jq6, h]
theorem Jgc (l : List Nd) (h : l.length <= 3000000) (H : Heap) : Jae Jik [Jaf l] H = some (iD (Jch l), H) := by
  rw [Jar _ _ _ rfl]; simp [Jik, h]
theorem Jhf (p : Pg) (H : Heap) : Jae Jrn [Jak p] H = some (iD (Joc p), H) := by
  rw [Jar _ _ _ rfl]
  have : Jrn [Jak p] = _ := Jjh (A := progT) _ p
  rw [this]; rfl
theorem Jo5 (p : Pg) (i : Int) (h : p.body.length <= 3000000) (H : Heap) : Jae Jun [Jak p, iD i] H = some (iD (knd p i), H) := by
  rw [Jar _ _ _ rfl]
  have : Jun [Jak p, iD i] = _ := Jht (A := progT) (B := intT) _ p i
  rw [this, if_pos h]; rfl
theorem Qau {l : List Nd} (h : Jch l = 0) : 0 < l.length := by
  unfold Jch at h
  split at h
  · cases h
  · omega
theorem Qp4 : CallOk Tryz.prog 19 Jhe := Jms (kp := Jn3) Qlu mixed Tryz.func19 (by kernel_rfl) (by decide) fun p d h => by
  split at h
  case isFalse => cases h
  rename_i hp
  cases h
  refine ⟨0, _, ?_, Imp.refl _⟩
  show outD (Jap _ _ _ _ _ [Jak p] []) = _
  rw [Jur]
  have ep : D.agg [iD p.params, Jag p.vars, Jaf p.body] = Jak p := rfl
  unfold chk9
  by_cases h1 : Jch p.body = 0
  · by_cases h2 : Joc p = 0
    · have h0 := Qau h1
      have hn : nodeAt p.body 0 = p.body[0] := by unfold nodeAt; exact getD_in _ 0 _ h0
      have hi := Jav p.body 0 h0
      simp only [Jld] at hi
      by_cases h3 : (p.body[0]).1 = 20
      · by_cases h4 : knd p 0 = 2
        · simp [Jkk _ hp, h1, Jhf, h2, hn, hi, h3, Jo5 p 0 hp, h4, ep]
        · simp [Jkk _ hp, h1, Jhf, h2, hn, hi, h3, Jo5 p 0 hp, h4, ep]
      · simp [Jkk _ hp, h1, Jhf, h2, hn, hi, h3, ep]
    · simp [Jkk _ hp, h1, Jhf, h2, ep]
  · simp [Jkk _ hp, h1]
theorem Qd1 : CallOk Tryz.prog 31 Jhe := Jms (kp := Jgw) Qlu mixed Tryz.func31 (by kernel_rfl) (by decide) fun p d h => by
  split at h
  case isFalse => cases h
  rename_i hp
  cases h
  refine ⟨0, _, ?_, Imp.refl _⟩
  show outD (Jap _ _ _ _ _ [Jak p] []) = _
  rw [Jlq]
  have ep : D.agg [iD p.params, Jag p.vars, Jaf p.body] = Jak p := rfl
  unfold chk9
  by_cases h1 : Jch p.body = 0
  · by_cases h2 : Joc p = 0
    · have h0 := Qau h1
      have hn : nodeAt p.body 0 = p.body[0] := by unfold nodeAt; exact getD_in _ 0 _ h0
      have hi := Jav p.body 0 h0
      simp only [Jld] at hi
      by_cases h3 : (p.body[0]).1 = 20
      · by_cases h4 : knd p 0 = 2
        · simp [Jgc _ hp, h1, Jhf, h2, hn, hi, h3, Jo5 p 0 hp, h4, ep]
        · simp [Jgc _ hp, h1, Jhf, h2, hn, hi, h3, Jo5 p 0 hp, h4, ep]
      · simp [Jgc _ hp, h1, Jhf, h2, hn, hi, h3, ep]
    · simp [Jgc _ hp, h1, Jhf, h2, ep]
  · simp [Jgc _ hp, h1]
end Go.Proofs.YtinnbafplhcnpaaGreat
end
section
namespace Go.Proofs.YtinnbafplhcnpaaGreat
open Go.RowKit
set_option linter.unusedVariables false
set_option linter.unusedSimpArgs false
def kv (vs : List Int) (l : List Nd) (i : Int) : Int := Jcp (l.length + 1) vs l i
def Jku (vs : List Int) (x : Nd) (kk tt : List Int) : Int :=
  if Jau vs x.2 (Jb6 x.1) = -1 \/ (askV vs x kk.length (Jb6 x.1)).length ≠ kk.length then -1 else
  if (List.range kk.length).all (fun j => decide (kk.getD j 0 = (askV vs x kk.length (Jb6 x.1)).getD j 0) && !(inner x.1 && decide (0 < j) && !decide (tt.getD j 0 = 20)))
    then Jau vs x.2 (Jb6 x.1) else -1
theorem Qa7 (n : Nat) (f g : Nat -> Bool) (h : ∀ j, j < n -> f j = g j) : (List.range n).all f = (List.range n).all g := by
  rw [Bool.eq_iff_iff]
  simp only [List.all_eq_true, List.mem_range]
  exact ⟨fun q j hj => (h j hj) ▸ q j hj, fun q j hj => (h j hj).symm ▸ q j hj⟩
theorem Qj6 (vs : List Int) (l : List Nd) (i : Int) (h : endv l i < 0) : kv vs l i = -1 := by rw [kv, Jcp, if_pos h]
theorem Jjw (vs : List Int) (l : List Nd) (k : Nat) (h : 0 <= endv l k) : kv vs l k = Jku vs (nodeAt l k) ((Jab l k).map (kv vs l)) ((Jab l k).map fun j => (nodeAt l j).1) := by
  have hkl : k < l.length := by have := (Ja2 l k h).2; simpa using this
  rw [kv, Jcp, if_neg (by omega), Jku]
  simp only [List.length_map]
  rw [Qa7 _ _ (fun j => decide (((Jab l k).map (kv vs l)).getD j 0 = (askV vs (nodeAt l k) (Jab l k).length (Jb6 (nodeAt l k).1)).getD j 0) && !(inner (nodeAt l k).1 && decide (0 < j) && !decide (((Jab l k).map fun j => (nodeAt l j).1).getD j 0 = 20))) fun j hj => ?_]
  have hf := Jbc l k j hj
  rw [getD_in _ _ _ hj, getD_in ((Jab l k).map (kv vs l)) _ _ (by simpa using hj), getD_in ((Jab l k).map fun j => (nodeAt l j).1) _ _ (by simpa using hj)]
  simp only [List.getElem_map]
  rw [kv, Jvp (l.length) (l.length + 1) vs l _ hf.2.1 (by omega) (by omega)]
theorem Qez      (vs : List Int) (l l' : List Nd) (R : Nat → Nat → Prop)
    (hR : ∀ i i', R i i' -> (kv vs l i = kv vs l' i' /\ (nodeAt l i).1 = (nodeAt l' i').1) \/
      (0 ≤ endv l i ∧ 0 ≤ endv l' i' ∧ nodeAt l i = nodeAt l' i' ∧ (Jab   l i).length = (Jab   l' i').length ∧ ∀ j (h : j < (Jab   l i).length) (h' : j < (Jab   l' i').length), ∃ a b : Nat, (Jab   l i)[j] = a ∧ (Jab   l' i')[j] = b ∧ R a b)) :
    ∀ (n i i' : Nat), l.length <= i + n -> R i i' -> kv vs l i = kv vs l' i' /\ (nodeAt l i).1 = (nodeAt l' i').1
  | 0, i, i', hn, h => by
    rcases hR i i' h with h | ⟨h1, _⟩
    · exact h
    · have := (Ja2 l i h1).2; omega
  | n + 1, i, i', hn, h => by
    rcases hR i i' h with h | ⟨h1, h2, h3, h4, h5⟩
    · exact h
    · have hk : ∀ j (hj : j < (Jab   l i).length) (hj' : j < (Jab   l' i').length), kv vs l (Jab   l i)[j] = kv vs l' (Jab   l' i')[j] ∧ (nodeAt l (Jab   l i)[j]).1 = (nodeAt l' (Jab   l' i')[j]).1 := fun j hj hj' => by
        obtain ⟨a, b, ea, eb, hab⟩ := h5 j hj hj'
        have hf := Jbc l i j hj
        rw [ea, eb]
        rw [ea] at hf
        exact Qez vs l l' R hR n a b (by omega) hab
      refine ⟨?_, by rw [h3]⟩
      rw [Jjw _ _ _ h1, Jjw _ _ _ h2, h3]
      congr 1
      · exact List.ext_getElem (by simpa using h4) fun j a b => by simpa using (hk j (by simpa using a) (by simpa using b)).1
      · exact List.ext_getElem (by simpa using h4) fun j a b => by simpa using (hk j (by simpa using a) (by simpa using b)).2
def Seg (l l' : List Nd) (i i' m : Nat) : Prop := ∀ x, x < m -> l[i + x]? = l'[i' + x]?
theorem Jii {l l' : List Nd} {i i' m : Nat} (h : endv l i = ((i + m : Nat) : Int)) (hs : Seg l l' i i' m) : endv l' i' = ((i' + m : Nat) : Int) := by
  obtain ⟨c, hc, he⟩ := Jdw l i (by omega)
  have hcm : c = m := by omega
  subst hcm
  refine Jki l' i' c ?_
  have e : (l.drop i).take c = (l'.drop i').take c := by
    apply List.ext_getElem?
    intro x
    simp only [List.getElem?_take, List.getElem?_drop]
    split
    · rename_i hx; exact hs x hx
    · rfl
  have := Jl6 1 (l.drop i) c hc ((l'.drop i').drop c)
  rwa [e, List.take_append_drop] at this
def R0 (l l' : List Nd) (i i' : Nat) : Prop := ∃ m, endv l i = ((i + m : Nat) : Int) /\ Seg l l' i i' m
theorem Qg8 {l l' : List Nd} {i i' m : Nat} (hs : Seg l l' i i' m) (hm : 0 < m) : nodeAt l i = nodeAt l' i' := by
  have := hs 0 hm
  simp only [Nat.add_zero] at this
  simp [nodeAt, List.getD, this]
theorem Jqz (l : List Nd) (i : Nat) : i < l.length -> arAt l i = ar (nodeAt l i) := fun h => by
  rw [Jb1 _ _ h, nodeAt, Int.toNat_natCast, getD_in _ _ _ h]
theorem Jwu      {l l' : List Nd} {i i' : Nat} (h : R0 l l' i i') : 0 ≤ endv l i ∧ 0 ≤ endv l' i' ∧ nodeAt l i = nodeAt l' i' ∧ (Jab   l i).length = (Jab   l' i').length ∧
    ∀ j (h : j < (Jab l i).length) (h' : j < (Jab l' i').length), ∃ a b : Nat, (Jab l i)[j] = a /\ (Jab l' i')[j] = b /\ R0 l l' a b := by
  obtain ⟨m, hm, hs⟩ := h
  have h1 : 0 <= endv l i := by omega
  have hm' := Jii hm hs
  have h2 : 0 <= endv l' i' := by omega
  have hgt := Jd2 l i h1
  have hn := Qg8 hs (by omega)
  have hil : i < l.length := by have := (Ja2 l i h1).2; simpa using this
  have hil' : i' < l'.length := by have := (Ja2 l' i' h2).2; simpa using this
  have har : arAt l i = arAt l' i' := by rw [Jqz _ _ hil, Jqz _ _ hil', hn]
  have hk : ∀ j, j <= (arAt l i).toNat -> ∃ x, kth l (i + 1) j = ((i + x : Nat) : Int) /\ kth l' (i' + 1) j = ((i' + x : Nat) : Int) := by
    intro j
    induction j with
    | zero => exact fun _ => ⟨1, by simp [kth], by simp [kth]⟩
    | succ j ih =>
      intro hj
      obtain ⟨x, e1, e2⟩ := ih (by omega)
      obtain ⟨g1, g2, g3, g4⟩ := Jd8 l i h1 j (by omega)
      simp only [kth]
      rw [e1] at g1 g2 g3 g4 ⊢
      rw [e2]
      obtain ⟨c, hc, he⟩ := Jdw l (i + x) g3
      refine ⟨x + c, by rw [he]; omega, ?_⟩
      have : endv l' ((i' + x : Nat) : Int) = _ := Jii (l' := l') (i' := i' + x) he fun y hy => by
        rw [Nat.add_assoc, Nat.add_assoc]; exact hs _ (by omega)
      rw [this]; omega
  refine ⟨h1, h2, hn, ?_, fun j hj hj' => ?_⟩
  · rw [Jcb _ _ h1, Jcb _ _ h2, upto_length, upto_length, har]
  · have hj2 : j < (arAt l i).toNat := by rwa [Jcb _ _ h1, upto_length] at hj
    obtain ⟨x, e1, e2⟩ := hk j (by omega)
    obtain ⟨g1, g2, g3, g4⟩ := Jd8 l i h1 j hj2
    refine ⟨i + x, i' + x, ?_, ?_, ?_⟩
    · simp only [Jcb _ _ h1, upto, List.getElem_map, List.getElem_range, e1]
    · simp only [Jcb _ _ h2, upto, List.getElem_map, List.getElem_range, e2]
    · rw [e1] at g1 g2 g3 g4
      obtain ⟨c, hc, he⟩ := Jdw l (i + x) g3
      exact ⟨c, he, fun y hy => by rw [Nat.add_assoc, Nat.add_assoc]; exact hs _ (by omega)⟩
theorem Jxf {l l' : List Nd} {i i' : Nat} (vs : List Int) (h : R0 l l' i i') : kv vs l i = kv vs l' i' /\ (nodeAt l i).1 = (nodeAt l' i').1 :=
  Qez vs l l' (R0 l l') (fun i i' h => .inr (Jwu h)) l.length i i' (by omega) h
theorem Qno (l : List Nd) (k : Nat) (h : 0 <= endv l k) : R0 l (Jcq l k) k 0 := by
  obtain ⟨c, hc, he⟩ := Jdw l k h
  refine ⟨c, he, fun x hx => ?_⟩
  rw [Jcq, if_neg (by omega), he]
  simp only [Int.toNat_natCast, List.getElem?_drop, Nat.zero_add, List.getElem?_take]
  rw [if_pos (by omega)]
theorem Qj7 (vs : List Int) (l : List Nd) (k : Nat) (h : 0 <= endv l k) : kv vs (Jcq l k) 0 = kv vs l k := (Jxf vs (Qno l k h)).1.symm
section
variable {l r : List Nd} {k : Nat}
theorem Jm5        (hE : 0 ≤ endv l k) (hr : endv r 0 = r.length) (i : Nat) (hi : i < k) (h : (k : Int) < endv l i) :
    endv l k <= endv l i /\ endv (Jbx l k r) i + endv l k = endv l i + k + r.length := by
  have hkl : k < l.length := by have := (Ja2 l k hE).2; simpa using this
  have hnlt : ¬ endv l k < 0 := by omega
  obtain ⟨m, hs, he⟩ := Jdw l k hE
  obtain ⟨t, ht, hte⟩ := Jdw l i (by omega)
  obtain ⟨w, hw, hall⟩ := Jsr (k - i) 1 (l.drop i) t ht (by omega)
  have h0 := hall ((l.drop i).drop (k - i))
  rw [List.take_append_drop, ht, List.drop_drop, show i + (k - i) = k from by omega] at h0
  obtain ⟨v, rfl⟩ : ∃ v, w = 1 + v := ⟨w - 1, by omega⟩
  rw [Jm3, hs] at h0
  simp only [Option.bind_some, List.drop_drop] at h0
  have h1 := hall (r ++ l.drop (k + m))
  have h2 : scan 1 (r ++ l.drop (k + m)) = some r.length := by
    have := Jl6 1 r r.length (Je7 hr) (l.drop (k + m))
    rwa [List.take_length] at this
  rw [Jm3, h2] at h1
  simp only [Option.bind_some] at h1
  rw [List.drop_left' rfl] at h1
  have e1 : (Jbx l k r).drop i = (l.drop i).take (k - i) ++ (r ++ l.drop (k + m)) := by
    rw [Jbx, if_neg hnlt, he, List.append_assoc]
    rw [List.drop_append_of_le_length (by simp; omega)]
    simp [List.drop_take]
    omega
  cases hv : scan v (l.drop (k + m)) with
  | none => rw [hv] at h0; cases h0
  | some c =>
    rw [hv] at h0 h1
    simp only [Option.map_some, Option.some.injEq] at h0 h1
    rw [<- e1] at h1
    have := Jki _ _ _ h1
    rw [this]
    omega
def R1 (l : List Nd) (k : Nat) (r : List Nd) (i i' : Nat) : Prop := R0 l (Jbx l k r) i i' \/ (i <= k /\ i' = i /\ endv l k <= endv l i)
theorem Jl8 (hE : 0 <= endv l k) (i : Nat) (h0 : 0 <= endv l i) (h : endv l i <= k) : R0 l (Jbx l k r) i i := by
  obtain ⟨m, hs, he⟩ := Jdw l i h0
  exact ⟨m, he, fun x hx => (Jk0 hE (i + x) (by omega)).symm⟩
theorem Jl7 (hE : 0 <= endv l k) (i b : Nat) (h0 : 0 <= endv l i) (h : endv l k <= i) (hb : (b : Int) + endv l k = i + k + r.length) : R0 l (Jbx l k r) i b := by
  obtain ⟨m, hs, he⟩ := Jdw l i h0
  refine ⟨m, he, fun x hx => ?_⟩
  rw [<- Jsw hE (i + x) (by omega)]
  congr 1
  omega
theorem Qb5 (hE : 0 <= endv l k) (hr : endv r 0 = r.length) : R0 r (Jbx l k r) 0 k := by
  have hkl : k < l.length := by have := (Ja2 l k hE).2; simpa using this
  refine ⟨r.length, by rw [show ((0 : Nat) : Int) = 0 from rfl, hr]; omega, fun x hx => ?_⟩
  rw [Jbx, if_neg (by omega), List.append_assoc, List.getElem?_append_right (by simp; omega)]
  simp only [Int.toNat_natCast, List.length_take]
  rw [List.getElem?_append_left (by omega)]
  congr 1
  omega
end
end Go.Proofs.YtinnbafplhcnpaaGreat
end
section
namespace Go.Proofs.YtinnbafplhcnpaaGreat
open Go.RowKit
set_option linter.unusedVariables false
set_option linter.unusedSimpArgs false
def Jz7 : RuleT -> Bool
  | .plain ks is => decide (0 <= is /\ is <= 2) && ks.all fun k => decide (0 <= k)
  | .array ks is => decide (0 <= is /\ is <= 2) && ks.all fun k => decide (0 <= k)
  | _ => true
theorem Qac : ∀ (ks : List Int) (rs : List RuleT) (k : Int) (v : RuleT), Qad ks rs k = some v -> v ∈ rs
  | [], rs, k, v, h => by cases rs <;> cases h
  | a :: r, [], k, v, h => by cases h
  | a :: r, b :: s, k, v, h => by
    simp only [Qad] at h
    split at h
    · cases h; exact List.mem_cons_self ..
    · exact List.mem_cons_of_mem _ (Qac r s k v h)
theorem Jsu (t : Int) : Jz7 (Jb6 t) = true := by
  unfold Jb6
  cases h : Qad Jvc ruleRs t with
  | none => rfl
  | some v =>
    have hm := Qac _ _ _ _ h
    have : ∀ v ∈ ruleRs, Jz7 v = true := by decide
    exact this v hm
theorem Qin {vs : List Int} {n : Int} (h : 0 <= Jfd vs n) : 0 <= n /\ n.toNat < vs.length /\ Jfd vs n = vs.getD n.toNat 0 := by
  unfold Jfd at h ⊢
  split at h
  · omega
  · rename_i hn
    rw [if_neg hn]
    by_cases hl : n.toNat < vs.length
    · exact ⟨by omega, hl, by rw [getD_in _ _ _ hl, getD_in _ _ _ hl]⟩
    · rw [List.getD_eq_getElem?_getD, List.getElem?_eq_none (by omega)] at h; simp at h
theorem Qgh (vs : List Int) (n : Int) (r : RuleT) (h : Jz7 r = true) (hn : Jau vs n r ≠ -1) : 0 <= Jau vs n r /\ Jau vs n r <= 2 := by
  cases r with
  | plain ks is => simp [Jz7] at h; exact h.1
  | array ks is =>
    simp [Jz7] at h
    simp only [Jau, Jeo] at hn ⊢
    split
    · rename_i hz; rw [if_pos hz] at hn; omega
    · exact h.1
  | scalar b =>
    simp only [Jau, Jcv] at hn ⊢
    split
    · split <;> omega
    · rename_i hz; rw [if_neg hz] at hn; omega
  | none => simp [Jau]
theorem Qsx (vs : List Int) (x : Nd) (n : Nat) (r : RuleT) (h : Jz7 r = true) (hn : Jau vs x.2 r ≠ -1) : ∀ k ∈ askV vs x n r, 0 <= k := by
  cases r with
  | plain ks is => simp [Jz7] at h; simpa [askV] using h.2
  | array ks is => simp [Jz7] at h; simpa [askV] using h.2
  | none => intro k hk; simp [askV] at hk; omega
  | scalar b =>
    cases b with
    | false => simp [askV]
    | true =>
      simp only [Jau, Jcv] at hn
      split at hn
      · rename_i hz
        obtain ⟨a, b, c⟩ := Qin (vs := vs) (n := x.2) (by omega)
        intro k hk
        simp only [askV] at hk
        rw [if_pos b] at hk
        simp only [List.mem_singleton] at hk
        rw [hk, <- c]; omega
      · exact absurd rfl hn
theorem Qf5 (vs : List Int) (x : Nd) (kk tt : List Int) (h : Jku vs x kk tt ≠ -1) : Jau vs x.2 (Jb6 x.1) ≠ -1 /\ (0 <= Jku vs x kk tt /\ Jku vs x kk tt <= 2) /\ ∀ k ∈ kk, 0 <= k := by
  unfold Jku at h ⊢
  split at h
  · exact absurd rfl h
  · rename_i h1
    rw [if_neg h1]
    split at h
    · rename_i h2
      rw [if_pos h2]
      refine ⟨h, Qgh _ _ _ (Jsu _) h, fun k hk => ?_⟩
      obtain ⟨j, hj, rfl⟩ := List.getElem_of_mem hk
      simp only [List.all_eq_true, List.mem_range] at h2
      have := h2 j hj
      simp only [Bool.and_eq_true, decide_eq_true_eq] at this
      have hl : (askV vs x kk.length (Jb6 x.1)).length = kk.length := by
        rcases Nat.decEq (askV vs x kk.length (Jb6 x.1)).length kk.length with h | h
        · exact absurd (.inr h) h1
        · exact h
      have t := this.1
      rw [getD_in _ _ _ hj, getD_in _ _ _ (by omega)] at t
      rw [t]
      exact Qsx vs x kk.length _ (Jsu _) h _ (List.getElem_mem _)
    · exact absurd rfl h
theorem Qew (vs : List Int) (l : List Nd) (i : Int) (h : kv vs l i ≠ -1) : 0 <= endv l i := by
  rcases Jdo l i with e | e
  · exact absurd (Qj6 vs l i (by omega)) h
  · exact e
theorem kid_at (l : List Nd) (i : Nat) (h : 0 <= endv l i) (x : Nat) (h1 : i < x) (h2 : (x : Int) < endv l i) : ∃ j, ∃ hj : j < (Jab l i).length, (Jab l i)[j] <= x /\ (x : Int) < endv l (Jab l i)[j] := by
  have hk : ∀ j, j <= (arAt l i).toNat -> kth l (i + 1) j <= x \/ ∃ c, c < j /\ kth l (i + 1) c <= x /\ (x : Int) < kth l (i + 1) (c + 1) := by
    intro j
    induction j with
    | zero => intro _; left; simp only [kth]; omega
    | succ j ih =>
      intro hj
      rcases ih (by omega) with e | ⟨c, e1, e2, e3⟩
      · by_cases hx : kth l (i + 1) (j + 1) <= x
        · exact .inl hx
        · exact .inr ⟨j, by omega, e, by omega⟩
      · exact .inr ⟨c, by omega, e2, e3⟩
  rcases hk _ (Nat.le_refl _) with e | ⟨c, e1, e2, e3⟩
  · rw [Jr3 l i h] at e; omega
  · have hj : c < (Jab l i).length := by rw [Jcb _ _ h, upto_length]; exact e1
    have he : (Jab l i)[c] = kth l (i + 1) c := by simp only [Jcb _ _ h, upto, List.getElem_map, List.getElem_range]
    exact ⟨c, hj, by rw [he]; exact e2, by rw [he, (Jxe l i h c e1).2]; exact e3⟩
theorem Jvo (vs : List Int) (l : List Nd) : ∀ (n i : Nat), l.length <= i + n -> kv vs l i ≠ -1 -> ∀ x : Nat, i <= x -> (x : Int) < endv l i -> 0 <= kv vs l x /\ kv vs l x <= 2
  | 0, i, hn, h, x, h1, h2 => by have := (Ja2 l i (Qew vs l i h)).2; omega
  | n + 1, i, hn, h, x, h1, h2 => by
    have hE := Qew vs l i h
    have hs := Jjw vs l i hE
    rw [hs] at h
    obtain ⟨f1, f2, f3⟩ := Qf5 _ _ _ _ h
    by_cases hx : x = i
    · subst hx; rw [hs]; exact f2
    · obtain ⟨j, hj, g1, g2⟩ := kid_at l i hE x (by omega) h2
      have hf := Jbc l i j hj
      have hk : 0 <= kv vs l (Jab l i)[j] := f3 _ (List.mem_map.2 ⟨_, List.getElem_mem _, rfl⟩)
      obtain ⟨a, ha⟩ := Int.eq_ofNat_of_zero_le (show 0 <= (Jab l i)[j] by omega)
      rw [ha] at hf hk g1 g2
      have hk' : kv vs l a ≠ -1 := by
        intro e
        have : kv vs l ((a : Nat) : Int) = -1 := e
        omega
      exact Jvo vs l n a (by omega) hk' x (by omega) g2
end Go.Proofs.YtinnbafplhcnpaaGreat
end
section
namespace Go.Proofs.YtinnbafplhcnpaaGreat
open Go.RowKit
set_option linter.unusedVariables false
set_option linter.unusedSimpArgs false
def sm20 (a b : Int) : Prop := a = 20 ↔ b = 20
theorem Jsk (a : Int) : sm20 a a := Iff.rfl
theorem Qiw {a b : Int} (h : sm20 a b) : sm20 b a := h.symm
theorem Ju7 (vs : List Int) (x : Nd) (kk kk' tt tt' : List Int) (h1 : kk = kk') (h2 : kk.length = tt.length) (h3 : ∀ j, j < tt.length -> sm20 (tt.getD j 0) (tt'.getD j 0)) : Jku vs x kk tt = Jku vs x kk' tt' := by
  subst h1
  unfold Jku
  have : (List.range kk.length).all (fun j => decide (kk.getD j 0 = (askV vs x kk.length (Jb6 x.1)).getD j 0) && !(inner x.1 && decide (0 < j) && !decide (tt.getD j 0 = 20))) = (List.range kk.length).all (fun j => decide (kk.getD j 0 = (askV vs x kk.length (Jb6 x.1)).getD j 0) && !(inner x.1 && decide (0 < j) && !decide (tt'.getD j 0 = 20))) := by
    refine Qa7 _ _ _ fun j hj => ?_
    have : decide (tt.getD j 0 = 20) = decide (tt'.getD j 0 = 20) := decide_eq_decide.2 (h3 j (by omega))
    rw [this]
  rw [this]
theorem Jvn        (vs : List Int) (l l' : List Nd) (R : Nat → Nat → Prop)
    (hR : ∀ i i', R i i' -> (kv vs l i = kv vs l' i' /\ sm20 (nodeAt l i).1 (nodeAt l' i').1) \/
      (0 ≤ endv l i ∧ 0 ≤ endv l' i' ∧ nodeAt l i = nodeAt l' i' ∧ (Jab   l i).length = (Jab   l' i').length ∧ ∀ j (h : j < (Jab   l i).length) (h' : j < (Jab   l' i').length), ∃ a b : Nat, (Jab   l i)[j] = a ∧ (Jab   l' i')[j] = b ∧ R a b)) :
    ∀ (n i i' : Nat), l.length <= i + n -> R i i' -> kv vs l i = kv vs l' i' /\ sm20 (nodeAt l i).1 (nodeAt l' i').1
  | 0, i, i', hn, h => by
    rcases hR i i' h with h | ⟨h1, _⟩
    · exact h
    · have := (Ja2 l i h1).2; omega
  | n + 1, i, i', hn, h => by
    rcases hR i i' h with h | ⟨h1, h2, h3, h4, h5⟩
    · exact h
    · have hk : ∀ j (hj : j < (Jab   l i).length) (hj' : j < (Jab   l' i').length), kv vs l (Jab   l i)[j] = kv vs l' (Jab   l' i')[j] ∧ sm20 (nodeAt l (Jab   l i)[j]).1 (nodeAt l' (Jab   l' i')[j]).1 := fun j hj hj' => by
        obtain ⟨a, b, ea, eb, hab⟩ := h5 j hj hj'
        have hf := Jbc l i j hj
        rw [ea, eb]
        rw [ea] at hf
        exact Jvn vs l l' R hR n a b (by omega) hab
      refine ⟨?_, by rw [h3]; exact Jsk _⟩
      rw [Jjw _ _ _ h1, Jjw _ _ _ h2, h3]
      refine Ju7 vs _ _ _ _ _ ?_ ?_ ?_
      · exact List.ext_getElem (by simpa using h4) fun j a b => by simpa using (hk j (by simpa using a) (by simpa using b)).1
      · simp
      · intro j hj
        have hj1 : j < (Jab l i).length := by simpa using hj
        have hj2 : j < (Jab l' i').length := by omega
        rw [getD_in _ _ _ (by simpa using hj1), getD_in _ _ _ (by simpa using hj2)]
        simp only [List.getElem_map]
        exact (hk j hj1 hj2).2
section
variable {l r : List Nd} {k : Nat}
theorem Qjd       (vs : List Int) (hE : 0 ≤ endv l k) (hr : endv r 0 = r.length) (hk : kv vs r 0 = kv vs l k) (ht : sm20 (nodeAt r 0).1 (nodeAt l k).1) (i i' : Nat) (h : R1 l k r i i') :
    (kv vs l i = kv vs (Jbx l k r) i' /\ sm20 (nodeAt l i).1 (nodeAt (Jbx l k r) i').1) \/
      (0 <= endv l i /\ 0 <= endv (Jbx l k r) i' /\ nodeAt l i = nodeAt (Jbx l k r) i' /\ (Jab l i).length = (Jab (Jbx l k r) i').length /\ ∀ j (h : j < (Jab l i).length) (h' : j < (Jab (Jbx l k r) i').length), ∃ a b : Nat, (Jab l i)[j] = a /\ (Jab (Jbx l k r) i')[j] = b /\ R1 l k r a b) := by
  rcases h with h | ⟨h1, rfl, h2⟩
  · obtain ⟨a, b, c, d, e⟩ := Jwu h
    refine .inr ⟨a, b, c, d, fun j h h' => ?_⟩
    obtain ⟨x, y, e1, e2, e3⟩ := e j h h'
    exact ⟨x, y, e1, e2, .inl e3⟩
  · by_cases hik : i' = k
    · subst hik
      have : kv vs r 0 = kv vs (Jbx l i' r) i' /\ (nodeAt r 0).1 = (nodeAt (Jbx l i' r) i').1 := Jxf vs (Qb5 hE hr)
      exact .inl ⟨by rw [<- this.1]; exact hk.symm, by rw [<- this.2]; exact Qiw ht⟩
    · have hgtk := Jd2 l k hE
      have hi : i' < k := by omega
      have h0 : 0 <= endv l i' := by omega
      obtain ⟨_, hab⟩ := Jm5 hE hr i' hi (by omega)
      have h0' : 0 <= endv (Jbx l k r) i' := by omega
      have hil : i' < l.length := by have := (Ja2 l i' h0).2; simpa using this
      have hil' : i' < (Jbx l k r).length := by have := (Ja2 _ i' h0').2; simpa using this
      have hn : nodeAt l i' = nodeAt (Jbx l k r) i' := by simp [nodeAt, List.getD, Jk0 hE i' hi]
      have har : arAt l i' = arAt (Jbx l k r) i' := by rw [Jqz _ _ hil, Jqz _ _ hil', hn]
      have hone : ∀ a b : Nat, ((a <= k /\ b = a) \/ (endv l k <= a /\ (b : Int) + endv l k = a + k + r.length)) -> 0 <= endv l a -> R1 l k r a b /\ ∃ a' b' : Nat, endv l a = a' /\ endv (Jbx l k r) b = b' /\ ((a' <= k /\ b' = a') \/ (endv l k <= a' /\ (b' : Int) + endv l k = a' + k + r.length)) := by
        intro a b hP ha
        obtain ⟨c, hc, hce⟩ := Jdw l a ha
        rcases hP with ⟨p1, rfl⟩ | ⟨p1, p2⟩
        · by_cases hbk : b = k
          · subst hbk
            refine ⟨.inr ⟨by omega, rfl, by omega⟩, b + c, b + r.length, hce, Jww hE hr, .inr ⟨by omega, by omega⟩⟩
          · by_cases hlow : endv l b <= k
            · have hseg := Jl8 (r := r) hE b ha hlow
              obtain ⟨m, hm, hs⟩ := hseg
              exact ⟨.inl ⟨m, hm, hs⟩, b + m, b + m, hm, Jii hm hs, .inl ⟨by omega, rfl⟩⟩
            · obtain ⟨q1, q2⟩ := Jm5 (r := r) hE hr b (by omega) (by omega)
              obtain ⟨d, hd⟩ := Int.eq_ofNat_of_zero_le (show 0 <= endv (Jbx l k r) b by omega)
              exact ⟨.inr ⟨by omega, rfl, q1⟩, b + c, d, hce, hd, .inr ⟨by omega, by omega⟩⟩
        · have hseg := Jl7 (r := r) hE a b ha p1 p2
          obtain ⟨m, hm, hs⟩ := hseg
          exact ⟨.inl ⟨m, hm, hs⟩, a + m, b + m, hm, Jii hm hs, .inr ⟨by omega, by omega⟩⟩
      have hkk : ∀ j, j <= (arAt l i').toNat -> ∃ a b : Nat, kth l (i' + 1) j = a /\ kth (Jbx l k r) (i' + 1) j = b /\ ((a <= k /\ b = a) \/ (endv l k <= a /\ (b : Int) + endv l k = a + k + r.length)) := by
        intro j
        induction j with
        | zero => exact fun _ => ⟨i' + 1, i' + 1, by simp [kth], by simp [kth], .inl ⟨by omega, rfl⟩⟩
        | succ j ih =>
          intro hj
          obtain ⟨a, b, e1, e2, hP⟩ := ih (by omega)
          obtain ⟨g1, g2, g3, g4⟩ := Jd8 l i' h0 j (by omega)
          rw [e1] at g3
          obtain ⟨_, a', b', f1, f2, f3⟩ := hone a b hP g3
          simp only [kth]
          exact ⟨a', b', by rw [e1, f1], by rw [e2, f2], f3⟩
      refine .inr ⟨h0, h0', hn, ?_, fun j hj hj' => ?_⟩
      · rw [Jcb _ _ h0, Jcb _ _ h0', upto_length, upto_length, har]
      · have hj2 : j < (arAt l i').toNat := by rwa [Jcb _ _ h0, upto_length] at hj
        obtain ⟨a, b, e1, e2, hP⟩ := hkk j (by omega)
        obtain ⟨g1, g2, g3, g4⟩ := Jd8 l i' h0 j hj2
        rw [e1] at g3
        refine ⟨a, b, ?_, ?_, (hone a b hP g3).1⟩
        · simp only [Jcb _ _ h0, upto, List.getElem_map, List.getElem_range, e1]
        · simp only [Jcb _ _ h0', upto, List.getElem_map, List.getElem_range, e2]
end
end Go.Proofs.YtinnbafplhcnpaaGreat
end
section
namespace Go.Proofs.YtinnbafplhcnpaaGreat
open Go.RowKit
set_option linter.unusedVariables false
set_option linter.unusedSimpArgs false
section
variable {l r : List Nd} {k : Nat}
theorem Qq7     (hE : 0 ≤ endv l k) (hr : endv r 0 = r.length) (i i' : Nat) (h : R1 l k r i i') :
    (i = k /\ i' = k) \/
      (0 <= endv l i /\ 0 <= endv (Jbx l k r) i' /\ nodeAt l i = nodeAt (Jbx l k r) i' /\ (Jab l i).length = (Jab (Jbx l k r) i').length /\ ∀ j (h : j < (Jab l i).length) (h' : j < (Jab (Jbx l k r) i').length), ∃ a b : Nat, (Jab l i)[j] = a /\ (Jab (Jbx l k r) i')[j] = b /\ R1 l k r a b) := by
  rcases h with h | ⟨h1, rfl, h2⟩
  · obtain ⟨a, b, c, d, e⟩ := Jwu h
    refine .inr ⟨a, b, c, d, fun j h h' => ?_⟩
    obtain ⟨x, y, e1, e2, e3⟩ := e j h h'
    exact ⟨x, y, e1, e2, .inl e3⟩
  · by_cases hik : i' = k
    · exact .inl ⟨hik, hik⟩
    · have hgtk := Jd2 l k hE
      have hi : i' < k := by omega
      have h0 : 0 <= endv l i' := by omega
      obtain ⟨_, hab⟩ := Jm5 hE hr i' hi (by omega)
      have h0' : 0 <= endv (Jbx l k r) i' := by omega
      have hil : i' < l.length := by have := (Ja2 l i' h0).2; simpa using this
      have hil' : i' < (Jbx l k r).length := by have := (Ja2 _ i' h0').2; simpa using this
      have hn : nodeAt l i' = nodeAt (Jbx l k r) i' := by simp [nodeAt, List.getD, Jk0 hE i' hi]
      have har : arAt l i' = arAt (Jbx l k r) i' := by rw [Jqz _ _ hil, Jqz _ _ hil', hn]
      have hone : ∀ a b : Nat, ((a <= k /\ b = a) \/ (endv l k <= a /\ (b : Int) + endv l k = a + k + r.length)) -> 0 <= endv l a -> R1 l k r a b /\ ∃ a' b' : Nat, endv l a = a' /\ endv (Jbx l k r) b = b' /\ ((a' <= k /\ b' = a') \/ (endv l k <= a' /\ (b' : Int) + endv l k = a' + k + r.length)) := by
        intro a b hP ha
        obtain ⟨c, hc, hce⟩ := Jdw l a ha
        rcases hP with ⟨p1, rfl⟩ | ⟨p1, p2⟩
        · by_cases hbk : b = k
          · subst hbk
            refine ⟨.inr ⟨by omega, rfl, by omega⟩, b + c, b + r.length, hce, Jww hE hr, .inr ⟨by omega, by omega⟩⟩
          · by_cases hlow : endv l b <= k
            · have hseg := Jl8 (r := r) hE b ha hlow
              obtain ⟨m, hm, hs⟩ := hseg
              exact ⟨.inl ⟨m, hm, hs⟩, b + m, b + m, hm, Jii hm hs, .inl ⟨by omega, rfl⟩⟩
            · obtain ⟨q1, q2⟩ := Jm5 (r := r) hE hr b (by omega) (by omega)
              obtain ⟨d, hd⟩ := Int.eq_ofNat_of_zero_le (show 0 <= endv (Jbx l k r) b by omega)
              exact ⟨.inr ⟨by omega, rfl, q1⟩, b + c, d, hce, hd, .inr ⟨by omega, by omega⟩⟩
        · have hseg := Jl7 (r := r) hE a b ha p1 p2
          obtain ⟨m, hm, hs⟩ := hseg
          exact ⟨.inl ⟨m, hm, hs⟩, a + m, b + m, hm, Jii hm hs, .inr ⟨by omega, by omega⟩⟩
      have hkk : ∀ j, j <= (arAt l i').toNat -> ∃ a b : Nat, kth l (i' + 1) j = a /\ kth (Jbx l k r) (i' + 1) j = b /\ ((a <= k /\ b = a) \/ (endv l k <= a /\ (b : Int) + endv l k = a + k + r.length)) := by
        intro j
        induction j with
        | zero => exact fun _ => ⟨i' + 1, i' + 1, by simp [kth], by simp [kth], .inl ⟨by omega, rfl⟩⟩
        | succ j ih =>
          intro hj
          obtain ⟨a, b, e1, e2, hP⟩ := ih (by omega)
          obtain ⟨g1, g2, g3, g4⟩ := Jd8 l i' h0 j (by omega)
          rw [e1] at g3
          obtain ⟨_, a', b', f1, f2, f3⟩ := hone a b hP g3
          simp only [kth]
          exact ⟨a', b', by rw [e1, f1], by rw [e2, f2], f3⟩
      refine .inr ⟨h0, h0', hn, ?_, fun j hj hj' => ?_⟩
      · rw [Jcb _ _ h0, Jcb _ _ h0', upto_length, upto_length, har]
      · have hj2 : j < (arAt l i').toNat := by rwa [Jcb _ _ h0, upto_length] at hj
        obtain ⟨a, b, e1, e2, hP⟩ := hkk j (by omega)
        obtain ⟨g1, g2, g3, g4⟩ := Jd8 l i' h0 j hj2
        rw [e1] at g3
        refine ⟨a, b, ?_, ?_, (hone a b hP g3).1⟩
        · simp only [Jcb _ _ h0, upto, List.getElem_map, List.getElem_range, e1]
        · simp only [Jcb _ _ h0', upto, List.getElem_map, List.getElem_range, e2]
theorem Jtl (f g : Int -> Int) : ∀ (ks ks' : List Int) (m m' : Int), ks.length = ks'.length -> m' <= m -> (∀ j (h : j < ks.length) (h' : j < ks'.length), g ks'[j] <= f ks[j]) -> ks'.foldl (fun a x => max a (g x)) m' <= ks.foldl (fun a x => max a (f x)) m
  | [], [], m, m', _, hm, _ => hm
  | [], y :: s, m, m', h, _, _ => by cases h
  | x :: r, [], m, m', h, _, _ => by cases h
  | x :: r, y :: s, m, m', h, hm, hh => by
    simp only [List.foldl_cons]
    refine Jtl f g r s _ _ (by simpa using h) ?_ fun j h1 h2 => by
      have := hh (j + 1) (by simp only [List.length_cons]; omega) (by simp only [List.length_cons]; omega)
      simp only [List.getElem_cons_succ] at this
      exact this
    have := hh 0 (by simp) (by simp)
    simp only [List.getElem_cons_zero] at this
    omega
theorem Qk0     (l l' : List Nd) (R : Nat → Nat → Prop)
    (hR : ∀ i i', R i i' -> (∀ f f', l.length <= i + f -> depV f' l' i' <= depV f l i) \/
      (0 ≤ endv l i ∧ 0 ≤ endv l' i' ∧ (Jab   l i).length = (Jab   l' i').length ∧ ∀ j (h : j < (Jab   l i).length) (h' : j < (Jab   l' i').length), ∃ a b : Nat, (Jab   l i)[j] = a ∧ (Jab   l' i')[j] = b ∧ R a b)) :
    ∀ (f f' i i' : Nat), l.length <= i + f -> R i i' -> depV f' l' i' <= depV f l i
  | f, 0, i, i', hn, h => (Jnc f l i).1
  | 0, f' + 1, i, i', hn, h => by
    rcases hR i i' h with h | ⟨h1, _⟩
    · exact h 0 (f' + 1) hn
    · have := (Ja2 l i h1).2; omega
  | f + 1, f' + 1, i, i', hn, h => by
    rcases hR i i' h with h | ⟨h1, h2, h4, h5⟩
    · exact h (f + 1) (f' + 1) hn
    · simp only [depV]
      rw [if_neg (by omega), if_neg (by omega)]
      have := Jtl (depV f l) (depV f' l') (Jab l i) (Jab l' i') 0 0 h4 (Int.le_refl _) fun j hj hj' => by
        obtain ⟨a, b, ea, eb, hab⟩ := h5 j hj hj'
        have hf := Jbc l i j hj
        rw [ea] at hf
        rw [ea, eb]
        exact Qk0 l l' R hR f f' a b (by omega) hab
      omega
theorem Qfq (y : Nd) (hy : ar y = 0) (hE : 0 <= endv l k) (f f' : Nat) (hl : endv l 0 = l.length) (hf : l.length <= f) : depV f' (Jbx l k [y]) 0 <= depV f l 0 := by
  have hr : endv [y] 0 = ([y] : List Nd).length := by
    refine Jm2 ?_
    rw [show (1 : Nat) = 0 + 1 from rfl, Jc6, if_neg (by omega), hy]
    rfl
  have hkl : k < l.length := by have := (Ja2 l k hE).2; simpa using this
  have key : ∀ f f', l.length <= k + f -> depV f' (Jbx l k [y]) k <= depV f l k := by
    intro f f' hf
    have hend := Jww (r := [y]) hE hr
    obtain ⟨q, rfl⟩ : ∃ q, f = q + 1 := ⟨f - 1, by omega⟩
    have h1 : 1 <= depV (q + 1) l k := by
      rw [Jxy _ _ _ hE]
      have := (Jon q l (Jab l k)).1
      omega
    cases f' with
    | zero =>
      show (0 : Int) <= depV (q + 1) l k
      omega
    | succ f' =>
      have har : arAt (Jbx l k [y]) k = 0 := by
        have hl' : k < (Jbx l k [y]).length := by
          have := (Ja2 (Jbx l k [y]) k (by rw [hend]; omega)).2
          simpa using this
        rw [Jb1 _ _ hl']
        have : (Jbx l k [y])[k]? = some y := by
          rw [Jbx, if_neg (by omega), List.append_assoc, List.getElem?_append_right (by simp; omega)]
          simp only [Int.toNat_natCast, List.length_take, show min k l.length = k from by omega, Nat.sub_self]
          rfl
        rw [(List.getElem?_eq_some_iff.1 this).2, hy]
      have hk : Jab (Jbx l k [y]) k = [] := by
        rw [Jcb _ _ (by rw [hend]; omega), har]; rfl
      have e : depV (f' + 1) (Jbx l k [y]) k = 1 := by
        simp only [depV]
        rw [if_neg (by rw [hend]; omega), hk]
        rfl
      rw [e]
      exact h1
  refine Qk0 l (Jbx l k [y]) (R1 l k [y]) (fun i i' h => ?_) f f' 0 0 (by omega) (.inr ⟨by omega, rfl, by
    have := Jgl l k
    rw [show ((0 : Nat) : Int) = 0 from rfl, hl]; exact this⟩)
  rcases Qq7 hE hr i i' h with ⟨e1, e2⟩ | ⟨a, b, c, d, e⟩
  · rw [e1, e2]; exact .inl key
  · exact .inr ⟨a, b, d, e⟩
end
end Go.Proofs.YtinnbafplhcnpaaGreat
end
section
namespace Go.Proofs.YtinnbafplhcnpaaGreat
open Go.RowKit
set_option linter.unusedVariables false
set_option maxRecDepth 100000
end Go.Proofs.YtinnbafplhcnpaaGreat
end
section
namespace Go.Proofs.YtinnbafplhcnpaaGreat
open Go.RowKit
set_option linter.unusedVariables false
set_option linter.unusedSimpArgs false
theorem Jdk (p : Pg) (H : Heap) : Jae Qbh [Jak p] H = some (bD (fewV p), H) := by
  rw [Jar _ _ _ rfl]
  have : Qbh [Jak p] = _ := Jjh (A := progT) _ p
  rw [this]; rfl
theorem Jqa (p q : Pg) (hp : p.fits) (hq : q.fits) (H : Heap) : Jae Jhy [Jak p, Jak q] H = some (bD (decide (p = q)), H) := by
  rw [Jar _ _ _ rfl]
  have : Jhy [Jak p, Jak q] = _ := Jht (A := progT) (B := progT) _ p q
  rw [this, if_pos ⟨hp, hq⟩]; rfl
theorem Jxu {p : Pg} (h : fewV p = true) : p.body.length <= 60 /\ p.vars.length <= 20 /\ p.fits /\ p.body.length <= 3000000 := by
  simp only [fewV, Bool.and_eq_true, decide_eq_true_eq] at h
  exact ⟨h.1, h.2, ⟨by omega, by omega⟩, by omega⟩
@[simp] theorem cells_prog (p : Pg) : cellsD (Jak p) = some [iD p.params, Jag p.vars, Jaf p.body] := rfl
end Go.Proofs.YtinnbafplhcnpaaGreat
end
