import Derived.ChangeMaps5
import Derived.Test.YtinnbafplhcnpaaGreatHf
import Derived.Test.YtinnbafplhcnpaaGreatHh
import Derived.Test.YtinnbafplhcnpaaGreatHi
import Derived.Test.YtinnbafplhcnpaaGreatHp
import Derived.Test.YtinnbafplhcnpaaGreatHq
import Derived.Test.YtinnbafplhcnpaaGreatHs
section
namespace Go.Proofs.YtinnbafplhcnpaaGreat
open Go.RowKit
set_option linter.unusedVariables false
set_option linter.unusedSimpArgs false
set_option maxRecDepth 100000
theorem Jn7 (H T : Heap) (k : Nat) (o : HO) (h : T[k]? = some o) : (H ++ T)[H.length + k]? = some o := by
  rw [List.getElem?_append_right (by omega), Nat.add_sub_cancel_left]; exact h
theorem Qs4 (H T : Heap) (k : Nat) (o : HO) : (H ++ T).set (H.length + k) o = H ++ T.set k o := by
  rw [List.set_append_right _ _ (by omega), Nat.add_sub_cancel_left]
theorem Joo (H T : Heap) (k : Nat) (o : HO) (h : H[k]? = some o) : (H ++ T)[k]? = some o := by
  rw [List.getElem?_append_left (List.getElem?_eq_some_iff.1 h).1]; exact h
def bdB : List D := [iD 20, iD 1, iD 25, iD 0, iD 1, iD 1]
def bdV : List Nd := [(20, 1), (25, 0), (1, 1)]
def ppV : Pg := ⟨0, [], bdV⟩
def rrV : List Nd := [(20, 1), (25, 0), (1, 0)]
def pxD (id : Nat) : D := .agg [iD 0, .v (.slice none 0 0), .hs id 3]
theorem Jsb (H : Heap) (n id : Nat) (t : TypeId) (h : H[id]? = some (.cells t 2 bdB)) : Jbs H (n + 1) (.hs id 3) = some (Jaf bdV) := by
  rw [Jtu H n id 3 t 2 bdB h (by decide)]
  have : (bdB.take (3 * 2)).mapM (Jbs H n) = some bdB := by
    show [iD 20, iD 1, iD 25, iD 0, iD 1, iD 1].mapM (Jbs H n) = _
    simp only [List.mapM_cons, Jbt H n (iD _) rfl]; rfl
  rw [this]; rfl
def chB (id : Nat) : List D := [iD 0, .v (.slice none 0 0), .hs id 3, iD 1, iD 0]
theorem Qo0 (H : Heap) (id : Nat) (t : TypeId) (h : H[id]? = some (.cells t 2 bdB)) : [D.agg (chB id)].mapM (Jbs H 9) = some [.agg [iD 0, .v (.slice none 0 0), Jaf bdV, iD 1, iD 0]] := by
  have : Jbs H 9 (.agg (chB id)) = some (.agg [iD 0, .v (.slice none 0 0), Jaf bdV, iD 1, iD 0]) := by
    show (([iD 0, .v (.slice none 0 0), .hs id 3, iD 1, iD 0].mapM (Jbs H 8)).map D.agg) = _
    simp only [List.mapM_cons, Jbt H 8 (iD _) rfl, Jbt H 8 (.v (.slice none 0 0)) rfl, Jsb H 7 id t h]; rfl
  rw [List.mapM_cons, this]; rfl
theorem Qpg (id : Nat) (t : TypeId) (H : Heap) (h : H[id]? = some (.cells t 2 bdB)) : Jpw Tryz.prog [.agg (chB id)] H = some (Jaf rrV, H ++ [.cells 97 5 (chB id), .cells 54 2 [iD 1, iD 0]]) := by
  have he : Jpw Tryz.prog [.agg (chB id)] H = Jap Tryz.prog (Qpj Tryz.prog) Jcw 0 Tryz.f72 [.agg (chB id)] H := Jct Tryz.func72 _ H
  rw [he, Jj3]
  have b1 : boxH 97 (.agg (chB id)) H = some (.hp (H.length + 0) 0, H ++ [.cells 97 5 (chB id)]) := rfl
  have g1 := Jn7 H [.cells 97 5 (chB id)] 0 _ rfl
  have l1 : Jad (some 5) (H ++ [.cells 97 5 (chB id)]) (.hp (H.length + 0) 0) = some (.agg (chB id)) := by
    simp only [Jad, g1]; rfl
  have n1 : Jc8 Jd4 [.agg (chB id)] (H ++ [.cells 97 5 (chB id)]) = some (.agg [iD 25, iD 0], H ++ [.cells 97 5 (chB id)]) := by
    rw [Jme _ _ _ _ rfl (Qo0 _ id t (Joo H _ id _ h))]; rfl
  have f0 : Jaa 0 (.hp (H.length + 0) 0) = some (.hp (H.length + 0) 0) := rfl
  have f2 : Jaa 2 (.hp (H.length + 0) 0) = some (.hp (H.length + 0) 2) := rfl
  have f3 : Jaa 3 (.hp (H.length + 0) 0) = some (.hp (H.length + 0) 3) := rfl
  have f4 : Jaa 4 (.hp (H.length + 0) 0) = some (.hp (H.length + 0) 4) := rfl
  have l2 := Jcr _ _ 2 _ _ _ (.hs id 3) g1 rfl
  have l3 := Jcr _ _ 3 _ _ _ (iD 1) g1 rfl
  have l4 := Jcr _ _ 4 _ _ _ (iD 0) g1 rfl
  have x0 : Jln none 0 (.agg [iD 25, iD 0]) = some (iD 25) := rfl
  have x1 : binK .int .neq (iD 25) (iD 25) = some (bD false) := rfl
  have x2 : binK .int .add (iD 1) (iD 1) = some (iD 2) := rfl
  have x3 : Jbv [(0, 1), (1, 1)] [iD 0, iD 0] [(0, iD 1), (1, iD 0)] = some (.agg [iD 1, iD 0]) := rfl
  have r1 : rowH 54 2 1 [iD 0, iD 0] [(0, .agg [iD 1, iD 0])] (H ++ [.cells 97 5 (chB id)]) = some (.hs (H.length + 1) 1, H ++ [.cells 97 5 (chB id), .cells 54 2 [iD 1, iD 0]]) := by
    show some (D.hs (H ++ [HO.cells 97 5 (chB id)]).length 1, (H ++ [HO.cells 97 5 (chB id)]) ++ [HO.cells 54 2 [iD 1, iD 0]]) = _
    simp
  have g2 := Jn7 H [.cells 97 5 (chB id), .cells 54 2 [iD 1, iD 0]] 1 _ rfl
  have d2 : Jbs (H ++ [.cells 97 5 (chB id), .cells 54 2 [iD 1, iD 0]]) 9 (.hs (H.length + 1) 1) = some (Jaf [(1, 0)]) := by
    rw [Jtu _ 8 _ 1 _ 2 _ g2 (by decide)]
    rfl
  have rp : Jc8 Jdb [.hs id 3, iD 2, .hs (H.length + 1) 1] (H ++ [.cells 97 5 (chB id), .cells 54 2 [iD 1, iD 0]]) = some (Jaf rrV, H ++ [.cells 97 5 (chB id), .cells 54 2 [iD 1, iD 0]]) := by
    have e : Jdb [Jaf bdV, iD 2, Jaf [(1, 0)]] = some (Jaf rrV) := by kernel_rfl
    rw [Jme _ _ [Jaf bdV, iD 2, Jaf [(1, 0)]] _ rfl (by
      rw [List.mapM_cons, List.mapM_cons, List.mapM_cons, Jsb      _ 8 id t (Joo     H _ id _ h), Jbt         _ 9 (iD 2) rfl, d2]; rfl), e]
    rfl
  simp only [b1, Jan, l1, Jaj, n1, x0, x1, Jai, Bool.false_eq_true, if_false, f0, f2, f3, f4, l2, l3, l4, x2, x3, r1, rp]
theorem Qqx (H : Heap) (i : Nat) (t : TypeId) (cs : List D) (h : H[i]? = some (.cells t 8 cs)) (hc : cs.length = 8) : setH 8 (.hp i 0) (.agg opsC) H = some (.v undef, H.set i (.cells t 8 opsC)) := by
  have h2 : cs.drop 8 = [] := List.drop_eq_nil_iff.2 (by omega)
  have h3 : opsC.length = 8 := rfl
  have h4 : opsC.all Jcc = true := rfl
  simp only [setH, Jhz, h, cellsD, h3, h4]
  rw [if_pos ⟨trivial, by omega, trivial⟩]
  simp [h2]
def ddD : D := .agg [Jag [0], iD 7, iD 0]
def rrD : D := .agg [iD 0, Jag [], Jaf rrV]
def zzD : D := .agg [iD 0, .v (.slice none 0 0), .v (.slice none 0 0)]
theorem Qs2 (id : Nat) (t : TypeId) (H : Heap) (h : H[id]? = some (.cells t 2 bdB)) : ∃ H', Jpx Tryz.prog [pxD id, ddD] H = some (.tup [rrD, iD 0], H') /\ Kp H.length H H' := by
  have he : Jpx Tryz.prog [pxD id, ddD] H = Jap Tryz.prog (T12y Tryz.prog) Jfk 0 Tryz.f35 [pxD id, ddD] H := Jct Tryz.func35 _ H
  rw [he, Jsq]
  have b1 : boxH 25 (pxD id) H = some (.hp (H.length + 0) 0, H ++ [.cells 25 3 [iD 0, .v (.slice none 0 0), .hs id 3]]) := rfl
  have b2 : boxH 34 ddD (H ++ [.cells 25 3 [iD 0, .v (.slice none 0 0), .hs id 3]]) = some (.hp (H.length + 1) 0, H ++ [.cells 25 3 [iD 0, .v (.slice none 0 0), .hs id 3], .cells 34 3 [Jag [0], iD 7, iD 0]]) := by
    show some (D.hp (H ++ [HO.cells 25 3 [iD 0, .v (.slice none 0 0), .hs id 3]]).length 0, (H ++ [HO.cells 25 3 [iD 0, .v (.slice none 0 0), .hs id 3]]) ++ [HO.cells 34 3 [Jag [0], iD 7, iD 0]]) = _
    simp
  have b3 : Jaz 25 [iD 0, .v (.slice none 0 0), .v (.slice none 0 0)] (H ++ [.cells 25 3 [iD 0, .v (.slice none 0 0), .hs id 3], .cells 34 3 [Jag [0], iD 7, iD 0]]) = some (.hp (H.length + 2) 0, H ++ [.cells 25 3 [iD 0, .v (.slice none 0 0), .hs id 3], .cells 34 3 [Jag [0], iD 7, iD 0], nilB]) := by
    rw [Jep]
    simp [nilB]
  have b4 : Jaz 98 [.v .nilFunc, .v .nilFunc, .v .nilFunc, .v .nilFunc, .v .nilFunc, .v .nilFunc, .v .nilFunc, .v .nilFunc] (H ++ [.cells 25 3 [iD 0, .v (.slice none 0 0), .hs id 3], .cells 34 3 [Jag [0], iD 7, iD 0], nilB]) = some (.hp (H.length + 3) 0, H ++ [.cells 25 3 [iD 0, .v (.slice none 0 0), .hs id 3], .cells 34 3 [Jag [0], iD 7, iD 0], nilB, .cells 98 8 [.v .nilFunc, .v .nilFunc, .v .nilFunc, .v .nilFunc, .v .nilFunc, .v .nilFunc, .v .nilFunc, .v .nilFunc]]) := by
    rw [Jkn]
    simp
  have g4 := Jn7 H [.cells 25 3 [iD 0, .v (.slice none 0 0), .hs id 3], .cells 34 3 [Jag [0], iD 7, iD 0], nilB, .cells 98 8 [.v .nilFunc, .v .nilFunc, .v .nilFunc, .v .nilFunc, .v .nilFunc, .v .nilFunc, .v .nilFunc, .v .nilFunc]] 3 _ rfl
  have s4 : setH 8 (.hp (H.length + 3) 0) (.agg opsC) (H ++ [.cells 25 3 [iD 0, .v (.slice none 0 0), .hs id 3], .cells 34 3 [Jag   [0], iD 7, iD 0], nilB, .cells 98 8 [.v .nilFunc, .v .nilFunc, .v .nilFunc, .v .nilFunc, .v .nilFunc, .v .nilFunc, .v .nilFunc, .v .nilFunc]]) =
      some (.v undef, H ++ [.cells 25 3 [iD 0, .v (.slice none 0 0), .hs id 3], .cells 34 3 [Jag [0], iD 7, iD 0], nilB, .cells 98 8 opsC]) := by
    have q := Qs4 H [.cells 25 3 [iD 0, .v (.slice none 0 0), .hs id 3], .cells 34 3 [Jag [0], iD 7, iD 0], nilB, .cells 98 8 [.v .nilFunc, .v .nilFunc, .v .nilFunc, .v .nilFunc, .v .nilFunc, .v .nilFunc, .v .nilFunc, .v .nilFunc]] 3 (.cells 98 8 opsC)
    simp only [List.set_cons_succ, List.set_cons_zero] at q
    rw [<- q]
    exact Qqx _ _ _ _ g4 rfl
  have hi : (H ++ [.cells 25 3 [iD 0, .v (.slice none 0 0), .hs id 3], .cells 34 3 [Jag [0], iD 7, iD 0], nilB, .cells 98 8 opsC])[id]? = some (.cells t 2 bdB) := Joo H _ id _ h
  have o0 := Jn7 H [.cells 25 3 [iD 0, .v (.slice none 0 0), .hs id 3], .cells 34 3 [Jag [0], iD 7, iD 0], nilB, .cells 98 8 opsC] 0 _ rfl
  have o1 := Jn7 H [.cells 25 3 [iD 0, .v (.slice none 0 0), .hs id 3], .cells 34 3 [Jag [0], iD 7, iD 0], nilB, .cells 98 8 opsC] 1 _ rfl
  have o2 := Jn7 H [.cells 25 3 [iD 0, .v (.slice none 0 0), .hs id 3], .cells 34 3 [Jag [0], iD 7, iD 0], nilB, .cells 98 8 opsC] 2 _ rfl
  have o3 := Jn7 H [.cells 25 3 [iD 0, .v (.slice none 0 0), .hs id 3], .cells 34 3 [Jag [0], iD 7, iD 0], nilB, .cells 98 8 opsC] 3 _ rfl
  have k0 : Kp H.length H (H ++ [.cells 25 3 [iD 0, .v (.slice none 0 0), .hs id 3], .cells 34 3 [Jag [0], iD 7, iD 0], nilB, .cells 98 8 opsC]) := Kp.app _ _ _ (Nat.le_refl _)
  have hlen : (H ++ [.cells 25 3 [iD 0, .v (.slice none 0 0), .hs id 3], .cells 34 3 [Jag [0], iD 7, iD 0], nilB, .cells 98 8 opsC]).length = H.length + 4 := by simp
  simp only [b1, b2, b3, b4, Jan, Jkl, Jaj, s4]
  generalize H ++ [HO.cells 25 3 [iD 0, .v (.slice none 0 0), .hs id 3], HO.cells 34 3 [Jag [0], iD 7, iD 0], nilB, HO.cells 98 8 opsC] = H4 at *
  have f2 : Jaa 2 (.hp (H.length + 0) 0) = some (.hp (H.length + 0) 2) := rfl
  have f1 : Jaa 1 (.hp (H.length + 0) 0) = some (.hp (H.length + 0) 1) := rfl
  have f0 : Jaa 0 (.hp (H.length + 0) 0) = some (.hp (H.length + 0) 0) := rfl
  have e0 : Jaa 0 (.hp (H.length + 1) 0) = some (.hp (H.length + 1) 0) := rfl
  have e1 : Jaa 1 (.hp (H.length + 1) 0) = some (.hp (H.length + 1) 1) := rfl
  have e2 : Jaa 2 (.hp (H.length + 1) 0) = some (.hp (H.length + 1) 2) := rfl
  have l2 := Jcr _ _ 2 _ _ _ (.hs id 3) o0 rfl
  have m0 := Jcr _ _ 0 _ _ _ (Jag [0]) o1 rfl
  have m1 := Jcr _ _ 1 _ _ _ (iD 7) o1 rfl
  have m2 := Jcr _ _ 2 _ _ _ (iD 0) o1 rfl
  have fn : Jae Jp2 [.hs id 3, Jag [0]] H4 = some (iD 1, H4) := by
    have e : Jp2 [Jaf bdV, Jag [0]] = some (iD 1) := by kernel_rfl
    rw [Jo9 _ _ [Jaf bdV, Jag [0]] _ rfl (by
      rw [List.mapM_cons, List.mapM_cons, Jsb      _ 8 id t hi, Jbt         _ 9 (Jag   [0]) rfl]; rfl), e]
    rfl
  have c1 : binK .int .lss (iD 1) (iD 0) = some (bD false) := rfl
  have c2 : binK .int .lss (iD 7) (iD 1) = some (bD false) := rfl
  have c3 : binK .int .geq (iD 7) (iD 8) = some (bD false) := rfl
  have ia : idxA 8 1 (.hp (H.length + 3) 0) (iD 7) = some (.hp (H.length + 3) 7) := rfl
  have lo := Jcr _ _ 7 _ _ _ (.clo (.func 72) [] []) o3 rfl
  have lp := Jhj _ _ _ _ _ _ o0
  have bc : Jbv [(0, 3), (3, 1), (4, 1)] [iD 0, .v (.slice none 0 0), .v (.slice none 0 0), iD 0, iD 0] [(0, .agg [iD 0, .v (.slice none 0 0), .hs id 3]), (1, iD 1), (2, iD 0)] = some (.agg (chB id)) := rfl
  have cc : Jdq (T12y Tryz.prog) (.clo (.func 72) [] []) [.agg (chB id)] H4 = Jpw Tryz.prog [.agg (chB id)] H4 := rfl
  have aw := Qpg id t H4 hi
  have ln : lenH .sl (Jaf rrV) = some (iD 3) := rfl
  have c4 : binK .int .eql (iD 3) (iD 0) = some (bD false) := rfl
  have q0 := Joo H4 [.cells 97 5 (chB id), .cells 54 2 [iD 1, iD 0]] _ _ o0
  have q2 := Joo H4 [.cells 97 5 (chB id), .cells 54 2 [iD 1, iD 0]] _ _ o2
  have k1 := Kp.app H.length H4 [.cells 97 5 (chB id), .cells 54 2 [iD 1, iD 0]] (by omega)
  simp only [f0, f1, f2, e0, e1, e2, l2, m0, m1, m2, Jaj, fn, Jan, c1, c2, c3, Jai, Bool.false_eq_true, if_false, ia, lo, lp, bc, cc, aw, ln, c4]
  generalize H4 ++ [HO.cells 97 5 (chB id), HO.cells 54 2 [iD 1, iD 0]] = H5 at *
  have p0 := Jcr _ _ 0 _ _ _ (iD 0) q0 rfl
  have p1 := Jcr _ _ 1 _ _ _ (.v (.slice none 0 0)) q0 rfl
  have cl : Jc8 Jjo [.v (.slice none 0 0)] H5 = some (Jag [], H5) := by rw [Jkb _ _ _ rfl]; rfl
  have bp : Jbv [(0, 1), (1, 1), (2, 1)] [iD 0, .v (.slice none 0 0), .v (.slice none 0 0)] [(0, iD 0), (1, Jag []), (2, Jaf rrV)] = some rrD := rfl
  have st := Jj7 H5 (H.length + 2) 25 _ _ _ (iD 0) (Jag []) (Jaf rrV) q2 rfl rfl rfl
  have st' : setH 3 (.hp (H.length + 2) 0) rrD H5 = _ := st
  have z2 := Jhj 25 (iD 0) (Jag []) (Jaf rrV) (H5.set (H.length + 2) (.cells 25 3 [iD 0, Jag [], Jaf rrV])) (H.length + 2) (List.getElem?_set_self (List.getElem?_eq_some_iff.1 q2).1)
  refine ⟨H5.set (H.length + 2) (.cells 25 3 [iD 0, Jag [], Jaf rrV]), ?_, (k0.trans k1).trans ⟨by simp, fun k hk => List.getElem?_set_ne (by omega)⟩⟩
  simp only [p0, p1, Jaj, cl, Jan, bp, st', z2]
  rfl
def ppD : D := .agg [iD 0, .v (.slice none 0 0), Jaf bdV]
theorem Qoz (H : Heap) (id : Nat) (t : TypeId) (h : H[id]? = some (.cells t 2 bdB)) : [pxD id].mapM (Jbs H 9) = some [ppD] := by
  have : Jbs H 9 (pxD id) = some ppD := by
    show (([iD 0, .v (.slice none 0 0), .hs id 3].mapM (Jbs H 8)).map D.agg) = _
    simp only [List.mapM_cons, Jbt H 8 (iD _) rfl, Jbt H 8 (.v (.slice none 0 0)) rfl, Jsb H 7 id t h]; rfl
  rw [List.mapM_cons, this]; rfl
def dd5 : D := .agg [.v (.slice none 0 0), iD 5, iD 0]
theorem Qes (id : Nat) (t : TypeId) (H : Heap) (x : D) (hx : x = ddD \/ x = dd5) (h : H[id]? = some (.cells t 2 bdB)) : ∃ H', Juh Tryz.prog [pxD id, x] H = some (cond (eqB x ddD) (.tup [rrD, iD 0]) (.tup [zzD, iD 17]), H') /\ Kp H.length H H' := by
  have hxa : ∃ a b c, x = .agg [a, b, c] /\ Jcc a = true /\ Jcc b = true /\ Jcc c = true := by
    rcases hx with rfl | rfl
    · exact ⟨_, _, _, rfl, rfl, rfl, rfl⟩
    · exact ⟨_, _, _, rfl, rfl, rfl, rfl⟩
  obtain ⟨a, b, c, rfl, ha, hb, hc⟩ := hxa
  have he : Juh Tryz.prog [pxD id, .agg [a, b, c]] H = Jap Tryz.prog (T14x Tryz.prog) Je3 0 Tryz.f16 [pxD id, .agg [a, b, c]] H := Jct Tryz.func16 _ H
  rw [he, Jrr]
  have b1 : boxH 25 (pxD id) H = some (.hp (H.length + 0) 0, H ++ [.cells 25 3 [iD 0, .v (.slice none 0 0), .hs id 3]]) := rfl
  have b2 : boxH 34 (.agg [a, b, c]) (H ++ [.cells 25 3 [iD 0, .v (.slice none 0 0), .hs id 3]]) = some (.hp (H.length + 1) 0, H ++ [.cells 25 3 [iD 0, .v (.slice none 0 0), .hs id 3], .cells 34 3 [a, b, c]]) := by
    have q : boxH 34 (.agg [a, b, c]) (H ++ [.cells 25 3 [iD 0, .v (.slice none 0 0), .hs id 3]]) = some (D.hp (H ++ [HO.cells 25 3 [iD 0, .v (.slice none 0 0), .hs id 3]]).length 0, (H ++ [HO.cells 25 3 [iD 0, .v (.slice none 0 0), .hs id 3]]) ++ [HO.cells 34 3 [a, b, c]]) := by
      simp [boxH, newH, cellsD, ha, hb, hc]
    rw [q]
    simp
  have b3 : Jaz 25 [iD 0, .v (.slice none 0 0), .v (.slice none 0 0)] (H ++ [.cells 25 3 [iD 0, .v (.slice none 0 0), .hs id 3], .cells 34 3 [a, b, c]]) = some (.hp (H.length + 2) 0, H ++ [.cells 25 3 [iD 0, .v (.slice none 0 0), .hs id 3], .cells 34 3 [a, b, c], nilB]) := by
    rw [Jep]
    simp [nilB]
  have hi : (H ++ [.cells 25 3 [iD 0, .v (.slice none 0 0), .hs id 3], .cells 34 3 [a, b, c], nilB])[id]? = some (.cells t 2 bdB) := Joo H _ id _ h
  have o0 := Jn7 H [.cells 25 3 [iD 0, .v (.slice none 0 0), .hs id 3], .cells 34 3 [a, b, c], nilB] 0 _ rfl
  have o1 := Jn7 H [.cells 25 3 [iD 0, .v (.slice none 0 0), .hs id 3], .cells 34 3 [a, b, c], nilB] 1 _ rfl
  have o2 : (H ++ [.cells 25 3 [iD 0, .v (.slice none 0 0), .hs id 3], .cells 34 3 [a, b, c], nilB])[H.length + 2]? = some nilB := Jn7 H [.cells 25 3 [iD 0, .v (.slice none 0 0), .hs id 3], .cells 34 3 [a, b, c], nilB] 2 _ rfl
  have k0 : Kp H.length H (H ++ [.cells 25 3 [iD 0, .v (.slice none 0 0), .hs id 3], .cells 34 3 [a, b, c], nilB]) := Kp.app _ _ _ (Nat.le_refl _)
  have hlen : (H ++ [.cells 25 3 [iD 0, .v (.slice none 0 0), .hs id 3], .cells 34 3 [a, b, c], nilB]).length = H.length + 3 := by simp
  simp only [b1, b2, b3, Jan]
  generalize H ++ [HO.cells 25 3 [iD 0, .v (.slice none 0 0), .hs id 3], HO.cells 34 3 [a, b, c], nilB] = H3 at *
  have lp : Jad (some 3) H3 (.hp (H.length + 0) 0) = some (pxD id) := Jhj _ _ _ _ _ _ o0
  have ld := Jhj _ _ _ _ _ _ o1
  have al : Jc8 Jm0 [pxD id] H3 = some (.tup [dlsD (Jbr ppV), iD 0], H3) := by
    have e : Jm0 [ppD] = some (.tup [dlsD (Jbr ppV), iD 0]) := by kernel_rfl
    rw [Jme _ _ _ _ rfl (Qoz H3 id t hi), e]; rfl
  have x0 : Jat (.tup [dlsD (Jbr ppV), iD 0]) 0 = some (dlsD (Jbr ppV)) := rfl
  have x1 : Jat (.tup [dlsD (Jbr ppV), iD 0]) 1 = some (iD 0) := rfl
  have c0 : binK .int .neq (iD 0) (iD 0) = some (bD false) := rfl
  rcases hx with hx | hx
  · have hcc : eqB (D.agg [a, b, c]) ddD = true := by rw [hx]; rfl
    rw [hcc]
    have ld' : Jad (some 3) H3 (.hp (H.length + 1) 0) = some ddD := by rw [ld, hx]
    have fi : Jae Jj1 [dlsD (Jbr ppV), ddD] H3 = some (iD 1, H3) := by
      have e : Jj1 [dlsD (Jbr ppV), ddD] = some (iD 1) := by kernel_rfl
      rw [Jar _ _ _ rfl, e]; rfl
    have c1 : binK .int .lss (iD 1) (iD 0) = some (bD false) := rfl
    obtain ⟨H5, ap, kp⟩ := Qs2 id t H3 hi
    have y0 : Jat (.tup [rrD, iD 0]) 0 = some rrD := rfl
    have y1 : Jat (.tup [rrD, iD 0]) 1 = some (iD 0) := rfl
    have q2 : H5[H.length + 2]? = some nilB := (kp.2 _ (by omega)).trans o2
    have st := Jj7 H5 (H.length + 2) 25 _ _ _ (iD 0) (Jag []) (Jaf rrV) q2 rfl rfl rfl
    have st' : setH 3 (.hp (H.length + 2) 0) rrD H5 = _ := st
    have z2 : Jad (some 3) (H5.set (H.length + 2) (.cells 25 3 [iD 0, Jag [], Jaf rrV])) (.hp (H.length + 2) 0) = some rrD := Jhj 25 (iD 0) (Jag []) (Jaf rrV) (H5.set (H.length + 2) (.cells 25 3 [iD 0, Jag [], Jaf rrV])) (H.length + 2) (List.getElem?_set_self (List.getElem?_eq_some_iff.1 q2).1)
    refine ⟨H5.set (H.length + 2) (.cells 25 3 [iD 0, Jag [], Jaf rrV]), ?_, (k0.trans (kp.mono (by omega))).trans ⟨by simp, fun k hk => List.getElem?_set_ne (by omega)⟩⟩
    simp only [lp, ld', Jaj, al, Jan, x0, x1, c0, Jai, Bool.false_eq_true, if_false, fi, c1, ap, y0, y1, st', z2, cond_true]
  · have hcc : eqB (D.agg [a, b, c]) ddD = false := by rw [hx]; rfl
    rw [hcc]
    have ld' : Jad (some 3) H3 (.hp (H.length + 1) 0) = some dd5 := by rw [ld, hx]
    have fi : Jae Jj1 [dlsD (Jbr ppV), dd5] H3 = some (iD (-1), H3) := by
      have e : Jj1 [dlsD (Jbr ppV), dd5] = some (iD (-1)) := by kernel_rfl
      rw [Jar _ _ _ rfl, e]; rfl
    have c1 : binK .int .lss (iD (-1)) (iD 0) = some (bD true) := rfl
    have st := Jj7 H3 (H.length + 2) 25 _ _ _ (iD 0) (.v (.slice none 0 0)) (.v (.slice none 0 0)) o2 rfl rfl rfl
    have z2 : Jad (some 3) (H3.set (H.length + 2) nilB) (.hp (H.length + 2) 0) = some zzD := Jhj 25 (iD 0) (.v (.slice none 0 0)) (.v (.slice none 0 0)) (H3.set (H.length + 2) nilB) (H.length + 2) (List.getElem?_set_self (List.getElem?_eq_some_iff.1 o2).1)
    refine ⟨H3.set (H.length + 2) nilB, ?_, k0.trans ⟨by simp, fun k hk => List.getElem?_set_ne (by omega)⟩⟩
    have st' : setH 3 (.hp (H.length + 2) 0) (.agg [iD 0, .v (.slice none 0 0), .v (.slice none 0 0)]) H3 = some (.v undef, H3.set (H.length + 2) nilB) := st
    simp only [lp, ld', Jaj, al, Jan, x0, x1, c0, Jai, Bool.false_eq_true, if_false, fi, c1, if_true, Jea, st', z2, cond_false]
def rowB (H : Heap) (id : Nat) : Bool := match H[id]? with | some (.cells _ sz cs) => Nat.beq sz 2 && eqL cs bdB | _ => false
theorem Qq1 {H : Heap} {id : Nat} (h : rowB H id = true) : ∃ t, H[id]? = some (.cells t 2 bdB) := by
  unfold rowB at h
  split at h
  · rename_i t sz cs hg
    simp only [Bool.and_eq_true] at h
    exact ⟨t, by rw [hg, Nat.eq_of_beq_eq_true h.1, Jpj _ _ h.2]⟩
  · cases h
def isW (ds : List D) (H : Heap) : Option (Nat × D) :=
  match ds with
  | [.agg [a, b, .hs id k], x] => if eqB a (iD 0) && eqB b (.v (.slice none 0 0)) && Nat.beq k 3 && rowB H id then some (id, x) else none
  | _ => none
theorem Qqe {ds : List D} {H : Heap} {id : Nat} {x : D} (h : isW ds H = some (id, x)) : ds = [pxD id, x] /\ (∃ t, H[id]? = some (.cells t 2 bdB)) /\ ∀ t, isW ds (H ++ t) = some (id, x) := by
  unfold isW at h
  split at h
  · rename_i a b i k y
    split at h
    case isFalse => cases h
    rename_i hc
    cases h
    have hc2 := hc
    simp only [Bool.and_eq_true] at hc
    obtain ⟨⟨⟨h1, h2⟩, h3⟩, h4⟩ := hc
    obtain ⟨t, hg⟩ := Qq1 h4
    have e1 := Jvv _ _ h1
    have e2 := Jvv _ _ h2
    have e3 := Nat.eq_of_beq_eq_true h3
    refine ⟨by rw [e1, e2, e3]; rfl, ⟨t, hg⟩, fun T => ?_⟩
    have hT : rowB (H ++ T) id = rowB H id := by unfold rowB; rw [Joo H T id _ hg, hg]
    unfold isW
    simp only
    rw [hT, if_pos hc2]
  · cases h
def G_vm (ds : List D) (H : Heap) : Option (D × Heap) := (isW ds H).bind fun r => if eqB r.2 ddD then some (.tup [rrD, iD 0], H) else if eqB r.2 dd5 then some (.tup [zzD, iD 17], H) else none
theorem C_vm : HCallOk Tryz.prog 16 G_vm := Qkk Qig fun ds H d H' h => by
  unfold G_vm at h
  obtain ⟨⟨id, x⟩, hr, h2⟩ := Option.bind_eq_some_iff.1 h
  obtain ⟨rfl, ⟨t, ht⟩, _⟩ := Qqe hr
  clear h
  have h := h2
  simp only at h
  split at h
  · rename_i e
    have e := Jvv _ _ e
    cases h
    obtain ⟨H2, q1, q2⟩ := Qes id t H x (.inl e) ht
    rw [show eqB x ddD = true from by rw [e]; rfl] at q1
    exact ⟨rfl, rfl, H2, q1, q2.2⟩
  · split at h
    · rename_i ne e
      have e := Jvv _ _ e
      cases h
      obtain ⟨H2, q1, q2⟩ := Qes id t H x (.inr e) ht
      rw [show eqB x ddD = false from by rw [e]; rfl] at q1
      exact ⟨rfl, rfl, H2, q1, q2.2⟩
    · cases h
theorem Qsu : Juo G_vm := fun ds H d H' h => by
  unfold G_vm at h ⊢
  obtain ⟨⟨id, x⟩, hr, h⟩ := Option.bind_eq_some_iff.1 h
  obtain ⟨hd, _, hT⟩ := Qqe hr
  refine ⟨?_, fun t => ?_, fun hp => ?_⟩
  · split at h
    · cases h; rfl
    · split at h
      · cases h; rfl
      · cases h
  · rw [hT t, Option.bind_some]
    split at h
    · rename_i e; cases h; rw [if_pos e]
    · rename_i ne
      rw [if_neg ne]
      split at h
      · rename_i e; cases h; rw [if_pos e]
      · cases h
  · subst hd; cases hp
theorem vm_ok : HCallOk Tryz.prog 16 G_vm /\ Juo G_vm := ⟨C_vm, Qsu⟩
theorem Qhq {P : Program} {f : FuncId} {G : List D -> Heap -> Option (D × Heap)} (h : HCallOk P f G /\ Juo G) : Jbu P (f, true, G) := ⟨h.1, fun _ => h.2⟩
end Go.Proofs.YtinnbafplhcnpaaGreat
end
section
namespace Go.Proofs.YtinnbafplhcnpaaGreat
open Go.RowKit
set_option linter.unusedVariables false
set_option linter.unusedSimpArgs false
set_option maxRecDepth 100000
def fs14w (P : Program) : List Entry := (16, true, G_vm) :: Qkm P
theorem Qof : ∀ p ∈ fs14w Tryz.prog, Jbu Tryz.prog p := Jac (Qhq vm_ok) <| Jr6
def T14w (P : Program) : Tab := ⟨fs14w P, noYl⟩
theorem Qs9 : TabOk Tryz.prog (T14w Tryz.prog) := Jb4 Qof
def Jng : List D -> Option D := F0 (some (bD true))
theorem Qqq : outD (Jap Tryz.prog (T14w Tryz.prog) [] 20 Tryz.f10 [] []) = some (bD true) := by kernel_rfl
theorem Qmd : CallOk Tryz.prog 10 Jng := call0 (kp := []) Qs9 mixed Tryz.func10 (by kernel_rfl) (by decide) fun d h => by
  cases h
  exact ⟨20, _, Qqq, Imp.refl _⟩
theorem Jb3 (H : Heap) : Jae Jng [] H = some (bD true, H) := by rw [Jar _ _ _ rfl]; rfl
def fsL14 (P : Program) : List Entry := (10, true, Jae Jng) :: (16, true, Jae Jdz) :: (17, true, Jae Jdz) :: Qkm P
theorem Qod : ∀ p ∈ fsL14 Tryz.prog, Jbu Tryz.prog p := Jac (Jal Qmd) <| Jac (Jal Qmk) <| Jac (Jal Qmt) <| Jr6
def L14 (P : Program) : Tab := ⟨fsL14 P, noYl⟩
theorem Qly : TabOk Tryz.prog (L14 Tryz.prog) := Jb4 Qod
end Go.Proofs.YtinnbafplhcnpaaGreat
end
section
namespace Go.Proofs.YtinnbafplhcnpaaGreat
open Go.RowKit
set_option linter.unusedVariables false
set_option maxRecDepth 100000
def Jex : List Nat := []
theorem Jh9 (n : Nat) (x0 x1 : D) (h : Heap) : Jap Tryz.prog (L14 Tryz.prog) Jex n Tryz.f4 [x0, x1] h =
(thnH (boxH 25 x0 h) fun y0 h1 =>
thnH (boxH 34 x1 h1) fun y2 h3 =>
thnH (Jae Jng [] h3) fun y4 h5 =>
thn (notD y4) fun y6 =>
Jah y6
(some ((bD false), h5))
(thn (Jad (some 3) h5 y0) fun y7 =>
thnH (Jae Qbh [y7] h5) fun y8 h9 =>
Jah y8
(thn (Jad (some 3) h9 y2) fun y10 =>
thnH (rowH 34 3 1 [(.v (.slice none 0 0)), (iD 0), (iD 0)] [(0, y10)] h9) fun y11 h12 =>
thnH (Jae Juk [y11] h12) fun y13 h14 =>
thn (notD y13) fun y15 =>
Jah y15
(some (y4, h14))
(thn (Jad (some 3) h14 y0) fun y16 =>
thn (Jad (some 3) h14 y2) fun y17 =>
thnH (Jae Jdz [y16, y17] h14) fun y18 h19 =>
thn (Jat y18 0) fun y20 =>
thn (Jat y18 1) fun y21 =>
thnH (Jaz 25 [(iD 0), (.v (.slice none 0 0)), (.v (.slice none 0 0))] h19) fun y22 h23 =>
thnH (setH 3 y22 y20 h23) fun y24 h25 =>
thn (Jad (some 3) h25 y0) fun y26 =>
thn (Jad (some 3) h25 y2) fun y27 =>
thnH (Jae Jdz [y26, y27] h25) fun y28 h29 =>
thn (Jat y28 0) fun y30 =>
thn (Jat y28 1) fun y31 =>
thnH (Jaz 25 [(iD 0), (.v (.slice none 0 0)), (.v (.slice none 0 0))] h29) fun y32 h33 =>
thnH (setH 3 y32 y30 h33) fun y34 h35 =>
thn (Jad (some 3) h35 y22) fun y36 =>
thn (Jad (some 3) h35 y32) fun y37 =>
thnH (Jae Jhy [y36, y37] h35) fun y38 h39 =>
Jah y4
(Jah y38
(thn (binK .int .eql y21 y31) fun y40 =>
some (y40, h39))
(some ((bD false), h39)))
(some ((bD false), h39))))
(thn (notD (bD false)) fun y41 =>
Jah y41
(some (y4, h9))
(thn (Jad (some 3) h9 y0) fun y42 =>
thn (Jad (some 3) h9 y2) fun y43 =>
thnH (Jae Jdz [y42, y43] h9) fun y44 h45 =>
thn (Jat y44 0) fun y46 =>
thn (Jat y44 1) fun y47 =>
thnH (Jaz 25 [(iD 0), (.v (.slice none 0 0)), (.v (.slice none 0 0))] h45) fun y48 h49 =>
thnH (setH 3 y48 y46 h49) fun y50 h51 =>
thn (Jad (some 3) h51 y0) fun y52 =>
thn (Jad (some 3) h51 y2) fun y53 =>
thnH (Jae Jdz [y52, y53] h51) fun y54 h55 =>
thn (Jat y54 0) fun y56 =>
thn (Jat y54 1) fun y57 =>
thnH (Jaz 25 [(iD 0), (.v (.slice none 0 0)), (.v (.slice none 0 0))] h55) fun y58 h59 =>
thnH (setH 3 y58 y56 h59) fun y60 h61 =>
thn (Jad (some 3) h61 y48) fun y62 =>
thn (Jad (some 3) h61 y58) fun y63 =>
thnH (Jae Jhy [y62, y63] h61) fun y64 h65 =>
Jah y4
(Jah y64
(thn (binK .int .eql y47 y57) fun y66 =>
some (y66, h65))
(some ((bD false), h65)))
(some ((bD false), h65)))))) := by kernel_rfl
def Je4 : List Nat := []
theorem Jir (n : Nat) (x0 x1 : D) (h : Heap) : Jap Tryz.prog (L14 Tryz.prog) Je4 n Tryz.f8 [x0, x1] h =
(thnH (boxH 25 x0 h) fun y0 h1 =>
thnH (Jae Jng [] h1) fun y2 h3 =>
thn (notD y2) fun y4 =>
Jah y4
(some ((bD false), h3))
(thn (Jad (some 3) h3 y0) fun y5 =>
thnH (Jae Qbh [y5] h3) fun y6 h7 =>
thn (notD y6) fun y8 =>
Jah y8
(some (y2, h7))
(thn (Jad (some 3) h7 y0) fun y9 =>
thnH (Jc8 Jm0 [y9] h7) fun y10 h11 =>
thn (Jat y10 0) fun y12 =>
thn (Jat y10 1) fun y13 =>
thn (binK .int .neq y13 (iD 0)) fun y14 =>
Jah y14
(some (y2, h11))
(thn (binK .int .lss x1 (iD 0)) fun y15 =>
Jah y15
(some (y2, h11))
(thn (lenH .sl y12) fun y16 =>
thn (binK .int .geq x1 y16) fun y17 =>
Jah y17
(some (y2, h11))
(thn (Jad (some 3) h11 y0) fun y18 =>
thn (idxH 3 y12 x1) fun y19 =>
thn (Jad (some 3) h11 y19) fun y20 =>
thnH (Jae Jdz [y18, y20] h11) fun y21 h22 =>
thn (Jat y21 0) fun y23 =>
thn (Jat y21 1) fun y24 =>
thnH (Jaz 25 [(iD 0), (.v (.slice none 0 0)), (.v (.slice none 0 0))] h22) fun y25 h26 =>
thnH (setH 3 y25 y23 h26) fun y27 h28 =>
thn (Jad (some 3) h28 y25) fun y29 =>
thnH (Jae Jhe [y29] h28) fun y30 h31 =>
Jah y2
(thn (binK .int .eql y24 (iD 0)) fun y32 =>
Jah y32
(thn (Jad (some 3) h31 y0) fun y33 =>
thn (Jad (some 3) h31 y25) fun y34 =>
thnH (Jae Jhy [y33, y34] h31) fun y35 h36 =>
thn (notD y35) fun y37 =>
Jah y37
(thn (Jad (some 3) h36 y25) fun y38 =>
thnH (Jae Jun [y38, (iD 0)] h36) fun y39 h40 =>
thn (binK .int .eql y39 (iD 2)) fun y41 =>
Jah y41
(thn (binK .int .eql y30 (iD 0)) fun y42 =>
Jah y42
(some ((bD true), h40))
(thn (binK .int .eql y30 (iD 13)) fun y43 =>
some (y43, h40)))
(some ((bD false), h40)))
(some ((bD false), h36)))
(some ((bD false), h31)))
(some ((bD false), h31)))))))) := by kernel_rfl
def Je5 : List Nat := []
theorem Jis (n : Nat) (x0 x1 x2 : D) (h : Heap) : Jap Tryz.prog (L14 Tryz.prog) Je5 n Tryz.f9 [x0, x1, x2] h =
(thnH (boxH 25 x0 h) fun y0 h1 =>
thnH (Jae Jng [] h1) fun y2 h3 =>
thn (notD y2) fun y4 =>
Jah y4
(some ((bD false), h3))
(thn (Jad (some 3) h3 y0) fun y5 =>
thnH (Jae Qbh [y5] h3) fun y6 h7 =>
thn (notD y6) fun y8 =>
Jah y8
(some (y2, h7))
(thn (Jad (some 3) h7 y0) fun y9 =>
thnH (Jc8 Jm0 [y9] h7) fun y10 h11 =>
thn (Jat y10 0) fun y12 =>
thn (Jat y10 1) fun y13 =>
thn (binK .int .neq y13 (iD 0)) fun y14 =>
Jah y14
(some (y2, h11))
(thn (binK .int .lss x1 (iD 0)) fun y15 =>
Jah y15
(some (y2, h11))
(thn (lenH .sl y12) fun y16 =>
thn (binK .int .geq x1 y16) fun y17 =>
Jah y17
(some (y2, h11))
(thn (binK .int .lss x2 (iD 0)) fun y18 =>
Jah y18
(some (y2, h11))
(thn (lenH .sl y12) fun y19 =>
thn (binK .int .geq x2 y19) fun y20 =>
Jah y20
(some (y2, h11))
(thn (binK .int .eql x1 x2) fun y21 =>
Jah y21
(some (y2, h11))
(thn (idxH 3 y12 x1) fun y22 =>
thn (Jaa 1 y22) fun y23 =>
thn (Jad none h11 y23) fun y24 =>
thn (idxH 3 y12 x2) fun y25 =>
thn (Jaa 1 y25) fun y26 =>
thn (Jad none h11 y26) fun y27 =>
thn (binK .int .neq y24 y27) fun y28 =>
Jah y28
(some (y2, h11))
(thn (idxH 3 y12 x1) fun y29 =>
thn (Jaa 1 y29) fun y30 =>
thn (Jad none h11 y30) fun y31 =>
thn (binK .int .gtr y31 (iD 4)) fun y32 =>
Jah y32
(some (y2, h11))
(thn (Jad (some 3) h11 y0) fun y33 =>
thn (idxH 3 y12 x1) fun y34 =>
thn (Jad (some 3) h11 y34) fun y35 =>
thnH (Jae Jdz [y33, y35] h11) fun y36 h37 =>
thn (Jat y36 0) fun y38 =>
thn (Jat y36 1) fun y39 =>
thnH (Jaz 25 [(iD 0), (.v (.slice none 0 0)), (.v (.slice none 0 0))] h37) fun y40 h41 =>
thnH (setH 3 y40 y38 h41) fun y42 h43 =>
thn (Jad (some 3) h43 y0) fun y44 =>
thn (idxH 3 y12 x2) fun y45 =>
thn (Jad (some 3) h43 y45) fun y46 =>
thnH (Jae Jdz [y44, y46] h43) fun y47 h48 =>
thn (Jat y47 0) fun y49 =>
thn (Jat y47 1) fun y50 =>
thnH (Jaz 25 [(iD 0), (.v (.slice none 0 0)), (.v (.slice none 0 0))] h48) fun y51 h52 =>
thnH (setH 3 y51 y49 h52) fun y53 h54 =>
Jah y2
(thn (binK .int .eql y39 (iD 0)) fun y55 =>
Jah y55
(thn (binK .int .eql y50 (iD 0)) fun y56 =>
Jah y56
(thn (Jad (some 3) h54 y40) fun y57 =>
thn (Jad (some 3) h54 y51) fun y58 =>
thnH (Jae Jhy [y57, y58] h54) fun y59 h60 =>
thn (notD y59) fun y61 =>
Jah y61
(thn (Jaa 2 y40) fun y62 =>
thn (Jad none h60 y62) fun y63 =>
thn (lenH .sl y63) fun y64 =>
thn (Jaa 2 y0) fun y65 =>
thn (Jad none h60 y65) fun y66 =>
thn (lenH .sl y66) fun y67 =>
thn (binK .int .eql y64 y67) fun y68 =>
some (y68, h60))
(some ((bD false), h60)))
(some ((bD false), h54)))
(some ((bD false), h54)))
(some ((bD false), h54))))))))))))) := by kernel_rfl
end Go.Proofs.YtinnbafplhcnpaaGreat
end
section
namespace Go.Proofs.YtinnbafplhcnpaaGreat
open Go.RowKit
set_option linter.unusedVariables false
set_option linter.unusedSimpArgs false
set_option maxRecDepth 100000
theorem Jwz {p : Pg} {x : Dl} (hx : x ∈ Jbr p) : x.path.length <= p.body.length := by
  unfold Jbr at hx
  split at hx
  · rename_i h
    obtain ⟨h1, h2⟩ := Jlc h
    have q := ((Jna h2 x).1 hx).1
    exact Js4 p.body _ _ ((Jka h2 _ q x.path).2 rfl)
  · cases hx
theorem Js7 {p : Pg} {x : Dl} (hx : x ∈ Jbr p) : chk9 p = 0 /\ x ∈ Jfe p.body := by
  unfold Jbr at hx
  split at hx
  · exact ⟨by assumption, hx⟩
  · cases hx
theorem Jqi {p : Pg} {x : Dl} (hx : x ∈ Jbr p) : mutV p x = Jcy p x := by
  obtain ⟨h, _⟩ := Js7 hx
  unfold mutV
  rw [if_neg (by simpa using h), if_pos ((Jte h x).2 hx)]
theorem Qll {p : Pg} {x : Dl} (hx : x ∈ Jbr p) : (Jcy p x).1.body.length <= p.body.length + 1 /\ (Jcy p x).1.vars = p.vars := by
  obtain ⟨h, hm⟩ := Js7 hx
  obtain ⟨_, h2⟩ := Jlc h
  obtain ⟨k, e1, e2, e3, e4⟩ := Jsd p x h2 hm
  have hk : p.body[k]? = some (nodeAt p.body k) := by rw [Jc7 _ _ e2]; exact List.getElem?_eq_getElem e2
  have := Jmr h2 e3.1 (nodeAt p.body k) hk (Jvq _ _ _ _ e3).1
  rw [e4]
  exact ⟨this.2.1, rfl⟩
theorem Jr0 (p : Pg) (d : Dl) (hb : p.body.length <= 60) (hv : p.vars.length <= 20) : (mutV p d).1.fits := by
  by_cases h : chk9 p = 0
  · by_cases h1 : Jnw p d = true
    · have hm := (Jte h d).1 h1
      rw [Jqi hm]
      obtain ⟨e1, e2⟩ := Qll hm
      exact ⟨by rw [e2]; omega, by omega⟩
    · unfold mutV
      rw [if_neg (by simpa using h), if_neg h1]
      exact ⟨by simp, by simp⟩
  · unfold mutV
    rw [if_pos h]
    exact ⟨by simp, by simp⟩
theorem Jrp (p : Pg) (d : Dl) : ∃ H, Jap Tryz.prog (L14 Tryz.prog) Jex 10 Tryz.f4 [Jak p, dlD d] [] = some (bD true, H) := by
  rw [Jh9]
  have hb1 : boxH 25 (Jak p) [] = some (.hp 0 0, [Ja0 p]) := rfl
  have hb2 : boxH 34 (dlD d) [Ja0 p] = some (.hp 1 0, [Ja0 p, delB d]) := rfl
  have l0 : Jad (some 3) [Ja0 p, delB d] (.hp 0 0) = some (Jak p) := rfl
  have l1 : Jad (some 3) [Ja0 p, delB d] (.hp 1 0) = some (dlD d) := rfl
  cases h1 : fewV p with
  | false =>
    refine ⟨[Ja0 p, delB d], ?_⟩
    simp only [hb1, hb2, Jan, Jb3, Jca, Bool.not_true, Jaj, Jai, Bool.false_eq_true, if_false, l0, Jdk, h1, Bool.not_false, if_true]
  | true =>
    obtain ⟨hb, hv, hp, hp'⟩ := Jxu h1
    have ro : rowH 34 3 1 [.v (.slice none 0 0), iD 0, iD 0] [(0, dlD d)] [Ja0 p, delB d] = some (.hs 2 1, [Ja0 p, delB d, delB d]) := rfl
    have fw := Qkv 34 d [Ja0 p, delB d, delB d] 2 rfl
    by_cases h2 : d.path.length <= 60
    case neg =>
      rw [decide_eq_false h2] at fw
      refine ⟨[Ja0 p, delB d, delB d], ?_⟩
      simp only [hb1, hb2, Jan, Jb3, Jca, Bool.not_true, Jaj, Jai, Bool.false_eq_true, if_false, l0, l1, Jdk, h1, if_true, ro, fw, Bool.not_false]
    rw [decide_eq_true h2] at fw
    have m1 := Ji9 p d ⟨by omega, by omega, by omega⟩ [Ja0 p, delB d, delB d]
    have hf := Jr0 p d hb hv
    generalize mutV p d = r at *
    have m2 : Jae Jdz [Jak p, dlD d] [Ja0 p, delB d, delB d, resB r.1] = some (.tup [Jak r.1, iD r.2], [Ja0 p, delB d, delB d, resB r.1]) := by
      have e := m1
      rw [Jar _ _ _ rfl] at e ⊢
      obtain ⟨z, e1, e2⟩ := Option.map_eq_some_iff.1 e
      cases e2
      rw [e1]; rfl
    have k0 : Jad (some 3) [Ja0 p, delB d, delB d] (.hp 0 0) = some (Jak p) := rfl
    have k1 : Jad (some 3) [Ja0 p, delB d, delB d] (.hp 1 0) = some (dlD d) := rfl
    have al : Jaz 25 [iD 0, .v (.slice none 0 0), .v (.slice none 0 0)] [Ja0 p, delB d, delB d] = some (.hp 3 0, [Ja0 p, delB d, delB d, nilB]) := rfl
    have st : setH 3 (.hp 3 0) (Jak r.1) [Ja0 p, delB d, delB d, nilB] = some (.v undef, [Ja0 p, delB d, delB d, resB r.1]) := rfl
    have k2 : Jad (some 3) [Ja0 p, delB d, delB d, resB r.1] (.hp 0 0) = some (Jak p) := rfl
    have k3 : Jad (some 3) [Ja0 p, delB d, delB d, resB r.1] (.hp 1 0) = some (dlD d) := rfl
    have al2 : Jaz 25 [iD 0, .v (.slice none 0 0), .v (.slice none 0 0)] [Ja0 p, delB d, delB d, resB r.1] = some (.hp 4 0, [Ja0 p, delB d, delB d, resB r.1, nilB]) := rfl
    have st2 : setH 3 (.hp 4 0) (Jak r.1) [Ja0 p, delB d, delB d, resB r.1, nilB] = some (.v undef, [Ja0 p, delB d, delB d, resB r.1, resB r.1]) := rfl
    have k4 : Jad (some 3) [Ja0 p, delB d, delB d, resB r.1, resB r.1] (.hp 3 0) = some (Jak r.1) := rfl
    have k5 : Jad (some 3) [Ja0 p, delB d, delB d, resB r.1, resB r.1] (.hp 4 0) = some (Jak r.1) := rfl
    have x0 : Jat (.tup [Jak r.1, iD r.2]) 0 = some (Jak r.1) := rfl
    have x1 : Jat (.tup [Jak r.1, iD r.2]) 1 = some (iD r.2) := rfl
    have sm := Jqa r.1 r.1 hf hf [Ja0 p, delB d, delB d, resB r.1, resB r.1]
    rw [decide_eq_true rfl] at sm
    refine ⟨[Ja0 p, delB d, delB d, resB r.1, resB r.1], ?_⟩
    simp only [hb1, hb2, Jan, Jb3, Jca, Bool.not_true, Jaj, Jai, Bool.false_eq_true, if_false, l0, l1, Jdk, h1, if_true, ro, fw, k0, k1, m1, x0, x1, al, st, k2, k3, m2, al2, st2, k4, k5, sm, Jbk, beq_self_eq_true]
end Go.Proofs.YtinnbafplhcnpaaGreat
end
section
namespace Go.Proofs.YtinnbafplhcnpaaGreat
open Go.RowKit
set_option linter.unusedVariables false
set_option linter.unusedSimpArgs false
set_option maxRecDepth 100000
theorem Jsm (p : Pg) (n : Int) : ∃ H, Jap Tryz.prog (L14 Tryz.prog) Je4 10 Tryz.f8 [Jak p, iD n] [] = some (bD true, H) := by
  rw [Jir]
  have hb1 : boxH 25 (Jak p) [] = some (.hp 0 0, [Ja0 p]) := rfl
  have l0 : Jad (some 3) [Ja0 p] (.hp 0 0) = some (Jak p) := rfl
  cases h1 : fewV p with
  | false =>
    refine ⟨[Ja0 p], ?_⟩
    simp only [hb1, Jan, Jb3, Jca, Bool.not_true, Jaj, Jai, Bool.false_eq_true, if_false, l0, Jdk, h1, Bool.not_false, if_true]
  | true =>
    obtain ⟨hb, hv, hp, hp'⟩ := Jxu h1
    have a1 := Jss p hp' [Ja0 p]
    have x0 : Jat (.tup [dlsD (Jbr p), iD (chk9 p)]) 0 = some (dlsD (Jbr p)) := rfl
    have x1 : Jat (.tup [dlsD (Jbr p), iD (chk9 p)]) 1 = some (iD (chk9 p)) := rfl
    by_cases h0 : chk9 p = 0
    case neg =>
      have z0 : ((chk9 p) != 0) = true := bne_iff_ne.2 h0
      refine ⟨[Ja0 p], ?_⟩
      simp only [hb1, Jan, Jb3, Jca, Bool.not_true, Jaj, Jai, Bool.false_eq_true, if_false, l0, Jdk, h1, a1, x0, x1, Jb8, z0, if_true]
    have z0 : ((chk9 p) != 0) = false := by rw [h0]; rfl
    by_cases hn : n < 0
    · refine ⟨[Ja0 p], ?_⟩
      simp only [hb1, Jan, Jb3, Jca, Bool.not_true, Jaj, Jai, Bool.false_eq_true, if_false, l0, Jdk, h1, a1, x0, x1, Jb8, z0, Jbd, hn, decide_true, if_true]
    by_cases hl : ((Jbr p).length : Int) <= n
    · refine ⟨[Ja0 p], ?_⟩
      simp only [hb1, Jan, Jb3, Jca, Bool.not_true, Jaj, Jai, Bool.false_eq_true, if_false, l0, Jdk, h1, a1, x0, x1, Jb8, z0, Jbd, hn, decide_false, Jdv, Jc3, hl, decide_true, if_true]
    obtain ⟨k, rfl⟩ := Int.eq_ofNat_of_zero_le (show 0 <= n by omega)
    have hk : k < (Jbr p).length := by omega
    have i1 := Jol (Jbr p) k hk
    have hm := List.getElem_mem hk
    generalize (Jbr p)[k] = d at *
    have ld := Js8 [Ja0 p] d
    have hpl := Jwz hm
    have hr := Jqi hm
    have hf := Jr0 p d hb hv
    obtain ⟨t1, t2, t3, t4⟩ := Jmc p d h0 hb (Js7 hm).2
    have m1 := Ji9 p d ⟨by omega, by omega, by omega⟩ [Ja0 p]
    rw [<- hr] at t1 t2 t3 t4
    generalize mutV p d = r at *
    have y0 : Jat (.tup [Jak r.1, iD r.2]) 0 = some (Jak r.1) := rfl
    have y1 : Jat (.tup [Jak r.1, iD r.2]) 1 = some (iD r.2) := rfl
    have al : Jaz 25 [iD 0, .v (.slice none 0 0), .v (.slice none 0 0)] [Ja0 p] = some (.hp 1 0, [Ja0 p, nilB]) := rfl
    have st : setH 3 (.hp 1 0) (Jak r.1) [Ja0 p, nilB] = some (.v undef, [Ja0 p, resB r.1]) := rfl
    have k1 : Jad (some 3) [Ja0 p, resB r.1] (.hp 1 0) = some (Jak r.1) := rfl
    have k2 : Jad (some 3) [Ja0 p, resB r.1] (.hp 0 0) = some (Jak p) := rfl
    have ck := Jjj r.1 hf.2 [Ja0 p, resB r.1]
    have sm := Jqa p r.1 hp hf [Ja0 p, resB r.1]
    rw [decide_eq_false (show ¬ p = r.1 from fun e => t2 (by rw [<- e]))] at sm
    have oo := Jo5 r.1 0 hf.2 [Ja0 p, resB r.1]
    rw [t3] at oo
    have q2 : ((r.2 : Int) == 0) = true := by rw [t1]; rfl
    have q3 : ((2 : Int) == 2) = true := rfl
    refine ⟨[Ja0 p, resB r.1], ?_⟩
    rcases t4 with t4 | t4
    · have q4 : ((chk9 r.1) == 0) = true := by rw [t4]; rfl
      simp only [hb1, Jan, Jb3, Jca, Bool.not_true, Bool.not_false, Jaj, Jai, Bool.false_eq_true, if_false, l0, Jdk, h1, a1, x0, x1, Jb8, z0, Jbd, hn, decide_false, Jdv, Jc3, hl, if_true, i1, ld, m1, y0, y1, al, st, k1, k2, ck, sm, oo, Jbk, q2, q3, q4]
    · have q4 : ((chk9 r.1) == 0) = false := by rw [t4]; rfl
      have q5 : ((chk9 r.1) == 13) = true := by rw [t4]; rfl
      simp only [hb1, Jan, Jb3, Jca, Bool.not_true, Bool.not_false, Jaj, Jai, Bool.false_eq_true, if_false, l0, Jdk, h1, a1, x0, x1, Jb8, z0, Jbd, hn, decide_false, Jdv, Jc3, hl, if_true, i1, ld, m1, y0, y1, al, st, k1, k2, ck, sm, oo, Jbk, q2, q3, q4, q5]
theorem Jso (p : Pg) (n m : Int) : ∃ H, Jap Tryz.prog (L14 Tryz.prog) Je5 10 Tryz.f9 [Jak p, iD n, iD m] [] = some (bD true, H) := by
  rw [Jis]
  have hb1 : boxH 25 (Jak p) [] = some (.hp 0 0, [Ja0 p]) := rfl
  have l0 : Jad (some 3) [Ja0 p] (.hp 0 0) = some (Jak p) := rfl
  cases h1 : fewV p with
  | false =>
    refine ⟨[Ja0 p], ?_⟩
    simp only [hb1, Jan, Jb3, Jca, Bool.not_true, Jaj, Jai, Bool.false_eq_true, if_false, l0, Jdk, h1, Bool.not_false, if_true]
  | true =>
    obtain ⟨hb, hv, hp, hp'⟩ := Jxu h1
    have a1 := Jss p hp' [Ja0 p]
    have x0 : Jat (.tup [dlsD (Jbr p), iD (chk9 p)]) 0 = some (dlsD (Jbr p)) := rfl
    have x1 : Jat (.tup [dlsD (Jbr p), iD (chk9 p)]) 1 = some (iD (chk9 p)) := rfl
    by_cases h0 : chk9 p = 0
    case neg =>
      have z0 : ((chk9 p) != 0) = true := bne_iff_ne.2 h0
      refine ⟨[Ja0 p], ?_⟩
      simp only [hb1, Jan, Jb3, Jca, Bool.not_true, Jaj, Jai, Bool.false_eq_true, if_false, l0, Jdk, h1, a1, x0, x1, Jb8, z0, if_true]
    have z0 : ((chk9 p) != 0) = false := by rw [h0]; rfl
    by_cases hn : n < 0
    · refine ⟨[Ja0 p], ?_⟩
      simp only [hb1, Jan, Jb3, Jca, Bool.not_true, Jaj, Jai, Bool.false_eq_true, if_false, l0, Jdk, h1, a1, x0, x1, Jb8, z0, Jbd, hn, decide_true, if_true]
    by_cases hl : ((Jbr p).length : Int) <= n
    · refine ⟨[Ja0 p], ?_⟩
      simp only [hb1, Jan, Jb3, Jca, Bool.not_true, Jaj, Jai, Bool.false_eq_true, if_false, l0, Jdk, h1, a1, x0, x1, Jb8, z0, Jbd, hn, decide_false, Jdv, Jc3, hl, decide_true, if_true]
    by_cases hm : m < 0
    · refine ⟨[Ja0 p], ?_⟩
      simp only [hb1, Jan, Jb3, Jca, Bool.not_true, Jaj, Jai, Bool.false_eq_true, if_false, l0, Jdk, h1, a1, x0, x1, Jb8, z0, Jbd, hn, decide_false, Jdv, Jc3, hl, hm, decide_true, if_true]
    by_cases hlm : ((Jbr p).length : Int) <= m
    · refine ⟨[Ja0 p], ?_⟩
      simp only [hb1, Jan, Jb3, Jca, Bool.not_true, Jaj, Jai, Bool.false_eq_true, if_false, l0, Jdk, h1, a1, x0, x1, Jb8, z0, Jbd, hn, decide_false, Jdv, Jc3, hl, hm, hlm, decide_true, if_true]
    by_cases hnm : n = m
    · have e0 : ((n : Int) == m) = true := beq_iff_eq.2 hnm
      refine ⟨[Ja0 p], ?_⟩
      simp only [hb1, Jan, Jb3, Jca, Bool.not_true, Jaj, Jai, Bool.false_eq_true, if_false, l0, Jdk, h1, a1, x0, x1, Jb8, z0, Jbd, hn, decide_false, Jdv, Jc3, hl, hm, hlm, Jbk, e0, if_true]
    have e0 : ((n : Int) == m) = false := beq_eq_false_iff_ne.2 hnm
    obtain ⟨k, rfl⟩ := Int.eq_ofNat_of_zero_le (show 0 <= n by omega)
    obtain ⟨j, rfl⟩ := Int.eq_ofNat_of_zero_le (show 0 <= m by omega)
    have hk : k < (Jbr p).length := by omega
    have hj : j < (Jbr p).length := by omega
    have i1 := Jol (Jbr p) k hk
    have i2 := Jol (Jbr p) j hj
    have hma := List.getElem_mem hk
    have hmb := List.getElem_mem hj
    have hab : (Jbr p)[k] ≠ (Jbr p)[j] := fun e => by
      have pw := List.pairwise_iff_getElem.1 (Jpr p)
      have hz : Jgs (Jbr p)[k] (Jbr p)[j] = 0 := (Jnd _ _).2 e
      have hz2 : Jgs (Jbr p)[j] (Jbr p)[k] = 0 := (Jnd _ _).2 e.symm
      by_cases hlt : k < j
      · have := pw k j hk hj hlt; omega
      · have := pw j k hj hk (by omega); omega
    generalize (Jbr p)[k] = a at *
    generalize (Jbr p)[j] = b at *
    have f1 : Jaa 1 (.ptr (dlC a)) = some (.ptr [iD a.op, iD a.n]) := rfl
    have g1 : Jaa 1 (.ptr (dlC b)) = some (.ptr [iD b.op, iD b.n]) := rfl
    have f2 : Jad none [Ja0 p] (.ptr [iD a.op, iD a.n]) = some (iD a.op) := rfl
    have g2 : Jad none [Ja0 p] (.ptr [iD b.op, iD b.n]) = some (iD b.op) := rfl
    by_cases ho : a.op = b.op
    case neg =>
      have z1 : ((a.op : Int) != b.op) = true := bne_iff_ne.2 ho
      refine ⟨[Ja0 p], ?_⟩
      simp only [hb1, Jan, Jb3, Jca, Bool.not_true, Jaj, Jai, Bool.false_eq_true, if_false, l0, Jdk, h1, a1, x0, x1, Jb8, z0, Jbd, hn, decide_false, Jdv, Jc3, hl, hm, hlm, Jbk, e0, i1, i2, f1, f2, g1, g2, z1, if_true]
    have z1 : ((a.op : Int) != b.op) = false := by rw [ho]; exact bne_self_eq_false _
    by_cases h4 : (4 : Int) < a.op
    · refine ⟨[Ja0 p], ?_⟩
      simp only [hb1, Jan, Jb3, Jca, Bool.not_true, Jaj, Jai, Bool.false_eq_true, if_false, l0, Jdk, h1, a1, x0, x1, Jb8, z0, Jbd, hn, decide_false, Jdv, Jc3, hl, hm, hlm, Jbk, e0, i1, i2, f1, f2, g1, g2, z1, Jfr, h4, decide_true, if_true]
    have ha := Jw8 p a b (Jlc h0).2 (Js7 hma).2 (Js7 hmb).2 hab ho (by omega)
    have ta := Jmc p a h0 hb (Js7 hma).2
    have tb := Jmc p b h0 hb (Js7 hmb).2
    have hpa := Jwz hma
    have hpb := Jwz hmb
    have la := Js8 [Ja0 p] a
    have hfa := Jr0 p a hb hv
    have hfb := Jr0 p b hb hv
    have m1 := Ji9 p a ⟨by omega, by omega, by omega⟩ [Ja0 p]
    have m2 := fun H => Ji9 p b ⟨by omega, by omega, by omega⟩ H
    rw [<- Jqi hma, <- Jqi hmb] at ha
    rw [<- Jqi hma] at ta
    rw [<- Jqi hmb] at tb
    generalize mutV p a = r at *
    generalize mutV p b = s at *
    have y0 : Jat (.tup [Jak r.1, iD r.2]) 0 = some (Jak r.1) := rfl
    have y1 : Jat (.tup [Jak r.1, iD r.2]) 1 = some (iD r.2) := rfl
    have v0 : Jat (.tup [Jak s.1, iD s.2]) 0 = some (Jak s.1) := rfl
    have v1 : Jat (.tup [Jak s.1, iD s.2]) 1 = some (iD s.2) := rfl
    have al : Jaz 25 [iD 0, .v (.slice none 0 0), .v (.slice none 0 0)] [Ja0 p] = some (.hp 1 0, [Ja0 p, nilB]) := rfl
    have st : setH 3 (.hp 1 0) (Jak r.1) [Ja0 p, nilB] = some (.v undef, [Ja0 p, resB r.1]) := rfl
    have k1 : Jad (some 3) [Ja0 p, resB r.1] (.hp 0 0) = some (Jak p) := rfl
    have lb := Js8 [Ja0 p, resB r.1] b
    have al2 : Jaz 25 [iD 0, .v (.slice none 0 0), .v (.slice none 0 0)] [Ja0 p, resB r.1] = some (.hp 2 0, [Ja0 p, resB r.1, nilB]) := rfl
    have st2 : setH 3 (.hp 2 0) (Jak s.1) [Ja0 p, resB r.1, nilB] = some (.v undef, [Ja0 p, resB r.1, resB s.1]) := rfl
    have k2 : Jad (some 3) [Ja0 p, resB r.1, resB s.1] (.hp 1 0) = some (Jak r.1) := rfl
    have k3 : Jad (some 3) [Ja0 p, resB r.1, resB s.1] (.hp 2 0) = some (Jak s.1) := rfl
    have sm := Jqa r.1 s.1 hfa hfb [Ja0 p, resB r.1, resB s.1]
    rw [decide_eq_false (show ¬ r.1 = s.1 from fun e => ha.1 (by rw [e]))] at sm
    have w1 : Jaa 2 (.hp 1 0) = some (.hp 1 2) := rfl
    have w0 : Jaa 2 (.hp 0 0) = some (.hp 0 2) := rfl
    have k4 : Jad none [Ja0 p, resB r.1, resB s.1] (.hp 1 2) = some (Jaf r.1.body) := rfl
    have k5 : Jad none [Ja0 p, resB r.1, resB s.1] (.hp 0 2) = some (Jaf p.body) := rfl
    have q2 : ((r.2 : Int) == 0) = true := by rw [ta.1]; rfl
    have q3 : ((s.2 : Int) == 0) = true := by rw [tb.1]; rfl
    have q4 : (((r.1.body.length : Nat) : Int) == ((p.body.length : Nat) : Int)) = true := by rw [ha.2]; exact beq_self_eq_true _
    refine ⟨[Ja0 p, resB r.1, resB s.1], ?_⟩
    simp only [hb1, Jan, Jb3, Jca, Bool.not_true, Bool.not_false, Jaj, Jai, Bool.false_eq_true, if_false, l0, Jdk, h1, a1, x0, x1, Jb8, z0, Jbd, hn, decide_false, Jdv, Jc3, hl, hm, hlm, Jbk, e0, i1, i2, f1, f2, g1, g2, z1, Jfr, h4, if_true, la, m1, y0, y1, al, st, k1, lb, m2, v0, v1, al2, st2, k2, k3, sm, q2, q3, w1, w0, k4, k5, Jkc, q4]
end Go.Proofs.YtinnbafplhcnpaaGreat
end
section
namespace Go.Proofs.YtinnbafplhcnpaaGreat
open Go.ChangeShapes Go.WideShapes Go.ChangeAt Go.RowKit Go.Deep Go.Joins
set_option linter.unusedVariables false
set_option maxRecDepth 100000
section
variable {H : Type} {enc : TypeId × Value -> H} {W : World} {d : DataW H} {p : List MemPlace}
end
end Go.Proofs.YtinnbafplhcnpaaGreat
end
section
namespace Go.Proofs.YtinnbafplhcnpaaGreat
open Go.ChangeShapes Go.WideShapes Go.ChangeAt Go.RowKit Go.Deep Go.Joins Go.ChangeMaps
set_option linter.unusedVariables false
set_option maxRecDepth 100000
section
variable {H : Type} {enc : TypeId × Value -> H} {W : World} {d : DataW H} {p : List MemPlace}
abbrev goInt (n : Int) : Prop := -9223372036854775808 <= n /\ n <= 9223372036854775807
theorem Qd4 {n : Int} (h : (Lit.int .i64 n).wf = true) : goInt n := by
  have e1 : IntKind.i64.min = -9223372036854775808 := by decide
  have e2 : IntKind.i64.max = 9223372036854775807 := by decide
  simp only [Lit.wf, Bool.and_eq_true, decide_eq_true_eq, e1, e2] at h
  exact h
theorem Qe1 {v : Value} {n0 : Nat} {y : DataW H × List MemPlace} (hf : DataW.trod enc Tryz.prog W 0 (fun _ => true) true n0 22 [v] = some y) : ∃ l, Jmu W v l /\ ∀ n ∈ l, goInt n := by
  rcases open_ints Tryz.underlying22 Tryz.underlying3 (by kernel_rfl) hf with ⟨hcs, _⟩ | ⟨x, len, cap, zs, hcs, _, hl, hm, hz, _, hcell, hwz⟩
  · simp only [List.cons.injEq, and_true] at hcs
    subst hcs
    exact ⟨[], .inl ⟨none, 0, rfl, rfl, rfl, fun _ => rfl⟩, by simp⟩
  · simp only [List.cons.injEq, and_true] at hcs
    subst hcs
    have hz' : zs.length = cap := by simpa using hz
    refine ⟨zs.take len, ?_, fun n hn => Qd4 (hwz n (List.mem_of_mem_take hn))⟩
    have hlen : (zs.take len).length = len := by rw [List.length_take]; omega
    by_cases h0 : len = 0
    · subst h0; exact .inl ⟨_, cap, rfl, hlen, by simp, fun h => by cases h⟩
    · obtain ⟨b, off, rfl, hc⟩ := ints_at hcell (by omega)
      refine .inr ⟨b, off, cap, by rw [hlen], by omega, by omega, ?_, fun j hj => ?_⟩
      · exact block_lt (hc 0 (by omega))
      · have hj' : j < len := by rw [List.length_map, hlen] at hj; exact hj
        have hjz : j < zs.length := by omega
        rw [hc j hjz, List.getElem?_map, List.getElem?_take_of_lt hj', List.getElem?_eq_getElem hjz]
        simp [hjz]
theorem Qjn {v : Value} {n0 : Nat} {y : DataW H × List MemPlace} (hf : DataW.trod enc Tryz.prog W 0 (fun _ => true) true n0 23 [v] = some y) : ∃ l, Jbz W v l /\ ∀ n ∈ l, goInt n.1 /\ goInt n.2 := by
  rcases open_slice_pairs Tryz.underlying23 Tryz.underlying54 (by kernel_rfl) rfl rfl (by kernel_rfl) (by kernel_rfl) hf with ⟨hcs, _⟩ | ⟨x, len, cap, m, n, V0, V1, D0, D1, P0, P1, hcs, _, hl, hm, hmm, _, hx⟩
  · simp only [List.cons.injEq, and_true] at hcs
    subst hcs
    exact ⟨[], .inl ⟨none, 0, rfl, rfl, rfl, fun _ => rfl⟩, by simp⟩
  · simp only [List.cons.injEq, and_true] at hcs
    subst hcs
    have hm' : m = cap := by simpa using hmm
    subst hm'
    have hnum : ∀ i, i < m -> ∃ t z : Int, V0 i = .int .i64 t /\ V1 i = .int .i64 z /\ goInt t /\ goInt z := fun i hi => by
      obtain ⟨_, _, h0, h1⟩ := hx i hi
      obtain ⟨t, e0, _, w0⟩ := DataW.trod_int Tryz.underlying3 h0
      obtain ⟨z, e1, _, w1⟩ := DataW.trod_int Tryz.underlying3 h1
      exact ⟨t, z, by simpa using e0, by simpa using e1, Qd4 w0, Qd4 w1⟩
    let f : Nat -> Nd := fun i => (match V0 i with | .int _ t => t | _ => 0, match V1 i with | .int _ z => z | _ => 0)
    have hf0 : ∀ i, i < m -> V0 i = .int .i64 (f i).1 /\ V1 i = .int .i64 (f i).2 /\ goInt (f i).1 /\ goInt (f i).2 := fun i hi => by
      obtain ⟨t, z, e0, e1, w0, w1⟩ := hnum i hi
      simp only [f, e0, e1]; exact ⟨trivial, trivial, w0, w1⟩
    refine ⟨(List.range len).map f, ?_, fun n hn => by
      obtain ⟨i, hi, rfl⟩ := List.mem_map.1 hn
      exact (hf0 i (by have := List.mem_range.1 hi; omega)).2.2⟩
    have hlen : ((List.range len).map f).length = len := by simp
    by_cases h0 : len = 0
    · subst h0; exact .inl ⟨_, m, rfl, by simp, by simp [Jbb], fun h => by cases h⟩
    · have hc0 := (hx 0 (by omega)).1
      have hsp := Qit hc0
      obtain ⟨b, off, sp⟩ := x
      have hsp' : sp = none := by simpa [Addr.add] using hsp
      subst hsp'
      have hblt : b < W.heap.size := by have := block_lt hc0; rwa [Qa8] at this
      refine .inr ⟨b, off, m, by rw [hlen], by omega, by omega, hblt, fun j hj => ?_⟩
      rw [Jce, hlen] at hj
      obtain ⟨q, hq⟩ : ∃ q, j = 2 * q \/ j = 2 * q + 1 := ⟨j / 2, by omega⟩
      have hqm : q < m := by omega
      have hql : q < ((List.range len).map f).length := by rw [hlen]; omega
      obtain ⟨g1, g2, _⟩ := hx q hqm
      obtain ⟨e0, e1, _⟩ := hf0 q hqm
      rw [Qa8] at g1 g2
      rcases hq with rfl | rfl
      · rw [Jjt _ q hql, show off + 2 * q = off + q * 2 from by omega, g1, e0]; simp
      · rw [Jjs _ q hql, show off + (2 * q + 1) = off + (q * 2 + 1) from by omega, g2, e1]; simp
def pgGo (x : Pg) : Prop := goInt x.params /\ (∀ n ∈ x.vars, goInt n) /\ ∀ n ∈ x.body, goInt n.1 /\ goInt n.2
theorem Jt4 {base : Nat} {v : Value} (hv : Value.okWide Tryz.prog W .any base 25 v) (h : DataW.Trod enc Tryz.prog W 0 (fun _ => true) true 25 v d p) : ∃ x : Pg, Rep (· < W.heap.size) [] W v (Jak x) /\ pgGo x := by
  obtain ⟨v0, v1, v2, y0, y1, y2, n, rfl, _, _, h0, h1, h2⟩ := open_agg3 Tryz.underlying25 (by kernel_rfl) (by kernel_rfl) hv h
  obtain ⟨t, e0, _, i0⟩ := DataW.trod_int Tryz.underlying3 h0
  obtain ⟨l1, w1, i1⟩ := Qe1 h1
  obtain ⟨l2, w2, i2⟩ := Qjn h2
  simp at e0
  refine ⟨⟨t, l1, l2⟩, ?_, Qd4 i0, i1, i2⟩
  simp only [Jak, Qgy, Rep]
  exact ⟨[v0, v1, v2], rfl, RepA.cons (by rw [e0]; exact Jqc t) (RepA.cons (Jkf w1) (RepA.cons (Jie w2) RepA.nil))⟩
end
end Go.Proofs.YtinnbafplhcnpaaGreat
end
section
namespace Go.Proofs.YtinnbafplhcnpaaGreat
open Go.ChangeShapes Go.WideShapes Go.ChangeAt Go.RowKit Go.Deep Go.Joins Go.ChangeMaps
set_option linter.unusedVariables false
set_option maxRecDepth 100000
section
variable {H : Type} {enc : TypeId × Value -> H} {W : World} {d : DataW H} {p : List MemPlace}
theorem Qh3 {base : Nat} {v : Value} (hv : Value.okWide Tryz.prog W .any base 34 v) (h : DataW.Trod enc Tryz.prog W 0 (fun _ => true) true 34 v d p) : ∃ x : Dl, Rep (· < W.heap.size) [] W v (dlD x) := by
  obtain ⟨v0, v1, v2, y0, y1, y2, n, rfl, _, _, h0, h1, h2⟩ := open_agg3 Tryz.underlying34 (by kernel_rfl) (by kernel_rfl) hv h
  obtain ⟨l0, w0, i0⟩ := Qe1 h0
  obtain ⟨o, e1, _, i1⟩ := DataW.trod_int Tryz.underlying3 h1
  obtain ⟨m, e2, _, i2⟩ := DataW.trod_int Tryz.underlying3 h2
  simp at e1 e2
  refine ⟨⟨l0, o, m⟩, ?_⟩
  simp only [dlD, dlC, Rep]
  exact ⟨[v0, v1, v2], rfl, RepA.cons (Jkf w0) (RepA.cons (by rw [e1]; exact Jqc o) (RepA.cons (by rw [e2]; exact Jqc m) RepA.nil))⟩
end
end Go.Proofs.YtinnbafplhcnpaaGreat
end
section
namespace Go.Proofs.YtinnbafplhcnpaaGreat
open Go.RowKit
set_option linter.unusedVariables false
theorem Jro              (p : Pg) (v : Value) (d : Dl) (u : Value) (w : World) (hv : Rep (· < w.heap.size) [] w v (Jak   p)) (hp : pgGo p) (hu : Rep (· < w.heap.size) [] w u (dlD d)) :
    Calls Tryz.prog 4 #[v, u] w fun e w' => e = .returned (.bool true) /\ Below w.heap.size w w' := by
  obtain ⟨H, hH⟩ := Jrp p d
  exact Jxd Qly mixed Tryz.func4 (by kernel_rfl) (by decide) hH (vs := [v, u]) (RepA.cons hv (RepA.cons hu RepA.nil))
theorem Jsl             (p : Pg) (v : Value) (n : Int) (w : World) (hv : Rep (· < w.heap.size) [] w v (Jak   p)) (hp : pgGo p) :
    Calls Tryz.prog 8 #[v, .int .i64 n] w fun e w' => e = .returned (.bool true) /\ Below w.heap.size w w' := by
  obtain ⟨H, hH⟩ := Jsm p n
  exact Jxd Qly mixed Tryz.func8 (by kernel_rfl) (by decide) hH (vs := [v, .int .i64 n]) (RepA.cons hv (RepA.cons (Jqc n) RepA.nil))
theorem Jsn             (p : Pg) (v : Value) (n m : Int) (w : World) (hv : Rep (· < w.heap.size) [] w v (Jak   p)) (hp : pgGo p) :
    Calls Tryz.prog 9 #[v, .int .i64 n, .int .i64 m] w fun e w' => e = .returned (.bool true) /\ Below w.heap.size w w' := by
  obtain ⟨H, hH⟩ := Jso p n m
  exact Jxd Qly mixed Tryz.func9 (by kernel_rfl) (by decide) hH (vs := [v, .int .i64 n, .int .i64 m]) (RepA.cons hv (RepA.cons (Jqc n) (RepA.cons (Jqc m) RepA.nil)))
end Go.Proofs.YtinnbafplhcnpaaGreat
end
