import Derived.Test.YtinnbafplhcnpaaGreatHf
import Derived.Test.YtinnbafplhcnpaaGreatHl
import Derived.Test.YtinnbafplhcnpaaGreatHq
import Derived.Test.YtinnbafplhcnpaaGreatHr
section
namespace Go.Proofs.YtinnbafplhcnpaaGreat
open Go.RowKit
set_option linter.unusedVariables false
set_option linter.unusedSimpArgs false
set_option maxRecDepth 100000
theorem SInv.kp {p : Pg} {H H' : Heap} {ls : List Dl} (h : SInv p H ls) (k : Kp H.length H H') : SInv p H' ls := by
  obtain ⟨h0, ⟨d, cs, h1, h2, h3⟩, h4, h5, h6⟩ := h
  refine ⟨Nat.le_trans h0 k.1, ⟨d, cs, by rw [k.2 1 (by omega)]; exact h1, h2.keep fun r m e => k.2 r ?_, h3.keep fun r l hr => k.2 r (List.getElem?_eq_some_iff.1 hr).1⟩, by rw [k.2 2 (by omega)]; exact h4, by rw [k.2 3 (by omega)]; exact h5, by rw [k.2 4 (by omega)]; exact h6⟩
  subst e
  exact h2.lt.2
def Qik (pv : List Int) (d : Dl) : Dl := ⟨pv, d.op, d.n⟩
theorem Qix (l : List Nd) (k : Int) : (Jdx l k).map (Qik ((ofv l k).getD [])) = Jrq l k := by
  unfold Jdx Jrq
  rw [List.map_map]; rfl
def Jxi (l : List Nd) (k : Nat) : List Dl := (List.range k).flatMap fun j : Nat => Jrq l j
theorem Jvr (l : List Nd) (k : Nat) : Jxi l (k + 1) = Jxi l k ++ Jrq l k := by
  unfold Jxi
  rw [List.range_succ, List.flatMap_append]; simp
theorem Jz6 (l : List Nd) : ∀ k, (Jxi l k).length <= 5 * k
  | 0 => by simp [Jxi]
  | k + 1 => by
    have h1 := Jz6 l k
    have h2 := Jyu l k
    have h3 := Jlb l k
    rw [Jvr, List.length_append]
    omega
theorem Qio       (p : Pg) (H : Heap) (ls : List Dl) (pv : List Int) (c : Dl) (h : SInv p H ls) (hpv : pv.length ≤ 3000) (hl : ls.length ≤ 90000) :
    ∃ H1 H2 H4 d', Jaz 34 [.v (.slice none 0 0), iD 0, iD 0] H = some (.hp H.length 0, H ++ [.cells 34 3 [.v (.slice none 0 0), iD 0, iD 0]]) /\
      setH 3 (.hp H.length 0) (dlD c) (H ++ [.cells 34 3 [.v (.slice none 0 0), iD 0, iD 0]]) = some (.v undef, H1) /\ Jd3 3 1 (.v (.slice none 0 0)) (Jag pv) H1 = some (d', H2) /\
      setH 1 (.hp H.length 0) d' H2 = some (.v undef, H2.set H.length (.cells 34 3 [d', iD c.op, iD c.n])) /\ Jad (some 3) (H2.set H.length (.cells 34 3 [d', iD c.op, iD c.n])) (.hp H.length 0) = some (.agg [d', iD c.op, iD c.n]) /\
      Y14 Tryz.prog 4 [.agg [d', iD c.op, iD c.n]] (H2.set H.length (.cells 34 3 [d', iD c.op, iD c.n])) = some (bD true, H4) /\ SInv p H4 (ls ++ [Qik pv c]) := by
  have h0 := h.len
  have st1 := Qec 34 (Jag c.path) (.v (.slice none 0 0)) (iD 0) (iD 0) c.op c.n (H ++ [.cells 34 3 [.v (.slice none 0 0), iD 0, iD 0]]) H.length (by simp) rfl
  rw [Jyy] at st1
  have k1 : Kp H.length H (H ++ [HO.cells 34 3 [Jag c.path, iD c.op, iD c.n]]) := Kp.app _ _ _ (Nat.le_refl _)
  have g1 : (H ++ [HO.cells 34 3 [Jag c.path, iD c.op, iD c.n]])[H.length]? = some (.cells 34 3 [Jag c.path, iD c.op, iD c.n]) := by simp
  have gl : (H ++ [HO.cells 34 3 [Jag c.path, iD c.op, iD c.n]]).length = H.length + 1 := by simp
  refine ⟨H ++ [.cells 34 3 [Jag c.path, iD c.op, iD c.n]], ?_⟩
  generalize H ++ [HO.cells 34 3 [Jag c.path, iD c.op, iD c.n]] = H1 at *
  obtain ⟨d', H2, a1, a2, a3, a4, a5, a6⟩ := Qs3 (t := 3) (B := 5) (l := []) (new := pv) (d := .v (.slice none 0 0)) (x := Jag pv) (H := H1) (Buf.nil _ _ _ _) (Qm5 H1 pv) (by simp; omega) (by omega)
  have k2 : ∀ k, k < H1.length -> H2[k]? = H1[k]? := fun k hk => a5 k hk (fun q e => by cases e)
  have ne : ∀ q, d' ≠ .hs H.length q := fun q => a6 H.length q (by omega) (fun q e => by cases e)
  have g2 : H2[H.length]? = some (.cells 34 3 [Jag c.path, iD c.op, iD c.n]) := (k2 _ (by omega)).trans g1
  have st2 := Jl5 H2 H.length 0 _ _ _ d' g2 (by simp) a2.cells a2.ok
  have g3 : (H2.set H.length (.cells 34 3 [d', iD c.op, iD c.n]))[H.length]? = some (.cells 34 3 [d', iD c.op, iD c.n]) := List.getElem?_set_self (List.getElem?_eq_some_iff.1 g2).1
  have k3 : Kp H.length H (H2.set H.length (.cells 34 3 [d', iD c.op, iD c.n])) := ⟨by simp; omega, fun k hk => by rw [List.getElem?_set_ne (by omega), k2 k (by omega), k1.2 k hk]⟩
  have hb : Buf 3 1 (H2.set H.length (.cells 34 3 [d', iD c.op, iD c.n])) 5 d' pv.length (Jbg pv) := (by simpa using a2 : Buf 3 1 H2 5 d' pv.length (Jbg pv)).keep fun r m e => List.getElem?_set_ne (fun e2 => ne m (by rw [e, <- e2]))
  obtain ⟨H4, y1, y2⟩ := Qhp p _ ls d' (Qik pv c) (h.kp k3) hb (by omega)
  exact ⟨H2, H4, d', rfl, st1, a1, st2, Jhj _ _ _ _ _ _ g3, y1, y2⟩
theorem Qkz       (p : Pg) (H : Heap) (ls : List Dl) (k : Nat) (n : D) (h : SInv p H ls) (hpv : ((ofv p.body k).getD []).length ≤ 3000) (hl : ls.length ≤ 80000) :
    ∃ H', Jds Tryz.prog (T14y Tryz.prog (Y14 Tryz.prog)) Jbm 300 Tryz.f126 1 [.yld 4, .hp 3 0, Jag ((ofv p.body k).getD []), n, iD k, dlsD (Jdx p.body k), iD (Jdx p.body k).length, iD 0] H =
      some (.exit 2, [.yld 4, .hp 3 0, Jag ((ofv p.body k).getD []), n, iD k, dlsD (Jdx p.body k), iD (Jdx p.body k).length, iD (Jdx p.body k).length], H') /\ SInv p H' (ls ++ Jrq p.body k) := by
  rw [<- Qix]
  have hcl := Jlb p.body k
  have hcl2 : (Jdx p.body k).length <= 5 := by simp [Jdx]; omega
  generalize (ofv p.body k).getD [] = pv at *
  generalize Jdx p.body k = L at *
  have key := Jif (P := Tryz.prog) (T := T14y Tryz.prog (Y14 Tryz.prog)) (kp := Jbm) (fn := Tryz.f126) (li := 1)
    (fun j s H => s = [.yld 4, .hp 3 0, Jag pv, n, iD k, dlsD L, iD L.length, iD j] /\ SInv p H (ls ++ (L.take j).map (Qik pv)))
    (fun r => ∃ H', r = (.exit 2, [.yld 4, .hp 3 0, Jag pv, n, iD k, dlsD L, iD L.length, iD L.length], H') /\ SInv p H' (ls ++ L.map (Qik pv))) L.length 300
    (fun j s H hj hI => by
      obtain ⟨rfl, hI⟩ := hI
      have hlt : (j : Int) < (L.length : Int) := by omega
      have i1 := Jol L j hj
      have l1 := Js8 H L[j]
      have e1 := Jb0 (j : Int) 1 (by omega) (by omega)
      have c1 : (j : Int) + 1 = ((j + 1 : Nat) : Int) := by omega
      rw [c1] at e1
      obtain ⟨H1, H2, H4, d', q1, q2, q3, q4, q5, q6, q7⟩ := Qio p H _ pv L[j] hI hpv (by simp; omega)
      have q6' : Jdq (T14y Tryz.prog (Y14 Tryz.prog)) (.yld 4) [.agg [d', iD L[j].op, iD L[j].n]] (H2.set H.length (.cells 34 3 [d', iD L[j].op, iD L[j].n])) = some (bD true, H4) := q6
      have f0 : Jaa 0 (.hp H.length 0) = some (.hp H.length 0) := rfl
      refine ⟨[.yld 4, .hp 3 0, Jag pv, n, iD k, dlsD L, iD L.length, iD ((j + 1 : Nat) : Int)], H4, ?_, rfl, ?_⟩
      · rw [Jf4]
        simp only [Jbd, hlt, decide_true, Jaj, Jai, if_true, i1, l1, q1, q2, q3, q4, q5, q6', Jan, f0, Jca, Bool.not_true, Bool.false_eq_true, if_false, Jcs, e1]
      · rw [List.take_succ_eq_append_getElem hj, List.map_append, ← List.append_assoc]; exact q7)
    (fun s H hI => by
      obtain ⟨rfl, hI⟩ := hI
      rw [List.take_length] at hI
      refine ⟨(.exit 2, [.yld 4, .hp 3 0, Jag pv, n, iD k, dlsD L, iD L.length, iD L.length], H), ?_, (by intro e; cases e), H, rfl, hI⟩
      rw [Jf4]
      have hlt : ¬ ((L.length : Int) < (L.length : Int)) := by omega
      simp only [Jbd     , hlt, decide_false, Jaj     , Jai       , Bool.false_eq_true, if_false])
    (by omega) (s := [.yld 4, .hp 3 0, Jag pv, n, iD k, dlsD L, iD L.length, iD 0]) (H := H) ⟨rfl, by simpa using h⟩
  obtain ⟨r, k1, H', rfl, k2⟩ := key
  exact ⟨H', k1, k2⟩
theorem Qoy      (p : Pg) (H : Heap) (h : SInv p H []) (hb : p.body.length ≤ 250) (hpv : ∀ k, ((ofv p.body k).getD []).length ≤ 3000) :
    ∃ H', Jug Tryz.prog (Y14 Tryz.prog) [.yld 4, .hp 3 0] H = some (.tup [], H') /\ SInv p H' (Jfe p.body) := by
  rw [Qib, Jlv]
  have hbk : ∀ (H : Heap) (ls : List Dl), SInv p H ls -> Jad none H (.hp 3 0) = some (.hp 1 0) /\ Jad none H (.hp 1 2) = some (Jaf p.body) := fun H ls h => by
    obtain ⟨h0, ⟨d, cs, h1, h2, h3⟩, h4, h5, h6⟩ := h
    exact ⟨Jd7 _ _ _ _ _ _ h5, Jcr _ _ _ _ _ _ _ h1 rfl⟩
  have nd : nilD (.hp 1 0) = some (.hp 1 0) := rfl
  have f0 : Jaa 0 (.hp 1 0) = some (.hp 1 0) := rfl
  have f2 : Jaa 2 (.hp 1 0) = some (.hp 1 2) := rfl
  have hsv : Jfe p.body = Jxi p.body p.body.length := rfl
  rw [hsv]
  have key := Jif (P := Tryz.prog) (T := T14y Tryz.prog (Y14 Tryz.prog)) (kp := Jbm) (fn := Tryz.f126) (li := 0)
    (fun k s H => ∃ u2 u5 u6 u7, s = [.yld 4, .hp 3 0, u2, iD p.body.length, iD k, u5, u6, u7] /\ SInv p H (Jxi p.body k))
    (fun r => ∃ s H', r = (.exit 0, s, H') /\ SInv p H' (Jxi p.body p.body.length)) p.body.length 300
    (fun k s H hk hI => by
      obtain ⟨u2, u5, u6, u7, rfl, hI⟩ := hI
      have hlt : (k : Int) < (p.body.length : Int) := by omega
      obtain ⟨b1, b2⟩ := hbk H _ hI
      have o1 := Qjm p.body k (by omega) H
      have c1 := Qar p.body k (by omega) H
      have x0 : Jat (.tup [Jag ((ofv p.body k).getD []), bD (ofv p.body k).isSome]) 0 = some (Jag ((ofv p.body k).getD [])) := rfl
      have x1 : Jat (.tup [Jag ((ofv p.body k).getD []), bD (ofv p.body k).isSome]) 1 = some (bD (ofv p.body k).isSome) := rfl
      have hhl := Jz6 p.body k
      obtain ⟨H', q1, q2⟩ := Qkz p H _ k (iD p.body.length) hI (hpv k) (by omega)
      have e1 := Jb0 (k : Int) 1 (by omega) (by omega)
      have cc : (k : Int) + 1 = ((k + 1 : Nat) : Int) := by omega
      rw [cc] at e1
      refine ⟨[.yld 4, .hp 3 0, Jag ((ofv p.body k).getD []), iD p.body.length, iD ((k + 1 : Nat) : Int), dlsD (Jdx p.body k), iD (Jdx p.body k).length, iD (Jdx p.body k).length], H', ?_, _, _, _, _, rfl, by rw [Jvr]; exact q2⟩
      rw [Jf5]
      simp only [Jbd     , hlt, decide_true, Jaj     , Jai       , if_true, b1, nd, f0, f2, b2, o1, Jan      , x0, x1, c1, Jdv     , q1, Jcd        , Jcz       , List.getD_cons_zero, List.getD_cons_succ, Jcs     , e1])
    (fun s H hI => by
      obtain ⟨u2, u5, u6, u7, rfl, hI⟩ := hI
      refine ⟨(.exit 0, [.yld 4, .hp 3 0, u2, iD p.body.length, iD p.body.length, u5, u6, u7], H), ?_, (by intro e; cases e), _, H, rfl, hI⟩
      rw [Jf5]
      have hlt : ¬ ((p.body.length : Int) < (p.body.length : Int)) := by omega
      simp only [Jbd     , hlt, decide_false, Jaj     , Jai       , Bool.false_eq_true, if_false])
    (by omega) (s := [.yld 4, .hp 3 0, .undef, iD p.body.length, iD 0, .undef, .undef, .undef]) (H := H) ⟨_, _, _, _, rfl, by simpa [Jxi] using h⟩
  obtain ⟨r, k1, s, H', rfl, k2⟩ := key
  obtain ⟨b1, b2⟩ := hbk H _ h
  refine ⟨H', ?_, k2⟩
  simp only [b1, Jaj, nd, f0, f2, b2, Jkc, k1, Jcd, Jcz]
def Jrm (P : Program) : List D -> Heap -> Option (D × Heap) := Jgr P (T14f P (Y14 P)) Jb5 0 56
theorem Ql3 (ds : List D) (H : Heap) : Jrm Tryz.prog ds H = Jap Tryz.prog (T14f Tryz.prog (Y14 Tryz.prog)) Jb5 0 Tryz.f56 ds H := Jct Tryz.func56 ds H
theorem C_fill : HCallOk Tryz.prog 56 (Jrm Tryz.prog) := Jdf (Qlq (Y14 Tryz.prog) Y14_ok) mixed Tryz.func56 (by kernel_rfl) (by decide)
theorem Qdi         (p : Pg) (o : HO) (hb : p.body.length ≤ 250) (hpv : ∀ k, ((ofv p.body k).getD []).length ≤ 3000) :
    ∃ H' d cs, Jrm Tryz.prog [.hp 1 0] [o, .cells 69 7 (bookC p (.v (.slice none 0 0)))] = some (.tup [], H') /\ H'[1]? = some (.cells 69 7 (bookC p d)) /\ Buf 34 3 H' 5 d (Jfe p.body).length cs /\ CellsOf 3 H' 5 cs (Jfe p.body) := by
  have hinv : SInv p [o, .cells 69 7 (bookC p (.v (.slice none 0 0))), .cells 55 1 [.hp 1 0], .cells 55 1 [.hp 1 0], Jnv Tryz.f56 .ready] [] :=
    ⟨by simp, ⟨_, [], rfl, Buf.nil _ _ _ _, trivial⟩, rfl, rfl, rfl⟩
  obtain ⟨H', q1, h0, ⟨d, cs, h1, h2, h3⟩, h4, h5, h6⟩ := Qoy p _ hinv hb hpv
  have e1 : boxH 55 (.hp 1 0) [o, .cells 69 7 (bookC p (.v (.slice none 0 0)))] = some (.hp 2 0, [o, .cells 69 7 (bookC p (.v (.slice none 0 0))), .cells 55 1 [.hp 1 0]]) := rfl
  have l2 : Jad none [o, .cells 69 7 (bookC p (.v (.slice none 0 0))), .cells 55 1 [.hp 1 0]] (.hp 2 0) = some (.hp 1 0) := rfl
  have e2 : Qbc Tryz.prog [.hp 1 0] [o, .cells 69 7 (bookC p (.v (.slice none 0 0))), .cells 55 1 [.hp 1 0]] = some (.clo (.func 126) [] [.hp 3 0], [o, .cells 69 7 (bookC p (.v (.slice none 0 0))), .cells 55 1 [.hp 1 0], .cells 55 1 [.hp 1 0]]) := by
    rw [Ql4, Jog]
    rfl
  have e4 : rangeS (T14f Tryz.prog (Y14 Tryz.prog)) (.clo (.func 126) [] [.hp 3 0]) [5] (Jli Tryz.f56 0) (Jje Tryz.f56 0) 16 Jb5 [.hp 2 0] [o, .cells 69 7 (bookC p (.v (.slice none 0 0))), .cells 55 1 [.hp 1 0], .cells 55 1 [.hp 1 0]] = some (.normal, H'.set 4 .dead) := by
    have e5 : rangeS (T14f Tryz.prog (Y14 Tryz.prog)) (.clo (.func 126) [] [.hp 3 0]) [5] (Jli Tryz.f56 0) (Jje Tryz.f56 0) 16 Jb5 [.hp 2 0] [o, .cells 69 7 (bookC p (.v (.slice none 0 0))), .cells 55 1 [.hp 1 0], .cells 55 1 [.hp 1 0]] =
      Qhi (Jug Tryz.prog (Y14 Tryz.prog) [.yld 4, .hp 3 0] [o, .cells 69 7 (bookC p (.v (.slice none 0 0))), .cells 55 1 [.hp 1 0], .cells 55 1 [.hp 1 0], Jnv Tryz.f56 .ready]) 4 := rfl
    rw [e5, q1]
    unfold Qhi
    simp only [h6]
    rfl
  refine ⟨H'.set 4 .dead, d, cs, ?_, by rw [List.getElem?_set_ne (by omega)]; exact h1, h2.set 4 _ (by omega), h3.keep fun r l hr => List.getElem?_set_ne (fun e => by subst e; rw [h6] at hr; cases hr)⟩
  rw [Ql3, Jof]
  simp only [e1, Jan, l2, Jaj, e2, e4, Jn1]
def fs14g (P : Program) : List Entry := (55, false, G_Do (Jrm P)) :: Qkn P
theorem Qoh : ∀ p ∈ fs14g Tryz.prog, Jbu Tryz.prog p := Jac (Jcg (C_Do C_fill)) <| Jr7
def T14g (P : Program) : Tab := ⟨fs14g P, noYl⟩
theorem Qtb : TabOk Tryz.prog (T14g Tryz.prog) := Jb4 Qoh
end Go.Proofs.YtinnbafplhcnpaaGreat
end
section
namespace Go.Proofs.YtinnbafplhcnpaaGreat
open Go.RowKit
set_option linter.unusedVariables false
set_option maxRecDepth 100000
def Jge : List Nat := []
theorem Jov (n : Nat) (x0 : D) (h : Heap) : Jap Tryz.prog (T14g Tryz.prog) Jge n Tryz.f30 [x0] h =
(thn (nilD x0) fun y0 =>
thn (Jaa 3 y0) fun y1 =>
thnH ((G_Do (Jrm Tryz.prog)) [y1, (.clo (.func 56) [x0] [])] h) fun y2 h3 =>
thn (nilD x0) fun y4 =>
thn (Jaa 6 y4) fun y5 =>
thn (Jad none h3 y5) fun y6 =>
some (y6, h3)) := by kernel_rfl
end Go.Proofs.YtinnbafplhcnpaaGreat
end
section
namespace Go.Proofs.YtinnbafplhcnpaaGreat
open Go.RowKit
set_option linter.unusedVariables false
set_option linter.unusedSimpArgs false
set_option maxRecDepth 100000
theorem Qnu      {Gf : List D → Heap → Option (D × Heap)} {b off : Nat} {x : D} {H H2 : Heap} {t t2 : TypeId} {sz sz2 : Nat} {cs cs2 : List D} {y : Value} (k1 : H[b]? = some (.cells t sz cs)) (k2 : cs[off]? = some (.v (.int .u32 0))) (k3 : cs[off + 1]? = some (.v (.int .i32 0)))
    (k4 : Gf [x] (H.set b (.cells t sz (cs.set (off + 1) (.v (.int .i32 1))))) = some (.tup [], H2)) (k5 : H2[b]? = some (.cells t2 sz2 cs2)) (k6 : cs2[off]? = some (.v y)) (k7 : cs2[off + 1]? = some (.v (.int .i32 1))) :
    Qg2 Gf b off x H = some (.tup [], (H2.set b (.cells t2 sz2 (cs2.set off (.v (.int .u32 1))))).set b (.cells t2 sz2 ((cs2.set off (.v (.int .u32 1))).set (off + 1) (.v (.int .i32 0))))) := by
  unfold Qg2
  simp only [k1, k2, k3, k4, k5, k6, k7]
def Ql5 (P : Program) : List D -> Heap -> Option (D × Heap) := Jgr P (T14g P) Jge 0 30
theorem Qpq (ds : List D) (H : Heap) : Ql5 Tryz.prog ds H = Jap Tryz.prog (T14g Tryz.prog) Jge 0 Tryz.f30 ds H := Jct Tryz.func30 ds H
theorem C_ball : HCallOk Tryz.prog 30 (Ql5 Tryz.prog) := Jdf Qtb mixed Tryz.func30 (by kernel_rfl) (by decide)
def Jya (p : Pg) : List D := [iD p.params, Jag p.vars, Jaf p.body, .v (.int .u32 0), .v (.int .i32 0), .v (.int .u32 0), .v (.slice none 0 0)]
theorem all_ok (p : Pg) (o : HO) (hb : p.body.length ≤ 250) (hpv : ∀ k, ((ofv p.body k).getD []).length ≤ 3000) :
    ∃ d cs H', Ql5 Tryz.prog [.hp 1 0] [o, .cells 69 7 (Jya p)] = some (d, H') /\ Buf 34 3 H' 0 d (Jfe p.body).length cs /\ CellsOf 3 H' 0 cs (Jfe p.body) := by
  obtain ⟨H2, d, cs, q1, q2, q3, q4⟩ := Qdi p o hb hpv
  have k4 : Jrm Tryz.prog [.hp 1 0] (([o, .cells 69 7 (Jya p)] : Heap).set 1 (.cells 69 7 ((Jya p).set (3 + 1) (.v (.int .i32 1))))) = some (.tup [], H2) := q1
  have hdo := Qnu (Gf := Jrm Tryz.prog) (b := 1) (off := 3) (x := .hp 1 0) (H := [o, .cells 69 7 (Jya p)]) (cs := Jya p) rfl rfl rfl k4 q2 (y := .int .u32 0) rfl rfl
  rw [List.set_set] at hdo
  have hdo' : G_Do (Jrm Tryz.prog) [.hp 1 3, .clo (.func 56) [.hp 1 0] []] [o, .cells 69 7 (Jya p)] = _ := hdo
  have hlt := (List.getElem?_eq_some_iff.1 q2).1
  have hset : ((bookC p d).set 3 (.v (.int .u32 1))).set (3 + 1) (.v (.int .i32 0)) = [iD p.params, Jag p.vars, Jaf p.body, .v (.int .u32 1), .v (.int .i32 0), .v (.int .u32 0), d] := rfl
  rw [hset] at hdo'
  have b1 : (H2.set 1 (.cells 69 7 [iD p.params, Jag p.vars, Jaf p.body, .v (.int .u32 1), .v (.int .i32 0), .v (.int .u32 0), d]))[1]? = some (.cells 69 7 [iD p.params, Jag p.vars, Jaf p.body, .v (.int .u32 1), .v (.int .i32 0), .v (.int .u32 0), d]) := List.getElem?_set_self hlt
  have l6 : Jad none (H2.set 1 (.cells 69 7 [iD p.params, Jag p.vars, Jaf p.body, .v (.int .u32 1), .v (.int .i32 0), .v (.int .u32 0), d])) (.hp 1 6) = some d := Jcr _ _ _ _ _ _ _ b1 rfl
  have nd : nilD (.hp 1 0) = some (.hp 1 0) := rfl
  have f3 : Jaa 3 (.hp 1 0) = some (.hp 1 3) := rfl
  have f6 : Jaa 6 (.hp 1 0) = some (.hp 1 6) := rfl
  have z1 : Buf 34 3 (H2.set 1 (.cells 69 7 [iD p.params, Jag p.vars, Jaf p.body, .v (.int .u32 1), .v (.int .i32 0), .v (.int .u32 0), d])) 5 d (Jfe p.body).length cs := q3.set 1 _ (by omega)
  have z2 : CellsOf 3 (H2.set 1 (.cells 69 7 [iD p.params, Jag p.vars, Jaf p.body, .v (.int .u32 1), .v (.int .i32 0), .v (.int .u32 0), d])) 5 cs (Jfe p.body) := q4.keep fun r l hr => List.getElem?_set_ne (fun e => by subst e; rw [q2] at hr; cases hr)
  refine ⟨d, cs, _, ?_, z1.low, z2.low⟩
  rw [Qpq, Jov]
  simp only [nd, Jaj, f3, hdo', Jan, f6, l6]
def fs14h (P : Program) : List Entry := (30, false, Ql5 P) :: Qkn P
theorem Qog : ∀ p ∈ fs14h Tryz.prog, Jbu Tryz.prog p := Jac (Jcg C_ball) <| Jr7
def T14h (P : Program) : Tab := ⟨fs14h P, noYl⟩
theorem Qta : TabOk Tryz.prog (T14h Tryz.prog) := Jb4 Qog
end Go.Proofs.YtinnbafplhcnpaaGreat
end
section
namespace Go.Proofs.YtinnbafplhcnpaaGreat
open Go.RowKit
set_option linter.unusedVariables false
set_option maxRecDepth 100000
def Jmi : List Nat := []
theorem Jyw (n : Nat) (x0 : D) (h : Heap) : Jap Tryz.prog (T14h Tryz.prog) Jmi n Tryz.f12 [x0] h =
(thnH (boxH 25 x0 h) fun y0 h1 =>
thn (Jad (some 3) h1 y0) fun y2 =>
thnH (Jae Jhe [y2] h1) fun y3 h4 =>
thn (binK .int .neq y3 (iD 0)) fun y5 =>
Jah y5
(some (.tup [(.v (.slice none 0 0)), y3], h4))
(thn (Jad (some 3) h4 y0) fun y6 =>
thn (Jbv [(0, 3), (3, 3), (6, 1)] [(iD 0), (.v (.slice none 0 0)), (.v (.slice none 0 0)), (.v (.int .u32 0)), (.v (.int .i32 0)), (.v (.int .u32 0)), (.v (.slice none 0 0))] [(0, y6)]) fun y7 =>
thnH (boxH 69 y7 h4) fun y8 h9 =>
thnH ((Ql5 Tryz.prog) [y8] h9) fun y10 h11 =>
some (.tup [y10, (iD 0)], h11))) := by kernel_rfl
end Go.Proofs.YtinnbafplhcnpaaGreat
end
section
namespace Go.Proofs.YtinnbafplhcnpaaGreat
open Go.RowKit
set_option linter.unusedVariables false
theorem Jtx (l : List Nd) : ∀ (f : Nat) (i : Int) (p : List Int), Jpm l f i = some p -> (p.length : Int) <= i /\ i < l.length
  | 0, i, p, h => by cases h
  | f + 1, i, p, h => by
    by_cases hr : endv l 0 = l.length /\ 0 <= i /\ i < l.length
    · by_cases h0 : i = 0
      · subst h0
        rw [Jqw l f hr] at h
        cases h
        exact ⟨by simp, hr.2.2⟩
      · rw [Jqv l f i hr h0] at h
        obtain ⟨q, hq, rfl⟩ := Option.map_eq_some_iff.1 h
        have := Jtx l f _ q hq
        have h2 := Qim l i i.toNat 0
        refine ⟨?_, hr.2.2⟩
        simp only [List.length_append, List.length_cons, List.length_nil]
        omega
    · rw [Jx2 l _ i hr] at h; cases h
theorem Js4 (l : List Nd) (i : Int) (p : List Int) (h : ofv l i = some p) : p.length <= l.length := by
  by_cases hi : -1 <= i
  · rw [<- Jtw l (i + 2).toNat i hi (by omega)] at h
    have := Jtx l _ i p h
    omega
  · by_cases hw : endv l 0 = l.length
    · have := (Jec hw i).1 (by rw [h]; rfl)
      omega
    · rw [Qeq l i hw] at h; cases h
end Go.Proofs.YtinnbafplhcnpaaGreat
end
section
namespace Go.Proofs.YtinnbafplhcnpaaGreat
open Go.RowKit
set_option linter.unusedVariables false
set_option linter.unusedSimpArgs false
set_option maxRecDepth 100000
theorem Jlc {p : Pg} (h : chk9 p = 0) : p.body.length <= 200 /\ endv p.body 0 = p.body.length := by
  have h1 := (Qde h).1
  unfold Jch at h1
  split at h1
  · omega
  · split at h1
    · omega
    · split at h1
      · omega
      · split at h1
        · omega
        · rename_i a b c d
          exact ⟨by omega, by omega⟩
theorem Jjj (p : Pg) (h : p.body.length <= 3000000) (H : Heap) : Jae Jhe [Jak p] H = some (iD (chk9 p), H) := by
  rw [Jar _ _ _ rfl]
  have : Jhe [Jak p] = _ := Jjh (A := progT) _ p
  rw [this, if_pos h]; rfl
def Jbr (p : Pg) : List Dl := if chk9 p = 0 then Jfe p.body else []
def Jm0 : List D -> Option D := F1 progT fun p => if p.body.length <= 3000000 then some (.tup [dlsD (Jbr p), iD (chk9 p)]) else none
def Ql7 (P : Program) : List D -> Heap -> Option (D × Heap) := Jgr P (T14h P) Jmi 0 12
theorem Ql6 (ds : List D) (H : Heap) : Ql7 Tryz.prog ds H = Jap Tryz.prog (T14h Tryz.prog) Jmi 0 Tryz.f12 ds H := Jct Tryz.func12 ds H
theorem C_GSAll : HCallOk Tryz.prog 12 (Ql7 Tryz.prog) := Jdf Qta mixed Tryz.func12 (by kernel_rfl) (by decide)
theorem Qi1 (p : Pg) (h : p.body.length <= 3000000) : ∃ d cs H', Ql7 Tryz.prog [Jak p] [] = some (.tup [d, iD (chk9 p)], H') /\ Buf 34 3 H' 0 d (Jbr p).length cs /\ CellsOf 3 H' 0 cs (Jbr p) := by
  rw [Ql6, Jyw]
  have hb1 : boxH 25 (Jak p) [] = some (.hp 0 0, [.cells 25 3 [iD p.params, Jag p.vars, Jaf p.body]]) := rfl
  have l0 : Jad (some 3) [.cells 25 3 [iD p.params, Jag p.vars, Jaf p.body]] (.hp 0 0) = some (Jak p) := rfl
  have hc := Jjj p h [.cells 25 3 [iD p.params, Jag p.vars, Jaf p.body]]
  by_cases h0 : chk9 p = 0
  · have hv : Jbr p = Jfe p.body := by unfold Jbr; rw [if_pos h0]
    obtain ⟨k1, k2⟩ := Jlc h0
    have hpv : ∀ k, ((ofv p.body k).getD []).length <= 3000 := fun k => by
      cases ho : ofv p.body k with
      | none => simp
      | some q =>
        have := Js4 p.body k q ho
        simp; omega
    obtain ⟨d, cs, H', q1, q2, q3⟩ := all_ok p (.cells 25 3 [iD p.params, Jag p.vars, Jaf p.body]) (by omega) hpv
    have hbu : Jbv [(0, 3), (3, 3), (6, 1)] [iD 0, .v (.slice none 0 0), .v (.slice none 0 0), .v (.int .u32 0), .v (.int .i32 0), .v (.int .u32 0), .v (.slice none 0 0)] [(0, Jak p)] = some (.agg (Jya p)) := rfl
    have hb2 : boxH 69 (.agg (Jya p)) [.cells 25 3 [iD p.params, Jag p.vars, Jaf p.body]] = some (.hp 1 0, [.cells 25 3 [iD p.params, Jag p.vars, Jaf p.body], .cells 69 7 (Jya p)]) := rfl
    refine ⟨d, cs, H', ?_, by rw [hv]; exact q2, by rw [hv]; exact q3⟩
    have hz : ((chk9 p) != 0) = false := by rw [h0]; rfl
    simp only [hb1, Jan, l0, Jaj, hc, Jb8, hz, Jai, Bool.false_eq_true, if_false, hbu, hb2, q1]
    rw [h0]
  · have hv : Jbr p = [] := by unfold Jbr; rw [if_neg h0]
    refine ⟨.v (.slice none 0 0), [], [.cells 25 3 [iD p.params, Jag p.vars, Jaf p.body]], ?_, by rw [hv]; exact Buf.nil _ _ _ _, by rw [hv]; trivial⟩
    have hz : ((chk9 p) != 0) = true := bne_iff_ne.2 h0
    simp only [hb1, Jan, l0, Jaj, hc, Jb8, hz, Jai, if_true]
theorem N_SAll : CallNew Tryz.prog 12 Jm0 := by
  refine ⟨C_GSAll.body, fun ds d hF S vs w hS hv => ?_⟩
  unfold Jm0 F1 at hF
  split at hF
  · obtain ⟨p, hp, hF⟩ := Option.bind_eq_some_iff.1 hF
    split at hF
    case isFalse => cases hF
    rename_i hb
    cases hF
    obtain ⟨d', cs, H', q1, q2, q3⟩ := Qi1 p hb
    refine (C_GSAll.calls [Jak p] [] _ H' q1 w.heap.size S [] vs w (Jph S w hS) ((ImpL.cons (progT.ok _ _ hp) .nil).rep hv)).mono ?_
    rintro e w' ⟨v, S', L', rfl, k1, k2, k3⟩
    simp only [Rep, RepA] at k1
    obtain ⟨xs, rfl, a, t, rfl, k4, b, u, rfl, k5, rfl⟩ := k1
    refine ⟨_, rfl, ?_, k3.below⟩
    have hrow := Jwx k2 (by omega) q2 (els := (Jbr p).map dlC) (by simp) (fun e he => by obtain ⟨y, _, rfl⟩ := List.mem_map.1 he; rfl) (fun xs hx => q3.own k2 xs hx) k4
    simp only [Rep, RepA]
    exact ⟨[a, b], rfl, a, [b], rfl, hrow, b, [], rfl, k5, rfl⟩
  · cases hF
theorem Jss (p : Pg) (h : p.body.length <= 3000000) (H : Heap) : Jc8 Jm0 [Jak p] H = some (.tup [dlsD (Jbr p), iD (chk9 p)], H) := by
  rw [Jkb _ _ _ rfl]
  have : Jm0 [Jak p] = _ := Jjh (A := progT) _ p
  rw [this, if_pos h]; rfl
end Go.Proofs.YtinnbafplhcnpaaGreat
end
section
namespace Go.Proofs.YtinnbafplhcnpaaGreat
open Go.RowKit
set_option linter.unusedVariables false
set_option linter.unusedSimpArgs false
set_option maxRecDepth 100000
def okL (l : List Dl) : Prop := l.length <= 100000 /\ ∀ x ∈ l, x.path.length <= 3000000
instance (l : List Dl) : Decidable (okL l) := by unfold okL; infer_instance
theorem okL_at {l : List Dl} (h : okL l) (i : Nat) (hi : i < l.length) : l[i].path.length <= 3000000 := h.2 _ (List.getElem_mem hi)
def Jj1 : List D -> Option D := F2 dlsT dlT fun l d => if okL l /\ d.path.length <= 3000000 then some (iD (Jxp l d)) else none
theorem Qgb        (l : List Dl) (d : Dl) (hl : okL l) (hd : d.path.length ≤ 3000000) : ∀ (f lo hi n : Nat), hi ≤ l.length → hi < lo + f → f < n →
    ∃ u2 u3, Jez (Jdu Tryz.prog (T14a Tryz.prog) Jfb 100002 Tryz.f23 0) n [dlsD l, .hp 0 0, iD lo, iD hi, iD (-1)] [.cells 34 3 [Jag d.path, iD d.op, iD d.n]] =
      some (.exit 0, [dlsD l, .hp 0 0, u2, u3, iD (bsV l d f lo hi)], [.cells 34 3 [Jag d.path, iD d.op, iD d.n]]) := by
  intro f
  induction f with
  | zero =>
    intro lo hi n h1 h2 h3
    obtain ⟨n, rfl⟩ : ∃ z, n = z + 1 := ⟨n - 1, by omega⟩
    have h0 : ¬ (lo : Int) < (hi : Int) := by omega
    refine ⟨iD lo, iD hi, Jdn ?_⟩
    rw [Je1]
    simp only [Jbd, h0, decide_false, Jaj, Jai, Bool.false_eq_true, if_false, bsV]
  | succ f ih =>
    intro lo hi n h1 h2 h3
    obtain ⟨n, rfl⟩ : ∃ z, n = z + 1 := ⟨n - 1, by omega⟩
    have hl1 := hl.1
    by_cases hlt : lo < hi
    · have h0 : (lo : Int) < (hi : Int) := by omega
      have e1 := Jnb (hi : Int) (lo : Int) (by omega) (by omega)
      have e2 : intD .quo .i64 ((hi : Int) - (lo : Int)) 2 = some (iD (((hi - lo) / 2 : Nat) : Int)) := by
        show (if (2 : Int) = 0 then none else some (D.v (.int .i64 (IntKind.i64.wrap (((hi : Int) - (lo : Int)).tdiv 2))))) = _
        rw [if_neg (by omega)]
        have q : ((hi : Int) - (lo : Int)).tdiv 2 = (((hi - lo) / 2 : Nat) : Int) := by
          rw [Int.tdiv_eq_ediv_of_nonneg (by omega)]
          omega
        rw [q, wrap_in _ (by omega) (by omega)]
      have e3 := Jb0 (lo : Int) (((hi - lo) / 2 : Nat) : Int) (by omega) (by omega)
      have c3 : (lo : Int) + (((hi - lo) / 2 : Nat) : Int) = ((lo + (hi - lo) / 2 : Nat) : Int) := by omega
      rw [c3] at e3
      have hm : lo + (hi - lo) / 2 < l.length := by omega
      have i1 := Jol l (lo + (hi - lo) / 2) hm
      have l1 := Js8 [.cells 34 3 [Jag d.path, iD d.op, iD d.n]] l[lo + (hi - lo) / 2]
      have l2 : Jad (some 3) [.cells 34 3 [Jag d.path, iD d.op, iD d.n]] (.hp 0 0) = some (dlD d) := rfl
      have cc := Jxz l[lo + (hi - lo) / 2] d [.cells 34 3 [Jag d.path, iD d.op, iD d.n]] (okL_at hl _ hm) hd
      have hg : l.getD (lo + (hi - lo) / 2) default = l[lo + (hi - lo) / 2] := by simp [hm]
      have e4 := Jb0 ((lo + (hi - lo) / 2 : Nat) : Int) 1 (by omega) (by omega)
      have c4 : ((lo + (hi - lo) / 2 : Nat) : Int) + 1 = ((lo + (hi - lo) / 2 + 1 : Nat) : Int) := by omega
      rw [c4] at e4
      simp only [bsV]
      rw [if_pos hlt, hg]
      by_cases z0 : Jgs l[lo + (hi - lo) / 2] d = 0
      · rw [if_pos z0]
        have b0 : (Jgs l[lo + (hi - lo) / 2] d == 0) = true := by rw [z0]; rfl
        refine ⟨iD lo, iD hi, Jdn ?_⟩
        rw [Je1]
        simp only [Jbd, h0, decide_true, Jaj, Jai, if_true, Jfq, e1, Jyb, e2, Jcs, e3, i1, l1, l2, cc, Jan, Jbk, b0]
      · rw [if_neg z0]
        have b0 : (Jgs l[lo + (hi - lo) / 2] d == 0) = false := by rw [beq_eq_false_iff_ne]; exact z0
        by_cases z1 : Jgs l[lo + (hi - lo) / 2] d < 0
        · rw [if_pos z1]
          obtain ⟨u2, u3, q⟩ := ih (lo + (hi - lo) / 2 + 1) hi n h1 (by omega) (by omega)
          refine ⟨u2, u3, ?_⟩
          rw [Jei]
          · exact q
          · rw [Je1]
            simp only [Jbd, h0, decide_true, Jaj, Jai, if_true, Jfq, e1, Jyb, e2, Jcs, e3, i1, l1, l2, cc, Jan, Jbk, b0, Bool.false_eq_true, if_false, z1, e4]
        · rw [if_neg z1]
          obtain ⟨u2, u3, q⟩ := ih lo (lo + (hi - lo) / 2) n (by omega) (by omega) (by omega)
          refine ⟨u2, u3, ?_⟩
          rw [Jei]
          · exact q
          · rw [Je1]
            simp only [Jbd, h0, decide_true, Jaj, Jai, if_true, Jfq, e1, Jyb, e2, Jcs, e3, i1, l1, l2, cc, Jan, Jbk, b0, Bool.false_eq_true, if_false, z1, decide_false]
    · have h0 : ¬ (lo : Int) < (hi : Int) := by omega
      have hv : bsV l d (f + 1) lo hi = -1 := by simp only [bsV]; rw [if_neg hlt]
      refine ⟨iD lo, iD hi, Jdn ?_⟩
      rw [Je1, hv]
      simp only [Jbd, h0, decide_false, Jaj, Jai, Bool.false_eq_true, if_false]
theorem Qt6 : CallOk Tryz.prog 23 Jj1 := Jlf (kp := Jfb) Jyg mixed Tryz.func23 (by kernel_rfl) (by decide) fun l d r h => by
  split at h
  case isFalse => cases h
  rename_i hf
  cases h
  obtain ⟨u2, u3, q⟩ := Qgb l d hf.1 hf.2 (l.length + 1) 0 l.length 100002 (Nat.le_refl _) (by omega) (by have := hf.1.1; omega)
  have q' : Jds Tryz.prog (T14a Tryz.prog) Jfb 100002 Tryz.f23 0 [dlsD l, .hp 0 0, iD 0, iD l.length, iD (-1)] [.cells 34 3 [Jag d.path, iD d.op, iD d.n]] = _ := q
  refine ⟨100002, _, ?_, Imp.refl _⟩
  show outD (Jap _ _ _ _ _ [dlsD l, dlD d] []) = _
  rw [Jwo]
  have hb : boxH 34 (dlD d) [] = some (.hp 0 0, [.cells 34 3 [Jag d.path, iD d.op, iD d.n]]) := rfl
  simp only [hb, Jan, Jdv, Jaj, q', Jcd, Jcz, List.getD_cons_zero, List.getD_cons_succ]
  rfl
theorem Qga (l : List Dl) (d : Dl) (h : okL l) (hd : d.path.length <= 3000000) (H : Heap) : Jae Jj1 [dlsD l, dlD d] H = some (iD (Jxp l d), H) := by
  rw [Jar _ _ _ rfl]
  have : Jj1 [dlsD l, dlD d] = _ := Jht (A := dlsT) (B := dlT) _ l d
  rw [this, if_pos ⟨h, hd⟩]; rfl
def fewD (l : List Dl) : Bool := decide (l.length <= 300) && l.all fun x => decide (x.path.length <= 60)
def Juk : List D -> Option D := F1 dlsT fun l => some (bD (fewD l))
theorem Qtz : CallOk Tryz.prog 15 Juk := Jms (kp := Jdi) Jyg mixed Tryz.func15 (by kernel_rfl) (by decide) fun l r h => by
  cases h
  by_cases h3 : (300 : Int) < (l.length : Int)
  · have hr : fewD l = false := by
      unfold fewD
      rw [decide_eq_false (by omega)]; rfl
    refine ⟨0, _, ?_, Imp.refl _⟩
    show outD (Jap _ _ _ _ _ [dlsD l] []) = _
    rw [Jff]
    simp only [Jdv, Jaj, Jfr, h3, decide_true, Jai, if_true, hr]
    rfl
  · have key := Jfv        (P := Tryz.prog) (T := T14a Tryz.prog) (kp := Jdi                 ) (fn := Tryz.f15) (li := 0) (fun i => [dlsD l, bD false, iD i]) [] l.length (fun i => decide ((l.getD i default).path.length ≤ 60))
      (fun i => (.ret, [dlsD l, bD false, iD i], [])) (.exit 0, [dlsD l, bD false, iD l.length], []) (fun i => by intro e; cases e) (by intro e; cases e) 0 302 (Nat.zero_le _) (by omega)
      (fun i _ hi hp => by
        have e1 := Jb0 (i : Int) 1 (by omega) (by omega)
        have h4 : (i : Int) < (l.length : Int) := by omega
        have i1 := Jol l i hi
        have g1 : l.getD i default = l[i] := by simp [hi]
        have f0 : Jaa 0 (.ptr (dlC l[i])) = some (.ptr (dlC l[i])) := rfl
        have l0 : Jad none [] (.ptr (dlC l[i])) = some (Jag l[i].path) := rfl
        have hz : ¬ ((60 : Int) < (l[i].path.length : Int)) := by
          have := of_decide_eq_true hp
          rw [g1] at this
          omega
        rw [Jer]
        simp only [Jdv, Jaj, Jbd, h4, decide_true, Jai, if_true, i1, f0, l0, Jmf, Jfr, hz, decide_false, Bool.false_eq_true, if_false, Jcs, e1]
        rfl)
      (fun i _ hi hp => by
        have h4 : (i : Int) < (l.length : Int) := by omega
        have i1 := Jol l i hi
        have g1 : l.getD i default = l[i] := by simp [hi]
        have f0 : Jaa 0 (.ptr (dlC l[i])) = some (.ptr (dlC l[i])) := rfl
        have l0 : Jad none [] (.ptr (dlC l[i])) = some (Jag l[i].path) := rfl
        have hz : (60 : Int) < (l[i].path.length : Int) := by
          rw [decide_eq_false_iff_not, g1] at hp
          omega
        rw [Jer]
        simp only [Jdv     , Jaj     , Jbd     , h4, decide_true, Jai       , if_true, i1, f0, l0, Jmf      , Jfr     , hz])
      (by rw [Jer]; simp)
    rcases key with ⟨q1, q2⟩ | ⟨i, _, hi, q1, _, q2⟩
    · have hr : fewD l = true := by
        unfold fewD
        rw [decide_eq_true (by omega), Bool.true_and, List.all_eq_true]
        intro x hx
        obtain ⟨i, hi, e⟩ := List.getElem_of_mem hx
        have := q1 i (Nat.zero_le _) hi
        rw [<- e]
        simpa [hi] using this
      refine ⟨302, _, ?_, Imp.refl _⟩
      show outD (Jap _ _ _ _ _ [dlsD l] []) = _
      rw [Jff]
      simp only [Jld] at q2
      simp only [Jdv, Jaj, Jfr, h3, decide_false, Jai, Bool.false_eq_true, if_false, q2, Jcd, Jcz, hr]
      rfl
    · have hr : fewD l = false := by
        rw [Bool.eq_false_iff]
        intro e
        unfold fewD at e
        rw [Bool.and_eq_true, List.all_eq_true] at e
        have := e.2 l[i] (List.getElem_mem hi)
        have g1 : l.getD i default = l[i] := by simp [hi]
        rw [g1, this] at q1
        cases q1
      refine ⟨302, _, ?_, Imp.refl _⟩
      show outD (Jap _ _ _ _ _ [dlsD l] []) = _
      rw [Jff]
      simp only [Jld] at q2
      simp only [Jdv, Jaj, Jfr, h3, decide_false, Jai, Bool.false_eq_true, if_false, q2, Jig, List.getD_cons_zero, List.getD_cons_succ, hr]
      rfl
theorem Qkv (t : TypeId) (d : Dl) (H : Heap) (i : Nat) (h : H[i]? = some (.cells t 3 [Jag d.path, iD d.op, iD d.n])) : Jae Juk [.hs i 1] H = some (bD (decide (d.path.length <= 60)), H) := by
  have hd : Jbs H 9 (.hs i 1) = some (dlsD [d]) := by
    rw [Jtu H 8 i 1 t 3 _ h (by simp)]
    rfl
  rw [Jo9 _ [.hs i 1] [dlsD [d]] H rfl (by rw [List.mapM_cons, hd]; rfl)]
  have : Juk [dlsD [d]] = _ := Jjh (A := dlsT) _ [d]
  rw [this]
  simp [fewD, Qho]
end Go.Proofs.YtinnbafplhcnpaaGreat
end
section
namespace Go.Proofs.YtinnbafplhcnpaaGreat
open Go.RowKit
set_option linter.unusedVariables false
set_option linter.unusedSimpArgs false
set_option maxRecDepth 100000
def Ja0 (p : Pg) : HO := .cells 25 3 [iD p.params, Jag p.vars, Jaf p.body]
def Jnw (p : Pg) (d : Dl) : Bool := decide (chk9 p = 0 /\ 0 <= Je6 p.body d.path /\ isC p.body (Je6 p.body d.path) d.op d.n)
def Qmb : List D -> Option D := F2 progT dlT fun p d => if p.body.length <= 3000000 /\ d.path.length <= 3000000 then some (bD (Jnw p d)) else none
theorem C_RIs : CallOk Tryz.prog 36 Qmb := Jlf (kp := Jiy) Jyg mixed Tryz.func36 (by kernel_rfl) (by decide) fun p d r h => by
  split at h
  case isFalse => cases h
  rename_i hb
  cases h
  refine ⟨0, _, ?_, Imp.refl _⟩
  show outD (Jap _ _ _ _ _ [Jak p, dlD d] []) = _
  rw [Joh]
  have hb1 : boxH 25 (Jak p) [] = some (.hp 0 0, [Ja0 p]) := rfl
  have hb2 : boxH 34 (dlD d) [Ja0 p] = some (.hp 1 0, [Ja0 p, .cells 34 3 [Jag d.path, iD d.op, iD d.n]]) := rfl
  have f2 : Jaa 2 (.hp 0 0) = some (.hp 0 2) := rfl
  have g0 : Jaa 0 (.hp 1 0) = some (.hp 1 0) := rfl
  have g1 : Jaa 1 (.hp 1 0) = some (.hp 1 1) := rfl
  have g2 : Jaa 2 (.hp 1 0) = some (.hp 1 2) := rfl
  have l2 : Jad none [Ja0 p, .cells 34 3 [Jag d.path, iD d.op, iD d.n]] (.hp 0 2) = some (Jaf p.body) := rfl
  have m0 : Jad none [Ja0 p, .cells 34 3 [Jag d.path, iD d.op, iD d.n]] (.hp 1 0) = some (Jag d.path) := rfl
  have m1 : Jad none [Ja0 p, .cells 34 3 [Jag d.path, iD d.op, iD d.n]] (.hp 1 1) = some (iD d.op) := rfl
  have m2 : Jad none [Ja0 p, .cells 34 3 [Jag d.path, iD d.op, iD d.n]] (.hp 1 2) = some (iD d.n) := rfl
  have l0 : Jad (some 3) [Ja0 p, .cells 34 3 [Jag d.path, iD d.op, iD d.n]] (.hp 0 0) = some (Jak p) := rfl
  have hf := Jq9 p.body d.path [Ja0 p, .cells 34 3 [Jag d.path, iD d.op, iD d.n]] hb.1 hb.2
  have hc := Jjj p hb.1 [Ja0 p, .cells 34 3 [Jag d.path, iD d.op, iD d.n]]
  have hi := Qda p.body (Je6 p.body d.path) d.op d.n hb.1 [Ja0 p, .cells 34 3 [Jag d.path, iD d.op, iD d.n]]
  by_cases h0 : chk9 p = 0
  · have z0 : ((chk9 p) == 0) = true := by rw [h0]; rfl
    by_cases h1 : 0 <= Je6 p.body d.path
    · have hr : Jnw p d = decide (isC p.body (Je6 p.body d.path) d.op d.n) := by unfold Jnw; simp [h0, h1]
      rw [hr]
      simp only [hb1, hb2, Jan, f2, g0, g1, g2, Jaj, l2, m0, m1, m2, hf, l0, hc, Jbk, z0, Jai, if_true, Jc3, h1, decide_true, hi]
      rfl
    · have hr : Jnw p d = false := by unfold Jnw; simp [h1]
      rw [hr]
      simp only [hb1, hb2, Jan, f2, g0, g1, g2, Jaj, l2, m0, m1, m2, hf, l0, hc, Jbk, z0, Jai, if_true, Jc3, h1, decide_false, Bool.false_eq_true, if_false]
      rfl
  · have z0 : ((chk9 p) == 0) = false := beq_eq_false_iff_ne.2 h0
    have hr : Jnw p d = false := by unfold Jnw; simp [h0]
    rw [hr]
    simp only [hb1, hb2, Jan, f2, g0, g1, g2, Jaj, l2, m0, m1, m2, hf, l0, hc, Jbk, z0, Jai, Bool.false_eq_true, if_false]
    rfl
theorem Qnh (p : Pg) (d : Dl) (h : p.body.length <= 3000000) (hd : d.path.length <= 3000000) (H : Heap) : Jae Qmb [Jak p, dlD d] H = some (bD (Jnw p d), H) := by
  rw [Jar _ _ _ rfl]
  have : Qmb [Jak p, dlD d] = _ := Jht (A := progT) (B := dlT) _ p d
  rw [this, if_pos ⟨h, hd⟩]; rfl
def Qkm (P : Program) : List Entry := (12, true, Jc8 Jm0) :: (23, true, Jae Jj1) :: (36, true, Jae Qmb) :: (15, true, Jae Juk) :: Qoi P
theorem Jr6 : ∀ p ∈ Qkm Tryz.prog, Jbu Tryz.prog p := Jac (Jgk N_SAll) <| Jac (Jal Qt6) <| Jac (Jal C_RIs) <| Jac (Jal Qtz) <| Jxj
def T14i (P : Program) : Tab := ⟨Qkm P, noYl⟩
theorem Qlp : TabOk Tryz.prog (T14i Tryz.prog) := Jb4 Jr6
end Go.Proofs.YtinnbafplhcnpaaGreat
end
section
namespace Go.Proofs.YtinnbafplhcnpaaGreat
open Go.RowKit
set_option linter.unusedVariables false
set_option maxRecDepth 100000
def Je3 : List Nat := []
theorem Jiq (n : Nat) (x0 x1 : D) (h : Heap) : Jap Tryz.prog (T14i Tryz.prog) Je3 n Tryz.f16 [x0, x1] h =
(thnH (boxH 25 x0 h) fun y0 h1 =>
thnH (boxH 34 x1 h1) fun y2 h3 =>
thnH (Jaz 25 [(iD 0), (.v (.slice none 0 0)), (.v (.slice none 0 0))] h3) fun y4 h5 =>
thn (Jad (some 3) h5 y0) fun y6 =>
thnH (Jc8 Jm0 [y6] h5) fun y7 h8 =>
thn (Jat y7 0) fun y9 =>
thn (Jat y7 1) fun y10 =>
thn (binK .int .neq y10 (iD 0)) fun y11 =>
Jah y11
(thn (Jbv [(0, 1), (1, 1), (2, 1)] [(iD 0), (.v (.slice none 0 0)), (.v (.slice none 0 0))] []) fun y12 =>
thnH (setH 3 y4 y12 h8) fun y13 h14 =>
thn (Jad (some 3) h14 y4) fun y15 =>
some (.tup [y15, y10], h14))
(thn (Jad (some 3) h8 y2) fun y16 =>
thnH (Jae Jj1 [y9, y16] h8) fun y17 h18 =>
thn (binK .int .lss y17 (iD 0)) fun y19 =>
Jah y19
(thn (Jbv [(0, 1), (1, 1), (2, 1)] [(iD 0), (.v (.slice none 0 0)), (.v (.slice none 0 0))] []) fun y20 =>
thnH (setH 3 y4 y20 h18) fun y21 h22 =>
thn (Jad (some 3) h22 y4) fun y23 =>
some (.tup [y23, (iD 17)], h22))
(thn (Jad (some 3) h18 y0) fun y24 =>
thn (Jad (some 3) h18 y2) fun y25 =>
thnH (Jae Jjn [y24, y25] h18) fun y26 h27 =>
thn (Jat y26 0) fun y28 =>
thn (Jat y26 1) fun y29 =>
thnH (setH 3 y4 y28 h27) fun y30 h31 =>
thn (Jad (some 3) h31 y4) fun y32 =>
some (.tup [y32, y29], h31)))) := by kernel_rfl
def Jgf : List Nat := []
theorem Jeg (n : Nat) (x0 x1 : D) (h : Heap) : Jap Tryz.prog (T14i Tryz.prog) Jgf n Tryz.f17 [x0, x1] h =
(thnH (boxH 25 x0 h) fun y0 h1 =>
thnH (boxH 34 x1 h1) fun y2 h3 =>
thnH (Jaz 25 [(iD 0), (.v (.slice none 0 0)), (.v (.slice none 0 0))] h3) fun y4 h5 =>
thn (Jad (some 3) h5 y0) fun y6 =>
thnH (Jae Jhe [y6] h5) fun y7 h8 =>
thn (binK .int .neq y7 (iD 0)) fun y9 =>
Jah y9
(thn (Jbv [(0, 1), (1, 1), (2, 1)] [(iD 0), (.v (.slice none 0 0)), (.v (.slice none 0 0))] []) fun y10 =>
thnH (setH 3 y4 y10 h8) fun y11 h12 =>
thn (Jad (some 3) h12 y4) fun y13 =>
some (.tup [y13, y7], h12))
(thn (Jad (some 3) h8 y0) fun y14 =>
thn (Jad (some 3) h8 y2) fun y15 =>
thnH (Jae Qmb [y14, y15] h8) fun y16 h17 =>
thn (notD y16) fun y18 =>
Jah y18
(thn (Jbv [(0, 1), (1, 1), (2, 1)] [(iD 0), (.v (.slice none 0 0)), (.v (.slice none 0 0))] []) fun y19 =>
thnH (setH 3 y4 y19 h17) fun y20 h21 =>
thn (Jad (some 3) h21 y4) fun y22 =>
some (.tup [y22, (iD 17)], h21))
(thn (Jad (some 3) h17 y0) fun y23 =>
thn (Jad (some 3) h17 y2) fun y24 =>
thnH (Jae Jjn [y23, y24] h17) fun y25 h26 =>
thn (Jat y25 0) fun y27 =>
thn (Jat y25 1) fun y28 =>
thnH (setH 3 y4 y27 h26) fun y29 h30 =>
thn (Jad (some 3) h30 y4) fun y31 =>
some (.tup [y31, y28], h30)))) := by kernel_rfl
end Go.Proofs.YtinnbafplhcnpaaGreat
end
section
namespace Go.Proofs.YtinnbafplhcnpaaGreat
open Go.RowKit
set_option linter.unusedVariables false
set_option linter.unusedSimpArgs false
set_option maxRecDepth 100000
def mutV (p : Pg) (d : Dl) : Pg × Int := if chk9 p ≠ 0 then (⟨0, [], []⟩, chk9 p) else if Jnw p d = true then Jcy p d else (⟨0, [], []⟩, 17)
theorem Jte {p : Pg} (h : chk9 p = 0) (d : Dl) : Jnw p d = true ↔ d ∈ Jbr p := by
  unfold Jnw Jbr
  rw [if_pos h, Jna (Jlc h).2, decide_eq_true_eq]
  exact ⟨fun q => q.2, fun q => ⟨h, q⟩⟩
theorem Jpr (p : Pg) : (Jbr p).Pairwise fun a b => Jgs a b < 0 := by
  unfold Jbr
  split
  · rename_i h
    exact Jwn (Jlc h).2
  · exact List.Pairwise.nil
theorem Qrg (p : Pg) : okL (Jbr p) := by
  unfold Jbr
  split
  · rename_i h
    obtain ⟨h1, h2⟩ := Jlc h
    refine ⟨by have := Jys p.body; omega, fun x hx => ?_⟩
    have q := ((Jna h2 x).1 hx).1
    have := Js4 p.body _ _ ((Jka h2 _ q x.path).2 rfl)
    omega
  · exact ⟨by simp, fun x hx => by cases hx⟩
theorem Qfj {p : Pg} (h : chk9 p = 0) (d : Dl) : Jnw p d = true ↔ 0 <= Jxp (Jbr p) d := by
  rw [Jte h, Qkt _ _ (Jpr p)]
theorem Qfs (p : Pg) (d : Dl) (h : Qou p d) (H : Heap) : Jae Jjn [Jak p, dlD d] H = some (.tup [Jak (Jcy p d).1, iD (Jcy p d).2], H) := by
  rw [Jar _ _ _ rfl]
  have : Jjn [Jak p, dlD d] = _ := Jht (A := progT) (B := dlT) _ p d
  rw [this, if_pos h]; rfl
def delB (d : Dl) : HO := .cells 34 3 [Jag d.path, iD d.op, iD d.n]
def resB (q : Pg) : HO := .cells 25 3 [iD q.params, Jag q.vars, Jaf q.body]
def nilB : HO := .cells 25 3 [iD 0, .v (.slice none 0 0), .v (.slice none 0 0)]
def Jdz : List D -> Option D := F2 progT dlT fun p d => if Qou p d then some (.tup [Jak (mutV p d).1, iD (mutV p d).2]) else none
theorem Qmt : CallOk Tryz.prog 17 Jdz := Jlf (kp := Jgf) Qlp mixed Tryz.func17 (by kernel_rfl) (by decide) fun p d r h => by
  split at h
  case isFalse => cases h
  rename_i hf
  cases h
  have hb1 : boxH 25 (Jak p) [] = some (.hp 0 0, [Ja0 p]) := rfl
  have hb2 : boxH 34 (dlD d) [Ja0 p] = some (.hp 1 0, [Ja0 p, delB d]) := rfl
  have hb3 : Jaz 25 [iD 0, .v (.slice none 0 0), .v (.slice none 0 0)] [Ja0 p, delB d] = some (.hp 2 0, [Ja0 p, delB d, nilB]) := rfl
  have l0 : Jad (some 3) [Ja0 p, delB d, nilB] (.hp 0 0) = some (Jak p) := rfl
  have l1 : Jad (some 3) [Ja0 p, delB d, nilB] (.hp 1 0) = some (dlD d) := rfl
  have hc := Jjj p (by have := hf.2.1; omega) [Ja0 p, delB d, nilB]
  have hi := Qnh p d (by have := hf.2.1; omega) (by have := hf.2.2; omega) [Ja0 p, delB d, nilB]
  have s0 : setH 3 (.hp 2 0) (.agg [iD 0, .v (.slice none 0 0), .v (.slice none 0 0)]) [Ja0 p, delB d, nilB] = some (.v undef, [Ja0 p, delB d, nilB]) := rfl
  have s1 : ∀ q, setH 3 (.hp 2 0) (Jak q) [Ja0 p, delB d, nilB] = some (.v undef, [Ja0 p, delB d, resB q]) := fun q => rfl
  have l2 : Jad (some 3) [Ja0 p, delB d, nilB] (.hp 2 0) = some (.agg [iD 0, .v (.slice none 0 0), .v (.slice none 0 0)]) := rfl
  have l3 : ∀ q, Jad (some 3) [Ja0 p, delB d, resB q] (.hp 2 0) = some (Jak q) := fun q => rfl
  by_cases h0 : chk9 p = 0
  · have z0 : ((chk9 p) != 0) = false := by rw [h0]; rfl
    by_cases h1 : Jnw p d = true
    · have hv : mutV p d = Jcy p d := by unfold mutV; rw [if_neg (by simpa using h0), if_pos h1]
      have ha := Qfs p d hf [Ja0 p, delB d, nilB]
      have x0 : Jat (.tup [Jak (Jcy p d).1, iD (Jcy p d).2]) 0 = some (Jak (Jcy p d).1) := rfl
      have x1 : Jat (.tup [Jak (Jcy p d).1, iD (Jcy p d).2]) 1 = some (iD (Jcy p d).2) := rfl
      rw [hv]
      refine ⟨0, _, ?_, Imp.refl _⟩
      show outD (Jap _ _ _ _ _ [Jak p, dlD d] []) = _
      rw [Jeg]
      simp only [hb1, hb2, hb3, Jan, l0, Jaj, hc, Jb8, z0, Jai, Bool.false_eq_true, if_false, l1, hi, h1, Jca, Bool.not_true, ha, x0, x1, s1, l3]
      rfl
    · have h1' : Jnw p d = false := by simpa using h1
      have hv : mutV p d = (⟨0, [], []⟩, 17) := by unfold mutV; rw [if_neg (by simpa using h0), if_neg h1]
      rw [hv]
      refine ⟨0, _, ?_, Imp.tup (.cons Jic (.cons (Imp.refl (iD 17)) .nil))⟩
      show outD (Jap _ _ _ _ _ [Jak p, dlD d] []) = _
      rw [Jeg]
      simp only [hb1, hb2, hb3, Jan, l0, Jaj, hc, Jb8, z0, Jai, Bool.false_eq_true, if_false, l1, hi, h1', Jca, Bool.not_false, if_true, Jea, s0, l2]
      rfl
  · have z0 : ((chk9 p) != 0) = true := bne_iff_ne.2 h0
    have hv : mutV p d = (⟨0, [], []⟩, chk9 p) := by unfold mutV; rw [if_pos h0]
    rw [hv]
    refine ⟨0, _, ?_, Imp.tup (.cons Jic (.cons (Imp.refl (iD (chk9 p))) .nil))⟩
    show outD (Jap _ _ _ _ _ [Jak p, dlD d] []) = _
    rw [Jeg]
    simp only [hb1, hb2, hb3, Jan, l0, Jaj, hc, Jb8, z0, Jai, if_true, Jea, s0, l2]
    rfl
theorem Qmk : CallOk Tryz.prog 16 Jdz := Jlf (kp := Je3) Qlp mixed Tryz.func16 (by kernel_rfl) (by decide) fun p d r h => by
  split at h
  case isFalse => cases h
  rename_i hf
  cases h
  have hb1 : boxH 25 (Jak p) [] = some (.hp 0 0, [Ja0 p]) := rfl
  have hb2 : boxH 34 (dlD d) [Ja0 p] = some (.hp 1 0, [Ja0 p, delB d]) := rfl
  have hb3 : Jaz 25 [iD 0, .v (.slice none 0 0), .v (.slice none 0 0)] [Ja0 p, delB d] = some (.hp 2 0, [Ja0 p, delB d, nilB]) := rfl
  have l0 : Jad (some 3) [Ja0 p, delB d, nilB] (.hp 0 0) = some (Jak p) := rfl
  have l1 : Jad (some 3) [Ja0 p, delB d, nilB] (.hp 1 0) = some (dlD d) := rfl
  have hc := Jss p (by have := hf.2.1; omega) [Ja0 p, delB d, nilB]
  have hi := Qga (Jbr p) d (Qrg p) (by have := hf.2.2; omega) [Ja0 p, delB d, nilB]
  have a0 : Jat (.tup [dlsD (Jbr p), iD (chk9 p)]) 0 = some (dlsD (Jbr p)) := rfl
  have a1 : Jat (.tup [dlsD (Jbr p), iD (chk9 p)]) 1 = some (iD (chk9 p)) := rfl
  have s0 : setH 3 (.hp 2 0) (.agg [iD 0, .v (.slice none 0 0), .v (.slice none 0 0)]) [Ja0 p, delB d, nilB] = some (.v undef, [Ja0 p, delB d, nilB]) := rfl
  have s1 : ∀ q, setH 3 (.hp 2 0) (Jak q) [Ja0 p, delB d, nilB] = some (.v undef, [Ja0 p, delB d, resB q]) := fun q => rfl
  have l2 : Jad (some 3) [Ja0 p, delB d, nilB] (.hp 2 0) = some (.agg [iD 0, .v (.slice none 0 0), .v (.slice none 0 0)]) := rfl
  have l3 : ∀ q, Jad (some 3) [Ja0 p, delB d, resB q] (.hp 2 0) = some (Jak q) := fun q => rfl
  by_cases h0 : chk9 p = 0
  · have z0 : ((chk9 p) != 0) = false := by rw [h0]; rfl
    by_cases h1 : Jnw p d = true
    · have hv : mutV p d = Jcy p d := by unfold mutV; rw [if_neg (by simpa using h0), if_pos h1]
      have hk : ¬ Jxp (Jbr p) d < 0 := by have := (Qfj h0 d).1 h1; omega
      have ha := Qfs p d hf [Ja0 p, delB d, nilB]
      have x0 : Jat (.tup [Jak (Jcy p d).1, iD (Jcy p d).2]) 0 = some (Jak (Jcy p d).1) := rfl
      have x1 : Jat (.tup [Jak (Jcy p d).1, iD (Jcy p d).2]) 1 = some (iD (Jcy p d).2) := rfl
      rw [hv]
      refine ⟨0, _, ?_, Imp.refl _⟩
      show outD (Jap _ _ _ _ _ [Jak p, dlD d] []) = _
      rw [Jiq]
      simp only [hb1, hb2, hb3, Jan, l0, Jaj, hc, a0, a1, Jb8, z0, Jai, Bool.false_eq_true, if_false, l1, hi, Jbd, hk, decide_false, ha, x0, x1, s1, l3]
      rfl
    · have hk : Jxp   (Jbr    p) d < 0 := by
        have : ¬ 0 <= Jxp (Jbr p) d := fun q => h1 ((Qfj h0 d).2 q)
        omega
      have hv : mutV p d = (⟨0, [], []⟩, 17) := by unfold mutV; rw [if_neg (by simpa using h0), if_neg h1]
      rw [hv]
      refine ⟨0, _, ?_, Imp.tup (.cons Jic (.cons (Imp.refl (iD 17)) .nil))⟩
      show outD (Jap _ _ _ _ _ [Jak p, dlD d] []) = _
      rw [Jiq]
      simp only [hb1, hb2, hb3, Jan, l0, Jaj, hc, a0, a1, Jb8, z0, Jai, Bool.false_eq_true, if_false, l1, hi, Jbd, hk, decide_true, if_true, Jea, s0, l2]
      rfl
  · have z0 : ((chk9 p) != 0) = true := bne_iff_ne.2 h0
    have hv : mutV p d = (⟨0, [], []⟩, chk9 p) := by unfold mutV; rw [if_pos h0]
    rw [hv]
    refine ⟨0, _, ?_, Imp.tup (.cons Jic (.cons (Imp.refl (iD (chk9 p))) .nil))⟩
    show outD (Jap _ _ _ _ _ [Jak p, dlD d] []) = _
    rw [Jiq]
    simp only [hb1, hb2, hb3, Jan, l0, Jaj, hc, a0, a1, Jb8, z0, Jai, if_true, Jea, s0, l2]
    rfl
theorem Ji9 (p : Pg) (d : Dl) (h : Qou p d) (H : Heap) : Jae Jdz [Jak p, dlD d] H = some (.tup [Jak (mutV p d).1, iD (mutV p d).2], H) := by
  rw [Jar _ _ _ rfl]
  have : Jdz [Jak p, dlD d] = _ := Jht (A := progT) (B := dlT) _ p d
  rw [this, if_pos h]; rfl
end Go.Proofs.YtinnbafplhcnpaaGreat
end
section
namespace Go.Proofs.YtinnbafplhcnpaaGreat
open Go.RowKit
set_option linter.unusedVariables false
set_option linter.unusedSimpArgs false
set_option maxRecDepth 100000
theorem Qpl : CallNew Tryz.prog 106 Jd4 := by
  refine ⟨C_chNode.body, fun ds d hF S vs w hS hv => ?_⟩
  refine (C_chNode.calls ds d hF S vs w hS hv).mono ?_
  rintro e w' ⟨v, rfl, h1, h2⟩
  refine ⟨v, rfl, ?_, h2⟩
  unfold Jd4 F1 at hF
  split at hF
  · obtain ⟨c, hc, hF⟩ := Option.bind_eq_some_iff.1 hF
    split at hF
    · cases hF
      simp only [Rep, Jax, RepA] at h1 ⊢
      exact h1
    · cases hF
  · cases hF
def Qqf (P : Program) : List Entry := (106, true, Jc8 Jd4) :: Qor P
theorem Qkp : ∀ p ∈ Qqf Tryz.prog, Jbu Tryz.prog p := Jac (Jgk Qpl) <| Jxn
def Qpj (P : Program) : Tab := ⟨Qqf P, noYl⟩
theorem Qpi : TabOk Tryz.prog (Qpj Tryz.prog) := Jb4 Qkp
def Jpw (P : Program) : List D -> Heap -> Option (D × Heap) := Jgr P (Qpj P) Jcw 0 72
theorem Qmu : HCallOk Tryz.prog 72 (Jpw Tryz.prog) := Jdf Qpi mixed Tryz.func72 (by kernel_rfl) (by decide)
def fs12y (P : Program) : List Entry := (71, true, Jc8 Jjm) :: (72, false, Jpw P) :: Qoq P
theorem Qoo : ∀ p ∈ fs12y Tryz.prog, Jbu Tryz.prog p := Jac (Jgk Qpk) <| Jac (Jcg Qmu) <| Jxm
def T12y (P : Program) : Tab := ⟨fs12y P, noYl⟩
theorem Qth : TabOk Tryz.prog (T12y Tryz.prog) := Jb4 Qoo
def Jpx (P : Program) : List D -> Heap -> Option (D × Heap) := Jgr P (T12y P) Jfk 0 35
theorem Qmv : HCallOk Tryz.prog 35 (Jpx Tryz.prog) := Jdf Qth mixed Tryz.func35 (by kernel_rfl) (by decide)
end Go.Proofs.YtinnbafplhcnpaaGreat
end
section
namespace Go.Proofs.YtinnbafplhcnpaaGreat
open Go.RowKit
set_option linter.unusedVariables false
set_option linter.unusedSimpArgs false
section
variable {S S' : Nat -> Prop} {w w' : World} {L L' : List (Nat × Nat)}
mutual
theorem Rep.narrow (hL : ∀ (i : Nat) (p : Nat × Nat), L[i]? = some p -> L'[i]? = some p) : ∀ (d : D) (y x : Value), Rep S L w y d -> Rep S' L' w' x d -> Rep S' L w' x d
  | .undef, y, x, h, k => by simp only [Rep]
  | .v z, y, x, h, k => by simpa only [Rep] using k
  | .sl sz els, y, x, h, k => by simpa only [Rep] using k
  | .ptr cs, y, x, h, k => by simpa only [Rep] using k
  | .agg cs, y, x, h, k => by
    simp only [Rep] at h k ⊢
    obtain ⟨ys, _, h2⟩ := h
    obtain ⟨xs, k1, k2⟩ := k
    exact ⟨xs, k1, RepA.narrow hL cs ys xs h2 k2⟩
  | .tup cs, y, x, h, k => by
    simp only [Rep] at h k ⊢
    obtain ⟨ys, _, h2⟩ := h
    obtain ⟨xs, k1, k2⟩ := k
    exact ⟨xs, k1, RepA.narrow hL cs ys xs h2 k2⟩
  | .hp id off, y, x, h, k => by
    simp only [Rep] at h k ⊢
    obtain ⟨b, c, h1, _⟩ := h
    obtain ⟨b', c', k1, k2⟩ := k
    rw [hL _ _ h1] at k1
    cases k1
    exact ⟨_, _, h1, k2⟩
  | .hs id n, y, x, h, k => by
    simp only [Rep] at h k ⊢
    obtain ⟨b, c, h1, _⟩ := h
    obtain ⟨b', c', k1, k2⟩ := k
    rw [hL _ _ h1] at k1
    cases k1
    exact ⟨_, _, h1, k2⟩
  | .ifc t d, y, x, h, k => by
    simp only [Rep] at h k ⊢
    obtain ⟨z, _, h2⟩ := h
    obtain ⟨z', k1, k2⟩ := k
    exact ⟨z', k1, Rep.narrow hL d z z' h2 k2⟩
  | .clo f fs cs, y, x, h, k => by
    simp only [Rep] at h k ⊢
    obtain ⟨ys, zs, _, h2, h3⟩ := h
    obtain ⟨ys', zs', k1, k2, k3⟩ := k
    exact ⟨ys', zs', k1, RepA.narrow hL fs ys ys' h2 k2, RepA.narrow hL cs zs zs' h3 k3⟩
  | .mp id, y, x, h, k => by
    simp only [Rep] at h k ⊢
    obtain ⟨b, c, h1, _⟩ := h
    obtain ⟨b', c', k1, k2⟩ := k
    rw [hL _ _ h1] at k1
    cases k1
    exact ⟨_, _, h1, k2⟩
  | .ht id off n, y, x, h, k => by
    simp only [Rep] at h k ⊢
    obtain ⟨b, c, o, cap, h1, _⟩ := h
    obtain ⟨b', c', o', cap', k1, k2⟩ := k
    rw [hL _ _ h1] at k1
    cases k1
    exact ⟨_, _, _, _, h1, k2⟩
  | .yld id, y, x, h, k => by
    simp only [Rep] at h k ⊢
    obtain ⟨b, c, h1, _⟩ := h
    obtain ⟨b', c', k1, k2⟩ := k
    rw [hL _ _ h1] at k1
    cases k1
    exact ⟨_, _, h1, k2⟩
  | .mv ks vs, y, x, h, k => by simpa only [Rep] using k
theorem RepA.narrow (hL : ∀ (i : Nat) (p : Nat × Nat), L[i]? = some p -> L'[i]? = some p) : ∀ (ds : List D) (ys xs : List Value), RepA S L w ys ds -> RepA S' L' w' xs ds -> RepA S' L w' xs ds
  | [], ys, xs, h, k => by simpa only [RepA] using k
  | d :: r, ys, xs, h, k => by
    simp only [RepA] at h k ⊢
    obtain ⟨y, yr, _, h2, h3⟩ := h
    obtain ⟨x, xr, k1, k2, k3⟩ := k
    exact ⟨x, xr, k1, Rep.narrow hL d y x h2 k2, RepA.narrow hL r yr xr h3 k3⟩
end
theorem ObjOk.narrow (hL : ∀ (i : Nat) (p : Nat × Nat), L[i]? = some p -> L'[i]? = some p) {b c b' c' : Nat} {o : HO} (h : ObjOk S L w b c o) (k : ObjOk S' L' w' b' c' o) : ObjOk S' L w' b' c' o := by
  cases o with
  | cells t sz cs =>
    obtain ⟨arr, _, _, _, _, h5⟩ := h
    obtain ⟨arr', k1, k2, k3, k4, k5⟩ := k
    refine ⟨arr', k1, k2, k3, k4, fun j d hd => ?_⟩
    obtain ⟨y, _, _, hy⟩ := h5 j d hd
    obtain ⟨x, q1, q2, q3⟩ := k5 j d hd
    exact ⟨x, q1, q2, Rep.narrow hL d y x hy q3⟩
  | map ks vs =>
    obtain ⟨arr, clk, _, _, h3⟩ := h
    obtain ⟨arr', clk', k1, k2, k3⟩ := k
    exact ⟨arr', clk', k1, k2, RepA.narrow hL _ _ _ h3 k3⟩
  | loop st ps as' bd sz kp s =>
    obtain ⟨r, _, _, _, _, _, _, h7⟩ := h
    obtain ⟨r', k1, k2, k3, k4, k5, k6, k7⟩ := k
    exact ⟨r', k1, k2, k3, k4, k5, k6, RepA.narrow hL _ _ _ h7 k7⟩
  | dead => trivial
end
theorem HRel.cut {B : Nat} {S S' : Nat -> Prop} {L L' : List (Nat × Nat)} {w w' : World} {H H' : Heap} (h : HRel B S L w H) (k : HRel B S' L' w' H') (hl : Later B S S' L L' w w') (hk : ∀ i, i < H.length -> H'[i]? = H[i]?) : HRel B S' L w' H := by
  have hL := Je8 hl.pre
  refine ⟨h.len, k.small, k.base, fun id o hid ho => ?_, h.inj⟩
  have hlt := (List.getElem?_eq_some_iff.1 hid).1
  obtain ⟨b, c, h1, h2, h3, h4⟩ := h.obj id o hid ho
  obtain ⟨b', c', k1, k2, k3, k4⟩ := k.obj id o ((hk id hlt).trans hid) ho
  rw [hL _ _ h1] at k1
  cases k1
  exact ⟨b, c, h1, k2, k3, h4.narrow hL k4⟩
theorem Qkk {P : Program} {f : FuncId} {G Gc : List D -> Heap -> Option (D × Heap)} (hG : HCallOk P f G) (h : ∀ ds H d H', Gc ds H = some (d, H') -> H' = H /\ Jd6 d = true /\ ∃ H2, G ds H = some (d, H2) /\ ∀ i, i < H.length -> H2[i]? = H[i]?) : HCallOk P f Gc := by
  refine ⟨hG.body, fun ds H d H' hg B S L vs w hr hv => ?_⟩
  obtain ⟨rfl, hp, H2, g1, g2⟩ := h ds H d H' hg
  refine (hG.calls ds _ d H2 g1 B S L vs w hr hv).mono ?_
  rintro e w' ⟨v, S', L', rfl, k1, k2, k3⟩
  exact ⟨v, S', L, rfl, (Jrz d v hp k1).lift, hr.cut k2 k3 g2, ⟨k3.below, k3.kept, k3.more, List.prefix_refl _, k3.only, k3.marks⟩⟩
end Go.Proofs.YtinnbafplhcnpaaGreat
end
section
namespace Go.Proofs.YtinnbafplhcnpaaGreat
open Go.RowKit
set_option linter.unusedVariables false
set_option linter.unusedSimpArgs false
set_option maxRecDepth 100000
def fs14x (P : Program) : List Entry := (35, false, Jpx P) :: Qkm P
theorem Qoe : ∀ p ∈ fs14x Tryz.prog, Jbu Tryz.prog p := Jac (Jcg Qmv) <| Jr6
def T14x (P : Program) : Tab := ⟨fs14x P, noYl⟩
theorem Qs8 : TabOk Tryz.prog (T14x Tryz.prog) := Jb4 Qoe
def Juh (P : Program) : List D -> Heap -> Option (D × Heap) := Jgr P (T14x P) Je3 0 16
theorem Qig : HCallOk Tryz.prog 16 (Juh Tryz.prog) := Jdf Qs8 mixed Tryz.func16 (by kernel_rfl) (by decide)
end Go.Proofs.YtinnbafplhcnpaaGreat
end
section
namespace Go.Proofs.YtinnbafplhcnpaaGreat
open Go.RowKit
set_option linter.unusedVariables false
set_option maxRecDepth 100000
theorem Jj3 (n : Nat) (x0 : D) (h : Heap) : Jap Tryz.prog (Qpj Tryz.prog) Jcw n Tryz.f72 [x0] h =
(thnH (boxH 97 x0 h) fun y0 h1 =>
thn (Jad (some 5) h1 y0) fun y2 =>
thnH (Jc8 Jd4 [y2] h1) fun y3 h4 =>
thn (Jln none 0 y3) fun y5 =>
thn (binK .int .neq y5 (iD 25)) fun y6 =>
Jah y6
(some ((.v (.slice none 0 0)), h4))
(thn (Jaa 0 y0) fun y7 =>
thn (Jaa 2 y7) fun y8 =>
thn (Jad none h4 y8) fun y9 =>
thn (Jaa 3 y0) fun y10 =>
thn (Jad none h4 y10) fun y11 =>
thn (binK .int .add y11 (iD 1)) fun y12 =>
thn (Jaa 4 y0) fun y13 =>
thn (Jad none h4 y13) fun y14 =>
thn (Jbv [(0, 1), (1, 1)] [(iD 0), (iD 0)] [(0, (iD 1)), (1, y14)]) fun y15 =>
thnH (rowH 54 2 1 [(iD 0), (iD 0)] [(0, y15)] h4) fun y16 h17 =>
thnH (Jc8 Jdb [y9, y12, y16] h17) fun y18 h19 =>
some (y18, h19))) := by kernel_rfl
theorem Jsq (n : Nat) (x0 x1 : D) (h : Heap) : Jap Tryz.prog (T12y Tryz.prog) Jfk n Tryz.f35 [x0, x1] h =
(thnH (boxH 25 x0 h) fun y0 h1 =>
thnH (boxH 34 x1 h1) fun y2 h3 =>
thnH (Jaz 25 [(iD 0), (.v (.slice none 0 0)), (.v (.slice none 0 0))] h3) fun y4 h5 =>
thn (Qay 1 [(.v .nilFunc), (.v .nilFunc), (.v .nilFunc), (.v .nilFunc), (.v .nilFunc), (.v .nilFunc), (.v .nilFunc), (.v .nilFunc)] [(0, (.v .nilFunc)), (1, (.clo (.func 66) [] [])), (2, (.clo (.func 67) [] [])), (3, (.clo (.func 68) [] [])), (4, (.clo (.func 69) [] [])), (5, (.clo (.func 70) [] [])), (6, (.clo (.func 71) [] [])), (7, (.clo (.func 72) [] []))]) fun y6 =>
thnH (Jaz 98 [(.v .nilFunc), (.v .nilFunc), (.v .nilFunc), (.v .nilFunc), (.v .nilFunc), (.v .nilFunc), (.v .nilFunc), (.v .nilFunc)] h5) fun y7 h8 =>
thnH (setH 8 y7 y6 h8) fun y9 h10 =>
thn (Jaa 2 y0) fun y11 =>
thn (Jad none h10 y11) fun y12 =>
thn (Jaa 0 y2) fun y13 =>
thn (Jad none h10 y13) fun y14 =>
thnH (Jae Jp2 [y12, y14] h10) fun y15 h16 =>
thn (binK .int .lss y15 (iD 0)) fun y17 =>
Jah y17
(thn (Jbv [(0, 1), (1, 1), (2, 1)] [(iD 0), (.v (.slice none 0 0)), (.v (.slice none 0 0))] []) fun y18 =>
thnH (setH 3 y4 y18 h16) fun y19 h20 =>
thn (Jad (some 3) h20 y4) fun y21 =>
some (.tup [y21, (iD 16)], h20))
(thn (Jaa 1 y2) fun y22 =>
thn (Jad none h16 y22) fun y23 =>
thn (binK .int .lss y23 (iD 1)) fun y24 =>
Jah y24
(thn (Jbv [(0, 1), (1, 1), (2, 1)] [(iD 0), (.v (.slice none 0 0)), (.v (.slice none 0 0))] []) fun y25 =>
thnH (setH 3 y4 y25 h16) fun y26 h27 =>
thn (Jad (some 3) h27 y4) fun y28 =>
some (.tup [y28, (iD 17)], h27))
(thn (Jaa 1 y2) fun y29 =>
thn (Jad none h16 y29) fun y30 =>
thn (binK .int .geq y30 (iD 8)) fun y31 =>
Jah y31
(thn (Jbv [(0, 1), (1, 1), (2, 1)] [(iD 0), (.v (.slice none 0 0)), (.v (.slice none 0 0))] []) fun y32 =>
thnH (setH 3 y4 y32 h16) fun y33 h34 =>
thn (Jad (some 3) h34 y4) fun y35 =>
some (.tup [y35, (iD 17)], h34))
(thn (Jaa 1 y2) fun y36 =>
thn (Jad none h16 y36) fun y37 =>
thn (idxA 8 1 y7 y37) fun y38 =>
thn (Jad none h16 y38) fun y39 =>
thn (Jad (some 3) h16 y0) fun y40 =>
thn (Jaa 2 y2) fun y41 =>
thn (Jad none h16 y41) fun y42 =>
thn (Jbv [(0, 3), (3, 1), (4, 1)] [(iD 0), (.v (.slice none 0 0)), (.v (.slice none 0 0)), (iD 0), (iD 0)] [(0, y40), (1, y15), (2, y42)]) fun y43 =>
thnH (Jdq (T12y Tryz.prog) y39 [y43] h16) fun y44 h45 =>
thn (lenH .sl y44) fun y46 =>
thn (binK .int .eql y46 (iD 0)) fun y47 =>
Jah y47
(thn (Jbv [(0, 1), (1, 1), (2, 1)] [(iD 0), (.v (.slice none 0 0)), (.v (.slice none 0 0))] []) fun y48 =>
thnH (setH 3 y4 y48 h45) fun y49 h50 =>
thn (Jad (some 3) h50 y4) fun y51 =>
some (.tup [y51, (iD 17)], h50))
(thn (Jaa 0 y0) fun y52 =>
thn (Jad none h45 y52) fun y53 =>
thn (Jaa 1 y0) fun y54 =>
thn (Jad none h45 y54) fun y55 =>
thnH (Jc8 Jjo [y55] h45) fun y56 h57 =>
thn (Jbv [(0, 1), (1, 1), (2, 1)] [(iD 0), (.v (.slice none 0 0)), (.v (.slice none 0 0))] [(0, y53), (1, y56), (2, y44)]) fun y58 =>
thnH (setH 3 y4 y58 h57) fun y59 h60 =>
thn (Jad (some 3) h60 y4) fun y61 =>
some (.tup [y61, (iD 0)], h60)))))) := by kernel_rfl
theorem Jrr (n : Nat) (x0 x1 : D) (h : Heap) : Jap Tryz.prog (T14x Tryz.prog) Je3 n Tryz.f16 [x0, x1] h =
(thnH (boxH 25 x0 h) fun y0 h1 =>
thnH (boxH 34 x1 h1) fun y2 h3 =>
thnH (Jaz 25 [(iD 0), (.v (.slice none 0 0)), (.v (.slice none 0 0))] h3) fun y4 h5 =>
thn (Jad (some 3) h5 y0) fun y6 =>
thnH (Jc8 Jm0 [y6] h5) fun y7 h8 =>
thn (Jat y7 0) fun y9 =>
thn (Jat y7 1) fun y10 =>
thn (binK .int .neq y10 (iD 0)) fun y11 =>
Jah y11
(thn (Jbv [(0, 1), (1, 1), (2, 1)] [(iD 0), (.v (.slice none 0 0)), (.v (.slice none 0 0))] []) fun y12 =>
thnH (setH 3 y4 y12 h8) fun y13 h14 =>
thn (Jad (some 3) h14 y4) fun y15 =>
some (.tup [y15, y10], h14))
(thn (Jad (some 3) h8 y2) fun y16 =>
thnH (Jae Jj1 [y9, y16] h8) fun y17 h18 =>
thn (binK .int .lss y17 (iD 0)) fun y19 =>
Jah y19
(thn (Jbv [(0, 1), (1, 1), (2, 1)] [(iD 0), (.v (.slice none 0 0)), (.v (.slice none 0 0))] []) fun y20 =>
thnH (setH 3 y4 y20 h18) fun y21 h22 =>
thn (Jad (some 3) h22 y4) fun y23 =>
some (.tup [y23, (iD 17)], h22))
(thn (Jad (some 3) h18 y0) fun y24 =>
thn (Jad (some 3) h18 y2) fun y25 =>
thnH ((Jpx Tryz.prog) [y24, y25] h18) fun y26 h27 =>
thn (Jat y26 0) fun y28 =>
thn (Jat y26 1) fun y29 =>
thnH (setH 3 y4 y28 h27) fun y30 h31 =>
thn (Jad (some 3) h31 y4) fun y32 =>
some (.tup [y32, y29], h31)))) := by kernel_rfl
end Go.Proofs.YtinnbafplhcnpaaGreat
end
