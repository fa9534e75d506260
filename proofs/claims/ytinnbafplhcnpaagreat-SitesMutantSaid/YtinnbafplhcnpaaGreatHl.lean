import Derived.Test.YtinnbafplhcnpaaGreatHj
import Derived.Test.YtinnbafplhcnpaaGreatHk
section
namespace Go.Proofs.YtinnbafplhcnpaaGreat
open Go.RowKit
set_option linter.unusedVariables false
set_option linter.unusedSimpArgs false
set_option maxRecDepth 100000
theorem Jxz (a b : Dl) (H : Heap) (ha : a.path.length <= 3000000) (hb : b.path.length <= 3000000) : Jae Jg7 [dlD a, dlD b] H = some (iD (Jgs a b), H) := by
  rw [Jar _ _ _ rfl]
  have : Jg7 [dlD a, dlD b] = _ := Jht (A := dlT) (B := dlT) _ a b
  rw [this, if_pos ⟨ha, hb⟩]; rfl
theorem Qn3 (x : Nd) (op n : Int) (H : Heap) : Jae Qma [.agg (Jax x), iD op, iD n] H = some (bD (decide (mayV x op n)), H) := by
  rw [Jar _ _ _ rfl]
  have : Qma [.agg (Jax x), iD op, iD n] = _ := Jrf (A := ndT) (B := intT) (C := intT) _ x op n
  rw [this]; rfl
theorem Qav (l : List Nd) (k : Nat) (d : Dl) (H : Heap) (hE : 0 <= endv l k) (hm : mayV (nodeAt l k) d.op d.n) (hl : l.length <= 300000) : Jae Jmz [Jaf l, iD k, dlD d] H = some (Jaf (Jaw l k (nodeAt l k) d.op d.n), H) := by
  rw [Jar _ _ _ rfl]
  have : Jmz [Jaf l, iD k, dlD d] = _ := Jrf (A := nodesT) (B := intT) (C := dlT) _ l (k : Int) d
  rw [this, if_pos ⟨by omega, hE, hm, hl⟩]; rfl
theorem Jv2 (c : Chg) (x : Nd) (H : Heap) (h0 : 0 <= c.k) (hk : c.k.toNat < c.p.body.length) (hl : c.p.body.length <= 1000000) : Jae Jor [chD c, .agg (Jax x)] H = some (Jaf (c.p.body.set c.k.toNat x), H) := by
  rw [Jar _ _ _ rfl]
  have : Jor [chD c, .agg (Jax x)] = _ := Jht (A := chT) (B := ndT) _ c x
  rw [this, if_pos ⟨h0, hk, hl⟩]; rfl
theorem Qdg (c : Chg) (lo hi : Int) (H : Heap) (h0 : 0 <= c.k) (hk : c.k.toNat < c.p.body.length) : Jae Jpz [chD c, iD lo, iD hi] H = some (bD (decide (lo <= (nodeAt c.p.body c.k).1 /\ (nodeAt c.p.body c.k).1 <= hi /\ lo <= c.n /\ c.n <= hi)), H) := by
  rw [Jar _ _ _ rfl]
  have : Jpz [chD c, iD lo, iD hi] = _ := Jrf (A := chT) (B := intT) (C := intT) _ c lo hi
  rw [this, if_pos ⟨h0, hk⟩]; rfl
theorem Jsv (l : List Nd) (i : Int) (x : Nd) (o : HO) (t : TypeId) (hl : l.length <= 3000000) : Jc8 Jdb [Jaf l, iD i, .hs 1 1] [o, .cells t 2 [iD x.1, iD x.2]] = some (Jaf (Jbx l i [x]), [o, .cells t 2 [iD x.1, iD x.2]]) := by
  have hd : [Jaf l, iD i, D.hs 1 1].mapM (Jbs [o, .cells t 2 [iD x.1, iD x.2]] 9) = some [Jaf l, iD i, Jaf [x]] := by
    have := Jtt [o, .cells t 2 [iD x.1, iD x.2]] 8 t 1 [x] rfl
    simp only [List.mapM_cons, List.mapM_nil, Jbt _ 9 (Jaf l) rfl, Jbt _ 9 (iD i) rfl]
    rw [show (D.hs 1 1) = .hs 1 [x].length from rfl, this]
    rfl
  rw [Jme _ _ _ _ rfl hd]
  simp [Jdb, hl]
abbrev Chg.fits (c : Chg) : Prop := 0 <= c.k /\ c.k.toNat < c.p.body.length /\ c.p.body.length <= 300000
def tagV (l : List Nd) (k : Nat) (n lo hi : Int) : List Nd := if lo <= (nodeAt l k).1 /\ (nodeAt l k).1 <= hi /\ lo <= n /\ n <= hi then l.set k (n, (nodeAt l k).2) else []
def Joq : List D -> Option D := F3 chT intT intT fun c lo hi => if c.fits then some (Jaf (tagV c.p.body c.k.toNat c.n lo hi)) else none
theorem Qt2 : CallOk Tryz.prog 105 Joq := Qax (kp := Jh5) Jua mixed Tryz.func105 (by kernel_rfl) (by decide) fun c lo hi d h => by
  split at h
  case isFalse => cases h
  rename_i hg
  cases h
  obtain ⟨h0, h1, h2⟩ := hg
  have hc := fun H => Ji6 c H h0 h1
  have hb := fun H => Qdg c lo hi H h0 h1
  have hp := fun x H => Jv2 c x H h0 h1 (by omega)
  have hk : ((c.k.toNat : Nat) : Int) = c.k := by omega
  unfold tagV
  rw [hk]
  generalize nodeAt c.p.body c.k = x at *
  by_cases hm : lo <= x.1 /\ x.1 <= hi /\ lo <= c.n /\ c.n <= hi
  · refine ⟨0, _, ?_, Imp.refl _⟩
    show outD (Jap _ _ _ _ _ [chD c, iD lo, iD hi] []) = _
    rw [Jh0, if_pos hm]
    simp [Jgn, hc, hb, hm, Jen, hp]
  · refine ⟨0, .v (.slice none 0 0), ?_, by rw [if_neg hm]; exact Imp.nil 2⟩
    show outD (Jap _ _ _ _ _ [chD c, iD lo, iD hi] []) = _
    rw [Jh0]
    simp [Jgn, hc, hb, hm, Jen, hp]
def Qft (l : List Nd) (k : Nat) (n : Int) : List Nd := if (nodeAt l k).1 = 1 \/ ((nodeAt l k).1 = 2 /\ 0 <= n /\ n <= 1) then l.set k ((nodeAt l k).1, n) else []
def Jnh : List D -> Option D := F1 chT fun c => if c.fits then some (Jaf (Qft c.p.body c.k.toNat c.n)) else none
theorem Qie : CallOk Tryz.prog 69 Jnh := Jms (kp := Jfj) Jua mixed Tryz.func69 (by kernel_rfl) (by decide) fun c d h => by
  split at h
  case isFalse => cases h
  rename_i hg
  cases h
  obtain ⟨h0, h1, h2⟩ := hg
  have hc := fun H => Ji6 c H h0 h1
  have hp := fun x H => Jv2 c x H h0 h1 (by omega)
  have hk : ((c.k.toNat : Nat) : Int) = c.k := by omega
  unfold Qft
  rw [hk]
  generalize nodeAt c.p.body c.k = x at *
  have ha := Jco 54 [.cells 97 5 [iD c.p.params, Jag c.p.vars, Jaf c.p.body, iD c.k, iD c.n]]
  have hs := Jry [.cells 97 5 [iD c.p.params, Jag c.p.vars, Jaf c.p.body, iD c.k, iD c.n], .cells 54 2 [iD 0, iD 0]] 1 54 (iD 0) (iD 0) x rfl
  have g0 : (Jax x)[0]? = some (iD x.1) := rfl
  by_cases t1 : x.1 = 1
  · refine ⟨0, _, ?_, Imp.refl _⟩
    show outD (Jap _ _ _ _ _ [chD c] []) = _
    rw [Jd1, if_pos (.inl t1)]
    simp [Jgn, hc, Jco, hs, g0, t1, Jen, hp]
  · by_cases t2 : x.1 = 2 /\ 0 <= c.n /\ c.n <= 1
    · refine ⟨0, _, ?_, Imp.refl _⟩
      show outD (Jap _ _ _ _ _ [chD c] []) = _
      rw [Jd1, if_pos (.inr t2)]
      have q1 : ¬ c.n < 0 := by omega
      have q2 : ¬ 1 < c.n := by omega
      simp [Jgn, hc, Jco, hs, g0, t2.1, q1, q2, Jen, hp]
    · refine ⟨0, .v (.slice none 0 0), ?_, by rw [if_neg (by omega)]; exact Imp.nil 2⟩
      show outD (Jap _ _ _ _ _ [chD c] []) = _
      rw [Jd1]
      by_cases t3 : x.1 = 2
      · by_cases q1 : c.n < 0
        · simp [Jgn, hc, Jco, hs, g0, t3, q1]
        · have q2 : 1 < c.n := by omega
          simp [Jgn, hc, Jco, hs, g0, t3, q1, q2]
      · simp [Jgn, hc, Jco, hs, g0, t1, t3]
def remV (l : List Nd) (k : Nat) (n : Int) : List Nd := if ((nodeAt l k).1 = 21 \/ (nodeAt l k).1 = 22 \/ (nodeAt l k).1 = 23 \/ (nodeAt l k).1 = 24 \/ (nodeAt l k).1 = 25) /\ n = 0 then Jbx l k [(26, 0)] else []
def Jse : List D -> Option D := F1 chT fun c => if c.fits then some (Jaf (remV c.p.body c.k.toNat c.n)) else none
theorem Qps : CallOk Tryz.prog 70 Jse := Jms (kp := Jgh) Jua mixed Tryz.func70 (by kernel_rfl) (by decide) fun c d h => by
  split at h
  case isFalse => cases h
  rename_i hg
  cases h
  obtain ⟨h0, h1, h2⟩ := hg
  have hc := fun H => Ji6 c H h0 h1
  have hk : ((c.k.toNat : Nat) : Int) = c.k := by omega
  unfold remV
  rw [hk]
  generalize nodeAt c.p.body c.k = x at *
  have hr := Jsv c.p.body c.k (26, 0) (.cells 97 5 [iD c.p.params, Jag c.p.vars, Jaf c.p.body, iD c.k, iD c.n]) 54 (by omega)
  by_cases hn : c.n = 0
  · by_cases ht : x.1 = 21 \/ x.1 = 22 \/ x.1 = 23 \/ x.1 = 24 \/ x.1 = 25
    · refine ⟨0, _, ?_, Imp.refl _⟩
      show outD (Jap _ _ _ _ _ [chD c] []) = _
      rw [Jeh, if_pos ⟨ht, hn⟩]
      obtain ⟨p, k, n⟩ := c
      simp only at hn hc hr
      subst hn
      have hx : D.agg [iD p.params, Jag p.vars, Jaf p.body, iD k, iD 0] = chD ⟨p, k, 0⟩ := rfl
      rcases ht with ht | ht | ht | ht | ht <;> simp [hx, hc, ht, Jt1, Jfo, hr]
    · refine ⟨0, .v (.slice none 0 0), ?_, by rw [if_neg (fun h => ht h.1)]; exact Imp.nil 2⟩
      show outD (Jap _ _ _ _ _ [chD c] []) = _
      rw [Jeh]
      have t1 : ¬ x.1 = 21 := by omega
      have t2 : ¬ x.1 = 22 := by omega
      have t3 : ¬ x.1 = 23 := by omega
      have t4 : ¬ x.1 = 24 := by omega
      have t5 : ¬ x.1 = 25 := by omega
      simp [Jgn, hc, t1, t2, t3, t4, t5]
  · refine ⟨0, .v (.slice none 0 0), ?_, by rw [if_neg (fun h => hn h.2)]; exact Imp.nil 2⟩
    show outD (Jap _ _ _ _ _ [chD c] []) = _
    rw [Jeh]
    by_cases t1 : x.1 = 21
    · simp [Jgn, hc, hn, t1]
    by_cases t2 : x.1 = 22
    · simp [Jgn, hc, hn, t2]
    by_cases t3 : x.1 = 23
    · simp [Jgn, hc, hn, t3]
    by_cases t4 : x.1 = 24
    · simp [Jgn, hc, hn, t4]
    by_cases t5 : x.1 = 25
    · simp [Jgn, hc, hn, t5]
    simp [Jgn, hc, t1, t2, t3, t4, t5]
def ansV (l : List Nd) (k : Nat) (n : Int) : List Nd := if (nodeAt l k).1 = 25 then Jbx l ((k + 1 : Nat) : Int) [(1, n)] else []
def Jsf : List D -> Option D := F1 chT fun c => if c.fits then some (Jaf (ansV c.p.body c.k.toNat c.n)) else none
theorem Qpz : CallOk Tryz.prog 72 Jsf := Jms (kp := Jcw) Jua mixed Tryz.func72 (by kernel_rfl) (by decide) fun c d h => by
  split at h
  case isFalse => cases h
  rename_i hg
  cases h
  obtain ⟨h0, h1, h2⟩ := hg
  have hc := fun H => Ji6 c H h0 h1
  have hk : ((c.k.toNat : Nat) : Int) = c.k := by omega
  have hk1 : ((c.k.toNat + 1 : Nat) : Int) = c.k + 1 := by omega
  unfold ansV
  rw [hk, hk1]
  generalize nodeAt c.p.body c.k = x at *
  have hr := Jsv c.p.body (c.k + 1) (1, c.n) (.cells 97 5 [iD c.p.params, Jag c.p.vars, Jaf c.p.body, iD c.k, iD c.n]) 54 (by omega)
  have e1 := Jb0 c.k 1 (by omega) (by omega)
  by_cases ht : x.1 = 25
  · refine ⟨0, _, ?_, Imp.refl _⟩
    show outD (Jap _ _ _ _ _ [chD c] []) = _
    rw [Jf9, if_pos ht]
    simp [Jgn, hc, ht, Jen, Jfo, e1, hr]
  · refine ⟨0, .v (.slice none 0 0), ?_, by rw [if_neg ht]; exact Imp.nil 2⟩
    show outD (Jap _ _ _ _ _ [chD c] []) = _
    rw [Jf9]
    simp [Jgn, hc, ht]
theorem Jwy (l : List Nd) (p : List Int) (H : Heap) (hl : l.length <= 300000) (hp : p.length <= 300000) : Jae Jhv [Jaf l, Jag p] H = some (iD (Je6 l p), H) := Jq9 l p H (by omega) (by omega)
theorem Jep (t : TypeId) (H : Heap) : Jaz t [iD 0, .v (.slice none 0 0), .v (.slice none 0 0)] H = some (.hp H.length 0, H ++ [.cells t 3 [iD 0, .v (.slice none 0 0), .v (.slice none 0 0)]]) := rfl
theorem Jj7 (H : Heap) (i : Nat) (t : TypeId) (a b c x y z : D) (h : H[i]? = some (.cells t 3 [a, b, c])) (hx : Jcc x = true) (hy : Jcc y = true) (hz : Jcc z = true) : setH 3 (.hp i 0) (.agg [x, y, z]) H = some (.v undef, H.set i (.cells t 3 [x, y, z])) := by
  simp [setH, Jhz, h, cellsD, hx, hy, hz]
theorem Jv3 (m : Int) (vs : List Int) (l : List Nd) : Jbv [(0, 1), (1, 1), (2, 1)] [iD 0, .v (.slice none 0 0), .v (.slice none 0 0)] [(0, iD m), (1, Jag vs), (2, Jaf l)] = some (.agg [iD m, Jag vs, Jaf l]) := rfl
theorem Jea : Jbv [(0, 1), (1, 1), (2, 1)] [iD 0, .v (.slice none 0 0), .v (.slice none 0 0)] [] = some (.agg [iD 0, .v (.slice none 0 0), .v (.slice none 0 0)]) := rfl
theorem Jic : Imp (.agg [iD 0, .v (.slice none 0 0), .v (.slice none 0 0)]) (Jak ⟨0, [], []⟩) := Imp.agg (.cons (Imp.refl _) (.cons (Imp.nil 1) (.cons (Imp.nil 2) .nil)))
abbrev Qou (p : Pg) (d : Dl) : Prop := p.vars.length <= 300000 /\ p.body.length <= 300000 /\ d.path.length <= 300000
def Jjn : List D -> Option D := F2 progT dlT fun p d => if Qou p d then some (.tup [Jak (Jcy p d).1, iD (Jcy p d).2]) else none
theorem Qd0 : CallOk Tryz.prog 37 Jjn := Jlf (kp := Jgu) Jua mixed Tryz.func37 (by kernel_rfl) (by decide) fun p d r h => by
  split at h
  case isFalse => cases h
  rename_i hf
  cases h
  have hF := fun H => Jwy p.body d.path H hf.2.1 hf.2.2
  have hs := Jj7 [.cells 25 3 [iD p.params, Jag p.vars, Jaf p.body], .cells 34 3 [Jag d.path, iD d.op, iD d.n], .cells 25 3 [iD 0, .v (.slice none 0 0), .v (.slice none 0 0)]] 2 25 _ _ _ (iD 0) (.v (.slice none 0 0)) (.v (.slice none 0 0)) rfl rfl rfl rfl
  rcases Jt7 p d with ⟨h1, e⟩ | ⟨k, h1, h2, h3, hx, h5, hc⟩
  · rw [e]
    refine ⟨0, _, ?_, Imp.tup (.cons Jic (.cons (Imp.refl (iD 16)) .nil))⟩
    show outD (Jap _ _ _ _ _ [Jak p, dlD d] []) = _
    rw [Jet]
    simp [hF, Jep, h1, Jea, hs]
  · have hi := Jav p.body k h2
    have hn : p.body[k] = nodeAt p.body k := (Jc7 _ k h2).symm
    rw [hn] at hi
    have h0 : ¬ ((k : Int) < 0) := by omega
    have ha := Jco 54 [.cells 25 3 [iD p.params, Jag p.vars, Jaf p.body], .cells 34 3 [Jag d.path, iD d.op, iD d.n], .cells 25 3 [iD 0, .v (.slice none 0 0), .v (.slice none 0 0)]]
    have hs1 := Jry [.cells 25 3 [iD p.params, Jag p.vars, Jaf p.body], .cells 34 3 [Jag d.path, iD d.op, iD d.n], .cells 25 3 [iD 0, .v (.slice none 0 0), .v (.slice none 0 0)], .cells 54 2 [iD 0, iD 0]] 3 54 (iD 0) (iD 0) (nodeAt p.body k) rfl
    have hm' := fun H => Qn3 (nodeAt p.body k) d.op d.n H
    have hs2 := fun x y z h1 h2 h3 => Jj7 [.cells 25 3 [iD p.params, Jag p.vars, Jaf p.body], .cells 34 3 [Jag d.path, iD d.op, iD d.n], .cells 25 3 [iD 0, .v (.slice none 0 0), .v (.slice none 0 0)], .cells 54 2 (Jax (nodeAt p.body k))] 2 25 _ _ _ x y z rfl h1 h2 h3
    have hl2 : (Jax (nodeAt p.body k)).length = 2 := rfl
    have htk : D.agg (List.take 2 (Jax (nodeAt p.body k))) = .agg (Jax (nodeAt p.body k)) := rfl
    rcases hc with ⟨hm, e⟩ | ⟨hm, e⟩
    · rw [e]
      refine ⟨0, _, ?_, Imp.tup (.cons Jic (.cons (Imp.refl (iD 17)) .nil))⟩
      show outD (Jap _ _ _ _ _ [Jak p, dlD d] []) = _
      rw [Jet]
      have q := hs2 (iD 0) (.v (.slice none 0 0)) (.v (.slice none 0 0)) rfl rfl rfl
      simp [hF, Jep, h1, h0, hi, Jco, hs1, hl2, htk, hm', hm, Jea, q]
    · rw [e]
      have hch := fun H => Qav p.body k d H h3 hm hf.2.1
      refine ⟨0, _, ?_, Imp.refl _⟩
      show outD (Jap _ _ _ _ _ [Jak p, dlD d] []) = _
      rw [Jet]
      have q := hs2 (iD p.params) (Jag p.vars) (Jaf (Jaw p.body k (nodeAt p.body k) d.op d.n)) rfl rfl rfl
      simp [hF, Jep, h1, h0, hi, Jco, hs1, hl2, htk, hm', hm, dl_agg, hch, Jv3, q]
      rfl
def Qr7 (P : Program) : List Entry := (105, true, Jae Joq) :: (69, true, Jae Jnh) :: (70, true, Jae Jse) :: (72, true, Jae Jsf) :: (37, true, Jae Jjn) :: Qor P
theorem Qfc : ∀ p ∈ Qr7 Tryz.prog, Jbu Tryz.prog p := Jac (Jal Qt2) <| Jac (Jal Qie) <| Jac (Jal Qps) <| Jac (Jal Qpz) <| Jac (Jal Qd0) <| Jxn
def T12d (P : Program) : Tab := ⟨Qr7 P, noYl⟩
theorem Qdq : TabOk Tryz.prog (T12d Tryz.prog) := Jb4 Qfc
end Go.Proofs.YtinnbafplhcnpaaGreat
end
section
namespace Go.Proofs.YtinnbafplhcnpaaGreat
open Go.RowKit
set_option linter.unusedVariables false
set_option maxRecDepth 100000
def Jgy : List Nat := []
theorem Jls (n : Nat) (x0 : D) (h : Heap) : Jap Tryz.prog (T12d Tryz.prog) Jgy n Tryz.f66 [x0] h =
(thnH (boxH 97 x0 h) fun y0 h1 =>
thn (Jad (some 5) h1 y0) fun y2 =>
thnH (Jae Joq [y2, (iD 7), (iD 11)] h1) fun y3 h4 =>
some (y3, h4)) := by kernel_rfl
def Jh6 : List Nat := []
theorem Jnq (n : Nat) (x0 : D) (h : Heap) : Jap Tryz.prog (T12d Tryz.prog) Jh6 n Tryz.f67 [x0] h =
(thnH (boxH 97 x0 h) fun y0 h1 =>
thn (Jad (some 5) h1 y0) fun y2 =>
thnH (Jae Joq [y2, (iD 12), (iD 17)] h1) fun y3 h4 =>
some (y3, h4)) := by kernel_rfl
def Jgx : List Nat := []
theorem Jlr (n : Nat) (x0 : D) (h : Heap) : Jap Tryz.prog (T12d Tryz.prog) Jgx n Tryz.f68 [x0] h =
(thnH (boxH 97 x0 h) fun y0 h1 =>
thn (Jad (some 5) h1 y0) fun y2 =>
thnH (Jae Joq [y2, (iD 18), (iD 19)] h1) fun y3 h4 =>
some (y3, h4)) := by kernel_rfl
end Go.Proofs.YtinnbafplhcnpaaGreat
end
section
namespace Go.Proofs.YtinnbafplhcnpaaGreat
open Go.RowKit
set_option linter.unusedVariables false
set_option linter.unusedSimpArgs false
set_option maxRecDepth 100000
theorem Jqx (c : Chg) (lo hi : Int) (H : Heap) (h : c.fits) : Jae Joq [chD c, iD lo, iD hi] H = some (Jaf (tagV c.p.body c.k.toNat c.n lo hi), H) := by
  rw [Jar _ _ _ rfl]
  have : Joq [chD c, iD lo, iD hi] = _ := Jrf (A := chT) (B := intT) (C := intT) _ c lo hi
  rw [this, if_pos h]; rfl
def Qbg (lo hi : Int) : List D -> Option D := F1 chT fun c => if c.fits then some (Jaf (tagV c.p.body c.k.toNat c.n lo hi)) else none
def Qdv : List D -> Option D := Qbg 7 11
def Qto : List D -> Option D := Qbg 12 17
def Qdu : List D -> Option D := Qbg 18 19
theorem Qt5 : CallOk Tryz.prog 66 Qdv := Jms (kp := Jgy) Qdq mixed Tryz.func66 (by kernel_rfl) (by decide) fun c d h => by
  split at h
  case isFalse => cases h
  rename_i hg
  cases h
  refine ⟨0, _, ?_, Imp.refl _⟩
  show outD (Jap _ _ _ _ _ [chD c] []) = _
  rw [Jls]
  simp [Jgn, Jqx c _ _ _ hg]
theorem C_rel : CallOk Tryz.prog 67 Qto := Jms (kp := Jh6) Qdq mixed Tryz.func67 (by kernel_rfl) (by decide) fun c d h => by
  split at h
  case isFalse => cases h
  rename_i hg
  cases h
  refine ⟨0, _, ?_, Imp.refl _⟩
  show outD (Jap _ _ _ _ _ [chD c] []) = _
  rw [Jnq]
  simp [Jgn, Jqx c _ _ _ hg]
theorem Qtt : CallOk Tryz.prog 68 Qdu := Jms (kp := Jgx) Qdq mixed Tryz.func68 (by kernel_rfl) (by decide) fun c d h => by
  split at h
  case isFalse => cases h
  rename_i hg
  cases h
  refine ⟨0, _, ?_, Imp.refl _⟩
  show outD (Jap _ _ _ _ _ [chD c] []) = _
  rw [Jlr]
  simp [Jgn, Jqx c _ _ _ hg]
def Qoq (P : Program) : List Entry := (66, true, Jae Qdv) :: (67, true, Jae Qto) :: (68, true, Jae Qdu) :: Qr7 P
theorem Jxm : ∀ p ∈ Qoq Tryz.prog, Jbu Tryz.prog p := Jac (Jal Qt5) <| Jac (Jal C_rel) <| Jac (Jal Qtt) <| Qfc
def T12e (P : Program) : Tab := ⟨Qoq P, noYl⟩
theorem Qti : TabOk Tryz.prog (T12e Tryz.prog) := Jb4 Jxm
end Go.Proofs.YtinnbafplhcnpaaGreat
end
section
namespace Go.Proofs.YtinnbafplhcnpaaGreat
open Go.RowKit
set_option linter.unusedVariables false
set_option maxRecDepth 100000
def Jfk : List Nat := []
theorem Jg8 (n : Nat) (x0 x1 : D) (h : Heap) : Jap Tryz.prog (T12e Tryz.prog) Jfk n Tryz.f35 [x0, x1] h =
(thnH (boxH 25 x0 h) fun y0 h1 =>
thnH (boxH 34 x1 h1) fun y2 h3 =>
thnH (Jaz 25 [(iD 0), (.v (.slice none 0 0)), (.v (.slice none 0 0))] h3) fun y4 h5 =>
thn (Qay 1 [(.v .nilFunc), (.v .nilFunc), (.v .nilFunc), (.v .nilFunc), (.v .nilFunc), (.v .nilFunc), (.v .nilFunc), (.v .nilFunc)] [(0, (.v .nilFunc)), (1, (.clo (.func 66) [] [])), (2, (.clo (.func 67) [] [])), (3, (.clo (.func 68) [] [])), (4, (.clo (.func 69) [] [])), (5, (.clo (.func 70) [] [])), (6, (.clo (.func 71) [] [])), (7, (.clo (.func 72) [] []))]) fun y6 =>
thnH (Jaz 98 [(.v .nilFunc), (.v .nilFunc), (.v .nilFunc), (.v .nilFunc), (.v .nilFunc), (.v .nilFunc), (.v .nilFunc), (.v .nilFunc)] h5) fun y7 h8 =>
thnH (setH 8 y7 y6 h8) fun y9 h10 =>
thn (Jaa 2 y0) fun y11 =>
thn (Jad none h10 y11) fun y12 =>
thn (Jaa 0 y2) fun y13 =>
thn (Jad none h10 y13) fun y14 =>
thnH (Jae Jp2 [y12, y14] h10) fun y15 h16 =>
thn (binK .int .lss y15 (iD 0)) fun y17 =>
Jah y17
(thn (Jbv [(0, 1), (1, 1), (2, 1)] [(iD 0), (.v (.slice none 0 0)), (.v (.slice none 0 0))] []) fun y18 =>
thnH (setH 3 y4 y18 h16) fun y19 h20 =>
thn (Jad (some 3) h20 y4) fun y21 =>
some (.tup [y21, (iD 16)], h20))
(thn (Jaa 1 y2) fun y22 =>
thn (Jad none h16 y22) fun y23 =>
thn (binK .int .lss y23 (iD 1)) fun y24 =>
Jah y24
(thn (Jbv [(0, 1), (1, 1), (2, 1)] [(iD 0), (.v (.slice none 0 0)), (.v (.slice none 0 0))] []) fun y25 =>
thnH (setH 3 y4 y25 h16) fun y26 h27 =>
thn (Jad (some 3) h27 y4) fun y28 =>
some (.tup [y28, (iD 17)], h27))
(thn (Jaa 1 y2) fun y29 =>
thn (Jad none h16 y29) fun y30 =>
thn (binK .int .geq y30 (iD 8)) fun y31 =>
Jah y31
(thn (Jbv [(0, 1), (1, 1), (2, 1)] [(iD 0), (.v (.slice none 0 0)), (.v (.slice none 0 0))] []) fun y32 =>
thnH (setH 3 y4 y32 h16) fun y33 h34 =>
thn (Jad (some 3) h34 y4) fun y35 =>
some (.tup [y35, (iD 17)], h34))
(thn (Jaa 1 y2) fun y36 =>
thn (Jad none h16 y36) fun y37 =>
thn (idxA 8 1 y7 y37) fun y38 =>
thn (Jad none h16 y38) fun y39 =>
thn (Jad (some 3) h16 y0) fun y40 =>
thn (Jaa 2 y2) fun y41 =>
thn (Jad none h16 y41) fun y42 =>
thn (Jbv [(0, 3), (3, 1), (4, 1)] [(iD 0), (.v (.slice none 0 0)), (.v (.slice none 0 0)), (iD 0), (iD 0)] [(0, y40), (1, y15), (2, y42)]) fun y43 =>
thnH (Jdq (T12e Tryz.prog) y39 [y43] h16) fun y44 h45 =>
thn (lenH .sl y44) fun y46 =>
thn (binK .int .eql y46 (iD 0)) fun y47 =>
Jah y47
(thn (Jbv [(0, 1), (1, 1), (2, 1)] [(iD 0), (.v (.slice none 0 0)), (.v (.slice none 0 0))] []) fun y48 =>
thnH (setH 3 y4 y48 h45) fun y49 h50 =>
thn (Jad (some 3) h50 y4) fun y51 =>
some (.tup [y51, (iD 17)], h50))
(thn (Jaa 0 y0) fun y52 =>
thn (Jad none h45 y52) fun y53 =>
thn (Jaa 1 y0) fun y54 =>
thn (Jad none h45 y54) fun y55 =>
thnH (Jc8 Jjo [y55] h45) fun y56 h57 =>
thn (Jbv [(0, 1), (1, 1), (2, 1)] [(iD 0), (.v (.slice none 0 0)), (.v (.slice none 0 0))] [(0, y53), (1, y56), (2, y44)]) fun y58 =>
thnH (setH 3 y4 y58 h57) fun y59 h60 =>
thn (Jad (some 3) h60 y4) fun y61 =>
some (.tup [y61, (iD 0)], h60)))))) := by kernel_rfl
end Go.Proofs.YtinnbafplhcnpaaGreat
end
section
namespace Go.Proofs.YtinnbafplhcnpaaGreat
open Go.RowKit
set_option linter.unusedVariables false
set_option linter.unusedSimpArgs false
set_option maxRecDepth 100000
theorem Qjg (l : List Nd) (k : Nat) (n lo hi op : Int) (h : (op = 1 /\ lo = 7 /\ hi = 11) \/ (op = 2 /\ lo = 12 /\ hi = 17) \/ (op = 3 /\ lo = 18 /\ hi = 19)) : tagV l k n lo hi = opV l k op n := by
  have hm : mayV (nodeAt l k) op n ↔ lo <= (nodeAt l k).1 /\ (nodeAt l k).1 <= hi /\ lo <= n /\ n <= hi := by
    unfold mayV
    rcases h with ⟨rfl, rfl, rfl⟩ | ⟨rfl, rfl, rfl⟩ | ⟨rfl, rfl, rfl⟩ <;> simp
  unfold tagV opV
  by_cases hm' : mayV (nodeAt l k) op n
  · rw [if_pos hm', if_pos (hm.1 hm')]
    unfold Jaw
    rw [if_pos (by omega)]
  · rw [if_neg hm', if_neg (fun h => hm' (hm.2 h))]
theorem Qnt (l : List Nd) (k : Nat) (n : Int) : Qft l k n = opV l k 4 n := by
  unfold Qft opV
  by_cases hm : mayV (nodeAt l k) 4 n
  · rw [if_pos hm, if_pos (by unfold mayV at hm; omega)]; rfl
  · rw [if_neg hm, if_neg (by unfold mayV at hm; omega)]
theorem op_rem (l : List Nd) (k : Nat) (n : Int) : remV l k n = opV l k 5 n := by
  unfold remV opV
  by_cases hm : mayV (nodeAt l k) 5 n
  · rw [if_pos hm, if_pos (by unfold mayV at hm; omega)]; rfl
  · rw [if_neg hm, if_neg (by unfold mayV at hm; omega)]
theorem op_neg (l : List Nd) (k : Nat) (n : Int) : negV l k n = opV l k 6 n := by
  unfold negV opV
  by_cases hm : mayV (nodeAt l k) 6 n
  · rw [if_pos hm, if_pos (by unfold mayV at hm; omega)]; rfl
  · rw [if_neg hm, if_neg (by unfold mayV at hm; omega)]
theorem op_ans (l : List Nd) (k : Nat) (n : Int) : ansV l k n = opV l k 7 n := by
  unfold ansV opV
  by_cases hm : mayV (nodeAt l k) 7 n
  · rw [if_pos hm, if_pos (by unfold mayV at hm; omega)]; rfl
  · rw [if_neg hm, if_neg (by unfold mayV at hm; omega)]
def opsC : List D := [.v .nilFunc, .clo (.func 66) [] [], .clo (.func 67) [] [], .clo (.func 68) [] [], .clo (.func 69) [] [], .clo (.func 70) [] [], .clo (.func 71) [] [], .clo (.func 72) [] []]
theorem Qrd (c : Chg) (H : Heap) (op : Int) (h1 : 1 <= op) (h7 : op <= 7) (hf : c.fits) (hE : 0 <= endv c.p.body c.k) : ∃ x, opsC[op.toNat]? = some x /\ Jdq (T12e Tryz.prog) x [chD c] H = some (Jaf (opV c.p.body c.k.toNat op c.n), H) := by
  have hp : ∀ (F : List D -> Option D) (l : List Nd), F [chD c] = some (Jaf l) -> Jae F [chD c] H = some (Jaf l, H) := fun F l h => by
    rw [Jar _ _ _ rfl, h]; rfl
  have hop : op = 1 \/ op = 2 \/ op = 3 \/ op = 4 \/ op = 5 \/ op = 6 \/ op = 7 := by omega
  have ht : ∀ lo hi, Qbg lo hi [chD c] = some (Jaf (tagV c.p.body c.k.toNat c.n lo hi)) := fun lo hi => by
    have : Qbg lo hi [chD c] = _ := Jjh (A := chT) _ c
    rw [this, if_pos hf]
  rcases hop with rfl | rfl | rfl | rfl | rfl | rfl | rfl
  · refine ⟨_, rfl, ?_⟩
    have : Jdq (T12e Tryz.prog) (.clo (.func 66) [] []) [chD c] H = Jae Qdv [chD c] H := rfl
    rw [<- Qjg _ _ _ 7 11 1 (.inl ⟨rfl, rfl, rfl⟩)]
    exact this.trans (hp _ _ (ht 7 11))
  · refine ⟨_, rfl, ?_⟩
    have : Jdq (T12e Tryz.prog) (.clo (.func 67) [] []) [chD c] H = Jae Qto [chD c] H := rfl
    rw [<- Qjg _ _ _ 12 17 2 (.inr (.inl ⟨rfl, rfl, rfl⟩))]
    exact this.trans (hp _ _ (ht 12 17))
  · refine ⟨_, rfl, ?_⟩
    have : Jdq (T12e Tryz.prog) (.clo (.func 68) [] []) [chD c] H = Jae Qdu [chD c] H := rfl
    rw [<- Qjg _ _ _ 18 19 3 (.inr (.inr ⟨rfl, rfl, rfl⟩))]
    exact this.trans (hp _ _ (ht 18 19))
  · refine ⟨_, rfl, ?_⟩
    have : Jdq (T12e Tryz.prog) (.clo (.func 69) [] []) [chD c] H = Jae Jnh [chD c] H := rfl
    rw [<- Qnt]
    have h : Jnh [chD c] = _ := Jjh (A := chT) _ c
    exact this.trans (hp _ _ (by rw [h, if_pos hf]))
  · refine ⟨_, rfl, ?_⟩
    have : Jdq (T12e Tryz.prog) (.clo (.func 70) [] []) [chD c] H = Jae Jse [chD c] H := rfl
    rw [<- op_rem]
    have h : Jse [chD c] = _ := Jjh (A := chT) _ c
    exact this.trans (hp _ _ (by rw [h, if_pos hf]))
  · refine ⟨_, rfl, ?_⟩
    have : Jdq (T12e Tryz.prog) (.clo (.func 71) [] []) [chD c] H = Jae Jjm [chD c] H := rfl
    rw [<- op_neg]
    have h : Jjm [chD c] = _ := Jjh (A := chT) _ c
    have hneg : ((nodeAt c.p.body c.k).1 = 23 \/ (nodeAt c.p.body c.k).1 = 24) /\ c.n = 0 -> c.k + 1 < c.p.body.length := fun hh => by
      obtain ⟨p, k, n⟩ := c
      obtain ⟨k, rfl⟩ := Int.eq_ofNat_of_zero_le hf.1
      simp only at hE hh ⊢
      obtain ⟨hk, h0, har⟩ := Jyc hE
      have hx : nodeAt p.body k = p.body[k] := Jc7 _ k hk
      rw [hx] at hh
      have ha : 0 < arAt p.body k := by
        rw [har]
        generalize p.body[k] = x at *
        obtain ⟨t, m⟩ := x
        simp only at hh h0
        rcases hh.1 with rfl | rfl
        · rw [Qs0 h0]; omega
        · rw [Jyd h0]; omega
      obtain ⟨f1, f2, f3⟩ := Jkh hE ha
      omega
    exact this.trans (hp _ _ (by rw [h, if_pos ⟨hf.1, by have := hf.2.1; have := hf.1; omega, hneg, hf.2.2⟩]))
  · refine ⟨_, rfl, ?_⟩
    have : Jdq (T12e Tryz.prog) (.clo (.func 72) [] []) [chD c] H = Jae Jsf [chD c] H := rfl
    rw [<- op_ans]
    have h : Jsf [chD c] = _ := Jjh (A := chT) _ c
    exact this.trans (hp _ _ (by rw [h, if_pos hf]))
theorem Jkl : Qay 1 [.v .nilFunc, .v .nilFunc, .v .nilFunc, .v .nilFunc, .v .nilFunc, .v .nilFunc, .v .nilFunc, .v .nilFunc] [(0, .v .nilFunc), (1, .clo (.func 66) [] []), (2, .clo (.func 67) [] []), (3, .clo (.func 68) [] []), (4, .clo (.func 69) [] []), (5, .clo (.func 70) [] []), (6, .clo (.func 71) [] []), (7, .clo (.func 72) [] [])] = some (.agg opsC) := rfl
theorem Jkn (t : TypeId) (H : Heap) : Jaz t [.v .nilFunc, .v .nilFunc, .v .nilFunc, .v .nilFunc, .v .nilFunc, .v .nilFunc, .v .nilFunc, .v .nilFunc] H = some (.hp H.length 0, H ++ [.cells t 8 [.v .nilFunc, .v .nilFunc, .v .nilFunc, .v .nilFunc, .v .nilFunc, .v .nilFunc, .v .nilFunc, .v .nilFunc]]) := rfl
theorem Qfw (p : Pg) (k n : Int) : Jbv [(0, 3), (3, 1), (4, 1)] [iD 0, .v (.slice none 0 0), .v (.slice none 0 0), iD 0, iD 0] [(0, Jak p), (1, iD k), (2, iD n)] = some (chD ⟨p, k, n⟩) := rfl
theorem Qp2 : CallOk Tryz.prog 35 Jjn := Jlf (kp := Jfk) Qti mixed Tryz.func35 (by kernel_rfl) (by decide) fun p d r h => by
  split at h
  case isFalse => cases h
  rename_i hf
  cases h
  have hF := fun H => Qks p.body d.path H (by have := hf.2.1; omega) (by have := hf.2.2; omega)
  have hs0 : setH 8 (.hp 3 0) (.agg opsC) [.cells 25 3 [iD p.params, Jag p.vars, Jaf p.body], .cells 34 3 [Jag d.path, iD d.op, iD d.n], .cells 25 3 [iD 0, .v (.slice none 0 0), .v (.slice none 0 0)], .cells 98 8 [.v .nilFunc, .v .nilFunc, .v .nilFunc, .v .nilFunc, .v .nilFunc, .v .nilFunc, .v .nilFunc, .v .nilFunc]] =
    some (.v undef, [.cells 25 3 [iD p.params, Jag p.vars, Jaf p.body], .cells 34 3 [Jag d.path, iD d.op, iD d.n], .cells 25 3 [iD 0, .v (.slice none 0 0), .v (.slice none 0 0)], .cells 98 8 opsC]) := rfl
  have hs := fun x y z h1 h2 h3 => Jj7 [.cells 25 3 [iD p.params, Jag p.vars, Jaf p.body], .cells 34 3 [Jag d.path, iD d.op, iD d.n], .cells 25 3 [iD 0, .v (.slice none 0 0), .v (.slice none 0 0)], .cells 98 8 opsC] 2 25 _ _ _ x y z rfl h1 h2 h3
  have q0 := hs (iD 0) (.v (.slice none 0 0)) (.v (.slice none 0 0)) rfl rfl rfl
  rcases Jt7 p d with ⟨h1, e⟩ | ⟨k, h1, h2, h3, hx, h5, hc⟩
  · rw [e]
    refine ⟨0, _, ?_, Imp.tup (.cons Jic (.cons (Imp.refl (iD 16)) .nil))⟩
    show outD (Jap _ _ _ _ _ [Jak p, dlD d] []) = _
    rw [Jg8]
    simp [hF, Jep, Jkl, Jkn, hs0, h1, Jea, q0]
  · have h0 : ¬ ((k : Int) < 0) := by omega
    by_cases ho : 1 <= d.op /\ d.op <= 7
    · have hop := fun H => Qrd ⟨p, k, d.n⟩ H d.op ho.1 ho.2 ⟨by simp, by simpa using h2, hf.2.1⟩ h3
      obtain ⟨x, hx1, _⟩ := hop []
      have hop2 : ∀ H, Jdq (T12e Tryz.prog) x [chD ⟨p, k, d.n⟩] H = some (Jaf (opV p.body k d.op d.n), H) := fun H => by
        obtain ⟨y, e1, e2⟩ := hop H
        rw [hx1] at e1
        cases e1
        simpa using e2
      have o1 : ¬ d.op < 1 := by omega
      have o2 : ¬ 8 <= d.op := by omega
      have o3 : 0 <= d.op := by omega
      have o4 : d.op.toNat < 8 := by omega
      have hia : idxA 8 1 (.hp 3 0) (iD d.op) = some (.hp 3 d.op.toNat) := by simp [idxA, o3, o4]
      have hdr : (List.drop d.op.toNat opsC)[0]? = some x := by rw [List.getElem?_drop]; simpa using hx1
      rcases hc with ⟨hm, e⟩ | ⟨hm, e⟩
      · have hR : opV p.body k d.op d.n = [] := by unfold opV; rw [if_neg hm]
        rw [e]
        refine ⟨0, _, ?_, Imp.tup (.cons Jic (.cons (Imp.refl (iD 17)) .nil))⟩
        show outD (Jap _ _ _ _ _ [Jak p, dlD d] []) = _
        rw [Jg8]
        simp [hF, Jep, Jkl, Jkn, hs0, h1, h0, o1, o2, hia, hx1, Qel, Qfw, hop2, hR, Jea, q0]
      · have hR : opV p.body k d.op d.n = Jaw p.body k (nodeAt p.body k) d.op d.n := by unfold opV; rw [if_pos hm]
        have hpos := Qdf h5 h3 hx hm
        have hne : ¬ ((Jaw p.body k (nodeAt p.body k) d.op d.n).length : Int) = 0 := by omega
        have q := hs (iD p.params) (Jag p.vars) (Jaf (Jaw p.body k (nodeAt p.body k) d.op d.n)) rfl rfl rfl
        have hcl := fun H => Qdb p.vars H (by have := hf.1; omega)
        rw [e]
        refine ⟨0, _, ?_, Imp.refl _⟩
        show outD (Jap _ _ _ _ _ [Jak p, dlD d] []) = _
        rw [Jg8]
        simp only [hR] at hop2
        generalize Jaw p.body k (nodeAt p.body k) d.op d.n = R at *
        have hne2 : ¬ R = [] := by
          intro e; subst e; simp at hpos
        simp [hF, Jep, Jkl, Jkn, hs0, h1, h0, o1, o2, hia, hx1, Qel, Qfw, hop2, hne2, hcl, Jv3, q]
        rfl
    · have hm : ¬ mayV (nodeAt p.body k) d.op d.n := fun h => by have := Qp9 h; omega
      have e : Jcy p d = (⟨0, [], []⟩, 17) := by
        rcases hc with ⟨_, e⟩ | ⟨h, _⟩
        · exact e
        · exact absurd h hm
      rw [e]
      refine ⟨0, _, ?_, Imp.tup (.cons Jic (.cons (Imp.refl (iD 17)) .nil))⟩
      show outD (Jap _ _ _ _ _ [Jak p, dlD d] []) = _
      rw [Jg8]
      by_cases o1 : d.op < 1
      · simp [hF, Jep, Jkl, Jkn, hs0, h1, h0, o1, Jea, q0]
      · have o2 : 8 <= d.op := by omega
        simp [hF, Jep, Jkl, Jkn, hs0, h1, h0, o1, o2, Jea, q0]
def Qop (P : Program) : List Entry := (35, true, Jae Jjn) :: Qoq P
theorem Jxl : ∀ p ∈ Qop Tryz.prog, Jbu Tryz.prog p := Jac (Jal Qp2) <| Jxm
def T12f (P : Program) : Tab := ⟨Qop P, noYl⟩
theorem Jt9 : TabOk Tryz.prog (T12f Tryz.prog) := Jb4 Jxl
end Go.Proofs.YtinnbafplhcnpaaGreat
end
section
namespace Go.Proofs.YtinnbafplhcnpaaGreat
open Go.RowKit
set_option linter.unusedVariables false
set_option maxRecDepth 100000
def Jkd : List Nat := []
theorem Jp9 (n : Nat) (x0 : D) (h : Heap) : Jap Tryz.prog (T12f Tryz.prog) Jkd n Tryz.f89 [x0] h =
(thn (binK .int .neq x0 x0) fun y0 =>
some (y0, h)) := by kernel_rfl
def Jas : List Nat := [0, 2, 3, 4, 5]
theorem Jh8 (n : Nat) (x0 : D) (h : Heap) : Jap Tryz.prog (T12f Tryz.prog) Jas n Tryz.f117 [x0] h =
(thn (lenH .sl x0) fun y0 =>
thn (binK .int .lss y0 (iD 2)) fun y1 =>
Jah y1
(some (x0, h))
(Jdl (Jds Tryz.prog (T12f Tryz.prog) Jas n Tryz.f117 0 [x0, (.v (.slice none 0 0)), (iD 1), .undef, .undef] h) (fun j2 s3 h4 =>
Jew j2 0
(some ((s3.getD 0 .undef), h4))
(none)) (fun s3 h4 =>
some ((s3.getD 1 .undef), h4)))) := by kernel_rfl
theorem Jc5 (n : Nat) (s0 s1 s2 s3 s4 : D) (h : Heap) : Jdu Tryz.prog (T12f Tryz.prog) Jas n Tryz.f117 0 [s0, s1, s2, s3, s4] h =
(thn (lenH .sl s0) fun y0 =>
thn (binK .int .lss s2 y0) fun y1 =>
Jah y1
(thn (idxH 1 s0 s2) fun y2 =>
thn (Jad none h y2) fun y3 =>
thn (binK .int .sub s2 (iD 1)) fun y4 =>
thn (idxH 1 s0 y4) fun y5 =>
thn (Jad none h y5) fun y6 =>
thn (binK .int .eql y3 y6) fun y7 =>
Jah y7
(thn (cutH 1 s0 (some s2) none) fun y8 =>
Jdl (Jds Tryz.prog (T12f Tryz.prog) Jas n Tryz.f117 1 [s0, s1, s2, y8, (iD 1)] h) (fun j9 s10 h11 =>
Jew j9 2
(thn (cutH 1 (s10.getD 0 .undef) (some (s10.getD 2 .undef)) none) fun y12 =>
thnH (Jpn 1 [(iD 0)] y12 h11) fun y13 h14 =>
thn (cutH 1 (s10.getD 0 .undef) none (some (s10.getD 2 .undef))) fun y15 =>
some (.ret, [(s10.getD 0 .undef), y15, (s10.getD 2 .undef), (s10.getD 3 .undef), (s10.getD 4 .undef)], h14))
(Jew j9 1
(thn (binK .int .add (s10.getD 2 .undef) (iD 1)) fun y16 =>
some (.normal, [(s10.getD 0 .undef), (s10.getD 1 .undef), y16, (s10.getD 3 .undef), (s10.getD 4 .undef)], h11))
(some ((.exit j9), [(s10.getD 0 .undef), (s10.getD 1 .undef), (s10.getD 2 .undef), (s10.getD 3 .undef), (s10.getD 4 .undef)], h11)))) (fun s10 h11 =>
some (.ret, [(s10.getD 0 .undef), (s10.getD 1 .undef), (s10.getD 2 .undef), (s10.getD 3 .undef), (s10.getD 4 .undef)], h11)))
(thn (binK .int .add s2 (iD 1)) fun y17 =>
some (.normal, [s0, s1, y17, s3, s4], h)))
(some ((.exit 0), [s0, s1, s2, s3, s4], h))) := by kernel_rfl
theorem Jc4 (n : Nat) (s0 s1 s2 s3 s4 : D) (h : Heap) : Jdu Tryz.prog (T12f Tryz.prog) Jas n Tryz.f117 1 [s0, s1, s2, s3, s4] h =
(thn (lenH .sl s3) fun y0 =>
thn (binK .int .lss s4 y0) fun y1 =>
Jah y1
(thn (idxH 1 s3 s4) fun y2 =>
thn (Jad none h y2) fun y3 =>
thn (binK .int .sub s4 (iD 1)) fun y4 =>
thn (idxH 1 s3 y4) fun y5 =>
thn (Jad none h y5) fun y6 =>
thn (binK .int .neq y3 y6) fun y7 =>
Jah y7
(thn (idxH 1 s3 s4) fun y8 =>
thn (Jad none h y8) fun y9 =>
thn (idxH 1 s0 s2) fun y10 =>
thnH (setH 1 y10 y9 h) fun y11 h12 =>
thn (binK .int .add s2 (iD 1)) fun y13 =>
thn (binK .int .add s4 (iD 1)) fun y14 =>
some (.normal, [s0, s1, y13, s3, y14], h12))
(thn (binK .int .add s4 (iD 1)) fun y15 =>
some (.normal, [s0, s1, s2, s3, y15], h)))
(some ((.exit 2), [s0, s1, s2, s3, s4], h))) := by kernel_rfl
def Jeu : List Nat := []
theorem Jlt (n : Nat) (x0 x1 : D) (h : Heap) : Jap Tryz.prog (T12f Tryz.prog) Jeu n Tryz.f119 [x0, x1] h =
(thn (Jad none h x1) fun y0 =>
thn (binK .int .eql x0 y0) fun y1 =>
some (y1, h)) := by kernel_rfl
def Jfm : List Nat := [1, 2, 7, 8]
theorem Jut (n : Nat) (x0 x1 x2 : D) (h : Heap) : Jap Tryz.prog (T12f Tryz.prog) Jfm n Tryz.f85 [x0, x1, x2] h =
(Jdl (Jds Tryz.prog (T12f Tryz.prog) Jfm n Tryz.f85 0 [x1, x2, (.v (.slice none 0 0)), x0] h) (fun j0 s1 h2 =>
Jew j0 0
(some ((s1.getD 2 .undef), h2))
(none)) (fun s1 h2 =>
some (.undef, h2))) := by kernel_rfl
theorem Jlg (n : Nat) (s0 s1 s2 s3 : D) (h : Heap) : Jdu Tryz.prog (T12f Tryz.prog) Jfm n Tryz.f85 0 [s0, s1, s2, s3] h =
(thn (binK .int .leq s3 s0) fun y0 =>
Jah y0
(thn (binK .int .neq s3 s1) fun y1 =>
Jah y1
(thnH (rowH 3 1 1 [(iD 0)] [(0, s3)] h) fun y2 h3 =>
thnH (Jd3 3 1 s2 y2 h3) fun y4 h5 =>
thn (binK .int .add s3 (iD 1)) fun y6 =>
some (.normal, [s0, s1, y4, y6], h5))
(thn (binK .int .add s3 (iD 1)) fun y7 =>
some (.normal, [s0, s1, s2, y7], h)))
(some ((.exit 0), [s0, s1, s2, s3], h))) := by kernel_rfl
end Go.Proofs.YtinnbafplhcnpaaGreat
end
section
namespace Go.Proofs.YtinnbafplhcnpaaGreat
open Go.RowKit
set_option linter.unusedVariables false
set_option linter.unusedSimpArgs false
theorem Jjy (id n i : Nat) (h : i < n) : idxH 1 (.hs id n) (iD i) = some (.hp id i) := by simp [idxH, h]
theorem Jg9 {H : Heap} {id : Nat} {t : TypeId} {l : List Int} (h : H[id]? = some (.cells t 1 (Jbg l))) (i : Nat) (hi : i < l.length) : Jad none H (.hp id i) = some (iD (l.getD i 0)) :=
  Jcr H id i _ _ _ _ h (by rw [getD_in _ _ _ hi]; simp [Jbg, hi])
theorem Jwt {H : Heap} {id : Nat} {t : TypeId} {l : List Int} (h : H[id]? = some (.cells t 1 (Jbg l))) (i : Nat) (hi : i < l.length) (x : Int) : setH 1 (.hp id i) (iD x) H = some (.v undef, H.set id (.cells t 1 (Jbg (l.set i x)))) := by
  have := Jl5 H id i _ _ _ (iD x) h (by rw [Jgj]; exact hi) rfl rfl
  rw [this]
  congr 3
  simp [Jbg, List.map_set]
theorem Jk5 {H : Heap} {id : Nat} {o : HO} (h : ∃ o', H[id]? = some o') : (H.set id o)[id]? = some o := by
  obtain ⟨o', h⟩ := h
  rw [List.getElem?_set_self (List.getElem?_eq_some_iff.1 h).1]
theorem Jpi (l : List Int) (i : Nat) (x : Int) (h : i < l.length) : (l.set i x).getD i 0 = x := by
  simp [List.getD_eq_getElem?_getD, h]
theorem Jhb (l : List Int) (i j : Nat) (x : Int) (h : i ≠ j) : (l.set i x).getD j 0 = l.getD j 0 := by
  rw [List.getD_eq_getElem?_getD, List.getElem?_set_ne h, <- List.getD_eq_getElem?_getD]
theorem Jr1 (l : List Int) (x : Int) : x ∈ l ↔ ∃ p, p < l.length /\ l.getD p 0 = x := by
  rw [List.mem_iff_getElem]
  constructor
  · rintro ⟨p, hp, rfl⟩; exact ⟨p, hp, getD_in _ _ _ hp⟩
  · rintro ⟨p, hp, rfl⟩; exact ⟨p, hp, (getD_in _ _ _ hp).symm⟩
def swp (l : List Int) (j : Nat) : List Int := (l.set (j + 1) (l.getD j 0)).set j (l.getD (j + 1) 0)
theorem Qip (l : List Int) (j : Nat) : (swp l j).length = l.length := by simp [swp]
theorem Ju5 (l : List Int) (j p : Nat) (h : j + 1 < l.length) : (swp l j).getD p 0 = if p = j then l.getD (j + 1) 0 else if p = j + 1 then l.getD j 0 else l.getD p 0 := by
  unfold swp
  by_cases h1 : p = j
  · subst h1; rw [if_pos rfl, Jpi _ _ _ (by simp; omega)]
  · rw [if_neg h1, Jhb _ _ _ _ (Ne.symm h1)]
    by_cases h2 : p = j + 1
    · subst h2; rw [if_pos rfl, Jpi _ _ _ h]
    · rw [if_neg h2, Jhb _ _ _ _ (Ne.symm h2)]
theorem Qqt (l : List Int) (j : Nat) (h : j + 1 < l.length) (x : Int) : x ∈ swp l j ↔ x ∈ l := by
  rw [Jr1, Jr1, Qip]
  constructor
  · rintro ⟨p, hp, e⟩
    rw [Ju5 _ _ _ h] at e
    split at e
    · exact ⟨j + 1, h, e⟩
    · split at e
      · exact ⟨j, by omega, e⟩
      · exact ⟨p, hp, e⟩
  · rintro ⟨p, hp, e⟩
    by_cases h1 : p = j
    · subst h1
      exact ⟨p + 1, h, by rw [Ju5 _ _ _ h, if_neg (by omega), if_pos rfl]; exact e⟩
    · by_cases h2 : p = j + 1
      · subst h2
        exact ⟨j, by omega, by rw [Ju5 _ _ _ h, if_pos rfl]; exact e⟩
      · exact ⟨p, hp, by rw [Ju5 _ _ _ h, if_neg h1, if_neg h2]; exact e⟩
def Rise (l : List Int) (m : Nat) : Prop := ∀ p q, p < q -> q < m -> l.getD p 0 <= l.getD q 0
def Near (l : List Int) (i j : Nat) : Prop := ∀ p q, p < q -> q <= i -> q ≠ j -> l.getD p 0 <= l.getD q 0
theorem Qha {l : List Int} {i : Nat} (h : Rise l i) : Near l i i := fun p q h1 h2 h3 => h p q h1 (by omega)
theorem Qn1 {l : List Int} {i j : Nat} (hi : i < l.length) (hj : j + 1 <= i) (h : Near l i (j + 1)) (hlt : l.getD (j + 1) 0 < l.getD j 0) : Near (swp l j) i j := by
  intro p q h1 h2 h3
  have hl : j + 1 < l.length := by omega
  rw [Ju5 _ _ _ hl, Ju5 _ _ _ hl]
  rw [if_neg (show ¬ q = j from h3)]
  by_cases hq : q = j + 1
  · rw [if_pos hq]
    by_cases hp : p = j
    · rw [if_pos hp]; omega
    · rw [if_neg hp, if_neg (by omega)]
      exact h p j (by omega) (by omega) (by omega)
  · rw [if_neg hq]
    by_cases hp : p = j
    · rw [if_pos hp]; exact h (j + 1) q (by omega) h2 hq
    · rw [if_neg hp]
      by_cases hp2 : p = j + 1
      · rw [if_pos hp2]; exact h j q (by omega) h2 hq
      · rw [if_neg hp2]; exact h p q h1 h2 hq
theorem Qer {l : List Int} {i j : Nat} (h : Near l i j) (hj : j <= i) (he : j = 0 \/ l.getD (j - 1) 0 <= l.getD j 0) : Rise l (i + 1) := by
  intro p q h1 h2
  by_cases hq : q = j
  · subst hq
    rcases he with rfl | he
    · omega
    · by_cases hp : p = q - 1
      · rw [hp]; exact he
      · exact Int.le_trans (h p (q - 1) (by omega) (by omega) (by omega)) he
  · exact h p q h1 (by omega) hq
end Go.Proofs.YtinnbafplhcnpaaGreat
end
section
namespace Go.Proofs.YtinnbafplhcnpaaGreat
open Go.RowKit
set_option linter.unusedVariables false
set_option linter.unusedSimpArgs false
theorem Jy9 {α : Type} (R : α -> α -> Prop) (irr : ∀ a, ¬ R a a) (asym : ∀ a b, R a b -> ¬ R b a) : ∀ (l l' : List α), l.Pairwise R -> l'.Pairwise R -> (∀ a, a ∈ l ↔ a ∈ l') -> l = l'
  | [], [], _, _, _ => rfl
  | [], y :: s, _, _, h => by have := (h y).2 (List.mem_cons_self ..); cases this
  | x :: r, [], _, _, h => by have := (h x).1 (List.mem_cons_self ..); cases this
  | x :: r, y :: s, h1, h2, h => by
    rw [List.pairwise_cons] at h1 h2
    have hxy : x = y := by
      have a := (h x).1 (List.mem_cons_self ..)
      have b := (h y).2 (List.mem_cons_self ..)
      rcases List.mem_cons.1 a with a | a
      · exact a
      · rcases List.mem_cons.1 b with b | b
        · exact b.symm
        · exact absurd (h2.1 x a) (asym _ _ (h1.1 y b))
    subst hxy
    congr 1
    refine Jy9 R irr asym r s h1.2 h2.2 fun a => ⟨fun ha => ?_, fun ha => ?_⟩
    · rcases List.mem_cons.1 ((h a).1 (List.mem_cons_of_mem _ ha)) with e | e
      · subst e; exact absurd (h1.1 a ha) (irr a)
      · exact e
    · rcases List.mem_cons.1 ((h a).2 (List.mem_cons_of_mem _ ha)) with e | e
      · subst e; exact absurd (h2.1 a ha) (irr a)
      · exact e
def sins (a : Int) : List Int -> List Int
  | [] => [a]
  | b :: r => if a < b then a :: b :: r else if a = b then b :: r else b :: sins a r
theorem Jxa (a : Int) : ∀ (l : List Int) (x : Int), x ∈ sins a l ↔ x = a \/ x ∈ l
  | [], x => by simp [sins]
  | b :: r, x => by
    unfold sins
    split
    · simp
    · split
      · rename_i h; subst h; simp
      · simp only [List.mem_cons, Jxa a r x]
        constructor
        · rintro (h | h | h)
          · exact .inr (.inl h)
          · exact .inl h
          · exact .inr (.inr h)
        · rintro (h | h | h)
          · exact .inr (.inl h)
          · exact .inl h
          · exact .inr (.inr h)
theorem Jsp (a : Int) : ∀ (l : List Int), l.Pairwise (· < ·) -> (sins a l).Pairwise (· < ·)
  | [], _ => by simp [sins]
  | b :: r, h => by
    have h' := h
    rw [List.pairwise_cons] at h
    unfold sins
    split
    · rename_i hab
      rw [List.pairwise_cons]
      refine ⟨fun y hy => ?_, h'⟩
      rcases List.mem_cons.1 hy with rfl | hy
      · exact hab
      · have := h.1 y hy; omega
    · split
      · exact h'
      · rename_i h1 h2
        rw [List.pairwise_cons]
        refine ⟨fun y hy => ?_, Jsp a r h.2⟩
        rcases (Jxa a r y).1 hy with rfl | hy
        · omega
        · exact h.1 y hy
def Jin (l : List Int) : List Int := l.foldr sins []
theorem Jzi (l : List Int) (x : Int) : x ∈ Jin l ↔ x ∈ l := by
  induction l with
  | nil => simp [Jin]
  | cons a r ih =>
    have : Jin (a :: r) = sins a (Jin r) := rfl
    rw [this, Jxa, ih, List.mem_cons]
theorem Jq7 (l : List Int) : (Jin l).Pairwise (· < ·) := by
  induction l with
  | nil => simp [Jin]
  | cons a r ih => exact Jsp a _ ih
def Jma (but : Int) (l : List Int) : List Int := (Jin l).filter fun x => decide (x ≠ but)
theorem Jzj (but : Int) (l : List Int) (x : Int) : x ∈ Jma but l ↔ x ∈ l /\ x ≠ but := by
  simp [Jma, Jzi]
theorem Jrb (but : Int) (l : List Int) : (Jma but l).Pairwise (· < ·) := (Jq7 l).filter _
def w64 (n : Int) : Int := IntKind.i64.wrap n
def isN (x y : Nd) (op n : Int) : Prop :=
  (op = 1 /\ 7 <= x.1 /\ x.1 <= 11 /\ 7 <= n /\ n <= 11 /\ n ≠ x.1) \/ (op = 2 /\ 12 <= x.1 /\ x.1 <= 17 /\ 12 <= n /\ n <= 17 /\ n ≠ x.1) \/ (op = 3 /\ 18 <= x.1 /\ x.1 <= 19 /\ 18 <= n /\ n <= 19 /\ n ≠ x.1) \/
  (op = 4 /\ ((x.1 = 1 /\ (n = 0 \/ n = 1 \/ n = -1 \/ n = w64 (x.2 + 1) \/ n = w64 (x.2 - 1)) /\ n ≠ x.2) \/ (x.1 = 2 /\ n = w64 (1 - x.2)))) \/
  (op = 5 /\ (x.1 = 21 \/ x.1 = 22 \/ x.1 = 23 \/ x.1 = 24 \/ x.1 = 25) /\ n = 0) \/ (op = 6 /\ (x.1 = 23 \/ x.1 = 24) /\ n = 0) \/ (op = 7 /\ x.1 = 25 /\ (n = 0 \/ n = 1) /\ y ≠ (1, n))
instance (x y : Nd) (op n : Int) : Decidable (isN x y op n) := by unfold isN; infer_instance
def rowV (lo hi but : Int) : List Int := ((List.range (hi - lo + 1).toNat).map fun i : Nat => lo + (i : Int)).filter fun n => decide (n ≠ but)
theorem Jxb (lo hi but n : Int) : n ∈ rowV lo hi but ↔ lo <= n /\ n <= hi /\ n ≠ but := by
  simp only [rowV, List.mem_filter, List.mem_map, List.mem_range, decide_eq_true_eq]
  constructor
  · rintro ⟨⟨i, hi, rfl⟩, h⟩; omega
  · rintro ⟨h1, h2, h3⟩; exact ⟨⟨(n - lo).toNat, by omega, by omega⟩, h3⟩
theorem Qb2 (lo hi but : Int) : (rowV lo hi but).Pairwise (· < ·) := by
  refine List.Pairwise.filter _ ?_
  rw [List.pairwise_map]
  exact List.pairwise_lt_range.imp fun h => by omega
def Jdy (y : Nd) : List Int := if y.1 = 1 then Jma y.2 [0, 1] else [0, 1]
theorem Jzl (y : Nd) (n : Int) : n ∈ Jdy y ↔ (n = 0 \/ n = 1) /\ y ≠ (1, n) := by
  obtain ⟨t, m⟩ := y
  unfold Jdy
  split
  · rename_i h
    simp only at h
    subst h
    rw [Jzj]
    simp only [List.mem_cons, List.not_mem_nil, or_false, ne_eq, Prod.mk.injEq, true_and]
    constructor
    · rintro ⟨h1, h2⟩; exact ⟨h1, fun e => h2 e.symm⟩
    · rintro ⟨h1, h2⟩; exact ⟨h1, fun e => h2 e.symm⟩
  · rename_i h
    simp only at h
    simp only [List.mem_cons, List.not_mem_nil, or_false, ne_eq, Prod.mk.injEq]
    exact ⟨fun h1 => ⟨h1, fun e => h e.1⟩, fun h1 => h1.1⟩
theorem Jt8 (y : Nd) : (Jdy y).Pairwise (· < ·) := by
  unfold Jdy
  split
  · exact Jrb _ _
  · simp
def Jzg (x y : Nd) : List (Int × List Int) :=
  (if 7 <= x.1 /\ x.1 <= 11 then [(1, rowV 7 11 x.1)] else if 12 <= x.1 /\ x.1 <= 17 then [(2, rowV 12 17 x.1)] else if x.1 = 18 \/ x.1 = 19 then [(3, rowV 18 19 x.1)]
    else if x.1 = 1 then [(4, Jma   x.2 [0, 1, -1, w64 (x.2 + 1), w64 (x.2 - 1)])] else if x.1 = 2 then [(4, [w64 (1 - x.2)])] else []) ++
  ((if x.1 = 21 \/ x.1 = 22 \/ x.1 = 23 \/ x.1 = 24 \/ x.1 = 25 then [(5, [0])] else []) ++
  (if x.1 = 23 ∨ x.1 = 24 then [(6, [0])] else if x.1 = 25 then [(7, Jdy      y)] else []))
def Jgm (x y : Nd) : List (Int × Int) := (Jzg x y).flatMap fun e => e.2.map fun n => (e.1, n)
def lexR (a b : Int × Int) : Prop := a.1 < b.1 \/ (a.1 = b.1 /\ a.2 < b.2)
theorem Qhc (x y : Nd) (op n : Int) : (op, n) ∈ Jgm x y ↔ ∃ e ∈ Jzg x y, op = e.1 /\ n ∈ e.2 := by
  simp only [Jgm, List.mem_flatMap, List.mem_map, Prod.mk.injEq]
  constructor
  · rintro ⟨e, he, m, hm, rfl, rfl⟩; exact ⟨e, he, rfl, hm⟩
  · rintro ⟨e, he, rfl, hm⟩; exact ⟨e, he, n, hm, rfl, rfl⟩
theorem Jtm : ∀ (L : List (Int × List Int)), (L.Pairwise fun a b => a.1 < b.1) -> (∀ e ∈ L, e.2.Pairwise (· < ·)) -> (L.flatMap fun e => e.2.map fun n => (e.1, n)).Pairwise lexR
  | [], _, _ => by simp
  | e :: r, h, hs => by
    rw [List.pairwise_cons] at h
    rw [List.flatMap_cons, List.pairwise_append]
    refine ⟨?_, Jtm r h.2 fun e he => hs e (List.mem_cons_of_mem _ he), fun a ha b hb => ?_⟩
    · rw [List.pairwise_map]
      exact (hs e (List.mem_cons_self ..)).imp fun h => .inr ⟨rfl, h⟩
    · obtain ⟨m, _, rfl⟩ := List.mem_map.1 ha
      obtain ⟨e', he', hb⟩ := List.mem_flatMap.1 hb
      obtain ⟨m', _, rfl⟩ := List.mem_map.1 hb
      exact .inl (h.1 e' he')
theorem Jrc (x y : Nd) : ((Jzg x y).Pairwise fun a b => a.1 < b.1) /\ ∀ e ∈ Jzg x y, e.2.Pairwise (· < ·) := by
  have r := Qb2
  have a := Jt8 y
  have o := Jrb
  unfold Jzg
  repeat' split
  all_goals simp [r, a, o]
theorem Jx5 (x y : Nd) : (Jgm x y).Pairwise lexR := Jtm _ (Jrc x y).1 (Jrc x y).2
theorem Qkx {p : Int × List Int -> Prop} : (∃ e ∈ ([] : List (Int × List Int)), p e) ↔ False := by simp
theorem Jrg {p : Int × List Int -> Prop} (e : Int × List Int) : (∃ x ∈ [e], p x) ↔ p e := by simp
theorem Qo5      (x : Nd) (op n : Int) : (∃ e ∈ (if 7 ≤ x.1 ∧ x.1 ≤ 11 then [(1, rowV 7 11 x.1)] else if 12 ≤ x.1 ∧ x.1 ≤ 17 then [(2, rowV 12 17 x.1)] else if x.1 = 18 ∨ x.1 = 19 then [(3, rowV 18 19 x.1)]
    else if x.1 = 1 then [(4, Jma   x.2 [0, 1, -1, w64 (x.2 + 1), w64 (x.2 - 1)])] else if x.1 = 2 then [(4, [w64 (1 - x.2)])] else [] : List (Int × List Int)), op = e.1 ∧ n ∈ e.2) ↔
  (op = 1 /\ 7 <= x.1 /\ x.1 <= 11 /\ 7 <= n /\ n <= 11 /\ n ≠ x.1) \/ (op = 2 /\ 12 <= x.1 /\ x.1 <= 17 /\ 12 <= n /\ n <= 17 /\ n ≠ x.1) \/ (op = 3 /\ 18 <= x.1 /\ x.1 <= 19 /\ 18 <= n /\ n <= 19 /\ n ≠ x.1) \/
  (op = 4 /\ ((x.1 = 1 /\ (n = 0 \/ n = 1 \/ n = -1 \/ n = w64 (x.2 + 1) \/ n = w64 (x.2 - 1)) /\ n ≠ x.2) \/ (x.1 = 2 /\ n = w64 (1 - x.2)))) := by
  by_cases c1 : 7 <= x.1 /\ x.1 <= 11
  · rw [if_pos c1, Jrg, Jxb]
    constructor
    · rintro ⟨h1, h2⟩; exact .inl ⟨h1, c1.1, c1.2, h2⟩
    · rintro (h | h | h | h)
      · exact ⟨h.1, h.2.2.2⟩
      · omega
      · omega
      · omega
  rw [if_neg c1]
  by_cases c2 : 12 <= x.1 /\ x.1 <= 17
  · rw [if_pos c2, Jrg, Jxb]
    constructor
    · rintro ⟨h1, h2⟩; exact .inr (.inl ⟨h1, c2.1, c2.2, h2⟩)
    · rintro (h | h | h | h)
      · omega
      · exact ⟨h.1, h.2.2.2⟩
      · omega
      · omega
  rw [if_neg c2]
  by_cases c3 : x.1 = 18 \/ x.1 = 19
  · rw [if_pos c3, Jrg, Jxb]
    constructor
    · rintro ⟨h1, h2⟩; exact .inr (.inr (.inl ⟨h1, by omega, by omega, h2⟩))
    · rintro (h | h | h | h)
      · omega
      · omega
      · exact ⟨h.1, h.2.2.2⟩
      · omega
  rw [if_neg c3]
  by_cases c4 : x.1 = 1
  · rw [if_pos c4, Jrg, Jzj]
    simp only [List.mem_cons, List.not_mem_nil, or_false]
    constructor
    · rintro ⟨h1, h2⟩; exact .inr (.inr (.inr ⟨h1, .inl ⟨c4, h2⟩⟩))
    · rintro (h | h | h | h)
      · omega
      · omega
      · omega
      · rcases h.2 with h2 | h2
        · exact ⟨h.1, h2.2⟩
        · omega
  rw [if_neg c4]
  by_cases c5 : x.1 = 2
  · rw [if_pos c5, Jrg]
    simp only [List.mem_cons, List.not_mem_nil, or_false]
    constructor
    · rintro ⟨h1, h2⟩; exact .inr (.inr (.inr ⟨h1, .inr ⟨c5, h2⟩⟩))
    · rintro (h | h | h | h)
      · omega
      · omega
      · omega
      · rcases h.2 with h2 | h2
        · omega
        · exact ⟨h.1, h2.2⟩
  rw [if_neg c5, Qkx]
  constructor
  · exact fun h => h.elim
  · rintro (h | h | h | h) <;> omega
theorem Qo4 (x : Nd) (op n : Int) : (∃ e ∈ (if x.1 = 21 \/ x.1 = 22 \/ x.1 = 23 \/ x.1 = 24 \/ x.1 = 25 then [(5, [0])] else [] : List (Int × List Int)), op = e.1 /\ n ∈ e.2) ↔ (op = 5 /\ (x.1 = 21 \/ x.1 = 22 \/ x.1 = 23 \/ x.1 = 24 \/ x.1 = 25) /\ n = 0) := by
  split
  · rename_i h
    rw [Jrg]
    simp only [List.mem_singleton]
    exact ⟨fun a => ⟨a.1, h, a.2⟩, fun a => ⟨a.1, a.2.2⟩⟩
  · rename_i h
    rw [Qkx]
    exact ⟨fun a => a.elim, fun a => h a.2.1⟩
theorem Qo3 (x y : Nd) (op n : Int) : (∃ e ∈ (if x.1 = 23 \/ x.1 = 24 then [(6, [0])] else if x.1 = 25 then [(7, Jdy y)] else [] : List (Int × List Int)), op = e.1 /\ n ∈ e.2) ↔ (op = 6 /\ (x.1 = 23 \/ x.1 = 24) /\ n = 0) \/ (op = 7 /\ x.1 = 25 /\ (n = 0 \/ n = 1) /\ y ≠ (1, n)) := by
  by_cases c1 : x.1 = 23 \/ x.1 = 24
  · rw [if_pos c1, Jrg]
    simp only [List.mem_singleton]
    exact ⟨fun a => .inl ⟨a.1, c1, a.2⟩, fun a => by
      rcases a with a | a
      · exact ⟨a.1, a.2.2⟩
      · omega⟩
  rw [if_neg c1]
  by_cases c2 : x.1 = 25
  · rw [if_pos c2, Jrg, Jzl]
    exact ⟨fun a => .inr ⟨a.1, c2, a.2⟩, fun a => by
      rcases a with a | a
      · omega
      · exact ⟨a.1, a.2.2⟩⟩
  rw [if_neg c2, Qkx]
  exact ⟨fun a => a.elim, fun a => by
    rcases a with a | a
    · exact c1 a.2.1
    · exact c2 a.2.1⟩
theorem Qqg {p : Int × List Int -> Prop} (a b : List (Int × List Int)) : (∃ e ∈ a ++ b, p e) ↔ (∃ e ∈ a, p e) \/ ∃ e ∈ b, p e := by
  simp only [List.mem_append]
  constructor
  · rintro ⟨e, h | h, hp⟩
    · exact .inl ⟨e, h, hp⟩
    · exact .inr ⟨e, h, hp⟩
  · rintro (⟨e, h, hp⟩ | ⟨e, h, hp⟩)
    · exact ⟨e, .inl h, hp⟩
    · exact ⟨e, .inr h, hp⟩
theorem Qk9 (x y : Nd) (op n : Int) : (op, n) ∈ Jgm x y ↔ isN x y op n := by
  rw [Qhc]
  unfold Jzg
  rw [Qqg, Qqg, Qo5, Qo4, Qo3]
  unfold isN
  simp only [or_assoc]
theorem Qg5 (x y : Nd) : (Jgm x y).length <= 5 := by
  have hr : ∀ lo hi but : Int, lo <= but -> but <= hi -> (rowV lo hi but).length <= (hi - lo).toNat := by
    intro lo hi but h1 h2
    have : (rowV lo hi but).length < ((List.range (hi - lo + 1).toNat).map fun i : Nat => lo + (i : Int)).length := by
      unfold rowV
      rw [List.length_filter_lt_length_iff_exists]
      exact ⟨but, List.mem_map.2 ⟨(but - lo).toNat, by simp; omega, by omega⟩, by simp⟩
    simp at this
    omega
  have hs : ∀ a : Int, ∀ l : List Int, (sins a l).length <= l.length + 1 := by
    intro a l
    induction l with
    | nil => simp [sins]
    | cons b r ih =>
      unfold sins
      split
      · simp
      · split
        · simp
        · simp only [List.length_cons]; omega
  have hso : ∀ l : List Int, (Jin l).length <= l.length := by
    intro l
    induction l with
    | nil => simp [Jin]
    | cons a r ih =>
      have := hs a (Jin r)
      have e : Jin (a :: r) = sins a (Jin r) := rfl
      rw [e, List.length_cons]; omega
  have ho : ∀ (but : Int) (l : List Int), (Jma but l).length <= l.length := fun but l => Nat.le_trans (List.length_filter_le _ _) (hso l)
  have ha : (Jdy y).length <= 2 := by
    unfold Jdy
    split
    · exact ho _ _
    · simp
  have h1 := fun t (a : 7 <= t) (b : t <= 11) => hr 7 11 t a b
  have h2 := fun t (a : 12 <= t) (b : t <= 17) => hr 12 17 t a b
  have h3 := fun t (a : 18 <= t) (b : t <= 19) => hr 18 19 t a b
  have h4 := ho x.2 [0, 1, -1, w64 (x.2 + 1), w64 (x.2 - 1)]
  simp only [List.length_cons, List.length_nil] at h4
  unfold Jgm Jzg
  by_cases c1 : 7 <= x.1 /\ x.1 <= 11
  · have := h1 x.1 c1.1 c1.2
    rw [if_pos c1, if_neg (by omega), if_neg (by omega), if_neg (by omega)]
    simp
    omega
  by_cases c2 : 12 <= x.1 /\ x.1 <= 17
  · have := h2 x.1 c2.1 c2.2
    rw [if_neg c1, if_pos c2, if_neg (by omega), if_neg (by omega), if_neg (by omega)]
    simp
    omega
  by_cases c3 : x.1 = 18 \/ x.1 = 19
  · have := h3 x.1 (by omega) (by omega)
    rw [if_neg c1, if_neg c2, if_pos c3, if_neg (by omega), if_neg (by omega), if_neg (by omega)]
    simp
    omega
  by_cases c4 : x.1 = 1
  · rw [if_neg c1, if_neg c2, if_neg c3, if_pos c4, if_neg (by omega), if_neg (by omega), if_neg (by omega)]
    simp
    omega
  by_cases c5 : x.1 = 2
  · rw [if_neg c1, if_neg c2, if_neg c3, if_neg c4, if_pos c5, if_neg (by omega), if_neg (by omega), if_neg (by omega)]
    simp
  rw [if_neg c1, if_neg c2, if_neg c3, if_neg c4, if_neg c5]
  by_cases c6 : x.1 = 21 \/ x.1 = 22 \/ x.1 = 23 \/ x.1 = 24 \/ x.1 = 25
  · rw [if_pos c6]
    by_cases c7 : x.1 = 23 \/ x.1 = 24
    · rw [if_pos c7]; simp
    · rw [if_neg c7]
      by_cases c8 : x.1 = 25
      · rw [if_pos c8]
        simp
        omega
      · rw [if_neg c8]; simp
  · rw [if_neg c6, if_neg (by omega), if_neg (by omega)]
    simp
end Go.Proofs.YtinnbafplhcnpaaGreat
end
section
namespace Go.Proofs.YtinnbafplhcnpaaGreat
open Go.RowKit
set_option linter.unusedVariables false
set_option linter.unusedSimpArgs false
theorem set_self {H : Heap} {id : Nat} {o : HO} (h : H[id]? = some o) : H.set id o = H := by
  apply List.ext_getElem?
  intro k
  by_cases hk : id = k
  · subst hk; rw [List.getElem?_set_self (List.getElem?_eq_some_iff.1 h).1, h]
  · rw [List.getElem?_set_ne hk]
def dedS (a : List Int) (x : Int) : List Int := if a.getLast? = some x then a else a ++ [x]
def dedV (l : List Int) (m : Nat) : List Int := (l.take m).foldl dedS []
theorem Jpk (l : List Int) : dedV l 0 = [] := by simp [dedV]
theorem Ji5 (l : List Int) (m : Nat) (h : m < l.length) : dedV l (m + 1) = dedS (dedV l m) (l.getD m 0) := by
  unfold dedV
  rw [List.take_succ_eq_append_getElem h, List.foldl_append, getD_in _ _ _ h]
  rfl
theorem Qk2 (a : List Int) (x : Int) : (dedS a x).getLast? = some x := by
  unfold dedS
  split
  · assumption
  · simp
theorem Jpl (l : List Int) (m : Nat) (h : m < l.length) : (dedV l (m + 1)).getLast? = some (l.getD m 0) := by
  rw [Ji5 l m h]; exact Qk2 _ _
theorem Qfr (l : List Int) : ∀ m, m <= l.length -> (dedV l m).length <= m
  | 0, _ => by simp [Jpk]
  | m + 1, h => by
    rw [Ji5 l m h]
    have := Qfr l m (by omega)
    unfold dedS
    split
    · omega
    · simp; omega
theorem Qq8 {l : List Int} {x : Int} (h : l.Pairwise (· < ·)) (hx : l.getLast? = some x) : ∀ y ∈ l, y <= x := by
  intro y hy
  obtain ⟨a, rfl⟩ : ∃ a, l = a ++ [x] := by
    rcases List.eq_nil_or_concat l with rfl | ⟨a, b, rfl⟩
    · simp at hx
    · rw [List.concat_eq_append, List.getLast?_append] at hx
      simp at hx
      subst hx
      exact ⟨a, List.concat_eq_append⟩
  rw [List.pairwise_append] at h
  simp only [List.mem_append, List.mem_singleton] at hy
  rcases hy with hy | rfl
  · have := h.2.2 y hy x (by simp); omega
  · omega
theorem Qai (l : List Int) : ∀ m, m <= l.length -> Rise l m -> (dedV l m).Pairwise (· < ·) /\ ∀ x, x ∈ dedV l m ↔ x ∈ l.take m
  | 0, _, _ => by simp [Jpk]
  | m + 1, h, hR => by
    obtain ⟨h1, h2⟩ := Qai l m (by omega) fun p q a b => hR p q a (by omega)
    rw [Ji5 l m h, List.take_succ_eq_append_getElem h]
    have hgx : l[m] = l.getD m 0 := (getD_in _ _ _ h).symm
    rw [hgx]
    unfold dedS
    by_cases he : (dedV l m).getLast? = some (l.getD m 0)
    · rw [if_pos he]
      refine ⟨h1, fun x => ?_⟩
      rw [h2, List.mem_append, List.mem_singleton]
      constructor
      · exact .inl
      · rintro (hx | rfl)
        · exact hx
        · exact (h2 _).1 (List.mem_of_getLast? he)
    · rw [if_neg he]
      refine ⟨?_, fun x => by rw [List.mem_append, List.mem_append, h2]⟩
      rw [List.pairwise_append]
      refine ⟨h1, by simp, fun y hy x hx => ?_⟩
      rw [List.mem_singleton] at hx
      subst hx
      cases m with
      | zero => simp [Jpk] at hy
      | succ m =>
        have hl := Jpl l m (by omega)
        rw [hl] at he
        have a1 := Qq8 h1 hl y hy
        have a2 := hR m (m + 1) (by omega) (by omega)
        have a3 : l.getD m 0 ≠ l.getD (m + 1) 0 := fun e => he (by rw [e])
        omega
theorem Qk1 (l s : List Int) (hR : Rise s s.length) (hm : ∀ x, x ∈ s ↔ x ∈ l) : dedV s s.length = Jin l := by
  obtain ⟨h1, h2⟩ := Qai s s.length (Nat.le_refl _) hR
  refine Jy9 (· < ·) (fun a (h : a < a) => by omega) (fun a b (h1 : a < b) (h2 : b < a) => by omega) _ _ h1 (Jq7 l) fun x => ?_
  rw [h2, List.take_length, hm, Jzi]
theorem Jot (c : List Int) (k : Nat) (x : Int) (h : k < c.length) : (c.set k x).take (k + 1) = c.take k ++ [x] := by
  rw [List.take_succ_eq_append_getElem (by simpa using h), List.take_set_of_le (Nat.le_refl _)]
  simp
end Go.Proofs.YtinnbafplhcnpaaGreat
end
section
namespace Go.Proofs.YtinnbafplhcnpaaGreat
open Go.RowKit
set_option linter.unusedVariables false
set_option linter.unusedSimpArgs false
set_option maxRecDepth 100000
def Jq4 : List D -> Option D := F1 intT fun _ => some (bD false)
theorem Qtx : CallOk Tryz.prog 89 Jq4 := Jms (kp := Jkd) Jt9 mixed Tryz.func89 (by kernel_rfl) (by decide) fun a d h => by
  cases h
  refine ⟨0, _, ?_, Imp.refl _⟩
  show outD (Jap _ _ _ _ _ [iD a] []) = _
  rw [Jp9]
  simp
theorem Qhm (a : Int) (H : Heap) : Jae Jq4 [iD a] H = some (bD false, H) := by
  rw [Jar _ _ _ rfl]
  have : Jq4 [iD a] = _ := Jjh (A := intT) _ a
  rw [this]; rfl
def Ql2 (P : Program) : List D -> Heap -> Option (D × Heap) := Jgr P (T12f P) [] 0 150
theorem Qtv : HCallOk Tryz.prog 150 (Ql2 Tryz.prog) := Jdf Jt9 mixed Tryz.func150 (by kernel_rfl) (by decide)
def Jmx (P : Program) : List D -> Heap -> Option (D × Heap) := Jgr P (T12f P) Jas 1001 117
theorem Qbe (ds : List D) (H : Heap) : Jmx Tryz.prog ds H = Jap Tryz.prog (T12f Tryz.prog) Jas 1001 Tryz.f117 ds H := Jct Tryz.func117 ds H
theorem Qmx : HCallOk Tryz.prog 117 (Jmx Tryz.prog) := Jdf Jt9 mixed Tryz.func117 (by kernel_rfl) (by decide)
theorem Qe5 (id o n i : Nat) (h : i < n) : idxH 1 (.ht id o n) (iD i) = some (.hp id (o + i)) := by simp [idxH, h]
theorem Qao {H : Heap} {id : Nat} {t : TypeId} {c : List Int} (h : H[id]? = some (.cells t 1 (Jbg c))) (o n : Nat) (hn : o + n <= c.length) : ∃ z, Jpn 1 [iD 0] (.ht id o n) H = some (.v undef, H.set id (.cells t 1 (Jbg (c.take o ++ z)))) := by
  refine ⟨List.replicate n 0 ++ c.drop (o + n), ?_⟩
  have hc : (Jbg c).length = c.length := Jgj c
  simp only [Jpn, htOf, Option.bind_some, h]
  rw [if_pos ⟨trivial, rfl, by simp [hc]; omega, rfl⟩]
  congr 3
  simp [Jbg, List.map_take, List.map_drop]
theorem Qhw {H : Heap} {id : Nat} {t : TypeId} {c : List Int} (h : H[id]? = some (.cells t 1 (Jbg c))) (n : Nat) (hn : n <= c.length) : ∃ z, Jpn 1 [iD 0] (.hs id n) H = some (.v undef, H.set id (.cells t 1 (Jbg z))) := by
  refine ⟨List.replicate n 0 ++ c.drop n, ?_⟩
  have hc : (Jbg c).length = c.length := Jgj c
  simp only [Jpn, htOf, Option.bind_some, h]
  rw [if_pos ⟨trivial, rfl, by simp [hc]; omega, rfl⟩]
  congr 3
  simp [Jbg, List.map_take, List.map_drop]
theorem Jx0 (id n k : Nat) (h0 : 0 < k) (h : k <= n) : cutH 1 (.hs id n) (some (iD k)) none = some (.ht id k (n - k)) := by
  simp [cutH, lowD, Jqo, h]; omega
theorem Qk3 (id n : Nat) : cutH 1 (.hs id n) (some (iD 0)) none = some (.hs id n) := by
  simp [cutH, lowD, Jqo]
theorem Qqi (id n k : Nat) (h : k <= n) : cutH 1 (.hs id n) none (some (iD k)) = some (.hs id k) := by
  simp [cutH, lowD, Jqo, h]
theorem Qak          (id n k0 : Nat) (t : TypeId) (l : List Int) (H0 : Heap) (X : D) (hid : ∃ o, H0[id]? = some o) (hl : l.length = n) (hn : n ≤ 1000) (hk0 : 0 < k0) (hk : k0 < n) (hd : dedV l k0 = l.take k0) (he : l.getD k0 0 = l.getD (k0 - 1) 0) :
    ∃ (k : Nat) (c : List Int), Jez (Jdu Tryz.prog (T12f Tryz.prog) Jas 1001 Tryz.f117 1) 1001 [.hs id n, X, iD k0, .ht id k0 (n - k0), iD 1] (H0.set id (.cells t 1 (Jbg l))) =
      some (.exit 2, [.hs id n, X, iD k, .ht id k0 (n - k0), iD ((n - k0 : Nat) : Int)], H0.set id (.cells t 1 (Jbg c))) /\ c.length = n /\ c.take k = dedV l n /\ 0 < k /\ k <= n := by
  have key : ∀ (m j : Nat) (k : Nat) (c : List Int) (f : Nat), j + m = n - k0 → 1 ≤ j → m < f → c.length = n → c.take k = dedV l (k0 + j) → k0 ≤ k → k < k0 + j → (∀ p, k0 + j - 1 ≤ p → c.getD p 0 = l.getD p 0) →
      ∃ (k' : Nat) (c' : List Int), Jez (Jdu Tryz.prog (T12f Tryz.prog) Jas 1001 Tryz.f117 1) f [.hs id n, X, iD k, .ht id k0 (n - k0), iD j] (H0.set id (.cells t 1 (Jbg c))) =
      some (.exit 2, [.hs id n, X, iD k', .ht id k0 (n - k0), iD ((n - k0 : Nat) : Int)], H0.set id (.cells t 1 (Jbg c'))) /\ c'.length = n /\ c'.take k' = dedV l n /\ 0 < k' /\ k' <= n := by
    intro m
    induction m with
    | zero =>
      intro j k c f hj h1 hf hc ht hk1 hk2 hp
      obtain ⟨f, rfl⟩ : ∃ x, f = x + 1 := ⟨f - 1, by omega⟩
      obtain rfl : j = n - k0 := by omega
      refine ⟨k, c, Jdn ?_, hc, by rw [ht, show k0 + (n - k0) = n by omega], by omega, by omega⟩
      rw [Jc4]
      simp
    | succ m ih =>
      intro j k c f hj h1 hf hc ht hk1 hk2 hp
      obtain ⟨f, rfl⟩ : ∃ x, f = x + 1 := ⟨f - 1, by omega⟩
      have hg : (H0.set id (.cells t 1 (Jbg c)))[id]? = some (.cells t 1 (Jbg c)) := Jk5 hid
      have i1 := Qe5 id k0 (n - k0) j (by omega)
      have i2 := Qe5 id k0 (n - k0) (j - 1) (by omega)
      have i3 := Jjy id n k (by omega)
      have l1 := Jg9 hg (k0 + j) (by omega)
      have l2 := Jg9 hg (k0 + (j - 1)) (by omega)
      have e1 := Jnb (j : Int) 1 (by omega) (by omega)
      have e2 := Jb0 (j : Int) 1 (by omega) (by omega)
      have e3 := Jb0 (k : Int) 1 (by omega) (by omega)
      have c1 : ((j : Nat) : Int) - 1 = ((j - 1 : Nat) : Int) := by omega
      have c2 : ((j : Nat) : Int) + 1 = ((j + 1 : Nat) : Int) := by omega
      have c3 : ((k : Nat) : Int) + 1 = ((k + 1 : Nat) : Int) := by omega
      rw [c1] at e1
      rw [c2] at e2
      rw [c3] at e3
      have hlt : (j : Int) < ((n - k0 : Nat) : Int) := by omega
      have hdl : dedV l (k0 + (j + 1)) = dedS (dedV l (k0 + j)) (l.getD (k0 + j) 0) := Ji5 l (k0 + j) (by omega)
      have hla : (dedV l (k0 + j)).getLast? = some (l.getD (k0 + (j - 1)) 0) := by
        have := Jpl l (k0 + (j - 1)) (by omega)
        rwa [show k0 + (j - 1) + 1 = k0 + j by omega] at this
      rw [hp (k0 + j) (by omega)] at l1
      rw [hp (k0 + (j - 1)) (by omega)] at l2
      by_cases hx : l.getD (k0 + j) 0 = l.getD (k0 + (j - 1)) 0
      · obtain ⟨k', c', q1, q2⟩ := ih (j + 1) k c f (by omega) (by omega) (by omega) hc (by rw [hdl, ht]; unfold dedS; rw [if_pos (by rw [hla, hx])]) (by omega) (by omega) (fun p hp' => hp p (by omega))
        refine ⟨k', c', ?_, q2⟩
        rw [Jei]
        · exact q1
        · rw [Jc4]
          simp only [Qj5, Jaj, Jbd, hlt, decide_true, Jai, if_true, i1, l1, Jfq, e1, i2, l2, Jb8, hx, bne_self_eq_false, Bool.false_eq_true, if_false, Jcs, e2]
      · have st := Jwt hg k (by omega) (l.getD (k0 + j) 0)
        rw [List.set_set] at st
        obtain ⟨k', c', q1, q2⟩ := ih (j + 1) (k + 1) (c.set k (l.getD (k0 + j) 0)) f (by omega) (by omega) (by omega) (by simpa using hc)
          (by rw [hdl, Jot _ _ _ (by omega), ht]; unfold dedS; rw [if_neg (by rw [hla]; intro e; exact hx (Option.some.inj e).symm)]) (by omega) (by omega) (fun p hp' => by rw [Jhb _ _ _ _ (by omega)]; exact hp p (by omega))
        refine ⟨k', c', ?_, q2⟩
        rw [Jei]
        · exact q1
        · rw [Jc4]
          have hb : (l.getD (k0 + j) 0 != l.getD (k0 + (j - 1)) 0) = true := bne_iff_ne.2 hx
          simp only [Qj5, Jaj, Jbd, hlt, decide_true, Jai, if_true, i1, l1, Jfq, e1, i2, l2, Jb8, hb, i3, st, Jan, Jcs, e2, e3]
  refine key (n - k0 - 1) 1 k0 l 1001 (by omega) (by omega) (by omega) hl ?_ (Nat.le_refl _) (by omega) (fun p _ => rfl)
  have := Ji5 l k0 (by omega)
  rw [this, hd]
  unfold dedS
  rw [if_pos]
  have hla := Jpl l (k0 - 1) (by omega)
  rw [show k0 - 1 + 1 = k0 by omega, hd] at hla
  rw [hla, he]
theorem Qhs        (id n : Nat) (t : TypeId) (l : List Int) (H : Heap) (hid : H[id]? = some (.cells t 1 (Jbg   l))) (hl : l.length = n) (hn2 : 2 ≤ n) (hn : n ≤ 1000) :
    ∃ (c : List Int), Jmx Tryz.prog [.hs id n] H = some (.hs id (dedV l n).length, H.set id (.cells t 1 (Jbg c))) /\ c.take (dedV l n).length = dedV l n := by
  rw [Qbe, Jh8]
  have key : ∀ (m k f : Nat), k + m = n → 1 ≤ k → m < f → dedV l k = l.take k → (∃ (c : List Int), Jez   (Jdu   Tryz.prog (T12f Tryz.prog) Jas                          1001 Tryz.f117 0) f [.hs id n, .v (.slice none 0 0), iD k, .undef, .undef] H =
      some (.exit 0, [.hs id n, .v (.slice none 0 0), iD n, .undef, .undef], H) ∧ dedV l n = l) ∨
      (∃ (c : List Int) (s0 s2 s3 s4 : D), Jez (Jdu Tryz.prog (T12f Tryz.prog) Jas 1001 Tryz.f117 0) f [.hs id n, .v (.slice none 0 0), iD k, .undef, .undef] H =
      some (.ret, [s0, .hs id (dedV l n).length, s2, s3, s4], H.set id (.cells t 1 (Jbg   c))) ∧ c.take (dedV l n).length = dedV l n) := by
    intro m
    induction m with
    | zero =>
      intro k f hk h1 hf hd
      obtain ⟨f, rfl⟩ : ∃ x, f = x + 1 := ⟨f - 1, by omega⟩
      obtain rfl : k = n := by omega
      refine .inl ⟨[], Jdn ?_, by rw [hd, <- hl, List.take_length]⟩
      rw [Jc5]
      simp
    | succ m ih =>
      intro k f hk h1 hf hd
      obtain ⟨f, rfl⟩ : ∃ x, f = x + 1 := ⟨f - 1, by omega⟩
      have i1 := Jjy id n k (by omega)
      have i2 := Jjy id n (k - 1) (by omega)
      have l1 := Jg9 hid k (by omega)
      have l2 := Jg9 hid (k - 1) (by omega)
      have e1 := Jnb (k : Int) 1 (by omega) (by omega)
      have e2 := Jb0 (k : Int) 1 (by omega) (by omega)
      have c1 : ((k : Nat) : Int) - 1 = ((k - 1 : Nat) : Int) := by omega
      have c2 : ((k : Nat) : Int) + 1 = ((k + 1 : Nat) : Int) := by omega
      rw [c1] at e1
      rw [c2] at e2
      have hlt : (k : Int) < (n : Int) := by omega
      by_cases hx : l.getD k 0 = l.getD (k - 1) 0
      · right
        obtain ⟨k', c, q1, q2, q3, q4, q5⟩ := Qak id n k t l H (.v (.slice none 0 0)) ⟨_, hid⟩ hl hn (by omega) (by omega) hd hx
        rw [set_self hid] at q1
        have q1L : Jds Tryz.prog (T12f Tryz.prog) Jas 1001 Tryz.f117 1 [.hs id n, .v (.slice none 0 0), iD k, .ht id k (n - k), iD 1] H = _ := q1
        have hkl : (dedV l n).length = k' := by rw [<- q3, List.length_take]; omega
        have hg : (H.set id (.cells t 1 (Jbg c)))[id]? = some (.cells t 1 (Jbg c)) := Jk5 ⟨_, hid⟩
        obtain ⟨z, hz⟩ := Qao hg k' (n - k') (by omega)
        rw [List.set_set] at hz
        have f1 := Jx0 id n k (by omega) (by omega)
        have f2 := Jx0 id n k' (by omega) (by omega)
        have f3 := Qqi id n k' (by omega)
        refine ⟨c.take k' ++ z, .hs id n, iD k', .ht id k (n - k), iD ((n - k : Nat) : Int), ?_, ?_⟩
        · refine Jpf ?_
          rw [Jc5]
          simp only [Jjv, Jaj, Jbd, hlt, decide_true, Jai, if_true, i1, l1, Jfq, e1, i2, l2, Jbk, hx, beq_self_eq_true, f1, q1L, Jcd, Jcz, List.getD_cons_zero, List.getD_cons_succ, f2, hz, Jan, f3, hkl]
        · rw [hkl, List.take_append_of_le_length (by simp; omega), List.take_take, Nat.min_self, q3]
      · have h2 : dedV l (k + 1) = l.take (k + 1) := by
          rw [Ji5 l k (by omega), hd, List.take_succ_eq_append_getElem (by omega)]
          have hla := Jpl l (k - 1) (by omega)
          rw [show k - 1 + 1 = k by omega, hd] at hla
          unfold dedS
          rw [if_neg (by rw [hla]; intro e; exact hx (Option.some.inj e).symm), getD_in _ _ _ (by omega : k < l.length)]
        have hgo : Jdu Tryz.prog (T12f Tryz.prog) Jas 1001 Tryz.f117 0 [.hs id n, .v (.slice none 0 0), iD k, .undef, .undef] H = some (.normal, [.hs id n, .v (.slice none 0 0), iD ((k + 1 : Nat) : Int), .undef, .undef], H) := by
          rw [Jc5]
          have hb : (l.getD k 0 == l.getD (k - 1) 0) = false := by rw [beq_eq_false_iff_ne]; exact hx
          simp only [Jjv, Jaj, Jbd, hlt, decide_true, Jai, if_true, i1, l1, Jfq, e1, i2, l2, Jbk, hb, Bool.false_eq_true, if_false, Jcs, e2]
        rw [Jei hgo]
        exact ih (k + 1) f (by omega) (by omega) (by omega) h2
  have hlt : ¬ (n : Int) < 2 := by omega
  rcases key (n - 1) 1 1001 (by omega) (by omega) (by omega) (by
    rw [Ji5       l 0 (by omega), Jpk      , List.take_succ_eq_append_getElem (by omega), getD_in _ _ _ (by omega : 0 < l.length)]; simp [dedS]) with ⟨c, q1, q2⟩ | ⟨c, s0, s2, s3, s4, q1, q2⟩
  · refine ⟨l, ?_, by rw [q2, List.take_length]⟩
    have q1' : Jds Tryz.prog (T12f Tryz.prog) Jas 1001 Tryz.f117 0 [.hs id n, .v (.slice none 0 0), iD 1, .undef, .undef] H = _ := q1
    simp only [Jjv, Jaj, Jbd, hlt, decide_false, Jai, Bool.false_eq_true, if_false, q1', Jcd, Jcz, List.getD_cons_zero, q2, hl, set_self hid]
  · refine ⟨c, ?_, q2⟩
    have q1' : Jds Tryz.prog (T12f Tryz.prog) Jas 1001 Tryz.f117 0 [.hs id n, .v (.slice none 0 0), iD 1, .undef, .undef] H = _ := q1
    simp only [Jjv, Jaj, Jbd, hlt, decide_false, Jai, Bool.false_eq_true, if_false, q1', Jig, List.getD_cons_zero, List.getD_cons_succ]
def Jq2 (P : Program) : List D -> Heap -> Option (D × Heap) := Jgr P (T12f P) Jeu 0 119
theorem Qh8 (ds : List D) (H : Heap) : Jq2 Tryz.prog ds H = Jap Tryz.prog (T12f Tryz.prog) Jeu 0 Tryz.f119 ds H := Jct Tryz.func119 ds H
theorem Qtr : HCallOk Tryz.prog 119 (Jq2 Tryz.prog) := Jdf Jt9 mixed Tryz.func119 (by kernel_rfl) (by decide)
theorem Jw2 (x but : Int) (b : Nat) (t : TypeId) (H : Heap) (hb : H[b]? = some (.cells t 1 [iD but])) : Jq2 Tryz.prog [iD x, .hp b 0] H = some (bD (decide (x = but)), H) := by
  rw [Qh8, Jlt]
  have l1 := Jd7 H b _ _ _ _ hb
  simp only [l1, Jaj, Jbk]
  rfl
def Qr6 (P : Program) : List Entry := (89, true, Jae Jq4) :: (150, false, Ql2 P) :: (117, false, Jmx P) :: (119, false, Jq2 P) :: (42, true, Jc8 Jn9) :: Qop P
theorem Qfb : ∀ p ∈ Qr6 Tryz.prog, Jbu Tryz.prog p := Jac (Jal Qtx) <| Jac (Jcg Qtv) <| Jac (Jcg Qmx) <| Jac (Jcg Qtr) <| Jac (Jgk Qqp) <| Jxl
def T13a (P : Program) : Tab := ⟨Qr6 P, noYl⟩
theorem Qdp : TabOk Tryz.prog (T13a Tryz.prog) := Jb4 Qfb
end Go.Proofs.YtinnbafplhcnpaaGreat
end
section
namespace Go.Proofs.YtinnbafplhcnpaaGreat
open Go.RowKit
set_option linter.unusedVariables false
set_option maxRecDepth 100000
def Jll : List Nat := []
theorem Jrt (n : Nat) (x0 x1 : D) (h : Heap) : Jap Tryz.prog (T13a Tryz.prog) Jll n Tryz.f146 [x0, x1] h =
(thnH (Jae Jq4 [x0] h) fun y0 h1 =>
Jah y0
(thnH (Jae Jq4 [x1] h1) fun y2 h3 =>
thn (notD y2) fun y4 =>
Jah y4
(some ((bD true), h3))
(thn (binK .int .lss x0 x1) fun y5 =>
some (y5, h3)))
(thn (binK .int .lss x0 x1) fun y6 =>
some (y6, h1))) := by kernel_rfl
def Jbp : List Nat := [0, 1, 4, 7, 8]
theorem Jhh (n : Nat) (x0 x1 : D) (h : Heap) : Jap Tryz.prog (T13a Tryz.prog) Jbp n Tryz.f133 [x0, x1] h =
(thn (lenH .sl x0) fun y0 =>
Jdl (Jds Tryz.prog (T13a Tryz.prog) Jbp n Tryz.f133 0 [x0, x1, (iD 0), y0, (iD 0)] h) (fun j1 s2 h3 =>
Jew j1 0
(some ((iD (-1)), h3))
(none)) (fun s2 h3 =>
some ((s2.getD 2 .undef), h3))) := by kernel_rfl
theorem Jc0 (n : Nat) (s0 s1 s2 s3 s4 : D) (h : Heap) : Jdu Tryz.prog (T13a Tryz.prog) Jbp n Tryz.f133 0 [s0, s1, s2, s3, s4] h =
(thn (binK .int .lss s4 s3) fun y0 =>
Jah y0
(thn (idxH 1 s0 s4) fun y1 =>
thn (Jad none h y1) fun y2 =>
thnH (Jdq (T13a Tryz.prog) s1 [y2] h) fun y3 h4 =>
Jah y3
(some (.ret, [s0, s1, s4, s3, s4], h4))
(thn (binK .int .add s4 (iD 1)) fun y5 =>
some (.normal, [s0, s1, s2, s3, y5], h4)))
(some ((.exit 0), [s0, s1, s2, s3, s4], h))) := by kernel_rfl
end Go.Proofs.YtinnbafplhcnpaaGreat
end
section
namespace Go.Proofs.YtinnbafplhcnpaaGreat
open Go.RowKit
set_option linter.unusedVariables false
set_option linter.unusedSimpArgs false
set_option maxRecDepth 100000
def Jmy : List D -> Option D := F2 intT intT fun a b => some (bD (decide (a < b)))
theorem Qmf : CallOk Tryz.prog 146 Jmy := Jlf (kp := Jll) Qdp mixed Tryz.func146 (by kernel_rfl) (by decide) fun a b d h => by
  cases h
  refine ⟨0, _, ?_, Imp.refl _⟩
  show outD (Jap _ _ _ _ _ [iD a, iD b] []) = _
  rw [Jrt]
  simp [Qhm]
theorem Js9 (a b : Int) (H : Heap) : Jae Jmy [iD a, iD b] H = some (bD (decide (a < b)), H) := by
  rw [Jar _ _ _ rfl]
  have : Jmy [iD a, iD b] = _ := Jht (A := intT) (B := intT) _ a b
  rw [this]; rfl
def G_len (P : Program) : List D -> Heap -> Option (D × Heap) := Jgr P (T13a P) [] 0 132
theorem C_len : HCallOk Tryz.prog 132 (G_len Tryz.prog) := Jdf Qdp mixed Tryz.func132 (by kernel_rfl) (by decide)
def Jmb (b : Nat) : D := .clo (.func 119) [] [.hp b 0]
theorem Qjk (x : Int) (b : Nat) (H : Heap) : Jdq (T13a Tryz.prog) (Jmb b) [iD x] H = Jq2 Tryz.prog [iD x, .hp b 0] H := rfl
def Jne (P : Program) : List D -> Heap -> Option (D × Heap) := Jgr P (T13a P) Jbp 1001 133
theorem Qds (ds : List D) (H : Heap) : Jne Tryz.prog ds H = Jap Tryz.prog (T13a Tryz.prog) Jbp 1001 Tryz.f133 ds H := Jct Tryz.func133 ds H
theorem Qpw : HCallOk Tryz.prog 133 (Jne Tryz.prog) := Jdf Qdp mixed Tryz.func133 (by kernel_rfl) (by decide)
theorem Qkh       (id n b : Nat) (t tb : TypeId) (c : List Int) (but : Int) (H : Heap) (hid : H[id]? = some (.cells t 1 (Jbg   c))) (hb : H[b]? = some (.cells tb 1 [iD but])) (hn : n ≤ c.length) (hn1 : n ≤ 1000) :
    (Jne Tryz.prog [.hs id n, Jmb b] H = some (iD (-1), H) /\ ∀ p, p < n -> c.getD p 0 ≠ but) \/
    ∃ i, i < n /\ Jne Tryz.prog [.hs id n, Jmb b] H = some (iD i, H) /\ c.getD i 0 = but /\ ∀ p, p < i -> c.getD p 0 ≠ but := by
  rw [Qds, Jhh]
  have hs := Jfv (P := Tryz.prog) (T := T13a Tryz.prog) (kp := Jbp) (fn := Tryz.f133) (li := 0) (fun i => [.hs id n, Jmb b, iD 0, iD n, iD i]) H n (fun i => !decide (c.getD i 0 = but))
    (fun i => (.ret, [.hs id n, Jmb b, iD i, iD n, iD i], H)) (.exit 0, [.hs id n, Jmb b, iD 0, iD n, iD n], H)
    (fun i => by intro e; cases e) (by intro e; cases e) 0 1001 (Nat.zero_le _) (by omega)
    (fun i _ hi hp => by
      have e1 := Jb0 (i : Int) 1 (by omega) (by omega)
      have h4 : (i : Int) < n := by omega
      have i1 := Jjy id n i hi
      have l1 := Jg9 hid i (by omega)
      have o1 := Jw2 (c.getD i 0) but b tb H hb
      rw [Bool.not_eq_true', decide_eq_false_iff_not] at hp
      have hd : decide (c.getD i 0 = but) = false := by rw [decide_eq_false_iff_not]; exact hp
      rw [Jc0]
      simp only [Jbd, h4, decide_true, Jaj, Jai, if_true, i1, l1, Qjk, o1, Jan, hd, Bool.false_eq_true, if_false, Jcs, e1]
      rfl)
    (fun i _ hi hp => by
      have h4 : (i : Int) < n := by omega
      have i1 := Jjy id n i hi
      have l1 := Jg9 hid i (by omega)
      have o1 := Jw2 (c.getD i 0) but b tb H hb
      rw [Bool.not_eq_false', decide_eq_true_eq] at hp
      have hd : decide (c.getD i 0 = but) = true := by rw [decide_eq_true_eq]; exact hp
      rw [Jc0]
      simp only [Jbd     , h4, decide_true, Jaj     , Jai       , if_true, i1, l1, Qjk    , o1, Jan      , hd])
    (by rw [Jc0]; simp)
  rcases hs with ⟨q1, q2⟩ | ⟨i, q0, q1, q2, q3, q4⟩
  · refine .inl ⟨?_, fun p hp => ?_⟩
    · simp only [Jld] at q2
      simp only [Jjv, Jaj, q2, Jcd, Jcz]
    · have := q1 p (Nat.zero_le _) hp
      simpa using this
  · refine .inr ⟨i, q1, ?_, ?_, fun p hp => ?_⟩
    · simp only [Jld] at q4
      simp only [Jjv, Jaj, q4, Jig, List.getD_cons_zero, List.getD_cons_succ]
    · simpa using q2
    · have := q3 p (Nat.zero_le _) hp
      simpa using this
def Qr5 (P : Program) : List Entry := (146, true, Jae Jmy) :: (132, false, G_len P) :: (133, false, Jne P) :: Qr6 P
theorem Qfa : ∀ p ∈ Qr5 Tryz.prog, Jbu Tryz.prog p := Jac (Jal Qmf) <| Jac (Jcg C_len) <| Jac (Jcg Qpw) <| Qfb
def T13b (P : Program) : Tab := ⟨Qr5 P, noYl⟩
theorem Qlt : TabOk Tryz.prog (T13b Tryz.prog) := Jb4 Qfa
end Go.Proofs.YtinnbafplhcnpaaGreat
end
