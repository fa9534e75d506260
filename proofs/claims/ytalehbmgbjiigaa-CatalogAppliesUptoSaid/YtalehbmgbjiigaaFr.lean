/-
  Parts joined into one text: T13g, HDenLR, Sh13h, T13h, Sh09a, C09a, T09a, Sh09b, T09b, Sh09c, T09c, Sh09d. No condition.
-/
import Derived.Test.YtalehbmgbjiigaaFi
import Derived.Test.YtalehbmgbjiigaaFk
import Derived.Test.YtalehbmgbjiigaaFm
import Derived.Test.YtalehbmgbjiigaaFn
import Derived.Test.YtalehbmgbjiigaaFq

section
namespace Go.Proofs.Ytalehbmgbjiigaa
open Go.RowKit
set_option linter.unusedVariables false
set_option linter.unusedSimpArgs false
set_option maxRecDepth 100000

abbrev Yl13 := Nat → List D → Heap → Option (D × Heap)
def G_lists11 (P : Program) (Y : Yl13) : List D → Heap → Option (D × Heap) := textG P (T13y P Y) kp_catalog_lists_1_1 0 109
theorem G_lists11_eq (Y : Yl13) (ds : List D) (H : Heap) : G_lists11 Try.prog Y ds H = textK Try.prog (T13y Try.prog Y) kp_catalog_lists_1_1 0 Try.f109 ds H := textG_eq Try.func109 ds H
theorem C_lists11 (Y : Yl13) (hY : YOk Try.prog Y) : HCallOk Try.prog 109 (G_lists11 Try.prog Y) := hcall_G (T13y_ok Y hY) mixed Try.func109 (by kernel_rfl) (by decide)
def T13z (P : Program) (Y : Yl13) : Tab := ⟨(109, false, G_lists11 P Y) :: fs13f P, Y⟩
theorem T13z_ok (Y : Yl13) (hY : YOk Try.prog Y) : TabOk Try.prog (T13z Try.prog Y) := ⟨entries_cons (entry_obj (C_lists11 Y hY)) fs13f_ok, hY⟩
/-- Something is told. -/
def tellT (P : Program) (Y : Yl13) (y9 y0 op n : D) (h : Heap) : Option (D × Heap) := callClo (T13z P Y) (.clo (.func 109) [] [y9, y0]) [op, n] h
/-- What is told last. -/
def lists3 (P : Program) (Y : Yl13) (x1 y0 y5 y9 : D) (h : Heap) : Option (D × Heap) :=
  thn (fieldAtH 0 y5) fun a =>
  thn (loadH none h a) fun t =>
  thn (binK .int .eql t (iD 23)) fun c =>
  condK c
  (thnH (rowH 3 1 1 [(iD 0)] [(0, (iD 0))] h) fun r h1 =>
  thnH (tellT P Y y9 y0 (iD 6) r h1) fun _ h2 =>
  some (.tup [], h2))
  (thn (binK .int .eql t (iD 24)) fun c2 =>
  condK c2
  (thnH (rowH 3 1 1 [(iD 0)] [(0, (iD 0))] h) fun r h1 =>
  thnH (tellT P Y y9 y0 (iD 6) r h1) fun _ h2 =>
  some (.tup [], h2))
  (thn (binK .int .eql t (iD 25)) fun c3 =>
  condK c3
  (thn (loadH none h x1) fun y =>
  thn (idxH 2 y (iD 1)) fun e =>
  thn (loadH (some 2) h e) fun k =>
  thnH (G_answers P [k] h) fun n h1 =>
  thnH (tellT P Y y9 y0 (iD 7) n h1) fun _ h2 =>
  some (.tup [], h2))
  (some (.tup [], h))))
def tell5 (P : Program) (Y : Yl13) (x1 y0 y5 y9 : D) (h : Heap) : Option (D × Heap) :=
  thnH (rowH 3 1 1 [(iD 0)] [(0, (iD 0))] h) fun r h1 =>
  thnH (tellT P Y y9 y0 (iD 5) r h1) fun _ h2 =>
  lists3 P Y x1 y0 y5 y9 h2
def lists2 (P : Program) (Y : Yl13) (x1 y0 y5 y9 : D) (h : Heap) : Option (D × Heap) :=
  thn (fieldAtH 0 y5) fun a =>
  thn (loadH none h a) fun t =>
  thn (binK .int .eql t (iD 21)) fun c =>
  condK c
  (tell5 P Y x1 y0 y5 y9 h)
  (thn (binK .int .eql t (iD 22)) fun c =>
  condK c
  (tell5 P Y x1 y0 y5 y9 h)
  (thn (binK .int .eql t (iD 23)) fun c =>
  condK c
  (tell5 P Y x1 y0 y5 y9 h)
  (thn (binK .int .eql t (iD 24)) fun c =>
  condK c
  (tell5 P Y x1 y0 y5 y9 h)
  (thn (binK .int .eql t (iD 25)) fun c =>
  condK c
  (tell5 P Y x1 y0 y5 y9 h)
  (lists3 P Y x1 y0 y5 y9 h)))))
/-- An operator of a row is told, and what comes behind. -/
def tellRow (P : Program) (Y : Yl13) (lo hi op : Int) (x1 y0 y5 y9 t : D) (h : Heap) : Option (D × Heap) :=
  thnH (liftF F_row [(iD lo), (iD hi), t] h) fun r h1 =>
  thnH (tellT P Y y9 y0 (iD op) r h1) fun _ h2 =>
  lists2 P Y x1 y0 y5 y9 h2
def listsE (P : Program) (Y : Yl13) (x1 y0 y5 y9 t : D) (h : Heap) : Option (D × Heap) :=
  thn (binK .int .eql t (iD 2)) fun c =>
  condK c
  (thn (fieldAtH 1 y5) fun a =>
  thn (loadH none h a) fun n =>
  thn (binK .int .sub (iD 1) n) fun m =>
  thnH (rowH 3 1 1 [(iD 0)] [(0, m)] h) fun r h1 =>
  thnH (tellT P Y y9 y0 (iD 4) r h1) fun _ h2 =>
  lists2 P Y x1 y0 y5 y9 h2)
  (lists2 P Y x1 y0 y5 y9 h)
def listsD (P : Program) (Y : Yl13) (x1 y0 y5 y9 t : D) (h : Heap) : Option (D × Heap) :=
  thn (binK .int .eql t (iD 1)) fun c =>
  condK c
  (thn (fieldAtH 1 y5) fun a =>
  thn (loadH none h a) fun n =>
  thn (fieldAtH 1 y5) fun a2 =>
  thn (loadH none h a2) fun n2 =>
  thn (binK .int .add n2 (iD 1)) fun u =>
  thn (fieldAtH 1 y5) fun a3 =>
  thn (loadH none h a3) fun n3 =>
  thn (binK .int .sub n3 (iD 1)) fun v =>
  thnH (rowH 3 1 5 [(iD 0)] [(0, (iD 0)), (1, (iD 1)), (2, (iD (-1))), (3, u), (4, v)] h) fun r h1 =>
  thnH ((G_once P) [n, r] h1) fun q h2 =>
  thnH (tellT P Y y9 y0 (iD 4) q h2) fun _ h3 =>
  lists2 P Y x1 y0 y5 y9 h3)
  (listsE P Y x1 y0 y5 y9 t h)
def listsC (P : Program) (Y : Yl13) (x1 y0 y5 y9 t : D) (h : Heap) : Option (D × Heap) :=
  thn (binK .int .eql t (iD 18)) fun c =>
  condK c
  (tellRow P Y 18 19 3 x1 y0 y5 y9 t h)
  (thn (binK .int .eql t (iD 19)) fun c =>
  condK c
  (tellRow P Y 18 19 3 x1 y0 y5 y9 t h)
  (listsD P Y x1 y0 y5 y9 t h))
def listsB (P : Program) (Y : Yl13) (x1 y0 y5 y9 t : D) (h : Heap) : Option (D × Heap) :=
  thn (binK .int .geq t (iD 12)) fun c =>
  condK c
  (thn (binK .int .leq t (iD 17)) fun c =>
  condK c
  (tellRow P Y 12 17 2 x1 y0 y5 y9 t h)
  (listsC P Y x1 y0 y5 y9 t h))
  (listsC P Y x1 y0 y5 y9 t h)
def listsA (P : Program) (Y : Yl13) (x1 y0 y5 y9 t : D) (h : Heap) : Option (D × Heap) :=
  thn (binK .int .geq t (iD 7)) fun c =>
  condK c
  (thn (binK .int .leq t (iD 11)) fun c =>
  condK c
  (tellRow P Y 7 11 1 x1 y0 y5 y9 t h)
  (listsB P Y x1 y0 y5 y9 t h))
  (listsB P Y x1 y0 y5 y9 t h)
variable (Y : Yl13)
theorem sh_catalog_lists_1 (n : Nat) (x0 x1 : D) (h : Heap) : textK Try.prog (T13z Try.prog Y) [] n Try.f108 [x0, x1] h =
(thnH (boxH 133 x0 h) fun y0 h1 =>
thn (loadH none h1 x1) fun y2 =>
thn (idxH 2 y2 (iD 0)) fun y3 =>
thn (loadH (some 2) h1 y3) fun y4 =>
thnH (allocH 46 [(iD 0), (iD 0)] h1) fun y5 h6 =>
thnH (setH 2 y5 y4 h6) fun y7 h8 =>
thnH (allocH 4 [(bD false)] h8) fun y9 h10 =>
thnH (setH 1 y9 (bD true) h10) fun y11 h12 =>
thn (fieldAtH 0 y5) fun y13 =>
thn (loadH none h12 y13) fun y14 =>
listsA Try.prog Y x1 y0 y5 y9 y14 h12) := by kernel_rfl
def G_lists1 (P : Program) (Y : Yl13) : List D → Heap → Option (D × Heap) := textG P (T13z P Y) [] 0 108
theorem G_lists1_eq (ds : List D) (H : Heap) : G_lists1 Try.prog Y ds H = textK Try.prog (T13z Try.prog Y) [] 0 Try.f108 ds H := textG_eq Try.func108 ds H
theorem C_lists1 (hY : YOk Try.prog Y) : HCallOk Try.prog 108 (G_lists1 Try.prog Y) := hcall_G (T13z_ok Y hY) mixed Try.func108 (by kernel_rfl) (by decide)
def T13h (P : Program) (Y : Yl13) : Tab := ⟨(108, false, G_lists1 P Y) :: fs13f P, Y⟩
theorem T13h_ok (Y : Yl13) (hY : YOk Try.prog Y) : TabOk Try.prog (T13h Try.prog Y) := ⟨entries_cons (entry_obj (C_lists1 Y hY)) fs13f_ok, hY⟩
end Go.Proofs.Ytalehbmgbjiigaa
end

section
namespace Go.Proofs.Ytalehbmgbjiigaa
open Go.RowKit
set_option linter.unusedVariables false

/-- The i-th loop within the rounds of the r-th loop over a function, over what is kept. -/
def loopR (P : Program) (T : Tab) (kp : List Nat) (n : Nat) (fn : Func) (r i : Nat) (s : List D) (H : Heap) : Option (Lv × List D × Heap) :=
  iterS (stepS P T kp n fn.ntmps ((loopsOf (rangeB fn r)).getD i .skip)) n s H
def stepR (P : Program) (T : Tab) (kp : List Nat) (n : Nat) (fn : Func) (r i : Nat) (s : List D) (H : Heap) : Option (Lv × List D × Heap) :=
  stepS P T kp n fn.ntmps ((loopsOf (rangeB fn r)).getD i .skip) s H
/-- k rounds that keep an invariant of the slots and the objects, and a last one. -/
theorem iterS_inv {step : List D → Heap → Option (Lv × List D × Heap)} (Inv : Nat → List D → Heap → Prop) (Q : Lv × List D × Heap → Prop) (k n : Nat)
    (hstep : ∀ j s H, j < k → Inv j s H → ∃ s' H', step s H = some (.normal, s', H') ∧ Inv (j + 1) s' H') (hend : ∀ s H, Inv k s H → ∃ r, step s H = some r ∧ r.1 ≠ .normal ∧ Q r) (hn : k < n) {s : List D} {H : Heap} (h : Inv 0 s H) :
    ∃ r, iterS step n s H = some r ∧ Q r := by
  have key : ∀ (m i : Nat) (s : List D) (H : Heap), i + m = k → Inv i s H → ∀ q, m < q → ∃ r, iterS step q s H = some r ∧ Q r := by
    intro m
    induction m with
    | zero =>
      intro i s H hi hI q hq
      obtain ⟨q, rfl⟩ : ∃ x, q = x + 1 := ⟨q - 1, by omega⟩
      obtain rfl : i = k := by omega
      obtain ⟨⟨lv, s', H'⟩, h1, h2, h3⟩ := hend s H hI
      refine ⟨_, ?_, h3⟩
      simp only [iterS, h1]
      cases lv with
      | normal => exact absurd rfl h2
      | _ => rfl
    | succ m ih =>
      intro i s H hi hI q hq
      obtain ⟨q, rfl⟩ : ∃ x, q = x + 1 := ⟨q - 1, by omega⟩
      obtain ⟨s', H', h1, h2⟩ := hstep i s H (by omega) hI
      rw [iterS_go h1]
      exact ih (i + 1) s' H' (by omega) h2 q (by omega)
  exact key k 0 s H (by omega) h n hn
end Go.Proofs.Ytalehbmgbjiigaa
end

section
namespace Go.Proofs.Ytalehbmgbjiigaa
open Go.RowKit
set_option linter.unusedVariables false
set_option maxRecDepth 100000
variable (Y : Nat → List D → Heap → Option (D × Heap))

def kp_catalog_Choices : List Nat := [5, 7, 21, 22, 23]
theorem sh_catalog_Choices (n : Nat) (x0 x1 : D) (h : Heap) : textK Try.prog (T13h Try.prog Y) kp_catalog_Choices n Try.f32 [x0, x1] h =
(thnH (allocH 50 [(.v (.slice none 0 0))] h) fun y0 h1 =>
thnH (liftN F_Part [x0, x1] h1) fun y2 h3 =>
thn (lenH .sl y2) fun y4 =>
thn (binK .int .gtr y4 (iD 0)) fun y5 =>
condK y5
(thnH ((G_lists Try.prog) [y2] h3) fun y6 h7 =>
leaveR3 (rangeS (T13h Try.prog Y) y6 [19, 20] (rangeA Try.f32 0) (rangeB Try.f32 0) 35 kp_catalog_Choices [y0, .undef, .undef, .undef, .undef] h7) (fun h9 =>
thn (loadH none h9 y0) fun y10 =>
some (y10, h9)) (fun l8 h9 =>
condN l8 0
(thn (loadH none h9 y0) fun y11 =>
some (y11, h9))
(none)) (fun h9 =>
some ((.v (.slice none 0 0)), h9)))
(thn (loadH none h3 y0) fun y12 =>
some (y12, h3))) := by kernel_rfl

theorem rd_catalog_Choices_0 (n id : Nat) (s0 s1 s2 s3 s4 : D) (a0 a1 : D) (h : Heap) : roundB Try.prog (T13h Try.prog Y) n id [19, 20] (rangeA Try.f32 0) (rangeB Try.f32 0) 35 kp_catalog_Choices [s0, s1, s2, s3, s4] [a0, a1] h =
(busyK id h fun h0 =>
thn (lenH .sl a1) fun y1 =>
leaveK (loopR Try.prog (T13h Try.prog Y) kp_catalog_Choices n Try.f32 0 0 [s0, a0, a1, y1, (iD 0)] h0) (fun j2 s3 h4 =>
condN j2 2
(endR id .normal h4)
(condN j2 1
(endR id .normal h4)
(endR id (.exit j2) h4))) (fun s3 h4 =>
endR id .ret h4)) := by kernel_rfl

theorem sr_catalog_Choices_0_0 (n : Nat) (s0 s1 s2 s3 s4 : D) (h : Heap) : stepR Try.prog (T13h Try.prog Y) kp_catalog_Choices n Try.f32 0 0 [s0, s1, s2, s3, s4] h =
(thn (binK .int .lss s4 s3) fun y0 =>
condK y0
(thn (idxH 1 s2 s4) fun y1 =>
thn (loadH none h y1) fun y2 =>
thn (loadH none h s0) fun y3 =>
thn (buildR [(0, 1), (1, 1), (2, 1)] [(.v (.slice none 0 0)), (iD 0), (iD 0)] [(1, s1), (2, y2)]) fun y4 =>
thnH (rowH 27 3 1 [(.v (.slice none 0 0)), (iD 0), (iD 0)] [(0, y4)] h) fun y5 h6 =>
thnH (appendH 27 3 y3 y5 h6) fun y7 h8 =>
thnH (setH 1 s0 y7 h8) fun y9 h10 =>
thn (binK .int .add s4 (iD 1)) fun y11 =>
some (.normal, [s0, s1, s2, s3, y11], h10))
(some ((.exit 2), [s0, s1, s2, s3, s4], h))) := by kernel_rfl

end Go.Proofs.Ytalehbmgbjiigaa
end

section
namespace Go.Proofs.Ytalehbmgbjiigaa
open Go.RowKit
set_option linter.unusedVariables false
set_option linter.unusedSimpArgs false
set_option maxRecDepth 100000

def Y13 (P : Program) : Yl13 := Yn P (T13h P) 8 1
theorem Y13_ok : YOk Try.prog (Y13 Try.prog) := Yn_ok T13h_ok mixed 8 1
def loopC (fn : Func) (st : LS) : HO := .loop st [19, 20] (rangeA fn 0) (rangeB fn 0) 35 kp_catalog_Choices [.hp 0 0, .undef, .undef, .undef, .undef]
def outC (out : List (Int × Int)) : List D := (out.map fun e => [D.v (.slice none 0 0), iD e.1, iD e.2]).flatten
theorem outC_len (out : List (Int × Int)) : (outC out).length = out.length * 3 := by
  induction out with
  | nil => rfl
  | cons x r ih => simp only [outC, List.map_cons, List.flatten_cons, List.length_append, List.length_cons] at ih ⊢; simp at ih ⊢; omega
theorem outC_app (a b : List (Int × Int)) : outC (a ++ b) = outC a ++ outC b := by simp [outC]
structure ChInv (l : List Nd) (x : Nd) (H : Heap) (out : List (Int × Int)) : Prop where
  len : 6 ≤ H.length
  box : ∃ d, H[0]? = some (.cells 50 1 [d]) ∧ Buf 27 3 H 6 d out.length (outC out)
  row : H[1]? = some (.cells 23 1 [nodesD l])
  loop : H[2]? = some (loopC Try.f32 .ready)
  yld : H[3]? = some (.cells 133 1 [.yld 2])
  node : H[4]? = some (.cells 46 2 [iD x.1, iD x.2])
  more : H[5]? = some (.cells 4 1 [bD true])
theorem build_del (a b : Int) : buildR [(0, 1), (1, 1), (2, 1)] [.v (.slice none 0 0), iD 0, iD 0] [(1, iD a), (2, iD b)] = some (.agg [.v (.slice none 0 0), iD a, iD b]) := rfl
theorem row_del (t : TypeId) (a b : Int) (H : Heap) : rowH t 3 1 [.v (.slice none 0 0), iD 0, iD 0] [(0, .agg [.v (.slice none 0 0), iD a, iD b])] H = some (.hs H.length 1, H ++ [.cells t 3 [.v (.slice none 0 0), iD a, iD b]]) := rfl

/-- A round: numbers of an operator are gathered. -/
theorem ch_round (l : List Nd) (x : Nd) (H : Heap) (out : List (Int × Int)) (op : Int) (dn : D) (ns : List Int) (B : Nat) (h : ChInv l x H out) (hn : Numb B H dn ns) (hns : ns.length ≤ 6) (hout : out.length ≤ 100)
    (hsep : ∀ d k q, H[0]? = some (.cells 50 1 [d]) → d = .hs k q → k < B) (hB : 6 ≤ B) :
    ∃ H', Y13 Try.prog 2 [iD op, dn] H = some (bD true, H') ∧ ChInv l x H' (out ++ ns.map fun n => (op, n)) := by
  obtain ⟨h0, ⟨d, h1, h2⟩, h3, h4, h5, h6, h7⟩ := h
  have hY : Y13 Try.prog 2 [iD op, dn] H = roundK Try.prog (T13h Try.prog noYl) 8 2 [iD op, dn] H := rfl
  have hk : roundK Try.prog (T13h Try.prog noYl) 8 2 [iD op, dn] H = roundB Try.prog (T13h Try.prog noYl) 8 2 [19, 20] (rangeA Try.f32 0) (rangeB Try.f32 0) 35 kp_catalog_Choices [.hp 0 0, .undef, .undef, .undef, .undef] [iD op, dn] H := by
    unfold roundK
    rw [h4]
    simp only [loopC]
    rw [if_pos]
    refine ⟨rfl, ?_, ?_, ?_, ?_⟩ <;> kernel_rfl
  rw [hY, hk, rd_catalog_Choices_0]
  have hb : busyK (α := D × Heap) 2 H = fun k => k (H.set 2 (loopC Try.f32 .busy)) := by
    funext k
    unfold busyK
    rw [h4]
    rfl
  rw [hb]
  have g : ∀ k, k ≠ 2 → (H.set 2 (loopC Try.f32 .busy))[k]? = H[k]? := fun k hk => List.getElem?_set_ne (Ne.symm hk)
  have g2 : (H.set 2 (loopC Try.f32 .busy))[2]? = some (loopC Try.f32 .busy) := List.getElem?_set_self (by omega)
  have gl : (H.set 2 (loopC Try.f32 .busy)).length = H.length := by simp
  have gb : Buf 27 3 (H.set 2 (loopC Try.f32 .busy)) 6 d out.length (outC out) := h2.set 2 _ (by omega)
  generalize H.set 2 (loopC Try.f32 .busy) = H0 at *
  have hlen := hn.len
  have key := iterS_inv (step := stepR Try.prog (T13h Try.prog noYl) kp_catalog_Choices 8 Try.f32 0 0)
    (fun i s Hi => s = [.hp 0 0, iD op, dn, iD ns.length, iD i] ∧ 6 ≤ Hi.length ∧ (∃ d, Hi[0]? = some (.cells 50 1 [d]) ∧ Buf 27 3 Hi 6 d (out.length + i) (outC (out ++ (ns.take i).map fun n => (op, n))) ∧ ∀ k m q, dn = .hs k m → d ≠ .hs k q) ∧ (∀ k, 1 ≤ k → k < 6 → Hi[k]? = H0[k]?) ∧ Numb B Hi dn ns)
    (fun r => ∃ s Hi, r = (.exit 2, s, Hi) ∧ 6 ≤ Hi.length ∧ (∃ d, Hi[0]? = some (.cells 50 1 [d]) ∧ Buf 27 3 Hi 6 d (out.length + ns.length) (outC (out ++ ns.map fun n => (op, n)))) ∧ (∀ k, 1 ≤ k → k < 6 → Hi[k]? = H0[k]?)) ns.length 8
    (fun i s Hi hi hI => by
      obtain ⟨rfl, k1, ⟨d, k2, k3, k4⟩, k5, k6⟩ := hI
      have hlt : (i : Int) < (ns.length : Int) := by omega
      obtain ⟨p, p1, p2⟩ := k6.get i hi
      have l0 := load_cell0 Hi 0 _ _ _ _ k2
      have e1 := intD_add (i : Int) 1 (by omega) (by omega)
      have c1 : ((i : Nat) : Int) + 1 = ((i + 1 : Nat) : Int) := by omega
      rw [c1] at e1
      have hol := outC_len (out ++ (ns.take i).map fun n => (op, n))
      obtain ⟨d', H1, a1, a2, a3, a4, a5, a6⟩ := app_one (new := [D.v (.slice none 0 0), iD op, iD (ns.getD i 0)]) k3 (by omega) rfl rfl (by rw [hol]; simp; omega) k1
      have q0 : H1[0]? = some (.cells 50 1 [d]) := by rw [a3.2 0 (by omega)]; exact k2
      have st := set_cellN H1 0 0 _ _ _ d' q0 (by simp) a2.cells a2.ok
      refine ⟨_, H1.set 0 (.cells 50 1 [d']), ?_, rfl, by simp; omega, ⟨d', List.getElem?_set_self (by omega), ?_, fun k m q e => ?_⟩, fun k hk1 hk6 => ?_, ?_⟩
      · rw [sr_catalog_Choices_0_0]
        simp only [binK_lss, hlt, decide_true, thn_some, condK_bool, if_true, p1, p2, l0, build_del, row_del, thnH_some, a1, st, binK_int, e1, List.set_cons_zero]
      · rw [map_take_succ ns i hi, ← List.append_assoc, outC_app]
        exact a2.set 0 _ (by omega)
      · have hl := (e ▸ k6).lt
        exact a6 k q hl.2 (k4 k m q e) (fun q' => k4 k m q' e)
      · rw [List.getElem?_set_ne (by omega), a3.2 k hk6, k5 k hk1 hk6]
      · exact k6.keep2 fun r m e hr1 hr2 => by
          rw [List.getElem?_set_ne (by omega)]
          exact a5 r hr2 (fun q => k4 r m q e))
    (fun s Hi hI => by
      obtain ⟨rfl, k1, ⟨d, k2, k3, k4⟩, k5, k6⟩ := hI
      rw [List.take_length] at k3
      refine ⟨(.exit 2, [.hp 0 0, iD op, dn, iD ns.length, iD ns.length], Hi), ?_, (by intro e; cases e), _, Hi, rfl, k1, ⟨d, k2, k3⟩, k5⟩
      rw [sr_catalog_Choices_0_0]
      have hlt : ¬ ((ns.length : Int) < (ns.length : Int)) := by omega
      simp only [binK_lss, hlt, decide_false, thn_some, condK_bool, Bool.false_eq_true, if_false])
    (by omega) (s := [.hp 0 0, iD op, dn, iD ns.length, iD 0]) (H := H0)
    ⟨rfl, by omega, ⟨d, by rw [g 0 (by omega)]; exact h1, by simpa using gb, fun k m q e e2 => by
      have := hsep d k q h1 e2
      have hl := (e ▸ hn).lt
      omega⟩, fun _ _ _ => rfl, hn.keep2 fun r m e hr1 hr2 => g r (by omega)⟩
  obtain ⟨r, r1, s, Hi, rfl, k1, ⟨d', k2, k3⟩, k5⟩ := key
  have r1' : loopR Try.prog (T13h Try.prog noYl) kp_catalog_Choices 8 Try.f32 0 0 [.hp 0 0, iD op, dn, iD ns.length, iD 0] H0 = _ := r1
  have c2 : Hi[2]? = some (loopC Try.f32 .busy) := by rw [k5 2 (by omega) (by omega)]; exact g2
  have q : ∀ k, k ≠ 2 → (Hi.set 2 (loopC Try.f32 .ready))[k]? = Hi[k]? := fun k hk => List.getElem?_set_ne (Ne.symm hk)
  refine ⟨Hi.set 2 (loopC Try.f32 .ready), ?_, by simpa using k1, ⟨d', by rw [q 0 (by omega)]; exact k2, ?_⟩, ?_, ?_, ?_, ?_, ?_⟩
  · simp only [hlen, thn_some, r1', leaveK_exit, condN_same]
    unfold endR
    rw [c2]
    rfl
  · rw [List.length_append, List.length_map]; exact k3.set 2 _ (by omega)
  · rw [q 1 (by omega), k5 1 (by omega) (by omega), g 1 (by omega)]; exact h3
  · exact List.getElem?_set_self (by omega)
  · rw [q 3 (by omega), k5 3 (by omega) (by omega), g 3 (by omega)]; exact h5
  · rw [q 4 (by omega), k5 4 (by omega) (by omega), g 4 (by omega)]; exact h6
  · rw [q 5 (by omega), k5 5 (by omega) (by omega), g 5 (by omega)]; exact h7
theorem ChInv.kp {l : List Nd} {x : Nd} {H H' : Heap} {out : List (Int × Int)} (h : ChInv l x H out) (k : Kp H.length H H') : ChInv l x H' out := by
  obtain ⟨h0, ⟨d, h1, h2⟩, h3, h4, h5, h6, h7⟩ := h
  refine ⟨Nat.le_trans h0 k.1, ⟨d, by rw [k.2 0 (by omega)]; exact h1, h2.keep fun r m e => k.2 r ?_⟩, by rw [k.2 1 (by omega)]; exact h3, by rw [k.2 2 (by omega)]; exact h4, by rw [k.2 3 (by omega)]; exact h5, by rw [k.2 4 (by omega)]; exact h6, by rw [k.2 5 (by omega)]; exact h7⟩
  subst e
  exact h2.lt.2
/-- Numbers of an operator are told, and gathered. -/
theorem tell_ok (l : List Nd) (x : Nd) (H H1 : Heap) (out : List (Int × Int)) (op : Int) (dn : D) (ns : List Int) (h : ChInv l x H out) (k : Kp H.length H H1) (hn : Numb H.length H1 dn ns) (hns : ns.length ≤ 6) (hout : out.length ≤ 100) :
    ∃ H', tellT Try.prog (Y13 Try.prog) (.hp 5 0) (.hp 3 0) (iD op) dn H1 = some (.tup [], H') ∧ ChInv l x H' (out ++ ns.map fun n => (op, n)) := by
  have h' := h.kp k
  obtain ⟨H', q1, q2⟩ := ch_round l x H1 out op dn ns H.length h' hn hns hout (fun d r q e1 e2 => by
    obtain ⟨d2, b1, b2⟩ := h.box
    rw [k.2 0 (by have := h.len; omega), b1] at e1
    cases e1
    subst e2
    exact b2.lt.2) h.len
  refine ⟨H', ?_, q2⟩
  have e0 : tellT Try.prog (Y13 Try.prog) (.hp 5 0) (.hp 3 0) (iD op) dn H1 = G_lists11 Try.prog (Y13 Try.prog) [iD op, dn, .hp 5 0, .hp 3 0] H1 := rfl
  have l5 := load_cell0 H1 5 _ _ _ _ h'.more
  have l3 := load_cell0 H1 3 _ _ _ _ h'.yld
  have e1 : callClo (T13y Try.prog (Y13 Try.prog)) (.yld 2) [iD op, dn] H1 = some (bD true, H') := q1
  have st := set_cellN H' 5 0 _ _ _ (bD true) q2.more (by simp) rfl rfl
  have ss : H'.set 5 (.cells 4 1 [bD true]) = H' := set_self q2.more
  rw [e0, G_lists11_eq, sh_catalog_lists_1_1]
  simp only [l5, thn_some, condK_bool, if_true, l3, e1, thnH_some, st, List.set_cons_zero, ss]
end Go.Proofs.Ytalehbmgbjiigaa
end

section
namespace Go.Proofs.Ytalehbmgbjiigaa
open Go.RowKit
set_option linter.unusedVariables false
set_option maxRecDepth 100000

def kp_kinds_Size : List Nat := []
theorem sh_kinds_Size (n : Nat) (x0 : D) (h : Heap) : textK Try.prog T08 kp_kinds_Size n Try.f119 [x0] h =
(thn (binK .int .geq x0 (iD 2)) fun y0 =>
condK y0
(thn (binK .int .leq x0 (iD 9)) fun y1 =>
condK y1
(thn (binK .int .sub x0 (iD 1)) fun y2 =>
some (y2, h))
(some ((iD 0), h)))
(some ((iD 0), h))) := by kernel_rfl

def kp_offshootref09_Size : List Nat := []
def kp_offshootref09_typed : List Nat := []
def kp_offshootref09_kind : List Nat := []
def kp_offshootref09_Same : List Nat := []
theorem sh_offshootref09_Same (n : Nat) (x0 x1 : D) (h : Heap) : textK Try.prog T08 kp_offshootref09_Same n Try.f20 [x0, x1] h =
(thnH (boxH 25 x0 h) fun y0 h1 =>
thnH (boxH 25 x1 h1) fun y2 h3 =>
thn (fieldAtH 1 y0) fun y4 =>
thn (loadH none h3 y4) fun y5 =>
thn (fieldAtH 1 y2) fun y6 =>
thn (loadH none h3 y6) fun y7 =>
thnH (liftF F_RefInts [y5, y7] h3) fun y8 h9 =>
thn (fieldAtH 2 y0) fun y10 =>
thn (loadH none h9 y10) fun y11 =>
thn (fieldAtH 2 y2) fun y12 =>
thn (loadH none h9 y12) fun y13 =>
thnH (liftF F_RefSame [y11, y13] h9) fun y14 h15 =>
condK y8
(condK y14
(thn (fieldAtH 0 y0) fun y16 =>
thn (loadH none h15 y16) fun y17 =>
thn (fieldAtH 0 y2) fun y18 =>
thn (loadH none h15 y18) fun y19 =>
thn (binK .int .eql y17 y19) fun y20 =>
some (y20, h15))
(some ((bD false), h15)))
(some ((bD false), h15))) := by kernel_rfl

def kp_offshootref09_Few : List Nat := []
theorem sh_offshootref09_Few (n : Nat) (x0 : D) (h : Heap) : textK Try.prog T08 kp_offshootref09_Few n Try.f16 [x0] h =
(thnH (boxH 25 x0 h) fun y0 h1 =>
thn (fieldAtH 2 y0) fun y2 =>
thn (loadH none h1 y2) fun y3 =>
thn (lenH .sl y3) fun y4 =>
thn (binK .int .leq y4 (iD 60)) fun y5 =>
condK y5
(thn (fieldAtH 1 y0) fun y6 =>
thn (loadH none h1 y6) fun y7 =>
thn (lenH .sl y7) fun y8 =>
thn (binK .int .leq y8 (iD 20)) fun y9 =>
some (y9, h1))
(some ((bD false), h1))) := by kernel_rfl

def kp_slices_Equal___int_int_ : List Nat := [0, 1, 4, 5, 12, 13]
def kp_bits_Mul64 : List Nat := []
theorem sh_bits_Mul64 (n : Nat) (x0 x1 : D) (h : Heap) : textK Try.prog T08 kp_bits_Mul64 n Try.f165 [x0, x1] h =
(thn (binK .int .and x0 (.v (.int .u64 4294967295))) fun y0 =>
thn (binK .int .shr x0 (.v (.int .u64 32))) fun y1 =>
thn (binK .int .and x1 (.v (.int .u64 4294967295))) fun y2 =>
thn (binK .int .shr x1 (.v (.int .u64 32))) fun y3 =>
thn (binK .int .mul y0 y2) fun y4 =>
thn (binK .int .mul y1 y2) fun y5 =>
thn (binK .int .shr y4 (.v (.int .u64 32))) fun y6 =>
thn (binK .int .add y5 y6) fun y7 =>
thn (binK .int .and y7 (.v (.int .u64 4294967295))) fun y8 =>
thn (binK .int .shr y7 (.v (.int .u64 32))) fun y9 =>
thn (binK .int .mul y0 y3) fun y10 =>
thn (binK .int .add y8 y10) fun y11 =>
thn (binK .int .mul y1 y3) fun y12 =>
thn (binK .int .add y12 y9) fun y13 =>
thn (binK .int .shr y11 (.v (.int .u64 32))) fun y14 =>
thn (binK .int .add y13 y14) fun y15 =>
thn (binK .int .mul x0 x1) fun y16 =>
some (.tup [y15, y16], h)) := by kernel_rfl

def kp_offshootref09_blocks : List Nat := [0, 1, 2, 3, 6, 7]
end Go.Proofs.Ytalehbmgbjiigaa
end

section
namespace Go.Proofs.Ytalehbmgbjiigaa
open Go.RowKit
set_option linter.unusedVariables false
set_option linter.unusedSimpArgs false


/-- How many numbers an array has. -/
def sizeV (t : Int) : Int := if 2 ≤ t ∧ t ≤ 9 then t - 1 else 0
def F_Size : List D → Option D := F1 intT fun t => some (iD (sizeV t))
theorem C_Size : CallOk Try.prog 119 F_Size := call1 (kp := kp_kinds_Size) T08_ok mixed Try.func119 (by kernel_rfl) (by decide) fun t d h => by
  cases h
  refine ⟨0, _, ?_, Imp.refl _⟩
  show outD (textK _ _ _ _ _ [iD t] []) = _
  rw [sh_kinds_Size]
  unfold sizeV
  by_cases h1 : 2 ≤ t <;> by_cases h2 : t ≤ 9 <;> simp (disch := omega) [h1, h2, intD_sub]
/-- A variable's type; -1: there is none. -/
def typedV (vs : List Int) (v : Int) : Int := if v < 0 then -1 else vs.getD v.toNat (-1)
def F_typed : List D → Option D := F2 progT intT fun p v => some (iD (typedV p.vars v))
def F_kind : List D → Option D := F2 boolT intT fun b k => some (iD (if b then k else -1))
theorem refInts_pure (a b : List Int) (H : Heap) (ha : a.length ≤ 3000000) (hb : b.length ≤ 3000000) : liftF F_RefInts [intsD a, intsD b] H = some (bD (decide (a = b)), H) := by
  rw [liftF_pure _ _ _ rfl]; simp [F_RefInts, ha, hb]
theorem refSame_pure (a b : List Nd) (H : Heap) (ha : a.length ≤ 3000000) (hb : b.length ≤ 3000000) : liftF F_RefSame [nodesD a, nodesD b] H = some (bD (decide (a = b)), H) := by
  rw [liftF_pure _ _ _ rfl]; simp [F_RefSame, ha, hb]
theorem equalNodes_pure (a b : List Nd) (H : Heap) (ha : a.length ≤ 3000000) (hb : b.length ≤ 3000000) : liftF F_EqualNodes [nodesD a, nodesD b] H = some (bD (decide (a = b)), H) := by
  rw [liftF_pure _ _ _ rfl]; simp [F_EqualNodes, ha, hb]

/-- A program's lists are no longer than any bound that matters. -/
abbrev Pg.fits (p : Pg) : Prop := p.vars.length ≤ 3000000 ∧ p.body.length ≤ 3000000
theorem pg_eq (p q : Pg) : p = q ↔ p.params = q.params ∧ p.vars = q.vars ∧ p.body = q.body := by
  obtain ⟨a, b, c⟩ := p
  obtain ⟨d, e, f⟩ := q
  simp
def F_Same9 : List D → Option D := F2 progT progT fun p q => if p.fits ∧ q.fits then some (bD (decide (p = q))) else none
theorem C_RefSame9 : CallOk Try.prog 20 F_Same9 := call2 (kp := kp_offshootref09_Same) T08_ok mixed Try.func20 (by kernel_rfl) (by decide) fun p q d h => by
  split at h
  case isFalse => cases h
  rename_i hf
  cases h
  refine ⟨0, _, ?_, Imp.refl _⟩
  show outD (textK _ _ _ _ _ [progD p, progD q] []) = _
  rw [sh_offshootref09_Same]
  simp only [pg_eq p q]
  by_cases h1 : p.vars = q.vars <;> by_cases h2 : p.body = q.body <;> by_cases h3 : p.params = q.params <;> simp [refInts_pure, refSame_pure, hf.1.1, hf.1.2, hf.2.1, hf.2.2, h1, h2, h3]

def fewV (p : Pg) : Bool := decide (p.body.length ≤ 60) && decide (p.vars.length ≤ 20)
def F_Few : List D → Option D := F1 progT fun p => some (bD (fewV p))
theorem C_Few : CallOk Try.prog 16 F_Few := call1 (kp := kp_offshootref09_Few) T08_ok mixed Try.func16 (by kernel_rfl) (by decide) fun p d h => by
  cases h
  refine ⟨0, _, ?_, Imp.refl _⟩
  show outD (textK _ _ _ _ _ [progD p] []) = _
  rw [sh_offshootref09_Few]
  unfold fewV
  by_cases h1 : (p.body.length : Int) ≤ 60
  · have h1' : p.body.length ≤ 60 := by omega
    by_cases h2 : (p.vars.length : Int) ≤ 20
    · have h2' : p.vars.length ≤ 20 := by omega
      simp [h1, h2, h1', h2']
    · have h2' : ¬ p.vars.length ≤ 20 := by omega
      simp [h1, h2, h1', h2']
  · have h1' : ¬ p.body.length ≤ 60 := by omega
    simp [h1, h1']

/-- Two lists of ints, held against each other. -/
def F_EqualInts : List D → Option D := F2 intsT intsT fun a b => if a.length ≤ 3000000 ∧ b.length ≤ 3000000 then some (bD (decide (a = b))) else none
end Go.Proofs.Ytalehbmgbjiigaa
end

section
namespace Go.Proofs.Ytalehbmgbjiigaa
open Go.RowKit
set_option linter.unusedVariables false
set_option linter.unusedSimpArgs false

/-- The product of one and a number. -/
def F_Mul : List D → Option D
  | [.v (.int .u64 1), .v (.int .u64 k)] => if 0 ≤ k ∧ k < 4294967296 then some (.tup [.v (.int .u64 0), .v (.int .u64 k)]) else none
  | _ => none
theorem u64_wrap (k : Int) (h0 : 0 ≤ k) (h : k < 18446744073709551616) : IntKind.u64.wrap k = k := by
  unfold IntKind.wrap
  simp [IntKind.signed, IntKind.bits]
  omega
theorem and_low (k : Int) (h0 : 0 ≤ k) (h : k < 4294967296) : intD .and .u64 k 4294967295 = some (.v (.int .u64 k)) := by
  obtain ⟨m, rfl⟩ := Int.eq_ofNat_of_zero_le h0
  have hm : m < 4294967296 := by omega
  have : (BitVec.ofInt IntKind.u64.bits (m : Int) &&& BitVec.ofInt IntKind.u64.bits 4294967295).toNat = m := by
    rw [BitVec.toNat_and]
    have h1 : (BitVec.ofInt IntKind.u64.bits (m : Int)).toNat = m := by
      simp [IntKind.bits]; omega
    have h2 : (BitVec.ofInt IntKind.u64.bits 4294967295).toNat = 2 ^ 32 - 1 := by rfl
    rw [h1, h2, Nat.and_two_pow_sub_one_eq_mod]
    omega
  simp only [intD, this]
  rw [u64_wrap _ (by omega) (by omega)]
theorem shr_low (k : Int) (h0 : 0 ≤ k) (h : k < 4294967296) : binK .int .shr (.v (.int .u64 k)) (.v (.int .u64 32)) = some (.v (.int .u64 0)) := by
  have : k.fdiv 4294967296 = 0 := by
    rw [Int.fdiv_eq_ediv_of_nonneg _ (by omega)]
    exact Int.ediv_eq_zero_of_lt h0 h
  simp [binK, shiftD, IntKind.bits, this]
theorem C_Mul64 : CallOk Try.prog 165 F_Mul := by
  refine call_text (kp := kp_bits_Mul64) T08_ok mixed Try.func165 (by kernel_rfl) (by decide) fun ds d h => ⟨0, ?_⟩
  unfold F_Mul at h
  split at h
  case h_2 => cases h
  rename_i k
  split at h
  case isFalse => cases h
  rename_i hk
  cases h
  rw [sh_bits_Mul64]
  have e1 := and_low 1 (by omega) (by omega)
  have e2 := shr_low 1 (by omega) (by omega)
  have e3 := and_low k hk.1 hk.2
  have e4 := shr_low k hk.1 hk.2
  have e5 := and_low 0 (by omega) (by omega)
  have e6 := shr_low 0 (by omega) (by omega)
  have e7 : intD .mul .u64 1 k = some (.v (.int .u64 k)) := by simp only [intD, Int.one_mul]; rw [u64_wrap _ hk.1 (by omega)]
  have e8 : intD .mul .u64 0 k = some (.v (.int .u64 0)) := by simp only [intD, Int.zero_mul]; rfl
  have e9 : intD .add .u64 0 0 = some (.v (.int .u64 0)) := rfl
  have e10 : intD .mul .u64 1 0 = some (.v (.int .u64 0)) := rfl
  have e11 : intD .mul .u64 0 0 = some (.v (.int .u64 0)) := rfl
  simp [e1, e2, e3, e4, e5, e6, e7, e8, e9, e10, e11]

def blkV (l : List Nd) (ks : List Int) (from_ : Nat) : Bool := (ks.drop from_).all fun k => decide ((l.getD k.toNat (0, 0)).1 = 20)
/-- Are kids blocks, from one on? -/
def F_blocks : List D → Option D := F3 progT intsT intT fun p ks i => if 0 ≤ i ∧ ks.length ≤ 3000000 ∧ (∀ k ∈ ks, 0 ≤ k ∧ k.toNat < p.body.length) then some (bD (blkV p.body ks i.toNat)) else none
/-- A rule: kids of kinds, and the own one; one that asks a variable that is no array; one that asks an array; none. -/
inductive RuleT where
  | plain (ks : List Int) (is : Int)
  | array (ks : List Int) (is : Int)
  | scalar (set : Bool)
  | none
  deriving DecidableEq, Inhabited
def RuleT.enc : RuleT → D
  | .plain ks is => .ifc 142 (.agg [intsD ks, iD is])
  | .array ks is => .ifc 146 (.agg [intsD ks, iD is])
  | .scalar b => .ifc 144 (.agg [bD b])
  | .none => .v .nilIface
def RuleT.dec : D → Option RuleT
  | .ifc t (.agg [ks, .v (.int .i64 is)]) => if t = 142 then (asInts ks).map (RuleT.plain · is) else if t = 146 then (asInts ks).map (RuleT.array · is) else Option.none
  | .ifc t (.agg [.v (.bool b)]) => if t = 144 then some (.scalar b) else Option.none
  | .v .nilIface => some .none
  | _ => Option.none
def ruleT : Dec RuleT := ⟨RuleT.enc, RuleT.dec, fun r => by cases r <;> simp [RuleT.enc, RuleT.dec], fun d r h => by
  unfold RuleT.dec at h
  split at h
  · split at h
    · rename_i he
      obtain ⟨ks, hk, rfl⟩ := Option.map_eq_some_iff.1 h
      subst he
      exact Imp.ifc (Imp.agg (.cons (imp_ints hk) (ImpL.refl _)))
    · split at h
      · rename_i he
        obtain ⟨ks, hk, rfl⟩ := Option.map_eq_some_iff.1 h
        subst he
        exact Imp.ifc (Imp.agg (.cons (imp_ints hk) (ImpL.refl _)))
      · cases h
  · split at h
    · rename_i he
      cases h
      subst he
      exact Imp.refl _
    · cases h
  · cases h; exact Imp.refl _
  · cases h⟩
def ruleKs : List Int := [1, 2, 3, 21, 4, 22, 5, 6, 18, 19, 23, 24, 25, 26, 7, 8, 9, 10, 11, 12, 13, 14, 15, 16, 17]
def ruleRs : List RuleT := [.plain [] 0, .plain [] 1, .scalar false, .scalar true, .array [0] 0, .array [0, 0] 2, .plain [0] 0, .plain [1] 1, .plain [1, 1] 1, .plain [1, 1] 1, .plain [1, 2, 2] 2, .plain [1, 2] 2, .plain [0] 2, .plain [] 2,
  .plain [0, 0] 0, .plain [0, 0] 0, .plain [0, 0] 0, .plain [0, 0] 0, .plain [0, 0] 0, .plain [0, 0] 1, .plain [0, 0] 1, .plain [0, 0] 1, .plain [0, 0] 1, .plain [0, 0] 1, .plain [0, 0] 1]
/-- The rules of all tags, as a map. -/
def rulesD : D := .mv ruleKs (ruleRs.map RuleT.enc)
def isRules : D → Option Unit
  | .mv ks vs => if ks = ruleKs ∧ vs.mapM RuleT.dec = some ruleRs then some () else Option.none
  | _ => Option.none
theorem imp_rules {d : D} (h : isRules d = some ()) : Imp d rulesD := by
  unfold isRules at h
  split at h
  · split at h
    · rename_i hc
      obtain ⟨rfl, h2⟩ := hc
      exact Imp.mv (impL_mapM ruleT _ _ h2)
    · cases h
  · cases h
def F_rules : List D → Option D := F0 (some rulesD)
theorem rules_text : (outD (textK Try.prog T08 [0, 1, 2, 3] 20 Try.f82 [] [])).bind isRules = some () := by kernel_rfl
theorem C_rules : CallOk Try.prog 82 F_rules := call0 (kp := [0, 1, 2, 3]) T08_ok mixed Try.func82 (by kernel_rfl) (by decide) fun d h => by
  cases h
  obtain ⟨d', h1, h2⟩ := Option.bind_eq_some_iff.1 rules_text
  exact ⟨20, d', h1, imp_rules h2⟩

def fs09a : List Entry := (119, true, liftF F_Size) :: (20, true, liftF F_Same9) :: (16, true, liftF F_Few) :: (165, true, liftF F_Mul) :: (82, true, liftF F_rules) :: fs08
theorem fs09a_ok : ∀ p ∈ fs09a, EntryOk Try.prog p := entries_cons (entry_lift C_Size) <| entries_cons (entry_lift C_RefSame9) <| entries_cons (entry_lift C_Few) <| entries_cons (entry_lift C_Mul64) <| entries_cons (entry_lift C_rules) <| fs08_ok
def T09a : Tab := ⟨fs09a, noYl⟩
theorem T09a_ok : TabOk Try.prog T09a := tabOk_of fs09a_ok
end Go.Proofs.Ytalehbmgbjiigaa
end

section
namespace Go.Proofs.Ytalehbmgbjiigaa
open Go.RowKit
set_option linter.unusedVariables false
set_option maxRecDepth 100000

def kp_kinds_Vars : List Nat := [1, 2, 23, 24, 25]
theorem sh_kinds_Vars (n : Nat) (x0 : D) (h : Heap) : textK Try.prog T09a kp_kinds_Vars n Try.f81 [x0] h =
(thnH (boxH 25 x0 h) fun y0 h1 =>
thn (fieldAtH 0 y0) fun y2 =>
thn (loadH none h1 y2) fun y3 =>
thn (binK .int .lss y3 (iD 0)) fun y4 =>
condK y4
(some ((iD 14), h1))
(thn (fieldAtH 0 y0) fun y5 =>
thn (loadH none h1 y5) fun y6 =>
thn (fieldAtH 1 y0) fun y7 =>
thn (loadH none h1 y7) fun y8 =>
thn (lenH .sl y8) fun y9 =>
thn (binK .int .gtr y6 y9) fun y10 =>
condK y10
(some ((iD 14), h1))
(thn (fieldAtH 1 y0) fun y11 =>
thn (loadH none h1 y11) fun y12 =>
thn (lenH .sl y12) fun y13 =>
thn (binK .int .gtr y13 (iD 12)) fun y14 =>
condK y14
(some ((iD 14), h1))
(thn (fieldAtH 1 y0) fun y15 =>
thn (loadH none h1 y15) fun y16 =>
thn (lenH .sl y16) fun y17 =>
leaveK (loopF Try.prog T09a kp_kinds_Vars n Try.f81 0 [y0, (iD 0), y16, y17, (iD 0)] h1) (fun j18 s19 h20 =>
condN j18 0
(some ((iD 0), h20))
(none)) (fun s19 h20 =>
some ((s19.getD 1 .undef), h20)))))) := by kernel_rfl

theorem st_kinds_Vars_0 (n : Nat) (s0 s1 s2 s3 s4 : D) (h : Heap) : stepF Try.prog T09a kp_kinds_Vars n Try.f81 0 [s0, s1, s2, s3, s4] h =
(thn (binK .int .lss s4 s3) fun y0 =>
condK y0
(thn (idxH 1 s2 s4) fun y1 =>
thn (loadH none h y1) fun y2 =>
thn (binK .int .neq y2 (iD 0)) fun y3 =>
condK y3
(thn (fieldAtH 0 s0) fun y4 =>
thn (loadH none h y4) fun y5 =>
thn (binK .int .lss s4 y5) fun y6 =>
condK y6
(some (.ret, [s0, (iD 14), s2, s3, s4], h))
(thn (binK .int .neq y2 (iD 1)) fun y7 =>
condK y7
(thnH (liftF F_Size [y2] h) fun y8 h9 =>
thn (binK .int .eql y8 (iD 0)) fun y10 =>
condK y10
(some (.ret, [s0, (iD 14), s2, s3, s4], h9))
(thn (binK .int .add s4 (iD 1)) fun y11 =>
some (.normal, [s0, s1, s2, s3, y11], h9)))
(thn (binK .int .add s4 (iD 1)) fun y12 =>
some (.normal, [s0, s1, s2, s3, y12], h))))
(thn (binK .int .add s4 (iD 1)) fun y13 =>
some (.normal, [s0, s1, s2, s3, y13], h)))
(some ((.exit 0), [s0, s1, s2, s3, s4], h))) := by kernel_rfl

def kp_offshootref09_Vars : List Nat := [1, 2, 3]
def kp_kinds_Same : List Nat := []
def kp_bits_Mul : List Nat := []
theorem sh_bits_Mul (n : Nat) (x0 x1 : D) (h : Heap) : textK Try.prog T09a kp_bits_Mul n Try.f149 [x0, x1] h =
(thnH (liftF F_Mul [x0, x1] h) fun y0 h1 =>
thn (extractD y0 0) fun y2 =>
thn (extractD y0 1) fun y3 =>
some (.tup [y2, y3], h1)) := by kernel_rfl

def kp_kinds_plain__kind : List Nat := []
theorem sh_kinds_plain__kind (n : Nat) (x0 x1 x2 : D) (h : Heap) : textK Try.prog T09a kp_kinds_plain__kind n Try.f189 [x0, x1, x2] h =
(thnH (boxH 142 x0 h) fun y0 h1 =>
thnH (boxH 25 x1 h1) fun y2 h3 =>
thnH (boxH 46 x2 h3) fun y4 h5 =>
thn (fieldAtH 1 y0) fun y6 =>
thn (loadH none h5 y6) fun y7 =>
some (y7, h5)) := by kernel_rfl

def kp_kinds_scalar__kind : List Nat := []
theorem sh_kinds_scalar__kind (n : Nat) (x0 x1 x2 : D) (h : Heap) : textK Try.prog T09a kp_kinds_scalar__kind n Try.f190 [x0, x1, x2] h =
(thnH (boxH 144 x0 h) fun y0 h1 =>
thnH (boxH 25 x1 h1) fun y2 h3 =>
thnH (boxH 46 x2 h3) fun y4 h5 =>
thn (fieldAtH 1 y4) fun y6 =>
thn (loadH none h5 y6) fun y7 =>
thn (fieldAtH 1 y2) fun y8 =>
thn (loadH none h5 y8) fun y9 =>
thn (lenH .sl y9) fun y10 =>
thn (binK .int .geq y7 y10) fun y11 =>
condK y11
(some ((iD (-1)), h5))
(thn (fieldAtH 1 y2) fun y12 =>
thn (loadH none h5 y12) fun y13 =>
thn (fieldAtH 1 y4) fun y14 =>
thn (loadH none h5 y14) fun y15 =>
thn (idxH 1 y13 y15) fun y16 =>
thn (loadH none h5 y16) fun y17 =>
thn (binK .int .neq y17 (iD 0)) fun y18 =>
condK y18
(thn (fieldAtH 1 y2) fun y19 =>
thn (loadH none h5 y19) fun y20 =>
thn (fieldAtH 1 y4) fun y21 =>
thn (loadH none h5 y21) fun y22 =>
thn (idxH 1 y20 y22) fun y23 =>
thn (loadH none h5 y23) fun y24 =>
thn (binK .int .neq y24 (iD 1)) fun y25 =>
condK y25
(some ((iD (-1)), h5))
(thn (fieldAtH 0 y0) fun y26 =>
thn (loadH none h5 y26) fun y27 =>
condK y27
(some ((iD 2), h5))
(thn (fieldAtH 1 y2) fun y28 =>
thn (loadH none h5 y28) fun y29 =>
thn (fieldAtH 1 y4) fun y30 =>
thn (loadH none h5 y30) fun y31 =>
thn (idxH 1 y29 y31) fun y32 =>
thn (loadH none h5 y32) fun y33 =>
some (y33, h5))))
(thn (fieldAtH 0 y0) fun y34 =>
thn (loadH none h5 y34) fun y35 =>
condK y35
(some ((iD 2), h5))
(thn (fieldAtH 1 y2) fun y36 =>
thn (loadH none h5 y36) fun y37 =>
thn (fieldAtH 1 y4) fun y38 =>
thn (loadH none h5 y38) fun y39 =>
thn (idxH 1 y37 y39) fun y40 =>
thn (loadH none h5 y40) fun y41 =>
some (y41, h5))))) := by kernel_rfl

def kp_kinds_array__kind : List Nat := []
theorem sh_kinds_array__kind (n : Nat) (x0 x1 x2 : D) (h : Heap) : textK Try.prog T09a kp_kinds_array__kind n Try.f191 [x0, x1, x2] h =
(thnH (boxH 146 x0 h) fun y0 h1 =>
thnH (boxH 25 x1 h1) fun y2 h3 =>
thnH (boxH 46 x2 h3) fun y4 h5 =>
thn (fieldAtH 1 y4) fun y6 =>
thn (loadH none h5 y6) fun y7 =>
thn (fieldAtH 1 y2) fun y8 =>
thn (loadH none h5 y8) fun y9 =>
thn (lenH .sl y9) fun y10 =>
thn (binK .int .geq y7 y10) fun y11 =>
condK y11
(some ((iD (-1)), h5))
(thn (fieldAtH 1 y2) fun y12 =>
thn (loadH none h5 y12) fun y13 =>
thn (fieldAtH 1 y4) fun y14 =>
thn (loadH none h5 y14) fun y15 =>
thn (idxH 1 y13 y15) fun y16 =>
thn (loadH none h5 y16) fun y17 =>
thnH (liftF F_Size [y17] h5) fun y18 h19 =>
thn (binK .int .eql y18 (iD 0)) fun y20 =>
condK y20
(some ((iD (-1)), h19))
(thn (fieldAtH 0 y0) fun y21 =>
thn (fieldAtH 1 y21) fun y22 =>
thn (loadH none h19 y22) fun y23 =>
some (y23, h19)))) := by kernel_rfl

end Go.Proofs.Ytalehbmgbjiigaa
end

section
namespace Go.Proofs.Ytalehbmgbjiigaa
open Go.RowKit
set_option linter.unusedVariables false
set_option linter.unusedSimpArgs false

/-- May a variable be of a type? -/
def vGood (params : Int) (i : Nat) (t : Int) : Bool := decide (0 ≤ t ∧ t ≤ 9 ∧ ((i : Int) < params → t = 0))
def varsOk (p : Pg) : Bool := decide (0 ≤ p.params ∧ p.params ≤ p.vars.length ∧ p.vars.length ≤ 12) && (List.range p.vars.length).all fun i => vGood p.params i (p.vars.getD i 0)
def varsV (p : Pg) : Int := if varsOk p then 0 else 14
def F_Vars : List D → Option D := F1 progT fun p => some (iD (varsV p))
theorem size_pure (t : Int) (H : Heap) : liftF F_Size [iD t] H = some (iD (sizeV t), H) := by rw [liftF_pure _ _ _ rfl]; rfl
theorem varsV_no1 {p : Pg} (h : ¬ (0 ≤ p.params ∧ p.params ≤ p.vars.length ∧ p.vars.length ≤ 12)) : varsV p = 14 := by simp [varsV, varsOk, h]
theorem varsV_yes {p : Pg} (h : 0 ≤ p.params ∧ p.params ≤ p.vars.length ∧ p.vars.length ≤ 12) (h2 : ∀ i, 0 ≤ i → i < p.vars.length → vGood p.params i (p.vars.getD i 0) = true) : varsV p = 0 := by
  have : (List.range p.vars.length).all (fun i => vGood p.params i (p.vars.getD i 0)) = true := by
    rw [List.all_eq_true]; intro i hi; exact h2 i (Nat.zero_le _) (by simpa using hi)
  unfold varsV varsOk
  rw [this]; simp [h]
theorem varsV_no2 {p : Pg} {i : Nat} (hi : i < p.vars.length) (h2 : vGood p.params i (p.vars.getD i 0) = false) : varsV p = 14 := by
  have : (List.range p.vars.length).all (fun i => vGood p.params i (p.vars.getD i 0)) = false := by
    rw [Bool.eq_false_iff]; intro e; rw [List.all_eq_true] at e
    have := e i (by simpa using hi)
    rw [h2] at this; cases this
  unfold varsV varsOk
  rw [this]; simp

theorem C_Vars : CallOk Try.prog 81 F_Vars := call1 (kp := kp_kinds_Vars) T09a_ok mixed Try.func81 (by kernel_rfl) (by decide) fun p d h => by
  cases h
  refine ⟨p.vars.length + 1, _, ?_, Imp.refl _⟩
  show outD (textK _ _ _ _ _ [progD p] []) = _
  rw [sh_kinds_Vars]
  by_cases h1 : p.params < 0
  · rw [varsV_no1 (by omega)]; simp [h1]
  by_cases h2 : (p.vars.length : Int) < p.params
  · rw [varsV_no1 (by omega)]; simp [h1, h2]
  by_cases h3 : (12 : Int) < p.vars.length
  · rw [varsV_no1 (by omega)]; simp [h1, h2, h3]
  have hs := loopF_scan (P := Try.prog) (T := T09a) (kp := kp_kinds_Vars) (fn := Try.f81) (li := 0) (fun i => [.hp 0 0, iD 0, intsD p.vars, iD p.vars.length, iD i]) (pgH 25 p) p.vars.length (fun i => vGood p.params i (p.vars.getD i 0))
    (fun i => (.ret, [.hp 0 0, iD 14, intsD p.vars, iD p.vars.length, iD i], pgH 25 p)) (.exit 0, [.hp 0 0, iD 0, intsD p.vars, iD p.vars.length, iD p.vars.length], pgH 25 p)
    (fun i => by intro e; cases e) (by intro e; cases e) 0 (p.vars.length + 1) (Nat.zero_le _) (by omega)
    (fun i _ hi hp => by
      have e1 := intD_add (i : Int) 1 (by omega) (by omega)
      have h4 : (i : Int) < p.vars.length := by omega
      rw [st_kinds_Vars_0]
      simp only [vGood, decide_eq_true_eq, getD_in _ i 0 hi] at hp
      by_cases h5 : p.vars[i] = 0
      · simp [pgH, h4, idx_intsN _ _ hi, h5, e1]
      · have h6 : ¬ (i : Int) < p.params := fun h => h5 (hp.2.2 h)
        by_cases h7 : p.vars[i] = 1
        · simp [pgH, h4, idx_intsN _ _ hi, h5, h6, h7, e1]
        · have h8 : ¬ sizeV p.vars[i] = 0 := by unfold sizeV; rw [if_pos (by omega)]; omega
          simp [pgH, h4, idx_intsN _ _ hi, h5, h6, h7, h8, e1, size_pure])
    (fun i _ hi hp => by
      have h4 : (i : Int) < p.vars.length := by omega
      rw [st_kinds_Vars_0]
      simp only [vGood, decide_eq_false_iff_not, getD_in _ i 0 hi] at hp
      have h5 : ¬ p.vars[i] = 0 := fun h => hp (by omega)
      by_cases h6 : (i : Int) < p.params
      · simp [pgH, h4, idx_intsN _ _ hi, h5, h6]
      · have h7 : ¬ p.vars[i] = 1 := fun h => hp (by omega)
        have h8 : sizeV p.vars[i] = 0 := by unfold sizeV; rw [if_neg (by omega)]
        simp [pgH, h4, idx_intsN _ _ hi, h5, h6, h7, h8, size_pure])
    (by rw [st_kinds_Vars_0]; simp)
  rcases hs with ⟨q1, q2⟩ | ⟨i, q0, q1, q2, q3, q4⟩
  · rw [varsV_yes (by omega) q1]
    simp only [pgH, cast0] at q2
    simp [h1, h2, h3, q2]
  · rw [varsV_no2 q1 q2]
    simp only [pgH, cast0] at q4
    simp [h1, h2, h3, q4]
theorem equalInts_pure (a b : List Int) (H : Heap) (ha : a.length ≤ 3000000) (hb : b.length ≤ 3000000) : liftF F_EqualInts [intsD a, intsD b] H = some (bD (decide (a = b)), H) := by
  rw [liftF_pure _ _ _ rfl]; unfold F_EqualInts; rw [show [intsD a, intsD b] = [intsT.enc a, intsT.enc b] from rfl, f2_enc, if_pos ⟨ha, hb⟩]; rfl
theorem mul_pure (k : Int) (H : Heap) (h0 : 0 ≤ k) (h : k < 4294967296) : liftF F_Mul [.v (.int .u64 1), .v (.int .u64 k)] H = some (.tup [.v (.int .u64 0), .v (.int .u64 k)], H) := by
  rw [liftF_pure _ _ _ rfl]; simp [F_Mul, h0, h]
theorem C_Mul : CallOk Try.prog 149 F_Mul := by
  refine call_text (kp := kp_bits_Mul) T09a_ok mixed Try.func149 (by kernel_rfl) (by decide) fun ds d h => ⟨0, ?_⟩
  unfold F_Mul at h
  split at h
  case h_2 => cases h
  rename_i k
  split at h
  case isFalse => cases h
  rename_i hk
  cases h
  rw [sh_bits_Mul]
  simp [mul_pure k _ hk.1 hk.2, extractD, tupOf]

/-- Kinds by rules: of a rule that asks kids alone; of one that asks a variable. -/
def arrayKindV (vs : List Int) (n is : Int) : Int := if sizeV (typedV vs n) = 0 then -1 else is
def scalarKindV (vs : List Int) (n : Int) (set : Bool) : Int := if typedV vs n = 0 ∨ typedV vs n = 1 then (if set then 2 else typedV vs n) else -1
def ruleKind (vs : List Int) (n : Int) : RuleT → Int
  | .plain _ is => is
  | .array _ is => arrayKindV vs n is
  | .scalar b => scalarKindV vs n b
  | .none => 2
/-- Does a rule ask for a variable? -/
def needN : RuleT → Bool
  | .plain _ _ | .none => false
  | _ => true
abbrev numOk (r : RuleT) (x : Nd) : Prop := needN r = true → 0 ≤ x.2 ∧ x.2 ≤ 1000000
/-- The cells of a rule's own struct. -/
def ruleIn (t : TypeId) (d : D) : Option RuleT := RuleT.dec (.ifc t d)
def F_kindOf (t : TypeId) : List D → Option D
  | [r, p, x] => (ruleIn t r).bind fun r => (asProg p).bind fun p => (asNd x).bind fun x => if numOk r x then some (iD (ruleKind p.vars x.2 r)) else none
  | _ => none
theorem kind_spelt {T : Tab} {kp : List Nat} (hT : TabOk Try.prog T) {f : FuncId} {fn : Func} (hf : Try.prog.funcs[f]? = some fn) (hb : fn.body.isSome = true) (hname : fn.name ≠ "runtime.NumGoroutine") (t : TypeId)
    (h : ∀ d r p x, ruleIn t d = some r → numOk r x → ∃ d', Imp d d' ∧ ∃ n, outD (textK Try.prog T kp n fn [d', progD p, .agg (nodeD x)] []) = some (iD (ruleKind p.vars x.2 r))) : CallOk Try.prog f (F_kindOf t) :=
  call_spelt hT mixed hf hb hname fun ds d hF => by
    unfold F_kindOf at hF
    split at hF
    · obtain ⟨r, h1, hF⟩ := Option.bind_eq_some_iff.1 hF
      obtain ⟨p, h2, hF⟩ := Option.bind_eq_some_iff.1 hF
      obtain ⟨x, h3, hF⟩ := Option.bind_eq_some_iff.1 hF
      split at hF
      · rename_i h0
        cases hF
        obtain ⟨d', h4, n, h5⟩ := h _ r p x h1 h0
        exact ⟨_, _, n, .cons h4 (.cons (progT.ok _ _ h2) (.cons (ndT.ok _ _ h3) .nil)), h5, Imp.refl _⟩
      · cases hF
    · cases hF
theorem typed_out {vs : List Int} {n : Int} (h0 : 0 ≤ n) (h : (vs.length : Int) ≤ n) : typedV vs n = -1 := by
  unfold typedV
  have : vs[n.toNat]? = none := List.getElem?_eq_none (by omega)
  rw [if_neg (by omega), List.getD_eq_getElem?_getD, this]; rfl
theorem typed_in {vs : List Int} {n : Int} (h0 : 0 ≤ n) (h : n.toNat < vs.length) : typedV vs n = vs[n.toNat] := by
  unfold typedV
  rw [if_neg (by omega), getD_in _ _ _ h]
theorem C_plainKind : CallOk Try.prog 189 (F_kindOf 142) :=
  kind_spelt (kp := kp_kinds_plain__kind) T09a_ok Try.func189 (by kernel_rfl) (by decide) _ fun d r p x hr hn => by
    unfold ruleIn RuleT.dec at hr
    split at hr
    · rename_i t ks is he
      cases he
      simp only [if_true] at hr
      obtain ⟨l, hl, rfl⟩ := Option.map_eq_some_iff.1 hr
      refine ⟨.agg [intsD l, iD is], Imp.agg (.cons (imp_ints hl) (ImpL.refl _)), 0, ?_⟩
      rw [sh_kinds_plain__kind, box_agg _ _ _ rfl]
      simp [ruleKind]
    · rename_i he
      split at hr
      · rename_i h2; cases he; cases h2
      · cases hr
    · rename_i he; cases he
    · cases hr
theorem C_arrayKind : CallOk Try.prog 191 (F_kindOf 146) :=
  kind_spelt (kp := kp_kinds_array__kind) T09a_ok Try.func191 (by kernel_rfl) (by decide) _ fun d r p x hr hn => by
    unfold ruleIn RuleT.dec at hr
    split at hr
    · rename_i t ks is he
      cases he
      rw [if_neg (by decide)] at hr
      simp only [if_true] at hr
      obtain ⟨l, hl, rfl⟩ := Option.map_eq_some_iff.1 hr
      have h0 := (hn rfl).1
      refine ⟨.agg [intsD l, iD is], Imp.agg (.cons (imp_ints hl) (ImpL.refl _)), 0, ?_⟩
      rw [sh_kinds_array__kind, box_agg _ _ _ rfl]
      by_cases h1 : (p.vars.length : Int) ≤ x.2
      · have := typed_out h0 h1
        simp [ruleKind, arrayKindV, this, sizeV, h1]
      · have h2 : x.2.toNat < p.vars.length := by omega
        have := typed_in h0 h2
        by_cases h3 : sizeV p.vars[x.2.toNat] = 0
        · simp [ruleKind, arrayKindV, this, h1, idx_ints _ _ h0 h2, size_pure, h3]
        · simp [ruleKind, arrayKindV, this, h1, idx_ints _ _ h0 h2, size_pure, h3]
    · rename_i he
      split at hr
      · rename_i h2; cases he; cases h2
      · cases hr
    · rename_i he; cases he
    · cases hr
theorem C_scalarKind : CallOk Try.prog 190 (F_kindOf 144) :=
  kind_spelt (kp := kp_kinds_scalar__kind) T09a_ok Try.func190 (by kernel_rfl) (by decide) _ fun d r p x hr hn => by
    unfold ruleIn RuleT.dec at hr
    split at hr
    · rename_i t ks is he
      cases he
      rw [if_neg (by decide), if_neg (by decide)] at hr
      cases hr
    · rename_i b he
      cases he
      simp only [if_true] at hr
      cases hr
      have h0 := (hn rfl).1
      refine ⟨_, Imp.refl _, 0, ?_⟩
      rw [sh_kinds_scalar__kind, box_agg _ _ _ rfl]
      by_cases h1 : (p.vars.length : Int) ≤ x.2
      · have := typed_out h0 h1
        simp [ruleKind, scalarKindV, this, h1]
      · have h2 : x.2.toNat < p.vars.length := by omega
        have := typed_in h0 h2
        by_cases h3 : p.vars[x.2.toNat] = 0
        · cases b <;> simp [ruleKind, scalarKindV, this, h1, idx_ints _ _ h0 h2, h3]
        · by_cases h4 : p.vars[x.2.toNat] = 1
          · cases b <;> simp [ruleKind, scalarKindV, this, h1, idx_ints _ _ h0 h2, h3, h4]
          · cases b <;> simp [ruleKind, scalarKindV, this, h1, idx_ints _ _ h0 h2, h3, h4]
    · rename_i he; cases he
    · cases hr

def fs09b : List Entry := (81, true, liftF F_Vars) :: (149, true, liftF F_Mul) :: (189, true, liftF (F_kindOf 142)) :: (190, true, liftF (F_kindOf 144)) :: (191, true, liftF (F_kindOf 146)) :: fs09a
theorem fs09b_ok : ∀ p ∈ fs09b, EntryOk Try.prog p := entries_cons (entry_lift C_Vars) <| entries_cons (entry_lift C_Mul) <| entries_cons (entry_lift C_plainKind) <| entries_cons (entry_lift C_scalarKind) <| entries_cons (entry_lift C_arrayKind) <| fs09a_ok
def T09b : Tab := ⟨fs09b, noYl⟩
theorem T09b_ok : TabOk Try.prog T09b := tabOk_of fs09b_ok
end Go.Proofs.Ytalehbmgbjiigaa
end

section
namespace Go.Proofs.Ytalehbmgbjiigaa
open Go.RowKit
set_option linter.unusedVariables false
set_option maxRecDepth 100000

def kp_slices_Repeat___int_int_ : List Nat := [7, 8]
theorem sh_slices_Repeat___int_int_ (n : Nat) (x0 x1 : D) (h : Heap) : textK Try.prog T09b kp_slices_Repeat___int_int_ n Try.f138 [x0, x1] h =
(thn (binK .int .lss x1 (iD 0)) fun y0 =>
condK y0
(none /- UNSUPPORTED panic -/)
(thn (lenH .sl x0) fun y1 =>
thn (intOf64 .u64 y1) fun y2 =>
thn (intOf64 .u64 x1) fun y3 =>
thnH (liftF F_Mul [y2, y3] h) fun y4 h5 =>
thn (extractD y4 0) fun y6 =>
thn (extractD y4 1) fun y7 =>
thn (binK .int .gtr y6 (.v (.int .u64 0))) fun y8 =>
condK y8
(none /- UNSUPPORTED panic -/)
(thn (binK .int .gtr y7 (.v (.int .u64 9223372036854775807))) fun y9 =>
condK y9
(none /- UNSUPPORTED panic -/)
(thn (intOf64 .i64 y7) fun y10 =>
thnH (makeH 3 1 [(iD 0)] y10 y10 h5) fun y11 h12 =>
thnH (copyH 1 y11 x0 h12) fun y13 h14 =>
leaveK (loopF Try.prog T09b kp_slices_Repeat___int_int_ n Try.f138 0 [y11, y13] h14) (fun j15 s16 h17 =>
condN j15 0
(some ((s16.getD 0 .undef), h17))
(none)) (fun s16 h17 =>
some (.undef, h17)))))) := by kernel_rfl

theorem st_slices_Repeat___int_int__0 (n : Nat) (s0 s1 : D) (h : Heap) : stepF Try.prog T09b kp_slices_Repeat___int_int_ n Try.f138 0 [s0, s1] h =
(thn (lenH .sl s0) fun y0 =>
thn (binK .int .lss s1 y0) fun y1 =>
condK y1
(thn (cutH 1 s0 (some s1) none) fun y2 =>
thn (cutH 1 s0 none (some s1)) fun y3 =>
thnH (copyH 1 y2 y3 h) fun y4 h5 =>
thn (binK .int .add s1 y4) fun y6 =>
some (.normal, [s0, y6], h5))
(some ((.exit 0), [s0, s1], h))) := by kernel_rfl

end Go.Proofs.Ytalehbmgbjiigaa
end

section
namespace Go.Proofs.Ytalehbmgbjiigaa
open Go.RowKit
set_option linter.unusedVariables false
set_option linter.unusedSimpArgs false

/-- A new row: one int, so many times. -/
def G_Repeat (ds : List D) (H : Heap) : Option (D × Heap) :=
  match ds with
  | [.hs id 1, .v (.int .i64 k)] =>
    match H[id]? with
    | some (.cells _ 1 [.v (.int .i64 c)]) => if 0 ≤ k ∧ k ≤ 4000000 then some (.hs H.length k.toNat, H ++ [.cells 3 1 (List.replicate k.toNat (iD c))]) else none
    | _ => none
  | _ => none
theorem flat_ones (n : Nat) (d : D) : (List.replicate n [d]).flatten = List.replicate n d := by
  induction n with
  | zero => rfl
  | succ n ih => simp [List.replicate_succ, ih]
theorem getE_last {α : Type} (l : List α) (x : α) : (l ++ [x])[l.length]? = some x := by simp
theorem set_last {α : Type} (l : List α) (x y : α) : (l ++ [x]).set l.length y = l ++ [y] := by simp
theorem take_one_ok (m : Nat) (c : Int) : (List.take m [iD c]).all cellOk = true := List.all_eq_true.2 fun x hx => by
  have := List.mem_of_mem_take hx
  simp only [List.mem_singleton] at this
  subst this; rfl
theorem rep_made (H : Heap) (k : Nat) (hk : k ≤ 4000000) : makeH 3 1 [iD 0] (.v (.int .i64 (k : Int))) (.v (.int .i64 (k : Int))) H = some (.hs H.length k, H ++ [.cells 3 1 (List.replicate k (iD 0))]) := by
  simp only [makeH]
  rw [if_pos ⟨trivial, by omega, by omega, rfl⟩]
  simp only [Int.toNat_natCast, flat_ones, newH]
  have : (List.replicate k (iD 0)).all cellOk = true := by simp [List.all_replicate]
  rw [this]; rfl
theorem rep_first (H : Heap) (id : Nat) (t : TypeId) (c : Int) (hid : H[id]? = some (.cells t 1 [.v (.int .i64 c)])) (k : Nat) : copyH 1 (.hs H.length k) (.hs id 1) (H ++ [.cells 3 1 (List.replicate k (iD 0))]) = some (iD (min 1 k : Nat), H ++ [.cells 3 1 (List.replicate (min 1 k) (iD c) ++ List.replicate (k - min 1 k) (iD 0))]) := by
  have hlt := (List.getElem?_eq_some_iff.1 hid).1
  have h1 : (H ++ [HO.cells 3 1 (List.replicate k (iD 0))])[id]? = some (.cells t 1 [iD c]) := by rw [List.getElem?_append_left hlt]; exact hid
  simp only [copyH, htOf, Option.bind_some, getE_last, srcH, h1]
  simp only [List.length_singleton, Nat.mul_one, Nat.le_refl, and_self, if_true, List.take_succ_cons, List.take_zero, Option.bind_some, Nat.div_one, Nat.zero_add, List.length_replicate, List.nil_append]
  rw [if_pos ⟨by omega, trivial, trivial, take_one_ok _ c⟩]
  simp only [Option.some.injEq, Prod.mk.injEq, true_and, set_last]
  congr 4
  · rcases Nat.eq_zero_or_pos k with h | h
    · subst h; rfl
    · rw [Nat.min_eq_left h]; rfl
  · simp
theorem rep_rounds (H : Heap) (c : Int) (k fuel : Nat) (hk : k ≤ 4000000) : ∀ (m n : Nat), k - n ≤ m → n ≤ k → (0 < k → 0 < n) → ∀ N, m < N →
    iterS (stepF Try.prog T09b kp_slices_Repeat___int_int_ fuel Try.f138 0) N [.hs H.length k, iD n] (H ++ [.cells 3 1 (List.replicate n (iD c) ++ List.replicate (k - n) (iD 0))]) = some (.exit 0, [.hs H.length k, iD k], H ++ [.cells 3 1 (List.replicate k (iD c))]) := by
  intro m
  induction m with
  | zero =>
    intro n h1 h2 h3 N hN
    obtain ⟨N, rfl⟩ : ∃ m, N = m + 1 := ⟨N - 1, by omega⟩
    obtain rfl : n = k := by omega
    refine iterS_exit ?_
    rw [st_slices_Repeat___int_int__0]
    simp
  | succ m ih =>
    intro n h1 h2 h3 N hN
    obtain ⟨N, rfl⟩ : ∃ m, N = m + 1 := ⟨N - 1, by omega⟩
    by_cases hnk : n = k
    · subst hnk
      refine iterS_exit ?_
      rw [st_slices_Repeat___int_int__0]
      simp
    · have hn0 : 0 < n := h3 (by omega)
      have hlt2 : (n : Int) < k := by omega
      have q1 : cutH 1 (.hs H.length k) (some (.v (.int .i64 (n : Int)))) none = some (.ht H.length n (k - n)) := by
        simp [cutH, lowD, highD, show ¬ n = 0 from by omega, show n ≤ k from h2]
      have q2 : cutH 1 (.hs H.length k) none (some (.v (.int .i64 (n : Int)))) = some (.hs H.length n) := by
        simp [cutH, lowD, highD, show n ≤ k from h2]
      have q3 : copyH 1 (.ht H.length n (k - n)) (.hs H.length n) (H ++ [.cells 3 1 (List.replicate n (iD c) ++ List.replicate (k - n) (iD 0))]) =
          some (iD (min n (k - n) : Nat), H ++ [.cells 3 1 (List.replicate (n + min n (k - n)) (iD c) ++ List.replicate (k - (n + min n (k - n))) (iD 0))]) := by
        have hl : (List.replicate n (iD c) ++ List.replicate (k - n) (iD 0)).length = k := by simp; omega
        simp only [copyH, htOf, Option.bind_some, getE_last, srcH, Nat.mul_one, hl]
        rw [if_pos ⟨trivial, h2⟩]
        have ht : (List.replicate n (iD c) ++ List.replicate (k - n) (iD 0)).take n = List.replicate n (iD c) := List.take_left' (by simp)
        simp only [Option.bind_some, ht, List.length_replicate, Nat.div_one]
        rw [if_pos ⟨by omega, trivial, by omega, by simp [List.take_replicate, List.all_replicate]⟩]
        simp only [Option.some.injEq, Prod.mk.injEq, true_and, set_last]
        congr 3
        rw [List.take_replicate, Nat.min_eq_left (Nat.min_le_left _ _), ← List.replicate_append_replicate, List.drop_append]
        simp only [List.length_replicate, List.drop_replicate]
        rw [show n - (n + min n (k - n)) = 0 from by omega, show k - n - (n + min n (k - n) - n) = k - (n + min n (k - n)) from by omega]
        simp
      have e4 := intD_add (n : Int) ((min n (k - n) : Nat) : Int) (by omega) (by omega)
      rw [iterS_go (s' := [.hs H.length k, iD ((n + min n (k - n) : Nat) : Int)]) (H' := H ++ [.cells 3 1 (List.replicate (n + min n (k - n)) (iD c) ++ List.replicate (k - (n + min n (k - n))) (iD 0))])]
      · exact ih (n + min n (k - n)) (by omega) (by omega) (fun _ => by omega) N (by omega)
      · rw [st_slices_Repeat___int_int__0]
        simp only [lenH_hs, thn_some, binK_lss, hlt2, decide_true, condK_bool, if_true, q1, q2, q3, thnH_some, binK_int, e4]
        rfl
theorem C_Repeat : HCallOk Try.prog 138 G_Repeat := by
  refine hcall_text (kp := kp_slices_Repeat___int_int_) T09b_ok mixed Try.func138 (by kernel_rfl) (by decide) fun ds H d H' h => ?_
  unfold G_Repeat at h
  split at h
  case h_2 => cases h
  rename_i id k
  split at h
  case h_2 => cases h
  rename_i t c hid
  split at h
  case isFalse => cases h
  rename_i hk
  cases h
  obtain ⟨k, rfl⟩ := Int.eq_ofNat_of_zero_le hk.1
  have hk' : k ≤ 4000000 := by omega
  refine ⟨k + 2, ?_⟩
  rw [sh_slices_Repeat___int_int_]
  have e1 : (IntKind.u64.wrap (1 : Int)) = 1 := rfl
  have e2 : (IntKind.u64.wrap (k : Int)) = k := u64_wrap _ (by omega) (by omega)
  have e3 : (IntKind.i64.wrap (k : Int)) = k := wrap_in _ (by omega) (by omega)
  have hlt := (List.getElem?_eq_some_iff.1 hid).1
  have n1 : ¬ (k : Int) < 0 := by omega
  have n2 : ¬ (9223372036854775807 : Int) < k := by omega
  have em := rep_made H k hk'
  have ec := rep_first H id t c hid k
  simp only [lenH_hs, thn_some, binK_lss, condK_bool, n1, decide_false, Bool.false_eq_true, if_false, intOf64, e1, e2, Int.natCast_one]
  rw [mul_pure _ _ (by omega) (by omega)]
  simp only [thnH_some, extractD, tupOf, Option.bind_some, List.getElem?_cons_zero, List.getElem?_cons_succ, thn_some, binK_gtr, Int.lt_irrefl, decide_false, condK_bool, Bool.false_eq_true, if_false, n2, intOf64, e3, em, ec]
  have key := rep_rounds H c k (k + 2) hk'
  have hloop : loopF Try.prog T09b kp_slices_Repeat___int_int_ (k + 2) Try.f138 0 [.hs H.length k, iD (min 1 k : Nat)] (H ++ [.cells 3 1 (List.replicate (min 1 k) (iD c) ++ List.replicate (k - min 1 k) (iD 0))]) = some (.exit 0, [.hs H.length k, iD k], H ++ [.cells 3 1 (List.replicate k (iD c))]) :=
    key k (min 1 k) (by omega) (by omega) (by omega) (k + 2) (by omega)
  rw [hloop]
  simp
def fs09c : List Entry := (138, false, G_Repeat) :: fs09b
theorem fs09c_ok : ∀ p ∈ fs09c, EntryOk Try.prog p := entries_cons (entry_obj C_Repeat) <| fs09b_ok
def T09c : Tab := ⟨fs09c, noYl⟩
theorem T09c_ok : TabOk Try.prog T09c := tabOk_of fs09c_ok
end Go.Proofs.Ytalehbmgbjiigaa
end

section
namespace Go.Proofs.Ytalehbmgbjiigaa
open Go.RowKit
set_option linter.unusedVariables false
set_option maxRecDepth 100000

def kp_kinds_asked : List Nat := []
theorem sh_kinds_asked (n : Nat) (x0 x1 x2 x3 : D) (h : Heap) : textK Try.prog T09c kp_kinds_asked n Try.f120 [x0, x1, x2, x3] h =
(thnH (boxH 25 x0 h) fun y0 h1 =>
thnH (boxH 46 x1 h1) fun y2 h3 =>
thn (assertD 142 (.agg [(.v (.slice none 0 0)), (iD 0)]) true x2) fun y4 =>
thn (extractD y4 1) fun y5 =>
thn (extractD y4 0) fun y6 =>
condK y5
(thnH (allocH 142 [(.v (.slice none 0 0)), (iD 0)] h3) fun y7 h8 =>
thnH (setH 2 y7 y6 h8) fun y9 h10 =>
thn (fieldAtH 0 y7) fun y11 =>
thn (loadH none h10 y11) fun y12 =>
some (y12, h10))
(thn (assertD 146 (.agg [(.v (.slice none 0 0)), (iD 0)]) true x2) fun y13 =>
thn (extractD y13 1) fun y14 =>
thn (extractD y13 0) fun y15 =>
condK y14
(thnH (allocH 146 [(.v (.slice none 0 0)), (iD 0)] h3) fun y16 h17 =>
thnH (setH 2 y16 y15 h17) fun y18 h19 =>
thn (fieldAtH 0 y16) fun y20 =>
thn (fieldAtH 0 y20) fun y21 =>
thn (loadH none h19 y21) fun y22 =>
some (y22, h19))
(thn (assertD 144 (.agg [(bD false)]) true x2) fun y23 =>
thn (extractD y23 1) fun y24 =>
thn (extractD y23 0) fun y25 =>
condK y24
(thnH (allocH 144 [(bD false)] h3) fun y26 h27 =>
thnH (setH 1 y26 y25 h27) fun y28 h29 =>
thn (fieldAtH 0 y26) fun y30 =>
thn (loadH none h29 y30) fun y31 =>
condK y31
(thn (fieldAtH 1 y2) fun y32 =>
thn (loadH none h29 y32) fun y33 =>
thn (fieldAtH 1 y0) fun y34 =>
thn (loadH none h29 y34) fun y35 =>
thn (lenH .sl y35) fun y36 =>
thn (binK .int .lss y33 y36) fun y37 =>
condK y37
(thn (fieldAtH 1 y0) fun y38 =>
thn (loadH none h29 y38) fun y39 =>
thn (fieldAtH 1 y2) fun y40 =>
thn (loadH none h29 y40) fun y41 =>
thn (fieldAtH 1 y2) fun y42 =>
thn (loadH none h29 y42) fun y43 =>
thn (binK .int .add y43 (iD 1)) fun y44 =>
thn (cutH 1 y39 (some y41) (some y44)) fun y45 =>
some (y45, h29))
(some ((.v (.slice none 0 0)), h29)))
(some ((.v (.slice none 0 0)), h29)))
(thnH (rowH 3 1 1 [(iD 0)] [(0, (iD 2))] h3) fun y46 h47 =>
thnH (G_Repeat [y46, x3] h47) fun y48 h49 =>
some (y48, h49))))) := by kernel_rfl

end Go.Proofs.Ytalehbmgbjiigaa
end
