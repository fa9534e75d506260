/-
  Parts joined into one text: Sh10i, T10j, Sh10j, T10k, Sh10k, T10l, Sh10l, T10m, Sh10m. No condition.
-/
import Derived.Test.YtbnmkdlmalobaaaCq

section
namespace Go.Proofs.Ytbnmkdlmalobaaa
open Go.RowKit
set_option linter.unusedVariables false
set_option maxRecDepth 100000

def kp_zigzag_Put : List Nat := []
theorem sh_zigzag_Put (n : Nat) (x0 : D) (h : Heap) : textK Try.prog T10i kp_zigzag_Put n Try.f91 [x0] h =
(thnH (liftF F_Zig [x0] h) fun y0 h1 =>
thnH (liftF F_PutN [y0] h1) fun y2 h3 =>
some (y2, h3)) := by kernel_rfl

def kp_wire_Writer__Byte : List Nat := []
theorem sh_wire_Writer__Byte (n : Nat) (x0 x1 : D) (h : Heap) : textK Try.prog T10i kp_wire_Writer__Byte n Try.f56 [x0, x1] h =
(thn (nilD x0) fun y0 =>
thn (fieldAtH 0 y0) fun y1 =>
thn (loadH none h y1) fun y2 =>
thnH (rowH 5 1 1 [(.v (.int .u8 0))] [(0, x1)] h) fun y3 h4 =>
thnH (appendH 5 1 y2 y3 h4) fun y5 h6 =>
thn (nilD x0) fun y7 =>
thn (fieldAtH 0 y7) fun y8 =>
thnH (setH 1 y8 y5 h6) fun y9 h10 =>
some (x0, h10)) := by kernel_rfl

def kp_wire_Writer__Raw : List Nat := []
theorem sh_wire_Writer__Raw (n : Nat) (x0 x1 : D) (h : Heap) : textK Try.prog T10i kp_wire_Writer__Raw n Try.f89 [x0, x1] h =
(thn (nilD x0) fun y0 =>
thn (fieldAtH 0 y0) fun y1 =>
thn (loadH none h y1) fun y2 =>
thnH (appendS 5 1 y2 x1 h) fun y3 h4 =>
thn (nilD x0) fun y5 =>
thn (fieldAtH 0 y5) fun y6 =>
thnH (setH 1 y6 y3 h4) fun y7 h8 =>
some (x0, h8)) := by kernel_rfl

def kp_wire_Writer__Bytes : List Nat := []
theorem sh_wire_Writer__Bytes (n : Nat) (x0 : D) (h : Heap) : textK Try.prog T10i kp_wire_Writer__Bytes n Try.f58 [x0] h =
(thn (nilD x0) fun y0 =>
thn (fieldAtH 0 y0) fun y1 =>
thn (loadH none h y1) fun y2 =>
thn (bytesS h y2) fun y3 =>
some (y3, h)) := by kernel_rfl

def kp_wire_place__End : List Nat := []
theorem sh_wire_place__End (n : Nat) (x0 : D) (h : Heap) : textK Try.prog T10i kp_wire_place__End n Try.f66 [x0] h =
(thn (nilD x0) fun y0 =>
thn (fieldAtH 2 y0) fun y1 =>
thn (loadH none h y1) fun y2 =>
thn (binK .int .eql y2 (iD 0)) fun y3 =>
condK y3
(thn (nilD x0) fun y4 =>
thn (fieldAtH 1 y4) fun y5 =>
thn (loadH none h y5) fun y6 =>
thn (nilD x0) fun y7 =>
thn (fieldAtH 0 y7) fun y8 =>
thn (loadH none h y8) fun y9 =>
thn (lenH .str y9) fun y10 =>
thn (binK .int .lss y6 y10) fun y11 =>
condK y11
(some ((iD 5), h))
(thn (nilD x0) fun y12 =>
thn (fieldAtH 2 y12) fun y13 =>
thn (loadH none h y13) fun y14 =>
some (y14, h)))
(thn (nilD x0) fun y15 =>
thn (fieldAtH 2 y15) fun y16 =>
thn (loadH none h y16) fun y17 =>
some (y17, h))) := by kernel_rfl

def kp_wire_place__move : List Nat := []
theorem sh_wire_place__move (n : Nat) (x0 x1 x2 : D) (h : Heap) : textK Try.prog T10i kp_wire_place__move n Try.f83 [x0, x1, x2] h =
(thn (nilD x0) fun y0 =>
thn (fieldAtH 2 y0) fun y1 =>
thn (loadH none h y1) fun y2 =>
thn (binK .int .eql y2 (iD 0)) fun y3 =>
condK y3
(thn (nilD x0) fun y4 =>
thn (fieldAtH 2 y4) fun y5 =>
thnH (setH 1 y5 x2 h) fun y6 h7 =>
thn (nilD x0) fun y8 =>
thn (fieldAtH 2 y8) fun y9 =>
thn (loadH none h7 y9) fun y10 =>
thn (binK .int .eql y10 (iD 0)) fun y11 =>
condK y11
(thn (nilD x0) fun y12 =>
thn (fieldAtH 1 y12) fun y13 =>
thnH (setH 1 y13 x1 h7) fun y14 h15 =>
thn (nilD x0) fun y16 =>
thn (fieldAtH 2 y16) fun y17 =>
thn (loadH none h15 y17) fun y18 =>
thn (binK .int .eql y18 (iD 0)) fun y19 =>
some (y19, h15))
(thn (nilD x0) fun y20 =>
thn (fieldAtH 2 y20) fun y21 =>
thn (loadH none h7 y21) fun y22 =>
thn (binK .int .eql y22 (iD 0)) fun y23 =>
some (y23, h7)))
(thn (nilD x0) fun y24 =>
thn (fieldAtH 2 y24) fun y25 =>
thn (loadH none h y25) fun y26 =>
thn (binK .int .eql y26 (iD 0)) fun y27 =>
condK y27
(thn (nilD x0) fun y28 =>
thn (fieldAtH 1 y28) fun y29 =>
thnH (setH 1 y29 x1 h) fun y30 h31 =>
thn (nilD x0) fun y32 =>
thn (fieldAtH 2 y32) fun y33 =>
thn (loadH none h31 y33) fun y34 =>
thn (binK .int .eql y34 (iD 0)) fun y35 =>
some (y35, h31))
(thn (nilD x0) fun y36 =>
thn (fieldAtH 2 y36) fun y37 =>
thn (loadH none h y37) fun y38 =>
thn (binK .int .eql y38 (iD 0)) fun y39 =>
some (y39, h)))) := by kernel_rfl

def kp_wire_Reader__count : List Nat := []
theorem sh_wire_Reader__count (n : Nat) (x0 x1 : D) (h : Heap) : textK Try.prog T10i kp_wire_Reader__count n Try.f81 [x0, x1] h =
(thn (nilD x0) fun y0 =>
thn (fieldAtH 0 y0) fun y1 =>
thn (fieldAtH 0 y1) fun y2 =>
thn (loadH none h y2) fun y3 =>
thn (nilD x0) fun y4 =>
thn (fieldAtH 0 y4) fun y5 =>
thn (fieldAtH 1 y5) fun y6 =>
thn (loadH none h y6) fun y7 =>
thnH (liftF F_LebGet [y3, y7] h) fun y8 h9 =>
thn (extractD y8 0) fun y10 =>
thn (extractD y8 1) fun y11 =>
thn (extractD y8 2) fun y12 =>
thn (binK .int .eql y12 (iD 0)) fun y13 =>
condK y13
(thn (binK .int .lss x1 (iD 0)) fun y14 =>
condK y14
(thn (intOf64 .i64 y10) fun y15 =>
some (.tup [y15, y11, (iD 4)], h9))
(thn (intOf64 .u64 x1) fun y16 =>
thn (binK .int .gtr y10 y16) fun y17 =>
condK y17
(thn (intOf64 .i64 y10) fun y18 =>
some (.tup [y18, y11, (iD 4)], h9))
(thn (intOf64 .i64 y10) fun y19 =>
some (.tup [y19, y11, y12], h9))))
(thn (intOf64 .i64 y10) fun y20 =>
some (.tup [y20, y11, y12], h9))) := by kernel_rfl

def kp_wire_Reader__part : List Nat := []
theorem sh_wire_Reader__part (n : Nat) (x0 x1 x2 : D) (h : Heap) : textK Try.prog T10i kp_wire_Reader__part n Try.f95 [x0, x1, x2] h =
(thn (nilD x0) fun y0 =>
thn (fieldAtH 0 y0) fun y1 =>
thn (fieldAtH 0 y1) fun y2 =>
thn (loadH none h y2) fun y3 =>
thn (lenH .str y3) fun y4 =>
thn (binK .int .sub y4 x1) fun y5 =>
thn (binK .int .gtr x2 y5) fun y6 =>
condK y6
(some (.tup [(.v (.string ⟨#[]⟩)), x1, (iD 2)], h))
(thn (nilD x0) fun y7 =>
thn (fieldAtH 0 y7) fun y8 =>
thn (fieldAtH 0 y8) fun y9 =>
thn (loadH none h y9) fun y10 =>
thn (binK .int .add x1 x2) fun y11 =>
thn (cutS y10 (some x1) (some y11)) fun y12 =>
thn (binK .int .add x1 x2) fun y13 =>
some (.tup [y12, y13, (iD 0)], h))) := by kernel_rfl

def kp_code_of : List Nat := []
theorem sh_code_of (n : Nat) (x0 : D) (h : Heap) : textK Try.prog T10i kp_code_of n Try.f57 [x0] h =
(thnH (allocH 69 [(.v .nilFunc), (.v .nilFunc)] h) fun y0 h1 =>
thn (binK .int .eql x0 (iD 1)) fun y2 =>
condK y2
(thn (buildR [(0, 1), (1, 1)] [(.v .nilFunc), (.v .nilFunc)] [(0, (.clo (.func 77) [] [])), (1, (.clo (.func 78) [] []))]) fun y3 =>
thnH (setH 2 y0 y3 h1) fun y4 h5 =>
thn (loadH (some 2) h5 y0) fun y6 =>
some (.tup [y6, (bD true)], h5))
(thn (binK .int .eql x0 (iD 2)) fun y7 =>
condK y7
(thn (buildR [(0, 1), (1, 1)] [(.v .nilFunc), (.v .nilFunc)] [(0, (.clo (.func 54) [] [])), (1, (.clo (.func 79) [] []))]) fun y8 =>
thnH (setH 2 y0 y8 h1) fun y9 h10 =>
thn (loadH (some 2) h10 y0) fun y11 =>
some (.tup [y11, (bD true)], h10))
(thn (binK .int .eql x0 (iD 3)) fun y12 =>
condK y12
(thn (buildR [(0, 1), (1, 1)] [(.v .nilFunc), (.v .nilFunc)] [(0, (.clo (.func 54) [] [])), (1, (.clo (.func 79) [] []))]) fun y13 =>
thnH (setH 2 y0 y13 h1) fun y14 h15 =>
thn (loadH (some 2) h15 y0) fun y16 =>
some (.tup [y16, (bD true)], h15))
(thn (binK .int .eql x0 (iD 4)) fun y17 =>
condK y17
(thn (buildR [(0, 1), (1, 1)] [(.v .nilFunc), (.v .nilFunc)] [(0, (.clo (.func 54) [] [])), (1, (.clo (.func 79) [] []))]) fun y18 =>
thnH (setH 2 y0 y18 h1) fun y19 h20 =>
thn (loadH (some 2) h20 y0) fun y21 =>
some (.tup [y21, (bD true)], h20))
(thn (binK .int .eql x0 (iD 20)) fun y22 =>
condK y22
(thn (buildR [(0, 1), (1, 1)] [(.v .nilFunc), (.v .nilFunc)] [(0, (.clo (.func 54) [] [])), (1, (.clo (.func 79) [] []))]) fun y23 =>
thnH (setH 2 y0 y23 h1) fun y24 h25 =>
thn (loadH (some 2) h25 y0) fun y26 =>
some (.tup [y26, (bD true)], h25))
(thn (binK .int .eql x0 (iD 21)) fun y27 =>
condK y27
(thn (buildR [(0, 1), (1, 1)] [(.v .nilFunc), (.v .nilFunc)] [(0, (.clo (.func 54) [] [])), (1, (.clo (.func 79) [] []))]) fun y28 =>
thnH (setH 2 y0 y28 h1) fun y29 h30 =>
thn (loadH (some 2) h30 y0) fun y31 =>
some (.tup [y31, (bD true)], h30))
(thn (binK .int .eql x0 (iD 22)) fun y32 =>
condK y32
(thn (buildR [(0, 1), (1, 1)] [(.v .nilFunc), (.v .nilFunc)] [(0, (.clo (.func 54) [] [])), (1, (.clo (.func 79) [] []))]) fun y33 =>
thnH (setH 2 y0 y33 h1) fun y34 h35 =>
thn (loadH (some 2) h35 y0) fun y36 =>
some (.tup [y36, (bD true)], h35))
(thn (buildR [(0, 1), (1, 1)] [(.v .nilFunc), (.v .nilFunc)] []) fun y37 =>
thnH (setH 2 y0 y37 h1) fun y38 h39 =>
thn (loadH (some 2) h39 y0) fun y40 =>
some (.tup [y40, (bD false)], h39))))))))) := by kernel_rfl

end Go.Proofs.Ytbnmkdlmalobaaa
end

section
namespace Go.Proofs.Ytbnmkdlmalobaaa
open Go.RowKit
set_option linter.unusedVariables false
set_option linter.unusedSimpArgs false
set_option maxRecDepth 100000

theorem C_PutZ : CallOk Try.prog 91 F_PutZ := call1 (kp := kp_zigzag_Put) T10i_ok mixed Try.func91 (by kernel_rfl) (by decide) fun n d h => by
  split at h
  case isFalse => cases h
  rename_i hn
  cases h
  refine ⟨0, _, ?_, Imp.refl _⟩
  show outD (textK _ _ _ _ _ [iD n] []) = _
  rw [sh_zigzag_Put]
  simp [zig_pure n hn, putN_pure (zigV n) (zig_in n hn.1 hn.2)]

/- The writer. -/
/-- The writer at w has the bytes l; its row lies at B or behind. -/
def WrAt (H : Heap) (w B : Nat) (l : By) : Prop := w < B ∧ B ≤ H.length ∧ ∃ d, H[w]? = some (.cells 107 1 [d]) ∧ Buf 5 1 H B d l.length (bytesC l)
/-- The object k is not the row of the writer at w. -/
def NotRow (H : Heap) (w k : Nat) : Prop := ∀ t sz q, H[w]? ≠ some (.cells t sz [.hs k q])
/-- All stays, but what stands at w, and its row. -/
def KpW (w : Nat) (H H' : Heap) : Prop := H.length ≤ H'.length ∧ ∀ k, k < H.length → k ≠ w → NotRow H w k → H'[k]? = H[k]? ∧ NotRow H' w k
theorem KpW.refl (w : Nat) (H : Heap) : KpW w H H := ⟨Nat.le_refl _, fun _ _ _ h => ⟨rfl, h⟩⟩
theorem KpW.trans {w : Nat} {H H' H'' : Heap} (h : KpW w H H') (k : KpW w H' H'') : KpW w H H'' := ⟨Nat.le_trans h.1 k.1, fun i hi hw hn => by
  have a := h.2 i hi hw hn
  have b := k.2 i (Nat.lt_of_lt_of_le hi h.1) hw a.2
  exact ⟨b.1.trans a.1, b.2⟩⟩
theorem KpW.app (w : Nat) (H t : Heap) (hw : w < H.length) : KpW w H (H ++ t) := ⟨by simp, fun k hk _ hn => ⟨List.getElem?_append_left hk, fun t sz q => by rw [List.getElem?_append_left hw]; exact hn t sz q⟩⟩
/-- Another object is written. -/
theorem KpW.other {w : Nat} {H H' : Heap} (hl : H.length ≤ H'.length) (hw : H'[w]? = H[w]?) (hk : ∀ k, k < H.length → k ≠ w → NotRow H w k → H'[k]? = H[k]?) : KpW w H H' := ⟨hl, fun k h1 h2 h3 => ⟨hk k h1 h2 h3, fun t sz q => by rw [hw]; exact h3 t sz q⟩⟩
theorem WrAt.lt {H : Heap} {w B : Nat} {l : By} (h : WrAt H w B l) : w < H.length := by have := h.1; have := h.2.1; omega
/-- What lies ahead of the writer's rows is none; nor is what is new. -/
theorem WrAt.notRow {H : Heap} {w B : Nat} {l : By} (h : WrAt H w B l) (k : Nat) (hk : k < B ∨ H.length ≤ k) : NotRow H w k := by
  obtain ⟨h1, h2, d, h3, h4⟩ := h
  intro t sz q e
  rw [h3] at e
  cases e
  have := h4.lt
  omega
theorem KpW.grow {H2 H3 : Heap} {w : Nat} {d d' : D} (hw : H2[w]? = some (.cells 107 1 [d])) (hl : H2.length ≤ H3.length) (a4 : ∀ k, k < H2.length → (∀ q, d ≠ .hs k q) → H3[k]? = H2[k]?) (a5 : d' = d ∨ ∃ q, d' = .hs H2.length q) : KpW w H2 (H3.set w (.cells 107 1 [d'])) := by
  have hwl := (List.getElem?_eq_some_iff.1 hw).1
  refine ⟨by simpa using hl, fun k hk hkw hn => ⟨?_, fun t sz q e => ?_⟩⟩
  · rw [List.getElem?_set_ne (by omega)]
    exact a4 k hk fun q e => hn _ _ q (by rw [hw, e])
  · rw [List.getElem?_set_self (by omega)] at e
    cases e
    rcases a5 with e | ⟨q', e⟩
    · exact hn _ _ q (by rw [hw, ← e])
    · cases e; omega
theorem WrAt.app {H : Heap} {w B : Nat} {l : By} (h : WrAt H w B l) (t : Heap) : WrAt (H ++ t) w B l := by
  obtain ⟨h1, h2, d, h3, h4⟩ := h
  exact ⟨h1, by simp; omega, d, by rw [List.getElem?_append_left (by omega)]; exact h3, h4.app t⟩
/-- Objects that are not the writer's are written. -/
theorem WrAt.keep {H H' : Heap} {w B : Nat} {l : By} (h : WrAt H w B l) (hl : H.length ≤ H'.length) (hk : H'[w]? = H[w]?) (hr : ∀ r m d, H[w]? = some (.cells 107 1 [d]) → d = .hs r m → H'[r]? = H[r]?) : WrAt H' w B l := by
  obtain ⟨h1, h2, d, h3, h4⟩ := h
  exact ⟨h1, by omega, d, hk.trans h3, h4.keep fun r m e => hr r m d h3 e⟩
def G_wByte (P : Program) : List D → Heap → Option (D × Heap) := textG P T10i kp_wire_Writer__Byte 0 56
theorem G_wByte_eq (ds : List D) (H : Heap) : G_wByte Try.prog ds H = textK Try.prog T10i kp_wire_Writer__Byte 0 Try.f56 ds H := textG_eq Try.func56 ds H
theorem C_wByte : HCallOk Try.prog 56 (G_wByte Try.prog) := hcall_G T10i_ok mixed Try.func56 (by kernel_rfl) (by decide)
def G_wRaw (P : Program) : List D → Heap → Option (D × Heap) := textG P T10i kp_wire_Writer__Raw 0 89
theorem G_wRaw_eq (ds : List D) (H : Heap) : G_wRaw Try.prog ds H = textK Try.prog T10i kp_wire_Writer__Raw 0 Try.f89 ds H := textG_eq Try.func89 ds H
theorem C_wRaw : HCallOk Try.prog 89 (G_wRaw Try.prog) := hcall_G T10i_ok mixed Try.func89 (by kernel_rfl) (by decide)
def G_wBytes (P : Program) : List D → Heap → Option (D × Heap) := textG P T10i kp_wire_Writer__Bytes 0 58
theorem G_wBytes_eq (ds : List D) (H : Heap) : G_wBytes Try.prog ds H = textK Try.prog T10i kp_wire_Writer__Bytes 0 Try.f58 ds H := textG_eq Try.func58 ds H
theorem C_wBytes : HCallOk Try.prog 58 (G_wBytes Try.prog) := hcall_G T10i_ok mixed Try.func58 (by kernel_rfl) (by decide)
def G_wNew (P : Program) : List D → Heap → Option (D × Heap) := textG P T10b kp_wire_New 0 55
theorem G_wNew_eq (ds : List D) (H : Heap) : G_wNew Try.prog ds H = textK Try.prog T10b kp_wire_New 0 Try.f55 ds H := textG_eq Try.func55 ds H
theorem C_wNew : HCallOk Try.prog 55 (G_wNew Try.prog) := hcall_G T10b_ok mixed Try.func55 (by kernel_rfl) (by decide)
theorem new_ok' (H : Heap) : G_wNew Try.prog [] H = some (.hp H.length 0, H ++ [.cells 107 1 [.v (.slice none 0 0)]]) := by
  rw [G_wNew_eq, sh_wire_New]
  rfl
theorem wr_new (H : Heap) : WrAt (H ++ [.cells 107 1 [.v (.slice none 0 0)]]) H.length (H.length + 1) [] := ⟨by omega, by simp, _, by simp, Buf.nil _ _ _ _⟩
theorem wByte_ok (H : Heap) (w B : Nat) (l : By) (b : UInt8) (h : WrAt H w B l) (hl : l.length + 1 ≤ 4000000) : ∃ H', G_wByte Try.prog [.hp w 0, u8D b] H = some (.hp w 0, H') ∧ WrAt H' w B (l ++ [b]) ∧ KpW w H H' := by
  obtain ⟨h1, h2, d, h3, h4⟩ := h
  have l0 := load_cell0 H w _ _ _ _ h3
  have r0 := row_one b H
  have src : srcH 1 (H ++ [HO.cells 5 1 (bytesC [b])]) (.hs H.length 1) = some (bytesC [b]) := by
    have : (H ++ [HO.cells 5 1 (bytesC [b])])[H.length]? = some (.cells 5 1 (bytesC [b])) := by simp
    simp only [srcH, this]
    rfl
  obtain ⟨d', H3, a1, a2, a3, a4, a5⟩ := app_bytes (h4.app [HO.cells 5 1 (bytesC [b])]) [b] (by simpa using hl) (by simp; omega)
  have ap : appendH 5 1 d (.hs H.length 1) (H ++ [HO.cells 5 1 (bytesC [b])]) = some (d', H3) := by unfold appendH; rw [src, Option.bind_some]; exact a1
  have c0 : H3[w]? = some (.cells 107 1 [d]) := by rw [a3.2 w h1, List.getElem?_append_left (by omega)]; exact h3
  have st := set_cellN H3 w 0 _ _ _ d' c0 (by simp) a2.cells a2.ok
  have hl3 := a3.1
  simp only [List.length_append, List.length_singleton] at hl3
  refine ⟨H3.set w (.cells 107 1 [d']), ?_, ⟨h1, by simp; omega, d', by rw [List.getElem?_set_self (by omega)], a2.set w _ h1⟩, (KpW.app w H _ (by omega)).trans (KpW.grow (by rw [List.getElem?_append_left (by omega)]; exact h3) a3.1 a4 a5)⟩
  rw [G_wByte_eq, sh_wire_Writer__Byte]
  simp only [nilD_hp, thn_some, fieldAt_hp, Nat.add_zero, l0, r0, thnH_some, ap, st, List.set_cons_zero]
theorem wRaw_ok (H : Heap) (w B : Nat) (l m : By) (h : WrAt H w B l) (hl : l.length + m.length ≤ 4000000) : ∃ H', G_wRaw Try.prog [.hp w 0, sD m] H = some (.hp w 0, H') ∧ WrAt H' w B (l ++ m) ∧ KpW w H H' := by
  obtain ⟨h1, h2, d, h3, h4⟩ := h
  have l0 := load_cell0 H w _ _ _ _ h3
  obtain ⟨d', H3, a1, a2, a3, a4, a5⟩ := app_bytes h4 m hl h2
  have ap : appendS 5 1 d (sD m) H = some (d', H3) := by rw [appendS_eq]; exact a1
  have c0 : H3[w]? = some (.cells 107 1 [d]) := by rw [a3.2 w h1]; exact h3
  have st := set_cellN H3 w 0 _ _ _ d' c0 (by simp) a2.cells a2.ok
  have hl3 := a3.1
  refine ⟨H3.set w (.cells 107 1 [d']), ?_, ⟨h1, by simp; omega, d', by rw [List.getElem?_set_self (by omega)], a2.set w _ h1⟩, KpW.grow h3 a3.1 a4 a5⟩
  rw [G_wRaw_eq, sh_wire_Writer__Raw]
  simp only [nilD_hp, thn_some, fieldAt_hp, Nat.add_zero, l0, thnH_some, ap, st, List.set_cons_zero]
theorem wBytes_ok (H : Heap) (w B : Nat) (l : By) (h : WrAt H w B l) : G_wBytes Try.prog [.hp w 0] H = some (sD l, H) := by
  obtain ⟨h1, h2, d, h3, h4⟩ := h
  have l0 := load_cell0 H w _ _ _ _ h3
  rw [G_wBytes_eq, sh_wire_Writer__Bytes]
  simp only [nilD_hp, thn_some, fieldAt_hp, Nat.add_zero, l0, h4.text]

/- The reader. -/
def rdO (s : By) (r : Rd) : HO := .cells 83 3 [sD s, iD r.1, iD r.2]
def G_rOf (P : Program) : List D → Heap → Option (D × Heap) := textG P T10b kp_wire_Of 0 63
theorem G_rOf_eq (ds : List D) (H : Heap) : G_rOf Try.prog ds H = textK Try.prog T10b kp_wire_Of 0 Try.f63 ds H := textG_eq Try.func63 ds H
theorem C_rOf : HCallOk Try.prog 63 (G_rOf Try.prog) := hcall_G T10b_ok mixed Try.func63 (by kernel_rfl) (by decide)
theorem rOf_ok (s : By) (H : Heap) : G_rOf Try.prog [sD s] H = some (.hp H.length 0, H ++ [rdO s (0, 0)]) := by
  rw [G_rOf_eq, sh_wire_Of]
  rfl
def G_rEnd (P : Program) : List D → Heap → Option (D × Heap) := textG P T10i kp_wire_place__End 0 66
theorem G_rEnd_eq (ds : List D) (H : Heap) : G_rEnd Try.prog ds H = textK Try.prog T10i kp_wire_place__End 0 Try.f66 ds H := textG_eq Try.func66 ds H
theorem C_rEnd : HCallOk Try.prog 66 (G_rEnd Try.prog) := hcall_G T10i_ok mixed Try.func66 (by kernel_rfl) (by decide)
theorem rd_load (s : By) (r : Rd) (H : Heap) (i : Nat) (h : H[i]? = some (rdO s r)) : loadH none H (.hp i 0) = some (sD s) ∧ loadH none H (.hp i 1) = some (iD r.1) ∧ loadH none H (.hp i 2) = some (iD r.2) :=
  ⟨load_cellN H i 0 _ _ _ _ h rfl, load_cellN H i 1 _ _ _ _ h rfl, load_cellN H i 2 _ _ _ _ h rfl⟩
theorem rEnd_ok (s : By) (r : Rd) (H : Heap) (i : Nat) (h : H[i]? = some (rdO s r)) : G_rEnd Try.prog [.hp i 0] H = some (iD (endE s r), H) := by
  obtain ⟨l0, l1, l2⟩ := rd_load s r H i h
  unfold endE
  rw [G_rEnd_eq, sh_wire_place__End]
  by_cases he : r.2 = 0
  · by_cases hl : r.1 < s.length
    · simp [-loadH_hp, l0, l1, l2, he, hl]
    · simp [-loadH_hp, l0, l1, l2, he, hl]
  · simp [-loadH_hp, l0, l1, l2, he]
def G_rMove (P : Program) : List D → Heap → Option (D × Heap) := textG P T10i kp_wire_place__move 0 83
theorem G_rMove_eq (ds : List D) (H : Heap) : G_rMove Try.prog ds H = textK Try.prog T10i kp_wire_place__move 0 Try.f83 ds H := textG_eq Try.func83 ds H
theorem C_rMove : HCallOk Try.prog 83 (G_rMove Try.prog) := hcall_G T10i_ok mixed Try.func83 (by kernel_rfl) (by decide)
theorem set_same {α : Type} (H : List α) (i : Nat) (o : α) (h : H[i]? = some o) : H.set i o = H := by
  apply List.ext_getElem?
  intro j
  by_cases e : i = j
  · subst e
    rw [List.getElem?_set_self (List.getElem?_eq_some_iff.1 h).1, h]
  · rw [List.getElem?_set_ne e]
theorem rMove_ok (s : By) (r : Rd) (H : Heap) (i : Nat) (h : H[i]? = some (rdO s r)) (to : Nat) (e : Int) : G_rMove Try.prog [.hp i 0, iD to, iD e] H = some (bD (decide ((moveV r to e).2 = 0)), H.set i (rdO s (moveV r to e))) := by
  obtain ⟨l0, l1, l2⟩ := rd_load s r H i h
  have hi := (List.getElem?_eq_some_iff.1 h).1
  unfold moveV
  rw [G_rMove_eq, sh_wire_place__move]
  by_cases he : r.2 = 0
  · have s1 := set_cellN H i 2 _ _ _ (iD e) h (by simp) rfl rfl
    have e1 : ([sD s, iD r.1, iD r.2] : List D).set 2 (iD e) = [sD s, iD r.1, iD e] := rfl
    rw [e1] at s1
    have g1 : (H.set i (.cells 83 3 [sD s, iD r.1, iD e]))[i]? = some (rdO s (r.1, e)) := by rw [List.getElem?_set_self hi]; rfl
    obtain ⟨m0, m1, m2⟩ := rd_load s (r.1, e) _ i g1
    by_cases hz : e = 0
    · subst hz
      have s2 := set_cellN _ i 1 _ _ _ (iD to) g1 (by simp) rfl rfl
      have e2 : ([sD s, iD (r.1, (0 : Int)).1, iD (r.1, (0 : Int)).2] : List D).set 1 (iD to) = [sD s, iD to, iD 0] := rfl
      rw [e2, List.set_set] at s2
      have g2 : (H.set i (.cells 83 3 [sD s, iD to, iD 0]))[i]? = some (rdO s (to, 0)) := by rw [List.getElem?_set_self hi]; rfl
      obtain ⟨n0, n1, n2⟩ := rd_load s (to, 0) _ i g2
      simp only at n2 m2
      simp [-loadH_hp, l2, he, s1, m2, s2, n2]
      rfl
    · simp only at m2
      simp [-loadH_hp, l2, he, s1, m2, hz]
      rfl
  · have e1 : H.set i (rdO s r) = H := set_same H i _ h
    simp [-loadH_hp, l2, he, e1]
def G_rcount (P : Program) : List D → Heap → Option (D × Heap) := textG P T10i kp_wire_Reader__count 0 81
theorem G_rcount_eq (ds : List D) (H : Heap) : G_rcount Try.prog ds H = textK Try.prog T10i kp_wire_Reader__count 0 Try.f81 ds H := textG_eq Try.func81 ds H
theorem C_rcount : HCallOk Try.prog 81 (G_rcount Try.prog) := hcall_G T10i_ok mixed Try.func81 (by kernel_rfl) (by decide)
theorem rcount_ok (s : By) (r : Rd) (H : Heap) (i : Nat) (h : H[i]? = some (rdO s r)) (hr : r.1 ≤ s.length) (hs : s.length ≤ 3000000) (most : Int) (hm : 0 ≤ most) (hm2 : most ≤ 1000000) :
    G_rcount Try.prog [.hp i 0, iD most] H = some (.tup [iD (IntKind.i64.wrap (lebV s r.1).1), iD (lebV s r.1).2.1, iD (cntE (lebV s r.1) most)], H) := by
  obtain ⟨l0, l1, l2⟩ := rd_load s r H i h
  have hg := lebGet_pure s (r.1 : Int) hs
  rw [if_pos ⟨by omega, by omega⟩] at hg
  simp only [Int.toNat_natCast] at hg
  have hw : intOf64 .i64 (u64D (lebV s r.1).1) = some (iD (IntKind.i64.wrap (lebV s r.1).1)) := rfl
  have hu : intOf64 .u64 (iD most) = some (u64D most) := u64_of _ _ hm (by omega)
  have hm3 : ¬ most < 0 := by omega
  unfold cntE
  rw [G_rcount_eq, sh_wire_Reader__count]
  by_cases he : (lebV s r.1).2.2 = 0
  · by_cases hn : most < (lebV s r.1).1
    · simp [-loadH_hp, l0, l1, hg, hw, hu, hm3, he, hn]
    · simp [-loadH_hp, l0, l1, hg, hw, hu, hm3, he, hn]
  · simp [-loadH_hp, l0, l1, hg, hw, hu, hm3, he]
def G_rPart (P : Program) : List D → Heap → Option (D × Heap) := textG P T10i kp_wire_Reader__part 0 95
theorem G_rPart_eq (ds : List D) (H : Heap) : G_rPart Try.prog ds H = textK Try.prog T10i kp_wire_Reader__part 0 Try.f95 ds H := textG_eq Try.func95 ds H
theorem C_rPart : HCallOk Try.prog 95 (G_rPart Try.prog) := hcall_G T10i_ok mixed Try.func95 (by kernel_rfl) (by decide)
theorem rPart_ok (s : By) (r : Rd) (H : Heap) (i : Nat) (h : H[i]? = some (rdO s r)) (a n : Nat) (ha : a ≤ s.length) (hs : s.length ≤ 3000000) (hn : n ≤ 3000000) :
    G_rPart Try.prog [.hp i 0, iD a, iD n] H = some (if s.length - a < n then .tup [sD [], iD a, iD 2] else .tup [sD ((s.drop a).take n), iD (a + n : Nat), iD 0], H) := by
  obtain ⟨l0, l1, l2⟩ := rd_load s r H i h
  have e1 := intD_sub (s.length : Int) (a : Int) (by omega) (by omega)
  have e2 := intD_add (a : Int) (n : Int) (by omega) (by omega)
  rw [G_rPart_eq, sh_wire_Reader__part]
  by_cases hn' : s.length - a < n
  · have e3 : (s.length : Int) - a < n := by omega
    simp [-loadH_hp, l0, e1, e3, hn', sD_nil]
  · have e3 : ¬ (s.length : Int) - a < n := by omega
    have hc := str_cut s a (a + n) (by omega) (by omega)
    have e4 : ((s.take (a + n)).drop a) = (s.drop a).take n := by rw [List.drop_take]; congr 1; omega
    rw [e4, Int.natCast_add] at hc
    simp [-loadH_hp, l0, e1, e3, hn', e2, hc]
/-- How a tag's number is told. -/
def F_codeOf : List D → Option D := F1 intT fun t => some (
  if kindN t = 2 then .tup [.agg [.clo (.func 77) [] [], .clo (.func 78) [] []], bD true]
  else if kindN t = 1 then .tup [.agg [.clo (.func 54) [] [], .clo (.func 79) [] []], bD true]
  else .tup [.agg [.v .nilFunc, .v .nilFunc], bD false])
theorem C_codeOf : CallOk Try.prog 57 F_codeOf := call1 (kp := kp_code_of) T10i_ok mixed Try.func57 (by kernel_rfl) (by decide) fun t d h => by
  cases h
  refine ⟨0, _, ?_, Imp.refl _⟩
  show outD (textK _ _ _ _ _ [iD t] []) = _
  rw [sh_code_of]
  unfold kindN
  have b1 : buildR [(0, 1), (1, 1)] [.v .nilFunc, .v .nilFunc] [(0, .clo (.func 77) [] []), (1, .clo (.func 78) [] [])] = some (.agg [.clo (.func 77) [] [], .clo (.func 78) [] []]) := rfl
  have b2 : buildR [(0, 1), (1, 1)] [.v .nilFunc, .v .nilFunc] [(0, .clo (.func 54) [] []), (1, .clo (.func 79) [] [])] = some (.agg [.clo (.func 54) [] [], .clo (.func 79) [] []]) := rfl
  have b3 : buildR [(0, 1), (1, 1)] [.v .nilFunc, .v .nilFunc] [] = some (.agg [.v .nilFunc, .v .nilFunc]) := rfl
  have pc : ∀ f : Fn, pureD (.clo f [] []) = true := fun _ => rfl
  by_cases h1 : t = 1
  · simp [h1, allocH, newH, setH, storeH, b1, pc]
  by_cases h2 : t = 2
  · simp [h2, allocH, newH, setH, storeH, b2, pc]
  by_cases h3 : t = 3
  · simp [h3, allocH, newH, setH, storeH, b2, pc]
  by_cases h4 : t = 4
  · simp [h4, allocH, newH, setH, storeH, b2, pc]
  by_cases h5 : t = 20
  · simp [h5, allocH, newH, setH, storeH, b2, pc]
  by_cases h6 : t = 21
  · simp [h6, allocH, newH, setH, storeH, b2, pc]
  by_cases h7 : t = 22
  · simp [h7, allocH, newH, setH, storeH, b2, pc]
  simp [h1, h2, h3, h4, h5, h6, h7, allocH, newH, setH, storeH, b3, pc]
def fs10j (P : Program) : List Entry := (91, true, liftF F_PutZ) :: (56, false, G_wByte P) :: (89, false, G_wRaw P) :: (58, false, G_wBytes P) :: (55, false, G_wNew P) :: (63, false, G_rOf P) ::
  (66, false, G_rEnd P) :: (83, false, G_rMove P) :: (81, false, G_rcount P) :: (95, false, G_rPart P) :: (57, true, liftF F_codeOf) :: fs10i
theorem fs10j_ok : ∀ p ∈ fs10j Try.prog, EntryOk Try.prog p := entries_cons (entry_lift C_PutZ) (entries_cons (entry_obj C_wByte) (entries_cons (entry_obj C_wRaw) (entries_cons (entry_obj C_wBytes) (entries_cons (entry_obj C_wNew) (entries_cons (entry_obj C_rOf)
  (entries_cons (entry_obj C_rEnd) (entries_cons (entry_obj C_rMove) (entries_cons (entry_obj C_rcount) (entries_cons (entry_obj C_rPart) (entries_cons (entry_lift C_codeOf) fs10i_ok))))))))))
def T10j (P : Program) : Tab := ⟨fs10j P, noYl⟩
theorem T10j_ok : TabOk Try.prog (T10j Try.prog) := tabOk_of fs10j_ok
end Go.Proofs.Ytbnmkdlmalobaaa
end

section
namespace Go.Proofs.Ytbnmkdlmalobaaa
open Go.RowKit
set_option linter.unusedVariables false
set_option maxRecDepth 100000

def kp_wire_Writer__Num : List Nat := []
theorem sh_wire_Writer__Num (n : Nat) (x0 x1 : D) (h : Heap) : textK Try.prog (T10j Try.prog) kp_wire_Writer__Num n Try.f76 [x0, x1] h =
(thnH (liftF F_PutN [x1] h) fun y0 h1 =>
thnH ((G_wRaw Try.prog) [x0, y0] h1) fun y2 h3 =>
some (y2, h3)) := by kernel_rfl

def kp_wire_Writer__Int : List Nat := []
theorem sh_wire_Writer__Int (n : Nat) (x0 x1 : D) (h : Heap) : textK Try.prog (T10j Try.prog) kp_wire_Writer__Int n Try.f77 [x0, x1] h =
(thnH (liftF F_PutZ [x1] h) fun y0 h1 =>
thnH ((G_wRaw Try.prog) [x0, y0] h1) fun y2 h3 =>
some (y2, h3)) := by kernel_rfl

def kp_wire_took_int_ : List Nat := []
theorem sh_wire_took_int_ (n : Nat) (x0 x1 x2 x3 : D) (h : Heap) : textK Try.prog (T10j Try.prog) kp_wire_took_int_ n Try.f82 [x0, x1, x2, x3] h =
(thnH (callClo (T10j Try.prog) x0 [x2, x3] h) fun y0 h1 =>
condK y0
(some (x1, h1))
(some ((iD 0), h1))) := by kernel_rfl

def kp_wire_took_string_ : List Nat := []
theorem sh_wire_took_string_ (n : Nat) (x0 x1 x2 x3 : D) (h : Heap) : textK Try.prog (T10j Try.prog) kp_wire_took_string_ n Try.f94 [x0, x1, x2, x3] h =
(thnH (callClo (T10j Try.prog) x0 [x2, x3] h) fun y0 h1 =>
condK y0
(some (x1, h1))
(some ((.v (.string ⟨#[]⟩)), h1))) := by kernel_rfl

end Go.Proofs.Ytbnmkdlmalobaaa
end

section
namespace Go.Proofs.Ytbnmkdlmalobaaa
open Go.RowKit
set_option linter.unusedVariables false
set_option linter.unusedSimpArgs false
set_option maxRecDepth 100000

theorem putZ_pure (n : Int) (h : -9223372036854775808 ≤ n ∧ n ≤ 9223372036854775807) (H : Heap) : liftF F_PutZ [iD n] H = some (sD (putV (zigV n)), H) := by
  rw [liftF_pure _ _ _ rfl]
  have : F_PutZ [iD n] = _ := f1_enc (A := intT) _ n
  rw [this, if_pos h]; rfl
def G_wNum (P : Program) : List D → Heap → Option (D × Heap) := textG P (T10j P) kp_wire_Writer__Num 0 76
theorem G_wNum_eq (ds : List D) (H : Heap) : G_wNum Try.prog ds H = textK Try.prog (T10j Try.prog) kp_wire_Writer__Num 0 Try.f76 ds H := textG_eq Try.func76 ds H
theorem C_wNum : HCallOk Try.prog 76 (G_wNum Try.prog) := hcall_G T10j_ok mixed Try.func76 (by kernel_rfl) (by decide)
theorem wNum_ok (H : Heap) (w B : Nat) (l : By) (n : Int) (hn : 0 ≤ n ∧ n ≤ 18446744073709551615) (h : WrAt H w B l) (hl : l.length + 10 ≤ 4000000) : ∃ H', G_wNum Try.prog [.hp w 0, u64D n] H = some (.hp w 0, H') ∧ WrAt H' w B (l ++ putV n) ∧ KpW w H H' := by
  obtain ⟨H', h1, h2, h3⟩ := wRaw_ok H w B l (putV n) h (by have := (putV_len n).2; omega)
  refine ⟨H', ?_, h2, h3⟩
  rw [G_wNum_eq, sh_wire_Writer__Num]
  simp only [putN_pure n hn, thnH_some, h1]
def G_wInt (P : Program) : List D → Heap → Option (D × Heap) := textG P (T10j P) kp_wire_Writer__Int 0 77
theorem G_wInt_eq (ds : List D) (H : Heap) : G_wInt Try.prog ds H = textK Try.prog (T10j Try.prog) kp_wire_Writer__Int 0 Try.f77 ds H := textG_eq Try.func77 ds H
theorem C_wInt : HCallOk Try.prog 77 (G_wInt Try.prog) := hcall_G T10j_ok mixed Try.func77 (by kernel_rfl) (by decide)
theorem wInt_ok (H : Heap) (w B : Nat) (l : By) (n : Int) (hn : -9223372036854775808 ≤ n ∧ n ≤ 9223372036854775807) (h : WrAt H w B l) (hl : l.length + 10 ≤ 4000000) : ∃ H', G_wInt Try.prog [.hp w 0, iD n] H = some (.hp w 0, H') ∧ WrAt H' w B (l ++ putV (zigV n)) ∧ KpW w H H' := by
  obtain ⟨H', h1, h2, h3⟩ := wRaw_ok H w B l (putV (zigV n)) h (by have := (putV_len (zigV n)).2; omega)
  refine ⟨H', ?_, h2, h3⟩
  rw [G_wInt_eq, sh_wire_Writer__Int]
  simp only [putZ_pure n hn, thnH_some, h1]
def moveC (i : Nat) : D := .clo (.func 83) [.hp i 0] []
theorem moveC_ok (s : By) (r : Rd) (H : Heap) (i : Nat) (h : H[i]? = some (rdO s r)) (to : Nat) (e : Int) : callClo (T10j Try.prog) (moveC i) [iD to, iD e] H = some (bD (decide ((moveV r to e).2 = 0)), H.set i (rdO s (moveV r to e))) := by
  have : callClo (T10j Try.prog) (moveC i) [iD to, iD e] H = G_rMove Try.prog [.hp i 0, iD to, iD e] H := rfl
  rw [this]
  exact rMove_ok s r H i h to e
def G_tookI (P : Program) : List D → Heap → Option (D × Heap) := textG P (T10j P) kp_wire_took_int_ 0 82
theorem G_tookI_eq (ds : List D) (H : Heap) : G_tookI Try.prog ds H = textK Try.prog (T10j Try.prog) kp_wire_took_int_ 0 Try.f82 ds H := textG_eq Try.func82 ds H
theorem C_tookI : HCallOk Try.prog 82 (G_tookI Try.prog) := hcall_G T10j_ok mixed Try.func82 (by kernel_rfl) (by decide)
theorem tookI_ok (s : By) (r : Rd) (H : Heap) (i : Nat) (h : H[i]? = some (rdO s r)) (x : D) (to : Nat) (e : Int) : G_tookI Try.prog [moveC i, x, iD to, iD e] H = some (if (moveV r to e).2 = 0 then x else iD 0, H.set i (rdO s (moveV r to e))) := by
  rw [G_tookI_eq, sh_wire_took_int_]
  simp only [moveC_ok s r H i h, thnH_some, condK_bool, decide_eq_true_eq]
  split <;> rfl
def G_tookS (P : Program) : List D → Heap → Option (D × Heap) := textG P (T10j P) kp_wire_took_string_ 0 94
theorem G_tookS_eq (ds : List D) (H : Heap) : G_tookS Try.prog ds H = textK Try.prog (T10j Try.prog) kp_wire_took_string_ 0 Try.f94 ds H := textG_eq Try.func94 ds H
theorem C_tookS : HCallOk Try.prog 94 (G_tookS Try.prog) := hcall_G T10j_ok mixed Try.func94 (by kernel_rfl) (by decide)
theorem tookS_ok (s : By) (r : Rd) (H : Heap) (i : Nat) (h : H[i]? = some (rdO s r)) (x : By) (to : Nat) (e : Int) : G_tookS Try.prog [moveC i, sD x, iD to, iD e] H = some (sD (if (moveV r to e).2 = 0 then x else []), H.set i (rdO s (moveV r to e))) := by
  rw [G_tookS_eq, sh_wire_took_string_]
  simp only [moveC_ok s r H i h, thnH_some, condK_bool, decide_eq_true_eq]
  split <;> rfl
def fs10k (P : Program) : List Entry := (76, false, G_wNum P) :: (77, false, G_wInt P) :: (82, false, G_tookI P) :: (94, false, G_tookS P) :: fs10j P
theorem fs10k_ok : ∀ p ∈ fs10k Try.prog, EntryOk Try.prog p := entries_cons (entry_obj C_wNum) (entries_cons (entry_obj C_wInt) (entries_cons (entry_obj C_tookI) (entries_cons (entry_obj C_tookS) fs10j_ok)))
def T10k (P : Program) : Tab := ⟨fs10k P, noYl⟩
theorem T10k_ok : TabOk Try.prog (T10k Try.prog) := tabOk_of fs10k_ok
end Go.Proofs.Ytbnmkdlmalobaaa
end

section
namespace Go.Proofs.Ytbnmkdlmalobaaa
open Go.RowKit
set_option linter.unusedVariables false
set_option maxRecDepth 100000

def kp_code_num : List Nat := []
theorem sh_code_num (n : Nat) (x0 x1 : D) (h : Heap) : textK Try.prog (T10k Try.prog) kp_code_num n Try.f54 [x0, x1] h =
(thn (intOf64 .u64 x1) fun y0 =>
thnH ((G_wNum Try.prog) [x0, y0] h) fun y1 h2 =>
some (y1, h2)) := by kernel_rfl

def kp_wire_Reader__Count : List Nat := []
theorem sh_wire_Reader__Count (n : Nat) (x0 x1 : D) (h : Heap) : textK Try.prog (T10k Try.prog) kp_wire_Reader__Count n Try.f64 [x0, x1] h =
(thnH ((G_rcount Try.prog) [x0, x1] h) fun y0 h1 =>
thn (extractD y0 0) fun y2 =>
thn (extractD y0 1) fun y3 =>
thn (extractD y0 2) fun y4 =>
thn (nilD x0) fun y5 =>
thn (fieldAtH 0 y5) fun y6 =>
thnH ((G_tookI Try.prog) [(.clo (.func 83) [y6] []), y2, y3, y4] h1) fun y7 h8 =>
some (y7, h8)) := by kernel_rfl

def kp_wire_Reader__Raw : List Nat := []
theorem sh_wire_Reader__Raw (n : Nat) (x0 x1 : D) (h : Heap) : textK Try.prog (T10k Try.prog) kp_wire_Reader__Raw n Try.f84 [x0, x1] h =
(thn (binK .int .lss x1 (iD 0)) fun y0 =>
condK y0
(thn (nilD x0) fun y1 =>
thn (fieldAtH 0 y1) fun y2 =>
thn (nilD x0) fun y3 =>
thn (fieldAtH 0 y3) fun y4 =>
thn (fieldAtH 1 y4) fun y5 =>
thn (loadH none h y5) fun y6 =>
thnH ((G_tookS Try.prog) [(.clo (.func 83) [y2] []), (.v (.string ⟨#[]⟩)), y6, (iD 1)] h) fun y7 h8 =>
some (y7, h8))
(thn (nilD x0) fun y9 =>
thn (fieldAtH 0 y9) fun y10 =>
thn (fieldAtH 1 y10) fun y11 =>
thn (loadH none h y11) fun y12 =>
thnH ((G_rPart Try.prog) [x0, y12, x1] h) fun y13 h14 =>
thn (extractD y13 0) fun y15 =>
thn (extractD y13 1) fun y16 =>
thn (extractD y13 2) fun y17 =>
thn (nilD x0) fun y18 =>
thn (fieldAtH 0 y18) fun y19 =>
thnH ((G_tookS Try.prog) [(.clo (.func 83) [y19] []), y15, y16, y17] h14) fun y20 h21 =>
some (y20, h21))) := by kernel_rfl

def kp_wire_Reader__Int : List Nat := []
theorem sh_wire_Reader__Int (n : Nat) (x0 : D) (h : Heap) : textK Try.prog (T10k Try.prog) kp_wire_Reader__Int n Try.f78 [x0] h =
(thn (nilD x0) fun y0 =>
thn (fieldAtH 0 y0) fun y1 =>
thn (fieldAtH 0 y1) fun y2 =>
thn (loadH none h y2) fun y3 =>
thn (nilD x0) fun y4 =>
thn (fieldAtH 0 y4) fun y5 =>
thn (fieldAtH 1 y5) fun y6 =>
thn (loadH none h y6) fun y7 =>
thnH (liftF F_ZigGet [y3, y7] h) fun y8 h9 =>
thn (extractD y8 0) fun y10 =>
thn (extractD y8 1) fun y11 =>
thn (extractD y8 2) fun y12 =>
thn (nilD x0) fun y13 =>
thn (fieldAtH 0 y13) fun y14 =>
thnH ((G_tookI Try.prog) [(.clo (.func 83) [y14] []), y10, y11, y12] h9) fun y15 h16 =>
some (y15, h16)) := by kernel_rfl

end Go.Proofs.Ytbnmkdlmalobaaa
end

section
namespace Go.Proofs.Ytbnmkdlmalobaaa
open Go.RowKit
set_option linter.unusedVariables false
set_option linter.unusedSimpArgs false
set_option maxRecDepth 100000

def G_num (P : Program) : List D → Heap → Option (D × Heap) := textG P (T10k P) kp_code_num 0 54
theorem G_num_eq (ds : List D) (H : Heap) : G_num Try.prog ds H = textK Try.prog (T10k Try.prog) kp_code_num 0 Try.f54 ds H := textG_eq Try.func54 ds H
theorem C_num : HCallOk Try.prog 54 (G_num Try.prog) := hcall_G T10k_ok mixed Try.func54 (by kernel_rfl) (by decide)
theorem num_ok (H : Heap) (w B : Nat) (l : By) (n : Int) (hn : 0 ≤ n ∧ n ≤ 9223372036854775807) (h : WrAt H w B l) (hl : l.length + 10 ≤ 4000000) : ∃ H', G_num Try.prog [.hp w 0, iD n] H = some (.hp w 0, H') ∧ WrAt H' w B (l ++ putV n) ∧ KpW w H H' := by
  obtain ⟨H', h1, h2, h3⟩ := wNum_ok H w B l n (by omega) h hl
  refine ⟨H', ?_, h2, h3⟩
  have hu : intOf64 .u64 (iD n) = some (u64D n) := u64_of _ _ hn.1 (by omega)
  rw [G_num_eq, sh_code_num]
  simp only [hu, thn_some, h1, thnH_some]
def G_rCount (P : Program) : List D → Heap → Option (D × Heap) := textG P (T10k P) kp_wire_Reader__Count 0 64
theorem G_rCount_eq (ds : List D) (H : Heap) : G_rCount Try.prog ds H = textK Try.prog (T10k Try.prog) kp_wire_Reader__Count 0 Try.f64 ds H := textG_eq Try.func64 ds H
theorem C_rCount : HCallOk Try.prog 64 (G_rCount Try.prog) := hcall_G T10k_ok mixed Try.func64 (by kernel_rfl) (by decide)
theorem moveV_ok {r : Rd} {to : Nat} {e : Int} (h : (moveV r to e).2 = 0) : e = 0 ∧ r.2 = 0 := by
  unfold moveV at h
  split at h
  · rename_i h1
    split at h
    · rename_i h2; exact ⟨h2, h1⟩
    · rename_i h2; exact absurd h h2
  · rename_i h1; exact absurd h h1
theorem rCount_ok (s : By) (r : Rd) (H : Heap) (i : Nat) (h : H[i]? = some (rdO s r)) (hr : r.1 ≤ s.length) (hs : s.length ≤ 3000000) (most : Int) (hm : 0 ≤ most) (hm2 : most ≤ 1000000) :
    G_rCount Try.prog [.hp i 0, iD most] H = some (iD (cntV s r most).1, H.set i (rdO s (cntV s r most).2)) := by
  have h1 := rcount_ok s r H i h hr hs most hm hm2
  have h2 := tookI_ok s r H i h (iD (IntKind.i64.wrap (lebV s r.1).1)) (lebV s r.1).2.1 (cntE (lebV s r.1) most)
  have hv : (if (moveV r (lebV s r.1).2.1 (cntE (lebV s r.1) most)).2 = 0 then iD (IntKind.i64.wrap (lebV s r.1).1) else iD 0) = iD (cntV s r most).1 := by
    unfold cntV
    split
    · rename_i hz
      have := (moveV_ok hz).1
      unfold cntE at this
      split at this
      · cases this
      · rename_i hc
        have hl := lebV_range s r.1
        have : (lebV s r.1).1 ≤ most := by
          have hn : ¬ (most < 0 ∨ most < (lebV s r.1).1) := fun hh => hc ⟨this, hh⟩
          omega
        rw [wrap_in _ (by omega) (by omega)]
    · rfl
  rw [G_rCount_eq, sh_wire_Reader__Count]
  have hc : D.clo (.func 83) [.hp i 0] [] = moveC i := rfl
  simp only [h1, thnH_some, ext0, ext1, ext2, thn_some, nilD_hp, fieldAt_hp, Nat.add_zero, hc, h2, hv]
  rfl
/-- So many bytes, or what is wrong. -/
def rawV (s : By) (r : Rd) (n : Nat) : By × Rd := if s.length - r.1 < n then ([], moveV r r.1 2) else ((if r.2 = 0 then (s.drop r.1).take n else []), moveV r (r.1 + n) 0)
def G_rRaw (P : Program) : List D → Heap → Option (D × Heap) := textG P (T10k P) kp_wire_Reader__Raw 0 84
theorem G_rRaw_eq (ds : List D) (H : Heap) : G_rRaw Try.prog ds H = textK Try.prog (T10k Try.prog) kp_wire_Reader__Raw 0 Try.f84 ds H := textG_eq Try.func84 ds H
theorem C_rRaw : HCallOk Try.prog 84 (G_rRaw Try.prog) := hcall_G T10k_ok mixed Try.func84 (by kernel_rfl) (by decide)
theorem rRaw_ok (s : By) (r : Rd) (H : Heap) (i : Nat) (h : H[i]? = some (rdO s r)) (hr : r.1 ≤ s.length) (hs : s.length ≤ 3000000) (n : Nat) (hn : n ≤ 3000000) :
    G_rRaw Try.prog [.hp i 0, iD n] H = some (sD (rawV s r n).1, H.set i (rdO s (rawV s r n).2)) := by
  have h1 := rPart_ok s r H i h r.1 n hr hs hn
  obtain ⟨l0, l1, l2⟩ := rd_load s r H i h
  have hc : D.clo (.func 83) [.hp i 0] [] = moveC i := rfl
  have hn0 : ¬ (n : Int) < 0 := by omega
  unfold rawV
  rw [G_rRaw_eq, sh_wire_Reader__Raw]
  by_cases hl : s.length - r.1 < n
  · rw [if_pos hl] at h1 ⊢
    have h2 := tookS_ok s r H i h [] r.1 2
    simp only [binK_lss, thn_some, condK_bool, decide_eq_true_eq, hn0, if_false, nilD_hp, fieldAt_hp, Nat.add_zero, Nat.zero_add, l1, h1, thnH_some, ext0, ext1, ext2, hc, h2, ite_self]
  · rw [if_neg hl] at h1 ⊢
    have h2 := tookS_ok s r H i h ((s.drop r.1).take n) (r.1 + n) 0
    have hv : (if (moveV r (r.1 + n) 0).2 = 0 then (s.drop r.1).take n else []) = (if r.2 = 0 then (s.drop r.1).take n else []) := by
      by_cases he : r.2 = 0
      · rw [if_pos he, if_pos (by unfold moveV; rw [if_pos he]; rfl)]
      · rw [if_neg he, if_neg (by unfold moveV; rw [if_neg he]; exact he)]
    rw [hv] at h2
    simp only [binK_lss, thn_some, condK_bool, decide_eq_true_eq, hn0, if_false, nilD_hp, fieldAt_hp, Nat.add_zero, Nat.zero_add, l1, h1, thnH_some, ext0, ext1, ext2, hc, h2]
theorem zigGet_pure (s : By) (i : Nat) (hi : i ≤ s.length) (hs : s.length ≤ 3000000) (H : Heap) : liftF F_ZigGet [sD s, iD i] H = some (if (lebV s i).2.2 = 0 then .tup [iD (zagV (lebV s i).1), iD (lebV s i).2.1, iD 0] else .tup [iD 0, iD i, iD (lebV s i).2.2], H) := by
  rw [liftF_pure _ _ _ rfl]
  have : F_ZigGet [sD s, iD i] = _ := f2_enc (A := strT) (B := intT) _ s (i : Int)
  rw [this, if_pos ⟨by omega, by omega, hs⟩]; rfl
def G_rInt (P : Program) : List D → Heap → Option (D × Heap) := textG P (T10k P) kp_wire_Reader__Int 0 78
theorem G_rInt_eq (ds : List D) (H : Heap) : G_rInt Try.prog ds H = textK Try.prog (T10k Try.prog) kp_wire_Reader__Int 0 Try.f78 ds H := textG_eq Try.func78 ds H
theorem C_rInt : HCallOk Try.prog 78 (G_rInt Try.prog) := hcall_G T10k_ok mixed Try.func78 (by kernel_rfl) (by decide)
theorem rInt_ok (s : By) (r : Rd) (H : Heap) (i : Nat) (h : H[i]? = some (rdO s r)) (hr : r.1 ≤ s.length) (hs : s.length ≤ 3000000) : G_rInt Try.prog [.hp i 0] H = some (iD (intV s r).1, H.set i (rdO s (intV s r).2)) := by
  have h1 := zigGet_pure s r.1 hr hs
  obtain ⟨l0, l1, l2⟩ := rd_load s r H i h
  have hc : D.clo (.func 83) [.hp i 0] [] = moveC i := rfl
  unfold intV
  rw [G_rInt_eq, sh_wire_Reader__Int]
  by_cases he : (lebV s r.1).2.2 = 0
  · rw [if_pos he]
    simp only [if_pos he] at h1
    have h2 := tookI_ok s r H i h (iD (zagV (lebV s r.1).1)) (lebV s r.1).2.1 0
    have hv : (if (moveV r (lebV s r.1).2.1 0).2 = 0 then iD (zagV (lebV s r.1).1) else iD 0) = iD (if r.2 = 0 then zagV (lebV s r.1).1 else 0) := by
      by_cases he : r.2 = 0
      · rw [if_pos he, if_pos (by unfold moveV; rw [if_pos he]; rfl)]
      · rw [if_neg he, if_neg (by unfold moveV; rw [if_neg he]; exact he)]
    rw [hv] at h2
    simp only [nilD_hp, thn_some, fieldAt_hp, Nat.add_zero, Nat.zero_add, l0, l1, h1, thnH_some, ext0, ext1, ext2, hc, h2]
  · rw [if_neg he]
    simp only [if_neg he] at h1
    have h2 := tookI_ok s r H i h (iD 0) r.1 (lebV s r.1).2.2
    simp only [nilD_hp, thn_some, fieldAt_hp, Nat.add_zero, Nat.zero_add, l0, l1, h1, thnH_some, ext0, ext1, ext2, hc, h2, ite_self]
def fs10l (P : Program) : List Entry := (54, false, G_num P) :: (64, false, G_rCount P) :: (84, false, G_rRaw P) :: (78, false, G_rInt P) :: fs10k P
theorem fs10l_ok : ∀ p ∈ fs10l Try.prog, EntryOk Try.prog p := entries_cons (entry_obj C_num) (entries_cons (entry_obj C_rCount) (entries_cons (entry_obj C_rRaw) (entries_cons (entry_obj C_rInt) fs10k_ok)))
def T10l (P : Program) : Tab := ⟨fs10l P, noYl⟩
theorem T10l_ok : TabOk Try.prog (T10l Try.prog) := tabOk_of fs10l_ok
end Go.Proofs.Ytbnmkdlmalobaaa
end

section
namespace Go.Proofs.Ytbnmkdlmalobaaa
open Go.RowKit
set_option linter.unusedVariables false
set_option maxRecDepth 100000

def kp_wire_Reader__Byte : List Nat := []
theorem sh_wire_Reader__Byte (n : Nat) (x0 : D) (h : Heap) : textK Try.prog (T10l Try.prog) kp_wire_Reader__Byte n Try.f65 [x0] h =
(thnH ((G_rRaw Try.prog) [x0, (iD 1)] h) fun y0 h1 =>
thn (binK .str .eql y0 (.v (.string ⟨#[]⟩))) fun y2 =>
condK y2
(some ((.v (.int .u8 0)), h1))
(thn (idxS y0 (iD 0)) fun y3 =>
some (y3, h1))) := by kernel_rfl

def kp_code_of_1 : List Nat := []
theorem sh_code_of_1 (n : Nat) (x0 : D) (h : Heap) : textK Try.prog (T10l Try.prog) kp_code_of_1 n Try.f79 [x0] h =
(thnH ((G_rCount Try.prog) [x0, (iD 200)] h) fun y0 h1 =>
some (y0, h1)) := by kernel_rfl

end Go.Proofs.Ytbnmkdlmalobaaa
end

section
namespace Go.Proofs.Ytbnmkdlmalobaaa
open Go.RowKit
set_option linter.unusedVariables false
set_option linter.unusedSimpArgs false
set_option maxRecDepth 100000

def G_rByte (P : Program) : List D → Heap → Option (D × Heap) := textG P (T10l P) kp_wire_Reader__Byte 0 65
theorem G_rByte_eq (ds : List D) (H : Heap) : G_rByte Try.prog ds H = textK Try.prog (T10l Try.prog) kp_wire_Reader__Byte 0 Try.f65 ds H := textG_eq Try.func65 ds H
theorem C_rByte : HCallOk Try.prog 65 (G_rByte Try.prog) := hcall_G T10l_ok mixed Try.func65 (by kernel_rfl) (by decide)
theorem rByte_ok (s : By) (r : Rd) (H : Heap) (i : Nat) (h : H[i]? = some (rdO s r)) (hr : r.1 ≤ s.length) (hs : s.length ≤ 3000000) : G_rByte Try.prog [.hp i 0] H = some (u8D (bytV s r).1, H.set i (rdO s (bytV s r).2)) := by
  have h1 := rRaw_ok s r H i h hr hs 1 (by omega)
  have h1' : G_rRaw Try.prog [.hp i 0, iD 1] H = some (sD (rawV s r 1).1, H.set i (rdO s (rawV s r 1).2)) := h1
  unfold bytV
  rw [G_rByte_eq, sh_wire_Reader__Byte]
  have hz : u8D 0 = .v (.int .u8 0) := rfl
  by_cases hl : r.1 < s.length
  · have hrw : rawV s r 1 = ((if r.2 = 0 then [s[r.1]] else []), moveV r (r.1 + 1) 0) := by
      unfold rawV
      rw [if_neg (by omega), List.drop_eq_getElem_cons hl]
      rfl
    rw [if_pos hl]
    by_cases he : r.2 = 0
    · rw [if_pos he] at hrw
      rw [hrw] at h1'
      have hx := str_idx [s[r.1]] 0 (by simp)
      simp only [cast0, List.getElem_cons_zero] at hx
      have hn : binK .str .eql (sD [s[r.1]]) (.v (.string ⟨#[]⟩)) = some (bD false) := by rw [sD_nil, str_eq]; simp
      simp [h1', hn, hx, he, List.getElem?_eq_getElem hl]
    · rw [if_neg he] at hrw
      rw [hrw] at h1'
      have hn : binK .str .eql (sD []) (.v (.string ⟨#[]⟩)) = some (bD true) := by rw [sD_nil, str_eq]; simp
      simp [h1', hn, he, hz]
  · have hrw : rawV s r 1 = ([], moveV r r.1 2) := by
      unfold rawV
      rw [if_pos (by omega)]
    rw [hrw] at h1'
    have hn : binK .str .eql (sD []) (.v (.string ⟨#[]⟩)) = some (bD true) := by rw [sD_nil, str_eq]; simp
    simp [h1', hn, hl, hz]
def G_of1 (P : Program) : List D → Heap → Option (D × Heap) := textG P (T10l P) kp_code_of_1 0 79
theorem G_of1_eq (ds : List D) (H : Heap) : G_of1 Try.prog ds H = textK Try.prog (T10l Try.prog) kp_code_of_1 0 Try.f79 ds H := textG_eq Try.func79 ds H
theorem C_of1 : HCallOk Try.prog 79 (G_of1 Try.prog) := hcall_G T10l_ok mixed Try.func79 (by kernel_rfl) (by decide)
theorem of1_ok (s : By) (r : Rd) (H : Heap) (i : Nat) (h : H[i]? = some (rdO s r)) (hr : r.1 ≤ s.length) (hs : s.length ≤ 3000000) : G_of1 Try.prog [.hp i 0] H = some (iD (cntV s r 200).1, H.set i (rdO s (cntV s r 200).2)) := by
  have h1 := rCount_ok s r H i h hr hs 200 (by omega) (by omega)
  rw [G_of1_eq, sh_code_of_1]
  simp only [h1, thnH_some]
def fs10m (P : Program) : List Entry := (65, false, G_rByte P) :: (79, false, G_of1 P) :: fs10l P
theorem fs10m_ok : ∀ p ∈ fs10m Try.prog, EntryOk Try.prog p := entries_cons (entry_obj C_rByte) (entries_cons (entry_obj C_of1) fs10l_ok)
def T10m (P : Program) : Tab := ⟨fs10m P, noYl⟩
theorem T10m_ok : TabOk Try.prog (T10m Try.prog) := tabOk_of fs10m_ok
end Go.Proofs.Ytbnmkdlmalobaaa
end

section
namespace Go.Proofs.Ytbnmkdlmalobaaa
open Go.RowKit
set_option linter.unusedVariables false
set_option maxRecDepth 100000

def kp_code_Put : List Nat := [1, 5, 26, 27, 28, 43, 44, 45]
theorem sh_code_Put (n : Nat) (x0 : D) (h : Heap) : textK Try.prog (T10m Try.prog) kp_code_Put n Try.f33 [x0] h =
(thnH (boxH 25 x0 h) fun y0 h1 =>
thn (loadH (some 3) h1 y0) fun y2 =>
thnH (liftF F_Check9 [y2] h1) fun y3 h4 =>
thn (binK .int .neq y3 (iD 0)) fun y5 =>
condK y5
(some (.tup [(.v (.string ⟨#[]⟩)), y3], h4))
(thnH ((G_wNew Try.prog) [] h4) fun y6 h7 =>
thn (fieldAtH 0 y0) fun y8 =>
thn (loadH none h7 y8) fun y9 =>
thnH ((G_num Try.prog) [y6, y9] h7) fun y10 h11 =>
thn (fieldAtH 1 y0) fun y12 =>
thn (loadH none h11 y12) fun y13 =>
thn (lenH .sl y13) fun y14 =>
thnH ((G_num Try.prog) [y10, y14] h11) fun y15 h16 =>
sameO y8 (some h4) (some h7)
(sameO y12 (some h4) (some h7)
(sameO y12 (some h7) (some h11)
(thn (fieldAtH 1 y0) fun y17 =>
thn (loadH none h16 y17) fun y18 =>
thn (lenH .sl y18) fun y19 =>
leaveK (loopF Try.prog (T10m Try.prog) kp_code_Put n Try.f33 0 [y0, y15, y18, y19, (iD 0), .undef, .undef, .undef] h16) (fun j20 s21 h22 =>
condN j20 0
(thn (fieldAtH 2 (s21.getD 0 .undef)) fun y23 =>
thn (loadH none h22 y23) fun y24 =>
thn (lenH .sl y24) fun y25 =>
thnH ((G_num Try.prog) [(s21.getD 1 .undef), y25] h22) fun y26 h27 =>
thn (fieldAtH 2 (s21.getD 0 .undef)) fun y28 =>
thn (loadH none h27 y28) fun y29 =>
thn (lenH .sl y29) fun y30 =>
leaveK (loopF Try.prog (T10m Try.prog) kp_code_Put n Try.f33 1 [(s21.getD 0 .undef), (s21.getD 1 .undef), (s21.getD 2 .undef), (s21.getD 3 .undef), (s21.getD 4 .undef), y29, y30, (iD 0)] h27) (fun j31 s32 h33 =>
condN j31 2
(thnH ((G_wBytes Try.prog) [(s32.getD 1 .undef)] h33) fun y34 h35 =>
some (.tup [y34, (iD 0)], h35))
(none)) (fun s32 h33 =>
some (.tup [.undef, .undef], h33)))
(none)) (fun s21 h22 =>
some (.tup [.undef, .undef], h22))))))) := by kernel_rfl

theorem st_code_Put_0 (n : Nat) (s0 s1 s2 s3 s4 s5 s6 s7 : D) (h : Heap) : stepF Try.prog (T10m Try.prog) kp_code_Put n Try.f33 0 [s0, s1, s2, s3, s4, s5, s6, s7] h =
(thn (binK .int .lss s4 s3) fun y0 =>
condK y0
(thn (idxH 1 s2 s4) fun y1 =>
thn (loadH none h y1) fun y2 =>
thn (intOf64 .u8 y2) fun y3 =>
thnH ((G_wByte Try.prog) [s1, y3] h) fun y4 h5 =>
thn (binK .int .add s4 (iD 1)) fun y6 =>
some (.normal, [s0, s1, s2, s3, y6, s5, s6, s7], h5))
(some ((.exit 0), [s0, s1, s2, s3, s4, s5, s6, s7], h))) := by kernel_rfl

theorem st_code_Put_1 (n : Nat) (s0 s1 s2 s3 s4 s5 s6 s7 : D) (h : Heap) : stepF Try.prog (T10m Try.prog) kp_code_Put n Try.f33 1 [s0, s1, s2, s3, s4, s5, s6, s7] h =
(thn (binK .int .lss s7 s6) fun y0 =>
condK y0
(thn (idxH 2 s5 s7) fun y1 =>
thn (loadH (some 2) h y1) fun y2 =>
thnH (allocH 39 [(iD 0), (iD 0)] h) fun y3 h4 =>
thnH (setH 2 y3 y2 h4) fun y5 h6 =>
thn (fieldAtH 0 y3) fun y7 =>
thn (loadH none h6 y7) fun y8 =>
thn (intOf64 .u8 y8) fun y9 =>
thnH ((G_wByte Try.prog) [s1, y9] h6) fun y10 h11 =>
thn (fieldAtH 0 y3) fun y12 =>
thn (loadH none h11 y12) fun y13 =>
thnH (liftF F_codeOf [y13] h11) fun y14 h15 =>
thn (extractD y14 0) fun y16 =>
thn (extractD y14 1) fun y17 =>
thnH (allocH 69 [(.v .nilFunc), (.v .nilFunc)] h15) fun y18 h19 =>
thnH (setH 2 y18 y16 h19) fun y20 h21 =>
condK y17
(thn (fieldAtH 0 y18) fun y22 =>
thn (loadH none h21 y22) fun y23 =>
thn (fieldAtH 1 y3) fun y24 =>
thn (loadH none h21 y24) fun y25 =>
thnH (callClo (T10m Try.prog) y23 [s1, y25] h21) fun y26 h27 =>
thn (binK .int .add s7 (iD 1)) fun y28 =>
some (.normal, [s0, s1, s2, s3, s4, s5, s6, y28], h27))
(thn (binK .int .add s7 (iD 1)) fun y29 =>
some (.normal, [s0, s1, s2, s3, s4, s5, s6, y29], h21)))
(some ((.exit 2), [s0, s1, s2, s3, s4, s5, s6, s7], h))) := by kernel_rfl

def kp_offshootref10_Put : List Nat := [1, 5, 6, 7]
theorem sh_offshootref10_Put (n : Nat) (x0 : D) (h : Heap) : textK Try.prog (T10m Try.prog) kp_offshootref10_Put n Try.f34 [x0] h =
(thnH (boxH 25 x0 h) fun y0 h1 =>
thn (loadH (some 3) h1 y0) fun y2 =>
thnH (liftF F_Check9 [y2] h1) fun y3 h4 =>
thn (binK .int .neq y3 (iD 0)) fun y5 =>
condK y5
(some (.tup [(.v (.string ⟨#[]⟩)), y3], h4))
(thn (fieldAtH 0 y0) fun y6 =>
thn (loadH none h4 y6) fun y7 =>
thn (intOf64 .u64 y7) fun y8 =>
thnH (liftF F_PutN [y8] h4) fun y9 h10 =>
thn (fieldAtH 1 y0) fun y11 =>
thn (loadH none h10 y11) fun y12 =>
thn (lenH .sl y12) fun y13 =>
thn (intOf64 .u64 y13) fun y14 =>
thnH (liftF F_PutN [y14] h10) fun y15 h16 =>
thn (binK .str .add y9 y15) fun y17 =>
leaveK (loopF Try.prog (T10m Try.prog) kp_offshootref10_Put n Try.f34 0 [y0, y17, (iD 0), .undef] h16) (fun j18 s19 h20 =>
condN j18 0
(thn (fieldAtH 2 (s19.getD 0 .undef)) fun y21 =>
thn (loadH none h20 y21) fun y22 =>
thn (lenH .sl y22) fun y23 =>
thn (intOf64 .u64 y23) fun y24 =>
thnH (liftF F_PutN [y24] h20) fun y25 h26 =>
thn (binK .str .add (s19.getD 1 .undef) y25) fun y27 =>
leaveK (loopF Try.prog (T10m Try.prog) kp_offshootref10_Put n Try.f34 1 [(s19.getD 0 .undef), y27, (s19.getD 2 .undef), (iD 0)] h26) (fun j28 s29 h30 =>
condN j28 2
(some (.tup [(s29.getD 1 .undef), (iD 0)], h30))
(none)) (fun s29 h30 =>
some (.tup [.undef, .undef], h30)))
(none)) (fun s19 h20 =>
some (.tup [.undef, .undef], h20)))) := by kernel_rfl

theorem st_offshootref10_Put_0 (n : Nat) (s0 s1 s2 s3 : D) (h : Heap) : stepF Try.prog (T10m Try.prog) kp_offshootref10_Put n Try.f34 0 [s0, s1, s2, s3] h =
(thn (fieldAtH 1 s0) fun y0 =>
thn (loadH none h y0) fun y1 =>
thn (lenH .sl y1) fun y2 =>
thn (binK .int .lss s2 y2) fun y3 =>
condK y3
(thn (fieldAtH 1 s0) fun y4 =>
thn (loadH none h y4) fun y5 =>
thn (idxH 1 y5 s2) fun y6 =>
thn (loadH none h y6) fun y7 =>
thnH (liftF F_byteOf [y7] h) fun y8 h9 =>
thn (binK .str .add s1 y8) fun y10 =>
thn (binK .int .add s2 (iD 1)) fun y11 =>
some (.normal, [s0, y10, y11, s3], h9))
(some ((.exit 0), [s0, s1, s2, s3], h))) := by kernel_rfl

theorem st_offshootref10_Put_1 (n : Nat) (s0 s1 s2 s3 : D) (h : Heap) : stepF Try.prog (T10m Try.prog) kp_offshootref10_Put n Try.f34 1 [s0, s1, s2, s3] h =
(thn (fieldAtH 2 s0) fun y0 =>
thn (loadH none h y0) fun y1 =>
thn (lenH .sl y1) fun y2 =>
thn (binK .int .lss s3 y2) fun y3 =>
condK y3
(thn (fieldAtH 2 s0) fun y4 =>
thn (loadH none h y4) fun y5 =>
thn (idxH 2 y5 s3) fun y6 =>
thn (loadH (some 2) h y6) fun y7 =>
thnH (allocH 39 [(iD 0), (iD 0)] h) fun y8 h9 =>
thnH (setH 2 y8 y7 h9) fun y10 h11 =>
thn (fieldAtH 0 y8) fun y12 =>
thn (loadH none h11 y12) fun y13 =>
thnH (liftF F_byteOf [y13] h11) fun y14 h15 =>
thn (binK .str .add s1 y14) fun y16 =>
thn (fieldAtH 0 y8) fun y17 =>
thn (loadH none h15 y17) fun y18 =>
thnH (liftF F_numbered [y18] h15) fun y19 h20 =>
thn (binK .int .eql y19 (iD 1)) fun y21 =>
condK y21
(thn (fieldAtH 1 y8) fun y22 =>
thn (loadH none h20 y22) fun y23 =>
thn (intOf64 .u64 y23) fun y24 =>
thnH (liftF F_PutN [y24] h20) fun y25 h26 =>
thn (binK .str .add y16 y25) fun y27 =>
thn (fieldAtH 0 y8) fun y28 =>
thn (loadH none h26 y28) fun y29 =>
thnH (liftF F_numbered [y29] h26) fun y30 h31 =>
thn (binK .int .eql y30 (iD 2)) fun y32 =>
condK y32
(thn (fieldAtH 1 y8) fun y33 =>
thn (loadH none h31 y33) fun y34 =>
thnH (liftF F_PutZ [y34] h31) fun y35 h36 =>
thn (binK .str .add y27 y35) fun y37 =>
thn (binK .int .add s3 (iD 1)) fun y38 =>
some (.normal, [s0, y37, s2, y38], h36))
(thn (binK .int .add s3 (iD 1)) fun y39 =>
some (.normal, [s0, y27, s2, y39], h31)))
(thn (fieldAtH 0 y8) fun y40 =>
thn (loadH none h20 y40) fun y41 =>
thnH (liftF F_numbered [y41] h20) fun y42 h43 =>
thn (binK .int .eql y42 (iD 2)) fun y44 =>
condK y44
(thn (fieldAtH 1 y8) fun y45 =>
thn (loadH none h43 y45) fun y46 =>
thnH (liftF F_PutZ [y46] h43) fun y47 h48 =>
thn (binK .str .add y16 y47) fun y49 =>
thn (binK .int .add s3 (iD 1)) fun y50 =>
some (.normal, [s0, y49, s2, y50], h48))
(thn (binK .int .add s3 (iD 1)) fun y51 =>
some (.normal, [s0, y16, s2, y51], h43))))
(some ((.exit 2), [s0, s1, s2, s3], h))) := by kernel_rfl

end Go.Proofs.Ytbnmkdlmalobaaa
end
