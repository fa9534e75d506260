/-
  Parts joined into one text: Sh10b, T10c, Sh10c, T10d, Sh10d, T10e, HDenT, T10f, Sh10f, T10g, Sh10g, T10h, T10i. No condition.
-/
import Derived.Test.YtbnmkdlmalobaaaCi
import Derived.Test.YtbnmkdlmalobaaaCp

section
namespace Go.Proofs.Ytbnmkdlmalobaaa
open Go.RowKit
set_option linter.unusedVariables false
set_option maxRecDepth 100000

def kp_offshootref01_Get : List Nat := []
theorem sh_offshootref01_Get (n : Nat) (x0 x1 : D) (h : Heap) : textK Try.prog T10b kp_offshootref01_Get n Try.f98 [x0, x1] h =
(thn (binK .int .lss x1 (iD 0)) fun y0 =>
condK y0
(some (.tup [(.v (.int .u64 0)), x1, (iD 1)], h))
(thn (lenH .str x0) fun y1 =>
thn (binK .int .gtr x1 y1) fun y2 =>
condK y2
(some (.tup [(.v (.int .u64 0)), x1, (iD 1)], h))
(thnH (liftF F_bytes01 [x0, x1] h) fun y3 h4 =>
thn (binK .int .eql y3 (iD 0)) fun y5 =>
condK y5
(thn (lenH .str x0) fun y6 =>
thn (binK .int .sub y6 x1) fun y7 =>
thn (binK .int .lss y7 (iD 10)) fun y8 =>
condK y8
(some (.tup [(.v (.int .u64 0)), x1, (iD 2)], h4))
(thn (binK .int .eql y3 (iD 0)) fun y9 =>
condK y9
(some (.tup [(.v (.int .u64 0)), x1, (iD 3)], h4))
(thn (binK .int .add x1 y3) fun y10 =>
thn (cutS x0 (some x1) (some y10)) fun y11 =>
thnH (liftF F_value01 [y11] h4) fun y12 h13 =>
thnH (liftF F_PutN [y12] h13) fun y14 h15 =>
thn (binK .int .add x1 y3) fun y16 =>
thn (cutS x0 (some x1) (some y16)) fun y17 =>
thn (binK .str .neq y14 y17) fun y18 =>
condK y18
(some (.tup [(.v (.int .u64 0)), x1, (iD 3)], h15))
(thn (binK .int .add x1 y3) fun y19 =>
some (.tup [y12, y19, (iD 0)], h15)))))
(thn (binK .int .eql y3 (iD 0)) fun y20 =>
condK y20
(some (.tup [(.v (.int .u64 0)), x1, (iD 3)], h4))
(thn (binK .int .add x1 y3) fun y21 =>
thn (cutS x0 (some x1) (some y21)) fun y22 =>
thnH (liftF F_value01 [y22] h4) fun y23 h24 =>
thnH (liftF F_PutN [y23] h24) fun y25 h26 =>
thn (binK .int .add x1 y3) fun y27 =>
thn (cutS x0 (some x1) (some y27)) fun y28 =>
thn (binK .str .neq y25 y28) fun y29 =>
condK y29
(some (.tup [(.v (.int .u64 0)), x1, (iD 3)], h26))
(thn (binK .int .add x1 y3) fun y30 =>
some (.tup [y23, y30, (iD 0)], h26))))))) := by kernel_rfl

def kp_offshootref02_Put : List Nat := []
theorem sh_offshootref02_Put (n : Nat) (x0 : D) (h : Heap) : textK Try.prog T10b kp_offshootref02_Put n Try.f62 [x0] h =
(thnH (liftF F_Zig [x0] h) fun y0 h1 =>
thnH (liftF F_PutN [y0] h1) fun y2 h3 =>
some (y2, h3)) := by kernel_rfl

def kp_offshootref05_wrong : List Nat := []
theorem sh_offshootref05_wrong (n : Nat) (x0 x1 : D) (h : Heap) : textK Try.prog T10b kp_offshootref05_wrong n Try.f96 [x0, x1] h =
(thnH (boxH 85 x0 h) fun y0 h1 =>
thnH (allocH 85 [(.v (.string ⟨#[]⟩)), (iD 0), (iD 0)] h1) fun y2 h3 =>
thnH (allocH 117 [(.v (.int .u64 0)), (iD 0), (.v (.string ⟨#[]⟩)), (iD 0), (iD 0)] h3) fun y4 h5 =>
thn (fieldAtH 2 y0) fun y6 =>
thnH (setH 1 y6 x1 h5) fun y7 h8 =>
thn (loadH (some 3) h8 y0) fun y9 =>
thn (buildR [(0, 1), (1, 1), (2, 1), (3, 1), (4, 1)] [(.v (.int .u64 0)), (iD 0), (.v (.string ⟨#[]⟩)), (iD 0), (iD 0)] []) fun y10 =>
thnH (setH 3 y2 y9 h8) fun y11 h12 =>
thnH (setH 5 y4 y10 h12) fun y13 h14 =>
thn (loadH (some 3) h14 y2) fun y15 =>
thn (loadH (some 5) h14 y4) fun y16 =>
some (.tup [y15, y16], h14)) := by kernel_rfl

def kp_zigzag_Get : List Nat := []
theorem sh_zigzag_Get (n : Nat) (x0 x1 : D) (h : Heap) : textK Try.prog T10b kp_zigzag_Get n Try.f92 [x0, x1] h =
(thnH (liftF F_LebGet [x0, x1] h) fun y0 h1 =>
thn (extractD y0 0) fun y2 =>
thn (extractD y0 1) fun y3 =>
thn (extractD y0 2) fun y4 =>
thn (binK .int .neq y4 (iD 0)) fun y5 =>
condK y5
(some (.tup [(iD 0), x1, y4], h1))
(thnH (liftF F_Zag [y2] h1) fun y6 h7 =>
some (.tup [y6, y3, (iD 0)], h7))) := by kernel_rfl

def kp_zigzag_Zig_1 : List Nat := []
theorem sh_zigzag_Zig_1 (n : Nat) (x0 : D) (h : Heap) : textK Try.prog T10b kp_zigzag_Zig_1 n Try.f109 [x0] h =
(thn (binK .int .shl x0 (.v (.int .u64 1))) fun y0 =>
some (y0, h)) := by kernel_rfl

def kp_zigzag_Zig_2 : List Nat := []
theorem sh_zigzag_Zig_2 (n : Nat) (x0 : D) (h : Heap) : textK Try.prog T10b kp_zigzag_Zig_2 n Try.f110 [x0] h =
(thn (binK .int .shl x0 (.v (.int .u64 1))) fun y0 =>
thn (xorD y0) fun y1 =>
some (y1, h)) := by kernel_rfl

def kp_leb_digits : List Nat := []
theorem sh_leb_digits (n : Nat) (x0 : D) (h : Heap) : textK Try.prog T10b kp_leb_digits n Try.f101 [x0] h =
(thnH (boxH 74 x0 h) fun y0 h1 =>
some ((.clo (.func 108) [] [y0]), h1)) := by kernel_rfl

def kp_wire_New : List Nat := []
theorem sh_wire_New (n : Nat) (h : Heap) : textK Try.prog T10b kp_wire_New n Try.f55 [] h =
(thn (buildR [(0, 1)] [(.v (.slice none 0 0))] []) fun y0 =>
thnH (boxH 107 y0 h) fun y1 h2 =>
some (y1, h2)) := by kernel_rfl

def kp_wire_Of : List Nat := []
theorem sh_wire_Of (n : Nat) (x0 : D) (h : Heap) : textK Try.prog T10b kp_wire_Of n Try.f63 [x0] h =
(thn (buildR [(0, 1), (1, 1), (2, 1)] [(.v (.string ⟨#[]⟩)), (iD 0), (iD 0)] [(0, x0)]) fun y0 =>
thn (buildR [(0, 3)] [(.v (.string ⟨#[]⟩)), (iD 0), (iD 0)] [(0, y0)]) fun y1 =>
thnH (boxH 83 y1 h) fun y2 h3 =>
some (y2, h3)) := by kernel_rfl

end Go.Proofs.Ytbnmkdlmalobaaa
end

section
namespace Go.Proofs.Ytbnmkdlmalobaaa
open Go.RowKit
set_option linter.unusedVariables false
set_option linter.unusedSimpArgs false

theorem bytes01_pure (s : By) (i : Nat) (hi : i ≤ s.length) (hs : s.length ≤ 3000000) (H : Heap) : liftF F_bytes01 [sD s, iD i] H = some (iD (cntB 10 (s.drop i)), H) := by
  rw [liftF_pure _ _ _ rfl]
  have : F_bytes01 [sD s, iD i] = _ := f2_enc (A := strT) (B := intT) _ s (i : Int)
  rw [this, if_pos ⟨by omega, by omega, hs⟩]; rfl
theorem value01_pure (s : By) (hs : s.length ≤ 3000000) (H : Heap) : liftF F_value01 [sD s] H = some (u64D (valV s), H) := by
  rw [liftF_pure _ _ _ rfl]
  have : F_value01 [sD s] = _ := f1_enc (A := strT) _ s
  rw [this, if_pos hs]; rfl
theorem putN_pure (n : Int) (h : 0 ≤ n ∧ n ≤ 18446744073709551615) (H : Heap) : liftF F_PutN [u64D n] H = some (sD (putV n), H) := by
  rw [liftF_pure _ _ _ rfl]
  have : F_PutN [u64D n] = _ := f1_enc (A := u64T) _ n
  rw [this, if_pos h]; rfl
theorem zag_pure (n : Int) (h : 0 ≤ n ∧ n ≤ 18446744073709551615) (H : Heap) : liftF F_Zag [u64D n] H = some (iD (zagV n), H) := by
  rw [liftF_pure _ _ _ rfl]
  have : F_Zag [u64D n] = _ := f1_enc (A := u64T) _ n
  rw [this, if_pos h]; rfl
theorem zig_pure (n : Int) (h : -9223372036854775808 ≤ n ∧ n ≤ 9223372036854775807) (H : Heap) : liftF F_Zig [iD n] H = some (u64D (zigV n), H) := by
  rw [liftF_pure _ _ _ rfl]
  have : F_Zig [iD n] = _ := f1_enc (A := intT) _ n
  rw [this, if_pos h]; rfl
theorem lebGet_pure (s : By) (i : Int) (hs : s.length ≤ 3000000) (H : Heap) : liftF F_LebGet [sD s, iD i] H = some (if 0 ≤ i ∧ i ≤ s.length then .tup [u64D (lebV s i.toNat).1, iD (lebV s i.toNat).2.1, iD (lebV s i.toNat).2.2] else .tup [u64D 0, iD i, iD 1], H) := by
  rw [liftF_pure _ _ _ rfl]
  have : F_LebGet [sD s, iD i] = _ := f2_enc (A := strT) (B := intT) _ s i
  rw [this, if_pos hs]; rfl
theorem numbered_pure (t : Int) (H : Heap) : liftF F_numbered [iD t] H = some (iD (kindN t), H) := by
  rw [liftF_pure _ _ _ rfl]
  have : F_numbered [iD t] = _ := f1_enc (A := intT) _ t
  rw [this]; rfl
theorem byteOf_pure (t : Int) (H : Heap) : liftF F_byteOf [iD t] H = some (sD [b8 t], H) := by
  rw [liftF_pure _ _ _ rfl]
  have : F_byteOf [iD t] = _ := f1_enc (A := intT) _ t
  rw [this]; rfl

/-- The number at a place, as the document has it. -/
def F_RefGet : List D → Option D := F2 strT intT fun s i => if 0 ≤ i ∧ i ≤ s.length ∧ s.length ≤ 3000000 then some (.tup [u64D (refV s i.toNat).1, iD (refV s i.toNat).2.1, iD (refV s i.toNat).2.2]) else none
theorem C_RefGet01 : CallOk Try.prog 98 F_RefGet := call2 (kp := kp_offshootref01_Get) T10b_ok mixed Try.func98 (by kernel_rfl) (by decide) fun s i d h => by
  split at h
  case isFalse => cases h
  rename_i hs
  obtain ⟨h0, h1, hs⟩ := hs
  cases h
  refine ⟨0, _, ?_, Imp.refl _⟩
  show outD (textK _ _ _ _ _ [sD s, iD i] []) = _
  rw [sh_offshootref01_Get]
  obtain ⟨i, rfl⟩ := Int.eq_ofNat_of_zero_le h0
  have hi : i ≤ s.length := by omega
  have g1 : ¬ (i : Int) < 0 := by omega
  have g2 : ¬ (s.length : Int) < i := by omega
  have hc := bytes01_pure s i hi hs
  have hsub := intD_sub (s.length : Int) (i : Int) (by omega) (by omega)
  unfold refV
  rw [Int.toNat_natCast]
  by_cases h0 : cntB 10 (s.drop i) = 0
  · rw [h0] at hc
    have hc' : ∀ H, liftF F_bytes01 [sD s, iD i] H = some (iD 0, H) := hc
    by_cases h10 : s.length - i < 10
    · simp [g1, g2, hc', hsub, h0, h10, show (s.length : Int) - i < 10 from by omega, u64D]
    · simp [g1, g2, hc', hsub, h0, h10, show ¬ (s.length : Int) - i < 10 from by omega, u64D]
  · have hle := (cntB_le 10 (s.drop i)).1
    rw [List.length_drop] at hle
    have hadd := intD_add (i : Int) (cntB 10 (s.drop i) : Int) (by omega) (by omega)
    have hcut := str_cut s i (i + cntB 10 (s.drop i)) (by omega) (by omega)
    rw [Int.natCast_add] at hcut
    have e1 : ((s.take (i + cntB 10 (s.drop i))).drop i) = (s.drop i).take (cntB 10 (s.drop i)) := by rw [List.drop_take]; congr 1; omega
    rw [e1] at hcut
    generalize hk : cntB 10 (s.drop i) = k at *
    have hv := value01_pure ((s.drop i).take k) (by simp; omega)
    have hp := putN_pure (valV ((s.drop i).take k)) (val_range _)
    have hne : ¬ (k : Int) = 0 := by omega
    by_cases heq : putV (valV ((s.drop i).take k)) = (s.drop i).take k
    · simp [g1, g2, hc, hne, h0, hadd, hcut, hv, hp, heq]
    · have hz : u64D 0 = .v (.int .u64 0) := rfl
      simp [g1, g2, hc, hne, h0, hadd, hcut, hv, hp, heq, hz]
/-- A number's bytes, with its sign. -/
def F_PutZ : List D → Option D := F1 intT fun n => if -9223372036854775808 ≤ n ∧ n ≤ 9223372036854775807 then some (sD (putV (zigV n))) else none
theorem C_PutZ02 : CallOk Try.prog 62 F_PutZ := call1 (kp := kp_offshootref02_Put) T10b_ok mixed Try.func62 (by kernel_rfl) (by decide) fun n d h => by
  split at h
  case isFalse => cases h
  rename_i hn
  cases h
  refine ⟨0, _, ?_, Imp.refl _⟩
  show outD (textK _ _ _ _ _ [iD n] []) = _
  rw [sh_offshootref02_Put]
  simp [zig_pure n hn, putN_pure (zigV n) (zig_in n hn.1 hn.2)]
/-- The number with a sign at a place. -/
def F_ZigGet : List D → Option D := F2 strT intT fun s i => if 0 ≤ i ∧ i ≤ s.length ∧ s.length ≤ 3000000 then
    some (if (lebV s i.toNat).2.2 = 0 then .tup [iD (zagV (lebV s i.toNat).1), iD (lebV s i.toNat).2.1, iD 0] else .tup [iD 0, iD i, iD (lebV s i.toNat).2.2]) else none
theorem lebV_range (s : By) (i : Nat) : 0 ≤ (lebV s i).1 ∧ (lebV s i).1 ≤ 18446744073709551615 := by
  have key : ∀ (f : Nat) (l : By) (k : Nat) (n : Int), (0 ≤ n ∧ n ≤ 18446744073709551615) → ∀ m j b, lebF f l k n = .got m j b → 0 ≤ m ∧ m ≤ 18446744073709551615 := by
    intro f
    induction f with
    | zero => intro l k n _ m j b h; cases h
    | succ f ih =>
      intro l k n hn m j b h
      cases l with
      | nil => cases h
      | cons x r =>
        have ho : 0 ≤ orI n (grpI x k) ∧ orI n (grpI x k) ≤ 18446744073709551615 := by
          unfold orI; rw [IntKind.wrap_u64]; omega
        simp only [lebF] at h
        split at h
        · cases h; exact ho
        · exact ih r (k + 1) _ ho m j b h
  unfold lebV
  split
  · simp
  · rename_i n k b h
    have := key _ _ _ _ (by omega) _ _ _ h
    split
    · simp
    · exact this
theorem C_ZigGet : CallOk Try.prog 92 F_ZigGet := call2 (kp := kp_zigzag_Get) T10b_ok mixed Try.func92 (by kernel_rfl) (by decide) fun s i d h => by
  split at h
  case isFalse => cases h
  rename_i hs
  obtain ⟨h0, h1, hs⟩ := hs
  cases h
  refine ⟨0, _, ?_, Imp.refl _⟩
  show outD (textK _ _ _ _ _ [sD s, iD i] []) = _
  rw [sh_zigzag_Get]
  have hg := lebGet_pure s i hs
  rw [if_pos ⟨h0, h1⟩] at hg
  have hz := zag_pure _ (lebV_range s i.toNat)
  by_cases he : (lebV s i.toNat).2.2 = 0
  · simp [hg, extractD, tupOf, he, hz]
  · simp [hg, extractD, tupOf, he]
/-- Twice a number; its opposite. -/
def F_Zig1 : List D → Option D := F1 u64T fun u => some (u64D (IntKind.u64.wrap (u * 2)))
theorem shl1 (u : Int) : binK .int .shl (u64D u) (.v (.int .u64 1)) = some (u64D (IntKind.u64.wrap (u * 2))) := by
  show shiftD .shl .u64 u 1 = _
  unfold shiftD
  rw [if_neg (by omega)]
  have e : min (Int.toNat 1) IntKind.u64.bits = 1 := by decide
  simp only [e, Int.pow_one]
  rfl
theorem C_Zig1 : CallOk Try.prog 109 F_Zig1 := call1 (kp := kp_zigzag_Zig_1) T10b_ok mixed Try.func109 (by kernel_rfl) (by decide) fun u d h => by
  cases h
  refine ⟨0, _, ?_, Imp.refl _⟩
  show outD (textK _ _ _ _ _ [u64D u] []) = _
  rw [sh_zigzag_Zig_1]
  simp [shl1]
def F_Zig2 : List D → Option D := F1 u64T fun u => some (u64D (18446744073709551615 - IntKind.u64.wrap (u * 2)))
theorem xor_u64 (x : Int) (h0 : 0 ≤ x) (h1 : x ≤ 18446744073709551615) : xorD (u64D x) = some (u64D (18446744073709551615 - x)) := by
  obtain ⟨n, rfl⟩ := Int.eq_ofNat_of_zero_le h0
  have hm : IntKind.u64.max = 18446744073709551615 := by decide
  show intD .xor .u64 IntKind.u64.max n = _
  rw [hm]
  have e : (BitVec.ofInt IntKind.u64.bits 18446744073709551615 ^^^ BitVec.ofInt IntKind.u64.bits (n : Int)).toNat = 18446744073709551615 - n := by
    show (BitVec.ofInt 64 18446744073709551615 ^^^ BitVec.ofInt 64 (n : Int)).toNat = _
    have : BitVec.ofInt 64 18446744073709551615 = BitVec.allOnes 64 := by decide
    rw [this, BitVec.allOnes_xor, BitVec.toNat_not]
    simp
    omega
  show some (D.v (.int .u64 (IntKind.u64.wrap _))) = _
  rw [e, IntWalk.u64_in _ ⟨by omega, by omega⟩]
  unfold u64D
  congr 3
  omega
theorem C_Zig2 : CallOk Try.prog 110 F_Zig2 := call1 (kp := kp_zigzag_Zig_2) T10b_ok mixed Try.func110 (by kernel_rfl) (by decide) fun u d h => by
  cases h
  refine ⟨0, _, ?_, Imp.refl _⟩
  show outD (textK _ _ _ _ _ [u64D u] []) = _
  rw [sh_zigzag_Zig_2]
  have hw : 0 ≤ IntKind.u64.wrap (u * 2) ∧ IntKind.u64.wrap (u * 2) ≤ 18446744073709551615 := by rw [IntKind.wrap_u64]; omega
  simp [shl1, xor_u64 _ hw.1 hw.2]

/- The document's reader. -/
abbrev Rdr := By × Int × Int
def rdC (r : Rdr) : List D := [sD r.1, iD r.2.1, iD r.2.2]
def rdD (r : Rdr) : D := .agg (rdC r)
def asRd : D → Option Rdr
  | .agg [a, b, c] => (asStr a).bind fun s => (asInt b).bind fun n => (asInt c).map fun e => (s, n, e)
  | _ => none
def rdT : Dec Rdr := ⟨rdD, asRd, fun r => by simp [asRd, rdD, rdC, asStr, sD, baOf, asInt], fun d r h => by
  unfold asRd at h
  split at h
  · obtain ⟨s, h1, h⟩ := Option.bind_eq_some_iff.1 h
    obtain ⟨n, h2, h⟩ := Option.bind_eq_some_iff.1 h
    obtain ⟨e, h3, h⟩ := Option.map_eq_some_iff.1 h
    subst h
    exact Imp.agg (.cons (strT.ok _ _ h1) (.cons (intT.ok _ _ h2) (.cons (intT.ok _ _ h3) .nil)))
  · cases h⟩
/-- What was read: a number; one with a sign. -/
def gotD (a b : Int) : D := .agg [u64D a, iD b, sD [], iD 0, iD 0]
def F_wrong : List D → Option D := F2 rdT intT fun r e => some (.tup [rdD (r.1, r.2.1, e), gotD 0 0])
theorem C_wrong : CallOk Try.prog 96 F_wrong := call2 (kp := kp_offshootref05_wrong) T10b_ok mixed Try.func96 (by kernel_rfl) (by decide) fun r e d h => by
  cases h
  refine ⟨0, _, ?_, Imp.refl _⟩
  show outD (textK _ _ _ _ _ [rdD r, iD e] []) = _
  rw [sh_offshootref05_wrong]
  rfl
/-- A function that nothing is said of. -/
def F_no : List D → Option D := fun _ => none
theorem C_no {P : Program} {f : FuncId} {fn : Func} (h1 : P.funcs[f]? = some fn) (h2 : fn.name ≠ "runtime.NumGoroutine") (h3 : fn.body.isSome = true) : CallOk P f F_no := ⟨⟨fn, h1, h2, h3⟩, fun ds d h => by cases h⟩
theorem C_text05 : CallOk Try.prog 97 F_no := C_no Try.func97 (by decide) rfl
def fs10c : List Entry := (98, true, liftF F_RefGet) :: (62, true, liftF F_PutZ) :: (92, true, liftF F_ZigGet) :: (109, true, liftF F_Zig1) :: (110, true, liftF F_Zig2) ::
  (96, true, liftF F_wrong) :: (97, true, liftF F_no) :: fs10b
theorem fs10c_ok : ∀ p ∈ fs10c, EntryOk Try.prog p := entries_cons (entry_lift C_RefGet01) (entries_cons (entry_lift C_PutZ02) (entries_cons (entry_lift C_ZigGet) (entries_cons (entry_lift C_Zig1) (entries_cons (entry_lift C_Zig2) (entries_cons (entry_lift C_wrong) (entries_cons (entry_lift C_text05) fs10b_ok))))))
def T10c : Tab := ⟨fs10c, noYl⟩
theorem T10c_ok : TabOk Try.prog T10c := tabOk_of fs10c_ok
end Go.Proofs.Ytbnmkdlmalobaaa
end

section
namespace Go.Proofs.Ytbnmkdlmalobaaa
open Go.RowKit
set_option linter.unusedVariables false
set_option maxRecDepth 100000

def kp_offshootref05_Do : List Nat := []
theorem sh_offshootref05_Do (n : Nat) (x0 x1 : D) (h : Heap) : textK Try.prog T10c kp_offshootref05_Do n Try.f85 [x0, x1] h =
(thnH (boxH 85 x0 h) fun y0 h1 =>
thnH (boxH 121 x1 h1) fun y2 h3 =>
thnH (allocH 85 [(.v (.string ⟨#[]⟩)), (iD 0), (iD 0)] h3) fun y4 h5 =>
thnH (allocH 117 [(.v (.int .u64 0)), (iD 0), (.v (.string ⟨#[]⟩)), (iD 0), (iD 0)] h5) fun y6 h7 =>
thn (fieldAtH 2 y0) fun y8 =>
thn (loadH none h7 y8) fun y9 =>
thn (binK .int .neq y9 (iD 0)) fun y10 =>
condK y10
(thn (loadH (some 3) h7 y0) fun y11 =>
thn (buildR [(0, 1), (1, 1), (2, 1), (3, 1), (4, 1)] [(.v (.int .u64 0)), (iD 0), (.v (.string ⟨#[]⟩)), (iD 0), (iD 0)] []) fun y12 =>
thnH (setH 3 y4 y11 h7) fun y13 h14 =>
thnH (setH 5 y6 y12 h14) fun y15 h16 =>
thn (loadH (some 3) h16 y4) fun y17 =>
thn (loadH (some 5) h16 y6) fun y18 =>
some (.tup [y17, y18], h16))
(thn (fieldAtH 0 y2) fun y19 =>
thn (loadH none h7 y19) fun y20 =>
thn (binK .int .eql y20 (iD 0)) fun y21 =>
condK y21
(thn (fieldAtH 1 y0) fun y22 =>
thn (loadH none h7 y22) fun y23 =>
thn (fieldAtH 0 y0) fun y24 =>
thn (loadH none h7 y24) fun y25 =>
thn (lenH .str y25) fun y26 =>
thn (binK .int .geq y23 y26) fun y27 =>
condK y27
(thn (loadH (some 3) h7 y0) fun y28 =>
thnH (liftF F_wrong [y28, (iD 2)] h7) fun y29 h30 =>
thn (extractD y29 0) fun y31 =>
thn (extractD y29 1) fun y32 =>
thnH (setH 3 y4 y31 h30) fun y33 h34 =>
thnH (setH 5 y6 y32 h34) fun y35 h36 =>
thn (loadH (some 3) h36 y4) fun y37 =>
thn (loadH (some 5) h36 y6) fun y38 =>
some (.tup [y37, y38], h36))
(thn (fieldAtH 1 y0) fun y39 =>
thn (loadH none h7 y39) fun y40 =>
thn (binK .int .add y40 (iD 1)) fun y41 =>
thn (fieldAtH 1 y0) fun y42 =>
thnH (setH 1 y42 y41 h7) fun y43 h44 =>
thn (loadH (some 3) h44 y0) fun y45 =>
thn (fieldAtH 0 y0) fun y46 =>
thn (loadH none h44 y46) fun y47 =>
thn (fieldAtH 1 y0) fun y48 =>
thn (loadH none h44 y48) fun y49 =>
thn (binK .int .sub y49 (iD 1)) fun y50 =>
thn (idxS y47 y50) fun y51 =>
thn (intOf64 .u64 y51) fun y52 =>
thn (buildR [(0, 1), (1, 1), (2, 1), (3, 1), (4, 1)] [(.v (.int .u64 0)), (iD 0), (.v (.string ⟨#[]⟩)), (iD 0), (iD 0)] [(0, y52)]) fun y53 =>
thnH (setH 3 y4 y45 h44) fun y54 h55 =>
thnH (setH 5 y6 y53 h55) fun y56 h57 =>
apartK y46 y4
(apartK y48 y4
(wholeK y51
(thn (loadH (some 3) h57 y4) fun y58 =>
thn (loadH (some 5) h57 y6) fun y59 =>
some (.tup [y58, y59], h57))))))
(thn (fieldAtH 0 y2) fun y60 =>
thn (loadH none h7 y60) fun y61 =>
thn (binK .int .eql y61 (iD 5)) fun y62 =>
condK y62
(thn (fieldAtH 1 y2) fun y63 =>
thn (loadH none h7 y63) fun y64 =>
thn (binK .int .lss y64 (iD 0)) fun y65 =>
condK y65
(thn (loadH (some 3) h7 y0) fun y66 =>
thnH (liftF F_wrong [y66, (iD 1)] h7) fun y67 h68 =>
thn (extractD y67 0) fun y69 =>
thn (extractD y67 1) fun y70 =>
thnH (setH 3 y4 y69 h68) fun y71 h72 =>
thnH (setH 5 y6 y70 h72) fun y73 h74 =>
thn (loadH (some 3) h74 y4) fun y75 =>
thn (loadH (some 5) h74 y6) fun y76 =>
some (.tup [y75, y76], h74))
(thn (loadH (some 3) h7 y0) fun y77 =>
thn (fieldAtH 1 y0) fun y78 =>
thn (loadH none h7 y78) fun y79 =>
thn (fieldAtH 1 y2) fun y80 =>
thn (loadH none h7 y80) fun y81 =>
thn (intOf64 .u64 y81) fun y82 =>
thnH (liftF F_no [y77, y79, y82] h7) fun y83 h84 =>
thn (extractD y83 0) fun y85 =>
thn (extractD y83 1) fun y86 =>
thnH (setH 3 y4 y85 h84) fun y87 h88 =>
thnH (setH 5 y6 y86 h88) fun y89 h90 =>
thn (loadH (some 3) h90 y4) fun y91 =>
thn (loadH (some 5) h90 y6) fun y92 =>
some (.tup [y91, y92], h90)))
(thn (fieldAtH 0 y0) fun y93 =>
thn (loadH none h7 y93) fun y94 =>
thn (fieldAtH 1 y0) fun y95 =>
thn (loadH none h7 y95) fun y96 =>
thnH (liftF F_RefGet [y94, y96] h7) fun y97 h98 =>
thn (extractD y97 0) fun y99 =>
thn (extractD y97 1) fun y100 =>
thn (extractD y97 2) fun y101 =>
thn (binK .int .neq y101 (iD 0)) fun y102 =>
condK y102
(thn (loadH (some 3) h98 y0) fun y103 =>
thnH (liftF F_wrong [y103, y101] h98) fun y104 h105 =>
thn (extractD y104 0) fun y106 =>
thn (extractD y104 1) fun y107 =>
thnH (setH 3 y4 y106 h105) fun y108 h109 =>
thnH (setH 5 y6 y107 h109) fun y110 h111 =>
thn (loadH (some 3) h111 y4) fun y112 =>
thn (loadH (some 5) h111 y6) fun y113 =>
some (.tup [y112, y113], h111))
(thn (fieldAtH 0 y2) fun y114 =>
thn (loadH none h98 y114) fun y115 =>
thn (binK .int .eql y115 (iD 2)) fun y116 =>
condK y116
(thn (fieldAtH 1 y2) fun y117 =>
thn (loadH none h98 y117) fun y118 =>
thn (binK .int .lss y118 (iD 0)) fun y119 =>
condK y119
(thn (loadH (some 3) h98 y0) fun y120 =>
thnH (liftF F_wrong [y120, (iD 4)] h98) fun y121 h122 =>
thn (extractD y121 0) fun y123 =>
thn (extractD y121 1) fun y124 =>
thnH (setH 3 y4 y123 h122) fun y125 h126 =>
thnH (setH 5 y6 y124 h126) fun y127 h128 =>
thn (loadH (some 3) h128 y4) fun y129 =>
thn (loadH (some 5) h128 y6) fun y130 =>
some (.tup [y129, y130], h128))
(thn (fieldAtH 1 y2) fun y131 =>
thn (loadH none h98 y131) fun y132 =>
thn (intOf64 .u64 y132) fun y133 =>
thn (binK .int .gtr y99 y133) fun y134 =>
condK y134
(thn (loadH (some 3) h98 y0) fun y135 =>
thnH (liftF F_wrong [y135, (iD 4)] h98) fun y136 h137 =>
thn (extractD y136 0) fun y138 =>
thn (extractD y136 1) fun y139 =>
thnH (setH 3 y4 y138 h137) fun y140 h141 =>
thnH (setH 5 y6 y139 h141) fun y142 h143 =>
thn (loadH (some 3) h143 y4) fun y144 =>
thn (loadH (some 5) h143 y6) fun y145 =>
some (.tup [y144, y145], h143))
(thn (fieldAtH 0 y2) fun y146 =>
thn (loadH none h98 y146) fun y147 =>
thn (binK .int .eql y147 (iD 4)) fun y148 =>
condK y148
(thn (loadH (some 3) h98 y0) fun y149 =>
thnH (liftF F_no [y149, y100, y99] h98) fun y150 h151 =>
thn (extractD y150 0) fun y152 =>
thn (extractD y150 1) fun y153 =>
thnH (setH 3 y4 y152 h151) fun y154 h155 =>
thnH (setH 5 y6 y153 h155) fun y156 h157 =>
thn (loadH (some 3) h157 y4) fun y158 =>
thn (loadH (some 5) h157 y6) fun y159 =>
some (.tup [y158, y159], h157))
(thn (fieldAtH 1 y0) fun y160 =>
thnH (setH 1 y160 y100 h98) fun y161 h162 =>
thn (fieldAtH 0 y2) fun y163 =>
thn (loadH none h162 y163) fun y164 =>
thn (binK .int .eql y164 (iD 3)) fun y165 =>
condK y165
(thn (loadH (some 3) h162 y0) fun y166 =>
thnH (liftF F_Zag [y99] h162) fun y167 h168 =>
thn (buildR [(0, 1), (1, 1), (2, 1), (3, 1), (4, 1)] [(.v (.int .u64 0)), (iD 0), (.v (.string ⟨#[]⟩)), (iD 0), (iD 0)] [(1, y167)]) fun y169 =>
thnH (setH 3 y4 y166 h168) fun y170 h171 =>
thnH (setH 5 y6 y169 h171) fun y172 h173 =>
thn (loadH (some 3) h173 y4) fun y174 =>
thn (loadH (some 5) h173 y6) fun y175 =>
some (.tup [y174, y175], h173))
(thn (loadH (some 3) h162 y0) fun y176 =>
thn (buildR [(0, 1), (1, 1), (2, 1), (3, 1), (4, 1)] [(.v (.int .u64 0)), (iD 0), (.v (.string ⟨#[]⟩)), (iD 0), (iD 0)] [(0, y99)]) fun y177 =>
thnH (setH 3 y4 y176 h162) fun y178 h179 =>
thnH (setH 5 y6 y177 h179) fun y180 h181 =>
thn (loadH (some 3) h181 y4) fun y182 =>
thn (loadH (some 5) h181 y6) fun y183 =>
some (.tup [y182, y183], h181))))))
(thn (fieldAtH 0 y2) fun y184 =>
thn (loadH none h98 y184) fun y185 =>
thn (binK .int .eql y185 (iD 4)) fun y186 =>
condK y186
(thn (fieldAtH 1 y2) fun y187 =>
thn (loadH none h98 y187) fun y188 =>
thn (binK .int .lss y188 (iD 0)) fun y189 =>
condK y189
(thn (loadH (some 3) h98 y0) fun y190 =>
thnH (liftF F_wrong [y190, (iD 4)] h98) fun y191 h192 =>
thn (extractD y191 0) fun y193 =>
thn (extractD y191 1) fun y194 =>
thnH (setH 3 y4 y193 h192) fun y195 h196 =>
thnH (setH 5 y6 y194 h196) fun y197 h198 =>
thn (loadH (some 3) h198 y4) fun y199 =>
thn (loadH (some 5) h198 y6) fun y200 =>
some (.tup [y199, y200], h198))
(thn (fieldAtH 1 y2) fun y201 =>
thn (loadH none h98 y201) fun y202 =>
thn (intOf64 .u64 y202) fun y203 =>
thn (binK .int .gtr y99 y203) fun y204 =>
condK y204
(thn (loadH (some 3) h98 y0) fun y205 =>
thnH (liftF F_wrong [y205, (iD 4)] h98) fun y206 h207 =>
thn (extractD y206 0) fun y208 =>
thn (extractD y206 1) fun y209 =>
thnH (setH 3 y4 y208 h207) fun y210 h211 =>
thnH (setH 5 y6 y209 h211) fun y212 h213 =>
thn (loadH (some 3) h213 y4) fun y214 =>
thn (loadH (some 5) h213 y6) fun y215 =>
some (.tup [y214, y215], h213))
(thn (fieldAtH 0 y2) fun y216 =>
thn (loadH none h98 y216) fun y217 =>
thn (binK .int .eql y217 (iD 4)) fun y218 =>
condK y218
(thn (loadH (some 3) h98 y0) fun y219 =>
thnH (liftF F_no [y219, y100, y99] h98) fun y220 h221 =>
thn (extractD y220 0) fun y222 =>
thn (extractD y220 1) fun y223 =>
thnH (setH 3 y4 y222 h221) fun y224 h225 =>
thnH (setH 5 y6 y223 h225) fun y226 h227 =>
thn (loadH (some 3) h227 y4) fun y228 =>
thn (loadH (some 5) h227 y6) fun y229 =>
some (.tup [y228, y229], h227))
(thn (fieldAtH 1 y0) fun y230 =>
thnH (setH 1 y230 y100 h98) fun y231 h232 =>
thn (fieldAtH 0 y2) fun y233 =>
thn (loadH none h232 y233) fun y234 =>
thn (binK .int .eql y234 (iD 3)) fun y235 =>
condK y235
(thn (loadH (some 3) h232 y0) fun y236 =>
thnH (liftF F_Zag [y99] h232) fun y237 h238 =>
thn (buildR [(0, 1), (1, 1), (2, 1), (3, 1), (4, 1)] [(.v (.int .u64 0)), (iD 0), (.v (.string ⟨#[]⟩)), (iD 0), (iD 0)] [(1, y237)]) fun y239 =>
thnH (setH 3 y4 y236 h238) fun y240 h241 =>
thnH (setH 5 y6 y239 h241) fun y242 h243 =>
thn (loadH (some 3) h243 y4) fun y244 =>
thn (loadH (some 5) h243 y6) fun y245 =>
some (.tup [y244, y245], h243))
(thn (loadH (some 3) h232 y0) fun y246 =>
thn (buildR [(0, 1), (1, 1), (2, 1), (3, 1), (4, 1)] [(.v (.int .u64 0)), (iD 0), (.v (.string ⟨#[]⟩)), (iD 0), (iD 0)] [(0, y99)]) fun y247 =>
thnH (setH 3 y4 y246 h232) fun y248 h249 =>
thnH (setH 5 y6 y247 h249) fun y250 h251 =>
thn (loadH (some 3) h251 y4) fun y252 =>
thn (loadH (some 5) h251 y6) fun y253 =>
some (.tup [y252, y253], h251))))))
(thn (fieldAtH 0 y2) fun y254 =>
thn (loadH none h98 y254) fun y255 =>
thn (binK .int .eql y255 (iD 4)) fun y256 =>
condK y256
(thn (loadH (some 3) h98 y0) fun y257 =>
thnH (liftF F_no [y257, y100, y99] h98) fun y258 h259 =>
thn (extractD y258 0) fun y260 =>
thn (extractD y258 1) fun y261 =>
thnH (setH 3 y4 y260 h259) fun y262 h263 =>
thnH (setH 5 y6 y261 h263) fun y264 h265 =>
thn (loadH (some 3) h265 y4) fun y266 =>
thn (loadH (some 5) h265 y6) fun y267 =>
some (.tup [y266, y267], h265))
(thn (fieldAtH 1 y0) fun y268 =>
thnH (setH 1 y268 y100 h98) fun y269 h270 =>
thn (fieldAtH 0 y2) fun y271 =>
thn (loadH none h270 y271) fun y272 =>
thn (binK .int .eql y272 (iD 3)) fun y273 =>
condK y273
(thn (loadH (some 3) h270 y0) fun y274 =>
thnH (liftF F_Zag [y99] h270) fun y275 h276 =>
thn (buildR [(0, 1), (1, 1), (2, 1), (3, 1), (4, 1)] [(.v (.int .u64 0)), (iD 0), (.v (.string ⟨#[]⟩)), (iD 0), (iD 0)] [(1, y275)]) fun y277 =>
thnH (setH 3 y4 y274 h276) fun y278 h279 =>
thnH (setH 5 y6 y277 h279) fun y280 h281 =>
thn (loadH (some 3) h281 y4) fun y282 =>
thn (loadH (some 5) h281 y6) fun y283 =>
some (.tup [y282, y283], h281))
(thn (loadH (some 3) h270 y0) fun y284 =>
thn (buildR [(0, 1), (1, 1), (2, 1), (3, 1), (4, 1)] [(.v (.int .u64 0)), (iD 0), (.v (.string ⟨#[]⟩)), (iD 0), (iD 0)] [(0, y99)]) fun y285 =>
thnH (setH 3 y4 y284 h270) fun y286 h287 =>
thnH (setH 5 y6 y285 h287) fun y288 h289 =>
thn (loadH (some 3) h289 y4) fun y290 =>
thn (loadH (some 5) h289 y6) fun y291 =>
some (.tup [y290, y291], h289)))))))))) := by kernel_rfl

def kp_zigzag_Zig : List Nat := []
theorem sh_zigzag_Zig (n : Nat) (x0 : D) (h : Heap) : textK Try.prog T10c kp_zigzag_Zig n Try.f102 [x0] h =
(thn (buildA 1 [(.v .nilFunc), (.v .nilFunc)] [(0, (.clo (.func 109) [] [])), (1, (.clo (.func 110) [] []))]) fun y0 =>
thnH (allocH 149 [(.v .nilFunc), (.v .nilFunc)] h) fun y1 h2 =>
thnH (setH 2 y1 y0 h2) fun y3 h4 =>
thn (intOf64 .u64 x0) fun y5 =>
thn (binK .int .shr y5 (.v (.int .u64 63))) fun y6 =>
thn (idxA 2 1 y1 y6) fun y7 =>
thn (loadH none h4 y7) fun y8 =>
thn (intOf64 .u64 x0) fun y9 =>
thnH (callClo T10c y8 [y9] h4) fun y10 h11 =>
some (y10, h11)) := by kernel_rfl

end Go.Proofs.Ytbnmkdlmalobaaa
end

section
namespace Go.Proofs.Ytbnmkdlmalobaaa
open Go.RowKit
set_option linter.unusedVariables false
set_option linter.unusedSimpArgs false

theorem wrong_pure (r : Rdr) (e : Int) (H : Heap) : liftF F_wrong [rdD r, iD e] H = some (.tup [rdD (r.1, r.2.1, e), gotD 0 0], H) := by
  rw [liftF_pure _ _ _ rfl]
  have : F_wrong [rdD r, iD e] = _ := f2_enc (A := rdT) (B := intT) _ r e
  rw [this]; rfl
theorem refGet_pure (s : By) (i : Nat) (hi : i ≤ s.length) (hs : s.length ≤ 3000000) (H : Heap) : liftF F_RefGet [sD s, iD i] H = some (.tup [u64D (refV s i).1, iD (refV s i).2.1, iD (refV s i).2.2], H) := by
  rw [liftF_pure _ _ _ rfl]
  have : F_RefGet [sD s, iD i] = _ := f2_enc (A := strT) (B := intT) _ s (i : Int)
  rw [this, if_pos ⟨by omega, by omega, hs⟩]; rfl
theorem refV_range (s : By) (i : Nat) : 0 ≤ (refV s i).1 ∧ (refV s i).1 ≤ 18446744073709551615 := by
  unfold refV
  split
  · simp
  · split
    · exact val_range _
    · simp
@[simp] theorem box_rd (t : TypeId) (r : Rdr) (H : Heap) : boxH t (rdD r) H = some (.hp H.length 0, H ++ [.cells t 3 [sD r.1, iD r.2.1, iD r.2.2]]) := rfl
@[simp] theorem cells_rd (r : Rdr) : cellsD (rdD r) = some (rdC r) := rfl
@[simp] theorem pure_rdD (r : Rdr) : pureD (rdD r) = true := rfl
@[simp] theorem pure_gotD (a b : Int) : pureD (gotD a b) = true := rfl
theorem agg_rd (s : By) (n e : Int) : D.agg [sD s, iD n, iD e] = rdD (s, n, e) := rfl

theorem sD_nil : D.v (.string ⟨#[]⟩) = sD [] := rfl
def doOk (r : Rdr) (o : Nd) : Bool := decide ((o.1 = 0 ∨ o.1 = 2 ∨ o.1 = 3) ∧ o.2 = 1000000 ∧ 0 ≤ r.2.1 ∧ r.2.1 ≤ r.1.length ∧ r.1.length ≤ 3000000)
def F_Do : List D → Option D := F2 rdT ndT fun r o => if doOk r o = true then
    some (.tup [rdD (r.1, ((doV r.1 (r.2.1.toNat, r.2.2) o.1).2.1 : Int), (doV r.1 (r.2.1.toNat, r.2.2) o.1).2.2), gotD (if o.1 = 3 then 0 else (doV r.1 (r.2.1.toNat, r.2.2) o.1).1) (if o.1 = 3 then (doV r.1 (r.2.1.toNat, r.2.2) o.1).1 else 0)]) else none
set_option maxHeartbeats 4000000 in
theorem C_Do : CallOk Try.prog 85 F_Do := call2 (kp := kp_offshootref05_Do) T10c_ok mixed Try.func85 (by kernel_rfl) (by decide) fun r o d h => by
  split at h
  case isFalse => cases h
  rename_i hc
  cases h
  obtain ⟨s, i, e⟩ := r
  obtain ⟨k, m⟩ := o
  simp only [doOk, decide_eq_true_eq] at hc
  obtain ⟨hk, rfl, h0, h1, hs⟩ := hc
  obtain ⟨i, rfl⟩ := Int.eq_ofNat_of_zero_le h0
  have hi : i ≤ s.length := by omega
  refine ⟨0, _, ?_, Imp.refl _⟩
  show outD (textK _ _ _ _ _ [rdD (s, (i : Int), e), .agg (nodeD (k, 1000000))] []) = _
  rw [sh_offshootref05_Do]
  simp only [Int.toNat_natCast]
  unfold doV
  by_cases he : e = 0
  · subst he
    have hg := refGet_pure s i hi hs
    have hr := refV_range s i
    have hin := refV_in s i
    rcases hk with rfl | rfl | rfl
    · by_cases hl : s.length ≤ i
      · simp [setH, storeH, allocH, newH, hl, wrong_pure, agg_rd, rdC, gotD, show (s.length : Int) ≤ i from by omega]
      · have hx := str_idx s i (by omega)
        have hadd := intD_add (i : Int) 1 (by omega) (by omega)
        have hsub := intD_sub ((i : Int) + 1) 1 (by omega) (by omega)
        have hcast : ((i : Int) + 1) - 1 = i := by omega
        rw [hcast] at hsub
        have hb := s[i]'(by omega) |>.toNat_lt
        have hu : intOf64 .u64 (u8D (s[i]'(by omega))) = some (u64D ((s[i]'(by omega)).toNat : Int)) := u64_of _ _ (by omega) (by omega)
        simp [setH, storeH, allocH, newH, hl, agg_rd, rdC, gotD, show ¬ (s.length : Int) ≤ i from by omega, hadd, hsub, hx, hu, fold_u64, buildR, fillD, sD_nil, List.getElem?_eq_getElem (show i < s.length by omega)]
    · by_cases hE : (refV s i).2.2 = 0
      · have hu : intOf64 .u64 (iD 1000000) = some (u64D 1000000) := u64_of _ _ (by omega) (by omega)
        by_cases hn : 1000000 < (refV s i).1
        · simp [setH, storeH, allocH, newH, agg_rd, rdC, gotD, hg, hE, hu, hn, wrong_pure, fold_u64]
        · simp [setH, storeH, allocH, newH, agg_rd, rdC, gotD, hg, hE, hu, hn, fold_u64, buildR, fillD, sD_nil]
      · simp [setH, storeH, allocH, newH, agg_rd, rdC, gotD, hg, hE, wrong_pure]
    · by_cases hE : (refV s i).2.2 = 0
      · have hz := zag_pure _ hr
        simp [setH, storeH, allocH, newH, agg_rd, rdC, gotD, hg, hE, hz, fold_u64, buildR, fillD, sD_nil]
      · simp [setH, storeH, allocH, newH, agg_rd, rdC, gotD, hg, hE, wrong_pure]
  · simp [he, setH, storeH, allocH, newH, agg_rd, rdC, gotD, fold_u64, buildR, fillD, sD_nil]

theorem C_Zig : CallOk Try.prog 102 F_Zig := call1 (kp := kp_zigzag_Zig) T10c_ok mixed Try.func102 (by kernel_rfl) (by decide) fun n d h => by
  split at h
  case isFalse => cases h
  rename_i hn
  cases h
  refine ⟨0, _, ?_, Imp.refl _⟩
  show outD (textK _ _ _ _ _ [iD n] []) = _
  rw [sh_zigzag_Zig]
  have hsh : ∀ u : Int, 0 ≤ u → binK .int .shr (u64D u) (.v (.int .u64 63)) = some (u64D (u / 9223372036854775808)) := by
    intro u h0
    show shiftD .shr .u64 u 63 = _
    unfold shiftD
    rw [if_neg (by omega)]
    have e : min (Int.toNat 63) IntKind.u64.bits = 63 := by decide
    have e2 : (2 : Int) ^ 63 = 9223372036854775808 := by decide
    simp only [e, e2]
    rw [Int.fdiv_eq_ediv_of_nonneg _ (by omega)]
    rfl
  have hbuild : buildA 1 [.v .nilFunc, .v .nilFunc] [(0, .clo (.func 109) [] []), (1, .clo (.func 110) [] [])] = some (.agg [.clo (.func 109) [] [], .clo (.func 110) [] []]) := rfl
  have hw : intOf64 .u64 (iD n) = some (u64D (IntKind.u64.wrap n)) := rfl
  have hwv : IntKind.u64.wrap n = if 0 ≤ n then n else n + 18446744073709551616 := by
    rw [IntKind.wrap_u64]
    split <;> omega
  have hw0 : 0 ≤ IntKind.u64.wrap n := by rw [hwv]; split <;> omega
  have hs := hsh _ hw0
  have c1 : ∀ (u : Int) (H : Heap), callClo T10c (.clo (.func 109) [] []) [u64D u] H = some (u64D (IntKind.u64.wrap (u * 2)), H) := fun u H => by
    show liftF F_Zig1 [u64D u] H = _
    rw [liftF_pure _ _ _ rfl]
    have : F_Zig1 [u64D u] = _ := f1_enc (A := u64T) _ u
    rw [this]; rfl
  have c2 : ∀ (u : Int) (H : Heap), callClo T10c (.clo (.func 110) [] []) [u64D u] H = some (u64D (18446744073709551615 - IntKind.u64.wrap (u * 2)), H) := fun u H => by
    show liftF F_Zig2 [u64D u] H = _
    rw [liftF_pure _ _ _ rfl]
    have : F_Zig2 [u64D u] = _ := f1_enc (A := u64T) _ u
    rw [this]; rfl
  unfold zigV
  by_cases h0 : 0 ≤ n
  · rw [hwv, if_pos h0] at hs hw
    have hz : n / 9223372036854775808 = 0 := by omega
    rw [hz] at hs
    have e : IntKind.u64.wrap (n * 2) = 2 * n := by rw [IntKind.wrap_u64]; omega
    have hi : ∀ i o, idxA 2 1 (.hp i o) (u64D 0) = some (.hp i o) := fun i o => by simp [idxA, u64D]
    simp [hbuild, allocH, newH, setH, storeH, hw, hs, hi, c1, e, h0]
  · rw [hwv, if_neg h0] at hs hw
    have hz : (n + 18446744073709551616) / 9223372036854775808 = 1 := by omega
    rw [hz] at hs
    have e : 18446744073709551615 - IntKind.u64.wrap ((n + 18446744073709551616) * 2) = -2 * n - 1 := by rw [IntKind.wrap_u64]; omega
    have hi : ∀ i o, idxA 2 1 (.hp i o) (u64D 1) = some (.hp i (o + 1)) := fun i o => by simp [idxA, u64D]
    simp [hbuild, allocH, newH, setH, storeH, hw, hs, hi, c2, e, h0]
def fs10d : List Entry := (85, true, liftF F_Do) :: (102, true, liftF F_Zig) :: fs10c
theorem fs10d_ok : ∀ p ∈ fs10d, EntryOk Try.prog p := entries_cons (entry_lift C_Do) (entries_cons (entry_lift C_Zig) fs10c_ok)
def T10d : Tab := ⟨fs10d, noYl⟩
theorem T10d_ok : TabOk Try.prog T10d := tabOk_of fs10d_ok
end Go.Proofs.Ytbnmkdlmalobaaa
end

section
namespace Go.Proofs.Ytbnmkdlmalobaaa
open Go.RowKit
set_option linter.unusedVariables false
set_option maxRecDepth 100000

def kp_offshootref10_Ask : List Nat := []
theorem sh_offshootref10_Ask (n : Nat) (x0 x1 : D) (h : Heap) : textK Try.prog T10d kp_offshootref10_Ask n Try.f67 [x0, x1] h =
(thnH (boxH 85 x0 h) fun y0 h1 =>
thnH (allocH 85 [(.v (.string ⟨#[]⟩)), (iD 0), (iD 0)] h1) fun y2 h3 =>
thn (loadH (some 3) h3 y0) fun y4 =>
thn (buildR [(0, 1), (1, 1)] [(iD 0), (iD 0)] [(0, x1), (1, (iD 1000000))]) fun y5 =>
thnH (liftF F_Do [y4, y5] h3) fun y6 h7 =>
thn (extractD y6 0) fun y8 =>
thn (extractD y6 1) fun y9 =>
thnH (allocH 85 [(.v (.string ⟨#[]⟩)), (iD 0), (iD 0)] h7) fun y10 h11 =>
thnH (allocH 117 [(.v (.int .u64 0)), (iD 0), (.v (.string ⟨#[]⟩)), (iD 0), (iD 0)] h11) fun y12 h13 =>
thnH (setH 3 y10 y8 h13) fun y14 h15 =>
thnH (setH 5 y12 y9 h15) fun y16 h17 =>
thn (fieldAtH 2 y10) fun y18 =>
thn (loadH none h17 y18) fun y19 =>
thn (binK .int .neq y19 (iD 0)) fun y20 =>
condK y20
(thn (loadH (some 3) h17 y10) fun y21 =>
thnH (setH 3 y2 y21 h17) fun y22 h23 =>
thn (loadH (some 3) h23 y2) fun y24 =>
some (.tup [y24, (iD (-1))], h23))
(thn (binK .int .eql x1 (iD 3)) fun y25 =>
condK y25
(thn (loadH (some 3) h17 y10) fun y26 =>
thn (fieldAtH 1 y12) fun y27 =>
thn (loadH none h17 y27) fun y28 =>
thnH (setH 3 y2 y26 h17) fun y29 h30 =>
apartK y27 y2
(thn (loadH (some 3) h30 y2) fun y31 =>
some (.tup [y31, y28], h30)))
(thn (loadH (some 3) h17 y10) fun y32 =>
thn (fieldAtH 0 y12) fun y33 =>
thn (loadH none h17 y33) fun y34 =>
thn (intOf64 .i64 y34) fun y35 =>
thnH (setH 3 y2 y32 h17) fun y36 h37 =>
apartK y33 y2
(wholeK y34
(thn (loadH (some 3) h37 y2) fun y38 =>
some (.tup [y38, y35], h37)))))) := by kernel_rfl

end Go.Proofs.Ytbnmkdlmalobaaa
end

section
namespace Go.Proofs.Ytbnmkdlmalobaaa
open Go.RowKit
set_option linter.unusedVariables false
set_option linter.unusedSimpArgs false

theorem do_pure (s : By) (i : Nat) (e k : Int) (h : doOk (s, (i : Int), e) (k, 1000000) = true) (H : Heap) : liftF F_Do [rdD (s, (i : Int), e), .agg (nodeD (k, 1000000))] H =
    some (.tup [rdD (s, ((doV s (i, e) k).2.1 : Int), (doV s (i, e) k).2.2), gotD (if k = 3 then 0 else (doV s (i, e) k).1) (if k = 3 then (doV s (i, e) k).1 else 0)], H) := by
  rw [liftF_pure _ _ _ rfl]
  have : F_Do [rdD (s, (i : Int), e), .agg (nodeD (k, 1000000))] = _ := f2_enc (A := rdT) (B := ndT) _ (s, (i : Int), e) (k, 1000000)
  rw [this, if_pos h]; rfl
theorem doV_small (s : By) (r : Rd) (k : Int) (h : k = 0 ∨ k = 2) (he : (doV s r k).2.2 = 0) : 0 ≤ (doV s r k).1 ∧ (doV s r k).1 ≤ 1000000 := by
  have hr := refV_range s r.1
  unfold doV at he ⊢
  by_cases h0 : r.2 ≠ 0
  · rw [if_pos h0]; simp
  rw [if_neg h0] at he ⊢
  rcases h with rfl | rfl
  · rw [if_pos rfl]
    split
    · simp
    · have := (s.getD r.1 0).toNat_lt
      simp only
      omega
  · rw [if_neg (by omega)] at he ⊢
    split
    · simp
    · split
      · simp
      · rename_i h2
        rw [if_neg (by omega)]
        simp only
        have : ¬ 1000000 < (refV s r.1).1 := fun hh => h2 ⟨rfl, hh⟩
        omega
def F_Ask : List D → Option D := F2 rdT intT fun r k => if doOk r (k, 1000000) = true then
    some (.tup [rdD (r.1, ((askV10 r.1 (r.2.1.toNat, r.2.2) k).2.1 : Int), (askV10 r.1 (r.2.1.toNat, r.2.2) k).2.2), iD (askV10 r.1 (r.2.1.toNat, r.2.2) k).1]) else none
theorem C_Ask : CallOk Try.prog 67 F_Ask := call2 (kp := kp_offshootref10_Ask) T10d_ok mixed Try.func67 (by kernel_rfl) (by decide) fun r k d h => by
  split at h
  case isFalse => cases h
  rename_i hc
  cases h
  obtain ⟨s, i, e⟩ := r
  have hc' := hc
  simp only [doOk, decide_eq_true_eq] at hc'
  obtain ⟨hk, _, h0, h1, hs⟩ := hc'
  obtain ⟨i, rfl⟩ := Int.eq_ofNat_of_zero_le h0
  refine ⟨0, _, ?_, Imp.refl _⟩
  show outD (textK _ _ _ _ _ [rdD (s, (i : Int), e), iD k] []) = _
  rw [sh_offshootref10_Ask]
  have hd := do_pure s i e k hc
  have hsm := doV_small s (i, e) k
  have hb : buildR [(0, 1), (1, 1)] [iD 0, iD 0] [(0, iD k), (1, iD 1000000)] = some (.agg (nodeD (k, 1000000))) := rfl
  simp only [Int.toNat_natCast]
  unfold askV10
  generalize hv : doV s (i, e) k = v at *
  obtain ⟨v, j, f⟩ := v
  by_cases hf : f = 0
  · subst hf
    by_cases h3 : k = 3
    · subst h3
      simp [allocH, newH, setH, storeH, agg_rd, hb, hd, rdC, gotD]
    · have hu : intOf64 .i64 (u64D v) = some (iD v) := by
        have := hsm (by omega) rfl
        simp only at this
        exact i64_of _ _ (by omega) (by omega)
      simp [allocH, newH, setH, storeH, agg_rd, hb, hd, rdC, gotD, h3, hu]
  · simp [allocH, newH, setH, storeH, agg_rd, hb, hd, rdC, gotD, hf]
def fs10e : List Entry := (67, true, liftF F_Ask) :: fs10d
theorem fs10e_ok : ∀ p ∈ fs10e, EntryOk Try.prog p := entries_cons (entry_lift C_Ask) fs10d_ok
def T10e : Tab := ⟨fs10e, noYl⟩
theorem T10e_ok : TabOk Try.prog T10e := tabOk_of fs10e_ok
end Go.Proofs.Ytbnmkdlmalobaaa
end

section
namespace Go.Proofs.Ytbnmkdlmalobaaa
open Go.RowKit
set_option linter.unusedVariables false

def textG (P : Program) (T : Tab) (kp : List Nat) (n : Nat) (f : FuncId) : List D → Heap → Option (D × Heap) := fun ds H =>
  match P.funcs[f]? with
  | some fn => textK P T kp n fn ds H
  | none => none
theorem textG_eq {P : Program} {T : Tab} {kp : List Nat} {n : Nat} {f : FuncId} {fn : Func} (h : P.funcs[f]? = some fn) (ds : List D) (H : Heap) : textG P T kp n f ds H = textK P T kp n fn ds H := by unfold textG; rw [h]
theorem hcall_G {P : Program} {T : Tab} {kp : List Nat} {n : Nat} (hT : TabOk P T) (hm : P.follows .mixedOrders = true) {f : FuncId} {fn : Func} (hf : P.funcs[f]? = some fn) (hb : fn.body.isSome = true) (hname : fn.name ≠ "runtime.NumGoroutine") : HCallOk P f (textG P T kp n f) :=
  hcall_text (kp := kp) hT hm hf hb hname fun ds H d H' h => ⟨n, by rw [textG_eq hf] at h; exact h⟩
/-- k rounds that keep an invariant, and a last one. -/
theorem loopF_inv {P : Program} {T : Tab} {kp : List Nat} {fn : Func} {li : Nat} (st : Nat → List D) (Inv : Nat → Heap → Prop) (Q : Lv × List D × Heap → Prop) (k n : Nat)
    (hstep : ∀ j H, j < k → Inv j H → ∃ H', stepF P T kp n fn li (st j) H = some (.normal, st (j + 1), H') ∧ Inv (j + 1) H') (hend : ∀ H, Inv k H → ∃ r, stepF P T kp n fn li (st k) H = some r ∧ r.1 ≠ .normal ∧ Q r) (hn : k < n) {H : Heap} (h : Inv 0 H) :
    ∃ r, loopF P T kp n fn li (st 0) H = some r ∧ Q r := by
  have key : ∀ (m i : Nat) (H : Heap), i + m = k → Inv i H → ∀ q, m < q → ∃ r, iterS (stepF P T kp n fn li) q (st i) H = some r ∧ Q r := by
    intro m
    induction m with
    | zero =>
      intro i H hi hI q hq
      obtain ⟨q, rfl⟩ : ∃ x, q = x + 1 := ⟨q - 1, by omega⟩
      obtain rfl : i = k := by omega
      obtain ⟨⟨lv, s', H'⟩, h1, h2, h3⟩ := hend H hI
      refine ⟨_, ?_, h3⟩
      simp only [iterS, h1]
      cases lv with
      | normal => exact absurd rfl h2
      | _ => rfl
    | succ m ih =>
      intro i H hi hI q hq
      obtain ⟨q, rfl⟩ : ∃ x, q = x + 1 := ⟨q - 1, by omega⟩
      obtain ⟨H', h1, h2⟩ := hstep i H (by omega) hI
      rw [iterS_go h1]
      exact ih (i + 1) H' (by omega) h2 q (by omega)
  exact key k 0 H (by omega) h n hn
end Go.Proofs.Ytbnmkdlmalobaaa
end

section
namespace Go.Proofs.Ytbnmkdlmalobaaa
open Go.RowKit
set_option linter.unusedVariables false
abbrev Yl := Nat → List D → Heap → Option (D × Heap)
def T10y (Y : Yl) : Tab := ⟨fs10e, Y⟩
theorem T10y_ok (Y : Yl) (hY : YOk Try.prog Y) : TabOk Try.prog (T10y Y) := ⟨fs10e_ok, hY⟩
end Go.Proofs.Ytbnmkdlmalobaaa
end

section
namespace Go.Proofs.Ytbnmkdlmalobaaa
open Go.RowKit
set_option linter.unusedVariables false
set_option maxRecDepth 100000
variable (Y : Yl)

def kp_leb_digits_1 : List Nat := [0, 1]
theorem sh_leb_digits_1 (n : Nat) (x0 x1 : D) (h : Heap) : textK Try.prog (T10y Y) kp_leb_digits_1 n Try.f108 [x0, x1] h =
(leaveK (loopF Try.prog (T10y Y) kp_leb_digits_1 n Try.f108 0 [x0, x1] h) (fun j0 s1 h2 =>
condN j0 0
(thn (loadH none h2 (s1.getD 1 .undef)) fun y3 =>
thn (intOf64 .u8 y3) fun y4 =>
thnH (callClo (T10y Y) (s1.getD 0 .undef) [y4] h2) fun y5 h6 =>
some (.tup [], h6))
(none)) (fun s1 h2 =>
some (.tup [], h2))) := by kernel_rfl

theorem st_leb_digits_1_0 (n : Nat) (s0 s1 : D) (h : Heap) : stepF Try.prog (T10y Y) kp_leb_digits_1 n Try.f108 0 [s0, s1] h =
(thn (loadH none h s1) fun y0 =>
thn (binK .int .geq y0 (.v (.int .u64 128))) fun y1 =>
condK y1
(thn (loadH none h s1) fun y2 =>
thn (intOf64 .u8 y2) fun y3 =>
thn (binK .int .or y3 (.v (.int .u8 128))) fun y4 =>
thnH (callClo (T10y Y) s0 [y4] h) fun y5 h6 =>
thn (notD y5) fun y7 =>
condK y7
(some (.ret, [s0, s1], h6))
(thn (loadH none h6 s1) fun y8 =>
thn (binK .int .shr y8 (.v (.int .u64 7))) fun y9 =>
thnH (setH 1 s1 y9 h6) fun y10 h11 =>
some (.normal, [s0, s1], h11)))
(some ((.exit 0), [s0, s1], h))) := by kernel_rfl

end Go.Proofs.Ytbnmkdlmalobaaa
end

section
namespace Go.Proofs.Ytbnmkdlmalobaaa
open Go.RowKit
set_option linter.unusedVariables false

def G_digits (P : Program) : List D → Heap → Option (D × Heap) := textG P T10b kp_leb_digits 0 101
theorem G_digits_eq (ds : List D) (H : Heap) : G_digits Try.prog ds H = textK Try.prog T10b kp_leb_digits 0 Try.f101 ds H := textG_eq Try.func101 ds H
def G_digits1 (P : Program) (Y : Yl) : List D → Heap → Option (D × Heap) := textG P (T10y Y) kp_leb_digits_1 12 108
theorem G_digits1_eq (Y : Yl) (ds : List D) (H : Heap) : G_digits1 Try.prog Y ds H = textK Try.prog (T10y Y) kp_leb_digits_1 12 Try.f108 ds H := textG_eq Try.func108 ds H
theorem C_digits : HCallOk Try.prog 101 (G_digits Try.prog) := hcall_G T10b_ok mixed Try.func101 (by kernel_rfl) (by decide)
theorem C_digits1 (Y : Yl) (hY : YOk Try.prog Y) : HCallOk Try.prog 108 (G_digits1 Try.prog Y) := hcall_G (T10y_ok Y hY) mixed Try.func108 (by kernel_rfl) (by decide)
def TF (P : Program) (Y : Yl) : Tab := ⟨(101, false, G_digits P) :: (108, false, G_digits1 P Y) :: fs10e, Y⟩
theorem TF_ok (Y : Yl) (hY : YOk Try.prog Y) : TabOk Try.prog (TF Try.prog Y) := ⟨entries_cons (entry_obj C_digits) (entries_cons (entry_obj (C_digits1 Y hY)) fs10e_ok), hY⟩
end Go.Proofs.Ytbnmkdlmalobaaa
end

section
namespace Go.Proofs.Ytbnmkdlmalobaaa
open Go.RowKit
set_option linter.unusedVariables false
set_option maxRecDepth 100000
variable (Y : Yl)

def kp_leb_Put : List Nat := [3]
theorem sh_leb_Put (n : Nat) (x0 : D) (h : Heap) : textK Try.prog (TF Try.prog Y) kp_leb_Put n Try.f90 [x0] h =
(thnH (allocH 105 [(.v (.slice none 0 0))] h) fun y0 h1 =>
thnH ((G_digits Try.prog) [x0] h1) fun y2 h3 =>
leaveR3 (rangeS (TF Try.prog Y) y2 [7] (rangeA Try.f90 0) (rangeB Try.f90 0) 14 kp_leb_Put [y0] h3) (fun h5 =>
thn (loadH none h5 y0) fun y6 =>
thn (bytesS h5 y6) fun y7 =>
some (y7, h5)) (fun l4 h5 =>
condN l4 0
(thn (loadH none h5 y0) fun y8 =>
thn (bytesS h5 y8) fun y9 =>
some (y9, h5))
(none)) (fun h5 =>
some ((.v (.string ⟨#[]⟩)), h5))) := by kernel_rfl

theorem rd_leb_Put_0 (n id : Nat) (s0 : D) (a0 : D) (h : Heap) : roundB Try.prog (TF Try.prog Y) n id [7] (rangeA Try.f90 0) (rangeB Try.f90 0) 14 kp_leb_Put [s0] [a0] h =
(busyK id h fun h0 =>
thn (loadH none h0 s0) fun y1 =>
thnH (rowH 5 1 1 [(.v (.int .u8 0))] [(0, a0)] h0) fun y2 h3 =>
thnH (appendH 5 1 y1 y2 h3) fun y4 h5 =>
thnH (setH 1 s0 y4 h5) fun y6 h7 =>
endR id .normal h7) := by kernel_rfl

end Go.Proofs.Ytbnmkdlmalobaaa
end

section
namespace Go.Proofs.Ytbnmkdlmalobaaa
open Go.RowKit
set_option linter.unusedVariables false
set_option linter.unusedSimpArgs false
set_option maxRecDepth 100000

def Y1 (P : Program) : Yl := Yn P (TF P) 0 1
theorem Y1_ok : YOk Try.prog (Y1 Try.prog) := Yn_ok TF_ok mixed 0 1
def loopP (fn : Func) (st : LS) : HO := .loop st [7] (rangeA fn 0) (rangeB fn 0) 14 kp_leb_Put [.hp 0 0]
structure DigInv (H : Heap) (l : By) (m : Int) : Prop where
  len : 3 ≤ H.length
  box : ∃ d, H[0]? = some (.cells 105 1 [d]) ∧ Buf 5 1 H 3 d l.length (bytesC l)
  num : H[1]? = some (.cells 74 1 [u64D m])
  loop : H[2]? = some (loopP Try.f90 .ready)
theorem dig_round (H : Heap) (l : By) (m : Int) (b : UInt8) (h : DigInv H l m) (hl : l.length ≤ 1000) : ∃ H', Y1 Try.prog 2 [u8D b] H = some (bD true, H') ∧ DigInv H' (l ++ [b]) m := by
  obtain ⟨h0, ⟨d, h1, h2⟩, h3, h4⟩ := h
  have hY : Y1 Try.prog 2 [u8D b] H = roundK Try.prog (TF Try.prog noYl) 0 2 [u8D b] H := rfl
  have hk : roundK Try.prog (TF Try.prog noYl) 0 2 [u8D b] H = roundB Try.prog (TF Try.prog noYl) 0 2 [7] (rangeA Try.f90 0) (rangeB Try.f90 0) 14 kp_leb_Put [.hp 0 0] [u8D b] H := by
    unfold roundK
    rw [h4]
    simp only [loopP]
    rw [if_pos]
    refine ⟨rfl, ?_, ?_, ?_, ?_⟩ <;> kernel_rfl
  rw [hY, hk, rd_leb_Put_0]
  have hb : busyK (α := D × Heap) 2 H = fun k => k (H.set 2 (loopP Try.f90 .busy)) := by
    funext k
    unfold busyK
    rw [h4]
    rfl
  rw [hb]
  generalize hH1 : H.set 2 (loopP Try.f90 .busy) = H1
  have g0 : H1[0]? = some (.cells 105 1 [d]) := by rw [← hH1, List.getElem?_set_ne (by omega)]; exact h1
  have g1 : H1[1]? = some (.cells 74 1 [u64D m]) := by rw [← hH1, List.getElem?_set_ne (by omega)]; exact h3
  have g2 : H1[2]? = some (loopP Try.f90 .busy) := by rw [← hH1, List.getElem?_set_self (by omega)]
  have gl : 3 ≤ H1.length := by rw [← hH1]; simpa using h0
  have gb : Buf 5 1 H1 3 d l.length (bytesC l) := by rw [← hH1]; exact h2.set 2 _ (by omega)
  have l0 := load_cell0 H1 0 _ _ _ _ g0
  have r0 := row_one b H1
  generalize hH2 : H1 ++ [HO.cells 5 1 (bytesC [b])] = H2 at r0
  have gb2 : Buf 5 1 H2 3 d l.length (bytesC l) := by rw [← hH2]; exact gb.app _
  have gl2 : H2.length = H1.length + 1 := by rw [← hH2]; simp
  have k2 : ∀ k, k < H1.length → H2[k]? = H1[k]? := fun k hk => by rw [← hH2, List.getElem?_append_left hk]
  have src : srcH 1 H2 (.hs H1.length 1) = some (bytesC [b]) := by
    have : H2[H1.length]? = some (.cells 5 1 (bytesC [b])) := by rw [← hH2]; simp
    simp only [srcH, this]
    rfl
  obtain ⟨d', H3, a1, a2, a3, a4, _⟩ := app_bytes gb2 [b] (by simp; omega) (by omega)
  have ap : appendH 5 1 d (.hs H1.length 1) H2 = some (d', H3) := by unfold appendH; rw [src, Option.bind_some]; exact a1
  have c0 : H3[0]? = some (.cells 105 1 [d]) := by rw [a3.2 0 (by omega), k2 0 (by omega)]; exact g0
  have st := set_cellN H3 0 0 _ _ _ d' c0 (by simp) a2.cells a2.ok
  have hl3 := a3.1
  refine ⟨(H3.set 0 (.cells 105 1 [d'])).set 2 (loopP Try.f90 .ready), ?_, ?_⟩
  · have c2 : (H3.set 0 (.cells 105 1 [d']))[2]? = some (loopP Try.f90 .busy) := by rw [List.getElem?_set_ne (by omega), a3.2 2 (by omega), k2 2 (by omega)]; exact g2
    simp only [l0, thn_some, r0, thnH_some, ap, st, List.set_cons_zero]
    unfold endR
    rw [c2]
    rfl
  · refine ⟨by simp; omega, ⟨d', ?_, ?_⟩, ?_, ?_⟩
    · rw [List.getElem?_set_ne (by omega), List.getElem?_set_self (by omega)]
    · exact (a2.set 0 _ (by omega)).set 2 _ (by omega)
    · rw [List.getElem?_set_ne (by omega), List.getElem?_set_ne (by omega), a3.2 1 (by omega), k2 1 (by omega)]; exact g1
    · rw [List.getElem?_set_self (by simp; omega)]
theorem or128 (m : Int) : binK .int .or (u8D (b8 m)) (.v (.int .u8 128)) = some (u8D (b8 (128 + m % 128))) := by
  have key : ∀ a : Fin 256, (BitVec.ofInt 8 (a.val : Int) ||| BitVec.ofInt 8 128).toNat = 128 + a.val % 128 := by decide +kernel
  have hb := b8_toNat m
  have hlt := (b8 m).toNat_lt
  have := key ⟨(b8 m).toNat, hlt⟩
  rw [u8D, binK_or]
  show some (D.v (.int .u8 (IntKind.u8.wrap (BitVec.ofInt 8 ((b8 m).toNat : Int) ||| BitVec.ofInt 8 128).toNat))) = _
  simp only at this
  rw [this, IntWalk.u8_in _ ⟨by omega, by omega⟩]
  have hb2 := b8_toNat (128 + m % 128)
  unfold u8D
  congr 3
  omega
theorem shr7 (m : Int) : binK .int .shr (u64D m) (.v (.int .u64 7)) = some (u64D (m / 128)) := by
  show shiftD .shr .u64 m 7 = _
  unfold shiftD
  rw [if_neg (by omega)]
  have e : min (Int.toNat 7) IntKind.u64.bits = 7 := by decide
  have e2 : (2 : Int) ^ 7 = 128 := by decide
  simp only [e, e2]
  rw [Int.fdiv_eq_ediv_of_nonneg _ (by omega)]
  rfl
theorem dig_loop : ∀ (f n : Nat) (m : Int) (l : By) (H : Heap), DigInv H l m → 0 ≤ m → m < 128 * 128 ^ f → f < n → l.length + f ≤ 1000 → ∃ m' l' H', iterS (stepF Try.prog (T10y (Y1 Try.prog)) kp_leb_digits_1 12 Try.f108 0) n [.yld 2, .hp 1 0] H = some (.exit 0, [.yld 2, .hp 1 0], H') ∧ DigInv H' l' m' ∧ l'.length ≤ 1000 ∧ l' ++ [b8 m'] = l ++ putF f m := by
  intro f
  have one : ∀ (f n : Nat) (m : Int) (l : By) (H : Heap), DigInv H l m → m < 128 → f < n → l.length + f ≤ 1000 → ∃ m' l' H', iterS (stepF Try.prog (T10y (Y1 Try.prog)) kp_leb_digits_1 12 Try.f108 0) n [.yld 2, .hp 1 0] H = some (.exit 0, [.yld 2, .hp 1 0], H') ∧ DigInv H' l' m' ∧ l'.length ≤ 1000 ∧ l' ++ [b8 m'] = l ++ putF f m := by
    intro f n m l H h hm hn hl
    obtain ⟨n, rfl⟩ : ∃ k, n = k + 1 := ⟨n - 1, by omega⟩
    have l1 := load_cell0 H 1 _ _ _ _ h.num
    have hp : putF f m = [b8 m] := by cases f <;> simp [putF, hm]
    refine ⟨m, l, H, iterS_exit ?_, h, by omega, by rw [hp]⟩
    rw [st_leb_digits_1_0]
    have hg : binK .int .geq (u64D m) (.v (.int .u64 128)) = some (bD (decide (128 ≤ m))) := by rw [u64D, binK_geq]
    simp only [l1, thn_some, hg, condK_bool, decide_eq_true_eq]
    rw [if_neg (by omega)]
  induction f with
  | zero => intro n m l H h h0 h1 hn hl; exact one 0 n m l H h (by simpa using h1) hn hl
  | succ f ih =>
    intro n m l H h h0 h1 hn hl
    by_cases hm : m < 128
    · exact one (f + 1) n m l H h hm hn hl
    · obtain ⟨n, rfl⟩ : ∃ k, n = k + 1 := ⟨n - 1, by omega⟩
      have hp : (128 : Int) ^ (f + 1) = 128 * 128 ^ f := by rw [Int.pow_succ, Int.mul_comm]
      have l1 := load_cell0 H 1 _ _ _ _ h.num
      have hg : binK .int .geq (u64D m) (.v (.int .u64 128)) = some (bD (decide (128 ≤ m))) := by rw [u64D, binK_geq]
      obtain ⟨H1, y1, y2⟩ := dig_round H l m (b8 (128 + m % 128)) h (by omega)
      have l2 := load_cell0 H1 1 _ _ _ _ y2.num
      have st := set_cellN H1 1 0 _ _ _ (u64D (m / 128)) y2.num (by simp) rfl rfl
      have hu := u8_of .u64 m
      have hi : DigInv (H1.set 1 (.cells 74 1 [u64D (m / 128)])) (l ++ [b8 (128 + m % 128)]) (m / 128) := by
        obtain ⟨q0, ⟨d, q1, q2⟩, q3, q4⟩ := y2
        exact ⟨by simpa using q0, ⟨d, by rw [List.getElem?_set_ne (by omega)]; exact q1, q2.set 1 _ (by omega)⟩, by rw [List.getElem?_set_self (by omega)], by rw [List.getElem?_set_ne (by omega)]; exact q4⟩
      have hstep : stepF Try.prog (T10y (Y1 Try.prog)) kp_leb_digits_1 12 Try.f108 0 [.yld 2, .hp 1 0] H = some (.normal, [.yld 2, .hp 1 0], H1.set 1 (.cells 74 1 [u64D (m / 128)])) := by
        rw [st_leb_digits_1_0]
        have hc : callClo (T10y (Y1 Try.prog)) (.yld 2) [u8D (b8 (128 + m % 128))] H = some (bD true, H1) := y1
        simp only [l1, thn_some, hg, condK_bool, decide_eq_true_eq]
        rw [if_pos (by omega)]
        have hu' : intOf64 .u8 (u64D m) = some (u8D (b8 m)) := hu
        simp only [hu', thn_some, or128, hc, thnH_some, notD_bool, Bool.not_true, condK_bool, Bool.false_eq_true, if_false, l2, shr7, st, List.set_cons_zero]
      obtain ⟨m', l', H', z1, z2, z3, z4⟩ := ih n (m / 128) _ _ hi (by omega) (by omega) (by omega) (by simp; omega)
      refine ⟨m', l', H', by rw [iterS_go hstep]; exact z1, z2, z3, ?_⟩
      rw [z4, List.append_assoc]
      congr 1
      simp [putF, hm]
theorem look_digits1 (Y : Yl) (ds : List D) (H : Heap) : look (TF Try.prog Y) 108 ds H = G_digits1 Try.prog Y ds H := rfl
theorem C_LebPut : CallOk Try.prog 90 F_PutN := call1 (kp := kp_leb_Put) (TF_ok (Y1 Try.prog) Y1_ok) mixed Try.func90 (by kernel_rfl) (by decide) fun n d h => by
  split at h
  case isFalse => cases h
  rename_i hn
  cases h
  refine ⟨0, _, ?_, Imp.refl _⟩
  show outD (textK _ _ _ _ _ [u64D n] []) = _
  rw [sh_leb_Put]
  have e1 : allocH 105 [.v (.slice none 0 0)] [] = some (.hp 0 0, [.cells 105 1 [.v (.slice none 0 0)]]) := rfl
  have e2 : G_digits Try.prog [u64D n] [.cells 105 1 [.v (.slice none 0 0)]] = some (.clo (.func 108) [] [.hp 1 0], [.cells 105 1 [.v (.slice none 0 0)], .cells 74 1 [u64D n]]) := by
    rw [G_digits_eq, sh_leb_digits]
    rfl
  have h0 : DigInv [.cells 105 1 [.v (.slice none 0 0)], .cells 74 1 [u64D n], loopP Try.f90 .ready] [] n := ⟨by simp, ⟨_, rfl, Buf.nil _ _ _ _⟩, rfl, rfl⟩
  have hp9 : (128 : Int) ^ 9 = 9223372036854775808 := by decide
  obtain ⟨m', l', H', z1, z2, z3, z4⟩ := dig_loop 9 12 n [] _ h0 hn.1 (by rw [hp9]; omega) (by omega) (by simp)
  obtain ⟨H2, y1, y2⟩ := dig_round H' l' m' (b8 m') z2 z3
  have l1 := load_cell0 H' 1 _ _ _ _ z2.num
  have hu : intOf64 .u8 (u64D m') = some (u8D (b8 m')) := u8_of .u64 m'
  have hc : callClo (T10y (Y1 Try.prog)) (.yld 2) [u8D (b8 m')] H' = some (bD true, H2) := y1
  have e3 : G_digits1 Try.prog (Y1 Try.prog) [.yld 2, .hp 1 0] [.cells 105 1 [.v (.slice none 0 0)], .cells 74 1 [u64D n], loopP Try.f90 .ready] = some (.tup [], H2) := by
    rw [G_digits1_eq, sh_leb_digits_1]
    have z1' : loopF Try.prog (T10y (Y1 Try.prog)) kp_leb_digits_1 12 Try.f108 0 [.yld 2, .hp 1 0] [.cells 105 1 [.v (.slice none 0 0)], .cells 74 1 [u64D n], loopP Try.f90 .ready] = some (.exit 0, [.yld 2, .hp 1 0], H') := z1
    rw [z1']
    simp only [leaveK_exit, condN_same, List.getD_cons_succ, List.getD_cons_zero, l1, thn_some, hu, hc, thnH_some]
  obtain ⟨q0, ⟨d, q1, q2⟩, q3, q4⟩ := y2
  have e4 : rangeS (TF Try.prog (Y1 Try.prog)) (.clo (.func 108) [] [.hp 1 0]) [7] (rangeA Try.f90 0) (rangeB Try.f90 0) 14 kp_leb_Put [.hp 0 0] [.cells 105 1 [.v (.slice none 0 0)], .cells 74 1 [u64D n]] = some (.normal, H2.set 2 .dead) := by
    have e5 : rangeS (TF Try.prog (Y1 Try.prog)) (.clo (.func 108) [] [.hp 1 0]) [7] (rangeA Try.f90 0) (rangeB Try.f90 0) 14 kp_leb_Put [.hp 0 0] [.cells 105 1 [.v (.slice none 0 0)], .cells 74 1 [u64D n]] = leftR (G_digits1 Try.prog (Y1 Try.prog) [.yld 2, .hp 1 0] [.cells 105 1 [.v (.slice none 0 0)], .cells 74 1 [u64D n], loopP Try.f90 .ready]) 2 := rfl
    rw [e5, e3]
    unfold leftR
    simp only [q4]
    rfl
  have w1 : (H2.set 2 HO.dead)[0]? = some (.cells 105 1 [d]) := by rw [List.getElem?_set_ne (by omega)]; exact q1
  have l2 := load_cell0 _ 0 _ _ _ _ w1
  have l3 := (q2.set 2 .dead (by omega)).text
  simp only [List.nil_append] at z4
  rw [e1]
  simp only [thnH_some, e2, e4, leaveR3_normal, l2, thn_some, l3, z4, outD_str]
  rfl
theorem C_ZigPut : True := trivial
end Go.Proofs.Ytbnmkdlmalobaaa
end

section
namespace Go.Proofs.Ytbnmkdlmalobaaa
open Go.RowKit
set_option linter.unusedVariables false
def fs10i : List Entry := (90, true, liftF F_PutN) :: fs10e
theorem fs10i_ok : ∀ p ∈ fs10i, EntryOk Try.prog p := entries_cons (entry_lift C_LebPut) fs10e_ok
def T10i : Tab := ⟨fs10i, noYl⟩
theorem T10i_ok : TabOk Try.prog T10i := tabOk_of fs10i_ok
end Go.Proofs.Ytbnmkdlmalobaaa
end
