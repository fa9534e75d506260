/-
  Parts joined into one text: T10k, Sh10k, T10l, Sh10l, T10m, RdV, T12w, Sh12v, T12v, Sh12g, T12g, Sh12h, DeltB, DInv, T12h. No condition.
-/
import Derived.Test.YtalehbmgbjiigaaEm
import Derived.Test.YtalehbmgbjiigaaEp
import Derived.Test.YtalehbmgbjiigaaEq
import Derived.Test.YtalehbmgbjiigaaEr

section
namespace Go.Proofs.Ytalehbmgbjiigaa
open Go.RowKit
set_option linter.unusedVariables false
set_option linter.unusedSimpArgs false
set_option maxRecDepth 100000

theorem putZ_pure (n : Int) (h : -9223372036854775808 ≤ n ∧ n ≤ 9223372036854775807) (H : Heap) : liftF F_PutZ [iD n] H = some (sD (putV (zigV n)), H) := by
  rw [liftF_pure _ _ _ rfl]
  have : F_PutZ [iD n] = _ := f1_enc (A := intT) _ n
  rw [this, if_pos h]; rfl
def G_wNum (P : Program) : List D → Heap → Option (D × Heap) := textG P (T10j P) kp_wire_Writer__Num 0 55
theorem G_wNum_eq (ds : List D) (H : Heap) : G_wNum Try.prog ds H = textK Try.prog (T10j Try.prog) kp_wire_Writer__Num 0 Try.f55 ds H := textG_eq Try.func55 ds H
theorem C_wNum : HCallOk Try.prog 55 (G_wNum Try.prog) := hcall_G T10j_ok mixed Try.func55 (by kernel_rfl) (by decide)
theorem wNum_ok (H : Heap) (w B : Nat) (l : By) (n : Int) (hn : 0 ≤ n ∧ n ≤ 18446744073709551615) (h : WrAt H w B l) (hl : l.length + 10 ≤ 4000000) : ∃ H', G_wNum Try.prog [.hp w 0, u64D n] H = some (.hp w 0, H') ∧ WrAt H' w B (l ++ putV n) ∧ KpW w H H' := by
  obtain ⟨H', h1, h2, h3⟩ := wRaw_ok H w B l (putV n) h (by have := (putV_len n).2; omega)
  refine ⟨H', ?_, h2, h3⟩
  rw [G_wNum_eq, sh_wire_Writer__Num]
  simp only [putN_pure n hn, thnH_some, h1]
def G_wInt (P : Program) : List D → Heap → Option (D × Heap) := textG P (T10j P) kp_wire_Writer__Int 0 57
theorem G_wInt_eq (ds : List D) (H : Heap) : G_wInt Try.prog ds H = textK Try.prog (T10j Try.prog) kp_wire_Writer__Int 0 Try.f57 ds H := textG_eq Try.func57 ds H
theorem C_wInt : HCallOk Try.prog 57 (G_wInt Try.prog) := hcall_G T10j_ok mixed Try.func57 (by kernel_rfl) (by decide)
theorem wInt_ok (H : Heap) (w B : Nat) (l : By) (n : Int) (hn : -9223372036854775808 ≤ n ∧ n ≤ 9223372036854775807) (h : WrAt H w B l) (hl : l.length + 10 ≤ 4000000) : ∃ H', G_wInt Try.prog [.hp w 0, iD n] H = some (.hp w 0, H') ∧ WrAt H' w B (l ++ putV (zigV n)) ∧ KpW w H H' := by
  obtain ⟨H', h1, h2, h3⟩ := wRaw_ok H w B l (putV (zigV n)) h (by have := (putV_len (zigV n)).2; omega)
  refine ⟨H', ?_, h2, h3⟩
  rw [G_wInt_eq, sh_wire_Writer__Int]
  simp only [putZ_pure n hn, thnH_some, h1]
def moveC (i : Nat) : D := .clo (.func 101) [.hp i 0] []
theorem moveC_ok (s : By) (r : Rd) (H : Heap) (i : Nat) (h : H[i]? = some (rdO s r)) (to : Nat) (e : Int) : callClo (T10j Try.prog) (moveC i) [iD to, iD e] H = some (bD (decide ((moveV r to e).2 = 0)), H.set i (rdO s (moveV r to e))) := by
  have : callClo (T10j Try.prog) (moveC i) [iD to, iD e] H = G_rMove Try.prog [.hp i 0, iD to, iD e] H := rfl
  rw [this]
  exact rMove_ok s r H i h to e
def G_tookI (P : Program) : List D → Heap → Option (D × Heap) := textG P (T10j P) kp_wire_took_int_ 0 100
theorem G_tookI_eq (ds : List D) (H : Heap) : G_tookI Try.prog ds H = textK Try.prog (T10j Try.prog) kp_wire_took_int_ 0 Try.f100 ds H := textG_eq Try.func100 ds H
theorem C_tookI : HCallOk Try.prog 100 (G_tookI Try.prog) := hcall_G T10j_ok mixed Try.func100 (by kernel_rfl) (by decide)
theorem tookI_ok (s : By) (r : Rd) (H : Heap) (i : Nat) (h : H[i]? = some (rdO s r)) (x : D) (to : Nat) (e : Int) : G_tookI Try.prog [moveC i, x, iD to, iD e] H = some (if (moveV r to e).2 = 0 then x else iD 0, H.set i (rdO s (moveV r to e))) := by
  rw [G_tookI_eq, sh_wire_took_int_]
  simp only [moveC_ok s r H i h, thnH_some, condK_bool, decide_eq_true_eq]
  split <;> rfl
def G_tookS (P : Program) : List D → Heap → Option (D × Heap) := textG P (T10j P) kp_wire_took_string_ 0 127
theorem G_tookS_eq (ds : List D) (H : Heap) : G_tookS Try.prog ds H = textK Try.prog (T10j Try.prog) kp_wire_took_string_ 0 Try.f127 ds H := textG_eq Try.func127 ds H
theorem C_tookS : HCallOk Try.prog 127 (G_tookS Try.prog) := hcall_G T10j_ok mixed Try.func127 (by kernel_rfl) (by decide)
theorem tookS_ok (s : By) (r : Rd) (H : Heap) (i : Nat) (h : H[i]? = some (rdO s r)) (x : By) (to : Nat) (e : Int) : G_tookS Try.prog [moveC i, sD x, iD to, iD e] H = some (sD (if (moveV r to e).2 = 0 then x else []), H.set i (rdO s (moveV r to e))) := by
  rw [G_tookS_eq, sh_wire_took_string_]
  simp only [moveC_ok s r H i h, thnH_some, condK_bool, decide_eq_true_eq]
  split <;> rfl
def fs10k (P : Program) : List Entry := (55, false, G_wNum P) :: (57, false, G_wInt P) :: (100, false, G_tookI P) :: (127, false, G_tookS P) :: fs10j P
theorem fs10k_ok : ∀ p ∈ fs10k Try.prog, EntryOk Try.prog p := entries_cons (entry_obj C_wNum) <| entries_cons (entry_obj C_wInt) <| entries_cons (entry_obj C_tookI) <| entries_cons (entry_obj C_tookS) <| fs10j_ok
def T10k (P : Program) : Tab := ⟨fs10k P, noYl⟩
theorem T10k_ok : TabOk Try.prog (T10k Try.prog) := tabOk_of fs10k_ok
end Go.Proofs.Ytalehbmgbjiigaa
end

section
namespace Go.Proofs.Ytalehbmgbjiigaa
open Go.RowKit
set_option linter.unusedVariables false
set_option maxRecDepth 100000


def kp_wire_Reader__Count : List Nat := []
theorem sh_wire_Reader__Count (n : Nat) (x0 x1 : D) (h : Heap) : textK Try.prog (T10k Try.prog) kp_wire_Reader__Count n Try.f63 [x0, x1] h =
(thnH ((G_rcount Try.prog) [x0, x1] h) fun y0 h1 =>
thn (extractD y0 0) fun y2 =>
thn (extractD y0 1) fun y3 =>
thn (extractD y0 2) fun y4 =>
thn (nilD x0) fun y5 =>
thn (fieldAtH 0 y5) fun y6 =>
thnH ((G_tookI Try.prog) [(.clo (.func 101) [y6] []), y2, y3, y4] h1) fun y7 h8 =>
some (y7, h8)) := by kernel_rfl

def kp_wire_Reader__Raw : List Nat := []
theorem sh_wire_Reader__Raw (n : Nat) (x0 x1 : D) (h : Heap) : textK Try.prog (T10k Try.prog) kp_wire_Reader__Raw n Try.f102 [x0, x1] h =
(thn (binK .int .lss x1 (iD 0)) fun y0 =>
condK y0
(thn (nilD x0) fun y1 =>
thn (fieldAtH 0 y1) fun y2 =>
thn (nilD x0) fun y3 =>
thn (fieldAtH 0 y3) fun y4 =>
thn (fieldAtH 1 y4) fun y5 =>
thn (loadH none h y5) fun y6 =>
thnH ((G_tookS Try.prog) [(.clo (.func 101) [y2] []), (.v (.string ⟨#[]⟩)), y6, (iD 1)] h) fun y7 h8 =>
some (y7, h8))
(thn (nilD x0) fun y9 =>
thn (fieldAtH 0 y9) fun y10 =>
thn (fieldAtH 1 y10) fun y11 =>
thn (loadH none h y11) fun y12 =>
thnH ((G_rPart Try.prog) [x0, y12, x1] h) fun y13 h14 =>
thn (extractD y13 0) fun y15 =>
thn (extractD y13 1) fun y16 =>
thn (extractD y13 2) fun y17 =>
thn (nilD x0) fun y18 =>
thn (fieldAtH 0 y18) fun y19 =>
thnH ((G_tookS Try.prog) [(.clo (.func 101) [y19] []), y15, y16, y17] h14) fun y20 h21 =>
some (y20, h21))) := by kernel_rfl

def kp_wire_Reader__Int : List Nat := []
theorem sh_wire_Reader__Int (n : Nat) (x0 : D) (h : Heap) : textK Try.prog (T10k Try.prog) kp_wire_Reader__Int n Try.f65 [x0] h =
(thn (nilD x0) fun y0 =>
thn (fieldAtH 0 y0) fun y1 =>
thn (fieldAtH 0 y1) fun y2 =>
thn (loadH none h y2) fun y3 =>
thn (nilD x0) fun y4 =>
thn (fieldAtH 0 y4) fun y5 =>
thn (fieldAtH 1 y5) fun y6 =>
thn (loadH none h y6) fun y7 =>
thnH (liftF F_ZigGet [y3, y7] h) fun y8 h9 =>
thn (extractD y8 0) fun y10 =>
thn (extractD y8 1) fun y11 =>
thn (extractD y8 2) fun y12 =>
thn (nilD x0) fun y13 =>
thn (fieldAtH 0 y13) fun y14 =>
thnH ((G_tookI Try.prog) [(.clo (.func 101) [y14] []), y10, y11, y12] h9) fun y15 h16 =>
some (y15, h16)) := by kernel_rfl

end Go.Proofs.Ytalehbmgbjiigaa
end

section
namespace Go.Proofs.Ytalehbmgbjiigaa
open Go.RowKit
set_option linter.unusedVariables false
set_option linter.unusedSimpArgs false
set_option maxRecDepth 100000

def G_rCount (P : Program) : List D → Heap → Option (D × Heap) := textG P (T10k P) kp_wire_Reader__Count 0 63
theorem G_rCount_eq (ds : List D) (H : Heap) : G_rCount Try.prog ds H = textK Try.prog (T10k Try.prog) kp_wire_Reader__Count 0 Try.f63 ds H := textG_eq Try.func63 ds H
theorem C_rCount : HCallOk Try.prog 63 (G_rCount Try.prog) := hcall_G T10k_ok mixed Try.func63 (by kernel_rfl) (by decide)
theorem moveV_ok {r : Rd} {to : Nat} {e : Int} (h : (moveV r to e).2 = 0) : e = 0 ∧ r.2 = 0 := by
  unfold moveV at h
  split at h
  · rename_i h1
    split at h
    · rename_i h2; exact ⟨h2, h1⟩
    · rename_i h2; exact absurd h h2
  · rename_i h1; exact absurd h h1
theorem rCount_ok (s : By) (r : Rd) (H : Heap) (i : Nat) (h : H[i]? = some (rdO s r)) (hr : r.1 ≤ s.length) (hs : s.length ≤ 3000000) (most : Int) (hm : 0 ≤ most) (hm2 : most ≤ 1000000) :
    G_rCount Try.prog [.hp i 0, iD most] H = some (iD (cntV s r most).1, H.set i (rdO s (cntV s r most).2)) := by
  have h1 := rcount_ok s r H i h hr hs most hm hm2
  have h2 := tookI_ok s r H i h (iD (IntKind.i64.wrap (lebV s r.1).1)) (lebV s r.1).2.1 (cntE (lebV s r.1) most)
  have hv : (if (moveV r (lebV s r.1).2.1 (cntE (lebV s r.1) most)).2 = 0 then iD (IntKind.i64.wrap (lebV s r.1).1) else iD 0) = iD (cntV s r most).1 := by
    unfold cntV
    split
    · rename_i hz
      have := (moveV_ok hz).1
      unfold cntE at this
      split at this
      · cases this
      · rename_i hc
        have hl := lebV_range s r.1
        have : (lebV s r.1).1 ≤ most := by
          have hn : ¬ (most < 0 ∨ most < (lebV s r.1).1) := fun hh => hc ⟨this, hh⟩
          omega
        rw [wrap_in _ (by omega) (by omega)]
    · rfl
  rw [G_rCount_eq, sh_wire_Reader__Count]
  have hc : D.clo (.func 101) [.hp i 0] [] = moveC i := rfl
  simp only [h1, thnH_some, ext0, ext1, ext2, thn_some, nilD_hp, fieldAt_hp, Nat.add_zero, hc, h2, hv]
  rfl
/-- So many bytes, or what is wrong. -/
def rawV (s : By) (r : Rd) (n : Nat) : By × Rd := if s.length - r.1 < n then ([], moveV r r.1 2) else ((if r.2 = 0 then (s.drop r.1).take n else []), moveV r (r.1 + n) 0)
def G_rRaw (P : Program) : List D → Heap → Option (D × Heap) := textG P (T10k P) kp_wire_Reader__Raw 0 102
theorem G_rRaw_eq (ds : List D) (H : Heap) : G_rRaw Try.prog ds H = textK Try.prog (T10k Try.prog) kp_wire_Reader__Raw 0 Try.f102 ds H := textG_eq Try.func102 ds H
theorem C_rRaw : HCallOk Try.prog 102 (G_rRaw Try.prog) := hcall_G T10k_ok mixed Try.func102 (by kernel_rfl) (by decide)
theorem rRaw_ok (s : By) (r : Rd) (H : Heap) (i : Nat) (h : H[i]? = some (rdO s r)) (hr : r.1 ≤ s.length) (hs : s.length ≤ 3000000) (n : Nat) (hn : n ≤ 3000000) :
    G_rRaw Try.prog [.hp i 0, iD n] H = some (sD (rawV s r n).1, H.set i (rdO s (rawV s r n).2)) := by
  have h1 := rPart_ok s r H i h r.1 n hr hs hn
  obtain ⟨l0, l1, l2⟩ := rd_load s r H i h
  have hc : D.clo (.func 101) [.hp i 0] [] = moveC i := rfl
  have hn0 : ¬ (n : Int) < 0 := by omega
  unfold rawV
  rw [G_rRaw_eq, sh_wire_Reader__Raw]
  by_cases hl : s.length - r.1 < n
  · rw [if_pos hl] at h1 ⊢
    have h2 := tookS_ok s r H i h [] r.1 2
    simp only [binK_lss, thn_some, condK_bool, decide_eq_true_eq, hn0, if_false, nilD_hp, fieldAt_hp, Nat.add_zero, Nat.zero_add, l1, h1, thnH_some, ext0, ext1, ext2, hc, h2, ite_self]
  · rw [if_neg hl] at h1 ⊢
    have h2 := tookS_ok s r H i h ((s.drop r.1).take n) (r.1 + n) 0
    have hv : (if (moveV r (r.1 + n) 0).2 = 0 then (s.drop r.1).take n else []) = (if r.2 = 0 then (s.drop r.1).take n else []) := by
      by_cases he : r.2 = 0
      · rw [if_pos he, if_pos (by unfold moveV; rw [if_pos he]; rfl)]
      · rw [if_neg he, if_neg (by unfold moveV; rw [if_neg he]; exact he)]
    rw [hv] at h2
    simp only [binK_lss, thn_some, condK_bool, decide_eq_true_eq, hn0, if_false, nilD_hp, fieldAt_hp, Nat.add_zero, Nat.zero_add, l1, h1, thnH_some, ext0, ext1, ext2, hc, h2]
theorem zigGet_pure (s : By) (i : Nat) (hi : i ≤ s.length) (hs : s.length ≤ 3000000) (H : Heap) : liftF F_ZigGet [sD s, iD i] H = some (if (lebV s i).2.2 = 0 then .tup [iD (zagV (lebV s i).1), iD (lebV s i).2.1, iD 0] else .tup [iD 0, iD i, iD (lebV s i).2.2], H) := by
  rw [liftF_pure _ _ _ rfl]
  have : F_ZigGet [sD s, iD i] = _ := f2_enc (A := strT) (B := intT) _ s (i : Int)
  rw [this, if_pos ⟨by omega, by omega, hs⟩]; rfl
def G_rInt (P : Program) : List D → Heap → Option (D × Heap) := textG P (T10k P) kp_wire_Reader__Int 0 65
theorem G_rInt_eq (ds : List D) (H : Heap) : G_rInt Try.prog ds H = textK Try.prog (T10k Try.prog) kp_wire_Reader__Int 0 Try.f65 ds H := textG_eq Try.func65 ds H
theorem C_rInt : HCallOk Try.prog 65 (G_rInt Try.prog) := hcall_G T10k_ok mixed Try.func65 (by kernel_rfl) (by decide)
theorem rInt_ok (s : By) (r : Rd) (H : Heap) (i : Nat) (h : H[i]? = some (rdO s r)) (hr : r.1 ≤ s.length) (hs : s.length ≤ 3000000) : G_rInt Try.prog [.hp i 0] H = some (iD (intV s r).1, H.set i (rdO s (intV s r).2)) := by
  have h1 := zigGet_pure s r.1 hr hs
  obtain ⟨l0, l1, l2⟩ := rd_load s r H i h
  have hc : D.clo (.func 101) [.hp i 0] [] = moveC i := rfl
  unfold intV
  rw [G_rInt_eq, sh_wire_Reader__Int]
  by_cases he : (lebV s r.1).2.2 = 0
  · rw [if_pos he]
    simp only [if_pos he] at h1
    have h2 := tookI_ok s r H i h (iD (zagV (lebV s r.1).1)) (lebV s r.1).2.1 0
    have hv : (if (moveV r (lebV s r.1).2.1 0).2 = 0 then iD (zagV (lebV s r.1).1) else iD 0) = iD (if r.2 = 0 then zagV (lebV s r.1).1 else 0) := by
      by_cases he : r.2 = 0
      · rw [if_pos he, if_pos (by unfold moveV; rw [if_pos he]; rfl)]
      · rw [if_neg he, if_neg (by unfold moveV; rw [if_neg he]; exact he)]
    rw [hv] at h2
    simp only [nilD_hp, thn_some, fieldAt_hp, Nat.add_zero, Nat.zero_add, l0, l1, h1, thnH_some, ext0, ext1, ext2, hc, h2]
  · rw [if_neg he]
    simp only [if_neg he] at h1
    have h2 := tookI_ok s r H i h (iD 0) r.1 (lebV s r.1).2.2
    simp only [nilD_hp, thn_some, fieldAt_hp, Nat.add_zero, Nat.zero_add, l0, l1, h1, thnH_some, ext0, ext1, ext2, hc, h2, ite_self]
def fs10l (P : Program) : List Entry := (63, false, G_rCount P) :: (102, false, G_rRaw P) :: (65, false, G_rInt P) :: fs10k P
theorem fs10l_ok : ∀ p ∈ fs10l Try.prog, EntryOk Try.prog p := entries_cons (entry_obj C_rCount) <| entries_cons (entry_obj C_rRaw) <| entries_cons (entry_obj C_rInt) <| fs10k_ok
def T10l (P : Program) : Tab := ⟨fs10l P, noYl⟩
theorem T10l_ok : TabOk Try.prog (T10l Try.prog) := tabOk_of fs10l_ok
end Go.Proofs.Ytalehbmgbjiigaa
end

section
namespace Go.Proofs.Ytalehbmgbjiigaa
open Go.RowKit
set_option linter.unusedVariables false
set_option maxRecDepth 100000

def kp_wire_Reader__Byte : List Nat := []
theorem sh_wire_Reader__Byte (n : Nat) (x0 : D) (h : Heap) : textK Try.prog (T10l Try.prog) kp_wire_Reader__Byte n Try.f64 [x0] h =
(thnH ((G_rRaw Try.prog) [x0, (iD 1)] h) fun y0 h1 =>
thn (binK .str .eql y0 (.v (.string ⟨#[]⟩))) fun y2 =>
condK y2
(some ((.v (.int .u8 0)), h1))
(thn (idxS y0 (iD 0)) fun y3 =>
some (y3, h1))) := by kernel_rfl


end Go.Proofs.Ytalehbmgbjiigaa
end

section
namespace Go.Proofs.Ytalehbmgbjiigaa
open Go.RowKit
set_option linter.unusedVariables false
set_option linter.unusedSimpArgs false
set_option maxRecDepth 100000

def G_rByte (P : Program) : List D → Heap → Option (D × Heap) := textG P (T10l P) kp_wire_Reader__Byte 0 64
theorem G_rByte_eq (ds : List D) (H : Heap) : G_rByte Try.prog ds H = textK Try.prog (T10l Try.prog) kp_wire_Reader__Byte 0 Try.f64 ds H := textG_eq Try.func64 ds H
theorem C_rByte : HCallOk Try.prog 64 (G_rByte Try.prog) := hcall_G T10l_ok mixed Try.func64 (by kernel_rfl) (by decide)
theorem rByte_ok (s : By) (r : Rd) (H : Heap) (i : Nat) (h : H[i]? = some (rdO s r)) (hr : r.1 ≤ s.length) (hs : s.length ≤ 3000000) : G_rByte Try.prog [.hp i 0] H = some (u8D (bytV s r).1, H.set i (rdO s (bytV s r).2)) := by
  have h1 := rRaw_ok s r H i h hr hs 1 (by omega)
  have h1' : G_rRaw Try.prog [.hp i 0, iD 1] H = some (sD (rawV s r 1).1, H.set i (rdO s (rawV s r 1).2)) := h1
  unfold bytV
  rw [G_rByte_eq, sh_wire_Reader__Byte]
  have hz : u8D 0 = .v (.int .u8 0) := rfl
  by_cases hl : r.1 < s.length
  · have hrw : rawV s r 1 = ((if r.2 = 0 then [s[r.1]] else []), moveV r (r.1 + 1) 0) := by
      unfold rawV
      rw [if_neg (by omega), List.drop_eq_getElem_cons hl]
      rfl
    rw [if_pos hl]
    by_cases he : r.2 = 0
    · rw [if_pos he] at hrw
      rw [hrw] at h1'
      have hx := str_idx [s[r.1]] 0 (by simp)
      simp only [cast0, List.getElem_cons_zero] at hx
      have hn : binK .str .eql (sD [s[r.1]]) (.v (.string ⟨#[]⟩)) = some (bD false) := by rw [sD_nil, str_eq]; simp
      simp [h1', hn, hx, he, List.getElem?_eq_getElem hl]
    · rw [if_neg he] at hrw
      rw [hrw] at h1'
      have hn : binK .str .eql (sD []) (.v (.string ⟨#[]⟩)) = some (bD true) := by rw [sD_nil, str_eq]; simp
      simp [h1', hn, he, hz]
  · have hrw : rawV s r 1 = ([], moveV r r.1 2) := by
      unfold rawV
      rw [if_pos (by omega)]
    rw [hrw] at h1'
    have hn : binK .str .eql (sD []) (.v (.string ⟨#[]⟩)) = some (bD true) := by rw [sD_nil, str_eq]; simp
    simp [h1', hn, hl, hz]
def fs10m (P : Program) : List Entry := (64, false, G_rByte P) :: fs10l P
theorem fs10m_ok : ∀ p ∈ fs10m Try.prog, EntryOk Try.prog p := entries_cons (entry_obj C_rByte) <| fs10l_ok
def T10m (P : Program) : Tab := ⟨fs10m P, noYl⟩
theorem T10m_ok : TabOk Try.prog (T10m Try.prog) := tabOk_of fs10m_ok
end Go.Proofs.Ytalehbmgbjiigaa
end

section
namespace Go.Proofs.Ytalehbmgbjiigaa
open Go.RowKit
set_option linter.unusedVariables false
set_option linter.unusedSimpArgs false
set_option maxRecDepth 100000

/-- Numbers that are no larger than Go's. -/
def i64In (n : Int) : Prop := -9223372036854775808 ≤ n ∧ n ≤ 9223372036854775807
theorem move_in {s : By} {r : Rd} {to : Nat} {e : Int} (h : r.1 ≤ s.length) (ht : to ≤ s.length) : (moveV r to e).1 ≤ s.length := by
  unfold moveV
  split
  · split
    · exact ht
    · exact h
  · exact h
theorem leb_at {s : By} {r : Rd} (h : r.1 ≤ s.length) : (lebV s r.1).2.1 ≤ s.length := by
  have := (lebV_in s r.1).1
  omega
theorem cnt_in {s : By} {r : Rd} (h : r.1 ≤ s.length) (m : Int) : (cntV s r m).2.1 ≤ s.length := move_in h (leb_at h)
theorem byt_in {s : By} {r : Rd} (h : r.1 ≤ s.length) : (bytV s r).2.1 ≤ s.length := by
  unfold bytV
  split
  · exact move_in h (by omega)
  · exact move_in h h
theorem int_in {s : By} {r : Rd} (h : r.1 ≤ s.length) : (intV s r).2.1 ≤ s.length := by
  unfold intV
  split
  · exact move_in h (leb_at h)
  · exact move_in h h
theorem cnt_range (s : By) (r : Rd) (m : Int) (hm : 0 ≤ m) : 0 ≤ (cntV s r m).1 ∧ (cntV s r m).1 ≤ m := by
  unfold cntV
  simp only
  split
  · rename_i hz
    have h1 := (moveV_ok hz).1
    unfold cntE at h1
    split at h1
    · cases h1
    · rename_i hc
      have hl := lebV_range s r.1
      have hn : ¬ (m < 0 ∨ m < (lebV s r.1).1) := fun hh => hc ⟨h1, hh⟩
      omega
  · omega
theorem int_range (s : By) (r : Rd) : i64In (intV s r).1 := by
  have hl := lebV_range s r.1
  unfold intV i64In
  split
  · simp only
    split
    · unfold zagV
      split <;> omega
    · omega
  · simp
theorem do_in {s : By} {r : Rd} (h : r.1 ≤ s.length) (k : Int) : (doV s r k).2.1 ≤ s.length := by
  have hi := (refV_in s r.1).1
  unfold doV
  split
  · exact h
  · split
    · split
      · exact h
      · simp only; omega
    · split
      · exact h
      · split
        · exact h
        · simp only; omega
theorem ask_in {s : By} {r : Rd} (h : r.1 ≤ s.length) (k : Int) : (askV10 s r k).2.1 ≤ s.length := by
  unfold askV10
  split
  · exact do_in h k
  · exact do_in h k
theorem do_range (s : By) (r : Rd) (k : Int) : i64In (doV s r k).1 ∨ (k ≠ 3 ∧ k ≠ 2 ∧ k ≠ 0) := by
  have hr := refV_range s r.1
  unfold doV i64In
  split
  · left; simp
  · split
    · split
      · left; simp
      · left
        have := (s.getD r.1 0).toNat_lt
        simp only
        omega
    · split
      · left; simp
      · split
        · left; simp
        · by_cases h3 : k = 3
          · left
            rw [if_pos h3]
            simp only
            unfold zagV
            split <;> omega
          · by_cases h2 : k = 2
            · left
              rename_i h
              rw [if_neg h3]
              simp only
              have : ¬ 1000000 < (refV s r.1).1 := fun hh => h ⟨h2, hh⟩
              omega
            · right
              rename_i h0 _ _ 
              exact ⟨h3, h2, by assumption⟩
theorem ask_range (s : By) (r : Rd) (k : Int) (hk : k = 0 ∨ k = 2 ∨ k = 3) : i64In (askV10 s r k).1 := by
  unfold askV10
  split
  · unfold i64In; simp
  · rcases do_range s r k with h | h
    · exact h
    · omega
def rdQ (s : By) (r : Rd) : HO := .cells 85 3 [sD s, iD r.1, iD r.2]
theorem ask_pure (s : By) (r : Rd) (k : Int) (hk : k = 0 ∨ k = 2 ∨ k = 3) (hr : r.1 ≤ s.length) (hs : s.length ≤ 3000000) (H : Heap) : liftF F_Ask [.agg [sD s, iD r.1, iD r.2], iD k] H = some (.tup [.agg [sD s, iD (askV10 s r k).2.1, iD (askV10 s r k).2.2], iD (askV10 s r k).1], H) := by
  rw [liftF_pure _ _ _ rfl]
  have : F_Ask [.agg [sD s, iD r.1, iD r.2], iD k] = _ := f2_enc (A := rdT) (B := intT) _ (s, (r.1 : Int), r.2) k
  rw [this, if_pos (by simp only [doOk, decide_eq_true_eq]; exact ⟨hk, trivial, by omega, by omega, hs⟩)]
  rfl
theorem load_rdQ (s : By) (r : Rd) (H : Heap) (i : Nat) (h : H[i]? = some (rdQ s r)) : loadH (some 3) H (.hp i 0) = some (.agg [sD s, iD r.1, iD r.2]) := by simp [h, rdQ]
theorem set_rdQ (s : By) (r r' : Rd) (H : Heap) (i : Nat) (h : H[i]? = some (rdQ s r)) : setH 3 (.hp i 0) (.agg [sD s, iD r'.1, iD r'.2]) H = some (.v undef, H.set i (rdQ s r')) := by simp [setH, storeH, h, rdQ]
theorem new_rdQ (s : By) (r : Rd) (H : Heap) : ∃ H2, allocH 85 [.v (.string ⟨#[]⟩), iD 0, iD 0] H = some (.hp H.length 0, H2) ∧ setH 3 (.hp H.length 0) (.agg [sD s, iD r.1, iD r.2]) H2 = some (.v undef, H ++ [rdQ s r]) := by
  exact ⟨_, rfl, by simp [setH, storeH, rdQ]⟩

end Go.Proofs.Ytalehbmgbjiigaa
end

section
namespace Go.Proofs.Ytalehbmgbjiigaa
open Go.RowKit
set_option linter.unusedVariables false
set_option linter.unusedSimpArgs false

theorem entries_app {P : Program} : ∀ {a b : List Entry}, (∀ p ∈ a, EntryOk P p) → (∀ p ∈ b, EntryOk P p) → ∀ p ∈ a ++ b, EntryOk P p := fun ha hb p hp => (List.mem_append.1 hp).elim (ha p) (hb p)
def fs12w (P : Program) : List Entry := fs12f P ++ fs10m P
theorem fs12w_ok : ∀ p ∈ fs12w Try.prog, EntryOk Try.prog p := entries_app fs12f_ok fs10m_ok
def T12w (P : Program) : Tab := ⟨fs12w P, noYl⟩
theorem T12w_ok : TabOk Try.prog (T12w Try.prog) := tabOk_of fs12w_ok
end Go.Proofs.Ytalehbmgbjiigaa
end

section
namespace Go.Proofs.Ytalehbmgbjiigaa
open Go.RowKit
set_option linter.unusedVariables false
set_option maxRecDepth 100000

def kp_delta_Put_1 : List Nat := []
theorem sh_delta_Put_1 (n : Nat) (x0 : D) (h : Heap) : textK Try.prog (T12w Try.prog) kp_delta_Put_1 n Try.f52 [x0] h =
(thn (binK .int .lss x0 (iD 0)) fun y0 =>
condK y0
(some ((bD true), h))
(thn (binK .int .geq x0 (iD 200)) fun y1 =>
some (y1, h))) := by kernel_rfl

end Go.Proofs.Ytalehbmgbjiigaa
end

section
namespace Go.Proofs.Ytalehbmgbjiigaa
open Go.RowKit
set_option linter.unusedVariables false
set_option linter.unusedSimpArgs false
set_option maxRecDepth 100000

def farV (n : Int) : Bool := decide (n < 0 ∨ 200 ≤ n)
def F_far : List D → Option D := F1 intT fun n => some (bD (farV n))
theorem C_far : CallOk Try.prog 52 F_far := call1 (kp := kp_delta_Put_1) T12w_ok mixed Try.func52 (by kernel_rfl) (by decide) fun n d h => by
  cases h
  refine ⟨0, _, ?_, Imp.refl _⟩
  show outD (textK _ _ _ _ _ [iD n] []) = _
  rw [sh_delta_Put_1]
  unfold farV
  by_cases h1 : n < 0 <;> simp [h1]
def fs12v (P : Program) : List Entry := (52, true, liftF F_far) :: fs12w P
theorem fs12v_ok : ∀ p ∈ fs12v Try.prog, EntryOk Try.prog p := entries_cons (entry_lift C_far) <| fs12w_ok
def T12v (P : Program) : Tab := ⟨fs12v P, noYl⟩
theorem T12v_ok : TabOk Try.prog (T12v Try.prog) := tabOk_of fs12v_ok
end Go.Proofs.Ytalehbmgbjiigaa
end

section
namespace Go.Proofs.Ytalehbmgbjiigaa
open Go.RowKit
set_option linter.unusedVariables false
set_option maxRecDepth 100000

def kp_slices_IndexFunc___int_int_ : List Nat := [0, 1, 4, 7, 8]
theorem sh_slices_IndexFunc___int_int_ (n : Nat) (x0 x1 : D) (h : Heap) : textK Try.prog (T12v Try.prog) kp_slices_IndexFunc___int_int_ n Try.f94 [x0, x1] h =
(thn (lenH .sl x0) fun y0 =>
leaveK (loopF Try.prog (T12v Try.prog) kp_slices_IndexFunc___int_int_ n Try.f94 0 [x0, x1, (iD 0), y0, (iD 0)] h) (fun j1 s2 h3 =>
condN j1 0
(some ((iD (-1)), h3))
(none)) (fun s2 h3 =>
some ((s2.getD 2 .undef), h3))) := by kernel_rfl

theorem st_slices_IndexFunc___int_int__0 (n : Nat) (s0 s1 s2 s3 s4 : D) (h : Heap) : stepF Try.prog (T12v Try.prog) kp_slices_IndexFunc___int_int_ n Try.f94 0 [s0, s1, s2, s3, s4] h =
(thn (binK .int .lss s4 s3) fun y0 =>
condK y0
(thn (idxH 1 s0 s4) fun y1 =>
thn (loadH none h y1) fun y2 =>
thnH (callClo (T12v Try.prog) s1 [y2] h) fun y3 h4 =>
condK y3
(some (.ret, [s0, s1, s4, s3, s4], h4))
(thn (binK .int .add s4 (iD 1)) fun y5 =>
some (.normal, [s0, s1, s2, s3, y5], h4)))
(some ((.exit 0), [s0, s1, s2, s3, s4], h))) := by kernel_rfl

end Go.Proofs.Ytalehbmgbjiigaa
end

section
namespace Go.Proofs.Ytalehbmgbjiigaa
open Go.RowKit
set_option linter.unusedVariables false
set_option linter.unusedSimpArgs false
set_option maxRecDepth 100000

def farC : D := .clo (.func 52) [] []
theorem far_call (n : Int) (H : Heap) : callClo (T12v Try.prog) farC [iD n] H = some (bD (farV n), H) := by
  have : callClo (T12v Try.prog) farC [iD n] H = liftF F_far [iD n] H := rfl
  rw [this, liftF_pure _ _ _ rfl]
  have : F_far [iD n] = _ := f1_enc (A := intT) _ n
  rw [this]; rfl
def G_idxF (P : Program) : List D → Heap → Option (D × Heap) := textG P (T12v P) kp_slices_IndexFunc___int_int_ 1000001 94
theorem G_idxF_eq (ds : List D) (H : Heap) : G_idxF Try.prog ds H = textK Try.prog (T12v Try.prog) kp_slices_IndexFunc___int_int_ 1000001 Try.f94 ds H := textG_eq Try.func94 ds H
theorem C_idxF : HCallOk Try.prog 94 (G_idxF Try.prog) := hcall_G T12v_ok mixed Try.func94 (by kernel_rfl) (by decide)
theorem idxF_ok (l : List Int) (H : Heap) (hl : l.length ≤ 1000000) : ∃ i : Int, G_idxF Try.prog [intsD l, farC] H = some (iD i, H) ∧ (decide (0 ≤ i)) = l.any farV := by
  rw [G_idxF_eq, sh_slices_IndexFunc___int_int_]
  have hs := loopF_scan (P := Try.prog) (T := T12v Try.prog) (kp := kp_slices_IndexFunc___int_int_) (fn := Try.f94) (li := 0) (fun i => [intsD l, farC, iD 0, iD l.length, iD i]) H l.length (fun i => !farV (l.getD i 0))
    (fun i => (.ret, [intsD l, farC, iD i, iD l.length, iD i], H)) (.exit 0, [intsD l, farC, iD 0, iD l.length, iD l.length], H)
    (fun i => by intro e; cases e) (by intro e; cases e) 0 1000001 (Nat.zero_le _) (by omega)
    (fun i _ hi hp => by
      have e1 := intD_add (i : Int) 1 (by omega) (by omega)
      have h4 : (i : Int) < l.length := by omega
      simp only [getD_in _ i 0 hi, Bool.not_eq_true'] at hp
      rw [st_slices_IndexFunc___int_int__0]
      simp [h4, idx_intsN _ _ hi, far_call, hp, e1])
    (fun i _ hi hp => by
      have h4 : (i : Int) < l.length := by omega
      simp only [getD_in _ i 0 hi, Bool.not_eq_false'] at hp
      rw [st_slices_IndexFunc___int_int__0]
      simp [h4, idx_intsN _ _ hi, far_call, hp])
    (by rw [st_slices_IndexFunc___int_int__0]; simp)
  rcases hs with ⟨q1, q2⟩ | ⟨i, q0, q1, q2, q3, q4⟩
  · refine ⟨-1, ?_, ?_⟩
    · simp only [cast0] at q2
      simp [q2]
    · have : l.any farV = false := by
        rw [List.any_eq_false]
        intro x hx
        obtain ⟨i, hi, rfl⟩ := List.mem_iff_getElem.1 hx
        have := q1 i (Nat.zero_le _) hi
        rw [getD_in _ i 0 hi] at this
        simpa using this
      rw [this]; rfl
  · refine ⟨i, ?_, ?_⟩
    · simp only [cast0] at q4
      simp [q4]
    · have : l.any farV = true := by
        rw [List.any_eq_true]
        rw [getD_in _ i 0 q1] at q2
        exact ⟨l[i], List.getElem_mem q1, by simpa using q2⟩
      rw [this]; simp
def fs12g (P : Program) : List Entry := (94, false, G_idxF P) :: fs12v P
theorem fs12g_ok : ∀ p ∈ fs12g Try.prog, EntryOk Try.prog p := entries_cons (entry_obj C_idxF) <| fs12v_ok
def T12g (P : Program) : Tab := ⟨fs12g P, noYl⟩
theorem T12g_ok : TabOk Try.prog (T12g Try.prog) := tabOk_of fs12g_ok
end Go.Proofs.Ytalehbmgbjiigaa
end

section
namespace Go.Proofs.Ytalehbmgbjiigaa
open Go.RowKit
set_option linter.unusedVariables false
set_option maxRecDepth 100000

def kp_slices_ContainsFunc___int_int_ : List Nat := []
theorem sh_slices_ContainsFunc___int_int_ (n : Nat) (x0 x1 : D) (h : Heap) : textK Try.prog (T12g Try.prog) kp_slices_ContainsFunc___int_int_ n Try.f53 [x0, x1] h =
(thnH ((G_idxF Try.prog) [x0, x1] h) fun y0 h1 =>
thn (binK .int .geq y0 (iD 0)) fun y2 =>
some (y2, h1)) := by kernel_rfl

def kp_offshootref12_Right : List Nat := [1, 2, 3]
theorem sh_offshootref12_Right (n : Nat) (x0 : D) (h : Heap) : textK Try.prog (T12g Try.prog) kp_offshootref12_Right n Try.f59 [x0] h =
(thnH (boxH 27 x0 h) fun y0 h1 =>
leaveK (loopF Try.prog (T12g Try.prog) kp_offshootref12_Right n Try.f59 0 [y0, (bD false), (iD 0)] h1) (fun j2 s3 h4 =>
condN j2 0
(thn (fieldAtH 0 (s3.getD 0 .undef)) fun y5 =>
thn (loadH none h4 y5) fun y6 =>
thn (lenH .sl y6) fun y7 =>
thn (binK .int .leq y7 (iD 30)) fun y8 =>
condK y8
(thn (fieldAtH 1 (s3.getD 0 .undef)) fun y9 =>
thn (loadH none h4 y9) fun y10 =>
thnH (liftF F_between [y10, (iD 1), (iD 7)] h4) fun y11 h12 =>
some (y11, h12))
(some ((bD false), h4)))
(none)) (fun s3 h4 =>
some ((s3.getD 1 .undef), h4))) := by kernel_rfl

theorem st_offshootref12_Right_0 (n : Nat) (s0 s1 s2 : D) (h : Heap) : stepF Try.prog (T12g Try.prog) kp_offshootref12_Right n Try.f59 0 [s0, s1, s2] h =
(thn (fieldAtH 0 s0) fun y0 =>
thn (loadH none h y0) fun y1 =>
thn (lenH .sl y1) fun y2 =>
thn (binK .int .lss s2 y2) fun y3 =>
condK y3
(thn (fieldAtH 0 s0) fun y4 =>
thn (loadH none h y4) fun y5 =>
thn (idxH 1 y5 s2) fun y6 =>
thn (loadH none h y6) fun y7 =>
thnH (liftF F_between [y7, (iD 0), (iD 199)] h) fun y8 h9 =>
thn (notD y8) fun y10 =>
condK y10
(some (.ret, [s0, (bD false), s2], h9))
(thn (binK .int .add s2 (iD 1)) fun y11 =>
some (.normal, [s0, s1, y11], h9)))
(some ((.exit 0), [s0, s1, s2], h))) := by kernel_rfl

def kp_offshootref12_Read : List Nat := [1, 2, 3, 4, 5, 6]
theorem sh_offshootref12_Read (n : Nat) (x0 : D) (h : Heap) : textK Try.prog (T12g Try.prog) kp_offshootref12_Read n Try.f66 [x0] h =
(thnH (boxH 85 x0 h) fun y0 h1 =>
thnH (allocH 85 [(.v (.string ⟨#[]⟩)), (iD 0), (iD 0)] h1) fun y2 h3 =>
thnH (allocH 27 [(.v (.slice none 0 0)), (iD 0), (iD 0)] h3) fun y4 h5 =>
thnH (allocH 27 [(.v (.slice none 0 0)), (iD 0), (iD 0)] h5) fun y6 h7 =>
thn (loadH (some 3) h7 y0) fun y8 =>
thnH (liftF F_Ask [y8, (iD 2)] h7) fun y9 h10 =>
thn (extractD y9 0) fun y11 =>
thn (extractD y9 1) fun y12 =>
thnH (setH 3 y0 y11 h10) fun y13 h14 =>
leaveK (loopF Try.prog (T12g Try.prog) kp_offshootref12_Read n Try.f66 0 [y0, y2, y4, y6, y12, (iD 0)] h14) (fun j15 s16 h17 =>
condN j15 0
(thn (loadH (some 3) h17 (s16.getD 0 .undef)) fun y18 =>
thnH (liftF F_Ask [y18, (iD 0)] h17) fun y19 h20 =>
thn (extractD y19 0) fun y21 =>
thn (extractD y19 1) fun y22 =>
thnH (setH 3 (s16.getD 0 .undef) y21 h20) fun y23 h24 =>
thn (fieldAtH 1 (s16.getD 3 .undef)) fun y25 =>
thnH (setH 1 y25 y22 h24) fun y26 h27 =>
thn (loadH (some 3) h27 (s16.getD 0 .undef)) fun y28 =>
thnH (liftF F_Ask [y28, (iD 3)] h27) fun y29 h30 =>
thn (extractD y29 0) fun y31 =>
thn (extractD y29 1) fun y32 =>
thnH (setH 3 (s16.getD 0 .undef) y31 h30) fun y33 h34 =>
thn (fieldAtH 2 (s16.getD 3 .undef)) fun y35 =>
thnH (setH 1 y35 y32 h34) fun y36 h37 =>
thn (loadH (some 3) h37 (s16.getD 0 .undef)) fun y38 =>
thn (loadH (some 3) h37 (s16.getD 3 .undef)) fun y39 =>
thnH (setH 3 (s16.getD 1 .undef) y38 h37) fun y40 h41 =>
thnH (setH 3 (s16.getD 2 .undef) y39 h41) fun y42 h43 =>
apartK (s16.getD 3 .undef) (s16.getD 1 .undef)
(thn (loadH (some 3) h43 (s16.getD 1 .undef)) fun y44 =>
thn (loadH (some 3) h43 (s16.getD 2 .undef)) fun y45 =>
some (.tup [y44, y45], h43)))
(none)) (fun s16 h17 =>
thn (loadH (some 3) h17 (s16.getD 1 .undef)) fun y46 =>
thn (loadH (some 3) h17 (s16.getD 2 .undef)) fun y47 =>
some (.tup [y46, y47], h17))) := by kernel_rfl

theorem st_offshootref12_Read_0 (n : Nat) (s0 s1 s2 s3 s4 s5 : D) (h : Heap) : stepF Try.prog (T12g Try.prog) kp_offshootref12_Read n Try.f66 0 [s0, s1, s2, s3, s4, s5] h =
(thn (binK .int .lss s5 s4) fun y0 =>
condK y0
(thn (binK .int .lss s5 (iD 31)) fun y1 =>
condK y1
(thn (loadH (some 3) h s0) fun y2 =>
thnH (liftF F_Ask [y2, (iD 2)] h) fun y3 h4 =>
thn (extractD y3 0) fun y5 =>
thn (extractD y3 1) fun y6 =>
thnH (allocH 85 [(.v (.string ⟨#[]⟩)), (iD 0), (iD 0)] h4) fun y7 h8 =>
thnH (setH 3 y7 y5 h8) fun y9 h10 =>
thn (fieldAtH 0 s3) fun y11 =>
thn (loadH none h10 y11) fun y12 =>
thnH (rowH 3 1 1 [(iD 0)] [(0, y6)] h10) fun y13 h14 =>
thnH (appendH 3 1 y12 y13 h14) fun y15 h16 =>
thn (fieldAtH 0 s3) fun y17 =>
thnH (setH 1 y17 y15 h16) fun y18 h19 =>
thn (loadH (some 3) h19 y7) fun y20 =>
thnH (setH 3 s0 y20 h19) fun y21 h22 =>
thn (binK .int .add s5 (iD 1)) fun y23 =>
some (.normal, [s0, s1, s2, s3, s4, y23], h22))
(some ((.exit 0), [s0, s1, s2, s3, s4, s5], h)))
(some ((.exit 0), [s0, s1, s2, s3, s4, s5], h))) := by kernel_rfl

end Go.Proofs.Ytalehbmgbjiigaa
end

section
namespace Go.Proofs.Ytalehbmgbjiigaa
open Go.RowKit
set_option linter.unusedVariables false
set_option linter.unusedSimpArgs false

def pathB (l : List Int) : By := (l.map putV).flatten
def encDl (d : Dl) : By := putV d.path.length ++ (pathB d.path ++ (b8 d.op :: putV (zigV d.n)))
/-- May a delta be put? -/
def rightV (d : Dl) : Bool := decide (d.path.length ≤ 30) && d.path.all (fun x => decide (0 ≤ x ∧ x ≤ 199)) && decide (1 ≤ d.op ∧ d.op ≤ 7)
theorem right_of {d : Dl} (h : rightV d = true) : d.path.length ≤ 30 ∧ (∀ x ∈ d.path, 0 ≤ x ∧ x ≤ 199) ∧ 1 ≤ d.op ∧ d.op ≤ 7 := by
  simp only [rightV, Bool.and_eq_true, decide_eq_true_eq, List.all_eq_true] at h
  exact ⟨h.1.1, h.1.2, h.2⟩
def dlIn (d : Dl) : Prop := -9223372036854775808 ≤ d.n ∧ d.n ≤ 9223372036854775807
theorem pathB_len (l : List Int) : (pathB l).length ≤ 10 * l.length := by
  induction l with
  | nil => simp [pathB]
  | cons x r ih =>
    have h := (putV_len x).2
    have e : pathB (x :: r) = putV x ++ pathB r := by simp [pathB]
    rw [e, List.length_append, List.length_cons]
    omega
theorem pathB_take (l : List Int) (j : Nat) (h : j < l.length) : pathB (l.take (j + 1)) = pathB (l.take j) ++ putV l[j] := by
  rw [List.take_succ_eq_append_getElem h]
  simp only [pathB, List.map_append, List.flatten_append, List.map_cons, List.map_nil, List.flatten_cons, List.flatten_nil, List.append_nil]

/- The reader. -/
def pathR (s : By) : Nat → Rd → List Int × Rd
  | 0, r => ([], r)
  | n + 1, r => ((cntV s r 200).1 :: (pathR s n (cntV s r 200).2).1, (pathR s n (cntV s r 200).2).2)
def decDl (s : By) : Dl :=
  let a := cntV s (0, 0) 30
  let b := pathR s a.1.toNat a.2
  let c := bytV s b.2
  ⟨b.1, c.1.toNat, (intV s c.2).1⟩
def pathQ (s : By) (n : Int) : Nat → Nat → Rd → List Int × Rd
  | 0, _, r => ([], r)
  | f + 1, i, r => if (i : Int) < n then ((askV10 s r 2).1 :: (pathQ s n f (i + 1) (askV10 s r 2).2).1, (pathQ s n f (i + 1) (askV10 s r 2).2).2) else ([], r)
def decDlQ (s : By) : Dl :=
  let a := askV10 s (0, 0) 2
  let b := pathQ s a.1 31 0 a.2
  let c := askV10 s b.2 0
  ⟨b.1, c.1, (askV10 s c.2 3).1⟩
theorem pathR_back : ∀ (l : List Int) (u t : By), (∀ x ∈ l, 0 ≤ x ∧ x ≤ 199) → pathR (u ++ (pathB l ++ t)) l.length (u.length, 0) = (l, (u.length + (pathB l).length, 0))
  | [], u, t, h => by simp [pathR, pathB]
  | x :: l, u, t, h => by
    have hx := h x (List.mem_cons_self ..)
    have e := cnt_back u (pathB l ++ t) x 200 hx.1 (by omega) (by omega)
    have ih := pathR_back l (u ++ putV x) t fun y hy => h y (List.mem_cons_of_mem _ hy)
    simp only [List.append_assoc, List.length_append] at ih
    have en : pathB (x :: l) = putV x ++ pathB l := by simp [pathB]
    rw [en, List.length_cons, pathR, List.append_assoc, e]
    simp only [ih]
    refine Prod.ext_iff.2 ⟨rfl, ?_⟩
    simp only [List.length_append]
    congr 1; omega
theorem pathQ_back : ∀ (l : List Int) (f i : Nat) (u t : By), (∀ x ∈ l, 0 ≤ x ∧ x ≤ 199) → l.length < f → pathQ (u ++ (pathB l ++ t)) ((i + l.length : Nat) : Int) f i (u.length, 0) = (l, (u.length + (pathB l).length, 0))
  | [], 0, i, u, t, h, hf => by simp at hf
  | [], f + 1, i, u, t, h, hf => by
    rw [pathQ, if_neg (by simp)]; simp [pathB]
  | x :: l, 0, i, u, t, h, hf => by simp at hf
  | x :: l, f + 1, i, u, t, h, hf => by
    have hx := h x (List.mem_cons_self ..)
    have e := askN_back u (pathB l ++ t) x hx.1 (by omega)
    have ih := pathQ_back l f (i + 1) (u ++ putV x) t (fun y hy => h y (List.mem_cons_of_mem _ hy)) (by simpa using hf)
    simp only [List.append_assoc, List.length_append] at ih
    rw [show i + 1 + l.length = i + (l.length + 1) from by omega] at ih
    have en : pathB (x :: l) = putV x ++ pathB l := by simp [pathB]
    rw [en, List.length_cons, pathQ, if_pos (by omega), List.append_assoc, e]
    simp only [ih]
    refine Prod.ext_iff.2 ⟨rfl, ?_⟩
    simp only [List.length_append]
    congr 1; omega
theorem encDl_app (d : Dl) (t : By) : encDl d ++ t = putV d.path.length ++ (pathB d.path ++ (b8 d.op :: (putV (zigV d.n) ++ t))) := by simp [encDl]
theorem decDl_back (d : Dl) (h : rightV d = true) (hi : dlIn d) (t : By) : decDl (encDl d ++ t) = d := by
  obtain ⟨h1, h2, h3, h4⟩ := right_of h
  have hz := zig_in d.n hi.1 hi.2
  rw [encDl_app]
  have a := cnt_back [] (pathB d.path ++ (b8 d.op :: (putV (zigV d.n) ++ t))) d.path.length 30 (by omega) (by omega) (by omega)
  have b := pathR_back d.path (putV d.path.length) (b8 d.op :: (putV (zigV d.n) ++ t)) h2
  have c := byt_back (putV d.path.length ++ pathB d.path) (putV (zigV d.n) ++ t) (b8 d.op)
  have e := int_back (putV d.path.length ++ (pathB d.path ++ [b8 d.op])) t d.n hz.1 hz.2
  simp only [List.nil_append, List.length_nil, Nat.zero_add, List.append_assoc, List.length_append, List.cons_append, List.length_singleton] at a b c e
  have hb := b8_toNat d.op
  simp only [decDl, a, b, Int.toNat_natCast, c]
  rw [show (putV d.path.length).length + (pathB d.path).length + 1 = (putV d.path.length).length + ((pathB d.path).length + 1) from by omega, e]
  obtain ⟨p, o, n⟩ := d
  simp only at h3 h4 hb ⊢
  have : ((b8 o).toNat : Int) = o := by omega
  rw [this]
theorem decDlQ_back (d : Dl) (h : rightV d = true) (hi : dlIn d) (t : By) : decDlQ (encDl d ++ t) = d := by
  obtain ⟨h1, h2, h3, h4⟩ := right_of h
  have hz := zig_in d.n hi.1 hi.2
  rw [encDl_app]
  have a := askN_back [] (pathB d.path ++ (b8 d.op :: (putV (zigV d.n) ++ t))) d.path.length (by omega) (by omega)
  have b := pathQ_back d.path 31 0 (putV d.path.length) (b8 d.op :: (putV (zigV d.n) ++ t)) h2 (by omega)
  have c := askB_back (putV d.path.length ++ pathB d.path) (putV (zigV d.n) ++ t) (b8 d.op)
  have e := askI_back (putV d.path.length ++ (pathB d.path ++ [b8 d.op])) t d.n hz.1 hz.2
  simp only [List.nil_append, List.length_nil, Nat.zero_add, List.append_assoc, List.length_append, List.cons_append, List.length_singleton] at a b c e
  have hb := b8_toNat d.op
  simp only [decDlQ, a, b, c]
  rw [show (putV d.path.length).length + (pathB d.path).length + 1 = (putV d.path.length).length + ((pathB d.path).length + 1) from by omega, e]
  obtain ⟨p, o, n⟩ := d
  simp only at h3 h4 hb ⊢
  have : ((b8 o).toNat : Int) = o := by omega
  rw [this]
theorem encDl_len {d : Dl} (h : rightV d = true) : (encDl d).length ≤ 400 := by
  obtain ⟨h1, h2, h3, h4⟩ := right_of h
  have a := (putV_len d.path.length).2
  have b := pathB_len d.path
  have c := (putV_len (zigV d.n)).2
  simp only [encDl, List.length_append, List.length_cons]
  omega
/-- A delta's bytes, and what is wrong with it. -/
def putD12 (d : Dl) : By × Int := if rightV d = true then (encDl d, 0) else ([], 17)
def getD12 (s : By) : Dl × Int := if rightV (decDl s) = true ∧ encDl (decDl s) = s then (decDl s, 0) else (⟨[], 0, 0⟩, 12)
def refD12 (s : By) : Dl × Int := if rightV (decDlQ s) = true ∧ encDl (decDlQ s) = s then (decDlQ s, 0) else (⟨[], 0, 0⟩, 12)
theorem refD_eq (s : By) (h1 : dlIn (decDl s)) (h2 : dlIn (decDlQ s)) : refD12 s = getD12 s := by
  unfold refD12 getD12
  by_cases c1 : rightV (decDl s) = true ∧ encDl (decDl s) = s
  · have := decDlQ_back _ c1.1 h1 []
    rw [List.append_nil, c1.2] at this
    rw [this]
  · by_cases c2 : rightV (decDlQ s) = true ∧ encDl (decDlQ s) = s
    · exfalso
      have := decDl_back _ c2.1 h2 []
      rw [List.append_nil, c2.2] at this
      rw [this] at c1
      exact c1 c2
    · rw [if_neg c1, if_neg c2]
theorem get_encD {d : Dl} (h : rightV d = true) (hi : dlIn d) : getD12 (encDl d) = (d, 0) := by
  have := decDl_back d h hi []
  rw [List.append_nil] at this
  unfold getD12
  rw [this, if_pos ⟨h, rfl⟩]
theorem encDl_inj {a b : Dl} (ha : rightV a = true) (hb : rightV b = true) (hia : dlIn a) (hib : dlIn b) (h : encDl a = encDl b) : a = b := by
  have h1 := decDl_back a ha hia []
  have h2 := decDl_back b hb hib []
  rw [List.append_nil] at h1 h2
  rw [← h1, ← h2, h]
end Go.Proofs.Ytalehbmgbjiigaa
end

section
namespace Go.Proofs.Ytalehbmgbjiigaa
open Go.RowKit
set_option linter.unusedVariables false
set_option linter.unusedSimpArgs false

/-- What has been read: the reader's object ro at ri, the delta's at di; rows lie at B or behind; all else below B is as in K. -/
structure DInv (ri di B : Nat) (ro : HO) (p : List Int) (o n : Int) (K H : Heap) : Prop where
  lt : ri < B ∧ di < B ∧ ri ≠ di ∧ B ≤ H.length
  rd : H[ri]? = some ro
  dl : ∃ d1, H[di]? = some (.cells 27 3 [d1, iD o, iD n]) ∧ Buf 3 1 H B d1 p.length (intsC p)
  old : ∀ k, k < B → k ≠ ri → k ≠ di → H[k]? = K[k]?
theorem DInv.grow {ri di B : Nat} {ro : HO} {p : List Int} {o n : Int} {K H H' : Heap} (h : DInv ri di B ro p o n K H) (ro' : HO) (hl : H.length ≤ H'.length) (keep : ∀ i, i < H.length → i ≠ ri → H'[i]? = H[i]?) (hr : H'[ri]? = some ro') : DInv ri di B ro' p o n K H' := by
  obtain ⟨⟨a1, a2, a3, a4⟩, h2, ⟨d1, h3, h4⟩, h5⟩ := h
  refine ⟨⟨a1, a2, a3, by omega⟩, hr, ⟨d1, (keep di (by omega) (by omega)).trans h3, h4.keep fun k q e => ?_⟩, fun k hk h1 h2 => (keep k (by omega) h1).trans (h5 k hk h1 h2)⟩
  subst e
  have := h4.lt
  exact keep k this.2 (by omega)
theorem DInv.read {ri di B : Nat} {ro : HO} {p : List Int} {o n : Int} {K H : Heap} (h : DInv ri di B ro p o n K H) (ro' : HO) : DInv ri di B ro' p o n K (H.set ri ro') := by
  have hl := (List.getElem?_eq_some_iff.1 h.rd).1
  exact h.grow ro' (by simp) (fun i hi hn => by rw [List.getElem?_set_ne (by omega)]) (by rw [List.getElem?_set_self hl])
/-- The path's row lies below what is new. -/
theorem DInv.low {ri di B : Nat} {ro : HO} {p : List Int} {o n : Int} {K H : Heap} (h : DInv ri di B ro p o n K H) : ∃ d, H[di]? = some (.cells 27 3 [d, iD o, iD n]) ∧ loadH none H (.hp di 0) = some d ∧ eqB d d = true ∧ ∀ k q, d = .hs k q → B ≤ k ∧ k < H.length := by
  obtain ⟨d1, h3, h4⟩ := h.dl
  exact ⟨d1, h3, load_cellN H di 0 _ _ _ _ h3 rfl, h4.eqB, fun k q e => by subst e; exact h4.lt⟩
/-- A number more. -/
theorem dl_more {ri di B : Nat} {ro : HO} {p : List Int} {o n : Int} {K H : Heap} (h : DInv ri di B ro p o n K H) (hp : p.length ≤ 3000) (x : Int) : ∃ d d' H3 H4, loadH none H (.hp di 0) = some d ∧
    rowH 3 1 1 [iD 0] [(0, iD x)] H = some (.hs H.length 1, H ++ [.cells 3 1 [iD x]]) ∧ appendH 3 1 d (.hs H.length 1) (H ++ [.cells 3 1 [iD x]]) = some (d', H3) ∧ setH 1 (.hp di 0) d' H3 = some (.v undef, H4) ∧ DInv ri di B ro (p ++ [x]) o n K H4 ∧
    (∀ k, k < H.length → k ≠ di → (∀ q, d ≠ .hs k q) → H4[k]? = H[k]?) := by
  obtain ⟨⟨a1, a2, a3, a4⟩, h2, ⟨d1, h3, h4⟩, h5⟩ := h
  have hl0 := load_cellN H di 0 _ _ _ _ h3 rfl
  have src : srcH 1 (H ++ [HO.cells 3 1 [iD x]]) (.hs H.length 1) = some (intsC [x]) := by
    have : (H ++ [HO.cells 3 1 [iD x]])[H.length]? = some (.cells 3 1 [iD x]) := by simp
    simp only [srcH, this]
    rfl
  obtain ⟨d', H3, b1, b2, b3, b4, b5⟩ := app_buf (h4.app [HO.cells 3 1 [iD x]]) (m := 1) (new := intsC [x]) (by omega) rfl rfl (by rw [intsC_len, intsC_len]; simp; omega) (by simp; omega)
  have ap : appendH 3 1 d1 (.hs H.length 1) (H ++ [.cells 3 1 [iD x]]) = some (d', H3) := by unfold appendH; rw [src, Option.bind_some]; exact b1
  have keep : ∀ i, i < H.length → (∀ q, d1 ≠ .hs i q) → H3[i]? = H[i]? := fun i hi hq => by rw [b4 i (by simp; omega) hq, List.getElem?_append_left hi]
  have low : ∀ i, i < B → ∀ q, d1 ≠ .hs i q := fun i hi q e => by
    rw [e] at h4
    have := h4.lt.1
    omega
  have c2 : H3[di]? = some (.cells 27 3 [d1, iD o, iD n]) := (keep di (by omega) (low di a2)).trans h3
  have st := set_cellN H3 di 0 _ _ _ d' c2 (by simp) b2.cells b2.ok
  have hl3 := b3.1
  simp only [List.length_append, List.length_singleton] at hl3
  refine ⟨d1, d', H3, _, hl0, rfl, ap, st, ⟨⟨a1, a2, a3, by simp; omega⟩, ?_, ⟨d', ?_, ?_⟩, fun k hk q1 q2 => ?_⟩, fun k hk hk2 hq => by rw [List.getElem?_set_ne (by omega)]; exact keep k hk hq⟩
  · rw [List.getElem?_set_ne (by omega), keep ri (by omega) (low ri a1)]; exact h2
  · rw [List.getElem?_set_self (by omega)]; rfl
  · have := b2.set di (.cells 27 3 ([d1, iD o, iD n].set 0 d')) a2
    rw [List.length_append, intsC_app]
    exact this
  · rw [List.getElem?_set_ne (by omega), keep k (by omega) (low k hk)]; exact h5 k hk q1 q2
theorem dl_set1 {ri di B : Nat} {ro : HO} {p : List Int} {o n : Int} {K H : Heap} (h : DInv ri di B ro p o n K H) (v : Int) : ∃ H', setH 1 (.hp di 1) (iD v) H = some (.v undef, H') ∧ DInv ri di B ro p v n K H' ∧ ∀ i, i ≠ di → H'[i]? = H[i]? := by
  obtain ⟨⟨a1, a2, a3, a4⟩, h2, ⟨d1, h3, h4⟩, h5⟩ := h
  have st := set_cellN H di 1 _ _ _ (iD v) h3 (by simp) rfl rfl
  refine ⟨_, st, ⟨⟨a1, a2, a3, by simpa using a4⟩, by rw [List.getElem?_set_ne (by omega)]; exact h2, ⟨d1, by rw [List.getElem?_set_self (by omega)]; rfl, h4.set di _ a2⟩, fun k hk q1 q2 => by rw [List.getElem?_set_ne (by omega)]; exact h5 k hk q1 q2⟩, fun i hi => by rw [List.getElem?_set_ne (by omega)]⟩
theorem dl_set2 {ri di B : Nat} {ro : HO} {p : List Int} {o n : Int} {K H : Heap} (h : DInv ri di B ro p o n K H) (v : Int) : ∃ H', setH 1 (.hp di 2) (iD v) H = some (.v undef, H') ∧ DInv ri di B ro p o v K H' ∧ ∀ i, i ≠ di → H'[i]? = H[i]? := by
  obtain ⟨⟨a1, a2, a3, a4⟩, h2, ⟨d1, h3, h4⟩, h5⟩ := h
  have st := set_cellN H di 2 _ _ _ (iD v) h3 (by simp) rfl rfl
  refine ⟨_, st, ⟨⟨a1, a2, a3, by simpa using a4⟩, by rw [List.getElem?_set_ne (by omega)]; exact h2, ⟨d1, by rw [List.getElem?_set_self (by omega)]; rfl, h4.set di _ a2⟩, fun k hk q1 q2 => by rw [List.getElem?_set_ne (by omega)]; exact h5 k hk q1 q2⟩, fun i hi => by rw [List.getElem?_set_ne (by omega)]⟩
theorem deref_dl {H : Heap} {B : Nat} {d : D} {p : List Int} (h : Buf 3 1 H B d p.length (intsC p)) (o n : Int) (k : Nat) : ∃ d', derefN H (k + 2) (.agg [d, iD o, iD n]) = some d' ∧ asDl d' = some ⟨p, o, n⟩ := by
  obtain ⟨d1', q1, q2⟩ := h.ints k
  refine ⟨.agg [d1', iD o, iD n], ?_, ?_⟩
  · show (List.mapM (derefN H (k + 1)) [d, iD o, iD n]).map D.agg = _
    simp only [List.mapM_cons, List.mapM_nil, derefN_pure H (k + 1) (iD o) rfl, derefN_pure H (k + 1) (iD n) rfl, q1]
    rfl
  · simp [asDl, asDlC, asInt, q2]
theorem lift_dl {H : Heap} {B : Nat} {d : D} {p : List Int} (h : Buf 3 1 H B d p.length (intsC p)) (o n : Int) (g : Dl → Option D) {r : D} (hg : g ⟨p, o, n⟩ = some r) (hf : flatD r = true) : liftF (F1 dlT g) [.agg [d, iD o, iD n]] H = some (r, H) := by
  obtain ⟨d', q1, q2⟩ := deref_dl h o n 7
  have hd : asDl d' = some ⟨p, o, n⟩ → F1 dlT g [d'] = some r := fun h => by
    show (asDl d').bind g = _
    rw [h, Option.bind_some, hg]
  cases hp : pureL [.agg [d, iD o, iD n]] with
  | true =>
    rw [liftF_pure _ _ _ hp]
    have hp' : pureD (.agg [d, iD o, iD n]) = true := by simpa [pureL] using hp
    rw [derefN_pure H 9 _ hp'] at q1
    cases q1
    rw [hd q2]; rfl
  | false =>
    have hm : [D.agg [d, iD o, iD n]].mapM (derefN H 9) = some [d'] := by
      simp only [List.mapM_cons, List.mapM_nil, q1]; rfl
    rw [liftF_obj _ _ _ _ hp hm, hd q2]
    simp [hf]
theorem out_dl {H : Heap} {B : Nat} {d : D} {p : List Int} (h : Buf 3 1 H B d p.length (intsC p)) (o n : Int) (x y : D) (hx : pureD x = true) (hy : pureD y = true) :
    (∃ d', outD (some (.tup [.agg [d, iD o, iD n], y], H)) = some d' ∧ Imp d' (.tup [dlD ⟨p, o, n⟩, y])) ∧ ∃ d', outD (some (.tup [x, .agg [d, iD o, iD n]], H)) = some d' ∧ Imp d' (.tup [x, dlD ⟨p, o, n⟩]) := by
  obtain ⟨d', q1, q2⟩ := deref_dl h o n 6
  have q1' : derefN H 8 (.agg [d, iD o, iD n]) = some d' := q1
  refine ⟨⟨.tup [d', y], ?_, Imp.tup (.cons (dlT.ok _ _ q2) (.cons (Imp.refl _) .nil))⟩, ⟨.tup [x, d'], ?_, Imp.tup (.cons (Imp.refl _) (.cons (dlT.ok _ _ q2) .nil))⟩⟩
  · show (List.mapM (derefN H 8) [.agg [d, iD o, iD n], y]).map D.tup = _
    simp only [List.mapM_cons, List.mapM_nil, q1', derefN_pure H 8 y hy]
    rfl
  · show (List.mapM (derefN H 8) [x, .agg [d, iD o, iD n]]).map D.tup = _
    simp only [List.mapM_cons, List.mapM_nil, q1', derefN_pure H 8 x hx]
    rfl
end Go.Proofs.Ytalehbmgbjiigaa
end

section
namespace Go.Proofs.Ytalehbmgbjiigaa
open Go.RowKit
set_option linter.unusedVariables false
set_option linter.unusedSimpArgs false
set_option maxRecDepth 100000

def G_conF (P : Program) : List D → Heap → Option (D × Heap) := textG P (T12g P) kp_slices_ContainsFunc___int_int_ 0 53
theorem G_conF_eq (ds : List D) (H : Heap) : G_conF Try.prog ds H = textK Try.prog (T12g Try.prog) kp_slices_ContainsFunc___int_int_ 0 Try.f53 ds H := textG_eq Try.func53 ds H
theorem C_conF : HCallOk Try.prog 53 (G_conF Try.prog) := hcall_G T12g_ok mixed Try.func53 (by kernel_rfl) (by decide)
theorem conF_ok (l : List Int) (H : Heap) (hl : l.length ≤ 1000000) : G_conF Try.prog [intsD l, farC] H = some (bD (l.any farV), H) := by
  obtain ⟨i, h1, h2⟩ := idxF_ok l H hl
  rw [G_conF_eq, sh_slices_ContainsFunc___int_int_]
  simp [h1, h2]
theorem any_far (l : List Int) : l.any farV = !l.all fun x => decide (0 ≤ x ∧ x ≤ 199) := by
  induction l with
  | nil => rfl
  | cons x r ih =>
    rw [List.any_cons, List.all_cons, ih, Bool.not_and]
    congr 1
    unfold farV
    rw [Bool.eq_iff_iff]
    simp
    omega

def F_Right : List D → Option D := F1 dlT fun d => if d.path.length ≤ 1000000 then some (bD (rightV d)) else none
theorem C_Right : CallOk Try.prog 59 F_Right := call1 (kp := kp_offshootref12_Right) T12g_ok mixed Try.func59 (by kernel_rfl) (by decide) fun d r h => by
  split at h
  case isFalse => cases h
  rename_i hl
  cases h
  refine ⟨1000001, _, ?_, Imp.refl _⟩
  show outD (textK _ _ _ _ _ [dlD d] []) = _
  rw [sh_offshootref12_Right]
  have hs := loopF_scan (P := Try.prog) (T := T12g Try.prog) (kp := kp_offshootref12_Right) (fn := Try.f59) (li := 0) (fun i => [.hp 0 0, bD false, iD i]) [.cells 27 3 [intsD d.path, iD d.op, iD d.n]] d.path.length (fun i => decide (0 ≤ d.path.getD i 0 ∧ d.path.getD i 0 ≤ 199))
    (fun i => (.ret, [.hp 0 0, bD false, iD i], [.cells 27 3 [intsD d.path, iD d.op, iD d.n]])) (.exit 0, [.hp 0 0, bD false, iD d.path.length], [.cells 27 3 [intsD d.path, iD d.op, iD d.n]])
    (fun i => by intro e; cases e) (by intro e; cases e) 0 1000001 (Nat.zero_le _) (by omega)
    (fun i _ hi hp => by
      have e1 := intD_add (i : Int) 1 (by omega) (by omega)
      have h4 : (i : Int) < d.path.length := by omega
      simp only [getD_in _ i 0 hi, decide_eq_true_eq] at hp
      rw [st_offshootref12_Right_0]
      simp [h4, idx_intsN _ _ hi, between_pure, hp, e1])
    (fun i _ hi hp => by
      have h4 : (i : Int) < d.path.length := by omega
      simp only [getD_in _ i 0 hi, decide_eq_false_iff_not] at hp
      rw [st_offshootref12_Right_0]
      simp [h4, idx_intsN _ _ hi, between_pure, hp])
    (by rw [st_offshootref12_Right_0]; simp)
  rcases hs with ⟨q1, q2⟩ | ⟨i, q0, q1, q2, q3, q4⟩
  · have ha : (d.path.all fun x => decide (0 ≤ x ∧ x ≤ 199)) = true := List.all_eq_true.2 fun x hx => by
      obtain ⟨i, hi, rfl⟩ := List.mem_iff_getElem.1 hx
      have := q1 i (Nat.zero_le _) hi
      rwa [getD_in _ i 0 hi] at this
    simp only [cast0] at q2
    unfold rightV
    rw [ha]
    by_cases h3 : (d.path.length : Int) ≤ 30
    · have h3' : d.path.length ≤ 30 := by omega
      simp [q2, h3, h3', between_pure]
    · have h3' : ¬ d.path.length ≤ 30 := by omega
      simp [q2, h3, h3']
  · have ha : (d.path.all fun x => decide (0 ≤ x ∧ x ≤ 199)) = false := by
      rw [List.all_eq_false]
      rw [getD_in _ i 0 q1] at q2
      exact ⟨d.path[i], List.getElem_mem q1, by simpa using q2⟩
    simp only [cast0] at q4
    unfold rightV
    rw [ha]
    simp [q4]

/- The document's reading. -/
theorem dread_path (s : By) (hs : s.length ≤ 3000) (nn : Int) (K : Heap) (N : Nat) : ∀ (f j q : Nat) (r : Rd) (p : List Int) (H : Heap), j + f = 31 → f < q → p.length ≤ j → r.1 ≤ s.length → DInv 0 3 4 (rdQ s r) p 0 0 K H →
    ∃ H' j', iterS (stepF Try.prog (T12g Try.prog) kp_offshootref12_Read N Try.f66 0) q [.hp 0 0, .hp 1 0, .hp 2 0, .hp 3 0, iD nn, iD j] H = some (.exit 0, [.hp 0 0, .hp 1 0, .hp 2 0, .hp 3 0, iD nn, iD j'], H') ∧ DInv 0 3 4 (rdQ s (pathQ s nn f j r).2) (p ++ (pathQ s nn f j r).1) 0 0 K H'
  | 0, j, q, r, p, H, hj, hq, hv, hr, h => by
    obtain ⟨q, rfl⟩ : ∃ x, q = x + 1 := ⟨q - 1, by omega⟩
    refine ⟨H, j, iterS_exit ?_, by simpa [pathQ] using h⟩
    rw [st_offshootref12_Read_0]
    have h2 : ¬ (j : Int) < 31 := by omega
    by_cases h1 : (j : Int) < nn
    · simp [h1, h2]
    · simp [h1]
  | f + 1, j, q, r, p, H, hj, hq, hv, hr, h => by
    obtain ⟨q, rfl⟩ : ∃ x, q = x + 1 := ⟨q - 1, by omega⟩
    by_cases h1 : (j : Int) < nn
    · have h2 : (j : Int) < 31 := by omega
      have e1 := intD_add (j : Int) 1 (by omega) (by omega)
      have hld := load_rdQ s r H 0 h.rd
      have hask := ask_pure s r 2 (by omega) hr (by omega) H
      obtain ⟨H2, n1, n2⟩ := new_rdQ s (askV10 s r 2).2 H
      have hrl := h.lt.2.2.2
      have hI2 : DInv 0 3 4 (rdQ s r) p 0 0 K (H ++ [rdQ s (askV10 s r 2).2]) := h.grow _ (by simp) (fun i hi _ => List.getElem?_append_left hi) (by rw [List.getElem?_append_left (by omega)]; exact h.rd)
      have hnew : (H ++ [rdQ s (askV10 s r 2).2])[H.length]? = some (rdQ s (askV10 s r 2).2) := by simp
      obtain ⟨d0, l1, l2, l3, l4⟩ := h.low
      obtain ⟨d, d', H3, H4, g1, g2, g3, g4, g5, g6⟩ := dl_more hI2 (by omega) (askV10 s r 2).1
      have hdd : d = d0 := by
        have := load_cellN (H ++ [rdQ s (askV10 s r 2).2]) 3 0 _ _ _ _ (by rw [List.getElem?_append_left (by omega)]; exact l1) rfl
        rw [g1] at this
        exact Option.some.inj this
      have hnew4 : H4[H.length]? = some (rdQ s (askV10 s r 2).2) := (g6 H.length (by simp) (by omega) (fun q e => by rw [hdd] at e; have := (l4 _ _ e).2; omega)).trans hnew
      have hld4 := load_rdQ s _ H4 H.length hnew4
      have hset4 := set_rdQ s r (askV10 s r 2).2 H4 0 g5.rd
      have hI5 := g5.read (rdQ s (askV10 s r 2).2)
      obtain ⟨H', j', z1, z2⟩ := dread_path s hs nn K N f (j + 1) q (askV10 s r 2).2 _ _ (by omega) (by omega) (by simp; omega) (ask_in hr 2) hI5
      have hstep : stepF Try.prog (T12g Try.prog) kp_offshootref12_Read N Try.f66 0 [.hp 0 0, .hp 1 0, .hp 2 0, .hp 3 0, iD nn, iD j] H = some (.normal, [.hp 0 0, .hp 1 0, .hp 2 0, .hp 3 0, iD nn, iD (j + 1 : Nat)], H4.set 0 (rdQ s (askV10 s r 2).2)) := by
        rw [st_offshootref12_Read_0]
        simp only [binK_lss, thn_some, condK_bool, decide_eq_true_eq, h1, h2, if_true, hld, hask, thnH_some, ext0, ext1, n1, n2, fieldAt_hp, Nat.zero_add, g1, g2, g3, g4, hld4, hset4, binK_int, e1, Int.natCast_add, Int.cast_ofNat_Int]
      refine ⟨H', j', by rw [iterS_go hstep]; exact z1, ?_⟩
      rw [pathQ, if_pos h1]
      rw [List.append_assoc] at z2
      exact z2
    · refine ⟨H, j, iterS_exit ?_, by rw [pathQ, if_neg h1]; simpa using h⟩
      rw [st_offshootref12_Read_0]
      simp [h1]
def endQ (s : By) : Rd := (askV10 s (askV10 s (pathQ s (askV10 s (0, 0) 2).1 31 0 (askV10 s (0, 0) 2).2).2 0).2 3).2
def F_DRead : List D → Option D := F1 rdT fun r => if r.2 = (0, 0) ∧ r.1.length ≤ 3000 then some (.tup [rdD (r.1, ((endQ r.1).1 : Int), (endQ r.1).2), dlD (decDlQ r.1)]) else none
theorem pathQ_in {s : By} (n : Int) : ∀ (f i : Nat) {r : Rd}, r.1 ≤ s.length → (pathQ s n f i r).2.1 ≤ s.length
  | 0, i, r, h => by simpa [pathQ] using h
  | f + 1, i, r, h => by
    unfold pathQ
    split
    · exact pathQ_in n f _ (ask_in h 2)
    · exact h
theorem C_DRead : CallOk Try.prog 66 F_DRead := call1 (kp := kp_offshootref12_Read) T12g_ok mixed Try.func66 (by kernel_rfl) (by decide) fun r d h => by
  obtain ⟨s, i, e⟩ := r
  split at h
  case isFalse => cases h
  rename_i hs
  obtain ⟨hz, hs⟩ := hs
  cases hz
  simp only at hs
  cases h
  refine ⟨100, ?_⟩
  show ∃ d', outD (textK _ _ _ _ _ [.agg [sD s, iD 0, iD 0]] []) = _ ∧ _
  rw [sh_offshootref12_Read]
  have hbox : boxH 85 (.agg [sD s, iD 0, iD 0]) [] = some (.hp 0 0, [rdQ s (0, 0)]) := rfl
  have ha1 : allocH 85 [.v (.string ⟨#[]⟩), iD 0, iD 0] [rdQ s (0, 0)] = some (.hp 1 0, [rdQ s (0, 0), .cells 85 3 [.v (.string ⟨#[]⟩), iD 0, iD 0]]) := rfl
  have ha2 : allocH 27 [.v (.slice none 0 0), iD 0, iD 0] [rdQ s (0, 0), .cells 85 3 [.v (.string ⟨#[]⟩), iD 0, iD 0]] = some (.hp 2 0, [rdQ s (0, 0), .cells 85 3 [.v (.string ⟨#[]⟩), iD 0, iD 0], .cells 27 3 [.v (.slice none 0 0), iD 0, iD 0]]) := rfl
  have ha3 : allocH 27 [.v (.slice none 0 0), iD 0, iD 0] [rdQ s (0, 0), .cells 85 3 [.v (.string ⟨#[]⟩), iD 0, iD 0], .cells 27 3 [.v (.slice none 0 0), iD 0, iD 0]] = some (.hp 3 0, [rdQ s (0, 0), .cells 85 3 [.v (.string ⟨#[]⟩), iD 0, iD 0], .cells 27 3 [.v (.slice none 0 0), iD 0, iD 0], .cells 27 3 [.v (.slice none 0 0), iD 0, iD 0]]) := rfl
  generalize hK : ([rdQ s (0, 0), .cells 85 3 [.v (.string ⟨#[]⟩), iD 0, iD 0], .cells 27 3 [.v (.slice none 0 0), iD 0, iD 0], .cells 27 3 [.v (.slice none 0 0), iD 0, iD 0]] : Heap) = K at *
  have hI0 : DInv 0 3 4 (rdQ s (0, 0)) [] 0 0 K K := by
    rw [← hK]
    exact ⟨⟨by omega, by omega, by omega, by simp⟩, rfl, ⟨_, rfl, Buf.nil _ _ _ _⟩, fun _ _ _ _ => rfl⟩
  have hld0 := load_rdQ s (0, 0) K 0 hI0.rd
  have hask0 := ask_pure s (0, 0) 2 (by omega) (by simp) (by omega) K
  have hset0 := set_rdQ s (0, 0) (askV10 s (0, 0) 2).2 K 0 hI0.rd
  have hI1 := hI0.read (rdQ s (askV10 s (0, 0) 2).2)
  have hin0 := ask_in (s := s) (r := (0, 0)) (by simp) 2
  obtain ⟨H1, j1, c1, hI2⟩ := dread_path s hs (askV10 s (0, 0) 2).1 K 100 31 0 100 (askV10 s (0, 0) 2).2 [] _ (by omega) (by omega) (by simp) hin0 hI1
  have c1' : loopF Try.prog (T12g Try.prog) kp_offshootref12_Read 100 Try.f66 0 [.hp 0 0, .hp 1 0, .hp 2 0, .hp 3 0, iD (askV10 s (0, 0) 2).1, iD 0] (K.set 0 (rdQ s (askV10 s (0, 0) 2).2)) = some (.exit 0, [.hp 0 0, .hp 1 0, .hp 2 0, .hp 3 0, iD (askV10 s (0, 0) 2).1, iD j1], H1) := c1
  rw [List.nil_append] at hI2
  have hinP := pathQ_in (s := s) (askV10 s (0, 0) 2).1 31 0 hin0
  have hdec : decDlQ s = ⟨(pathQ s (askV10 s (0, 0) 2).1 31 0 (askV10 s (0, 0) 2).2).1, (askV10 s (pathQ s (askV10 s (0, 0) 2).1 31 0 (askV10 s (0, 0) 2).2).2 0).1, (askV10 s (askV10 s (pathQ s (askV10 s (0, 0) 2).1 31 0 (askV10 s (0, 0) 2).2).2 0).2 3).1⟩ := rfl
  have hend : endQ s = (askV10 s (askV10 s (pathQ s (askV10 s (0, 0) 2).1 31 0 (askV10 s (0, 0) 2).2).2 0).2 3).2 := rfl
  simp only
  rw [hdec, hend]
  have hld0' : loadH (some 3) K (.hp 0 0) = some (.agg [sD s, iD 0, iD 0]) := hld0
  have hask0' : liftF F_Ask [.agg [sD s, iD 0, iD 0], iD 2] K = some (.tup [.agg [sD s, iD (askV10 s (0, 0) 2).2.1, iD (askV10 s (0, 0) 2).2.2], iD (askV10 s (0, 0) 2).1], K) := hask0
  generalize askV10 s (0, 0) 2 = A at *
  generalize pathQ s A.1 31 0 A.2 = P at *
  have hld1 := load_rdQ s P.2 H1 0 hI2.rd
  have hask1 := ask_pure s P.2 0 (by omega) hinP (by omega) H1
  have hset1 := set_rdQ s P.2 (askV10 s P.2 0).2 H1 0 hI2.rd
  have hI3 := hI2.read (rdQ s (askV10 s P.2 0).2)
  have hinC := ask_in (s := s) hinP 0
  obtain ⟨H4, st4, hI4, _⟩ := dl_set1 hI3 (askV10 s P.2 0).1
  generalize askV10 s P.2 0 = C at *
  have hld2 := load_rdQ s C.2 H4 0 hI4.rd
  have hask2 := ask_pure s C.2 3 (by omega) hinC (by omega) H4
  have hset2 := set_rdQ s C.2 (askV10 s C.2 3).2 H4 0 hI4.rd
  have hI5 := hI4.read (rdQ s (askV10 s C.2 3).2)
  obtain ⟨H6, st6, hI6, _⟩ := dl_set2 hI5 (askV10 s C.2 3).1
  generalize askV10 s C.2 3 = E at *
  have hld3 := load_rdQ s E.2 H6 0 hI6.rd
  obtain ⟨d1, q1, q2⟩ := hI6.dl
  have hld4 : loadH (some 3) H6 (.hp 3 0) = some (.agg [d1, iD C.1, iD E.1]) := by simp [q1]
  have o1 : H6[1]? = some (.cells 85 3 [.v (.string ⟨#[]⟩), iD 0, iD 0]) := by rw [hI6.old 1 (by omega) (by omega) (by omega), ← hK]; rfl
  have o2 : H6[2]? = some (.cells 27 3 [.v (.slice none 0 0), iD 0, iD 0]) := by rw [hI6.old 2 (by omega) (by omega) (by omega), ← hK]; rfl
  have hl6 := hI6.lt.2.2.2
  have st7 := set_three H6 1 _ _ _ _ (sD s) (iD E.2.1) (iD E.2.2) o1 rfl rfl rfl
  have st8 := set_three (H6.set 1 (.cells 85 3 [sD s, iD E.2.1, iD E.2.2])) 2 _ _ _ _ d1 (iD C.1) (iD E.1) (by rw [List.getElem?_set_ne (by omega)]; exact o2) q2.ok rfl rfl
  have ld5 : loadH (some 3) ((H6.set 1 (.cells 85 3 [sD s, iD E.2.1, iD E.2.2])).set 2 (.cells 27 3 [d1, iD C.1, iD E.1])) (.hp 1 0) = some (.agg [sD s, iD E.2.1, iD E.2.2]) := by
    have : ((H6.set 1 (HO.cells 85 3 [sD s, iD E.2.1, iD E.2.2])).set 2 (.cells 27 3 [d1, iD C.1, iD E.1]))[1]? = some (.cells 85 3 [sD s, iD E.2.1, iD E.2.2]) := by rw [List.getElem?_set_ne (by omega), List.getElem?_set_self (by omega)]
    simp [this]
  have ld6 : loadH (some 3) ((H6.set 1 (.cells 85 3 [sD s, iD E.2.1, iD E.2.2])).set 2 (.cells 27 3 [d1, iD C.1, iD E.1])) (.hp 2 0) = some (.agg [d1, iD C.1, iD E.1]) := by
    have : ((H6.set 1 (HO.cells 85 3 [sD s, iD E.2.1, iD E.2.2])).set 2 (.cells 27 3 [d1, iD C.1, iD E.1]))[2]? = some (.cells 27 3 [d1, iD C.1, iD E.1]) := by rw [List.getElem?_set_self (by simp; omega)]
    simp [this]
  obtain ⟨_, d', w1, w2⟩ := out_dl ((q2.set 1 (.cells 85 3 [sD s, iD E.2.1, iD E.2.2]) (by omega)).set 2 (.cells 27 3 [d1, iD C.1, iD E.1]) (by omega)) C.1 E.1 (.agg [sD s, iD E.2.1, iD E.2.2]) (iD 0) rfl rfl
  refine ⟨d', ?_, w2⟩
  rw [← w1]
  simp only [hbox, thnH_some, ha1, ha2, ha3, hld0', thn_some, hask0', ext0, ext1, hset0, c1', leaveK_exit, condN_same, List.getD_cons_zero, List.getD_cons_succ, hld1, hask1, hset1, fieldAt_hp, Nat.zero_add, st4, hld2, hask2, hset2, st6, hld3, hld4, st7, st8, ld5, ld6]
  simp
def fs12h (P : Program) : List Entry := (53, false, G_conF P) :: (59, true, liftF F_Right) :: (66, true, liftF F_DRead) :: fs12g P
theorem fs12h_ok : ∀ p ∈ fs12h Try.prog, EntryOk Try.prog p := entries_cons (entry_obj C_conF) <| entries_cons (entry_lift C_Right) <| entries_cons (entry_lift C_DRead) <| fs12g_ok
def T12h (P : Program) : Tab := ⟨fs12h P, noYl⟩
theorem T12h_ok : TabOk Try.prog (T12h Try.prog) := tabOk_of fs12h_ok
end Go.Proofs.Ytalehbmgbjiigaa
end
