/-
  Parts joined into one text: Str, Buf, BufV, Shape, ReplLaw, Delt, DlD, Sh12a, HDenT. No condition.
-/
import Derived.Test.YtalehbmgbjiigaaFi
import Derived.Test.YtalehbmgbjiigaaFj
import Derived.Test.YtalehbmgbjiigaaFk
import Derived.Test.YtalehbmgbjiigaaFl

section
namespace Go.Proofs.Ytalehbmgbjiigaa
open Go.RowKit
set_option linter.unusedVariables false
set_option linter.unusedSimpArgs false

abbrev By := List UInt8
def baOf (l : By) : ByteArray := ⟨l.toArray⟩
def sD (l : By) : D := .v (.string (baOf l))
def u64D (n : Int) : D := .v (.int .u64 n)
def u8D (b : UInt8) : D := .v (.int .u8 b.toNat)
theorem ba_size (l : By) : (baOf l).size = l.length := by simp [baOf, ByteArray.size]
theorem ba_app (a b : By) : baOf a ++ baOf b = baOf (a ++ b) := by
  apply ByteArray.ext; simp [baOf, ByteArray.data_append]
theorem ba_cut (l : By) (i j : Nat) : (baOf l).extract i j = baOf ((l.take j).drop i) := by
  apply ByteArray.ext; simp [baOf, ByteArray.data_extract, List.drop_take]
theorem ba_get (l : By) (i : Nat) : (baOf l)[i]? = l[i]? := by
  by_cases h : i < l.length
  · have h' : i < (baOf l).size := by rw [ba_size]; exact h
    rw [getElem?_pos _ i h', List.getElem?_eq_getElem h]
    rfl
  · have h' : ¬ i < (baOf l).size := by rw [ba_size]; exact h
    rw [getElem?_neg _ i h', List.getElem?_eq_none (by omega)]
theorem ba_loop (b : ByteArray) : ∀ (n i : Nat) (r : By), b.size = i + n → ByteArray.toList.loop b i r = r.reverse ++ b.data.toList.drop i
  | 0, i, r, h => by
    unfold ByteArray.toList.loop
    rw [if_neg (by omega), List.drop_of_length_le (by have : b.data.toList.length = b.size := rfl; omega), List.append_nil]
  | n + 1, i, r, h => by
    unfold ByteArray.toList.loop
    rw [if_pos (by omega), ba_loop b n (i + 1) _ (by omega)]
    have hl : i < b.data.toList.length := by have : b.data.toList.length = b.size := rfl; omega
    rw [List.drop_eq_getElem_cons hl]
    have : b.get! i = b.data.toList[i] := by
      show b.data[i]! = _
      rw [getElem!_pos b.data i (by simpa using hl)]; simp
    simp [this]
theorem ba_list (l : By) : (baOf l).toList = l := by
  unfold ByteArray.toList
  rw [ba_loop _ l.length 0 [] (by simp [baOf, ByteArray.size])]
  simp [baOf]
theorem ba_of (s : ByteArray) : baOf s.data.toList = s := by apply ByteArray.ext; simp [baOf]
theorem sD_inj {a b : By} (h : baOf a = baOf b) : a = b := by rw [← ba_list a, h, ba_list]

/- Operations. -/
@[simp] theorem str_len (l : By) : lenH .str (sD l) = some (iD l.length) := by
  show some (D.v (.int .i64 (baOf l).size)) = _
  rw [ba_size]
theorem str_add (a b : By) (h : a.length + b.length ≤ 1000000) : binK .str .add (sD a) (sD b) = some (sD (a ++ b)) := by
  show strD .add (baOf a) (baOf b) = _
  simp only [strD, ba_size]
  rw [if_pos (by omega), ba_app]; rfl
@[simp] theorem str_eq (a b : By) : binK .str .eql (sD a) (sD b) = some (bD (decide (a = b))) := by
  show strD .eql (baOf a) (baOf b) = _
  simp only [strD, ba_list]
  congr 2
  by_cases h : a = b <;> simp [h]
@[simp] theorem str_ne (a b : By) : binK .str .neq (sD a) (sD b) = some (bD (!decide (a = b))) := by
  show strD .neq (baOf a) (baOf b) = _
  simp only [strD, ba_list]
  congr 2
  by_cases h : a = b <;> simp [h]
theorem str_idx (l : By) (i : Nat) (h : i < l.length) : idxS (sD l) (iD i) = some (u8D l[i]) := by
  simp only [idxS, sD, strOf, Option.bind_some, natD_int]
  rw [if_pos (by omega), Option.bind_some, Int.toNat_natCast, ba_get, List.getElem?_eq_getElem h]; rfl
theorem str_cut (l : By) (a b : Nat) (h1 : a ≤ b) (h2 : b ≤ l.length) : cutS (sD l) (some (iD a)) (some (iD b)) = some (sD ((l.take b).drop a)) := by
  have e1 : lowD (some (iD a)) = some a := by simp [lowD]
  have e2 : highD (baOf l).size (some (iD b)) = some b := by simp [highD]
  simp only [cutS, sD, strOf, Option.bind_some]
  rw [e1, e2]
  simp only [ba_size]
  rw [if_pos ⟨h1, h2⟩, ba_cut]
/-- Bytes as cells. -/
def bytesC (l : By) : List D := l.map u8D
theorem bytesD_of (l : By) : bytesD (baOf l) = bytesC l := by simp [bytesD, bytesC, baOf, u8D]
theorem bytesC_len (l : By) : (bytesC l).length = l.length := by simp [bytesC]
theorem bytesC_ok (l : By) : (bytesC l).all cellOk = true := by
  induction l with
  | nil => rfl
  | cons x r ih => simp only [bytesC, List.map_cons, List.all_cons] at ih ⊢; rw [ih]; rfl
theorem bytes_back (l : By) : (bytesC l).mapM byteOfD = some l := by
  induction l with
  | nil => rfl
  | cons x r ih =>
    have e : bytesC (x :: r) = u8D x :: bytesC r := rfl
    have e1 : byteOfD (u8D x) = some x := by simp [byteOfD, u8D]
    rw [e, List.mapM_cons, e1, ih]; rfl
theorem bytesS_row (H : Heap) (id n : Nat) (t : TypeId) (l : By) (h : H[id]? = some (.cells t 1 (bytesC l))) (hn : n = l.length) : bytesS H (.hs id n) = some (sD l) := by
  subst hn
  have hs : srcH 1 H (.hs id l.length) = some (bytesC l) := by
    simp only [srcH, h]
    rw [if_pos ⟨trivial, by rw [bytesC_len]; omega⟩, List.take_of_length_le (by rw [bytesC_len]; omega)]
  unfold bytesS
  rw [hs, Option.bind_some, bytes_back]; rfl
theorem bytesS_nil (H : Heap) : bytesS H (.v (.slice none 0 0)) = some (sD []) := rfl

/- Numbers without a sign. -/
theorem u64_add (a b : Int) (h0 : 0 ≤ a + b) (h1 : a + b ≤ 18446744073709551615) : intD .add .u64 a b = some (u64D (a + b)) := by rw [intD, IntWalk.u64_in _ ⟨h0, h1⟩]; rfl
theorem u64_mul (a b : Int) (h0 : 0 ≤ a * b) (h1 : a * b ≤ 18446744073709551615) : intD .mul .u64 a b = some (u64D (a * b)) := by rw [intD, IntWalk.u64_in _ ⟨h0, h1⟩]; rfl
theorem u64_quo (a b : Int) (h0 : 0 ≤ a) (h1 : a ≤ 18446744073709551615) (hb : 1 ≤ b) : intD .quo .u64 a b = some (u64D (a / b)) := by
  rw [intD, if_neg (by omega), IntWalk.u64_quo _ _ ⟨h0, h1, hb⟩]; rfl
theorem u64_rem (a b : Int) (h0 : 0 ≤ a) (hb : 1 ≤ b) : intD .rem .u64 a b = some (u64D (a % b)) := by
  rw [intD, if_neg (by omega), Int.tmod_eq_emod_of_nonneg h0]; rfl
theorem u64_of (k : IntKind) (n : Int) (h0 : 0 ≤ n) (h1 : n ≤ 18446744073709551615) : intOf64 .u64 (.v (.int k n)) = some (u64D n) := by rw [intOf64, IntWalk.u64_in _ ⟨h0, h1⟩]; rfl
theorem i64_of (k : IntKind) (n : Int) (h0 : -9223372036854775808 ≤ n) (h1 : n ≤ 9223372036854775807) : intOf64 .i64 (.v (.int k n)) = some (iD n) := by rw [intOf64, wrap_in _ h0 h1]
/-- A number's lowest eight bits. -/
def b8 (n : Int) : UInt8 := UInt8.ofNat (n % 256).toNat
theorem u8_of (k : IntKind) (n : Int) : intOf64 .u8 (.v (.int k n)) = some (u8D (b8 n)) := by
  rw [intOf64, IntKind.wrap_u8]
  have h : ((b8 n).toNat : Int) = n % 256 := by
    have h1 : 0 ≤ n % 256 := Int.emod_nonneg _ (by omega)
    have h2 : n % 256 < 256 := Int.emod_lt_of_pos _ (by omega)
    simp only [b8, UInt8.toNat_ofNat']
    omega
  simp only [u8D, h]
theorem b8_toNat (n : Int) : ((b8 n).toNat : Int) = n % 256 := by
  have h1 : 0 ≤ n % 256 := Int.emod_nonneg _ (by omega)
  have h2 : n % 256 < 256 := Int.emod_lt_of_pos _ (by omega)
  simp only [b8, UInt8.toNat_ofNat']
  omega
theorem b8_back (b : UInt8) : b8 b.toNat = b := by
  apply UInt8.toNat_inj.1
  have := b8_toNat (b.toNat : Int)
  have hb := b.toNat_lt
  omega

/- How they are spelt. -/
def asStr : D → Option By
  | .v (.string s) => some s.data.toList
  | _ => none
def strT : Dec By := ⟨sD, asStr, fun l => by simp [asStr, sD, baOf], fun d a h => by
  unfold asStr at h
  split at h
  · cases h
    unfold sD
    rw [ba_of]
    exact Imp.refl _
  · cases h⟩
def asU64 : D → Option Int
  | .v (.int .u64 n) => some n
  | _ => none
def u64T : Dec Int := ⟨u64D, asU64, fun _ => rfl, fun d a h => by
  unfold asU64 at h
  split at h
  · cases h; exact Imp.refl _
  · cases h⟩
@[simp] theorem outD_str (l : By) (H : Heap) : outD (some (sD l, H)) = some (sD l) := outD_pure _ _ rfl
@[simp] theorem outD_u64 (n : Int) (H : Heap) : outD (some (u64D n, H)) = some (u64D n) := outD_pure _ _ rfl
@[simp] theorem wholeK_u64 {α : Type} (n : Int) (k : Option α) : wholeK (u64D n) k = k := wholeK_v _ k
@[simp] theorem wholeK_u8 {α : Type} (n : UInt8) (k : Option α) : wholeK (u8D n) k = k := wholeK_v _ k
@[simp] theorem cellOk_sD (l : By) : cellOk (sD l) = true := rfl
@[simp] theorem cellOk_u64D (n : Int) : cellOk (u64D n) = true := rfl
@[simp] theorem cellOk_u8D (n : UInt8) : cellOk (u8D n) = true := rfl
@[simp] theorem cells_agg (cs : List D) : cellsD (.agg cs) = some cs := rfl
@[simp] theorem cells_int (k : IntKind) (n : Int) : cellsD (.v (.int k n)) = some [.v (.int k n)] := rfl
@[simp] theorem cells_sD (l : By) : cellsD (sD l) = some [sD l] := rfl
@[simp] theorem cells_u64D (n : Int) : cellsD (u64D n) = some [u64D n] := rfl
@[simp] theorem cells_nodes (l : List Nd) : cellsD (nodesD l) = some [nodesD l] := rfl
@[simp] theorem cells_ints (l : List Int) : cellsD (intsD l) = some [intsD l] := rfl
@[simp] theorem cells_hs (i n : Nat) : cellsD (.hs i n) = some [.hs i n] := rfl
@[simp] theorem cells_hp (i n : Nat) : cellsD (.hp i n) = some [.hp i n] := rfl
@[simp] theorem cells_clo (f : Fn) (a b : List D) : cellsD (.clo f a b) = some [.clo f a b] := rfl
@[simp] theorem pure_sD (l : By) : pureD (sD l) = true := rfl
@[simp] theorem pure_u64D (n : Int) : pureD (u64D n) = true := rfl
@[simp] theorem pure_u8D (n : UInt8) : pureD (u8D n) = true := rfl
@[simp] theorem ext0 (a : D) (l : List D) : extractD (.tup (a :: l)) 0 = some a := rfl
@[simp] theorem ext1 (a b : D) (l : List D) : extractD (.tup (a :: b :: l)) 1 = some b := rfl
@[simp] theorem ext2 (a b c : D) (l : List D) : extractD (.tup (a :: b :: c :: l)) 2 = some c := rfl
@[simp] theorem nilD_hp (i o : Nat) : nilD (.hp i o) = some (.hp i o) := rfl
/- Objects that are surely the same. -/
theorem eqB_one (n : Int) : eqB (iD n) (iD n) = true := by simp [eqB, eqV]
theorem eqR_ints : ∀ l : List Int, eqR (l.map oneI) (l.map oneI) = true
  | [] => rfl
  | n :: r => by simp [eqR, eqR_ints r, oneI, eqL, eqB, eqV]
theorem eqR_nodes : ∀ l : List Nd, eqR (l.map nodeD) (l.map nodeD) = true
  | [] => rfl
  | n :: r => by simp [eqR, eqR_nodes r, nodeD, eqL, eqB, eqV]
@[simp] theorem eqB_int (k : IntKind) (n : Int) : eqB (.v (.int k n)) (.v (.int k n)) = true := by simp [eqB, eqV]
@[simp] theorem eqB_bool (b : Bool) : eqB (.v (.bool b)) (.v (.bool b)) = true := by simp [eqB, eqV]
@[simp] theorem eqB_sD (l : By) : eqB (sD l) (sD l) = true := by simp [sD, eqB, eqV]
@[simp] theorem eqB_ints (l : List Int) : eqB (intsD l) (intsD l) = true := by simp [intsD, eqB, eqR_ints]
@[simp] theorem eqB_nodes (l : List Nd) : eqB (nodesD l) (nodesD l) = true := by simp [nodesD, eqB, eqR_nodes]
@[simp] theorem eqB_hs (i n : Nat) : eqB (.hs i n) (.hs i n) = true := by simp [eqB]
@[simp] theorem eqB_hp (i n : Nat) : eqB (.hp i n) (.hp i n) = true := by simp [eqB]
@[simp] theorem eqB_nil : eqB (.v (.slice none 0 0)) (.v (.slice none 0 0)) = true := rfl
@[simp] theorem eqL_nil : eqL [] [] = true := rfl
@[simp] theorem eqL_cons (a b : D) (r s : List D) : eqL (a :: r) (b :: s) = (eqB a b && eqL r s) := by simp [eqL]
theorem sameO_hp {α : Type} (i o : Nat) (H H' : Heap) (t : TypeId) (sz : Nat) (cs : List D) (k : Option α) (h : H[i]? = some (.cells t sz cs)) (h' : H'[i]? = H[i]?) (hc : eqL cs cs = true) : sameO (.hp i o) (some H) (some H') k = k := by
  have : sameB i H H' = true := by unfold sameB; rw [h', h]; simp [hc]
  show sameK (.hp i o) H H' k = k
  show (match sameB i H H' with | true => k | false => none) = k
  rw [this]
/- Numbers without a sign, as they are spelt. -/
theorem fold_u64 (n : Int) : D.v (.int .u64 n) = u64D n := rfl
@[simp] theorem bin_u64_eql (k : Kd) (a b : Int) : binK k .eql (u64D a) (u64D b) = some (.v (.bool (a == b))) := binK_eql k .u64 a b
@[simp] theorem bin_u64_neq (k : Kd) (a b : Int) : binK k .neq (u64D a) (u64D b) = some (.v (.bool (a != b))) := binK_neq k .u64 a b
@[simp] theorem bin_u64_lss (k : Kd) (a b : Int) : binK k .lss (u64D a) (u64D b) = some (.v (.bool (decide (a < b)))) := binK_lss k .u64 a b
@[simp] theorem bin_u64_leq (k : Kd) (a b : Int) : binK k .leq (u64D a) (u64D b) = some (.v (.bool (decide (a ≤ b)))) := binK_leq k .u64 a b
@[simp] theorem bin_u64_gtr (k : Kd) (a b : Int) : binK k .gtr (u64D a) (u64D b) = some (.v (.bool (decide (b < a)))) := binK_gtr k .u64 a b
@[simp] theorem bin_u64_geq (k : Kd) (a b : Int) : binK k .geq (u64D a) (u64D b) = some (.v (.bool (decide (b ≤ a)))) := binK_geq k .u64 a b
@[simp] theorem bin_u64_add (k : Kd) (a b : Int) : binK k .add (u64D a) (u64D b) = intD .add .u64 a b := binK_int k .u64 a b
@[simp] theorem bin_u64_sub (k : Kd) (a b : Int) : binK k .sub (u64D a) (u64D b) = intD .sub .u64 a b := binK_sub k .u64 a b
@[simp] theorem bin_u64_mul (k : Kd) (a b : Int) : binK k .mul (u64D a) (u64D b) = intD .mul .u64 a b := binK_mul k .u64 a b
@[simp] theorem bin_u64_quo (k : Kd) (a b : Int) : binK k .quo (u64D a) (u64D b) = intD .quo .u64 a b := binK_quo k .u64 a b
@[simp] theorem bin_u64_rem (k : Kd) (a b : Int) : binK k .rem (u64D a) (u64D b) = intD .rem .u64 a b := binK_rem k .u64 a b
@[simp] theorem bin_u64_and (k : Kd) (a b : Int) : binK k .and (u64D a) (u64D b) = intD .and .u64 a b := binK_and k .u64 a b
@[simp] theorem bin_u64_or (k : Kd) (a b : Int) : binK k .or (u64D a) (u64D b) = intD .or .u64 a b := binK_or k .u64 a b
@[simp] theorem bin_u64_xor (k : Kd) (a b : Int) : binK k .xor (u64D a) (u64D b) = intD .xor .u64 a b := binK_xor k .u64 a b
@[simp] theorem cellOk_nilFunc : cellOk (D.v Value.nilFunc) = true := rfl
end Go.Proofs.Ytalehbmgbjiigaa
end

section
namespace Go.Proofs.Ytalehbmgbjiigaa
open Go.RowKit
set_option linter.unusedVariables false
set_option linter.unusedSimpArgs false

/-- A slice d of n elements of the call's own, or nil: its cells are cs; its row lies at B or behind. -/
def Buf (e : TypeId) (sz : Nat) (H : Heap) (B : Nat) (d : D) (n : Nat) (cs : List D) : Prop :=
  (d = .v (.slice none 0 0) ∧ n = 0 ∧ cs = []) ∨ ∃ r, B ≤ r ∧ d = .hs r n ∧ H[r]? = some (.cells e sz cs) ∧ cs.length = n * sz
/-- What is ahead of B stays as it was. -/
def Kp (B : Nat) (H H' : Heap) : Prop := H.length ≤ H'.length ∧ ∀ k, k < B → H'[k]? = H[k]?
theorem Kp.refl (B : Nat) (H : Heap) : Kp B H H := ⟨Nat.le_refl _, fun _ _ => rfl⟩
theorem Kp.trans {B : Nat} {H H' H'' : Heap} (h : Kp B H H') (k : Kp B H' H'') : Kp B H H'' := ⟨Nat.le_trans h.1 k.1, fun i hi => (k.2 i hi).trans (h.2 i hi)⟩
theorem Kp.mono {B C : Nat} {H H' : Heap} (h : Kp B H H') (hc : C ≤ B) : Kp C H H' := ⟨h.1, fun i hi => h.2 i (by omega)⟩
theorem Kp.app (B : Nat) (H t : Heap) (h : B ≤ H.length) : Kp B H (H ++ t) := ⟨by simp, fun k hk => List.getElem?_append_left (by omega)⟩
theorem Kp.set {B : Nat} (H : Heap) (i : Nat) (o : HO) (h : B ≤ i) : Kp B H (H.set i o) := ⟨by simp, fun k hk => by rw [List.getElem?_set_ne (by omega)]⟩
theorem Buf.nil (e : TypeId) (sz : Nat) (H : Heap) (B : Nat) : Buf e sz H B (.v (.slice none 0 0)) 0 [] := .inl ⟨rfl, rfl, rfl⟩
theorem Buf.len {e : TypeId} {sz : Nat} {H : Heap} {B : Nat} {d : D} {n : Nat} {cs : List D} (h : Buf e sz H B d n cs) : cs.length = n * sz := by
  rcases h with ⟨_, rfl, rfl⟩ | ⟨_, _, _, _, h⟩
  · simp
  · exact h
theorem Buf.ok {e : TypeId} {sz : Nat} {H : Heap} {B : Nat} {d : D} {n : Nat} {cs : List D} (h : Buf e sz H B d n cs) : cellOk d = true := by
  rcases h with ⟨rfl, _, _⟩ | ⟨_, _, rfl, _, _⟩ <;> rfl
theorem Buf.lenH {e : TypeId} {sz : Nat} {H : Heap} {B : Nat} {d : D} {n : Nat} {cs : List D} (h : Buf e sz H B d n cs) : lenH .sl d = some (iD n) := by
  rcases h with ⟨rfl, rfl, _⟩ | ⟨_, _, rfl, _, _⟩ <;> rfl
/-- The row stays where its object does. -/
theorem Buf.keep {e : TypeId} {sz : Nat} {H H' : Heap} {B : Nat} {d : D} {n : Nat} {cs : List D} (h : Buf e sz H B d n cs) (k : ∀ r m, d = .hs r m → H'[r]? = H[r]?) : Buf e sz H' B d n cs := by
  rcases h with h | ⟨r, h1, h2, h3, h4⟩
  · exact .inl h
  · exact .inr ⟨r, h1, h2, (k r n h2).trans h3, h4⟩
theorem Buf.app {e : TypeId} {sz : Nat} {H : Heap} {B : Nat} {d : D} {n : Nat} {cs : List D} (h : Buf e sz H B d n cs) (t : Heap) : Buf e sz (H ++ t) B d n cs := by
  rcases h with h | ⟨r, h1, h2, h3, h4⟩
  · exact .inl h
  · exact .inr ⟨r, h1, h2, by rw [List.getElem?_append_left (List.getElem?_eq_some_iff.1 h3).1]; exact h3, h4⟩
theorem Buf.set {e : TypeId} {sz : Nat} {H : Heap} {B : Nat} {d : D} {n : Nat} {cs : List D} (h : Buf e sz H B d n cs) (i : Nat) (o : HO) (hi : i < B) : Buf e sz (H.set i o) B d n cs := by
  rcases h with h | ⟨r, h1, h2, h3, h4⟩
  · exact .inl h
  · exact .inr ⟨r, h1, h2, by rw [List.getElem?_set_ne (by omega)]; exact h3, h4⟩
theorem Buf.lt {e : TypeId} {sz : Nat} {H : Heap} {B : Nat} {n r m : Nat} {cs : List D} (h : Buf e sz H B (.hs r m) n cs) : B ≤ r ∧ r < H.length := by
  rcases h with ⟨h, _⟩ | ⟨r', h1, h2, h3, h4⟩
  · cases h
  · cases h2; exact ⟨h1, (List.getElem?_eq_some_iff.1 h3).1⟩
/-- An append: what is held then; what stays. -/
theorem app_buf {e : TypeId} {sz : Nat} {H : Heap} {B : Nat} {d : D} {n m : Nat} {cs new : List D} (h : Buf e sz H B d n cs) (hsz : 0 < sz) (hn : new.length = m * sz) (hok : new.all cellOk = true) (hb : cs.length + new.length ≤ 4000000) (hB : B ≤ H.length) :
    ∃ d' H', appH e sz d new H = some (d', H') ∧ Buf e sz H' B d' (n + m) (cs ++ new) ∧ Kp B H H' ∧ (∀ k, k < H.length → (∀ q, d ≠ .hs k q) → H'[k]? = H[k]?) ∧ (d' = d ∨ ∃ q, d' = .hs H.length q) := by
  have hdiv : new.length / sz = m := by rw [hn]; exact Nat.mul_div_cancel _ hsz
  have hc : ¬ (sz = 0 ∨ (!new.all cellOk) = true) := by rw [hok]; simp; omega
  rcases h with ⟨rfl, rfl, rfl⟩ | ⟨r, h1, rfl, h3, h4⟩
  · simp only [List.length_nil, Nat.zero_add] at hb
    by_cases h0 : new.length = 0
    · obtain rfl : new = [] := List.length_eq_zero_iff.1 h0
      have hm : m = 0 := by
        have : m * sz = 0 := by simpa using hn.symm
        rcases Nat.mul_eq_zero.1 this with h | h
        · exact h
        · omega
      subst hm
      exact ⟨_, H, by unfold appH; rw [if_neg hc]; simp, .inl ⟨rfl, rfl, rfl⟩, Kp.refl _ _, fun _ _ _ => rfl, .inl rfl⟩
    · refine ⟨.hs H.length m, H ++ [.cells e sz new], by unfold appH; rw [if_neg hc]; simp only; rw [if_neg h0, if_pos hb, hdiv], .inr ⟨H.length, hB, by simp, by simp, by simpa using hn⟩, Kp.app _ _ _ hB, fun k hk _ => List.getElem?_append_left hk, .inr ⟨_, rfl⟩⟩
  · refine ⟨.hs H.length (n + m), (H.set r .dead) ++ [.cells e sz (cs ++ new)], ?_, .inr ⟨H.length, hB, rfl, ?_, ?_⟩, ?_, ?_, .inr ⟨_, rfl⟩⟩
    · unfold appH
      rw [if_neg hc]
      simp only [h3]
      rw [if_pos ⟨trivial, trivial, h4, hb⟩, hdiv]
    · have : H.length = (H.set r .dead).length := by simp
      rw [this, List.getElem?_append_right (Nat.le_refl _)]; simp
    · rw [List.length_append, h4, hn, Nat.add_mul]
    · refine ⟨by simp, fun k hk => ?_⟩
      have hr := (List.getElem?_eq_some_iff.1 h3).1
      rw [List.getElem?_append_left (by simp; omega), List.getElem?_set_ne (by omega)]
    · intro k hk hq
      rw [List.getElem?_append_left (by simpa using hk), List.getElem?_set_ne (fun e => hq n (by rw [e]))]
/-- The text of what is held. -/
theorem Buf.text {e : TypeId} {H : Heap} {B : Nat} {d : D} {n : Nat} {l : By} (h : Buf e 1 H B d n (bytesC l)) : bytesS H d = some (sD l) := by
  have hl := h.len
  rw [bytesC_len, Nat.mul_one] at hl
  rcases h with ⟨rfl, rfl, h⟩ | ⟨r, h1, rfl, h3, h4⟩
  · have : l = [] := List.length_eq_zero_iff.1 (by simpa using hl)
    subst this; rfl
  · exact bytesS_row H r n e l h3 hl.symm
theorem Buf.src {e : TypeId} {sz : Nat} {H : Heap} {B : Nat} {d : D} {n : Nat} {cs : List D} (h : Buf e sz H B d n cs) : srcH sz H d = some cs := by
  rcases h with ⟨rfl, rfl, rfl⟩ | ⟨r, h1, rfl, h3, h4⟩
  · rfl
  · simp only [srcH, h3]
    rw [if_pos ⟨trivial, by omega⟩, List.take_of_length_le (by omega)]
theorem bytesC_app (a b : By) : bytesC (a ++ b) = bytesC a ++ bytesC b := by simp [bytesC]
theorem appendS_eq (e : TypeId) (d : D) (l : By) (H : Heap) : appendS e 1 d (sD l) H = appH e 1 d (bytesC l) H := by
  show (if 1 = 1 then appH e 1 d (bytesD (baOf l)) H else none) = _
  rw [if_pos rfl, bytesD_of]
/-- Bytes are appended. -/
theorem app_bytes {e : TypeId} {H : Heap} {B : Nat} {d : D} {l : By} (h : Buf e 1 H B d l.length (bytesC l)) (m : By) (hb : l.length + m.length ≤ 4000000) (hB : B ≤ H.length) :
    ∃ d' H', appH e 1 d (bytesC m) H = some (d', H') ∧ Buf e 1 H' B d' (l ++ m).length (bytesC (l ++ m)) ∧ Kp B H H' ∧ (∀ k, k < H.length → (∀ q, d ≠ .hs k q) → H'[k]? = H[k]?) ∧ (d' = d ∨ ∃ q, d' = .hs H.length q) := by
  obtain ⟨d', H', h1, h2, h3, h4, h5⟩ := app_buf (m := m.length) h (by omega) (by rw [bytesC_len]; omega) (bytesC_ok m) (by rw [bytesC_len, bytesC_len]; exact hb) hB
  exact ⟨d', H', h1, by rw [List.length_append, bytesC_app]; exact h2, h3, h4, h5⟩
/-- The cell of an object. -/
theorem load_cell0 (H : Heap) (w : Nat) (t : TypeId) (sz : Nat) (d : D) (r : List D) (h : H[w]? = some (.cells t sz (d :: r))) : loadH none H (.hp w 0) = some d := by simp [h]
theorem load_cellN (H : Heap) (w i : Nat) (t : TypeId) (sz : Nat) (cs : List D) (d : D) (h : H[w]? = some (.cells t sz cs)) (hd : cs[i]? = some d) : loadH none H (.hp w i) = some d := by
  simp [h, List.getElem?_drop, hd]
theorem set_cellN (H : Heap) (w i : Nat) (t : TypeId) (sz : Nat) (cs : List D) (d : D) (h : H[w]? = some (.cells t sz cs)) (hi : i < cs.length) (hc : cellsD d = some [d]) (hd : cellOk d = true) : setH 1 (.hp w i) d H = some (.v undef, H.set w (.cells t sz (cs.set i d))) := by
  have e : cs.take i ++ [d] ++ cs.drop (i + 1) = cs.set i d := by rw [List.set_eq_take_append_cons_drop, if_pos hi]; simp
  simp only [setH, storeH, hc, h, List.length_singleton]
  rw [if_pos ⟨trivial, by omega, by simp [hd]⟩, e]
  rfl
theorem cellsD_one {d : D} (h : cellOk d = true) (h' : ∀ cs, d ≠ .agg cs) : cellsD d = some [d] := by
  cases d with
  | v x => cases x <;> first | rfl | (simp [cellOk] at h)
  | agg cs => exact absurd rfl (h' cs)
  | undef => simp [cellOk] at h
  | tup ds => simp [cellOk] at h
  | _ => rfl
theorem Buf.cells {e : TypeId} {sz : Nat} {H : Heap} {B : Nat} {d : D} {n : Nat} {cs : List D} (h : Buf e sz H B d n cs) : cellsD d = some [d] := by
  rcases h with ⟨rfl, _, _⟩ | ⟨_, _, rfl, _, _⟩ <;> rfl
end Go.Proofs.Ytalehbmgbjiigaa
end

section
namespace Go.Proofs.Ytalehbmgbjiigaa
open Go.RowKit
set_option linter.unusedVariables false
set_option linter.unusedSimpArgs false

def intsC (l : List Int) : List D := l.map fun n => iD n
def nodesC (l : List Nd) : List D := (l.map nodeD).flatten
theorem intsC_len (l : List Int) : (intsC l).length = l.length := by simp [intsC]
theorem nodesC_len (l : List Nd) : (nodesC l).length = l.length * 2 := by
  induction l with
  | nil => rfl
  | cons x r ih => simp only [nodesC, List.map_cons, List.flatten_cons, List.length_append, List.length_cons, nodeD] at ih ⊢; simp at ih ⊢; omega
theorem intsC_app (a b : List Int) : intsC (a ++ b) = intsC a ++ intsC b := by simp [intsC]
theorem nodesC_app (a b : List Nd) : nodesC (a ++ b) = nodesC a ++ nodesC b := by simp [nodesC]
theorem intsC_ok (l : List Int) : (intsC l).all cellOk = true := by
  induction l with
  | nil => rfl
  | cons x r ih => simp only [intsC, List.map_cons, List.all_cons] at ih ⊢; rw [ih]; rfl
theorem nodesC_ok (l : List Nd) : (nodesC l).all cellOk = true := by
  induction l with
  | nil => rfl
  | cons x r ih => simp only [nodesC, List.map_cons, List.flatten_cons, List.all_append] at ih ⊢; rw [ih]; rfl
theorem mapM_intsC (H : Heap) (n : Nat) (l : List Int) : (intsC l).mapM (derefN H n) = some (intsC l) := by
  induction l with
  | nil => rfl
  | cons x r ih =>
    have e : intsC (x :: r) = iD x :: intsC r := rfl
    rw [e, List.mapM_cons, derefN_pure H n _ rfl, ih]; rfl
theorem mapM_nodesC (H : Heap) (n : Nat) (l : List Nd) : (nodesC l).mapM (derefN H n) = some (nodesC l) := by
  induction l with
  | nil => rfl
  | cons x r ih =>
    have e : nodesC (x :: r) = iD x.1 :: iD x.2 :: nodesC r := rfl
    rw [e, List.mapM_cons, List.mapM_cons, derefN_pure H n _ rfl, derefN_pure H n _ rfl, ih]; rfl
theorem chunks_intsC (l : List Int) : chunks 1 l.length (intsC l) = l.map oneI := by
  induction l with
  | nil => rfl
  | cons x r ih =>
    have e : intsC (x :: r) = iD x :: intsC r := rfl
    rw [e, List.length_cons, chunks, List.map_cons]
    simp only [List.take_succ_cons, List.take_zero, List.drop_succ_cons, List.drop_zero, ih, oneI]
theorem chunks_nodesC (l : List Nd) : chunks 2 l.length (nodesC l) = l.map nodeD := by
  induction l with
  | nil => rfl
  | cons x r ih =>
    have e : nodesC (x :: r) = iD x.1 :: iD x.2 :: nodesC r := rfl
    rw [e, List.length_cons, chunks, List.map_cons]
    simp only [List.take_succ_cons, List.take_zero, List.drop_succ_cons, List.drop_zero, ih, nodeD]
theorem Buf.ints {e : TypeId} {H : Heap} {B : Nat} {d : D} {l : List Int} (h : Buf e 1 H B d l.length (intsC l)) (n : Nat) : ∃ d', derefN H (n + 1) d = some d' ∧ asInts d' = some l := by
  rcases h with ⟨rfl, h1, _⟩ | ⟨r, h1, rfl, h3, h4⟩
  · have : l = [] := List.length_eq_zero_iff.1 h1
    subst this
    exact ⟨_, derefN_pure H (n + 1) _ rfl, rfl⟩
  · refine ⟨intsD l, ?_, asInts_intsD l⟩
    simp only [derefN, h3]
    rw [if_pos (by rw [intsC_len]; omega), List.take_of_length_le (by rw [intsC_len]; omega), mapM_intsC, Option.map_some, chunks_intsC]; rfl
theorem Buf.nodes {e : TypeId} {H : Heap} {B : Nat} {d : D} {l : List Nd} (h : Buf e 2 H B d l.length (nodesC l)) (n : Nat) : ∃ d', derefN H (n + 1) d = some d' ∧ asNodes d' = some l := by
  rcases h with ⟨rfl, h1, _⟩ | ⟨r, h1, rfl, h3, h4⟩
  · have : l = [] := List.length_eq_zero_iff.1 h1
    subst this
    exact ⟨_, derefN_pure H (n + 1) _ rfl, rfl⟩
  · refine ⟨nodesD l, ?_, asNodes_nodesD l⟩
    simp only [derefN, h3]
    rw [if_pos (by rw [nodesC_len]; omega), List.take_of_length_le (by rw [nodesC_len]; omega), mapM_nodesC, Option.map_some, chunks_nodesC]; rfl
theorem Buf.eqB {e : TypeId} {sz : Nat} {H : Heap} {B : Nat} {d : D} {n : Nat} {cs : List D} (h : Buf e sz H B d n cs) : Go.Proofs.Ytalehbmgbjiigaa.eqB d d = true := by
  rcases h with ⟨rfl, _, _⟩ | ⟨_, _, rfl, _, _⟩ <;> simp
/-- A program whose lists lie in rows, by value. -/
theorem deref_prog {e1 e2 : TypeId} {H : Heap} {B1 B2 : Nat} {d1 d2 : D} {a : Int} {vs : List Int} {b : List Nd} (h1 : Buf e1 1 H B1 d1 vs.length (intsC vs)) (h2 : Buf e2 2 H B2 d2 b.length (nodesC b)) (n : Nat) :
    ∃ d', derefN H (n + 2) (.agg [iD a, d1, d2]) = some d' ∧ asProg d' = some ⟨a, vs, b⟩ := by
  obtain ⟨d1', q1, q2⟩ := h1.ints n
  obtain ⟨d2', q3, q4⟩ := h2.nodes n
  refine ⟨.agg [iD a, d1', d2'], ?_, ?_⟩
  · show (List.mapM (derefN H (n + 1)) [iD a, d1, d2]).map D.agg = _
    simp only [List.mapM_cons, List.mapM_nil, derefN_pure H (n + 1) (iD a) rfl, q1, q3]
    rfl
  · simp [asProg, asProgC, asInt, q2, q4]
/-- A function of a program, over rows. -/
theorem lift_prog {e1 e2 : TypeId} {H : Heap} {B1 B2 : Nat} {d1 d2 : D} {a : Int} {vs : List Int} {b : List Nd} (h1 : Buf e1 1 H B1 d1 vs.length (intsC vs)) (h2 : Buf e2 2 H B2 d2 b.length (nodesC b)) (g : Pg → Option D) {r : D} (hg : g ⟨a, vs, b⟩ = some r) (hf : flatD r = true) :
    liftF (F1 progT g) [.agg [iD a, d1, d2]] H = some (r, H) := by
  obtain ⟨d', q1, q2⟩ := deref_prog (a := a) h1 h2 7
  have hd : asProg d' = some ⟨a, vs, b⟩ → F1 progT g [d'] = some r := fun h => by
    show (asProg d').bind g = _
    rw [h, Option.bind_some, hg]
  cases hp : pureL [.agg [iD a, d1, d2]] with
  | true =>
    rw [liftF_pure _ _ _ hp]
    have hp' : pureD (.agg [iD a, d1, d2]) = true := by simpa [pureL] using hp
    rw [derefN_pure H 9 _ hp'] at q1
    cases q1
    rw [hd q2]; rfl
  | false =>
    have hm : [D.agg [iD a, d1, d2]].mapM (derefN H 9) = some [d'] := by
      simp only [List.mapM_cons, List.mapM_nil, q1]; rfl
    rw [liftF_obj _ _ _ _ hp hm, hd q2]
    simp [hf]
/-- A program and what is wrong, given back. -/
theorem out_prog {e1 e2 : TypeId} {H : Heap} {B1 B2 : Nat} {d1 d2 : D} {a : Int} {vs : List Int} {b : List Nd} (h1 : Buf e1 1 H B1 d1 vs.length (intsC vs)) (h2 : Buf e2 2 H B2 d2 b.length (nodesC b)) (e : Int) :
    ∃ d', outD (some (.tup [.agg [iD a, d1, d2], iD e], H)) = some d' ∧ Imp d' (.tup [progD ⟨a, vs, b⟩, iD e]) := by
  obtain ⟨d', q1, q2⟩ := deref_prog (a := a) h1 h2 6
  refine ⟨.tup [d', iD e], ?_, Imp.tup (.cons (progT.ok _ _ q2) (.cons (Imp.refl _) .nil))⟩
  have q1' : derefN H 8 (.agg [iD a, d1, d2]) = some d' := q1
  show (List.mapM (derefN H 8) [.agg [iD a, d1, d2], iD e]).map D.tup = _
  simp only [List.mapM_cons, List.mapM_nil, q1', derefN_pure H 8 (iD e) rfl]
  rfl
end Go.Proofs.Ytalehbmgbjiigaa
end

section
namespace Go.Proofs.Ytalehbmgbjiigaa
open Go.RowKit
set_option linter.unusedVariables false
set_option linter.unusedSimpArgs false

/-- As many kids at each place. -/
def Alike (l l' : List Nd) : Prop := l.map ar = l'.map ar
theorem Alike.len {l l' : List Nd} (h : Alike l l') : l.length = l'.length := by
  have := congrArg List.length h
  simpa using this
theorem Alike.drop {l l' : List Nd} (h : Alike l l') (k : Nat) : Alike (l.drop k) (l'.drop k) := by
  unfold Alike at h ⊢
  rw [List.map_drop, List.map_drop, h]
theorem scan_alike : ∀ (l l' : List Nd) (a : Nat), Alike l l' → scan a l = scan a l'
  | [], [], a, h => rfl
  | [], y :: s, a, h => by cases h
  | x :: r, [], a, h => by cases h
  | x :: r, y :: s, 0, h => by rw [scan_zero, scan_zero]
  | x :: r, y :: s, a + 1, h => by
    unfold Alike at h
    simp only [List.map_cons, List.cons.injEq] at h
    rw [scan_cons, scan_cons, h.1, scan_alike r s _ h.2]
theorem endv_alike {l l' : List Nd} (h : Alike l l') (i : Int) : endv l i = endv l' i := by
  unfold endv
  rw [scan_alike _ _ _ (h.drop i.toNat)]
theorem arAt_alike {l l' : List Nd} (h : Alike l l') (i : Int) : arAt l i = arAt l' i := by
  have := congrArg (·[i.toNat]?) h
  simp only [List.getElem?_map] at this
  unfold arAt
  cases h1 : l[i.toNat]? with
  | none =>
    rw [h1] at this
    cases h2 : l'[i.toNat]? with
    | none => rfl
    | some y => rw [h2] at this; cases this
  | some x =>
    rw [h1] at this
    cases h2 : l'[i.toNat]? with
    | none => rw [h2] at this; cases this
    | some y => rw [h2] at this; simpa using this
theorem kth_alike {l l' : List Nd} (h : Alike l l') (k : Int) : ∀ j, kth l k j = kth l' k j
  | 0 => rfl
  | j + 1 => by simp only [kth]; rw [kth_alike h k j, endv_alike h]
theorem kidsv_alike {l l' : List Nd} (h : Alike l l') (i : Int) : kidsv l i = kidsv l' i := by
  unfold kidsv
  rw [endv_alike h, arAt_alike h]
  split
  · rfl
  · exact List.map_congr_left fun j _ => kth_alike h _ j
theorem depV_alike {l l' : List Nd} (h : Alike l l') : ∀ (f : Nat) (i : Int), depV f l i = depV f l' i
  | 0, i => rfl
  | f + 1, i => by
    simp only [depV]
    rw [endv_alike h, kidsv_alike h]
    have : depV f l = depV f l' := by funext j; exact depV_alike h f j
    rw [this]
/-- A node with as many kids instead. -/
theorem alike_set (l : List Nd) (k : Nat) (y : Nd) (hk : k < l.length) (h : ar y = ar l[k]) : Alike l (l.set k y) := by
  unfold Alike
  rw [List.map_set, h]
  apply List.ext_getElem?
  intro j
  by_cases e : k = j
  · subst e
    rw [List.getElem?_set_self (by simpa using hk)]
    simp [hk]
  · rw [List.getElem?_set_ne e]
end Go.Proofs.Ytalehbmgbjiigaa
end

section
namespace Go.Proofs.Ytalehbmgbjiigaa

/-- Whatever stands behind the first k nodes, as many are wanted of it. -/
theorem scan_prefix (k : Nat) : ∀ (a : Nat) (l : List Nd) (t : Nat), scan a l = some t → k < t → ∃ w, 1 ≤ w ∧ ∀ s, scan a (l.take k ++ s) = (scan w s).map (k + ·) := by
  induction k with
  | zero =>
    intro a l t h hk
    refine ⟨a, ?_, fun s => ?_⟩
    · cases a with
      | zero => rw [scan_zero] at h; cases h; omega
      | succ a => omega
    · simp only [List.take_zero, List.nil_append, Nat.zero_add]
      cases scan a s <;> rfl
  | succ k ih =>
    intro a l t h hk
    cases a with
    | zero => rw [scan_zero] at h; cases h; omega
    | succ a =>
      cases l with
      | nil => rw [scan_nil _ (by omega)] at h; cases h
      | cons x r =>
        rw [scan_cons] at h
        by_cases hx : ar x < 0
        · rw [if_pos hx] at h; cases h
        · rw [if_neg hx] at h
          cases hs : scan (a + (ar x).toNat) r with
          | none => rw [hs] at h; cases h
          | some t' =>
            rw [hs] at h
            simp only [Option.map_some, Option.some.injEq] at h
            obtain ⟨w, hw, hall⟩ := ih _ _ _ hs (by omega)
            refine ⟨w, hw, fun s => ?_⟩
            rw [List.take_succ_cons, List.cons_append, scan_cons, if_neg hx, hall]
            cases scan w s with
            | none => rfl
            | some c => simp only [Option.map_some, Option.some.injEq]; omega

section
variable {l r : List Nd} {k : Nat}
theorem whole_scan (h : endv r 0 = r.length) : scan 1 r = some r.length := by
  obtain ⟨m, hs, he⟩ := endv_get r 0 (by show 0 ≤ endv r 0; rw [h]; omega)
  rw [List.drop_zero] at hs
  have : endv r 0 = ((0 + m : Nat) : Int) := he
  rw [hs]
  congr 1
  omega
theorem whole_pos (h : endv r 0 = r.length) : 0 < r.length := by
  have := whole_scan h
  have := scan_ge _ _ _ this
  omega
theorem whole_of (h : scan 1 r = some r.length) : endv r 0 = r.length := by
  have := endv_some r 0 r.length (by rw [List.drop_zero]; exact h)
  have e : endv r 0 = ((0 + r.length : Nat) : Int) := this
  rw [e, Nat.zero_add]
theorem repl_end (hE : 0 ≤ endv l k) (hr : endv r 0 = r.length) : endv (replV l k r) k = ((k + r.length : Nat) : Int) := by
  have hkl : k < l.length := by have := (endv_in l k hE).2; simpa using this
  obtain ⟨m, hs, he⟩ := endv_get l k hE
  have hnlt : ¬ endv l k < 0 := by omega
  refine endv_some _ k r.length ?_
  rw [replV, if_neg hnlt, he, List.append_assoc]
  rw [show ((k : Int)).toNat = k from rfl, List.drop_append_of_le_length (by simp; omega), List.drop_eq_nil_of_le (by simp; omega), List.nil_append]
  have := scan_take 1 r r.length (whole_scan hr) (l.drop (((k + m : Nat) : Int)).toNat)
  rwa [List.take_length] at this
theorem repl_len (hE : 0 ≤ endv l k) : (replV l k r).length + (partV l k).length = l.length + r.length := by
  have hkl : k < l.length := by have := (endv_in l k hE).2; simpa using this
  have hnlt : ¬ endv l k < 0 := by omega
  have hle := endv_le l k
  have hgt := endv_gt l k hE
  rw [replV, if_neg hnlt, partV, if_neg hnlt]
  simp
  omega
theorem repl_part (hE : 0 ≤ endv l k) (hr : endv r 0 = r.length) : partV (replV l k r) k = r := by
  have hkl : k < l.length := by have := (endv_in l k hE).2; simpa using this
  have hnlt : ¬ endv l k < 0 := by omega
  have h1 := repl_end hE hr
  rw [partV, if_neg (by omega), h1, replV, if_neg hnlt]
  rw [show ((k : Int)).toNat = k from rfl, show (((k + r.length : Nat) : Int)).toNat = k + r.length from rfl, List.append_assoc]
  rw [List.take_append, List.drop_append]
  have h2 : (l.take k).length = k := by simp; omega
  simp [h2]
theorem repl_back (hE : 0 ≤ endv l k) (hr : endv r 0 = r.length) : replV (replV l k r) k (partV l k) = l := by
  have hkl : k < l.length := by have := (endv_in l k hE).2; simpa using this
  have hnlt : ¬ endv l k < 0 := by omega
  have h1 := repl_end hE hr
  have hle := endv_le l k
  have hgt := endv_gt l k hE
  obtain ⟨m, hm⟩ := Int.eq_ofNat_of_zero_le hE
  rw [hm] at hle hgt
  rw [replV, if_neg (by omega), h1]
  have e1 : replV l k r = l.take k ++ r ++ l.drop m := by rw [replV, if_neg hnlt, hm]; rfl
  have e2 : partV l k = (l.take m).drop k := by rw [partV, if_neg hnlt, hm]; rfl
  rw [e1, e2, show ((k : Int)).toNat = k from rfl, show (((k + r.length : Nat) : Int)).toNat = k + r.length from rfl]
  have h2 : (l.take k).length = k := by simp; omega
  have e3 : (l.take k ++ r ++ l.drop m).take k = l.take k := by rw [List.append_assoc, List.take_append_of_le_length (by omega), List.take_of_length_le (by omega)]
  have e4 : (l.take k ++ r ++ l.drop m).drop (k + r.length) = l.drop m := by
    rw [List.drop_append, List.drop_eq_nil_of_le (by simp; omega)]
    simp; omega
  have e5 : l.take k ++ (l.take m).drop k = l.take m := by
    rw [show l.take k = (l.take m).take k from by rw [List.take_take]; congr 1; omega]
    exact List.take_append_drop _ _
  rw [e3, e4, e5, List.take_append_drop]
/-- What is replaced by a whole in a whole, is a whole. -/
theorem repl_whole (hl : endv l 0 = l.length) (hE : 0 ≤ endv l k) (hr : endv r 0 = r.length) : endv (replV l k r) 0 = (replV l k r).length := by
  have hkl : k < l.length := by have := (endv_in l k hE).2; simpa using this
  have hnlt : ¬ endv l k < 0 := by omega
  obtain ⟨m, hs, he⟩ := endv_get l k hE
  have hle := endv_le l k
  obtain ⟨w, hw, hall⟩ := scan_prefix k 1 l l.length (whole_scan hl) hkl
  have h0 := hall (l.drop k)
  rw [List.take_append_drop, whole_scan hl] at h0
  obtain ⟨v, rfl⟩ : ∃ v, w = 1 + v := ⟨w - 1, by omega⟩
  rw [scan_add, hs] at h0
  simp only [Option.bind_some, List.drop_drop] at h0
  have e1 : replV l k r = l.take k ++ (r ++ l.drop (k + m)) := by rw [replV, if_neg hnlt, he, List.append_assoc]; rfl
  have h1 := hall (r ++ l.drop (k + m))
  have h2 : scan 1 (r ++ l.drop (k + m)) = some r.length := by
    have := scan_take 1 r r.length (whole_scan hr) (l.drop (k + m))
    rwa [List.take_length] at this
  rw [scan_add, h2] at h1
  simp only [Option.bind_some] at h1
  rw [List.drop_left' rfl] at h1
  refine whole_of ?_
  rw [e1, h1]
  cases hv : scan v (l.drop (k + m)) with
  | none => rw [hv] at h0; cases h0
  | some c =>
    rw [hv] at h0
    simp only [Option.map_some, Option.some.injEq] at h0 ⊢
    simp
    omega
theorem repl_before (hE : 0 ≤ endv l k) (j : Nat) (hj : j < k) : (replV l k r)[j]? = l[j]? := by
  have hkl : k < l.length := by have := (endv_in l k hE).2; simpa using this
  rw [replV, if_neg (by omega), List.append_assoc, List.getElem?_append_left (by simp; omega)]
  simp [hj]
theorem repl_behind (hE : 0 ≤ endv l k) (j : Nat) (hj : endv l k ≤ j) : (replV l k r)[j - (endv l k).toNat + k + r.length]? = l[j]? := by
  have hkl : k < l.length := by have := (endv_in l k hE).2; simpa using this
  obtain ⟨m, hm⟩ := Int.eq_ofNat_of_zero_le hE
  rw [hm] at hj ⊢
  have hj' : m ≤ j := by omega
  rw [replV, if_neg (by omega), hm, show ((m : Int)).toNat = m from rfl, show ((k : Int)).toNat = k from rfl, List.getElem?_append_right (by simp; omega)]
  simp only [List.length_append, List.length_take, List.getElem?_drop]
  congr 1
  omega
end
end Go.Proofs.Ytalehbmgbjiigaa
end

section
namespace Go.Proofs.Ytalehbmgbjiigaa
open Go.RowKit
set_option linter.unusedVariables false
set_option linter.unusedSimpArgs false

/-- A delta: where, by which operator, to what. -/
structure Dl where
  path : List Int
  op : Int
  n : Int
  deriving DecidableEq, Inhabited
/-- Is the node, and the number, as an operator asks? -/
def mayV (x : Nd) (op n : Int) : Prop :=
  (op = 1 ∧ 7 ≤ x.1 ∧ x.1 ≤ 11 ∧ 7 ≤ n ∧ n ≤ 11) ∨ (op = 2 ∧ 12 ≤ x.1 ∧ x.1 ≤ 17 ∧ 12 ≤ n ∧ n ≤ 17) ∨ (op = 3 ∧ 18 ≤ x.1 ∧ x.1 ≤ 19 ∧ 18 ≤ n ∧ n ≤ 19) ∨
  (op = 4 ∧ (x.1 = 1 ∨ (x.1 = 2 ∧ 0 ≤ n ∧ n ≤ 1))) ∨ (op = 5 ∧ (x.1 = 21 ∨ x.1 = 22 ∨ x.1 = 23 ∨ x.1 = 24 ∨ x.1 = 25) ∧ n = 0) ∨
  (op = 6 ∧ (x.1 = 23 ∨ x.1 = 24) ∧ n = 0) ∨ (op = 7 ∧ x.1 = 25)
instance (x : Nd) (op n : Int) : Decidable (mayV x op n) := by unfold mayV; infer_instance
/-- The list, with the node x at k changed. -/
def changedV (l : List Nd) (k : Nat) (x : Nd) (op n : Int) : List Nd :=
  if op = 1 ∨ op = 2 ∨ op = 3 then l.set k (n, x.2) else if op = 4 then l.set k (x.1, n) else
  if op = 5 then replV l k [(26, 0)] else if op = 6 then l.take (k + 1) ++ (6, 0) :: l.drop (k + 1) else replV l ((k + 1 : Nat) : Int) [(1, n)]

/-- Nodes with others instead of those between two places. -/
def swapV (l : List Nd) (k to : Nat) (r : List Nd) : List Nd := l.take k ++ r ++ l.drop to

/- How many kids nodes have. -/
theorem ar_row {t m : Int} (h1 : 7 ≤ t) (h2 : t ≤ 19) : (ar (t, m) = 2 ∧ m = 0) ∨ ar (t, m) = -1 := by
  have hl : lim t m = (0, 2) := by
    unfold lim
    rw [if_neg (by omega), if_neg (by omega), if_neg (by omega), if_neg (by omega), if_neg (by omega), if_neg (by omega), if_neg (by omega), if_neg (by omega), if_neg (by omega), if_pos ⟨h1, h2⟩]
  unfold ar
  simp only [hl]
  rw [if_neg (by omega)]
  split
  · exact .inr rfl
  · exact .inl ⟨rfl, by omega⟩
theorem ar_int (n : Int) : ar (1, n) = 0 := rfl
theorem ar_bool {n : Int} (h0 : 0 ≤ n) (h1 : n ≤ 1) : ar (2, n) = 0 := by
  unfold ar
  rw [if_neg (show ¬ ((2 : Int) = 1) from by decide)]
  have : lim 2 n = (1, 0) := rfl
  simp only [this]
  rw [if_neg (by omega)]
theorem ar_lim {t n : Int} {a b : Int} (hl : lim t n = (a, b)) (ht : t ≠ 1) (h : 0 ≤ ar (t, n)) : ar (t, n) = b := by
  unfold ar at h ⊢
  rw [if_neg ht] at h ⊢
  simp only [hl] at h ⊢
  split at h
  · omega
  · rename_i hh; rw [if_neg hh]
theorem ar_skip : ar (26, 0) = 0 := by decide
theorem ar_not : ar (6, 0) = 1 := by decide
theorem ar_ret {n : Int} (h : 0 ≤ ar (25, n)) : ar (25, n) = 1 := ar_lim (a := 0) (b := 1) rfl (by decide) h
theorem ar_if {n : Int} (h : 0 ≤ ar (23, n)) : ar (23, n) = 3 := ar_lim (a := 0) (b := 3) rfl (by decide) h
theorem ar_while {n : Int} (h : 0 ≤ ar (24, n)) : ar (24, n) = 2 := ar_lim (a := 0) (b := 2) rfl (by decide) h
/-- One node without kids is whole. -/
theorem whole_one {y : Nd} (hy : ar y = 0) : endv [y] 0 = ([y] : List Nd).length := by
  refine whole_of ?_
  rw [show (1 : Nat) = 0 + 1 from rfl, scan_cons, if_neg (by omega), hy]
  rfl

section
variable {l : List Nd} {k : Nat} {op n : Int}
theorem at_ar (hE : 0 ≤ endv l k) : ∃ hk : k < l.length, 0 ≤ ar l[k] ∧ arAt l k = ar l[k] := by
  have hk : k < l.length := by have := (endv_in l k hE).2; simpa using this
  have := endv_ar l k hE
  rw [arAt_in _ _ hk] at this
  exact ⟨hk, this, arAt_in _ _ hk⟩
/-- The first kid. -/
theorem first_kid (hE : 0 ≤ endv l k) (h : 0 < arAt l k) : 0 ≤ endv l ((k + 1 : Nat) : Int) ∧ endv l ((k + 1 : Nat) : Int) ≤ endv l k ∧ k + 1 < l.length := by
  have := kth_range l k hE 0 (by omega)
  have h3 : kth l (k + 1) 0 = ((k + 1 : Nat) : Int) := by simp [kth]
  rw [h3] at this
  obtain ⟨_, _, a, b⟩ := this
  have := (endv_in l _ a).2
  exact ⟨a, b, by simpa using this⟩
theorem kid_one (hE : 0 ≤ endv l k) (h : arAt l k = 1) : endv l ((k + 1 : Nat) : Int) = endv l k := by
  have h1 := kth_last l k hE
  rw [h, show (1 : Int).toNat = 0 + 1 from rfl] at h1
  have h2 : endv l (kth l (k + 1) 0) = endv l k := h1
  have h3 : kth l (k + 1) 0 = ((k + 1 : Nat) : Int) := by simp [kth]
  rw [← h3]; exact h2
/-- What is put ahead of a part. -/
theorem ins_repl (hE : 0 ≤ endv l ((k + 1 : Nat) : Int)) : l.take (k + 1) ++ (6, 0) :: l.drop (k + 1) = replV l ((k + 1 : Nat) : Int) ((6, 0) :: partV l ((k + 1 : Nat) : Int)) := by
  have hgt := endv_gt l _ hE
  have hle := endv_le l ((k + 1 : Nat) : Int)
  obtain ⟨m, hm⟩ := Int.eq_ofNat_of_zero_le hE
  rw [hm] at hgt hle
  rw [replV, if_neg (by omega), partV, if_neg (by omega), hm]
  simp only [Int.toNat_natCast, List.append_assoc, List.cons_append]
  congr 2
  have e : l.drop (k + 1) = ((l.take m).drop (k + 1)) ++ l.drop m := by
    conv => lhs; rw [← List.take_append_drop m l]
    rw [List.drop_append_of_le_length (by simp; omega)]
  exact e
theorem part_whole {q : Nat} (h : 0 ≤ endv l q) : endv (partV l q) 0 = (partV l q).length := by
  obtain ⟨m, hs, he⟩ := endv_get l q h
  have hle := scan_le _ _ _ hs
  have e : partV l q = (l.drop q).take m := by
    rw [partV, if_neg (by omega), he]
    simp only [Int.toNat_natCast]
    rw [List.drop_take]
    congr 1
    omega
  have := scan_take 1 _ m hs []
  rw [List.append_nil] at this
  refine whole_of ?_
  rw [e, this, List.length_take, Nat.min_eq_left hle]
theorem ins_whole (hE : 0 ≤ endv l ((k + 1 : Nat) : Int)) : endv ((6, 0) :: partV l ((k + 1 : Nat) : Int)) 0 = ((6, 0) :: partV l ((k + 1 : Nat) : Int)).length := by
  have hp : endv (partV l ((k + 1 : Nat) : Int)) 0 = (partV l ((k + 1 : Nat) : Int)).length := part_whole hE
  refine whole_of ?_
  rw [show (1 : Nat) = 0 + 1 from rfl, scan_cons, if_neg (by rw [ar_not]; omega), ar_not]
  have := whole_scan hp
  show (scan 1 _).map _ = _
  rw [this]
  simp
theorem may_tag {x : Nd} (h : mayV x op n) (h4 : op ≤ 4) : (op = 1 ∨ op = 2 ∨ op = 3) ∧ 7 ≤ x.1 ∧ x.1 ≤ 19 ∧ 7 ≤ n ∧ n ≤ 19 ∨ op = 4 ∧ (x.1 = 1 ∨ (x.1 = 2 ∧ 0 ≤ n ∧ n ≤ 1)) := by
  rcases h with h | h | h | h | h | h | h
  · exact .inl ⟨.inl h.1, by omega, by omega, by omega, by omega⟩
  · exact .inl ⟨.inr (.inl h.1), by omega, by omega, by omega, by omega⟩
  · exact .inl ⟨.inr (.inr h.1), by omega, by omega, by omega, by omega⟩
  · exact .inr h
  · omega
  · omega
  · omega
/-- The changed node alone is another one; it has as many kids. -/
theorem changed_set (hE : 0 ≤ endv l k) (x : Nd) (hx : l[k]? = some x) (h : mayV x op n) (h4 : op ≤ 4) : ∃ y, changedV l k x op n = l.set k y ∧ ar y = ar x ∧ ((op ≤ 3 ∧ y = (n, x.2)) ∨ (op = 4 ∧ y = (x.1, n))) := by
  obtain ⟨hk, h0, _⟩ := at_ar hE
  have hxe : l[k] = x := (List.getElem?_eq_some_iff.1 hx).2
  rw [hxe] at h0
  rcases may_tag h h4 with ⟨ho, a, b, c, d⟩ | ⟨ho, h⟩
  · refine ⟨(n, x.2), by unfold changedV; rw [if_pos ho], ?_, .inl ⟨by omega, rfl⟩⟩
    obtain ⟨t, m⟩ := x
    simp only at a b h0
    rcases ar_row (m := m) a b with ⟨e, rfl⟩ | e
    · rcases ar_row (m := 0) c d with ⟨e', _⟩ | e'
      · simp only; rw [e, e']
      · exfalso
        have : ar (n, 0) ≠ -1 := by
          have hl : lim n 0 = (0, 2) := by
            unfold lim
            rw [if_neg (by omega), if_neg (by omega), if_neg (by omega), if_neg (by omega), if_neg (by omega), if_neg (by omega), if_neg (by omega), if_neg (by omega), if_neg (by omega), if_pos ⟨c, d⟩]
          unfold ar
          simp only [hl]
          rw [if_neg (by omega), if_neg (by omega)]
          omega
        exact this e'
    · omega
  · refine ⟨(x.1, n), by unfold changedV; rw [if_neg (by omega), if_pos ho], ?_, .inr ⟨ho, rfl⟩⟩
    obtain ⟨t, m⟩ := x
    simp only at h h0
    rcases h with rfl | ⟨rfl, h1, h2⟩
    · rw [ar_int, ar_int]
    · rw [ar_bool h1 h2]
      exact (ar_lim (a := 1) (b := 0) rfl (by decide) h0).symm
theorem changed_alike (hE : 0 ≤ endv l k) (x : Nd) (hx : l[k]? = some x) (h : mayV x op n) (h4 : op ≤ 4) : Alike l (changedV l k x op n) := by
  obtain ⟨y, h1, h2, _⟩ := changed_set hE x hx h h4
  obtain ⟨hk, hxe⟩ := List.getElem?_eq_some_iff.1 hx
  rw [h1]
  exact alike_set l k y hk (by rw [h2, hxe])
/-- What was done by an operator that changes a node alone is undone. -/
theorem changed_back (hE : 0 ≤ endv l k) (x : Nd) (hx : l[k]? = some x) (h : mayV x op n) (h4 : op ≤ 4) : ∃ y, (changedV l k x op n)[k]? = some y ∧ mayV y op (if op = 4 then x.2 else x.1) ∧ changedV (changedV l k x op n) k y op (if op = 4 then x.2 else x.1) = l := by
  obtain ⟨y, h1, h2, h3⟩ := changed_set hE x hx h h4
  obtain ⟨hk, hxe⟩ := List.getElem?_eq_some_iff.1 hx
  have hback : (l.set k y).set k x = l := by
    rw [List.set_set]
    apply List.ext_getElem?
    intro j
    by_cases e : k = j
    · subst e; rw [List.getElem?_set_self hk, hx]
    · rw [List.getElem?_set_ne e]
  refine ⟨y, by rw [h1, List.getElem?_set_self hk], ?_, ?_⟩
  · obtain ⟨hk', h0, _⟩ := at_ar hE
    rw [hxe] at h0
    rcases h3 with ⟨ho, rfl⟩ | ⟨ho, rfl⟩
    · rw [if_neg (by omega)]
      rcases h with h | h | h | h | h | h | h
      · exact .inl ⟨h.1, h.2.2.2.1, h.2.2.2.2, h.2.1, h.2.2.1⟩
      · exact .inr (.inl ⟨h.1, h.2.2.2.1, h.2.2.2.2, h.2.1, h.2.2.1⟩)
      · exact .inr (.inr (.inl ⟨h.1, h.2.2.2.1, h.2.2.2.2, h.2.1, h.2.2.1⟩))
      · omega
      · omega
      · omega
      · omega
    · rw [if_pos ho]
      have hb : x.1 = 2 → 0 ≤ x.2 ∧ x.2 ≤ 1 := fun e => by
        obtain ⟨t, m⟩ := x
        simp only at e h0 ⊢
        subst e
        unfold ar at h0
        rw [if_neg (show ¬ ((2 : Int) = 1) from by decide)] at h0
        have : lim 2 m = (1, 0) := rfl
        simp only [this] at h0
        split at h0 <;> omega
      refine .inr (.inr (.inr (.inl ⟨ho, ?_⟩)))
      rcases h with h | h | h | h | h | h | h
      · omega
      · omega
      · omega
      · rcases h.2 with e | e
        · exact .inl e
        · exact .inr ⟨e.1, hb e.1⟩
      · omega
      · omega
      · omega
  · rw [h1]
    rcases h3 with ⟨ho, rfl⟩ | ⟨ho, rfl⟩
    · rw [if_neg (by omega)]
      have ho' : op = 1 ∨ op = 2 ∨ op = 3 := by
        rcases may_tag h (by omega) with e | e
        · exact e.1
        · omega
      unfold changedV
      rw [if_pos ho']
      exact hback
    · rw [if_pos ho]
      unfold changedV
      rw [if_neg (by omega), if_pos ho]
      exact hback
/-- The changed list is whole; how long it is; what stays. -/
theorem changed_else (hl : endv l 0 = l.length) (hE : 0 ≤ endv l k) (x : Nd) (hx : l[k]? = some x) (h : mayV x op n) : endv (changedV l k x op n) 0 = (changedV l k x op n).length ∧ (changedV l k x op n).length ≤ l.length + 1 ∧
    (∀ j, j < k → (changedV l k x op n)[j]? = l[j]?) ∧ ∀ j : Nat, endv l k ≤ j → j < l.length → l.length ≤ (changedV l k x op n).length + j ∧ (changedV l k x op n)[(changedV l k x op n).length + j - l.length]? = l[j]? := by
  obtain ⟨hk, h0, har⟩ := at_ar hE
  have hxe : l[k] = x := (List.getElem?_eq_some_iff.1 hx).2
  rw [hxe] at h0 har
  have hgt := endv_gt l k hE
  by_cases h4 : op ≤ 4
  · obtain ⟨y, h1, h2, h3⟩ := changed_set hE x hx h h4
    have ha := changed_alike hE x hx h h4
    refine ⟨by rw [← endv_alike ha, hl, ha.len], by rw [h1, List.length_set]; omega, fun j hj => by rw [h1, List.getElem?_set_ne (by omega)], fun j hj hj2 => ⟨by rw [h1, List.length_set]; omega, ?_⟩⟩
    rw [h1, List.length_set, Nat.add_sub_cancel_left, List.getElem?_set_ne (by omega)]
  · have repl : ∀ (q : Nat) (r : List Nd), 0 ≤ endv l q → endv l q ≤ endv l k → k ≤ q → endv r 0 = r.length → r.length ≤ (partV l q).length + 1 → changedV l k x op n = replV l q r → endv (changedV l k x op n) 0 = (changedV l k x op n).length ∧ (changedV l k x op n).length ≤ l.length + 1 ∧
        (∀ j, j < k → (changedV l k x op n)[j]? = l[j]?) ∧ ∀ j : Nat, endv l k ≤ j → j < l.length → l.length ≤ (changedV l k x op n).length + j ∧ (changedV l k x op n)[(changedV l k x op n).length + j - l.length]? = l[j]? := by
      intro q r hq hqk hkq hr hrl e
      have hlen := repl_len (r := r) hq
      have hpl : (partV l q).length = (endv l q).toNat - q := by
        have h1 := endv_le l q
        have h2 := endv_gt l q hq
        rw [partV, if_neg (by omega)]
        simp
        omega
      have h2 := endv_gt l q hq
      rw [e]
      refine ⟨repl_whole hl hq hr, by omega, fun j hj => repl_before hq j (by omega), fun j hj hj2 => ⟨by omega, ?_⟩⟩
      have := repl_behind (r := r) hq j (by omega)
      rw [← this]
      congr 1
      omega
    have hpos : ∀ q : Nat, 0 ≤ endv l q → 1 ≤ (partV l q).length := fun q hq => by
      have h1 := endv_le l q
      have h2 := endv_gt l q hq
      rw [partV, if_neg (by omega)]
      simp
      omega
    have ho : (op = 5 ∨ (op = 6 ∧ (x.1 = 23 ∨ x.1 = 24)) ∨ (op = 7 ∧ x.1 = 25)) := by
      rcases h with h | h | h | h | h | h | h
      · omega
      · omega
      · omega
      · omega
      · exact .inl h.1
      · exact .inr (.inl ⟨h.1, h.2.1⟩)
      · exact .inr (.inr h)
    rcases ho with ho | ⟨ho, ht⟩ | ⟨ho, ht⟩
    · refine repl k [(26, 0)] hE (Int.le_refl _) (Nat.le_refl _) (whole_one ar_skip) (by have := hpos k hE; simp) ?_
      unfold changedV
      rw [if_neg (by omega), if_neg (by omega), if_pos ho]
    · have ha : 0 < arAt l k := by
        rw [har]
        obtain ⟨t, m⟩ := x
        simp only at ht h0
        rcases ht with rfl | rfl
        · rw [ar_if h0]; omega
        · rw [ar_while h0]; omega
      obtain ⟨f1, f2, f3⟩ := first_kid hE ha
      refine repl (k + 1) _ f1 f2 (by omega) (ins_whole f1) (by simp) ?_
      unfold changedV
      rw [if_neg (by omega), if_neg (by omega), if_neg (by omega), if_pos ho]
      exact ins_repl f1
    · have ha : arAt l k = 1 := by
        rw [har]
        obtain ⟨t, m⟩ := x
        simp only at ht h0
        subst ht
        exact ar_ret h0
      obtain ⟨f1, f2, f3⟩ := first_kid hE (by omega)
      refine repl (k + 1) [(1, n)] f1 f2 (by omega) (whole_one (ar_int n)) (by have := hpos _ f1; simp) ?_
      unfold changedV
      rw [if_neg (by omega), if_neg (by omega), if_neg (by omega), if_neg (by omega)]
end
end Go.Proofs.Ytalehbmgbjiigaa
end

section
namespace Go.Proofs.Ytalehbmgbjiigaa
open Go.RowKit
set_option linter.unusedVariables false
set_option linter.unusedSimpArgs false

def dlC (d : Dl) : List D := [intsD d.path, iD d.op, iD d.n]
def dlD (d : Dl) : D := .agg (dlC d)
def asDlC : List D → Option Dl
  | [a, b, c] => (asInts a).bind fun p => (asInt b).bind fun o => (asInt c).map fun n => ⟨p, o, n⟩
  | _ => none
def asDl : D → Option Dl
  | .agg cs => asDlC cs
  | _ => none
@[simp] theorem asDl_dlD (d : Dl) : asDl (dlD d) = some d := by simp [asDl, dlD, dlC, asDlC]
theorem imp_dlC {cs : List D} {d : Dl} (h : asDlC cs = some d) : ImpL cs (dlC d) := by
  unfold asDlC at h
  split at h
  · rename_i a b c
    obtain ⟨p, h1, h⟩ := Option.bind_eq_some_iff.1 h
    obtain ⟨o, h2, h⟩ := Option.bind_eq_some_iff.1 h
    obtain ⟨n, h3, h⟩ := Option.map_eq_some_iff.1 h
    subst h
    exact .cons (imp_ints h1) (.cons (intT.ok _ _ h2) (.cons (intT.ok _ _ h3) .nil))
  · cases h
def dlT : Dec Dl := ⟨dlD, asDl, asDl_dlD, fun d a h => by
  unfold asDl at h
  split at h
  · exact Imp.agg (imp_dlC h)
  · cases h⟩
@[simp] theorem pure_dl (d : Dl) : pureD (dlD d) = true := rfl
@[simp] theorem pureL_dlC (d : Dl) : pureL (dlC d) = true := rfl
@[simp] theorem box_dl (t : TypeId) (d : Dl) (H : Heap) : boxH t (dlD d) H = some (.hp H.length 0, H ++ [.cells t 3 [intsD d.path, iD d.op, iD d.n]]) := rfl
theorem dl_agg (d : Dl) : D.agg [intsD d.path, iD d.op, iD d.n] = dlD d := rfl
theorem prog_agg (p : Pg) : D.agg [iD p.params, intsD p.vars, nodesD p.body] = progD p := rfl
/-- A program, at a node, to a number. -/
structure Chg where
  p : Pg
  k : Int
  n : Int
  deriving DecidableEq, Inhabited
def chC (c : Chg) : List D := [iD c.p.params, intsD c.p.vars, nodesD c.p.body, iD c.k, iD c.n]
def chD (c : Chg) : D := .agg (chC c)
def asChC : List D → Option Chg
  | [a, b, c, d, e] => (asInt a).bind fun m => (asInts b).bind fun vs => (asNodes c).bind fun l => (asInt d).bind fun k => (asInt e).map fun n => ⟨⟨m, vs, l⟩, k, n⟩
  | _ => none
def asCh : D → Option Chg
  | .agg cs => asChC cs
  | _ => none
@[simp] theorem asCh_chD (c : Chg) : asCh (chD c) = some c := by simp [asCh, chD, chC, asChC]
theorem imp_chC {cs : List D} {c : Chg} (h : asChC cs = some c) : ImpL cs (chC c) := by
  unfold asChC at h
  split at h
  · rename_i a b x d e
    obtain ⟨m, h1, h⟩ := Option.bind_eq_some_iff.1 h
    obtain ⟨vs, h2, h⟩ := Option.bind_eq_some_iff.1 h
    obtain ⟨l, h3, h⟩ := Option.bind_eq_some_iff.1 h
    obtain ⟨k, h4, h⟩ := Option.bind_eq_some_iff.1 h
    obtain ⟨n, h5, h⟩ := Option.map_eq_some_iff.1 h
    subst h
    exact .cons (intT.ok _ _ h1) (.cons (imp_ints h2) (.cons (imp_nodes h3) (.cons (intT.ok _ _ h4) (.cons (intT.ok _ _ h5) .nil))))
  · cases h
def chT : Dec Chg := ⟨chD, asCh, asCh_chD, fun d a h => by
  unfold asCh at h
  split at h
  · exact Imp.agg (imp_chC h)
  · cases h⟩
@[simp] theorem pure_ch (c : Chg) : pureD (chD c) = true := rfl
@[simp] theorem pureL_chC (c : Chg) : pureL (chC c) = true := rfl
@[simp] theorem box_ch (t : TypeId) (c : Chg) (H : Heap) : boxH t (chD c) H = some (.hp H.length 0, H ++ [.cells t 5 [iD c.p.params, intsD c.p.vars, nodesD c.p.body, iD c.k, iD c.n]]) := rfl
theorem ch_agg (c : Chg) : D.agg [iD c.p.params, intsD c.p.vars, nodesD c.p.body, iD c.k, iD c.n] = chD c := rfl
theorem nodesC_set (l : List Nd) (k : Nat) (x : Nd) (hk : k < l.length) : nodesC (l.set k x) = (nodesC l).take (2 * k) ++ nodeD x ++ (nodesC l).drop (2 * k + 2) := by
  have h0 : nodesC l = nodesC (l.take k) ++ (nodeD l[k] ++ nodesC (l.drop (k + 1))) := by
    have e : l = l.take k ++ (l[k] :: l.drop (k + 1)) := by rw [← List.drop_eq_getElem_cons hk, List.take_append_drop]
    have e2 : nodesC (l[k] :: l.drop (k + 1)) = nodeD l[k] ++ nodesC (l.drop (k + 1)) := rfl
    conv => lhs; rw [e]
    rw [nodesC_app, e2]
  have hl : (nodesC (l.take k)).length = 2 * k := by rw [nodesC_len, List.length_take]; omega
  have h1 : (nodesC l).take (2 * k) = nodesC (l.take k) := by rw [h0]; exact List.take_left' hl
  have h2 : (nodesC l).drop (2 * k + 2) = nodesC (l.drop (k + 1)) := by
    rw [h0, ← List.append_assoc]
    exact List.drop_left' (by simp [hl, nodeD])
  rw [h1, h2, List.set_eq_take_append_cons_drop, if_pos hk, nodesC_app]
  have e2 : nodesC (x :: l.drop (k + 1)) = nodeD x ++ nodesC (l.drop (k + 1)) := rfl
  rw [e2, List.append_assoc]
theorem nodesC_ins (l : List Nd) (k : Nat) (x : Nd) (hk : k ≤ l.length) : nodesC (l.take k ++ x :: l.drop k) = (nodesC l).take (2 * k) ++ nodeD x ++ (nodesC l).drop (2 * k) := by
  have h0 : nodesC l = nodesC (l.take k) ++ nodesC (l.drop k) := by rw [← nodesC_app, List.take_append_drop]
  have hl : (nodesC (l.take k)).length = 2 * k := by rw [nodesC_len, List.length_take]; omega
  have h1 : (nodesC l).take (2 * k) = nodesC (l.take k) := by rw [h0]; exact List.take_left' hl
  have h2 : (nodesC l).drop (2 * k) = nodesC (l.drop k) := by rw [h0]; exact List.drop_left' hl
  have e2 : nodesC (x :: l.drop k) = nodeD x ++ nodesC (l.drop k) := rfl
  rw [h1, h2, nodesC_app, e2, List.append_assoc]
/-- A row of nodes of the call's own, by value. -/
theorem deref_row (H : Heap) (n : Nat) (t : TypeId) (id : Nat) (l : List Nd) (h : H[id]? = some (.cells t 2 (nodesC l))) : derefN H (n + 1) (.hs id l.length) = some (nodesD l) := by
  simp only [derefN, h]
  rw [if_pos (by rw [nodesC_len]; omega), List.take_of_length_le (by rw [nodesC_len]; omega), mapM_nodesC, Option.map_some, chunks_nodesC]; rfl
theorem outD_nrow (H : Heap) (t : TypeId) (id : Nat) (l : List Nd) (h : H[id]? = some (.cells t 2 (nodesC l))) : outD (some (.hs id l.length, H)) = some (nodesD l) := deref_row H 8 t id l h
theorem src_nodes (H : Heap) (l : List Nd) : srcH 2 H (nodesD l) = some (nodesC l) := by
  show (elsD 2 (.sl 2 (l.map nodeD))).map List.flatten = _
  cases l <;> rfl
end Go.Proofs.Ytalehbmgbjiigaa
end

section
namespace Go.Proofs.Ytalehbmgbjiigaa
open Go.RowKit
set_option linter.unusedVariables false
set_option maxRecDepth 100000

def kp_cmp_Or_int_ : List Nat := [2, 3, 6, 7, 8]
theorem sh_cmp_Or_int_ (n : Nat) (x0 : D) (h : Heap) : textK Try.prog T12a kp_cmp_Or_int_ n Try.f71 [x0] h =
(thn (lenH .sl x0) fun y0 =>
leaveK (loopF Try.prog T12a kp_cmp_Or_int_ n Try.f71 0 [(iD 0), (iD 0), x0, y0, (iD 0)] h) (fun j1 s2 h3 =>
condN j1 0
(some ((s2.getD 1 .undef), h3))
(none)) (fun s2 h3 =>
some ((s2.getD 0 .undef), h3))) := by kernel_rfl

theorem st_cmp_Or_int__0 (n : Nat) (s0 s1 s2 s3 s4 : D) (h : Heap) : stepF Try.prog T12a kp_cmp_Or_int_ n Try.f71 0 [s0, s1, s2, s3, s4] h =
(thn (binK .int .lss s4 s3) fun y0 =>
condK y0
(thn (idxH 1 s2 s4) fun y1 =>
thn (loadH none h y1) fun y2 =>
thn (binK .int .neq y2 s1) fun y3 =>
condK y3
(some (.ret, [y2, s1, s2, s3, s4], h))
(thn (binK .int .add s4 (iD 1)) fun y4 =>
some (.normal, [s0, s1, s2, s3, y4], h)))
(some ((.exit 0), [s0, s1, s2, s3, s4], h))) := by kernel_rfl

def kp_api_Node_ : List Nat := []
theorem sh_api_Node_ (n : Nat) (x0 : D) (h : Heap) : textK Try.prog T12a kp_api_Node_ n Try.f90 [x0] h =
(thn (binK .sl .eql x0 (.v (.slice none 0 0))) fun y0 =>
condK y0
(some ((.v (.slice none 0 0)), h))
(thnH (rowH 46 2 0 [(iD 0), (iD 0)] [] h) fun y1 h2 =>
thnH (appendH 46 2 y1 x0 h2) fun y3 h4 =>
some (y3, h4))) := by kernel_rfl

def kp_delta_change__node : List Nat := []
theorem sh_delta_change__node (n : Nat) (x0 : D) (h : Heap) : textK Try.prog T12a kp_delta_change__node n Try.f86 [x0] h =
(thnH (boxH 62 x0 h) fun y0 h1 =>
thnH (allocH 46 [(iD 0), (iD 0)] h1) fun y2 h3 =>
thn (fieldAtH 0 y0) fun y4 =>
thn (fieldAtH 2 y4) fun y5 =>
thn (loadH none h3 y5) fun y6 =>
thn (fieldAtH 3 y0) fun y7 =>
thn (loadH none h3 y7) fun y8 =>
thn (idxH 2 y6 y8) fun y9 =>
thn (loadH (some 2) h3 y9) fun y10 =>
thnH (setH 2 y2 y10 h3) fun y11 h12 =>
thn (loadH (some 2) h12 y2) fun y13 =>
some (y13, h12)) := by kernel_rfl

def kp_offshootref12_less : List Nat := []
theorem sh_offshootref12_less (n : Nat) (x0 x1 : D) (h : Heap) : textK Try.prog T12a kp_offshootref12_less n Try.f68 [x0, x1] h =
(thn (binK .int .lss x0 x1) fun y0 =>
condK y0
(some ((iD (-1)), h))
(thn (binK .int .gtr x0 x1) fun y1 =>
condK y1
(some ((iD 1), h))
(some ((iD 0), h)))) := by kernel_rfl

def kp_offshootref12_between : List Nat := []
theorem sh_offshootref12_between (n : Nat) (x0 x1 x2 : D) (h : Heap) : textK Try.prog T12a kp_offshootref12_between n Try.f92 [x0, x1, x2] h =
(thn (binK .int .geq x0 x1) fun y0 =>
condK y0
(thn (binK .int .leq x0 x2) fun y1 =>
some (y1, h))
(some ((bD false), h))) := by kernel_rfl

def kp_offshootref12_swap : List Nat := [0, 1, 2, 3, 9, 10, 11, 12]
theorem sh_offshootref12_swap (n : Nat) (x0 x1 x2 x3 : D) (h : Heap) : textK Try.prog T12a kp_offshootref12_swap n Try.f93 [x0, x1, x2, x3] h =
(leaveK (loopF Try.prog T12a kp_offshootref12_swap n Try.f93 0 [x0, x1, x2, x3, (.v (.slice none 0 0)), (iD 0), .undef, .undef] h) (fun j0 s1 h2 =>
condN j0 0
(leaveK (loopF Try.prog T12a kp_offshootref12_swap n Try.f93 1 [(s1.getD 0 .undef), (s1.getD 1 .undef), (s1.getD 2 .undef), (s1.getD 3 .undef), (s1.getD 4 .undef), (s1.getD 5 .undef), (iD 0), (s1.getD 7 .undef)] h2) (fun j3 s4 h5 =>
condN j3 2
(leaveK (loopF Try.prog T12a kp_offshootref12_swap n Try.f93 2 [(s4.getD 0 .undef), (s4.getD 1 .undef), (s4.getD 2 .undef), (s4.getD 3 .undef), (s4.getD 4 .undef), (s4.getD 5 .undef), (s4.getD 6 .undef), (s4.getD 2 .undef)] h5) (fun j6 s7 h8 =>
condN j6 4
(some ((s7.getD 4 .undef), h8))
(none)) (fun s7 h8 =>
some (.undef, h8)))
(none)) (fun s4 h5 =>
some (.undef, h5)))
(none)) (fun s1 h2 =>
some (.undef, h2))) := by kernel_rfl

theorem st_offshootref12_swap_0 (n : Nat) (s0 s1 s2 s3 s4 s5 s6 s7 : D) (h : Heap) : stepF Try.prog T12a kp_offshootref12_swap n Try.f93 0 [s0, s1, s2, s3, s4, s5, s6, s7] h =
(thn (binK .int .lss s5 s1) fun y0 =>
condK y0
(thn (idxH 2 s0 s5) fun y1 =>
thn (loadH (some 2) h y1) fun y2 =>
thnH (rowH 46 2 1 [(iD 0), (iD 0)] [(0, y2)] h) fun y3 h4 =>
thnH (appendH 46 2 s4 y3 h4) fun y5 h6 =>
thn (binK .int .add s5 (iD 1)) fun y7 =>
some (.normal, [s0, s1, s2, s3, y5, y7, s6, s7], h6))
(some ((.exit 0), [s0, s1, s2, s3, s4, s5, s6, s7], h))) := by kernel_rfl

theorem st_offshootref12_swap_1 (n : Nat) (s0 s1 s2 s3 s4 s5 s6 s7 : D) (h : Heap) : stepF Try.prog T12a kp_offshootref12_swap n Try.f93 1 [s0, s1, s2, s3, s4, s5, s6, s7] h =
(thn (lenH .sl s3) fun y0 =>
thn (binK .int .lss s6 y0) fun y1 =>
condK y1
(thn (idxH 2 s3 s6) fun y2 =>
thn (loadH (some 2) h y2) fun y3 =>
thnH (rowH 46 2 1 [(iD 0), (iD 0)] [(0, y3)] h) fun y4 h5 =>
thnH (appendH 46 2 s4 y4 h5) fun y6 h7 =>
thn (binK .int .add s6 (iD 1)) fun y8 =>
some (.normal, [s0, s1, s2, s3, y6, s5, y8, s7], h7))
(some ((.exit 2), [s0, s1, s2, s3, s4, s5, s6, s7], h))) := by kernel_rfl

theorem st_offshootref12_swap_2 (n : Nat) (s0 s1 s2 s3 s4 s5 s6 s7 : D) (h : Heap) : stepF Try.prog T12a kp_offshootref12_swap n Try.f93 2 [s0, s1, s2, s3, s4, s5, s6, s7] h =
(thn (lenH .sl s0) fun y0 =>
thn (binK .int .lss s7 y0) fun y1 =>
condK y1
(thn (idxH 2 s0 s7) fun y2 =>
thn (loadH (some 2) h y2) fun y3 =>
thnH (rowH 46 2 1 [(iD 0), (iD 0)] [(0, y3)] h) fun y4 h5 =>
thnH (appendH 46 2 s4 y4 h5) fun y6 h7 =>
thn (binK .int .add s7 (iD 1)) fun y8 =>
some (.normal, [s0, s1, s2, s3, y6, s5, s6, y8], h7))
(some ((.exit 4), [s0, s1, s2, s3, s4, s5, s6, s7], h))) := by kernel_rfl

end Go.Proofs.Ytalehbmgbjiigaa
end

section
namespace Go.Proofs.Ytalehbmgbjiigaa
open Go.RowKit
set_option linter.unusedVariables false

def textG (P : Program) (T : Tab) (kp : List Nat) (n : Nat) (f : FuncId) : List D → Heap → Option (D × Heap) := fun ds H =>
  match P.funcs[f]? with
  | some fn => textK P T kp n fn ds H
  | none => none
theorem textG_eq {P : Program} {T : Tab} {kp : List Nat} {n : Nat} {f : FuncId} {fn : Func} (h : P.funcs[f]? = some fn) (ds : List D) (H : Heap) : textG P T kp n f ds H = textK P T kp n fn ds H := by unfold textG; rw [h]
theorem hcall_G {P : Program} {T : Tab} {kp : List Nat} {n : Nat} (hT : TabOk P T) (hm : P.follows .mixedOrders = true) {f : FuncId} {fn : Func} (hf : P.funcs[f]? = some fn) (hb : fn.body.isSome = true) (hname : fn.name ≠ "runtime.NumGoroutine") : HCallOk P f (textG P T kp n f) :=
  hcall_text (kp := kp) hT hm hf hb hname fun ds H d H' h => ⟨n, by rw [textG_eq hf] at h; exact h⟩
/-- k rounds that keep an invariant, and a last one. -/
theorem loopF_inv {P : Program} {T : Tab} {kp : List Nat} {fn : Func} {li : Nat} (st : Nat → List D) (Inv : Nat → Heap → Prop) (Q : Lv × List D × Heap → Prop) (k n : Nat)
    (hstep : ∀ j H, j < k → Inv j H → ∃ H', stepF P T kp n fn li (st j) H = some (.normal, st (j + 1), H') ∧ Inv (j + 1) H') (hend : ∀ H, Inv k H → ∃ r, stepF P T kp n fn li (st k) H = some r ∧ r.1 ≠ .normal ∧ Q r) (hn : k < n) {H : Heap} (h : Inv 0 H) :
    ∃ r, loopF P T kp n fn li (st 0) H = some r ∧ Q r := by
  have key : ∀ (m i : Nat) (H : Heap), i + m = k → Inv i H → ∀ q, m < q → ∃ r, iterS (stepF P T kp n fn li) q (st i) H = some r ∧ Q r := by
    intro m
    induction m with
    | zero =>
      intro i H hi hI q hq
      obtain ⟨q, rfl⟩ : ∃ x, q = x + 1 := ⟨q - 1, by omega⟩
      obtain rfl : i = k := by omega
      obtain ⟨⟨lv, s', H'⟩, h1, h2, h3⟩ := hend H hI
      refine ⟨_, ?_, h3⟩
      simp only [iterS, h1]
      cases lv with
      | normal => exact absurd rfl h2
      | _ => rfl
    | succ m ih =>
      intro i H hi hI q hq
      obtain ⟨q, rfl⟩ : ∃ x, q = x + 1 := ⟨q - 1, by omega⟩
      obtain ⟨H', h1, h2⟩ := hstep i H (by omega) hI
      rw [iterS_go h1]
      exact ih (i + 1) H' (by omega) h2 q (by omega)
  exact key k 0 H (by omega) h n hn
end Go.Proofs.Ytalehbmgbjiigaa
end
