/-
  Parts joined into one text: HDenFresh, Str, ArgsR, N08, PathV, Paths, PathD, Find, Compare, RefFind, RefCompare, InsV. No condition.
-/
import Derived.ChangeMaps5
import Derived.WalkSpells
import Derived.Lib.SliceRun
import Derived.Laws.CopyRow
import Derived.Test.YtalehbmgbjiigaaEb
import Derived.Test.YtalehbmgbjiigaaEd
import Derived.Test.YtalehbmgbjiigaaEf
import Derived.Test.YtalehbmgbjiigaaEi
import Derived.Test.YtalehbmgbjiigaaEj
import Derived.Test.YtalehbmgbjiigaaEk

section
namespace Go.Proofs.Ytalehbmgbjiigaa
open Go.RowKit
set_option linter.unusedVariables false
set_option linter.unusedSimpArgs false

/-- A function gives what is said, by value, in memory that it has made. -/
structure CallNew (P : Program) (f : FuncId) (F : List D → Option D) : Prop where
  body : ∃ fn, P.funcs[f]? = some fn ∧ fn.name ≠ "runtime.NumGoroutine" ∧ fn.body.isSome = true
  calls : ∀ ds d, F ds = some d → ∀ (S : Nat → Prop) (vs : List Value) (w : World), (∀ k, S k → k < w.heap.size) → RepA S [] w vs ds →
    Calls P f vs.toArray w fun e w' => ∃ v, e = .returned v ∧ Rep (fun k => w.heap.size ≤ k ∧ k < w'.heap.size) [] w' v d ∧ Below w.heap.size w w'
def liftN (F : List D → Option D) (ds : List D) (H : Heap) : Option (D × Heap) :=
  match pureL ds with
  | true => (F ds).map fun d => (d, H)
  | false => (ds.mapM (derefN H 9)).bind fun ds' => (F ds').map fun d => (d, H)
theorem new_ok {P : Program} {f : FuncId} {F : List D → Option D} (h : CallNew P f F) : HCallOk P f (liftN F) := by
  refine ⟨h.body, fun ds H d H' hG B S L vs w hr hv => ?_⟩
  have fin : ∀ (S0 : Nat → Prop) (ds' : List D), (∀ k, S0 k → k < w.heap.size) → RepA S0 [] w vs ds' → (F ds').map (fun d => (d, H)) = some (d, H') → Calls P f vs.toArray w fun e w' => ∃ v S' L', e = .returned v ∧ Rep S' L' w' v d ∧ HRel B S' L' w' H' ∧ Later B S S' L L' w w' := by
    intro S0 ds' h0 hv' hF
    obtain ⟨d', hF', e⟩ := Option.map_eq_some_iff.1 hF
    cases e
    refine (h.calls ds' _ hF' S0 vs w h0 hv').mono ?_
    rintro e w' ⟨v, rfl, h1, h2⟩
    obtain ⟨h3, h4⟩ := hr.call h2
    exact ⟨v, _, L, rfl, Rep.kept (Kept.refl _ w') (fun k hk => .inr hk) (fun i p hi => by simp at hi) _ _ h1, h3, h4⟩
  unfold liftN at hG
  split at hG
  · rename_i hp
    exact fin S ds hr.small (pure_repL ds vs hp hv) hG
  · obtain ⟨ds', hds, hG⟩ := Option.bind_eq_some_iff.1 hG
    exact fin _ ds' (fun k hk => hk) (repA_mapM (fun d d' x h1 h2 => deref_ok hr 9 d d' x h1 h2) ds ds' vs hds hv) hG
theorem new_calm (F : List D → Option D) : CalmOk (liftN F) := by
  intro ds H d H' h
  cases hp : pureL ds with
  | true =>
    unfold liftN at h ⊢
    rw [hp] at h ⊢
    simp only at h ⊢
    obtain ⟨d', hF, e⟩ := Option.map_eq_some_iff.1 h
    cases e
    exact ⟨rfl, fun t => by rw [hF]; rfl, fun _ H2 => by rw [hF]; rfl⟩
  | false =>
    unfold liftN at h ⊢
    rw [hp] at h ⊢
    simp only at h ⊢
    obtain ⟨ds', hds, h⟩ := Option.bind_eq_some_iff.1 h
    obtain ⟨d', hF, e⟩ := Option.map_eq_some_iff.1 h
    cases e
    exact ⟨rfl, fun t => by rw [mapM_mono (deref_mono H t 9) ds ds' hds, Option.bind_some, hF]; rfl, fun h => by cases h⟩
theorem entry_new {P : Program} {f : FuncId} {F : List D → Option D} (h : CallNew P f F) : EntryOk P (f, true, liftN F) := ⟨new_ok h, fun _ => new_calm F⟩
theorem liftN_pure (F : List D → Option D) (ds : List D) (H : Heap) (h : pureL ds = true) : liftN F ds H = (F ds).map fun d => (d, H) := by unfold liftN; rw [h]
theorem liftN_obj (F : List D → Option D) (ds ds' : List D) (H : Heap) (h : pureL ds = false) (hd : ds.mapM (derefN H 9) = some ds') : liftN F ds H = (F ds').map fun d => (d, H) := by unfold liftN; rw [h]; simp only [hd]; rfl
end Go.Proofs.Ytalehbmgbjiigaa
end

section
namespace Go.Proofs.Ytalehbmgbjiigaa
open Go.RowKit
set_option linter.unusedVariables false
set_option linter.unusedSimpArgs false

abbrev By := List UInt8
def baOf (l : By) : ByteArray := ⟨l.toArray⟩
def sD (l : By) : D := .v (.string (baOf l))
def u64D (n : Int) : D := .v (.int .u64 n)
def u8D (b : UInt8) : D := .v (.int .u8 b.toNat)
theorem ba_size (l : By) : (baOf l).size = l.length := by simp [baOf, ByteArray.size]
theorem ba_app (a b : By) : baOf a ++ baOf b = baOf (a ++ b) := by
  apply ByteArray.ext; simp [baOf, ByteArray.data_append]
theorem ba_cut (l : By) (i j : Nat) : (baOf l).extract i j = baOf ((l.take j).drop i) := by
  apply ByteArray.ext; simp [baOf, ByteArray.data_extract, List.drop_take]
theorem ba_get (l : By) (i : Nat) : (baOf l)[i]? = l[i]? := by
  by_cases h : i < l.length
  · have h' : i < (baOf l).size := by rw [ba_size]; exact h
    rw [getElem?_pos _ i h', List.getElem?_eq_getElem h]
    rfl
  · have h' : ¬ i < (baOf l).size := by rw [ba_size]; exact h
    rw [getElem?_neg _ i h', List.getElem?_eq_none (by omega)]
theorem ba_loop (b : ByteArray) : ∀ (n i : Nat) (r : By), b.size = i + n → ByteArray.toList.loop b i r = r.reverse ++ b.data.toList.drop i
  | 0, i, r, h => by
    unfold ByteArray.toList.loop
    rw [if_neg (by omega), List.drop_of_length_le (by have : b.data.toList.length = b.size := rfl; omega), List.append_nil]
  | n + 1, i, r, h => by
    unfold ByteArray.toList.loop
    rw [if_pos (by omega), ba_loop b n (i + 1) _ (by omega)]
    have hl : i < b.data.toList.length := by have : b.data.toList.length = b.size := rfl; omega
    rw [List.drop_eq_getElem_cons hl]
    have : b.get! i = b.data.toList[i] := by
      show b.data[i]! = _
      rw [getElem!_pos b.data i (by simpa using hl)]; simp
    simp [this]
theorem ba_list (l : By) : (baOf l).toList = l := by
  unfold ByteArray.toList
  rw [ba_loop _ l.length 0 [] (by simp [baOf, ByteArray.size])]
  simp [baOf]
theorem ba_of (s : ByteArray) : baOf s.data.toList = s := by apply ByteArray.ext; simp [baOf]
theorem sD_inj {a b : By} (h : baOf a = baOf b) : a = b := by rw [← ba_list a, h, ba_list]

/- Operations. -/
@[simp] theorem str_len (l : By) : lenH .str (sD l) = some (iD l.length) := by
  show some (D.v (.int .i64 (baOf l).size)) = _
  rw [ba_size]
theorem str_add (a b : By) (h : a.length + b.length ≤ 1000000) : binK .str .add (sD a) (sD b) = some (sD (a ++ b)) := by
  show strD .add (baOf a) (baOf b) = _
  simp only [strD, ba_size]
  rw [if_pos (by omega), ba_app]; rfl
@[simp] theorem str_eq (a b : By) : binK .str .eql (sD a) (sD b) = some (bD (decide (a = b))) := by
  show strD .eql (baOf a) (baOf b) = _
  simp only [strD, ba_list]
  congr 2
  by_cases h : a = b <;> simp [h]
@[simp] theorem str_ne (a b : By) : binK .str .neq (sD a) (sD b) = some (bD (!decide (a = b))) := by
  show strD .neq (baOf a) (baOf b) = _
  simp only [strD, ba_list]
  congr 2
  by_cases h : a = b <;> simp [h]
theorem str_idx (l : By) (i : Nat) (h : i < l.length) : idxS (sD l) (iD i) = some (u8D l[i]) := by
  simp only [idxS, sD, strOf, Option.bind_some, natD_int]
  rw [if_pos (by omega), Option.bind_some, Int.toNat_natCast, ba_get, List.getElem?_eq_getElem h]; rfl
theorem str_cut (l : By) (a b : Nat) (h1 : a ≤ b) (h2 : b ≤ l.length) : cutS (sD l) (some (iD a)) (some (iD b)) = some (sD ((l.take b).drop a)) := by
  have e1 : lowD (some (iD a)) = some a := by simp [lowD]
  have e2 : highD (baOf l).size (some (iD b)) = some b := by simp [highD]
  simp only [cutS, sD, strOf, Option.bind_some]
  rw [e1, e2]
  simp only [ba_size]
  rw [if_pos ⟨h1, h2⟩, ba_cut]
/-- Bytes as cells. -/
def bytesC (l : By) : List D := l.map u8D
theorem bytesD_of (l : By) : bytesD (baOf l) = bytesC l := by simp [bytesD, bytesC, baOf, u8D]
theorem bytesC_len (l : By) : (bytesC l).length = l.length := by simp [bytesC]
theorem bytesC_ok (l : By) : (bytesC l).all cellOk = true := by
  induction l with
  | nil => rfl
  | cons x r ih => simp only [bytesC, List.map_cons, List.all_cons] at ih ⊢; rw [ih]; rfl
theorem bytes_back (l : By) : (bytesC l).mapM byteOfD = some l := by
  induction l with
  | nil => rfl
  | cons x r ih =>
    have e : bytesC (x :: r) = u8D x :: bytesC r := rfl
    have e1 : byteOfD (u8D x) = some x := by simp [byteOfD, u8D]
    rw [e, List.mapM_cons, e1, ih]; rfl
theorem bytesS_row (H : Heap) (id n : Nat) (t : TypeId) (l : By) (h : H[id]? = some (.cells t 1 (bytesC l))) (hn : n = l.length) : bytesS H (.hs id n) = some (sD l) := by
  subst hn
  have hs : srcH 1 H (.hs id l.length) = some (bytesC l) := by
    simp only [srcH, h]
    rw [if_pos ⟨trivial, by rw [bytesC_len]; omega⟩, List.take_of_length_le (by rw [bytesC_len]; omega)]
  unfold bytesS
  rw [hs, Option.bind_some, bytes_back]; rfl
theorem bytesS_nil (H : Heap) : bytesS H (.v (.slice none 0 0)) = some (sD []) := rfl

/- Numbers without a sign. -/
theorem u64_add (a b : Int) (h0 : 0 ≤ a + b) (h1 : a + b ≤ 18446744073709551615) : intD .add .u64 a b = some (u64D (a + b)) := by rw [intD, IntWalk.u64_in _ ⟨h0, h1⟩]; rfl
theorem u64_mul (a b : Int) (h0 : 0 ≤ a * b) (h1 : a * b ≤ 18446744073709551615) : intD .mul .u64 a b = some (u64D (a * b)) := by rw [intD, IntWalk.u64_in _ ⟨h0, h1⟩]; rfl
theorem u64_quo (a b : Int) (h0 : 0 ≤ a) (h1 : a ≤ 18446744073709551615) (hb : 1 ≤ b) : intD .quo .u64 a b = some (u64D (a / b)) := by
  rw [intD, if_neg (by omega), IntWalk.u64_quo _ _ ⟨h0, h1, hb⟩]; rfl
theorem u64_rem (a b : Int) (h0 : 0 ≤ a) (hb : 1 ≤ b) : intD .rem .u64 a b = some (u64D (a % b)) := by
  rw [intD, if_neg (by omega), Int.tmod_eq_emod_of_nonneg h0]; rfl
theorem u64_of (k : IntKind) (n : Int) (h0 : 0 ≤ n) (h1 : n ≤ 18446744073709551615) : intOf64 .u64 (.v (.int k n)) = some (u64D n) := by rw [intOf64, IntWalk.u64_in _ ⟨h0, h1⟩]; rfl
theorem i64_of (k : IntKind) (n : Int) (h0 : -9223372036854775808 ≤ n) (h1 : n ≤ 9223372036854775807) : intOf64 .i64 (.v (.int k n)) = some (iD n) := by rw [intOf64, wrap_in _ h0 h1]
/-- A number's lowest eight bits. -/
def b8 (n : Int) : UInt8 := UInt8.ofNat (n % 256).toNat
theorem u8_of (k : IntKind) (n : Int) : intOf64 .u8 (.v (.int k n)) = some (u8D (b8 n)) := by
  rw [intOf64, IntKind.wrap_u8]
  have h : ((b8 n).toNat : Int) = n % 256 := by
    have h1 : 0 ≤ n % 256 := Int.emod_nonneg _ (by omega)
    have h2 : n % 256 < 256 := Int.emod_lt_of_pos _ (by omega)
    simp only [b8, UInt8.toNat_ofNat']
    omega
  simp only [u8D, h]
theorem b8_toNat (n : Int) : ((b8 n).toNat : Int) = n % 256 := by
  have h1 : 0 ≤ n % 256 := Int.emod_nonneg _ (by omega)
  have h2 : n % 256 < 256 := Int.emod_lt_of_pos _ (by omega)
  simp only [b8, UInt8.toNat_ofNat']
  omega
theorem b8_back (b : UInt8) : b8 b.toNat = b := by
  apply UInt8.toNat_inj.1
  have := b8_toNat (b.toNat : Int)
  have hb := b.toNat_lt
  omega

/- How they are spelt. -/
def asStr : D → Option By
  | .v (.string s) => some s.data.toList
  | _ => none
def strT : Dec By := ⟨sD, asStr, fun l => by simp [asStr, sD, baOf], fun d a h => by
  unfold asStr at h
  split at h
  · cases h
    unfold sD
    rw [ba_of]
    exact Imp.refl _
  · cases h⟩
def asU64 : D → Option Int
  | .v (.int .u64 n) => some n
  | _ => none
def u64T : Dec Int := ⟨u64D, asU64, fun _ => rfl, fun d a h => by
  unfold asU64 at h
  split at h
  · cases h; exact Imp.refl _
  · cases h⟩
@[simp] theorem outD_str (l : By) (H : Heap) : outD (some (sD l, H)) = some (sD l) := outD_pure _ _ rfl
@[simp] theorem outD_u64 (n : Int) (H : Heap) : outD (some (u64D n, H)) = some (u64D n) := outD_pure _ _ rfl
@[simp] theorem wholeK_u64 {α : Type} (n : Int) (k : Option α) : wholeK (u64D n) k = k := wholeK_v _ k
@[simp] theorem wholeK_u8 {α : Type} (n : UInt8) (k : Option α) : wholeK (u8D n) k = k := wholeK_v _ k
@[simp] theorem cellOk_sD (l : By) : cellOk (sD l) = true := rfl
@[simp] theorem cellOk_u64D (n : Int) : cellOk (u64D n) = true := rfl
@[simp] theorem cellOk_u8D (n : UInt8) : cellOk (u8D n) = true := rfl
@[simp] theorem cells_agg (cs : List D) : cellsD (.agg cs) = some cs := rfl
@[simp] theorem cells_int (k : IntKind) (n : Int) : cellsD (.v (.int k n)) = some [.v (.int k n)] := rfl
@[simp] theorem cells_sD (l : By) : cellsD (sD l) = some [sD l] := rfl
@[simp] theorem cells_u64D (n : Int) : cellsD (u64D n) = some [u64D n] := rfl
@[simp] theorem cells_nodes (l : List Nd) : cellsD (nodesD l) = some [nodesD l] := rfl
@[simp] theorem cells_ints (l : List Int) : cellsD (intsD l) = some [intsD l] := rfl
@[simp] theorem cells_hs (i n : Nat) : cellsD (.hs i n) = some [.hs i n] := rfl
@[simp] theorem cells_hp (i n : Nat) : cellsD (.hp i n) = some [.hp i n] := rfl
@[simp] theorem cells_clo (f : Fn) (a b : List D) : cellsD (.clo f a b) = some [.clo f a b] := rfl
@[simp] theorem pure_sD (l : By) : pureD (sD l) = true := rfl
@[simp] theorem pure_u64D (n : Int) : pureD (u64D n) = true := rfl
@[simp] theorem pure_u8D (n : UInt8) : pureD (u8D n) = true := rfl
@[simp] theorem ext0 (a : D) (l : List D) : extractD (.tup (a :: l)) 0 = some a := rfl
@[simp] theorem ext1 (a b : D) (l : List D) : extractD (.tup (a :: b :: l)) 1 = some b := rfl
@[simp] theorem ext2 (a b c : D) (l : List D) : extractD (.tup (a :: b :: c :: l)) 2 = some c := rfl
@[simp] theorem nilD_hp (i o : Nat) : nilD (.hp i o) = some (.hp i o) := rfl
/- Objects that are surely the same. -/
theorem eqB_one (n : Int) : eqB (iD n) (iD n) = true := by simp [eqB, eqV]
theorem eqR_ints : ∀ l : List Int, eqR (l.map oneI) (l.map oneI) = true
  | [] => rfl
  | n :: r => by simp [eqR, eqR_ints r, oneI, eqL, eqB, eqV]
theorem eqR_nodes : ∀ l : List Nd, eqR (l.map nodeD) (l.map nodeD) = true
  | [] => rfl
  | n :: r => by simp [eqR, eqR_nodes r, nodeD, eqL, eqB, eqV]
@[simp] theorem eqB_int (k : IntKind) (n : Int) : eqB (.v (.int k n)) (.v (.int k n)) = true := by simp [eqB, eqV]
@[simp] theorem eqB_bool (b : Bool) : eqB (.v (.bool b)) (.v (.bool b)) = true := by simp [eqB, eqV]
@[simp] theorem eqB_sD (l : By) : eqB (sD l) (sD l) = true := by simp [sD, eqB, eqV]
@[simp] theorem eqB_ints (l : List Int) : eqB (intsD l) (intsD l) = true := by simp [intsD, eqB, eqR_ints]
@[simp] theorem eqB_nodes (l : List Nd) : eqB (nodesD l) (nodesD l) = true := by simp [nodesD, eqB, eqR_nodes]
@[simp] theorem eqB_hs (i n : Nat) : eqB (.hs i n) (.hs i n) = true := by simp [eqB]
@[simp] theorem eqB_hp (i n : Nat) : eqB (.hp i n) (.hp i n) = true := by simp [eqB]
@[simp] theorem eqB_nil : eqB (.v (.slice none 0 0)) (.v (.slice none 0 0)) = true := rfl
@[simp] theorem eqL_nil : eqL [] [] = true := rfl
@[simp] theorem eqL_cons (a b : D) (r s : List D) : eqL (a :: r) (b :: s) = (eqB a b && eqL r s) := by simp [eqL]
theorem sameO_hp {α : Type} (i o : Nat) (H H' : Heap) (t : TypeId) (sz : Nat) (cs : List D) (k : Option α) (h : H[i]? = some (.cells t sz cs)) (h' : H'[i]? = H[i]?) (hc : eqL cs cs = true) : sameO (.hp i o) (some H) (some H') k = k := by
  have : sameB i H H' = true := by unfold sameB; rw [h', h]; simp [hc]
  show sameK (.hp i o) H H' k = k
  show (match sameB i H H' with | true => k | false => none) = k
  rw [this]
/- Numbers without a sign, as they are spelt. -/
theorem fold_u64 (n : Int) : D.v (.int .u64 n) = u64D n := rfl
@[simp] theorem bin_u64_eql (k : Kd) (a b : Int) : binK k .eql (u64D a) (u64D b) = some (.v (.bool (a == b))) := binK_eql k .u64 a b
@[simp] theorem bin_u64_neq (k : Kd) (a b : Int) : binK k .neq (u64D a) (u64D b) = some (.v (.bool (a != b))) := binK_neq k .u64 a b
@[simp] theorem bin_u64_lss (k : Kd) (a b : Int) : binK k .lss (u64D a) (u64D b) = some (.v (.bool (decide (a < b)))) := binK_lss k .u64 a b
@[simp] theorem bin_u64_leq (k : Kd) (a b : Int) : binK k .leq (u64D a) (u64D b) = some (.v (.bool (decide (a ≤ b)))) := binK_leq k .u64 a b
@[simp] theorem bin_u64_gtr (k : Kd) (a b : Int) : binK k .gtr (u64D a) (u64D b) = some (.v (.bool (decide (b < a)))) := binK_gtr k .u64 a b
@[simp] theorem bin_u64_geq (k : Kd) (a b : Int) : binK k .geq (u64D a) (u64D b) = some (.v (.bool (decide (b ≤ a)))) := binK_geq k .u64 a b
@[simp] theorem bin_u64_add (k : Kd) (a b : Int) : binK k .add (u64D a) (u64D b) = intD .add .u64 a b := binK_int k .u64 a b
@[simp] theorem bin_u64_sub (k : Kd) (a b : Int) : binK k .sub (u64D a) (u64D b) = intD .sub .u64 a b := binK_sub k .u64 a b
@[simp] theorem bin_u64_mul (k : Kd) (a b : Int) : binK k .mul (u64D a) (u64D b) = intD .mul .u64 a b := binK_mul k .u64 a b
@[simp] theorem bin_u64_quo (k : Kd) (a b : Int) : binK k .quo (u64D a) (u64D b) = intD .quo .u64 a b := binK_quo k .u64 a b
@[simp] theorem bin_u64_rem (k : Kd) (a b : Int) : binK k .rem (u64D a) (u64D b) = intD .rem .u64 a b := binK_rem k .u64 a b
@[simp] theorem bin_u64_and (k : Kd) (a b : Int) : binK k .and (u64D a) (u64D b) = intD .and .u64 a b := binK_and k .u64 a b
@[simp] theorem bin_u64_or (k : Kd) (a b : Int) : binK k .or (u64D a) (u64D b) = intD .or .u64 a b := binK_or k .u64 a b
@[simp] theorem bin_u64_xor (k : Kd) (a b : Int) : binK k .xor (u64D a) (u64D b) = intD .xor .u64 a b := binK_xor k .u64 a b
@[simp] theorem cellOk_nilFunc : cellOk (D.v Value.nilFunc) = true := rfl
end Go.Proofs.Ytalehbmgbjiigaa
end

section
namespace Go.Proofs.Ytalehbmgbjiigaa
open Go.ChangeShapes Go.WideShapes Go.ChangeAt Go.RowKit Go.Deep Go.Joins Go.ChangeMaps
set_option linter.unusedVariables false
set_option maxRecDepth 100000

section
variable {H : Type} {enc : TypeId × Value → H} {W : World} {d : DataW H} {p : List MemPlace}
abbrev goInt (n : Int) : Prop := -9223372036854775808 ≤ n ∧ n ≤ 9223372036854775807
theorem wf_int {n : Int} (h : (Lit.int .i64 n).wf = true) : goInt n := by
  have e1 : IntKind.i64.min = -9223372036854775808 := by decide
  have e2 : IntKind.i64.max = 9223372036854775807 := by decide
  simp only [Lit.wf, Bool.and_eq_true, decide_eq_true_eq, e1, e2] at h
  exact h
theorem intsR_of {v : Value} {n0 : Nat} {y : DataW H × List MemPlace} (hf : DataW.trod enc Try.prog W 0 (fun _ => true) true n0 22 [v] = some y) : ∃ l, IntsAt W v l ∧ ∀ n ∈ l, goInt n := by
  rcases open_ints Try.underlying22 Try.underlying3 (by kernel_rfl) hf with ⟨hcs, _⟩ | ⟨x, len, cap, zs, hcs, _, hl, hm, hz, _, hcell, hwz⟩
  · simp only [List.cons.injEq, and_true] at hcs
    subst hcs
    exact ⟨[], .inl ⟨none, 0, rfl, rfl, rfl, fun _ => rfl⟩, by simp⟩
  · simp only [List.cons.injEq, and_true] at hcs
    subst hcs
    have hz' : zs.length = cap := by simpa using hz
    refine ⟨zs.take len, ?_, fun n hn => wf_int (hwz n (List.mem_of_mem_take hn))⟩
    have hlen : (zs.take len).length = len := by rw [List.length_take]; omega
    by_cases h0 : len = 0
    · subst h0; exact .inl ⟨_, cap, rfl, hlen, by simp, fun h => by cases h⟩
    · obtain ⟨b, off, rfl, hc⟩ := ints_at hcell (by omega)
      refine .inr ⟨b, off, cap, by rw [hlen], by omega, by omega, ?_, fun j hj => ?_⟩
      · exact block_lt (hc 0 (by omega))
      · have hj' : j < len := by rw [List.length_map, hlen] at hj; exact hj
        have hjz : j < zs.length := by omega
        rw [hc j hjz, List.getElem?_map, List.getElem?_take_of_lt hj', List.getElem?_eq_getElem hjz]
        simp [hjz]

theorem nodesR_of {v : Value} {n0 : Nat} {y : DataW H × List MemPlace} (hf : DataW.trod enc Try.prog W 0 (fun _ => true) true n0 23 [v] = some y) : ∃ l, NodesAt W v l ∧ ∀ n ∈ l, goInt n.1 ∧ goInt n.2 := by
  rcases open_slice_pairs Try.underlying23 Try.underlying46 (by kernel_rfl) rfl rfl (by kernel_rfl) (by kernel_rfl) hf with ⟨hcs, _⟩ | ⟨x, len, cap, m, n, V0, V1, D0, D1, P0, P1, hcs, _, hl, hm, hmm, _, hx⟩
  · simp only [List.cons.injEq, and_true] at hcs
    subst hcs
    exact ⟨[], .inl ⟨none, 0, rfl, rfl, rfl, fun _ => rfl⟩, by simp⟩
  · simp only [List.cons.injEq, and_true] at hcs
    subst hcs
    have hm' : m = cap := by simpa using hmm
    subst hm'
    have hnum : ∀ i, i < m → ∃ t z : Int, V0 i = .int .i64 t ∧ V1 i = .int .i64 z ∧ goInt t ∧ goInt z := fun i hi => by
      obtain ⟨_, _, h0, h1⟩ := hx i hi
      obtain ⟨t, e0, _, w0⟩ := DataW.trod_int Try.underlying3 h0
      obtain ⟨z, e1, _, w1⟩ := DataW.trod_int Try.underlying3 h1
      exact ⟨t, z, by simpa using e0, by simpa using e1, wf_int w0, wf_int w1⟩
    let f : Nat → Nd := fun i => (match V0 i with | .int _ t => t | _ => 0, match V1 i with | .int _ z => z | _ => 0)
    have hf0 : ∀ i, i < m → V0 i = .int .i64 (f i).1 ∧ V1 i = .int .i64 (f i).2 ∧ goInt (f i).1 ∧ goInt (f i).2 := fun i hi => by
      obtain ⟨t, z, e0, e1, w0, w1⟩ := hnum i hi
      simp only [f, e0, e1]; exact ⟨trivial, trivial, w0, w1⟩
    refine ⟨(List.range len).map f, ?_, fun n hn => by
      obtain ⟨i, hi, rfl⟩ := List.mem_map.1 hn
      exact (hf0 i (by have := List.mem_range.1 hi; omega)).2.2⟩
    have hlen : ((List.range len).map f).length = len := by simp
    by_cases h0 : len = 0
    · subst h0; exact .inl ⟨_, m, rfl, by simp, by simp [nodeCells], fun h => by cases h⟩
    · have hc0 := (hx 0 (by omega)).1
      have hsp := spot_none hc0
      obtain ⟨b, off, sp⟩ := x
      have hsp' : sp = none := by simpa [Addr.add] using hsp
      subst hsp'
      have hblt : b < W.heap.size := by have := block_lt hc0; rwa [addr_addA] at this
      refine .inr ⟨b, off, m, by rw [hlen], by omega, by omega, hblt, fun j hj => ?_⟩
      rw [nodeCells_length, hlen] at hj
      obtain ⟨q, hq⟩ : ∃ q, j = 2 * q ∨ j = 2 * q + 1 := ⟨j / 2, by omega⟩
      have hqm : q < m := by omega
      have hql : q < ((List.range len).map f).length := by rw [hlen]; omega
      obtain ⟨g1, g2, _⟩ := hx q hqm
      obtain ⟨e0, e1, _⟩ := hf0 q hqm
      rw [addr_addA] at g1 g2
      rcases hq with rfl | rfl
      · rw [nodeCells_get0 _ q hql, show off + 2 * q = off + q * 2 from by omega, g1, e0]; simp
      · rw [nodeCells_get1 _ q hql, show off + (2 * q + 1) = off + (q * 2 + 1) from by omega, g2, e1]; simp

/-- A program of Go's numbers. -/
def pgGo (x : Pg) : Prop := goInt x.params ∧ (∀ n ∈ x.vars, goInt n) ∧ ∀ n ∈ x.body, goInt n.1 ∧ goInt n.2
theorem arg_progR {base : Nat} {v : Value} (hv : Value.okWide Try.prog W .any base 25 v) (h : DataW.Trod enc Try.prog W 0 (fun _ => true) true 25 v d p) : ∃ x : Pg, Rep (· < W.heap.size) [] W v (progD x) ∧ pgGo x := by
  obtain ⟨v0, v1, v2, y0, y1, y2, n, rfl, _, _, h0, h1, h2⟩ := open_agg3 Try.underlying25 (by kernel_rfl) (by kernel_rfl) hv h
  obtain ⟨t, e0, _, i0⟩ := DataW.trod_int Try.underlying3 h0
  obtain ⟨l1, w1, i1⟩ := intsR_of h1
  obtain ⟨l2, w2, i2⟩ := nodesR_of h2
  simp at e0
  refine ⟨⟨t, l1, l2⟩, ?_, wf_int i0, i1, i2⟩
  simp only [progD, progC, Rep]
  exact ⟨[v0, v1, v2], rfl, RepA.cons (by rw [e0]; exact rep_int t) (RepA.cons (intsD_rep w1) (RepA.cons (nodesD_rep w2) RepA.nil))⟩
theorem arg_str {base : Nat} {v : Value} (hv : Value.okWide Try.prog W .any base 9 v) (h : DataW.Trod enc Try.prog W 0 (fun _ => true) true 9 v d p) : ∃ x : By, v = .string (baOf x) := by
  obtain ⟨s, rfl, _, _, _⟩ := open_string Try.underlying9 hv h
  exact ⟨s.data.toList, by rw [ba_of]⟩
end
end Go.Proofs.Ytalehbmgbjiigaa
end

section
namespace Go.Proofs.Ytalehbmgbjiigaa
open Go.RowKit
set_option linter.unusedVariables false
set_option linter.unusedSimpArgs false

theorem N_Part : CallNew Try.prog 36 F_Part := by
  refine ⟨⟨_, Try.func36, by decide, rfl⟩, fun ds d hF S vs W hS hv => ?_⟩
  unfold F_Part at hF
  split at hF
  · rename_i x0 x1
    rcases hd0 : asNodes x0 with _ | l
    · rw [hd0] at hF; cases hF
    rw [hd0, Option.bind_some] at hF
    rcases hd1 : asInt x1 with _ | i
    · rw [hd1] at hF; cases hF
    rw [hd1, Option.bind_some] at hF
    split at hF
    rotate_left
    · cases hF
    rename_i G
    cases hF
    simp only [RepA] at hv
    obtain ⟨v_l, t0, rfl, r0, ⟨v_i, t1, rfl, r1, rfl⟩⟩ := hv
    have h_l := (asNodes_ok hd0 r0).mono hS
    obtain rfl := asInt_ok hd1 r1
    refine (Part_any l i v_l W h_l (by omega)).mono ?_
    rintro e w1 ⟨u, rfl, hu, hb⟩
    exact ⟨u, rfl, nodesD_rep hu, hb⟩
  · cases hF

theorem N_Kids : CallNew Try.prog 69 F_Kids := by
  refine ⟨⟨_, Try.func69, by decide, rfl⟩, fun ds d hF S vs W hS hv => ?_⟩
  unfold F_Kids at hF
  split at hF
  · rename_i x0 x1
    rcases hd0 : asNodes x0 with _ | l
    · rw [hd0] at hF; cases hF
    rw [hd0, Option.bind_some] at hF
    rcases hd1 : asInt x1 with _ | i
    · rw [hd1] at hF; cases hF
    rw [hd1, Option.bind_some] at hF
    split at hF
    rotate_left
    · cases hF
    rename_i G
    cases hF
    simp only [RepA] at hv
    obtain ⟨v_l, t0, rfl, r0, ⟨v_i, t1, rfl, r1, rfl⟩⟩ := hv
    have h_l := (asNodes_ok hd0 r0).mono hS
    obtain rfl := asInt_ok hd1 r1
    refine (Kids_any l i v_l W h_l (by omega)).mono ?_
    rintro e w1 ⟨u, rfl, hu, hb⟩
    exact ⟨u, rfl, intsD_rep hu, hb⟩
  · cases hF
theorem N_Replace : CallNew Try.prog 88 F_Replace := by
  refine ⟨⟨_, Try.func88, by decide, rfl⟩, fun ds d hF S vs W hS hv => ?_⟩
  unfold F_Replace at hF
  split at hF
  · rename_i x0 x1 x2
    rcases hd0 : asNodes x0 with _ | l
    · rw [hd0] at hF; cases hF
    rw [hd0, Option.bind_some] at hF
    rcases hd1 : asInt x1 with _ | i
    · rw [hd1] at hF; cases hF
    rw [hd1, Option.bind_some] at hF
    rcases hd2 : asNodes x2 with _ | r
    · rw [hd2] at hF; cases hF
    rw [hd2, Option.bind_some] at hF
    split at hF
    rotate_left
    · cases hF
    rename_i G
    cases hF
    simp only [RepA] at hv
    obtain ⟨v_l, t0, rfl, r0, ⟨v_i, t1, rfl, r1, ⟨v_r, t2, rfl, r2, rfl⟩⟩⟩ := hv
    have h_l := (asNodes_ok hd0 r0).mono hS
    obtain rfl := asInt_ok hd1 r1
    have h_r := (asNodes_ok hd2 r2).mono hS
    refine (Replace_any l r i v_l v_r W h_l h_r (by omega) (by omega)).mono ?_
    rintro e w1 ⟨u, rfl, hu, hb⟩
    exact ⟨u, rfl, nodesD_rep hu, hb⟩
  · cases hF
end Go.Proofs.Ytalehbmgbjiigaa
end

section
namespace Go.Proofs.Ytalehbmgbjiigaa

/-- The node at i, and all below it, with their paths; f: how deep one looks. -/
def pathsV : Nat → List Nd → Int → List Int → List (Int × List Int)
  | 0, _, i, own => [(i, own)]
  | f + 1, l, i, own => (i, own) :: (kidsv l i).zipIdx.flatMap fun x => pathsV f l x.1 (own ++ [(x.2 : Int)])

/-- The first c kids' parts. -/
def pathsTo (f : Nat) (l : List Nd) (i : Int) (own : List Int) (c : Nat) : List (Int × List Int) := ((kidsv l i).zipIdx.take c).flatMap fun x => pathsV f l x.1 (own ++ [(x.2 : Int)])

theorem pathsTo_zero (f : Nat) (l : List Nd) (i : Int) (own : List Int) : pathsTo f l i own 0 = [] := rfl
theorem pathsTo_succ (f : Nat) (l : List Nd) (i : Int) (own : List Int) (c : Nat) (h : c < (kidsv l i).length) :
    pathsTo f l i own (c + 1) = pathsTo f l i own c ++ pathsV f l (kidsv l i)[c] (own ++ [(c : Int)]) := by
  unfold pathsTo
  rw [List.take_succ_eq_append_getElem (by simpa using h), List.flatMap_append]
  simp
theorem pathsTo_all (f : Nat) (l : List Nd) (i : Int) (own : List Int) : (i, own) :: pathsTo f l i own (kidsv l i).length = pathsV (f + 1) l i own := by
  rw [pathsV, pathsTo, List.take_of_length_le (by simp)]
theorem pathsTo_prefix (f : Nat) (l : List Nd) (i : Int) (own : List Int) (c : Nat) : (i, own) :: pathsTo f l i own c <+: pathsV (f + 1) l i own := by
  rw [pathsV]
  refine List.cons_prefix_cons.2 ⟨rfl, ?_⟩
  unfold pathsTo
  have h := List.take_append_drop c (kidsv l i).zipIdx
  conv => rhs; rw [← h, List.flatMap_append]
  exact List.prefix_append _ _
theorem pathsTo_prefix2 (f : Nat) (l : List Nd) (i : Int) (own : List Int) (c : Nat) (h : c < (kidsv l i).length) (q : List (Int × List Int)) (hq : q <+: pathsV f l (kidsv l i)[c] (own ++ [(c : Int)])) :
    (i, own) :: pathsTo f l i own c ++ q <+: pathsV (f + 1) l i own := by
  refine List.IsPrefix.trans ?_ (pathsTo_prefix f l i own (c + 1))
  rw [pathsTo_succ f l i own c h]
  obtain ⟨r, hr⟩ := hq
  exact ⟨r, by rw [← hr]; simp⟩
theorem pathsV_pos (f : Nat) (l : List Nd) (i : Int) (own : List Int) : 0 < (pathsV f l i own).length := by cases f <;> simp [pathsV]
/-- Beyond the nodes there are none. -/
theorem pathsV_out (f : Nat) (l : List Nd) (i : Int) (own : List Int) (h : (l.length : Int) ≤ i) : pathsV f l i own = [(i, own)] := by
  cases f with
  | zero => rfl
  | succ f =>
    have : kidsv l i = [] := kidsv_no l i (by rcases endv_bound l i with h1 | h1; · omega
                                              · have := (endv_in l i h1).2; omega)
    rw [pathsV, this]; rfl
end Go.Proofs.Ytalehbmgbjiigaa
end

section
namespace Go.Proofs.Ytalehbmgbjiigaa
open Go.RowKit Go.Shelf
set_option linter.unusedVariables false
attribute [local go_sem] Oper.semAt_some

set_option maxHeartbeats 1000000 in
/-- slices.Clone of ints: a row of the call's own. -/
theorem Clone_any (l : List Int) (v : Value) (w : World) (S : Nat → Prop) (hS : ∀ k, S k → k < w.heap.size) (hv : IntsIn S w v l) (hl : l.length ≤ 4000000) :
    Calls Try.prog 48 #[v] w fun e w' => ∃ u, e = .returned u ∧ w'.ownsRow w.heap.size 3 1 u l.length (l.map (Value.int .i64)) ∧ Below w.heap.size w w' := by
  obtain ⟨i0, hi, hz0, hz1, hz2⟩ := info_parts infoInt
  have qT : ∀ (w : World) (a : Option Addr) (n c n' c' : Nat), (binOp .eql 22 (.slice a n c) (.slice none n' c')).run Try.prog w = .ok (.bool a.isNone) w := fun w a n c n' c' => Lib.run_eql_slice_nil w _ _ a n c n' c' Try.underlying22
  obtain ⟨p, cap, hpc⟩ := hv.slice
  subst hpc
  cases p with
  | none =>
    have hl0 : l = [] := by
      rcases hv.open with ⟨rfl, _⟩ | ⟨b, o, cap', hsl, _⟩
      · rfl
      · cases hsl
    subst hl0
    go_enter Try.func48, Try.ntmps48
    go_wp2
    go_ret
    exact ⟨_, rfl, World.ownsRow_nil _ _ _ _, Below.refl _ _⟩
  | some ad =>
    go_enter Try.func48, Try.ntmps48
    have hv2 := hv.kept (kept_of (below_alloc1 w (.cells #[] 3)) hS)
    go_wp2_with (at_builtin; refine wpList_append_in rfl _ _ 22 rfl w.heap.size 3 i0 (.int .i64 0) 1 8 Try.underlying22 hi hz0 hz1 hz2 rfl (by decide) _ _ _ rfl (ownsRow_empty w w.heap.size 3 1 (Nat.le_refl _)) _ l.length _ rfl hv2 (by simp) (ints_one l) (by unfold maxLen; omega) (by omega) (by simp) ?_; intro v' w3 hown' hgrow)
    go_ret
    refine ⟨_, rfl, by simpa using hown', ((Below.refl _ _).alloc (Nat.le_refl _) _).grown hgrow (by simp) (fun j hj => ?_)⟩
    exact ((ownsRow_empty w w.heap.size 3 1 (Nat.le_refl _)).lt j hj).1

/-- Three new blocks of one cell. -/
theorem cells_three (w : World) (a b c : Value) (ta tb tc : TypeId) :
    (((w.alloc (.cells #[a] ta)).alloc (.cells #[b] tb)).alloc (.cells #[c] tc)).cell? ⟨w.heap.size, 0, none⟩ = some a ∧
    (((w.alloc (.cells #[a] ta)).alloc (.cells #[b] tb)).alloc (.cells #[c] tc)).cell? ⟨w.heap.size + 1, 0, none⟩ = some b ∧
    (((w.alloc (.cells #[a] ta)).alloc (.cells #[b] tb)).alloc (.cells #[c] tc)).cell? ⟨w.heap.size + 1 + 1, 0, none⟩ = some c := by
  have h1 := Boxed.new w ta a
  have h2 := Boxed.new (w.alloc (.cells #[a] ta)) tb b
  have h3 := Boxed.new ((w.alloc (.cells #[a] ta)).alloc (.cells #[b] tb)) tc c
  rw [World.size_alloc] at h2
  rw [World.size_alloc, World.size_alloc] at h3
  exact ⟨((h1.alloc _).alloc _).cell, (h2.alloc _).cell, h3.cell⟩

/-- Some slice. -/
def IsSlice (v : Value) : Prop := ∃ (p : Option Addr) (n c : Nat), v = .slice p n c
theorem IntsIn.isSlice {S : Nat → Prop} {w : World} {v : Value} {l : List Int} (h : IntsIn S w v l) : IsSlice v := by obtain ⟨p, c, h⟩ := h.slice; exact ⟨_, _, _, h⟩
theorem NodesIn.isSlice {S : Nat → Prop} {w : World} {v : Value} {l : List Nd} (h : NodesIn S w v l) : IsSlice v := by obtain ⟨p, c, h⟩ := h.slice; exact ⟨_, _, _, h⟩

/-- One element that paths hands out: a node, the slice value of its path, its path. -/
abbrev Step := Int × Value × List Int
def stepVals (x : Step) : Array Value := #[.int .i64 x.1, x.2.1]
def stepOf (x : Step) : Int × List Int := (x.1, x.2.2)
/-- How an element reads, but in the blocks of X. -/
def StepIn (X : Nat → Prop) (x : Step) (W : World) : Prop := IntsIn (fun k => ¬ X k ∧ k < W.heap.size) W x.2.1 x.2.2
/-- What has come: all; or a part. -/
def stepsR (ys : List (Int × List Int)) (xs : List Step) (b : Bool) : Prop := if b = true then xs.map stepOf = ys else xs.map stepOf <+: ys

theorem ownsRow_base {w : World} {base base' : Nat} {e : TypeId} {size : Nat} {v : Value} {n : Nat} {xs : List Value} (h : w.ownsRow base e size v n xs) (hb : base' ≤ base) : w.ownsRow base' e size v n xs := by
  refine ⟨h.1, ?_⟩
  rcases h.2 with h2 | ⟨g, cap, cur, h1, h2, h3⟩
  · exact .inl h2
  · exact .inr ⟨g, cap, cur, h1, Nat.le_trans hb h2, h3⟩
theorem intsIn_new {B : Nat} {w w' : World} {v : Value} {l : List Int} (h : IntsIn (fun k => B ≤ k ∧ k < w.heap.size) w v l) (hb : Below w.heap.size w w') : IntsIn (fun k => B ≤ k ∧ k < w'.heap.size) w' v l :=
  (IntsIn.kept h (kept_of hb (fun k hk => hk.2))).mono (fun k hk => ⟨hk.1, Nat.lt_of_lt_of_le hk.2 hb.size⟩)
/-- One append, carried out. -/
theorem wpIn_append {F : Fence} {n : Nat} {P : Program} {o : Oper} {a : Act} {w w' : World} {K : Act → World → Prop} {Q : Exit → Act → World → Prop} {s x : Operand} {t : TypeId} {v u v' : Value}
    (hop : o.op = Op.call { callee := Callee.builtin Builtin.append, args := #[s, x], argTypes := #[t, t] }) (hrun : (Builtin.append_ #[t, t] o.type #[v, u]).run P w = .ok v' w') (hs : a.eval s = v) (hx : a.eval x = u) (hK : K (a.put o.dst v') w') : o.wpIn F n P a w K Q := by
  unfold Oper.wpIn
  refine ⟨?_, ?_⟩
  · simp [Oper.about, hop, resolve, Target.leads, Sem.run_pure]
  · rw [Oper.semAt_plain F _ _ (by rw [hop]; intro c hc'; cases hc')]
    simp [execOp, hop, resolve, invoke, builtin, hs, hx, hrun, Result.andThen]
    exact hK

end Go.Proofs.Ytalehbmgbjiigaa
end

section
namespace Go.Proofs.Ytalehbmgbjiigaa

/-- How two numbers stand. -/
def cmpI (x y : Int) : Int := if x < y then -1 else if y < x then 1 else 0
/-- How two paths stand. -/
def cmpL : List Int → List Int → Int
  | [], [] => 0
  | [], _ :: _ => -1
  | _ :: _, [] => 1
  | x :: a, y :: b => if x < y then -1 else if y < x then 1 else cmpL a b

theorem cmpL_drop (a b : List Int) (k : Nat) (h1 : k < a.length) (h2 : k < b.length) (h : a[k] = b[k]) : cmpL (a.drop k) (b.drop k) = cmpL (a.drop (k + 1)) (b.drop (k + 1)) := by
  rw [List.drop_eq_getElem_cons h1, List.drop_eq_getElem_cons h2, cmpL, h, if_neg (by omega), if_neg (by omega)]
theorem cmpL_apart (a b : List Int) (k : Nat) (h1 : k < a.length) (h2 : k < b.length) (h : a[k] ≠ b[k]) : cmpL (a.drop k) (b.drop k) = cmpI a[k] b[k] := by
  rw [List.drop_eq_getElem_cons h1, List.drop_eq_getElem_cons h2, cmpL, cmpI]
  split
  · rfl
  · rw [if_pos (by omega), if_pos (by omega)]
theorem cmpL_end (a b : List Int) (k : Nat) (h1 : k ≤ a.length) (h2 : k ≤ b.length) (h : k = a.length ∨ k = b.length) : cmpL (a.drop k) (b.drop k) = cmpI a.length b.length := by
  rcases h with rfl | rfl
  · rw [List.drop_length]
    by_cases h3 : b.length = a.length
    · rw [← h3, List.drop_length]; simp [cmpL, cmpI]
    · rw [List.drop_eq_getElem_cons (by omega), cmpL, cmpI, if_pos (by omega)]
  · rw [List.drop_length]
    by_cases h3 : b.length = a.length
    · rw [h3, List.drop_length]; simp [cmpL, cmpI]
    · rw [List.drop_eq_getElem_cons (by omega), cmpL, cmpI, if_neg (by omega), if_pos (by omega)]


/-- Down from the node at i. -/
def downV (l : List Nd) : Int → List Int → Int
  | i, [] => i
  | i, n :: r => if 0 ≤ n ∧ n.toNat < (kidsv l i).length then downV l ((kidsv l i).getD n.toNat 0) r else -1
/-- The node of a path; -1: none. -/
def findv (l : List Nd) (p : List Int) : Int := if endv l 0 = l.length then downV l 0 p else -1

theorem downV_in (l : List Nd) (i : Int) (n : Int) (r : List Int) (j : Nat) (hn : n = j) (hj : j < (kidsv l i).length) : downV l i (n :: r) = downV l (kidsv l i)[j] r := by
  subst hn
  rw [downV, if_pos ⟨by omega, by simpa using hj⟩]
  simp [hj]
theorem downV_out (l : List Nd) (i : Int) (n : Int) (r : List Int) (h : ¬ (0 ≤ n ∧ n.toNat < (kidsv l i).length)) : downV l i (n :: r) = -1 := by rw [downV, if_neg h]

/-- A node's path: the first one that one comes to. -/
def ofv (l : List Nd) (i : Int) : Option (List Int) := if endv l 0 = l.length then ((pathsV (l.length + 1) l 0 []).find? fun x => x.1 == i).map (·.2) else none

theorem ofv_no (l : List Nd) (i : Int) (h : endv l 0 ≠ l.length) : ofv l i = none := by rw [ofv, if_neg h]

theorem cmpL_swap : ∀ a b : List Int, cmpL b a = - cmpL a b
  | [], [] => rfl
  | [], _ :: _ => rfl
  | _ :: _, [] => rfl
  | x :: a, y :: b => by
    have := cmpL_swap a b
    simp only [cmpL]
    rcases Int.lt_trichotomy x y with h | h | h
    · rw [if_pos h, if_neg (by omega), if_pos h]; rfl
    · rw [if_neg (by omega), if_neg (by omega), if_neg (by omega), if_neg (by omega)]; exact this
    · rw [if_pos h, if_neg (by omega), if_pos h]
theorem cmpL_zero : ∀ a b : List Int, cmpL a b = 0 ↔ a = b
  | [], [] => by simp [cmpL]
  | [], _ :: _ => by simp [cmpL]
  | _ :: _, [] => by simp [cmpL]
  | x :: a, y :: b => by
    have := cmpL_zero a b
    simp only [cmpL, List.cons.injEq]
    rcases Int.lt_trichotomy x y with h | h | h
    · rw [if_pos h]; exact ⟨fun h' => by omega, fun h' => by omega⟩
    · rw [if_neg (by omega), if_neg (by omega), this]; exact ⟨fun h' => ⟨h, h'⟩, fun h' => h'.2⟩
    · rw [if_neg (by omega), if_pos h]; exact ⟨fun h' => by omega, fun h' => by omega⟩
theorem cmpL_trans : ∀ a b c : List Int, cmpL a b ≤ 0 → cmpL b c ≤ 0 → cmpL a c ≤ 0
  | [], _, [], _, _ => by simp [cmpL]
  | [], _, _ :: _, _, _ => by simp [cmpL]
  | _ :: _, [], _, h, _ => by simp [cmpL] at h
  | _ :: _, _ :: _, [], _, h => by simp [cmpL] at h
  | x :: a, y :: b, z :: c, h1, h2 => by
    have ih := cmpL_trans a b c
    simp only [cmpL] at h1 h2 ⊢
    repeat' split at h1
    all_goals repeat' split at h2
    all_goals repeat' split
    all_goals first | omega | exact ih h1 h2

theorem cmpL_bd : ∀ a b : List Int, -1 ≤ cmpL a b ∧ cmpL a b ≤ 1
  | [], [] => by simp [cmpL]
  | [], _ :: _ => by simp [cmpL]
  | _ :: _, [] => by simp [cmpL]
  | x :: a, y :: b => by
    have := cmpL_bd a b
    simp only [cmpL]
    repeat' split
    all_goals omega
end Go.Proofs.Ytalehbmgbjiigaa
end

section
namespace Go.Proofs.Ytalehbmgbjiigaa
open Go.RowKit

set_option maxHeartbeats 2000000 in
theorem Find_any (l : List Nd) (p : List Int) (v u : Value) (w : World) (hv : NodesAt w v l) (hu : IntsAt w u p) (hl : l.length ≤ 4000000) (hp : p.length ≤ 4000000) :
    Calls Try.prog 27 #[v, u] w fun e w' => e = .returned (.int .i64 (findv l p)) ∧ Below w.heap.size w w' := by
  obtain ⟨pu, cu, hus⟩ := hu.slice
  subst hus
  obtain ⟨pv, cv, hvs⟩ := hv.slice
  subst hvs
  by_cases hE : endv l 0 = l.length
  · have hE' : (endv l 0 != (l.length : Int)) = false := by simp [hE]
    have HF : Hid (findv l p = downV l 0 p) := Lib.hid (by rw [findv, if_pos hE])
    clear hE
    go_enter Try.func27, Try.ntmps27
    go_wp2
    go_step3
    go_wp2_with (go_at_call 28; refine (End_any l _ _ _ hv hl).mono ?_; rintro e w1 ⟨rfl, hb1⟩)
    go_step3
    go_wp2
    go_loopw [5, 16] (fun x i wr => ∃ (k : Nat) (z : Int), i = .int .i64 k ∧ x = .int .i64 z ∧ k ≤ p.length ∧ Hid (downV l 0 p = downV l z (p.drop k)) ∧ Below w.heap.size w wr) (fun _ i _ => p.length - (intOf i).toNat)
    case atStart => exact ⟨0, 0, rfl, rfl, Nat.zero_le _, Lib.hid rfl, hb1⟩
    case round =>
      obtain ⟨k, z, rfl, rfl, hk, ht, hB⟩ := hrel
      by_cases hlt : k < p.length
      · rcases hu.open with ⟨rfl, _⟩ | ⟨b1, o1, c1, hs1, hp1, hc1, hbb1, hx1⟩
        · simp at hlt
        obtain ⟨rfl, rfl⟩ : pu = some ⟨b1, o1, none⟩ ∧ cu = c1 := by simpa using hs1
        have g1 := (hB.cell (p := ⟨b1, o1 + k, none⟩) hbb1).trans (hx1 k hlt)
        clear hx1 hs1
        have hsz := hB.size
        have hvr := NodesIn.below hv hB
        have hpk := Lib.hid (List.drop_eq_getElem_cons hlt)
        have hkl := kidsv_len l z
        by_cases hn : 0 ≤ p[k] ∧ p[k].toNat < (kidsv l z).length
        · obtain ⟨j, hj⟩ := Int.eq_ofNat_of_zero_le hn.1
          have hjl : j < (kidsv l z).length := by omega
          have HJ := Lib.hid hj
          have hn1 : ¬ p[k] < 0 := by omega
          have hn2 : ¬ ((kidsv l z).length : Int) ≤ p[k] := by omega
          have hdn := Lib.hid (downV_in l z p[k] (p.drop (k + 1)) j hj hjl)
          clear hn
          rw [hj] at g1 hn1 hn2
          clear hj
          go_wp2_with (go_at_call 69; refine (Kids_any l _ _ _ hvr hl).mono ?_; rintro e w2 ⟨q, rfl, hq, hb2⟩; (rcases hq.open with ⟨h0, _⟩ | ⟨bq, oq, cq, hqs, hqp, hqc, hqb, hqx⟩; (exfalso; rw [h0] at hjl; simp at hjl)); have gq := hqx j hjl; clear hqx; subst hqs)
          go_roundw
          case rel => exact ⟨k + 1, (kidsv l z)[j], by go_num, rfl, by omega, Lib.hid (by rw [ht.out, hpk.out, hdn.out]), hB.trans (hb2.mono hsz)⟩
          case measure => simp [intOf]; omega
        · have hdn := Lib.hid (downV_out l z p[k] (p.drop (k + 1)) hn)
          by_cases hn1 : p[k] < 0
          · clear hn
            go_wp2_with (go_at_call 69; refine (Kids_any l _ _ _ hvr hl).mono ?_; rintro e w2 ⟨q, rfl, hq, hb2⟩; obtain ⟨pq, cq, hqs⟩ := hq.slice; subst hqs)
            rw [Exit.noGoto_ret]
            go_ret
            exact ⟨ret_int (by rw [HF.out, ht.out, hpk.out, hdn.out]), hB.trans (hb2.mono hsz)⟩
          · have hn2 : ((kidsv l z).length : Int) ≤ p[k] := by omega
            clear hn
            go_wp2_with (go_at_call 69; refine (Kids_any l _ _ _ hvr hl).mono ?_; rintro e w2 ⟨q, rfl, hq, hb2⟩; obtain ⟨pq, cq, hqs⟩ := hq.slice; subst hqs)
            rw [Exit.noGoto_ret]
            go_ret
            exact ⟨ret_int (by rw [HF.out, ht.out, hpk.out, hdn.out]), hB.trans (hb2.mono hsz)⟩
      · go_wp2
        rw [Exit.noGoto_ret]
        go_ret
        exact ⟨ret_int (by rw [HF.out, ht.out, List.drop_of_length_le (by omega)]; rfl), hB⟩
  · have hE' : (endv l 0 != (l.length : Int)) = true := by simp [hE]
    have HF : Hid (findv l p = -1) := Lib.hid (by rw [findv, if_neg hE])
    clear hE
    go_enter Try.func27, Try.ntmps27
    go_wp2
    go_step3
    go_wp2_with (go_at_call 28; refine (End_any l _ _ _ hv hl).mono ?_; rintro e w1 ⟨rfl, hb1⟩)
    rw [Exit.noGoto_ret]
    go_ret
    exact ⟨ret_int HF.out.symm, hb1⟩
end Go.Proofs.Ytalehbmgbjiigaa
end

section
namespace Go.Proofs.Ytalehbmgbjiigaa
open Go.RowKit

theorem isNaN_any (x : Int) (w : World) : Calls Try.prog 107 #[.int .i64 x] w fun e w' => e = .returned (.bool false) ∧ w = w' := by
  go_enter Try.func107, Try.ntmps107
  have h : (x != x) = false := by simp
  go_wp2
  go_ret
  exact ⟨rfl, rfl⟩
theorem cmpI_any (x y : Int) (w : World) : Calls Try.prog 73 #[.int .i64 x, .int .i64 y] w fun e w' => e = .returned (.int .i64 (cmpI x y)) ∧ w' = w := by
  go_enter Try.func73, Try.ntmps73
  go_wp2_with (fail)
  refine (isNaN_any x _).mono ?_
  rintro e w' ⟨rfl, rfl⟩
  go_wp2_with (fail)
  refine (isNaN_any y _).mono ?_
  rintro e w' ⟨rfl, rfl⟩
  go_wp2_with (fail)
  all_goals go_ret
  · exact ⟨ret_int (by rw [cmpI, if_pos (by assumption)]), rfl⟩
  · exact ⟨ret_int (by rw [cmpI, if_neg (by omega), if_pos (by assumption)]), rfl⟩
  · exact ⟨ret_int (by rw [cmpI, if_neg (by omega), if_neg (by omega)]), rfl⟩

set_option maxHeartbeats 1000000 in
theorem Compare_any (a b : List Int) (u v : Value) (w : World) (hu : IntsAt w u a) (hv : IntsAt w v b) (ha : a.length ≤ 4000000) (hb : b.length ≤ 4000000) :
    Calls Try.prog 72 #[u, v] w fun e w' => e = .returned (.int .i64 (cmpL a b)) ∧ Below w.heap.size w w' := by
  obtain ⟨pu, cu, hus⟩ := hu.slice
  obtain ⟨pv, cv, hvs⟩ := hv.slice
  subst hus
  subst hvs
  obtain ⟨m, hm⟩ : ∃ m, m = min a.length b.length := ⟨_, rfl⟩
  have hm1 : m ≤ a.length := by omega
  have hm2 : m ≤ b.length := by omega
  have hm3 : m = a.length ∨ m = b.length := by omega
  have Hm := Lib.hid hm
  clear hm
  go_enter Try.func72, Try.ntmps72
  go_wp2
  all_goals
    go_loopw [12] (fun i wr => ∃ k : Nat, i = .int .i64 k ∧ k ≤ m ∧ Hid (cmpL a b = cmpL (a.drop k) (b.drop k)) ∧ Below w.heap.size w wr) (fun i _ => m - (intOf i).toNat)
    case atStart => exact ⟨0, rfl, Nat.zero_le _, Lib.hid rfl, Below.refl _ _⟩
    case round =>
      obtain ⟨k, rfl, hk, ht, hB⟩ := hrel
      by_cases hkm : k < m
      · have hlt : k < a.length := by omega
        have hltb : k < b.length := by omega
        rcases hu.open with ⟨rfl, _⟩ | ⟨b1, o1, c1, hs1, hp1, hc1, hb1, hx1⟩
        · simp at hlt
        rcases hv.open with ⟨rfl, _⟩ | ⟨b2, o2, c2, hs2, hp2, hc2, hb2, hx2⟩
        · simp at hltb
        obtain ⟨rfl, rfl⟩ : pu = some ⟨b1, o1, none⟩ ∧ cu = c1 := by simpa using hs1
        obtain ⟨rfl, rfl⟩ : pv = some ⟨b2, o2, none⟩ ∧ cv = c2 := by simpa using hs2
        have g1 := (hB.cell (p := ⟨b1, o1 + k, none⟩) hb1).trans (hx1 k hlt)
        have g2 := (hB.cell (p := ⟨b2, o2 + k, none⟩) hb2).trans (hx2 k hltb)
        clear hx1 hx2 hs1 hs2
        have n1 : (k : Int) < (a.length : Int) := by omega
        have n2 : (k : Int) < (b.length : Int) := by omega
        by_cases he : a[k] = b[k]
        · have heb : (cmpI a[k] b[k] != 0) = false := by simp [cmpI, he]
          have HE := Lib.hid he
          clear he
          go_wp2
          go_quiet ((go_at_call 73; exact Calls.quiet_of_same (cmpI_any _ _ _)))
          go_wp2
          go_roundw
          case rel => exact ⟨k + 1, by go_num, by omega, Lib.hid (by rw [ht.out, cmpL_drop a b k hlt hltb HE.out]), below_drewN hB _⟩
          case measure => simp [intOf]; omega
        · have heb : (cmpI a[k] b[k] != 0) = true := by rw [bne_iff_ne]; unfold cmpI; split; omega; split <;> omega
          have HE := Lib.hid he
          clear he
          go_wp2
          go_quiet ((go_at_call 73; exact Calls.quiet_of_same (cmpI_any _ _ _)))
          go_wp2
          go_ret
          exact ⟨ret_int (by rw [ht.out, cmpL_apart a b k hlt hltb HE.out]), below_drewN hB _⟩
      · go_wp2_with (go_at_call 73; refine (cmpI_any _ _ _).mono ?_; rintro e w' ⟨rfl, rfl⟩)
        go_ret
        exact ⟨ret_int (by rw [ht.out, cmpL_end a b k (by omega) (by omega) (by omega)]), hB⟩
end Go.Proofs.Ytalehbmgbjiigaa
end

section
namespace Go.Proofs.Ytalehbmgbjiigaa
open Go.RowKit
set_option maxHeartbeats 2000000 in
theorem refFind_any (l : List Nd) (p : List Int) (v u : Value) (w : World) (hv : NodesAt w v l) (hu : IntsAt w u p) (hl : l.length ≤ 4000000) (hp : p.length ≤ 4000000) :
    Calls Try.prog 49 #[v, u] w fun e w' => e = .returned (.int .i64 (findv l p)) ∧ Below w.heap.size w w' := by
  obtain ⟨pu, cu, hus⟩ := hu.slice
  subst hus
  obtain ⟨pv, cv, hvs⟩ := hv.slice
  subst hvs
  by_cases hE : endv l 0 = l.length
  · have hE' : (endv l 0 != (l.length : Int)) = false := by simp [hE]
    have HF : Hid (findv l p = downV l 0 p) := Lib.hid (by rw [findv, if_pos hE])
    clear hE
    go_enter Try.func49, Try.ntmps49
    go_wp2_with (go_at_call 75; refine (refEnd_any l _ _ _ hv hl).mono ?_; rintro e w1 ⟨rfl, hb1⟩)
    go_loopw [5, 6] (fun x i wr => ∃ (k : Nat) (z : Int), i = .int .i64 k ∧ x = .int .i64 z ∧ k ≤ p.length ∧ Hid (downV l 0 p = downV l z (p.drop k)) ∧ Below w.heap.size w wr) (fun _ i _ => p.length - (intOf i).toNat)
    case atStart => exact ⟨0, 0, rfl, rfl, Nat.zero_le _, Lib.hid rfl, hb1⟩
    case round =>
      obtain ⟨k, z, rfl, rfl, hk, ht, hB⟩ := hrel
      by_cases hlt : k < p.length
      · rcases hu.open with ⟨rfl, _⟩ | ⟨b1, o1, c1, hs1, hp1, hc1, hbb1, hx1⟩
        · simp at hlt
        obtain ⟨rfl, rfl⟩ : pu = some ⟨b1, o1, none⟩ ∧ cu = c1 := by simpa using hs1
        have g1 := (hB.cell (p := ⟨b1, o1 + k, none⟩) hbb1).trans (hx1 k hlt)
        have hbb2 : b1 < wr.heap.size := Nat.lt_of_lt_of_le hbb1 hB.size
        clear hx1 hs1
        have hsz := hB.size
        have hvr := NodesIn.below hv hB
        have hpk := Lib.hid (List.drop_eq_getElem_cons hlt)
        have hkl := kidsv_len l z
        by_cases hn : 0 ≤ p[k] ∧ p[k].toNat < (kidsv l z).length
        · obtain ⟨j, hj⟩ := Int.eq_ofNat_of_zero_le hn.1
          have hjl : j < (kidsv l z).length := by omega
          have HJ := Lib.hid hj
          have hn1 : ¬ p[k] < 0 := by omega
          have hn2 : ¬ ((kidsv l z).length : Int) ≤ p[k] := by omega
          have hdn := Lib.hid (downV_in l z p[k] (p.drop (k + 1)) j hj hjl)
          clear hn
          rw [hj] at g1 hn1 hn2
          clear hj
          go_wp2_with (go_at_call 91; refine (refKids_any l _ _ _ hvr hl).mono ?_; rintro e w2 ⟨q, rfl, hq, hb2⟩; (rcases hq.open with ⟨h0, _⟩ | ⟨bq, oq, cq, hqs, hqp, hqc, hqb, hqx⟩; (exfalso; rw [h0] at hjl; simp at hjl)); have gq := hqx j hjl; clear hqx; subst hqs; have g2 := (hb2.cell (p := ⟨b1, o1 + k, none⟩) hbb2).trans g1)
          go_round
          case rel => exact ⟨k + 1, (kidsv l z)[j], by go_num, rfl, by omega, Lib.hid (by rw [ht.out, hpk.out, hdn.out]), hB.trans (hb2.mono hsz)⟩
          case measure => simp [intOf]; omega
        · have hdn := Lib.hid (downV_out l z p[k] (p.drop (k + 1)) hn)
          by_cases hn1 : p[k] < 0
          · clear hn
            go_wp2_with (go_at_call 91; refine (refKids_any l _ _ _ hvr hl).mono ?_; rintro e w2 ⟨q, rfl, hq, hb2⟩; obtain ⟨pq, cq, hqs⟩ := hq.slice; subst hqs; have g2 := (hb2.cell (p := ⟨b1, o1 + k, none⟩) hbb2).trans g1)
            go_ret
            exact ⟨ret_int (by rw [HF.out, ht.out, hpk.out, hdn.out]), hB.trans (hb2.mono hsz)⟩
          · have hn2 : ((kidsv l z).length : Int) ≤ p[k] := by omega
            clear hn
            go_wp2_with (go_at_call 91; refine (refKids_any l _ _ _ hvr hl).mono ?_; rintro e w2 ⟨q, rfl, hq, hb2⟩; obtain ⟨pq, cq, hqs⟩ := hq.slice; subst hqs; have g2 := (hb2.cell (p := ⟨b1, o1 + k, none⟩) hbb2).trans g1)
            go_ret
            exact ⟨ret_int (by rw [HF.out, ht.out, hpk.out, hdn.out]), hB.trans (hb2.mono hsz)⟩
      · go_wp2
        go_ret
        exact ⟨ret_int (by rw [HF.out, ht.out, List.drop_of_length_le (by omega)]; rfl), hB⟩
  · have hE' : (endv l 0 != (l.length : Int)) = true := by simp [hE]
    have HF : Hid (findv l p = -1) := Lib.hid (by rw [findv, if_neg hE])
    clear hE
    go_enter Try.func49, Try.ntmps49
    go_wp2_with (go_at_call 75; refine (refEnd_any l _ _ _ hv hl).mono ?_; rintro e w1 ⟨rfl, hb1⟩)
    go_ret
    exact ⟨ret_int HF.out.symm, hb1⟩
end Go.Proofs.Ytalehbmgbjiigaa
end

section
namespace Go.Proofs.Ytalehbmgbjiigaa
open Go.RowKit
set_option maxHeartbeats 2000000 in
theorem refCompare_any (a b : List Int) (u v : Value) (w : World) (hu : IntsAt w u a) (hv : IntsAt w v b) (ha : a.length ≤ 4000000) (hb : b.length ≤ 4000000) :
    Calls Try.prog 67 #[u, v] w fun e w' => e = .returned (.int .i64 (cmpL a b)) ∧ Below w.heap.size w w' := by
  obtain ⟨pu, cu, hus⟩ := hu.slice
  obtain ⟨pv, cv, hvs⟩ := hv.slice
  subst hus
  subst hvs
  go_enter Try.func67, Try.ntmps67
  go_wp2
  go_loopw [5] (fun i wr => ∃ k : Nat, i = .int .i64 k ∧ k ≤ a.length ∧ k ≤ b.length ∧ Hid (cmpL a b = cmpL (a.drop k) (b.drop k)) ∧ Below w.heap.size w wr) (fun i _ => a.length - (intOf i).toNat)
  case atStart => exact ⟨0, rfl, Nat.zero_le _, Nat.zero_le _, Lib.hid rfl, Below.refl _ _⟩
  case round =>
    obtain ⟨k, rfl, hk, hk2, ht, hB⟩ := hrel
    by_cases hkm : k < a.length ∧ k < b.length
    · obtain ⟨hlt, hltb⟩ := hkm
      rcases hu.open with ⟨rfl, _⟩ | ⟨b1, o1, c1, hs1, hp1, hc1, hb1, hx1⟩
      · simp at hlt
      rcases hv.open with ⟨rfl, _⟩ | ⟨b2, o2, c2, hs2, hp2, hc2, hb2, hx2⟩
      · simp at hltb
      obtain ⟨rfl, rfl⟩ : pu = some ⟨b1, o1, none⟩ ∧ cu = c1 := by simpa using hs1
      obtain ⟨rfl, rfl⟩ : pv = some ⟨b2, o2, none⟩ ∧ cv = c2 := by simpa using hs2
      have g1 := (hB.cell (p := ⟨b1, o1 + k, none⟩) hb1).trans (hx1 k hlt)
      have g2 := (hB.cell (p := ⟨b2, o2 + k, none⟩) hb2).trans (hx2 k hltb)
      clear hx1 hx2 hs1 hs2
      have n1 : (k : Int) < (a.length : Int) := by omega
      have n2 : (k : Int) < (b.length : Int) := by omega
      rcases Int.lt_trichotomy a[k] b[k] with he | he | he
      · go_wp2
        go_quiet (fail)
        go_wp2
        go_ret
        exact ⟨ret_int (by rw [ht.out, cmpL_apart a b k hlt hltb (by omega), cmpI, if_pos he]), below_drewN hB _⟩
      · have h1 : ¬ a[k] < b[k] := by omega
        have h2 : ¬ b[k] < a[k] := by omega
        have HE := Lib.hid he
        clear he
        go_wp2
        go_quiet (fail)
        go_wp2
        go_quiet (fail)
        go_wp2
        go_roundw
        case rel => exact ⟨k + 1, by go_num, by omega, by omega, Lib.hid (by rw [ht.out, cmpL_drop a b k hlt hltb HE.out]), by first | exact below_drewN hB _ | exact below_drewN (below_drewN hB _) _⟩
        case measure => simp [intOf]; omega
      · have h1 : ¬ a[k] < b[k] := by omega
        go_wp2
        go_quiet (fail)
        go_wp2
        go_quiet (fail)
        go_wp2
        go_ret
        exact ⟨ret_int (by rw [ht.out, cmpL_apart a b k hlt hltb (by omega), cmpI, if_neg (by omega), if_pos he]), below_drewN (below_drewN hB _) _⟩
    · have he : cmpL a b = cmpI a.length b.length := by rw [ht.out, cmpL_end a b k (by omega) (by omega) (by omega)]
      have HE := Lib.hid he
      clear he
      by_cases h3 : k < a.length
      all_goals
        go_wp2
        all_goals
          go_ret
          exact ⟨ret_int (by rw [HE.out, cmpI]; first | rw [if_pos (by omega)] | rw [if_neg (by omega), if_pos (by omega)] | rw [if_neg (by omega), if_neg (by omega)]), hB⟩
end Go.Proofs.Ytalehbmgbjiigaa
end

section
namespace Go.Proofs.Ytalehbmgbjiigaa
open Go.RowKit
set_option linter.unusedVariables false
set_option linter.unusedSimpArgs false

section
variable {P : Program}
/-- Elements of any size are copied into a row, from a place on. -/
theorem run_copy_rows (w : World) (t ty e : TypeId) (i : TypeInfo) (ht : P.underlying t = some (.slice e)) (hi : P.info? e = some i) (b o n dc : Nat) (cur : Array Value) (t' : TypeId) (hb : w.heap[b]? = some (.cells cur t' (0, 0)))
    (a : Addr) (m sc : Nat) (vs : List Value) (hl : vs.length = Nat.min m n * i.size) (hc : ∀ j v, vs[j]? = some v → w.cell? (a.add j) = some v) (h1 : ∀ v ∈ vs, v.oneCell' = true) (hfit : o + vs.length ≤ cur.size) :
    (Builtin.copy_ #[t, t] ty #[.slice (some ⟨b, o, none⟩) n dc, .slice (some a) m sc]).run P w = .ok (.int .i64 (Nat.min m n : Nat)) (w.setRow b (cur.toList.take o ++ vs ++ cur.toList.drop (o + vs.length)).toArray) := by
  have hf := run_firstCells_some (P := P) w i.size (Nat.min m n) a m sc vs hl hc
  have hst := run_storeCells_at P b o t' vs 0 cur w hb (by simpa using hfit) h1
  simp only [Nat.add_zero] at hst
  simp [Builtin.copy_, run_underlying ht, Builtin.lenOf, sizeOf, typeInfo, hi, _root_.Go.goInt, hf, hst]
end
theorem alloc_setRow (w : World) (A R : Array Value) (t : TypeId) : (w.alloc (.cells A t)).setRow w.heap.size R = w.alloc (.cells R t) := by
  unfold World.setRow World.alloc
  congr 1
  apply Array.ext
  · simp
  · intro k h1 h2
    simp only [Array.size_modify, Array.size_push] at h1
    rw [Array.getElem_modify]
    by_cases hk : k < w.heap.size
    · rw [if_neg (by omega), Array.getElem_push_lt hk, Array.getElem_push_lt hk]
    · have : k = w.heap.size := by omega
      subst this
      simp
/-- What a row is with some cells put in. -/
theorem ins_cells (arr : List Value) (n i : Nat) (v : List Value) (hv : v.length = 2) (hi : i < n) (hn : 2 * (n + 1) ≤ arr.length) :
    let r1 := arr.take (2 * (i + 1)) ++ (arr.drop (2 * i)).take (2 * (n - i)) ++ arr.drop (2 * (i + 1) + 2 * (n - i))
    (r1.take (2 * i) ++ v ++ r1.drop (2 * i + 2)).take (2 * (n + 1)) = arr.take (2 * i) ++ v ++ (arr.take (2 * n)).drop (2 * i) := by
  intro r1
  have e1 : r1.take (2 * i) = arr.take (2 * i) := by
    show (arr.take (2 * (i + 1)) ++ _ ++ _).take (2 * i) = _
    rw [List.append_assoc, List.take_append_of_le_length (by simp; omega), List.take_take]
    congr 1; omega
  have e2 : r1.drop (2 * i + 2) = (arr.drop (2 * i)).take (2 * (n - i)) ++ arr.drop (2 * (i + 1) + 2 * (n - i)) := by
    show (arr.take (2 * (i + 1)) ++ _ ++ _).drop (2 * i + 2) = _
    rw [List.append_assoc]
    exact List.drop_left' (by simp; omega)
  rw [e1, e2]
  have e3 : (arr.drop (2 * i)).take (2 * (n - i)) = (arr.take (2 * n)).drop (2 * i) := by
    rw [List.drop_take]; congr 1; omega
  rw [e3, ← List.append_assoc]
  exact List.take_left' (by simp; omega)

/-- One element is put into a row ahead of another one. -/
def insertH (t : TypeId) : List D → Heap → Option (D × Heap)
  | [.hs id n, .v (.int .i64 i), .hs id2 m], H =>
    match H[id]?, H[id2]? with
    | some (.cells t1 s1 cs), some (.cells t2 s2 new) =>
      if id ≠ id2 ∧ m = 1 ∧ t1 = t ∧ s1 = 2 ∧ s2 = 2 ∧ cs.length = n * 2 ∧ new.length = 2 ∧ 0 ≤ i ∧ i < n ∧ n ≤ 1000000 then
        some (.hs H.length (n + 1), H.set id .dead ++ [.cells t 2 (cs.take (2 * i.toNat) ++ new ++ cs.drop (2 * i.toNat))]) else none
    | _, _ => none
  | _, _ => none

/-- What a call of such a function does, for rows that have room and for those that have none. -/
structure InsCalls (P : Program) (f : FuncId) (t : TypeId) : Prop where
  body : ∃ fn, P.funcs[f]? = some fn ∧ fn.name ≠ "runtime.NumGoroutine" ∧ fn.body.isSome = true
  room : ∀ (b n c i vb vc : Nat) (arr arrv : Array Value) (tv : TypeId) (v0 v1 : Value) (w : World), i < n → n + 1 ≤ c → c ≤ maxLen → w.heap[b]? = some (.cells arr t (0, 0)) → arr.size = c * 2 → w.heap[vb]? = some (.cells arrv tv (0, 0)) → arrv[0]? = some v0 → arrv[1]? = some v1 →
    v0.oneCell' = true → v1.oneCell' = true → vb ≠ b → (∀ x ∈ arr.toList.take (2 * n), x.oneCell' = true) →
    Calls P f #[.slice (some ⟨b, 0, none⟩) n c, .int .i64 i, .slice (some ⟨vb, 0, none⟩) 1 vc] w fun e w' => ∃ A : Array Value, e = .returned (.slice (some ⟨b, 0, none⟩) (n + 1) c) ∧ w' = w.drew.setRow b A ∧ A.size = c * 2 ∧
      A.toList.take (2 * (n + 1)) = arr.toList.take (2 * i) ++ [v0, v1] ++ (arr.toList.take (2 * n)).drop (2 * i)
  grow : ∀ (b n c i vb vc : Nat) (arr arrv : Array Value) (tv : TypeId) (v0 v1 : Value) (w : World), i < n → n ≤ c → c < n + 1 → n ≤ 1000000 → w.heap[b]? = some (.cells arr t (0, 0)) → arr.size = c * 2 → w.heap[vb]? = some (.cells arrv tv (0, 0)) → arrv[0]? = some v0 → arrv[1]? = some v1 →
    v0.oneCell' = true → v1.oneCell' = true → vb ≠ b → (∀ x ∈ arr.toList.take (2 * n), x.oneCell' = true) →
    Calls P f #[.slice (some ⟨b, 0, none⟩) n c, .int .i64 i, .slice (some ⟨vb, 0, none⟩) 1 vc] w fun e w' => ∃ (A : Array Value) (c' : Nat), e = .returned (.slice (some ⟨w.heap.size, 0, none⟩) (n + 1) c') ∧ w' = w.drew.drew.alloc (.cells A t) ∧ n + 1 ≤ c' ∧ c' ≤ maxLen ∧ A.size = c' * 2 ∧
      A.toList.take (2 * (n + 1)) = arr.toList.take (2 * i) ++ [v0, v1] ++ (arr.toList.take (2 * n)).drop (2 * i)

set_option maxHeartbeats 1000000 in
theorem ins_hcall {P : Program} {f : FuncId} {t : TypeId} (h : InsCalls P f t) : HCallOk P f (insertH t) := by
  refine ⟨h.body, fun ds H d H' hG B S L vs w hr hv => ?_⟩
  unfold insertH at hG
  split at hG
  · rename_i id n i id2 m
    split at hG
    · rename_i t1 s1 cs t2 s2 new hid hid2
      split at hG
      · rename_i hc
        obtain ⟨hne, rfl, rfl, rfl, rfl, hcl, hnl, hi0, hin, hn⟩ := hc
        cases hG
        simp only [RepA, Rep] at hv
        obtain ⟨_, _, rfl, ⟨b, c, hL, hnc, rfl⟩, _, _, rfl, rfl, _, _, rfl, ⟨vb, vc, hL2, hmc, rfl⟩, rfl⟩ := hv
        obtain ⟨k, rfl⟩ := Int.eq_ofNat_of_zero_le hi0
        simp only [Int.toNat_natCast]
        have hkn : k < n := by omega
        obtain ⟨arr, g1, g2, g3, g4, g5⟩ := row_values hr hid hL
        obtain ⟨arrv, q1, q2, q3, q4, q5⟩ := row_values hr hid2 hL2
        have hone0 : ∀ (j : Nat) (d : D), cs[j]? = some d → ∃ x, arr[j]? = some x ∧ x.oneCell' = true ∧ Rep S L w x d := by
          obtain ⟨b', c', arr', k1, k2, k3, k4, k5, k6, k7, k8⟩ := hr.live id _ _ cs hid
          rw [hL] at k1; cases k1
          rw [g1] at k4; cases k4
          exact k8
        have hone2 : ∀ (j : Nat) (d : D), new[j]? = some d → ∃ x, arrv[j]? = some x ∧ x.oneCell' = true ∧ Rep S L w x d := by
          obtain ⟨b', c', arr', k1, k2, k3, k4, k5, k6, k7, k8⟩ := hr.live id2 _ _ new hid2
          rw [hL2] at k1; cases k1
          rw [q1] at k4; cases k4
          exact k8
        obtain ⟨d0, d1, rfl⟩ : ∃ d0 d1, new = [d0, d1] := by
          match new, hnl with
          | [d0, d1], _ => exact ⟨d0, d1, rfl⟩
        obtain ⟨v0, a1, a2, a3⟩ := hone2 0 d0 rfl
        obtain ⟨v1, b1, b2, b3⟩ := hone2 1 d1 rfl
        have hbl : vb ≠ b := fun e => hne (hr.inj id id2 _ _ _ _ hid (by intro e; cases e) hid2 (by intro e; cases e) hL hL2 e.symm)
        have h2n : arr.toList.take (2 * n) = arr.toList.take cs.length := by rw [hcl, Nat.mul_comm]
        have hone : ∀ x ∈ arr.toList.take (2 * n), x.oneCell' = true := by
          intro x hx
          obtain ⟨j, hj, rfl⟩ := List.getElem_of_mem hx
          have hjl : j < cs.length := by simp at hj; omega
          obtain ⟨y, y1, y2, _⟩ := hone0 j _ (List.getElem?_eq_getElem hjl)
          have : arr[j]? = some (arr.toList.take (2 * n))[j] := by simp at hj ⊢
          rw [this] at y1
          cases y1
          exact y2
        have hX : RepA S L w (arr.toList.take (2 * k) ++ [v0, v1] ++ (arr.toList.take (2 * n)).drop (2 * k)) (cs.take (2 * k) ++ [d0, d1] ++ cs.drop (2 * k)) := by
          rw [h2n]
          refine ((?_ : RepA S L w _ _).append (RepA.cons a3 (RepA.cons b3 RepA.nil))).append (g5.drop _)
          have := g5.take (2 * k)
          rwa [List.take_take, Nat.min_eq_left (by omega)] at this
        have hX1 : ∀ x ∈ arr.toList.take (2 * k) ++ [v0, v1] ++ (arr.toList.take (2 * n)).drop (2 * k), x.oneCell' = true := by
          intro x hx
          simp only [List.mem_append, List.mem_cons, List.not_mem_nil, or_false] at hx
          rcases hx with (hx | rfl | rfl) | hx
          · refine hone x ?_
            have : arr.toList.take (2 * k) = (arr.toList.take (2 * n)).take (2 * k) := by rw [List.take_take, Nat.min_eq_left (by omega)]
            rw [this] at hx
            exact List.mem_of_mem_take hx
          · exact a2
          · exact b2
          · exact hone x (List.mem_of_mem_drop hx)
        have hXl := hX.length
        have hrep : ∀ (A : Array Value), A.toList.take (2 * (n + 1)) = arr.toList.take (2 * k) ++ [v0, v1] ++ (arr.toList.take (2 * n)).drop (2 * k) →
            ∀ (j : Nat) (d : D), (cs.take (2 * k) ++ [d0, d1] ++ cs.drop (2 * k))[j]? = some d → ∃ x, A[j]? = some x ∧ x.oneCell' = true ∧ Rep S L w x d := by
          intro A hA j d hj
          obtain ⟨x, x1, x2⟩ := hX.get j d hj
          refine ⟨x, ?_, hX1 x (List.mem_of_getElem? x1), x2⟩
          rw [← hA] at x1
          have hlt := (List.getElem?_eq_some_iff.1 x1).1
          rw [List.getElem?_take_of_lt (by simp at hlt; omega)] at x1
          simpa using x1
        have hcl' : (cs.take (2 * k) ++ [d0, d1] ++ cs.drop (2 * k)).length = 2 * (n + 1) := by
          simp only [List.length_append, List.length_take, List.length_drop, List.length_cons, List.length_nil]; omega
        by_cases hroom : n + 1 ≤ c
        · refine (h.room b n c k vb vc arr arrv t2 v0 v1 w hkn hroom g3 g1 g2 q1 a1 b1 a2 b2 hbl hone).mono ?_
          rintro e w' ⟨A, rfl, rfl, hs, hA⟩
          obtain ⟨r1, r2⟩ := hr.drew
          have hrep' : ∀ (j : Nat) (d : D), (cs.take (2 * k) ++ [d0, d1] ++ cs.drop (2 * k))[j]? = some d → ∃ x, A[j]? = some x ∧ x.oneCell' = true ∧ Rep S L w.drew x d := fun j d hj => by
            obtain ⟨x, x1, x2, x3⟩ := hrep A hA j d hj
            exact ⟨x, x1, x2, r2.rep x3⟩
          have hw := r1.write hid hL A (cs.take (2 * k) ++ [d0, d1] ++ cs.drop (2 * k)) hs (by rw [hcl', hs]; omega) hrep'
          have hmv := hw.1.move (id := id) (o := .cells t1 2 (cs.take (2 * k) ++ [d0, d1] ++ cs.drop (2 * k))) (by
            have hlt := (List.getElem?_eq_some_iff.1 hid).1
            rw [List.getElem?_set_self hlt]) (by intro e; cases e) hL
          rw [List.set_set] at hmv
          refine ⟨_, _, _, rfl, ?_, hmv.1, r2.trans (hw.2.trans hmv.2)⟩
          simp only [Rep]
          exact ⟨b, c, by rw [← hr.len]; simp, hroom, rfl⟩
        · refine (h.grow b n c k vb vc arr arrv t2 v0 v1 w hkn hnc (by omega) hn g1 g2 q1 a1 b1 a2 b2 hbl hone).mono ?_
          rintro e w' ⟨A, c', rfl, rfl, hc1, hc2, hs, hA⟩
          have hn' := (hr.kill id).new w.drew.drew rfl ((Below.refl _ _).drew.drew) t1 2 c' (cs.take (2 * k) ++ [d0, d1] ++ cs.drop (2 * k)) A hs hc2 (by rw [hcl', hs]; omega) (hrep A hA)
          refine ⟨_, _, _, rfl, ?_, hn'.1, hn'.2⟩
          simp only [Rep]
          exact ⟨w.heap.size, c', by rw [← hr.len]; simp, hc1, rfl⟩
      · cases hG
    · cases hG
  · cases hG
end Go.Proofs.Ytalehbmgbjiigaa
end
