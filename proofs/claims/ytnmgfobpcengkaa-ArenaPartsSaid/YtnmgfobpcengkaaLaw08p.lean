/-
  A node and its kids' parts, one behind the other: the law comes to true.
-/
import Derived.Test.YtnmgfobpcengkaaShL08
import Derived.Test.YtnmgfobpcengkaaPartsLaw
namespace Go.Proofs.Ytnmgfobpcengkaa
open Go.RowKit
set_option linter.unusedVariables false
set_option linter.unusedSimpArgs false

def flatN (l : List Nd) : List D := (l.map nodeD).flatten
theorem flatN_len (l : List Nd) : (flatN l).length = l.length * 2 := by
  induction l with
  | nil => rfl
  | cons x r ih => simp only [flatN, List.map_cons, List.flatten_cons, List.length_append, List.length_cons, nodeD] at ih ⊢; simp at ih ⊢; omega
theorem flatN_app (a b : List Nd) : flatN (a ++ b) = flatN a ++ flatN b := by simp [flatN]
theorem flatN_ok (l : List Nd) : (flatN l).all cellOk = true := by
  induction l with
  | nil => rfl
  | cons x r ih => simp only [flatN, List.map_cons, List.flatten_cons, List.all_append] at ih ⊢; rw [ih]; rfl
theorem mapM_derefN (H : Heap) (n : Nat) (l : List Nd) : (flatN l).mapM (derefN H n) = some (flatN l) := by
  induction l with
  | nil => rfl
  | cons x r ih =>
    have e : flatN (x :: r) = iD x.1 :: iD x.2 :: flatN r := rfl
    rw [e, List.mapM_cons, List.mapM_cons, derefN_pure H n _ rfl, derefN_pure H n _ rfl, ih]; rfl
theorem chunks_nodes (l : List Nd) : chunks 2 l.length (flatN l) = l.map nodeD := by
  induction l with
  | nil => rfl
  | cons x r ih =>
    have e : flatN (x :: r) = iD x.1 :: iD x.2 :: flatN r := rfl
    rw [e, List.length_cons, chunks, List.map_cons]
    simp only [List.take_succ_cons, List.take_zero, List.drop_succ_cons, List.drop_zero, ih, nodeD]
/-- A row of nodes, by value. -/
theorem deref_nodes (H : Heap) (n id : Nat) (t : TypeId) (l : List Nd) (h : H[id]? = some (.cells t 2 (flatN l))) : derefN H (n + 1) (.hs id l.length) = some (nodesD l) := by
  simp only [derefN, h]
  rw [if_pos (by rw [flatN_len]; omega), List.take_of_length_le (by rw [flatN_len]; omega), mapM_derefN, Option.map_some, chunks_nodes]; rfl

def rowN (j : Nat) (t : TypeId) (a : List Nd) : Heap := List.replicate j .dead ++ [.cells t 2 (flatN a)]
theorem rowN_get (j : Nat) (t : TypeId) (a : List Nd) : (rowN j t a)[j]? = some (.cells t 2 (flatN a)) := by simp [rowN]
theorem rowN_len (j : Nat) (t : TypeId) (a : List Nd) : (rowN j t a).length = j + 1 := by simp [rowN]
theorem append_nodes (j : Nat) (t : TypeId) (a r : List Nd) (n : Nat) (hn : n = a.length) (hb : a.length + r.length ≤ 1000000) : appendH t 2 (.hs j n) (nodesD r) (rowN j t a) = some (.hs (j + 1) (a ++ r).length, rowN (j + 1) t (a ++ r)) := by
  subst hn
  have hs : srcH 2 (rowN j t a) (nodesD r) = some (flatN r) := rfl
  rw [appendH, hs, Option.bind_some, appH, if_neg (by rw [flatN_ok]; simp)]
  simp only [rowN_get]
  rw [if_pos ⟨trivial, trivial, flatN_len a, by rw [flatN_len, flatN_len]; omega⟩, rowN_len, flatN_len, Nat.mul_div_cancel _ (by omega : 0 < 2), List.length_append]
  congr 2
  rw [rowN, rowN, List.set_append_right _ _ (by simp), flatN_app]
  simp [List.replicate_succ']
theorem same_row (j : Nat) (t : TypeId) (a b : List Nd) (n : Nat) (hn : n = a.length) (ha : a.length ≤ 3000000) (hb : b.length ≤ 3000000) : liftF F_RefSame [.hs j n, nodesD b] (rowN j t a) = some (bD (decide (a = b)), rowN j t a) := by
  subst hn
  have hd : [D.hs j a.length, nodesD b].mapM (derefN (rowN j t a) 9) = some [nodesD a, nodesD b] := by
    simp only [List.mapM_cons, List.mapM_nil, derefN_pure _ 9 (nodesD b) rfl, deref_nodes _ 8 j t a (rowN_get j t a)]
    rfl
  rw [liftF_obj _ _ _ _ rfl hd]
  simp [F_RefSame, ha, hb, flatD]

theorem true08_pure (H : Heap) : liftF F_true08 [] H = some (bD true, H) := by rw [liftF_pure _ _ _ rfl]; rfl
theorem end08_pure (l : List Nd) (i : Int) (h : l.length ≤ 3000000) (H : Heap) : liftF F_End [nodesD l, iD i] H = some (iD (endv l i), H) := by
  rw [liftF_pure _ _ _ rfl]; simp [F_End, h]
theorem depth08_pure (l : List Nd) (i : Int) (h : l.length ≤ 3000000) (H : Heap) : liftF F_Depth [nodesD l, iD i] H = some (iD (depV l.length l i), H) := by
  rw [liftF_pure _ _ _ rfl]; simp [F_Depth, h]
theorem ar08_pure (x : Nd) (H : Heap) : liftF F_Arity [.agg (nodeD x)] H = some (iD (ar x), H) := by
  rw [liftF_pure _ _ _ rfl]; simp [F_Arity]
theorem part08_new (l : List Nd) (i : Int) (h : l.length ≤ 3000000) (H : Heap) : liftN F_Part [nodesD l, iD i] H = some (nodesD (partV l i), H) := by
  rw [liftN_pure _ _ _ rfl]; simp [F_Part, h]
theorem kids08_new (l : List Nd) (i : Int) (h : l.length ≤ 3000000) (H : Heap) : liftN F_Kids [nodesD l, iD i] H = some (intsD (kidsv l i), H) := by
  rw [liftN_pure _ _ _ rfl]; simp [F_Kids, h]

def stP (l : List Nd) (k j : Nat) : List D := [nodesD l, iD k, bD false, bD true, .hs j (accV l k j).length, intsD (kidsv l k), iD j]
def hpP (l : List Nd) (k j : Nat) : Heap := rowN j 36 (accV l k j)
theorem parts_loop (l : List Nd) (k : Nat) (hl : l.length ≤ 80) (hE : 0 ≤ endv l k) :
    loopF Try.prog L08 kp_offshootlaw08_ArenaParts 201 Try.f10 0 (stP l k 0) (hpP l k 0) = some (.exit 0, stP l k (kidsv l k).length, hpP l k (kidsv l k).length) := by
  have hkl := kidsv_len l k
  refine loopF_run (stP l k) (hpP l k) (by intro e; cases e) (kidsv l k).length 201 (by omega) (fun j hj => ?_) ?_
  · have h1 : (j : Int) < (kidsv l k).length := by omega
    have hj2 : j < (arAt l k).toNat := by rwa [kidsv_eq _ _ hE, upto_length] at hj
    have hkid : (kidsv l k)[j] = kth l (k + 1) j := by simp only [kidsv_eq _ _ hE, upto, List.getElem_map, List.getElem_range]
    have h2 := part08_new l (kidsv l k)[j] (by omega)
    have hacc := acc_succ l k hE j hj2
    rw [← hkid] at hacc
    have hle := acc_le l k (j + 1)
    rw [hacc, List.length_append] at hle
    have h3 := append_nodes j 36 (accV l k j) (partV l (kidsv l k)[j]) _ rfl (by omega)
    rw [← hacc] at h3
    have h4 := depth08_pure l (kidsv l k)[j] (by omega)
    have h5 := depth08_pure l k (by omega)
    have h6 : ¬ depV l.length l k ≤ depV l.length l (kidsv l k)[j] := by
      have := kid_depth l k _ (List.getElem_mem hj) hE
      omega
    have e1 := intD_add (j : Int) 1 (by omega) (by omega)
    simp only [stP, hpP]
    rw [st_offshootlaw08_ArenaParts_0]
    simp [h1, idx_intsN _ _ hj, h2, h3, h4, h5, h6, e1]
  · simp only [stP]
    rw [st_offshootlaw08_ArenaParts_0]
    simp
theorem arenaParts_text (l : List Nd) (i : Int) : ∃ H, textK Try.prog L08 kp_offshootlaw08_ArenaParts 201 Try.f10 [nodesD l, iD i] [] = some (bD true, H) := by
  rw [sh_offshootlaw08_ArenaParts]
  by_cases h1 : l.length ≤ 80
  case neg => exact ⟨_, by simp [true08_pure, show (80 : Int) < l.length from by omega]; rfl⟩
  have h1' : ¬ (80 : Int) < l.length := by omega
  by_cases h2 : endv l i < 0
  case pos => exact ⟨_, by simp [true08_pure, h1', end08_pure l i (by omega), h2]; rfl⟩
  have hE : 0 ≤ endv l i := by omega
  obtain ⟨g1, g2⟩ := endv_in l i hE
  obtain ⟨k, rfl⟩ := Int.eq_ofNat_of_zero_le g1
  have hk : k < l.length := by simpa using g2
  have h3 : ¬ (k : Int) < 0 := by omega
  have h4 : ¬ l.length ≤ k := by omega
  have hr : ∀ x : Nd, rowH 36 2 1 [iD 0, iD 0] [(0, .agg (nodeD x))] [] = some (.hs 0 1, [.cells 36 2 (nodeD x)]) := fun _ => rfl
  have hloop := parts_loop l k h1 hE
  have e1 : stP l k 0 = [nodesD l, iD k, bD false, bD true, .hs 0 1, intsD (kidsv l k), iD 0] := by
    simp only [stP, acc_zero l k hk]; rfl
  have e2 : hpP l k 0 = [.cells 36 2 (nodeD l[k])] := by simp only [hpP, acc_zero l k hk]; rfl
  rw [e1, e2] at hloop
  have hn : (kidsv l k).length = (arAt l k).toNat := by rw [kidsv_eq _ _ hE, upto_length]
  have hacc : accV l k (kidsv l k).length = partV l k := by rw [hn]; exact acc_last l k hE
  have hpl : ((partV l k).length : Int) = endv l k - k := by
    have := endv_le l k
    have := endv_gt l k hE
    rw [partV, if_neg h2]
    simp only [List.length_drop, List.length_take]
    omega
  have e3 : stP l k (kidsv l k).length = [nodesD l, iD k, bD false, bD true, .hs (kidsv l k).length (partV l k).length, intsD (kidsv l k), iD (kidsv l k).length] := by simp only [stP, hacc]
  have e4 : hpP l k (kidsv l k).length = rowN (kidsv l k).length 36 (partV l k) := by simp only [hpP, hacc]
  rw [e3, e4] at hloop
  have hpl2 : (partV l k).length ≤ l.length := by rw [← hacc]; exact acc_le l k _
  have hsame := same_row (kidsv l k).length 36 (partV l k) (partV l k) _ rfl (by omega) (by omega)
  have har : ((kidsv l k).length : Int) = ar l[k] := by
    have := endv_ar l k hE
    rw [hn, arAt_in l k hk] at *
    omega
  have e5 := intD_add (k : Int) (partV l k).length (by omega) (by omega)
  have e6 : (k : Int) + (partV l k).length = endv l k := by omega
  rw [e6] at e5
  exact ⟨_, by simp [true08_pure, h1', end08_pure l k (by omega), h2, h3, h4, idx_nodesN _ _ hk, hr, kids08_new l k (by omega), hloop, part08_new l k (by omega), hsame, ar08_pure, har, e5]; rfl⟩
end Go.Proofs.Ytnmgfobpcengkaa
