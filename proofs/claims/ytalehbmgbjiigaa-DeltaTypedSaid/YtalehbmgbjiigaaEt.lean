/-
  Parts joined into one text: Sh12i, T12i, Sh12j, T12j, Sh12k, T12k, Sh09b, T09b, Sh09c, T09c. No condition.
-/
import Derived.Test.YtalehbmgbjiigaaEp
import Derived.Test.YtalehbmgbjiigaaEs

section
namespace Go.Proofs.Ytalehbmgbjiigaa
open Go.RowKit
set_option linter.unusedVariables false
set_option maxRecDepth 100000

def kp_delta_Put : List Nat := [1, 5, 35, 36, 37]
theorem sh_delta_Put (n : Nat) (x0 : D) (h : Heap) : textK Try.prog (T12h Try.prog) kp_delta_Put n Try.f21 [x0] h =
(thnH (boxH 27 x0 h) fun y0 h1 =>
thn (fieldAtH 0 y0) fun y2 =>
thn (loadH none h1 y2) fun y3 =>
thn (lenH .sl y3) fun y4 =>
thn (binK .int .gtr y4 (iD 30)) fun y5 =>
condK y5
(some (.tup [(.v (.string ⟨#[]⟩)), (iD 17)], h1))
(thn (fieldAtH 0 y0) fun y6 =>
thn (loadH none h1 y6) fun y7 =>
thnH ((G_conF Try.prog) [y7, (.clo (.func 52) [] [])] h1) fun y8 h9 =>
condK y8
(some (.tup [(.v (.string ⟨#[]⟩)), (iD 17)], h9))
(thn (fieldAtH 1 y0) fun y10 =>
thn (loadH none h9 y10) fun y11 =>
thn (binK .int .lss y11 (iD 1)) fun y12 =>
condK y12
(some (.tup [(.v (.string ⟨#[]⟩)), (iD 17)], h9))
(thn (fieldAtH 1 y0) fun y13 =>
thn (loadH none h9 y13) fun y14 =>
thn (binK .int .gtr y14 (iD 7)) fun y15 =>
condK y15
(some (.tup [(.v (.string ⟨#[]⟩)), (iD 17)], h9))
(thnH ((G_wNew Try.prog) [] h9) fun y16 h17 =>
thn (fieldAtH 0 y0) fun y18 =>
thn (loadH none h17 y18) fun y19 =>
thn (lenH .sl y19) fun y20 =>
thn (intOf64 .u64 y20) fun y21 =>
thnH ((G_wNum Try.prog) [y16, y21] h17) fun y22 h23 =>
sameO y18 (some h9) (some h17)
(wholeK y20
(thn (fieldAtH 0 y0) fun y24 =>
thn (loadH none h23 y24) fun y25 =>
thn (lenH .sl y25) fun y26 =>
leaveK (loopF Try.prog (T12h Try.prog) kp_delta_Put n Try.f21 0 [y0, y22, y25, y26, (iD 0)] h23) (fun j27 s28 h29 =>
condN j27 0
(thn (fieldAtH 1 (s28.getD 0 .undef)) fun y30 =>
thn (loadH none h29 y30) fun y31 =>
thn (intOf64 .u8 y31) fun y32 =>
thnH ((G_wByte Try.prog) [(s28.getD 1 .undef), y32] h29) fun y33 h34 =>
thn (fieldAtH 2 (s28.getD 0 .undef)) fun y35 =>
thn (loadH none h34 y35) fun y36 =>
thnH ((G_wInt Try.prog) [y33, y36] h34) fun y37 h38 =>
thnH ((G_wBytes Try.prog) [y37] h38) fun y39 h40 =>
sameO y35 (some h29) (some h34)
(some (.tup [y39, (iD 0)], h40)))
(none)) (fun s28 h29 =>
some (.tup [.undef, .undef], h29))))))))) := by kernel_rfl

theorem st_delta_Put_0 (n : Nat) (s0 s1 s2 s3 s4 : D) (h : Heap) : stepF Try.prog (T12h Try.prog) kp_delta_Put n Try.f21 0 [s0, s1, s2, s3, s4] h =
(thn (binK .int .lss s4 s3) fun y0 =>
condK y0
(thn (idxH 1 s2 s4) fun y1 =>
thn (loadH none h y1) fun y2 =>
thn (intOf64 .u64 y2) fun y3 =>
thnH ((G_wNum Try.prog) [s1, y3] h) fun y4 h5 =>
thn (binK .int .add s4 (iD 1)) fun y6 =>
some (.normal, [s0, s1, s2, s3, y6], h5))
(some ((.exit 0), [s0, s1, s2, s3, s4], h))) := by kernel_rfl

def kp_offshootref12_Put : List Nat := [1, 4, 5]
theorem sh_offshootref12_Put (n : Nat) (x0 : D) (h : Heap) : textK Try.prog (T12h Try.prog) kp_offshootref12_Put n Try.f22 [x0] h =
(thnH (boxH 27 x0 h) fun y0 h1 =>
thn (loadH (some 3) h1 y0) fun y2 =>
thnH (liftF F_Right [y2] h1) fun y3 h4 =>
thn (notD y3) fun y5 =>
condK y5
(some (.tup [(.v (.string ⟨#[]⟩)), (iD 17)], h4))
(thn (fieldAtH 0 y0) fun y6 =>
thn (loadH none h4 y6) fun y7 =>
thn (lenH .sl y7) fun y8 =>
thn (intOf64 .u64 y8) fun y9 =>
thnH (liftF F_PutN [y9] h4) fun y10 h11 =>
leaveK (loopF Try.prog (T12h Try.prog) kp_offshootref12_Put n Try.f22 0 [y0, y10, (iD 0)] h11) (fun j12 s13 h14 =>
condN j12 0
(thn (fieldAtH 1 (s13.getD 0 .undef)) fun y15 =>
thn (loadH none h14 y15) fun y16 =>
thn (intOf64 .u8 y16) fun y17 =>
thnH (rowH 5 1 1 [(.v (.int .u8 0))] [(0, y17)] h14) fun y18 h19 =>
thn (bytesS h19 y18) fun y20 =>
thn (binK .str .add (s13.getD 1 .undef) y20) fun y21 =>
thn (fieldAtH 2 (s13.getD 0 .undef)) fun y22 =>
thn (loadH none h19 y22) fun y23 =>
thnH (liftF F_PutZ [y23] h19) fun y24 h25 =>
thn (binK .str .add y21 y24) fun y26 =>
pureK [y23]
(some (.tup [y26, (iD 0)], h25)))
(none)) (fun s13 h14 =>
some (.tup [.undef, .undef], h14)))) := by kernel_rfl

theorem st_offshootref12_Put_0 (n : Nat) (s0 s1 s2 : D) (h : Heap) : stepF Try.prog (T12h Try.prog) kp_offshootref12_Put n Try.f22 0 [s0, s1, s2] h =
(thn (fieldAtH 0 s0) fun y0 =>
thn (loadH none h y0) fun y1 =>
thn (lenH .sl y1) fun y2 =>
thn (binK .int .lss s2 y2) fun y3 =>
condK y3
(thn (fieldAtH 0 s0) fun y4 =>
thn (loadH none h y4) fun y5 =>
thn (idxH 1 y5 s2) fun y6 =>
thn (loadH none h y6) fun y7 =>
thn (intOf64 .u64 y7) fun y8 =>
thnH (liftF F_PutN [y8] h) fun y9 h10 =>
thn (binK .str .add s1 y9) fun y11 =>
thn (binK .int .add s2 (iD 1)) fun y12 =>
some (.normal, [s0, y11, y12], h10))
(some ((.exit 0), [s0, s1, s2], h))) := by kernel_rfl

end Go.Proofs.Ytalehbmgbjiigaa
end

section
namespace Go.Proofs.Ytalehbmgbjiigaa
open Go.RowKit
set_option linter.unusedVariables false
set_option linter.unusedSimpArgs false
set_option maxRecDepth 100000

def boxL (d : Dl) : HO := .cells 27 3 [intsD d.path, iD d.op, iD d.n]
theorem boxL_load (d : Dl) (H : Heap) (i : Nat) (h : H[i]? = some (boxL d)) : loadH none H (.hp i 0) = some (intsD d.path) ∧ loadH none H (.hp i 1) = some (iD d.op) ∧ loadH none H (.hp i 2) = some (iD d.n) :=
  ⟨load_cellN H i 0 _ _ _ _ h rfl, load_cellN H i 1 _ _ _ _ h rfl, load_cellN H i 2 _ _ _ _ h rfl⟩
/-- The delta at 0, a writer at 1. -/
structure PutL (d : Dl) (H : Heap) (l : By) : Prop where
  box : H[0]? = some (boxL d)
  wr : WrAt H 1 2 l
theorem PutL.next {d : Dl} {H H' : Heap} {l l' : By} (h : PutL d H l) (k : KpW 1 H H') (w : WrAt H' 1 2 l') : PutL d H' l' :=
  ⟨(k.2 0 (by have := h.wr.lt; omega) (by omega) (h.wr.notRow 0 (.inl (by omega)))).1.trans h.box, w⟩
theorem deltaPut_path (d : Dl) (H : Heap) (l : By) (N : Nat) (hN : d.path.length < N) (hp : d.path.length ≤ 30) (hl : l.length ≤ 1000) (hx : ∀ x ∈ d.path, 0 ≤ x ∧ x ≤ 199) (h : PutL d H l) :
    ∃ r, loopF Try.prog (T12h Try.prog) kp_delta_Put N Try.f21 0 [.hp 0 0, .hp 1 0, intsD d.path, iD d.path.length, iD 0] H = some r ∧ ∃ H', r = (.exit 0, [.hp 0 0, .hp 1 0, intsD d.path, iD d.path.length, iD d.path.length], H') ∧ PutL d H' (l ++ pathB d.path) := by
  have e0 : l = l ++ pathB (d.path.take 0) := by simp [pathB]
  rw [e0] at h
  refine loopF_inv (fun j => [.hp 0 0, .hp 1 0, intsD d.path, iD d.path.length, iD j]) (fun j H' => PutL d H' (l ++ pathB (d.path.take j))) _ d.path.length N ?_ ?_ hN (H := H) h
  · intro j H hj hI
    have h1 : (j : Int) < d.path.length := by omega
    have e1 := intD_add (j : Int) 1 (by omega) (by omega)
    have hlen := pathB_len (d.path.take j)
    rw [List.length_take] at hlen
    have hxj := hx _ (List.getElem_mem hj)
    obtain ⟨H2, w1, w2, w3⟩ := wNum_ok H 1 2 _ d.path[j] ⟨hxj.1, by omega⟩ hI.wr (by simp; omega)
    have hu : intOf64 .u64 (iD d.path[j]) = some (u64D d.path[j]) := u64_of _ _ hxj.1 (by omega)
    refine ⟨H2, ?_, ?_⟩
    · rw [st_delta_Put_0]
      simp only [binK_lss, thn_some, condK_bool, decide_eq_true_eq, h1, if_true, idx_intsN _ _ hj, load_one, hu, w1, thnH_some, binK_int, e1, Int.natCast_add, Int.cast_ofNat_Int]
    · have := hI.next w3 w2
      rw [pathB_take _ _ hj, ← List.append_assoc]
      exact this
  · intro H hI
    rw [List.take_length] at hI
    refine ⟨_, by rw [st_delta_Put_0]; simp, (by intro e; cases e), H, rfl, hI⟩
def F_DPut : List D → Option D := F1 dlT fun d => if d.path.length ≤ 100000 ∧ -9223372036854775808 ≤ d.n ∧ d.n ≤ 9223372036854775807 then some (.tup [sD (putD12 d).1, iD (putD12 d).2]) else none
theorem C_DPut : CallOk Try.prog 21 F_DPut := call1 (kp := kp_delta_Put) T12h_ok mixed Try.func21 (by kernel_rfl) (by decide) fun d r h => by
  split at h
  case isFalse => cases h
  rename_i hg
  obtain ⟨hl, hn⟩ := hg
  cases h
  refine ⟨300, _, ?_, Imp.refl _⟩
  show outD (textK _ _ _ _ _ [dlD d] []) = _
  rw [sh_delta_Put]
  have hbox : boxH 27 (dlD d) [] = some (.hp 0 0, [boxL d]) := rfl
  obtain ⟨l0, l1, l2⟩ := boxL_load d [boxL d] 0 rfl
  have hc := conF_ok d.path [boxL d] (by omega)
  have hfc : D.clo (.func 52) [] [] = farC := rfl
  unfold putD12
  by_cases h1 : (30 : Int) < d.path.length
  · have hr : rightV d = false := by unfold rightV; simp; omega
    rw [hr]
    simp [-loadH_hp, hbox, l0, h1, sD_nil]
  have h1' : d.path.length ≤ 30 := by omega
  by_cases h2 : (d.path.all fun x => decide (0 ≤ x ∧ x ≤ 199)) = true
  · have hf : d.path.any farV = false := by rw [any_far, h2]; rfl
    rw [hf] at hc
    by_cases h3 : d.op < 1
    · have hr : rightV d = false := by unfold rightV; simp; omega
      rw [hr]
      simp [-loadH_hp, hbox, l0, h1, hfc, hc, l1, h3, sD_nil]
    by_cases h4 : 7 < d.op
    · have hr : rightV d = false := by unfold rightV; simp; omega
      rw [hr]
      simp [-loadH_hp, hbox, l0, h1, hfc, hc, l1, h3, h4, sD_nil]
    have hr : rightV d = true := by
      unfold rightV
      rw [h2]
      simp; omega
    rw [hr]
    obtain ⟨_, hx, _, _⟩ := right_of hr
    have hnew : G_wNew Try.prog [] [boxL d] = some (.hp 1 0, [boxL d] ++ [.cells 114 1 [.v (.slice none 0 0)]]) := new_ok' [boxL d]
    have hI0 : PutL d ([boxL d] ++ [.cells 114 1 [.v (.slice none 0 0)]]) [] := ⟨rfl, wr_new [boxL d]⟩
    generalize hH7 : [boxL d] ++ [HO.cells 114 1 [.v (.slice none 0 0)]] = H7 at *
    obtain ⟨m0, m1, m2⟩ := boxL_load d H7 0 hI0.box
    obtain ⟨H8, w1, w2, w3⟩ := wNum_ok H7 1 2 [] (d.path.length : Int) ⟨by omega, by omega⟩ hI0.wr (by simp)
    have hI1 := hI0.next w3 w2
    have hu : intOf64 .u64 (iD d.path.length) = some (u64D d.path.length) := u64_of _ _ (by omega) (by omega)
    obtain ⟨m3, m4, m5⟩ := boxL_load d H8 0 hI1.box
    have q1 := (putV_len d.path.length).2
    have q2 := pathB_len d.path
    obtain ⟨r1, c1, H9, rfl, hI2⟩ := deltaPut_path d H8 _ 300 (by omega) h1' (by simp; omega) hx hI1
    obtain ⟨m6, m7, m8⟩ := boxL_load d H9 0 hI2.box
    have hb := u8_of .i64 d.op
    obtain ⟨H10, v1, v2, v3⟩ := wByte_ok H9 1 2 _ (b8 d.op) hI2.wr (by simp; omega)
    have hI3 := hI2.next v3 v2
    obtain ⟨m9, m10, m11⟩ := boxL_load d H10 0 hI3.box
    obtain ⟨H11, u1, u2, u3⟩ := wInt_ok H10 1 2 _ d.n hn hI3.wr (by simp; omega)
    have hby := wBytes_ok H11 1 2 _ u2
    have henc : [] ++ putV ↑d.path.length ++ pathB d.path ++ [b8 d.op] ++ putV (zigV d.n) = encDl d := by simp [encDl]
    rw [henc] at hby
    have s1 : ∀ (o : Nat) (k : Option (D × Heap)), sameO (.hp 0 o) (some [boxL d]) (some H7) k = k := fun o k => sameO_hp 0 o _ _ 27 3 [intsD d.path, iD d.op, iD d.n] k rfl (hI0.box.trans rfl) (by simp)
    have s2 : ∀ (o : Nat) (k : Option (D × Heap)), sameO (.hp 0 o) (some H9) (some H10) k = k := fun o k => sameO_hp 0 o _ _ 27 3 [intsD d.path, iD d.op, iD d.n] k hI2.box (hI3.box.trans hI2.box.symm) (by simp)
    rw [if_pos rfl]
    simp [-loadH_hp, hbox, l0, h1, hfc, hc, l1, h3, h4, hnew, m0, hu, w1, s1, m3, c1, m7, hb, v1, m11, u1, hby, s2]
  · have h2' : (d.path.all fun x => decide (0 ≤ x ∧ x ≤ 199)) = false := by simpa using h2
    have hf : d.path.any farV = true := by rw [any_far, h2']; rfl
    rw [hf] at hc
    have hr : rightV d = false := by unfold rightV; rw [h2']; simp
    rw [hr]
    simp [-loadH_hp, hbox, l0, h1, hfc, hc, sD_nil]

theorem refPutL_path (d : Dl) (H : Heap) (l : By) (N : Nat) (hN : d.path.length < N) (hp : d.path.length ≤ 30) (hl : l.length ≤ 1000) (hx : ∀ x ∈ d.path, 0 ≤ x ∧ x ≤ 199) (h : H[0]? = some (boxL d)) :
    ∃ r, loopF Try.prog (T12h Try.prog) kp_offshootref12_Put N Try.f22 0 [.hp 0 0, sD l, iD 0] H = some r ∧ r = (.exit 0, [.hp 0 0, sD (l ++ pathB d.path), iD d.path.length], H) := by
  have e0 : sD l = sD (l ++ pathB (d.path.take 0)) := by simp [pathB]
  rw [e0]
  refine loopF_inv (fun j => [.hp 0 0, sD (l ++ pathB (d.path.take j)), iD j]) (fun j H' => H' = H) _ d.path.length N ?_ ?_ hN (H := H) rfl
  · rintro j _ hj rfl
    obtain ⟨l0, l1, l2⟩ := boxL_load d _ 0 h
    have h1 : (j : Int) < d.path.length := by omega
    have e1 := intD_add (j : Int) 1 (by omega) (by omega)
    have hlen := pathB_len (d.path.take j)
    rw [List.length_take] at hlen
    have hxj := hx _ (List.getElem_mem hj)
    have hq := (putV_len d.path[j]).2
    have hu : intOf64 .u64 (iD d.path[j]) = some (u64D d.path[j]) := u64_of _ _ hxj.1 (by omega)
    have ha := str_add (l ++ pathB (d.path.take j)) (putV d.path[j]) (by simp; omega)
    rw [List.append_assoc, ← pathB_take _ _ hj] at ha
    refine ⟨_, ?_, rfl⟩
    rw [st_offshootref12_Put_0]
    simp only [fieldAt_hp, thn_some, Nat.zero_add, l0, lenH_ints, binK_lss, condK_bool, decide_eq_true_eq, h1, if_true, idx_intsN _ _ hj, load_one, hu, putN_pure d.path[j] ⟨hxj.1, by omega⟩, thnH_some, ha, binK_int, e1, Int.natCast_add, Int.cast_ofNat_Int]
  · rintro _ rfl
    obtain ⟨l0, l1, l2⟩ := boxL_load d _ 0 h
    rw [List.take_length]
    refine ⟨_, by rw [st_offshootref12_Put_0]; simp [-loadH_hp, l0], (by intro e; cases e), rfl⟩
theorem right_pure (d : Dl) (H : Heap) (h : d.path.length ≤ 1000000) : liftF F_Right [dlD d] H = some (bD (rightV d), H) := by
  rw [liftF_pure _ _ _ rfl]
  have : F_Right [dlD d] = _ := f1_enc (A := dlT) _ d
  rw [this, if_pos h]; rfl
theorem C_RefDPut : CallOk Try.prog 22 F_DPut := call1 (kp := kp_offshootref12_Put) T12h_ok mixed Try.func22 (by kernel_rfl) (by decide) fun d r h => by
  split at h
  case isFalse => cases h
  rename_i hg
  obtain ⟨hl, hn⟩ := hg
  cases h
  refine ⟨300, _, ?_, Imp.refl _⟩
  show outD (textK _ _ _ _ _ [dlD d] []) = _
  rw [sh_offshootref12_Put]
  have hbox : boxH 27 (dlD d) [] = some (.hp 0 0, [boxL d]) := rfl
  have hld : loadH (some 3) [boxL d] (.hp 0 0) = some (dlD d) := rfl
  obtain ⟨l0, l1, l2⟩ := boxL_load d [boxL d] 0 rfl
  have hR := right_pure d [boxL d] (by omega)
  unfold putD12
  by_cases hr : rightV d = true
  · obtain ⟨h1, hx, h3, h4⟩ := right_of hr
    have hu : intOf64 .u64 (iD d.path.length) = some (u64D d.path.length) := u64_of _ _ (by omega) (by omega)
    have hp := putN_pure (d.path.length : Int) ⟨by omega, by omega⟩
    have q1 := (putV_len d.path.length).2
    have q2 := pathB_len d.path
    have q3 := (putV_len (zigV d.n)).2
    obtain ⟨r1, c1, rfl⟩ := refPutL_path d [boxL d] (putV d.path.length) 300 (by omega) h1 (by omega) hx rfl
    have hb := u8_of .i64 d.op
    have hrow := row_one (b8 d.op) [boxL d]
    have hbs : bytesS ([boxL d] ++ [.cells 5 1 (bytesC [b8 d.op])]) (.hs [boxL d].length 1) = some (sD [b8 d.op]) := bytes_one _ _ _
    have hA := str_add (putV d.path.length ++ pathB d.path) [b8 d.op] (by simp; omega)
    have hB := str_add (putV d.path.length ++ pathB d.path ++ [b8 d.op]) (putV (zigV d.n)) (by simp; omega)
    have henc : putV ↑d.path.length ++ pathB d.path ++ [b8 d.op] ++ putV (zigV d.n) = encDl d := by simp [encDl]
    rw [henc] at hB
    obtain ⟨_, _, m2⟩ := boxL_load d ([boxL d] ++ [.cells 5 1 (bytesC [b8 d.op])]) 0 rfl
    rw [if_pos hr]
    simp only [hbox, thnH_some, hld, thn_some, hR, hr, notD_bool, Bool.not_true, condK_bool, Bool.false_eq_true, if_false, fieldAt_hp, Nat.zero_add, l0, lenH_ints, hu, hp, c1, leaveK_exit, condN_same, List.getD_cons_zero, List.getD_cons_succ, l1, hb, hrow, hbs, hA, m2, putZ_pure d.n hn, hB]
    simp
  · rw [if_neg hr]
    have hr' : rightV d = false := by simpa using hr
    simp [-loadH_hp, hbox, hld, hR, hr', sD_nil]
def fs12i (P : Program) : List Entry := (21, true, liftF F_DPut) :: (22, true, liftF F_DPut) :: fs12h P
theorem fs12i_ok : ∀ p ∈ fs12i Try.prog, EntryOk Try.prog p := entries_cons (entry_lift C_DPut) <| entries_cons (entry_lift C_RefDPut) <| fs12h_ok
def T12i (P : Program) : Tab := ⟨fs12i P, noYl⟩
theorem T12i_ok : TabOk Try.prog (T12i Try.prog) := tabOk_of fs12i_ok
end Go.Proofs.Ytalehbmgbjiigaa
end

section
namespace Go.Proofs.Ytalehbmgbjiigaa
open Go.RowKit
set_option linter.unusedVariables false
set_option maxRecDepth 100000

def kp_delta_Get : List Nat := [0, 2, 4, 5, 11, 12]
theorem sh_delta_Get (n : Nat) (x0 : D) (h : Heap) : textK Try.prog (T12i Try.prog) kp_delta_Get n Try.f23 [x0] h =
(thnH (allocH 27 [(.v (.slice none 0 0)), (iD 0), (iD 0)] h) fun y0 h1 =>
thnH ((G_rOf Try.prog) [x0] h1) fun y2 h3 =>
thnH (allocH 27 [(.v (.slice none 0 0)), (iD 0), (iD 0)] h3) fun y4 h5 =>
thnH ((G_rCount Try.prog) [y2, (iD 30)] h5) fun y6 h7 =>
leaveK (loopF Try.prog (T12i Try.prog) kp_delta_Get n Try.f23 0 [x0, y0, y2, y4, y6, (iD 0)] h7) (fun j8 s9 h10 =>
condN j8 0
(thnH ((G_rByte Try.prog) [(s9.getD 2 .undef)] h10) fun y11 h12 =>
thn (intOf64 .i64 y11) fun y13 =>
thnH ((G_rInt Try.prog) [(s9.getD 2 .undef)] h12) fun y14 h15 =>
thn (fieldAtH 1 (s9.getD 3 .undef)) fun y16 =>
thnH (setH 1 y16 y13 h15) fun y17 h18 =>
thn (fieldAtH 2 (s9.getD 3 .undef)) fun y19 =>
thnH (setH 1 y19 y14 h18) fun y20 h21 =>
thn (loadH (some 3) h21 (s9.getD 3 .undef)) fun y22 =>
thnH (liftF F_DPut [y22] h21) fun y23 h24 =>
thn (extractD y23 0) fun y25 =>
thn (extractD y23 1) fun y26 =>
thn (binK .int .neq y26 (iD 0)) fun y27 =>
condK y27
(thn (buildR [(0, 1), (1, 1), (2, 1)] [(.v (.slice none 0 0)), (iD 0), (iD 0)] []) fun y28 =>
thnH (setH 3 (s9.getD 1 .undef) y28 h24) fun y29 h30 =>
thn (loadH (some 3) h30 (s9.getD 1 .undef)) fun y31 =>
some (.tup [y31, (iD 12)], h30))
(thn (binK .str .neq y25 (s9.getD 0 .undef)) fun y32 =>
condK y32
(thn (buildR [(0, 1), (1, 1), (2, 1)] [(.v (.slice none 0 0)), (iD 0), (iD 0)] []) fun y33 =>
thnH (setH 3 (s9.getD 1 .undef) y33 h24) fun y34 h35 =>
thn (loadH (some 3) h35 (s9.getD 1 .undef)) fun y36 =>
some (.tup [y36, (iD 12)], h35))
(thn (loadH (some 3) h24 (s9.getD 3 .undef)) fun y37 =>
thnH (setH 3 (s9.getD 1 .undef) y37 h24) fun y38 h39 =>
thn (loadH (some 3) h39 (s9.getD 1 .undef)) fun y40 =>
some (.tup [y40, (iD 0)], h39))))
(none)) (fun s9 h10 =>
thn (loadH (some 3) h10 (s9.getD 1 .undef)) fun y41 =>
some (.tup [y41, .undef], h10))) := by kernel_rfl

theorem st_delta_Get_0 (n : Nat) (s0 s1 s2 s3 s4 s5 : D) (h : Heap) : stepF Try.prog (T12i Try.prog) kp_delta_Get n Try.f23 0 [s0, s1, s2, s3, s4, s5] h =
(thn (binK .int .lss s5 s4) fun y0 =>
condK y0
(thn (fieldAtH 0 s3) fun y1 =>
thn (loadH none h y1) fun y2 =>
thnH ((G_rCount Try.prog) [s2, (iD 200)] h) fun y3 h4 =>
thnH (rowH 3 1 1 [(iD 0)] [(0, y3)] h4) fun y5 h6 =>
thnH (appendH 3 1 y2 y5 h6) fun y7 h8 =>
thn (fieldAtH 0 s3) fun y9 =>
thnH (setH 1 y9 y7 h8) fun y10 h11 =>
sameO y1 (some h) (some h4)
(thn (binK .int .add s5 (iD 1)) fun y12 =>
some (.normal, [s0, s1, s2, s3, s4, y12], h11)))
(some ((.exit 0), [s0, s1, s2, s3, s4, s5], h))) := by kernel_rfl

def kp_offshootref12_Get : List Nat := []
theorem sh_offshootref12_Get (n : Nat) (x0 : D) (h : Heap) : textK Try.prog (T12i Try.prog) kp_offshootref12_Get n Try.f24 [x0] h =
(thnH (allocH 27 [(.v (.slice none 0 0)), (iD 0), (iD 0)] h) fun y0 h1 =>
thn (buildR [(0, 1), (1, 1), (2, 1)] [(.v (.string ⟨#[]⟩)), (iD 0), (iD 0)] [(0, x0)]) fun y2 =>
thnH (liftF F_DRead [y2] h1) fun y3 h4 =>
thn (extractD y3 0) fun y5 =>
thn (extractD y3 1) fun y6 =>
thnH (allocH 85 [(.v (.string ⟨#[]⟩)), (iD 0), (iD 0)] h4) fun y7 h8 =>
thnH (allocH 27 [(.v (.slice none 0 0)), (iD 0), (iD 0)] h8) fun y9 h10 =>
thnH (setH 3 y7 y5 h10) fun y11 h12 =>
thnH (setH 3 y9 y6 h12) fun y13 h14 =>
thn (loadH (some 3) h14 y9) fun y15 =>
thnH (liftF F_DPut [y15] h14) fun y16 h17 =>
thn (extractD y16 0) fun y18 =>
thn (extractD y16 1) fun y19 =>
thn (binK .int .neq y19 (iD 0)) fun y20 =>
condK y20
(thn (buildR [(0, 1), (1, 1), (2, 1)] [(.v (.slice none 0 0)), (iD 0), (iD 0)] []) fun y21 =>
thnH (setH 3 y0 y21 h17) fun y22 h23 =>
thn (loadH (some 3) h23 y0) fun y24 =>
some (.tup [y24, (iD 12)], h23))
(thn (binK .str .neq y18 x0) fun y25 =>
condK y25
(thn (buildR [(0, 1), (1, 1), (2, 1)] [(.v (.slice none 0 0)), (iD 0), (iD 0)] []) fun y26 =>
thnH (setH 3 y0 y26 h17) fun y27 h28 =>
thn (loadH (some 3) h28 y0) fun y29 =>
some (.tup [y29, (iD 12)], h28))
(thn (loadH (some 3) h17 y9) fun y30 =>
thnH (setH 3 y0 y30 h17) fun y31 h32 =>
thn (loadH (some 3) h32 y0) fun y33 =>
some (.tup [y33, (iD 0)], h32)))) := by kernel_rfl

end Go.Proofs.Ytalehbmgbjiigaa
end

section
namespace Go.Proofs.Ytalehbmgbjiigaa
open Go.RowKit
set_option linter.unusedVariables false
set_option linter.unusedSimpArgs false
set_option maxRecDepth 100000

theorem pathR_in {s : By} : ∀ (n : Nat) {r : Rd}, r.1 ≤ s.length → (pathR s n r).2.1 ≤ s.length
  | 0, r, h => by simpa [pathR] using h
  | n + 1, r, h => by simp only [pathR]; exact pathR_in n (cnt_in h _)
theorem pathR_len (s : By) : ∀ (n : Nat) (r : Rd), (pathR s n r).1.length = n
  | 0, r => by simp [pathR]
  | n + 1, r => by simp [pathR, pathR_len s n]
theorem pathQ_len (s : By) (n : Int) : ∀ (f i : Nat) (r : Rd), (pathQ s n f i r).1.length ≤ f
  | 0, i, r => by simp [pathQ]
  | f + 1, i, r => by
    unfold pathQ
    split
    · have := pathQ_len s n f (i + 1) (askV10 s r 2).2
      simp only [List.length_cons]; omega
    · simp
theorem decDl_in (s : By) : (decDl s).path.length ≤ 30 ∧ dlIn (decDl s) := by
  have hc := cnt_range s (0, 0) 30 (by omega)
  have hi := int_range s (bytV s (pathR s (cntV s (0, 0) 30).1.toNat (cntV s (0, 0) 30).2).2).2
  refine ⟨?_, hi⟩
  simp only [decDl, pathR_len]
  omega
theorem decDlQ_in (s : By) : (decDlQ s).path.length ≤ 31 ∧ dlIn (decDlQ s) := by
  refine ⟨pathQ_len s _ 31 0 _, ?_⟩
  exact ask_range s _ 3 (by omega)
theorem deltaGet_path (s : By) (hs : s.length ≤ 3000) (K : Heap) (N : Nat) : ∀ (m j q n : Nat) (r : Rd) (p : List Int) (H : Heap), j + m = n → m < q → n ≤ 30 → p.length ≤ j → r.1 ≤ s.length → DInv 1 2 3 (rdO s r) p 0 0 K H →
    ∃ H', iterS (stepF Try.prog (T12i Try.prog) kp_delta_Get N Try.f23 0) q [sD s, .hp 0 0, .hp 1 0, .hp 2 0, iD n, iD j] H = some (.exit 0, [sD s, .hp 0 0, .hp 1 0, .hp 2 0, iD n, iD n], H') ∧ DInv 1 2 3 (rdO s (pathR s m r).2) (p ++ (pathR s m r).1) 0 0 K H'
  | 0, j, q, n, r, p, H, hj, hq, hn, hv, hr, h => by
    obtain ⟨q, rfl⟩ : ∃ x, q = x + 1 := ⟨q - 1, by omega⟩
    obtain rfl : j = n := by omega
    refine ⟨H, iterS_exit ?_, by simpa [pathR] using h⟩
    rw [st_delta_Get_0]
    simp
  | m + 1, j, q, n, r, p, H, hj, hq, hn, hv, hr, h => by
    obtain ⟨q, rfl⟩ : ∃ x, q = x + 1 := ⟨q - 1, by omega⟩
    have h1 : (j : Int) < n := by omega
    have e1 := intD_add (j : Int) 1 (by omega) (by omega)
    have hby := rCount_ok s r H 1 h.rd hr (by omega) 200 (by omega) (by omega)
    have hI1 := h.read (rdO s (cntV s r 200).2)
    obtain ⟨d0, l1, l2, l3, l4⟩ := h.low
    obtain ⟨d, d', H3, H4, g1, g2, g3, g4, g5, _⟩ := dl_more hI1 (by omega) (cntV s r 200).1
    have g0 : loadH none H (.hp 2 0) = some d := by
      rw [← g1]
      simp only [loadH_hp]
      rw [List.getElem?_set_ne (by omega)]
    have hso : ∀ k : Option (Lv × List D × Heap), sameO (.hp 2 0) (some H) (some (H.set 1 (rdO s (cntV s r 200).2))) k = k := fun k =>
      sameO_hp 2 0 _ _ _ _ _ k l1 (by rw [List.getElem?_set_ne (by omega)]) (by simp [l3])
    obtain ⟨H', z1, z2⟩ := deltaGet_path s hs K N m (j + 1) q n (cntV s r 200).2 _ H4 (by omega) (by omega) hn (by simp; omega) (cnt_in hr _) g5
    have hstep : stepF Try.prog (T12i Try.prog) kp_delta_Get N Try.f23 0 [sD s, .hp 0 0, .hp 1 0, .hp 2 0, iD n, iD j] H = some (.normal, [sD s, .hp 0 0, .hp 1 0, .hp 2 0, iD n, iD (j + 1 : Nat)], H4) := by
      rw [st_delta_Get_0]
      simp only [binK_lss, thn_some, condK_bool, decide_eq_true_eq, h1, if_true, fieldAt_hp, Nat.zero_add, g0, hby, thnH_some, g2, g3, g4, hso, binK_int, e1, Int.natCast_add, Int.cast_ofNat_Int]
    refine ⟨H', by rw [iterS_go hstep]; exact z1, ?_⟩
    simp only [pathR]
    rw [List.append_assoc] at z2
    exact z2
def retL : HO := .cells 27 3 [.v (.slice none 0 0), iD 0, iD 0]
theorem imp_noneL : Imp (.agg [.v (.slice none 0 0), iD 0, iD 0]) (dlD ⟨[], 0, 0⟩) := Imp.agg (.cons (Imp.nil 1) (.cons (Imp.refl _) (.cons (Imp.refl _) .nil)))
/-- The delta that was read is given back, or none. -/
theorem getL_end (ri di B : Nat) (ro : HO) (K H : Heap) (d : Dl) (h : DInv ri di B ro d.path d.op d.n K H) (hr0 : ri ≠ 0) (hd0 : di ≠ 0) (hK : K[0]? = some retL) (hp : d.path.length ≤ 100000) (hn : dlIn d) : ∃ d1, loadH (some 3) H (.hp di 0) = some (.agg [d1, iD d.op, iD d.n]) ∧ liftF F_DPut [.agg [d1, iD d.op, iD d.n]] H = some (.tup [sD (putD12 d).1, iD (putD12 d).2], H) ∧
    (∃ H', setH 3 (.hp 0 0) (.agg [d1, iD d.op, iD d.n]) H = some (.v undef, H') ∧ loadH (some 3) H' (.hp 0 0) = some (.agg [d1, iD d.op, iD d.n]) ∧ ∃ d', outD (some (.tup [.agg [d1, iD d.op, iD d.n], iD 0], H')) = some d' ∧ Imp d' (.tup [dlD d, iD 0])) ∧
    (∃ H', setH 3 (.hp 0 0) (.agg [.v (.slice none 0 0), iD 0, iD 0]) H = some (.v undef, H') ∧ loadH (some 3) H' (.hp 0 0) = some (.agg [.v (.slice none 0 0), iD 0, iD 0])) := by
  obtain ⟨⟨a1, a2, a3, a4⟩, h2, ⟨d1, h3, h4⟩, h5⟩ := h
  have h1 : H[0]? = some retL := (h5 0 (by omega) (by omega) (by omega)).trans hK
  have st : ∀ x y z : D, cellOk x = true → cellOk y = true → cellOk z = true → setH 3 (.hp 0 0) (.agg [x, y, z]) H = some (.v undef, H.set 0 (.cells 27 3 [x, y, z])) := fun x y z hx hy hz => set_three H 0 _ _ _ _ x y z h1 hx hy hz
  have ld : ∀ x y z : D, loadH (some 3) (H.set 0 (.cells 27 3 [x, y, z])) (.hp 0 0) = some (.agg [x, y, z]) := fun x y z => by
    simp [List.getElem?_set_self (show 0 < H.length by omega)]
  refine ⟨d1, by simp [h3], ?_, ⟨_, st _ _ _ h4.ok rfl rfl, ld _ _ _, ?_⟩, ⟨_, st _ _ _ rfl rfl rfl, ld _ _ _⟩⟩
  · exact lift_dl h4 d.op d.n _ (by rw [if_pos ⟨hp, hn⟩]) rfl
  · exact (out_dl (h4.set 0 _ (by omega)) d.op d.n (iD 0) (iD 0) rfl rfl).1
def F_DGet : List D → Option D := F1 strT fun s => if s.length ≤ 3000 then some (.tup [dlD (getD12 s).1, iD (getD12 s).2]) else none
theorem putD_eq (d : Dl) (s : By) : (rightV d = true ∧ encDl d = s) ↔ ((putD12 d).2 = 0 ∧ (putD12 d).1 = s) := by
  unfold putD12
  split
  · rename_i h; simp [h]
  · rename_i h; simp [h]
theorem C_DGet : CallOk Try.prog 23 F_DGet := call1 (kp := kp_delta_Get) T12i_ok mixed Try.func23 (by kernel_rfl) (by decide) fun s d h => by
  split at h
  case isFalse => cases h
  rename_i hs
  cases h
  refine ⟨100, ?_⟩
  show ∃ d', outD (textK _ _ _ _ _ [sD s] []) = _ ∧ _
  rw [sh_delta_Get]
  have ha0 : allocH 27 [.v (.slice none 0 0), iD 0, iD 0] [] = some (.hp 0 0, [retL]) := rfl
  have hof : G_rOf Try.prog [sD s] [retL] = some (.hp 1 0, [retL, rdO s (0, 0)]) := rOf_ok s [retL]
  have ha2 : allocH 27 [.v (.slice none 0 0), iD 0, iD 0] [retL, rdO s (0, 0)] = some (.hp 2 0, [retL, rdO s (0, 0), retL]) := rfl
  generalize hK : ([retL, rdO s (0, 0), retL] : Heap) = K at *
  have hI0 : DInv 1 2 3 (rdO s (0, 0)) [] 0 0 K K := by
    rw [← hK]
    exact ⟨⟨by omega, by omega, by omega, by simp⟩, rfl, ⟨_, rfl, Buf.nil _ _ _ _⟩, fun _ _ _ _ => rfl⟩
  have hK0 : K[0]? = some retL := by rw [← hK]; rfl
  have hA := cnt_range s (0, 0) 30 (by omega)
  have hAi := cnt_in (s := s) (r := (0, 0)) (by simp) 30
  have c1 := rCount_ok s (0, 0) K 1 hI0.rd (by simp) (by omega) 30 (by omega) (by omega)
  obtain ⟨hpl, hpin⟩ := decDl_in s
  have hdec : decDl s = ⟨(pathR s (cntV s (0, 0) 30).1.toNat (cntV s (0, 0) 30).2).1, (bytV s (pathR s (cntV s (0, 0) 30).1.toNat (cntV s (0, 0) 30).2).2).1.toNat, (intV s (bytV s (pathR s (cntV s (0, 0) 30).1.toNat (cntV s (0, 0) 30).2).2).2).1⟩ := rfl
  have hI1 := hI0.read (rdO s (cntV s (0, 0) 30).2)
  generalize cntV s (0, 0) 30 = A at *
  obtain ⟨n, hn⟩ := Int.eq_ofNat_of_zero_le hA.1
  have hAn : A.1.toNat = n := by omega
  rw [hAn] at hdec
  obtain ⟨H1, z1, hI2⟩ := deltaGet_path s hs K 100 n 0 100 n A.2 [] _ (by omega) (by omega) (by omega) (by simp) hAi hI1
  have z1' : loopF Try.prog (T12i Try.prog) kp_delta_Get 100 Try.f23 0 [sD s, .hp 0 0, .hp 1 0, .hp 2 0, iD A.1, iD 0] (K.set 1 (rdO s A.2)) = some (.exit 0, [sD s, .hp 0 0, .hp 1 0, .hp 2 0, iD A.1, iD n], H1) := by rw [hn]; exact z1
  rw [List.nil_append] at hI2
  have hPi := pathR_in (s := s) n hAi
  generalize pathR s n A.2 = P at *
  have hby := rByte_ok s P.2 H1 1 hI2.rd hPi (by omega)
  have hI3 := hI2.read (rdO s (bytV s P.2).2)
  have hBi := byt_in (s := s) hPi
  generalize bytV s P.2 = C at *
  have hu : intOf64 .i64 (u8D C.1) = some (iD (C.1.toNat : Int)) := by
    have := C.1.toNat_lt
    exact i64_of _ _ (by omega) (by omega)
  have hint := rInt_ok s C.2 _ 1 hI3.rd hBi (by omega)
  have hI4 := hI3.read (rdO s (intV s C.2).2)
  generalize intV s C.2 = E at *
  obtain ⟨H5, st5, hI5, _⟩ := dl_set1 hI4 (C.1.toNat : Int)
  obtain ⟨H6, st6, hI6, _⟩ := dl_set2 hI5 E.1
  have hd : (⟨P.1, (C.1.toNat : Int), E.1⟩ : Dl) = decDl s := hdec.symm
  obtain ⟨d1, w1, w2, ⟨H7, w3, w4, d', w5, w6⟩, ⟨H8, w7, w8⟩⟩ := getL_end 1 2 3 _ K H6 (decDl s) (by rw [hdec]; exact hI6) (by omega) (by omega) hK0 (by omega) hpin
  rw [← hd] at w1 w2 w3 w4 w5 w6
  simp only at w1 w2 w3 w4 w5 w6
  rw [hd] at w2 w6
  have hb0 : buildR [(0, 1), (1, 1), (2, 1)] [.v (.slice none 0 0), iD 0, iD 0] [] = some (.agg [.v (.slice none 0 0), iD 0, iD 0]) := rfl
  have hno : ∃ d', outD (some (.tup [.agg [.v (.slice none 0 0), iD 0, iD 0], iD 12], H8)) = some d' ∧ Imp d' (.tup [dlD ⟨[], 0, 0⟩, iD 12]) := ⟨_, outD_tup _ _ rfl, Imp.tup (.cons imp_noneL (.cons (Imp.refl _) .nil))⟩
  have hgd : getD12 s = if (putD12 (decDl s)).2 = 0 ∧ (putD12 (decDl s)).1 = s then (decDl s, 0) else (⟨[], 0, 0⟩, 12) := by
    unfold getD12
    by_cases hc : rightV (decDl s) = true ∧ encDl (decDl s) = s
    · rw [if_pos hc, if_pos ((putD_eq _ _).1 hc)]
    · rw [if_neg hc, if_neg (fun h => hc ((putD_eq _ _).2 h))]
  rw [hgd]
  by_cases hz : (putD12 (decDl s)).2 = 0
  · by_cases hq : (putD12 (decDl s)).1 = s
    · rw [if_pos ⟨hz, hq⟩]
      refine ⟨d', ?_, w6⟩
      rw [← w5]
      rw [hq, hz] at w2
      simp only [ha0, thnH_some, hof, ha2, c1, z1', leaveK_exit, condN_same, List.getD_cons_zero, List.getD_cons_succ, hby, hu, thn_some, hint, fieldAt_hp, Nat.zero_add, st5, st6, w1, w2, ext0, ext1, binK_neq, bne_self_eq_false, condK_bool, Bool.false_eq_true, if_false, str_ne, decide_true, Bool.not_true, w3, w4]
    · rw [if_neg (fun h => hq h.2)]
      obtain ⟨d'', q1, q2⟩ := hno
      refine ⟨d'', ?_, q2⟩
      rw [← q1]
      rw [hz] at w2
      simp only [ha0, thnH_some, hof, ha2, c1, z1', leaveK_exit, condN_same, List.getD_cons_zero, List.getD_cons_succ, hby, hu, thn_some, hint, fieldAt_hp, Nat.zero_add, st5, st6, w1, w2, ext0, ext1, binK_neq, bne_self_eq_false, condK_bool, Bool.false_eq_true, if_false, str_ne, hq, decide_false, Bool.not_false, if_true, hb0, w7, w8]
  · rw [if_neg (fun h => hz h.1)]
    obtain ⟨d'', q1, q2⟩ := hno
    refine ⟨d'', ?_, q2⟩
    rw [← q1]
    have hz' : ((putD12 (decDl s)).2 != 0) = true := by simpa using hz
    simp only [ha0, thnH_some, hof, ha2, c1, z1', leaveK_exit, condN_same, List.getD_cons_zero, List.getD_cons_succ, hby, hu, thn_some, hint, fieldAt_hp, Nat.zero_add, st5, st6, w1, w2, ext0, ext1, binK_neq, hz', condK_bool, if_true, hb0, w7, w8]
theorem dread_pure (s : By) (hs : s.length ≤ 3000) (H : Heap) : liftF F_DRead [.agg [sD s, iD 0, iD 0]] H = some (.tup [.agg [sD s, iD (endQ s).1, iD (endQ s).2], dlD (decDlQ s)], H) := by
  rw [liftF_pure _ _ _ rfl]
  have : F_DRead [.agg [sD s, iD 0, iD 0]] = _ := f1_enc (A := rdT) _ (s, (0 : Int), (0 : Int))
  rw [this, if_pos ⟨rfl, hs⟩]; rfl
theorem dput_pure (d : Dl) (H : Heap) (h : d.path.length ≤ 100000) (hn : dlIn d) : liftF F_DPut [dlD d] H = some (.tup [sD (putD12 d).1, iD (putD12 d).2], H) := by
  rw [liftF_pure _ _ _ rfl]
  have : F_DPut [dlD d] = _ := f1_enc (A := dlT) _ d
  rw [this, if_pos ⟨h, hn⟩]; rfl
theorem C_RefDGet : CallOk Try.prog 24 F_DGet := call1 (kp := kp_offshootref12_Get) T12i_ok mixed Try.func24 (by kernel_rfl) (by decide) fun s d h => by
  split at h
  case isFalse => cases h
  rename_i hs
  cases h
  refine ⟨0, ?_⟩
  show ∃ d', outD (textK _ _ _ _ _ [sD s] []) = _ ∧ _
  rw [sh_offshootref12_Get]
  obtain ⟨hl, hn⟩ := decDlQ_in s
  have ha0 : allocH 27 [.v (.slice none 0 0), iD 0, iD 0] [] = some (.hp 0 0, [retL]) := rfl
  have hb : buildR [(0, 1), (1, 1), (2, 1)] [.v (.string ⟨#[]⟩), iD 0, iD 0] [(0, sD s)] = some (.agg [sD s, iD 0, iD 0]) := rfl
  have hr := dread_pure s hs [retL]
  have ha1 : allocH 85 [.v (.string ⟨#[]⟩), iD 0, iD 0] [retL] = some (.hp 1 0, [retL, .cells 85 3 [.v (.string ⟨#[]⟩), iD 0, iD 0]]) := rfl
  have ha2 : allocH 27 [.v (.slice none 0 0), iD 0, iD 0] [retL, .cells 85 3 [.v (.string ⟨#[]⟩), iD 0, iD 0]] = some (.hp 2 0, [retL, .cells 85 3 [.v (.string ⟨#[]⟩), iD 0, iD 0], retL]) := rfl
  have s1 := set_three [retL, .cells 85 3 [.v (.string ⟨#[]⟩), iD 0, iD 0], retL] 1 _ _ _ _ (sD s) (iD (endQ s).1) (iD (endQ s).2) rfl rfl rfl rfl
  have hgd : getD12 s = if (putD12 (decDlQ s)).2 = 0 ∧ (putD12 (decDlQ s)).1 = s then (decDlQ s, 0) else (⟨[], 0, 0⟩, 12) := by
    rw [← refD_eq s (decDl_in s).2 hn]
    unfold refD12
    by_cases hc : rightV (decDlQ s) = true ∧ encDl (decDlQ s) = s
    · rw [if_pos hc, if_pos ((putD_eq _ _).1 hc)]
    · rw [if_neg hc, if_neg (fun h => hc ((putD_eq _ _).2 h))]
  rw [hgd]
  clear hgd
  generalize decDlQ s = q at *
  have s2 : setH 3 (.hp 2 0) (dlD q) [retL, .cells 85 3 [sD s, iD (endQ s).1, iD (endQ s).2], retL] = some (.v undef, [retL, .cells 85 3 [sD s, iD (endQ s).1, iD (endQ s).2], boxL q]) := set_three [retL, .cells 85 3 [sD s, iD (endQ s).1, iD (endQ s).2], retL] 2 _ _ _ _ (intsD q.path) (iD q.op) (iD q.n) rfl rfl rfl rfl
  have ld : loadH (some 3) [retL, .cells 85 3 [sD s, iD (endQ s).1, iD (endQ s).2], boxL q] (.hp 2 0) = some (dlD q) := rfl
  have hp := dput_pure q [retL, .cells 85 3 [sD s, iD (endQ s).1, iD (endQ s).2], boxL q] (by omega) hn
  have hb0 : buildR [(0, 1), (1, 1), (2, 1)] [.v (.slice none 0 0), iD 0, iD 0] [] = some (.agg [.v (.slice none 0 0), iD 0, iD 0]) := rfl
  have s3 : setH 3 (.hp 0 0) (dlD q) [retL, .cells 85 3 [sD s, iD (endQ s).1, iD (endQ s).2], boxL q] = some (.v undef, [boxL q, .cells 85 3 [sD s, iD (endQ s).1, iD (endQ s).2], boxL q]) := set_three [retL, .cells 85 3 [sD s, iD (endQ s).1, iD (endQ s).2], boxL q] 0 _ _ _ _ (intsD q.path) (iD q.op) (iD q.n) rfl rfl rfl rfl
  have ld3 : loadH (some 3) [boxL q, .cells 85 3 [sD s, iD (endQ s).1, iD (endQ s).2], boxL q] (.hp 0 0) = some (dlD q) := rfl
  have s4 : setH 3 (.hp 0 0) (.agg [.v (.slice none 0 0), iD 0, iD 0]) [retL, .cells 85 3 [sD s, iD (endQ s).1, iD (endQ s).2], boxL q] = some (.v undef, [retL, .cells 85 3 [sD s, iD (endQ s).1, iD (endQ s).2], boxL q]) := rfl
  have ld4 : loadH (some 3) [retL, .cells 85 3 [sD s, iD (endQ s).1, iD (endQ s).2], boxL q] (.hp 0 0) = some (.agg [.v (.slice none 0 0), iD 0, iD 0]) := rfl
  by_cases hz : (putD12 q).2 = 0
  · by_cases hq : (putD12 q).1 = s
    · rw [if_pos ⟨hz, hq⟩]
      rw [hq, hz] at hp
      refine ⟨_, ?_, Imp.refl _⟩
      simp only [ha0, thnH_some, hb, thn_some, hr, ext0, ext1, ha1, ha2, s1, List.set_cons_succ, List.set_cons_zero, s2, ld, hp, binK_neq, bne_self_eq_false, condK_bool, Bool.false_eq_true, if_false, str_ne, decide_true, Bool.not_true, s3, ld3]
      exact outD_tup _ _ rfl
    · rw [if_neg (fun h => hq h.2)]
      rw [hz] at hp
      refine ⟨.tup [.agg [.v (.slice none 0 0), iD 0, iD 0], iD 12], ?_, Imp.tup (.cons imp_noneL (.cons (Imp.refl _) .nil))⟩
      simp only [ha0, thnH_some, hb, thn_some, hr, ext0, ext1, ha1, ha2, s1, List.set_cons_succ, List.set_cons_zero, s2, ld, hp, binK_neq, bne_self_eq_false, condK_bool, Bool.false_eq_true, if_false, str_ne, hq, decide_false, Bool.not_false, if_true, hb0, s4, ld4]
      exact outD_tup _ _ rfl
  · rw [if_neg (fun h => hz h.1)]
    have hz' : ((putD12 q).2 != 0) = true := by simpa using hz
    refine ⟨.tup [.agg [.v (.slice none 0 0), iD 0, iD 0], iD 12], ?_, Imp.tup (.cons imp_noneL (.cons (Imp.refl _) .nil))⟩
    simp only [ha0, thnH_some, hb, thn_some, hr, ext0, ext1, ha1, ha2, s1, List.set_cons_succ, List.set_cons_zero, s2, ld, hp, binK_neq, hz', condK_bool, if_true, hb0, s4, ld4]
    exact outD_tup _ _ rfl
def fs12j (P : Program) : List Entry := (23, true, liftF F_DGet) :: (24, true, liftF F_DGet) :: fs12i P
theorem fs12j_ok : ∀ p ∈ fs12j Try.prog, EntryOk Try.prog p := entries_cons (entry_lift C_DGet) <| entries_cons (entry_lift C_RefDGet) <| fs12i_ok
def T12j (P : Program) : Tab := ⟨fs12j P, noYl⟩
theorem T12j_ok : TabOk Try.prog (T12j Try.prog) := tabOk_of fs12j_ok
end Go.Proofs.Ytalehbmgbjiigaa
end

section
namespace Go.Proofs.Ytalehbmgbjiigaa
open Go.RowKit
set_option linter.unusedVariables false
set_option maxRecDepth 100000

def kp_offshootlaw12_few : List Nat := []
theorem sh_offshootlaw12_few (n : Nat) (x0 : D) (h : Heap) : textK Try.prog (T12j Try.prog) kp_offshootlaw12_few n Try.f17 [x0] h =
(thnH (boxH 27 x0 h) fun y0 h1 =>
thn (fieldAtH 0 y0) fun y2 =>
thn (loadH none h1 y2) fun y3 =>
thn (lenH .sl y3) fun y4 =>
thn (binK .int .leq y4 (iD 60)) fun y5 =>
some (y5, h1)) := by kernel_rfl

end Go.Proofs.Ytalehbmgbjiigaa
end

section
namespace Go.Proofs.Ytalehbmgbjiigaa
open Go.RowKit
set_option linter.unusedVariables false
set_option linter.unusedSimpArgs false
set_option maxRecDepth 100000

def F_true12 : List D → Option D := F0 (some (bD true))
def F_dfew : List D → Option D := F1 dlT fun d => some (bD (decide (d.path.length ≤ 60)))
theorem C_dfew : CallOk Try.prog 17 F_dfew := call1 (kp := kp_offshootlaw12_few) T12j_ok mixed Try.func17 (by kernel_rfl) (by decide) fun d r h => by
  cases h
  refine ⟨0, _, ?_, Imp.refl _⟩
  show outD (textK _ _ _ _ _ [dlD d] []) = _
  rw [sh_offshootlaw12_few]
  by_cases h1 : (d.path.length : Int) ≤ 60
  · have h2 : d.path.length ≤ 60 := by omega
    simp [h1, h2]
  · have h2 : ¬ d.path.length ≤ 60 := by omega
    simp [h1, h2]
/- In the document's example rows of the call's own are handed on: there Apply is run by its text. -/
theorem N_chNode : CallNew Try.prog 86 F_chNode := by
  refine ⟨C_chNode.body, fun ds d hF S vs w hS hv => ?_⟩
  refine (C_chNode.calls ds d hF S vs w hS hv).mono ?_
  rintro e w' ⟨v, rfl, h1, h2⟩
  refine ⟨v, rfl, ?_, h2⟩
  unfold F_chNode F1 at hF
  split at hF
  · obtain ⟨c, hc, hF⟩ := Option.bind_eq_some_iff.1 hF
    split at hF
    · cases hF
      simp only [Rep, nodeD, RepA] at h1 ⊢
      exact h1
    · cases hF
  · cases hF
def fs12c' (P : Program) : List Entry := (86, true, liftN F_chNode) :: fs12c P
theorem fs12c'_ok : ∀ p ∈ fs12c' Try.prog, EntryOk Try.prog p := entries_cons (entry_new N_chNode) <| fs12c_ok
def T12c' (P : Program) : Tab := ⟨fs12c' P, noYl⟩
theorem T12c'_ok : TabOk Try.prog (T12c' Try.prog) := tabOk_of fs12c'_ok
def G_constant (P : Program) : List D → Heap → Option (D × Heap) := textG P (T12c' P) kp_delta_change__constant 0 44
theorem C_Gconstant : HCallOk Try.prog 44 (G_constant Try.prog) := hcall_G T12c'_ok mixed Try.func44 (by kernel_rfl) (by decide)
def fs12y (P : Program) : List Entry := (46, true, liftN F_negate) :: (44, false, G_constant P) :: fs12e P
theorem fs12y_ok : ∀ p ∈ fs12y Try.prog, EntryOk Try.prog p := entries_cons (entry_new N_negate) <| entries_cons (entry_obj C_Gconstant) <| fs12e_ok
def T12y (P : Program) : Tab := ⟨fs12y P, noYl⟩
theorem T12y_ok : TabOk Try.prog (T12y Try.prog) := tabOk_of fs12y_ok
def G_DApply (P : Program) : List D → Heap → Option (D × Heap) := textG P (T12y P) kp_delta_Apply 0 18
theorem C_GDApply : HCallOk Try.prog 18 (G_DApply Try.prog) := hcall_G T12y_ok mixed Try.func18 (by kernel_rfl) (by decide)
def fs12x (P : Program) : List Entry := (18, false, G_DApply P) :: fs12j P
theorem fs12x_ok : ∀ p ∈ fs12x Try.prog, EntryOk Try.prog p := entries_cons (entry_obj C_GDApply) <| fs12j_ok
def T12x (P : Program) : Tab := ⟨fs12x P, noYl⟩
theorem T12x_ok : TabOk Try.prog (T12x Try.prog) := tabOk_of fs12x_ok
theorem works12 : outD (textK Try.prog (T12x Try.prog) [] 20 Try.f15 [] []) = some (bD true) := by kernel_rfl
theorem C_works12 : CallOk Try.prog 15 F_true12 := call0 (kp := []) T12x_ok mixed Try.func15 (by kernel_rfl) (by decide) fun d h => by
  cases h
  exact ⟨20, _, works12, Imp.refl _⟩
def fsL12 (P : Program) : List Entry := (15, true, liftF F_true12) :: (17, true, liftF F_dfew) :: fs12j P
theorem fsL12_ok : ∀ p ∈ fsL12 Try.prog, EntryOk Try.prog p := entries_cons (entry_lift C_works12) <| entries_cons (entry_lift C_dfew) <| fs12j_ok
def L12 (P : Program) : Tab := ⟨fsL12 P, noYl⟩
theorem L12_ok : TabOk Try.prog (L12 Try.prog) := tabOk_of fsL12_ok
end Go.Proofs.Ytalehbmgbjiigaa
end

section
namespace Go.Proofs.Ytalehbmgbjiigaa
open Go.RowKit
set_option linter.unusedVariables false
set_option maxRecDepth 100000

def kp_kinds_Vars : List Nat := [1, 2, 23, 24, 25]
theorem sh_kinds_Vars (n : Nat) (x0 : D) (h : Heap) : textK Try.prog T09a kp_kinds_Vars n Try.f81 [x0] h =
(thnH (boxH 25 x0 h) fun y0 h1 =>
thn (fieldAtH 0 y0) fun y2 =>
thn (loadH none h1 y2) fun y3 =>
thn (binK .int .lss y3 (iD 0)) fun y4 =>
condK y4
(some ((iD 14), h1))
(thn (fieldAtH 0 y0) fun y5 =>
thn (loadH none h1 y5) fun y6 =>
thn (fieldAtH 1 y0) fun y7 =>
thn (loadH none h1 y7) fun y8 =>
thn (lenH .sl y8) fun y9 =>
thn (binK .int .gtr y6 y9) fun y10 =>
condK y10
(some ((iD 14), h1))
(thn (fieldAtH 1 y0) fun y11 =>
thn (loadH none h1 y11) fun y12 =>
thn (lenH .sl y12) fun y13 =>
thn (binK .int .gtr y13 (iD 12)) fun y14 =>
condK y14
(some ((iD 14), h1))
(thn (fieldAtH 1 y0) fun y15 =>
thn (loadH none h1 y15) fun y16 =>
thn (lenH .sl y16) fun y17 =>
leaveK (loopF Try.prog T09a kp_kinds_Vars n Try.f81 0 [y0, (iD 0), y16, y17, (iD 0)] h1) (fun j18 s19 h20 =>
condN j18 0
(some ((iD 0), h20))
(none)) (fun s19 h20 =>
some ((s19.getD 1 .undef), h20)))))) := by kernel_rfl

theorem st_kinds_Vars_0 (n : Nat) (s0 s1 s2 s3 s4 : D) (h : Heap) : stepF Try.prog T09a kp_kinds_Vars n Try.f81 0 [s0, s1, s2, s3, s4] h =
(thn (binK .int .lss s4 s3) fun y0 =>
condK y0
(thn (idxH 1 s2 s4) fun y1 =>
thn (loadH none h y1) fun y2 =>
thn (binK .int .neq y2 (iD 0)) fun y3 =>
condK y3
(thn (fieldAtH 0 s0) fun y4 =>
thn (loadH none h y4) fun y5 =>
thn (binK .int .lss s4 y5) fun y6 =>
condK y6
(some (.ret, [s0, (iD 14), s2, s3, s4], h))
(thn (binK .int .neq y2 (iD 1)) fun y7 =>
condK y7
(thnH (liftF F_Size [y2] h) fun y8 h9 =>
thn (binK .int .eql y8 (iD 0)) fun y10 =>
condK y10
(some (.ret, [s0, (iD 14), s2, s3, s4], h9))
(thn (binK .int .add s4 (iD 1)) fun y11 =>
some (.normal, [s0, s1, s2, s3, y11], h9)))
(thn (binK .int .add s4 (iD 1)) fun y12 =>
some (.normal, [s0, s1, s2, s3, y12], h))))
(thn (binK .int .add s4 (iD 1)) fun y13 =>
some (.normal, [s0, s1, s2, s3, y13], h)))
(some ((.exit 0), [s0, s1, s2, s3, s4], h))) := by kernel_rfl

def kp_offshootref09_Vars : List Nat := [1, 2, 3]
def kp_kinds_Same : List Nat := []
def kp_bits_Mul : List Nat := []
theorem sh_bits_Mul (n : Nat) (x0 x1 : D) (h : Heap) : textK Try.prog T09a kp_bits_Mul n Try.f149 [x0, x1] h =
(thnH (liftF F_Mul [x0, x1] h) fun y0 h1 =>
thn (extractD y0 0) fun y2 =>
thn (extractD y0 1) fun y3 =>
some (.tup [y2, y3], h1)) := by kernel_rfl

def kp_kinds_plain__kind : List Nat := []
theorem sh_kinds_plain__kind (n : Nat) (x0 x1 x2 : D) (h : Heap) : textK Try.prog T09a kp_kinds_plain__kind n Try.f189 [x0, x1, x2] h =
(thnH (boxH 142 x0 h) fun y0 h1 =>
thnH (boxH 25 x1 h1) fun y2 h3 =>
thnH (boxH 46 x2 h3) fun y4 h5 =>
thn (fieldAtH 1 y0) fun y6 =>
thn (loadH none h5 y6) fun y7 =>
some (y7, h5)) := by kernel_rfl

def kp_kinds_scalar__kind : List Nat := []
theorem sh_kinds_scalar__kind (n : Nat) (x0 x1 x2 : D) (h : Heap) : textK Try.prog T09a kp_kinds_scalar__kind n Try.f190 [x0, x1, x2] h =
(thnH (boxH 144 x0 h) fun y0 h1 =>
thnH (boxH 25 x1 h1) fun y2 h3 =>
thnH (boxH 46 x2 h3) fun y4 h5 =>
thn (fieldAtH 1 y4) fun y6 =>
thn (loadH none h5 y6) fun y7 =>
thn (fieldAtH 1 y2) fun y8 =>
thn (loadH none h5 y8) fun y9 =>
thn (lenH .sl y9) fun y10 =>
thn (binK .int .geq y7 y10) fun y11 =>
condK y11
(some ((iD (-1)), h5))
(thn (fieldAtH 1 y2) fun y12 =>
thn (loadH none h5 y12) fun y13 =>
thn (fieldAtH 1 y4) fun y14 =>
thn (loadH none h5 y14) fun y15 =>
thn (idxH 1 y13 y15) fun y16 =>
thn (loadH none h5 y16) fun y17 =>
thn (binK .int .neq y17 (iD 0)) fun y18 =>
condK y18
(thn (fieldAtH 1 y2) fun y19 =>
thn (loadH none h5 y19) fun y20 =>
thn (fieldAtH 1 y4) fun y21 =>
thn (loadH none h5 y21) fun y22 =>
thn (idxH 1 y20 y22) fun y23 =>
thn (loadH none h5 y23) fun y24 =>
thn (binK .int .neq y24 (iD 1)) fun y25 =>
condK y25
(some ((iD (-1)), h5))
(thn (fieldAtH 0 y0) fun y26 =>
thn (loadH none h5 y26) fun y27 =>
condK y27
(some ((iD 2), h5))
(thn (fieldAtH 1 y2) fun y28 =>
thn (loadH none h5 y28) fun y29 =>
thn (fieldAtH 1 y4) fun y30 =>
thn (loadH none h5 y30) fun y31 =>
thn (idxH 1 y29 y31) fun y32 =>
thn (loadH none h5 y32) fun y33 =>
some (y33, h5))))
(thn (fieldAtH 0 y0) fun y34 =>
thn (loadH none h5 y34) fun y35 =>
condK y35
(some ((iD 2), h5))
(thn (fieldAtH 1 y2) fun y36 =>
thn (loadH none h5 y36) fun y37 =>
thn (fieldAtH 1 y4) fun y38 =>
thn (loadH none h5 y38) fun y39 =>
thn (idxH 1 y37 y39) fun y40 =>
thn (loadH none h5 y40) fun y41 =>
some (y41, h5))))) := by kernel_rfl

def kp_kinds_array__kind : List Nat := []
theorem sh_kinds_array__kind (n : Nat) (x0 x1 x2 : D) (h : Heap) : textK Try.prog T09a kp_kinds_array__kind n Try.f191 [x0, x1, x2] h =
(thnH (boxH 146 x0 h) fun y0 h1 =>
thnH (boxH 25 x1 h1) fun y2 h3 =>
thnH (boxH 46 x2 h3) fun y4 h5 =>
thn (fieldAtH 1 y4) fun y6 =>
thn (loadH none h5 y6) fun y7 =>
thn (fieldAtH 1 y2) fun y8 =>
thn (loadH none h5 y8) fun y9 =>
thn (lenH .sl y9) fun y10 =>
thn (binK .int .geq y7 y10) fun y11 =>
condK y11
(some ((iD (-1)), h5))
(thn (fieldAtH 1 y2) fun y12 =>
thn (loadH none h5 y12) fun y13 =>
thn (fieldAtH 1 y4) fun y14 =>
thn (loadH none h5 y14) fun y15 =>
thn (idxH 1 y13 y15) fun y16 =>
thn (loadH none h5 y16) fun y17 =>
thnH (liftF F_Size [y17] h5) fun y18 h19 =>
thn (binK .int .eql y18 (iD 0)) fun y20 =>
condK y20
(some ((iD (-1)), h19))
(thn (fieldAtH 0 y0) fun y21 =>
thn (fieldAtH 1 y21) fun y22 =>
thn (loadH none h19 y22) fun y23 =>
some (y23, h19)))) := by kernel_rfl

end Go.Proofs.Ytalehbmgbjiigaa
end

section
namespace Go.Proofs.Ytalehbmgbjiigaa
open Go.RowKit
set_option linter.unusedVariables false
set_option linter.unusedSimpArgs false

/-- May a variable be of a type? -/
def vGood (params : Int) (i : Nat) (t : Int) : Bool := decide (0 ≤ t ∧ t ≤ 9 ∧ ((i : Int) < params → t = 0))
def varsOk (p : Pg) : Bool := decide (0 ≤ p.params ∧ p.params ≤ p.vars.length ∧ p.vars.length ≤ 12) && (List.range p.vars.length).all fun i => vGood p.params i (p.vars.getD i 0)
def varsV (p : Pg) : Int := if varsOk p then 0 else 14
def F_Vars : List D → Option D := F1 progT fun p => some (iD (varsV p))
theorem size_pure (t : Int) (H : Heap) : liftF F_Size [iD t] H = some (iD (sizeV t), H) := by rw [liftF_pure _ _ _ rfl]; rfl
theorem varsV_no1 {p : Pg} (h : ¬ (0 ≤ p.params ∧ p.params ≤ p.vars.length ∧ p.vars.length ≤ 12)) : varsV p = 14 := by simp [varsV, varsOk, h]
theorem varsV_yes {p : Pg} (h : 0 ≤ p.params ∧ p.params ≤ p.vars.length ∧ p.vars.length ≤ 12) (h2 : ∀ i, 0 ≤ i → i < p.vars.length → vGood p.params i (p.vars.getD i 0) = true) : varsV p = 0 := by
  have : (List.range p.vars.length).all (fun i => vGood p.params i (p.vars.getD i 0)) = true := by
    rw [List.all_eq_true]; intro i hi; exact h2 i (Nat.zero_le _) (by simpa using hi)
  unfold varsV varsOk
  rw [this]; simp [h]
theorem varsV_no2 {p : Pg} {i : Nat} (hi : i < p.vars.length) (h2 : vGood p.params i (p.vars.getD i 0) = false) : varsV p = 14 := by
  have : (List.range p.vars.length).all (fun i => vGood p.params i (p.vars.getD i 0)) = false := by
    rw [Bool.eq_false_iff]; intro e; rw [List.all_eq_true] at e
    have := e i (by simpa using hi)
    rw [h2] at this; cases this
  unfold varsV varsOk
  rw [this]; simp

theorem C_Vars : CallOk Try.prog 81 F_Vars := call1 (kp := kp_kinds_Vars) T09a_ok mixed Try.func81 (by kernel_rfl) (by decide) fun p d h => by
  cases h
  refine ⟨p.vars.length + 1, _, ?_, Imp.refl _⟩
  show outD (textK _ _ _ _ _ [progD p] []) = _
  rw [sh_kinds_Vars]
  by_cases h1 : p.params < 0
  · rw [varsV_no1 (by omega)]; simp [h1]
  by_cases h2 : (p.vars.length : Int) < p.params
  · rw [varsV_no1 (by omega)]; simp [h1, h2]
  by_cases h3 : (12 : Int) < p.vars.length
  · rw [varsV_no1 (by omega)]; simp [h1, h2, h3]
  have hs := loopF_scan (P := Try.prog) (T := T09a) (kp := kp_kinds_Vars) (fn := Try.f81) (li := 0) (fun i => [.hp 0 0, iD 0, intsD p.vars, iD p.vars.length, iD i]) (pgH 25 p) p.vars.length (fun i => vGood p.params i (p.vars.getD i 0))
    (fun i => (.ret, [.hp 0 0, iD 14, intsD p.vars, iD p.vars.length, iD i], pgH 25 p)) (.exit 0, [.hp 0 0, iD 0, intsD p.vars, iD p.vars.length, iD p.vars.length], pgH 25 p)
    (fun i => by intro e; cases e) (by intro e; cases e) 0 (p.vars.length + 1) (Nat.zero_le _) (by omega)
    (fun i _ hi hp => by
      have e1 := intD_add (i : Int) 1 (by omega) (by omega)
      have h4 : (i : Int) < p.vars.length := by omega
      rw [st_kinds_Vars_0]
      simp only [vGood, decide_eq_true_eq, getD_in _ i 0 hi] at hp
      by_cases h5 : p.vars[i] = 0
      · simp [pgH, h4, idx_intsN _ _ hi, h5, e1]
      · have h6 : ¬ (i : Int) < p.params := fun h => h5 (hp.2.2 h)
        by_cases h7 : p.vars[i] = 1
        · simp [pgH, h4, idx_intsN _ _ hi, h5, h6, h7, e1]
        · have h8 : ¬ sizeV p.vars[i] = 0 := by unfold sizeV; rw [if_pos (by omega)]; omega
          simp [pgH, h4, idx_intsN _ _ hi, h5, h6, h7, h8, e1, size_pure])
    (fun i _ hi hp => by
      have h4 : (i : Int) < p.vars.length := by omega
      rw [st_kinds_Vars_0]
      simp only [vGood, decide_eq_false_iff_not, getD_in _ i 0 hi] at hp
      have h5 : ¬ p.vars[i] = 0 := fun h => hp (by omega)
      by_cases h6 : (i : Int) < p.params
      · simp [pgH, h4, idx_intsN _ _ hi, h5, h6]
      · have h7 : ¬ p.vars[i] = 1 := fun h => hp (by omega)
        have h8 : sizeV p.vars[i] = 0 := by unfold sizeV; rw [if_neg (by omega)]
        simp [pgH, h4, idx_intsN _ _ hi, h5, h6, h7, h8, size_pure])
    (by rw [st_kinds_Vars_0]; simp)
  rcases hs with ⟨q1, q2⟩ | ⟨i, q0, q1, q2, q3, q4⟩
  · rw [varsV_yes (by omega) q1]
    simp only [pgH, cast0] at q2
    simp [h1, h2, h3, q2]
  · rw [varsV_no2 q1 q2]
    simp only [pgH, cast0] at q4
    simp [h1, h2, h3, q4]
theorem equalInts_pure (a b : List Int) (H : Heap) (ha : a.length ≤ 3000000) (hb : b.length ≤ 3000000) : liftF F_EqualInts [intsD a, intsD b] H = some (bD (decide (a = b)), H) := by
  rw [liftF_pure _ _ _ rfl]; unfold F_EqualInts; rw [show [intsD a, intsD b] = [intsT.enc a, intsT.enc b] from rfl, f2_enc, if_pos ⟨ha, hb⟩]; rfl
theorem mul_pure (k : Int) (H : Heap) (h0 : 0 ≤ k) (h : k < 4294967296) : liftF F_Mul [.v (.int .u64 1), .v (.int .u64 k)] H = some (.tup [.v (.int .u64 0), .v (.int .u64 k)], H) := by
  rw [liftF_pure _ _ _ rfl]; simp [F_Mul, h0, h]
theorem C_Mul : CallOk Try.prog 149 F_Mul := by
  refine call_text (kp := kp_bits_Mul) T09a_ok mixed Try.func149 (by kernel_rfl) (by decide) fun ds d h => ⟨0, ?_⟩
  unfold F_Mul at h
  split at h
  case h_2 => cases h
  rename_i k
  split at h
  case isFalse => cases h
  rename_i hk
  cases h
  rw [sh_bits_Mul]
  simp [mul_pure k _ hk.1 hk.2, extractD, tupOf]

/-- Kinds by rules: of a rule that asks kids alone; of one that asks a variable. -/
def arrayKindV (vs : List Int) (n is : Int) : Int := if sizeV (typedV vs n) = 0 then -1 else is
def scalarKindV (vs : List Int) (n : Int) (set : Bool) : Int := if typedV vs n = 0 ∨ typedV vs n = 1 then (if set then 2 else typedV vs n) else -1
def ruleKind (vs : List Int) (n : Int) : RuleT → Int
  | .plain _ is => is
  | .array _ is => arrayKindV vs n is
  | .scalar b => scalarKindV vs n b
  | .none => 2
/-- Does a rule ask for a variable? -/
def needN : RuleT → Bool
  | .plain _ _ | .none => false
  | _ => true
abbrev numOk (r : RuleT) (x : Nd) : Prop := needN r = true → 0 ≤ x.2 ∧ x.2 ≤ 1000000
/-- The cells of a rule's own struct. -/
def ruleIn (t : TypeId) (d : D) : Option RuleT := RuleT.dec (.ifc t d)
def F_kindOf (t : TypeId) : List D → Option D
  | [r, p, x] => (ruleIn t r).bind fun r => (asProg p).bind fun p => (asNd x).bind fun x => if numOk r x then some (iD (ruleKind p.vars x.2 r)) else none
  | _ => none
theorem kind_spelt {T : Tab} {kp : List Nat} (hT : TabOk Try.prog T) {f : FuncId} {fn : Func} (hf : Try.prog.funcs[f]? = some fn) (hb : fn.body.isSome = true) (hname : fn.name ≠ "runtime.NumGoroutine") (t : TypeId)
    (h : ∀ d r p x, ruleIn t d = some r → numOk r x → ∃ d', Imp d d' ∧ ∃ n, outD (textK Try.prog T kp n fn [d', progD p, .agg (nodeD x)] []) = some (iD (ruleKind p.vars x.2 r))) : CallOk Try.prog f (F_kindOf t) :=
  call_spelt hT mixed hf hb hname fun ds d hF => by
    unfold F_kindOf at hF
    split at hF
    · obtain ⟨r, h1, hF⟩ := Option.bind_eq_some_iff.1 hF
      obtain ⟨p, h2, hF⟩ := Option.bind_eq_some_iff.1 hF
      obtain ⟨x, h3, hF⟩ := Option.bind_eq_some_iff.1 hF
      split at hF
      · rename_i h0
        cases hF
        obtain ⟨d', h4, n, h5⟩ := h _ r p x h1 h0
        exact ⟨_, _, n, .cons h4 (.cons (progT.ok _ _ h2) (.cons (ndT.ok _ _ h3) .nil)), h5, Imp.refl _⟩
      · cases hF
    · cases hF
theorem typed_out {vs : List Int} {n : Int} (h0 : 0 ≤ n) (h : (vs.length : Int) ≤ n) : typedV vs n = -1 := by
  unfold typedV
  have : vs[n.toNat]? = none := List.getElem?_eq_none (by omega)
  rw [if_neg (by omega), List.getD_eq_getElem?_getD, this]; rfl
theorem typed_in {vs : List Int} {n : Int} (h0 : 0 ≤ n) (h : n.toNat < vs.length) : typedV vs n = vs[n.toNat] := by
  unfold typedV
  rw [if_neg (by omega), getD_in _ _ _ h]
theorem C_plainKind : CallOk Try.prog 189 (F_kindOf 142) :=
  kind_spelt (kp := kp_kinds_plain__kind) T09a_ok Try.func189 (by kernel_rfl) (by decide) _ fun d r p x hr hn => by
    unfold ruleIn RuleT.dec at hr
    split at hr
    · rename_i t ks is he
      cases he
      simp only [if_true] at hr
      obtain ⟨l, hl, rfl⟩ := Option.map_eq_some_iff.1 hr
      refine ⟨.agg [intsD l, iD is], Imp.agg (.cons (imp_ints hl) (ImpL.refl _)), 0, ?_⟩
      rw [sh_kinds_plain__kind, box_agg _ _ _ rfl]
      simp [ruleKind]
    · rename_i he
      split at hr
      · rename_i h2; cases he; cases h2
      · cases hr
    · rename_i he; cases he
    · cases hr
theorem C_arrayKind : CallOk Try.prog 191 (F_kindOf 146) :=
  kind_spelt (kp := kp_kinds_array__kind) T09a_ok Try.func191 (by kernel_rfl) (by decide) _ fun d r p x hr hn => by
    unfold ruleIn RuleT.dec at hr
    split at hr
    · rename_i t ks is he
      cases he
      rw [if_neg (by decide)] at hr
      simp only [if_true] at hr
      obtain ⟨l, hl, rfl⟩ := Option.map_eq_some_iff.1 hr
      have h0 := (hn rfl).1
      refine ⟨.agg [intsD l, iD is], Imp.agg (.cons (imp_ints hl) (ImpL.refl _)), 0, ?_⟩
      rw [sh_kinds_array__kind, box_agg _ _ _ rfl]
      by_cases h1 : (p.vars.length : Int) ≤ x.2
      · have := typed_out h0 h1
        simp [ruleKind, arrayKindV, this, sizeV, h1]
      · have h2 : x.2.toNat < p.vars.length := by omega
        have := typed_in h0 h2
        by_cases h3 : sizeV p.vars[x.2.toNat] = 0
        · simp [ruleKind, arrayKindV, this, h1, idx_ints _ _ h0 h2, size_pure, h3]
        · simp [ruleKind, arrayKindV, this, h1, idx_ints _ _ h0 h2, size_pure, h3]
    · rename_i he
      split at hr
      · rename_i h2; cases he; cases h2
      · cases hr
    · rename_i he; cases he
    · cases hr
theorem C_scalarKind : CallOk Try.prog 190 (F_kindOf 144) :=
  kind_spelt (kp := kp_kinds_scalar__kind) T09a_ok Try.func190 (by kernel_rfl) (by decide) _ fun d r p x hr hn => by
    unfold ruleIn RuleT.dec at hr
    split at hr
    · rename_i t ks is he
      cases he
      rw [if_neg (by decide), if_neg (by decide)] at hr
      cases hr
    · rename_i b he
      cases he
      simp only [if_true] at hr
      cases hr
      have h0 := (hn rfl).1
      refine ⟨_, Imp.refl _, 0, ?_⟩
      rw [sh_kinds_scalar__kind, box_agg _ _ _ rfl]
      by_cases h1 : (p.vars.length : Int) ≤ x.2
      · have := typed_out h0 h1
        simp [ruleKind, scalarKindV, this, h1]
      · have h2 : x.2.toNat < p.vars.length := by omega
        have := typed_in h0 h2
        by_cases h3 : p.vars[x.2.toNat] = 0
        · cases b <;> simp [ruleKind, scalarKindV, this, h1, idx_ints _ _ h0 h2, h3]
        · by_cases h4 : p.vars[x.2.toNat] = 1
          · cases b <;> simp [ruleKind, scalarKindV, this, h1, idx_ints _ _ h0 h2, h3, h4]
          · cases b <;> simp [ruleKind, scalarKindV, this, h1, idx_ints _ _ h0 h2, h3, h4]
    · rename_i he; cases he
    · cases hr

def fs09b : List Entry := (81, true, liftF F_Vars) :: (149, true, liftF F_Mul) :: (189, true, liftF (F_kindOf 142)) :: (190, true, liftF (F_kindOf 144)) :: (191, true, liftF (F_kindOf 146)) :: fs09a
theorem fs09b_ok : ∀ p ∈ fs09b, EntryOk Try.prog p := entries_cons (entry_lift C_Vars) <| entries_cons (entry_lift C_Mul) <| entries_cons (entry_lift C_plainKind) <| entries_cons (entry_lift C_scalarKind) <| entries_cons (entry_lift C_arrayKind) <| fs09a_ok
def T09b : Tab := ⟨fs09b, noYl⟩
theorem T09b_ok : TabOk Try.prog T09b := tabOk_of fs09b_ok
end Go.Proofs.Ytalehbmgbjiigaa
end

section
namespace Go.Proofs.Ytalehbmgbjiigaa
open Go.RowKit
set_option linter.unusedVariables false
set_option maxRecDepth 100000

def kp_slices_Repeat___int_int_ : List Nat := [7, 8]
theorem sh_slices_Repeat___int_int_ (n : Nat) (x0 x1 : D) (h : Heap) : textK Try.prog T09b kp_slices_Repeat___int_int_ n Try.f138 [x0, x1] h =
(thn (binK .int .lss x1 (iD 0)) fun y0 =>
condK y0
(none /- UNSUPPORTED panic -/)
(thn (lenH .sl x0) fun y1 =>
thn (intOf64 .u64 y1) fun y2 =>
thn (intOf64 .u64 x1) fun y3 =>
thnH (liftF F_Mul [y2, y3] h) fun y4 h5 =>
thn (extractD y4 0) fun y6 =>
thn (extractD y4 1) fun y7 =>
thn (binK .int .gtr y6 (.v (.int .u64 0))) fun y8 =>
condK y8
(none /- UNSUPPORTED panic -/)
(thn (binK .int .gtr y7 (.v (.int .u64 9223372036854775807))) fun y9 =>
condK y9
(none /- UNSUPPORTED panic -/)
(thn (intOf64 .i64 y7) fun y10 =>
thnH (makeH 3 1 [(iD 0)] y10 y10 h5) fun y11 h12 =>
thnH (copyH 1 y11 x0 h12) fun y13 h14 =>
leaveK (loopF Try.prog T09b kp_slices_Repeat___int_int_ n Try.f138 0 [y11, y13] h14) (fun j15 s16 h17 =>
condN j15 0
(some ((s16.getD 0 .undef), h17))
(none)) (fun s16 h17 =>
some (.undef, h17)))))) := by kernel_rfl

theorem st_slices_Repeat___int_int__0 (n : Nat) (s0 s1 : D) (h : Heap) : stepF Try.prog T09b kp_slices_Repeat___int_int_ n Try.f138 0 [s0, s1] h =
(thn (lenH .sl s0) fun y0 =>
thn (binK .int .lss s1 y0) fun y1 =>
condK y1
(thn (cutH 1 s0 (some s1) none) fun y2 =>
thn (cutH 1 s0 none (some s1)) fun y3 =>
thnH (copyH 1 y2 y3 h) fun y4 h5 =>
thn (binK .int .add s1 y4) fun y6 =>
some (.normal, [s0, y6], h5))
(some ((.exit 0), [s0, s1], h))) := by kernel_rfl

end Go.Proofs.Ytalehbmgbjiigaa
end

section
namespace Go.Proofs.Ytalehbmgbjiigaa
open Go.RowKit
set_option linter.unusedVariables false
set_option linter.unusedSimpArgs false

/-- A new row: one int, so many times. -/
def G_Repeat (ds : List D) (H : Heap) : Option (D × Heap) :=
  match ds with
  | [.hs id 1, .v (.int .i64 k)] =>
    match H[id]? with
    | some (.cells _ 1 [.v (.int .i64 c)]) => if 0 ≤ k ∧ k ≤ 4000000 then some (.hs H.length k.toNat, H ++ [.cells 3 1 (List.replicate k.toNat (iD c))]) else none
    | _ => none
  | _ => none
theorem flat_ones (n : Nat) (d : D) : (List.replicate n [d]).flatten = List.replicate n d := by
  induction n with
  | zero => rfl
  | succ n ih => simp [List.replicate_succ, ih]
theorem getE_last {α : Type} (l : List α) (x : α) : (l ++ [x])[l.length]? = some x := by simp
theorem set_last {α : Type} (l : List α) (x y : α) : (l ++ [x]).set l.length y = l ++ [y] := by simp
theorem take_one_ok (m : Nat) (c : Int) : (List.take m [iD c]).all cellOk = true := List.all_eq_true.2 fun x hx => by
  have := List.mem_of_mem_take hx
  simp only [List.mem_singleton] at this
  subst this; rfl
theorem rep_made (H : Heap) (k : Nat) (hk : k ≤ 4000000) : makeH 3 1 [iD 0] (.v (.int .i64 (k : Int))) (.v (.int .i64 (k : Int))) H = some (.hs H.length k, H ++ [.cells 3 1 (List.replicate k (iD 0))]) := by
  simp only [makeH]
  rw [if_pos ⟨trivial, by omega, by omega, rfl⟩]
  simp only [Int.toNat_natCast, flat_ones, newH]
  have : (List.replicate k (iD 0)).all cellOk = true := by simp [List.all_replicate]
  rw [this]; rfl
theorem rep_first (H : Heap) (id : Nat) (t : TypeId) (c : Int) (hid : H[id]? = some (.cells t 1 [.v (.int .i64 c)])) (k : Nat) : copyH 1 (.hs H.length k) (.hs id 1) (H ++ [.cells 3 1 (List.replicate k (iD 0))]) = some (iD (min 1 k : Nat), H ++ [.cells 3 1 (List.replicate (min 1 k) (iD c) ++ List.replicate (k - min 1 k) (iD 0))]) := by
  have hlt := (List.getElem?_eq_some_iff.1 hid).1
  have h1 : (H ++ [HO.cells 3 1 (List.replicate k (iD 0))])[id]? = some (.cells t 1 [iD c]) := by rw [List.getElem?_append_left hlt]; exact hid
  simp only [copyH, htOf, Option.bind_some, getE_last, srcH, h1]
  simp only [List.length_singleton, Nat.mul_one, Nat.le_refl, and_self, if_true, List.take_succ_cons, List.take_zero, Option.bind_some, Nat.div_one, Nat.zero_add, List.length_replicate, List.nil_append]
  rw [if_pos ⟨by omega, trivial, trivial, take_one_ok _ c⟩]
  simp only [Option.some.injEq, Prod.mk.injEq, true_and, set_last]
  congr 4
  · rcases Nat.eq_zero_or_pos k with h | h
    · subst h; rfl
    · rw [Nat.min_eq_left h]; rfl
  · simp
theorem rep_rounds (H : Heap) (c : Int) (k fuel : Nat) (hk : k ≤ 4000000) : ∀ (m n : Nat), k - n ≤ m → n ≤ k → (0 < k → 0 < n) → ∀ N, m < N →
    iterS (stepF Try.prog T09b kp_slices_Repeat___int_int_ fuel Try.f138 0) N [.hs H.length k, iD n] (H ++ [.cells 3 1 (List.replicate n (iD c) ++ List.replicate (k - n) (iD 0))]) = some (.exit 0, [.hs H.length k, iD k], H ++ [.cells 3 1 (List.replicate k (iD c))]) := by
  intro m
  induction m with
  | zero =>
    intro n h1 h2 h3 N hN
    obtain ⟨N, rfl⟩ : ∃ m, N = m + 1 := ⟨N - 1, by omega⟩
    obtain rfl : n = k := by omega
    refine iterS_exit ?_
    rw [st_slices_Repeat___int_int__0]
    simp
  | succ m ih =>
    intro n h1 h2 h3 N hN
    obtain ⟨N, rfl⟩ : ∃ m, N = m + 1 := ⟨N - 1, by omega⟩
    by_cases hnk : n = k
    · subst hnk
      refine iterS_exit ?_
      rw [st_slices_Repeat___int_int__0]
      simp
    · have hn0 : 0 < n := h3 (by omega)
      have hlt2 : (n : Int) < k := by omega
      have q1 : cutH 1 (.hs H.length k) (some (.v (.int .i64 (n : Int)))) none = some (.ht H.length n (k - n)) := by
        simp [cutH, lowD, highD, show ¬ n = 0 from by omega, show n ≤ k from h2]
      have q2 : cutH 1 (.hs H.length k) none (some (.v (.int .i64 (n : Int)))) = some (.hs H.length n) := by
        simp [cutH, lowD, highD, show n ≤ k from h2]
      have q3 : copyH 1 (.ht H.length n (k - n)) (.hs H.length n) (H ++ [.cells 3 1 (List.replicate n (iD c) ++ List.replicate (k - n) (iD 0))]) =
          some (iD (min n (k - n) : Nat), H ++ [.cells 3 1 (List.replicate (n + min n (k - n)) (iD c) ++ List.replicate (k - (n + min n (k - n))) (iD 0))]) := by
        have hl : (List.replicate n (iD c) ++ List.replicate (k - n) (iD 0)).length = k := by simp; omega
        simp only [copyH, htOf, Option.bind_some, getE_last, srcH, Nat.mul_one, hl]
        rw [if_pos ⟨trivial, h2⟩]
        have ht : (List.replicate n (iD c) ++ List.replicate (k - n) (iD 0)).take n = List.replicate n (iD c) := List.take_left' (by simp)
        simp only [Option.bind_some, ht, List.length_replicate, Nat.div_one]
        rw [if_pos ⟨by omega, trivial, by omega, by simp [List.take_replicate, List.all_replicate]⟩]
        simp only [Option.some.injEq, Prod.mk.injEq, true_and, set_last]
        congr 3
        rw [List.take_replicate, Nat.min_eq_left (Nat.min_le_left _ _), ← List.replicate_append_replicate, List.drop_append]
        simp only [List.length_replicate, List.drop_replicate]
        rw [show n - (n + min n (k - n)) = 0 from by omega, show k - n - (n + min n (k - n) - n) = k - (n + min n (k - n)) from by omega]
        simp
      have e4 := intD_add (n : Int) ((min n (k - n) : Nat) : Int) (by omega) (by omega)
      rw [iterS_go (s' := [.hs H.length k, iD ((n + min n (k - n) : Nat) : Int)]) (H' := H ++ [.cells 3 1 (List.replicate (n + min n (k - n)) (iD c) ++ List.replicate (k - (n + min n (k - n))) (iD 0))])]
      · exact ih (n + min n (k - n)) (by omega) (by omega) (fun _ => by omega) N (by omega)
      · rw [st_slices_Repeat___int_int__0]
        simp only [lenH_hs, thn_some, binK_lss, hlt2, decide_true, condK_bool, if_true, q1, q2, q3, thnH_some, binK_int, e4]
        rfl
theorem C_Repeat : HCallOk Try.prog 138 G_Repeat := by
  refine hcall_text (kp := kp_slices_Repeat___int_int_) T09b_ok mixed Try.func138 (by kernel_rfl) (by decide) fun ds H d H' h => ?_
  unfold G_Repeat at h
  split at h
  case h_2 => cases h
  rename_i id k
  split at h
  case h_2 => cases h
  rename_i t c hid
  split at h
  case isFalse => cases h
  rename_i hk
  cases h
  obtain ⟨k, rfl⟩ := Int.eq_ofNat_of_zero_le hk.1
  have hk' : k ≤ 4000000 := by omega
  refine ⟨k + 2, ?_⟩
  rw [sh_slices_Repeat___int_int_]
  have e1 : (IntKind.u64.wrap (1 : Int)) = 1 := rfl
  have e2 : (IntKind.u64.wrap (k : Int)) = k := u64_wrap _ (by omega) (by omega)
  have e3 : (IntKind.i64.wrap (k : Int)) = k := wrap_in _ (by omega) (by omega)
  have hlt := (List.getElem?_eq_some_iff.1 hid).1
  have n1 : ¬ (k : Int) < 0 := by omega
  have n2 : ¬ (9223372036854775807 : Int) < k := by omega
  have em := rep_made H k hk'
  have ec := rep_first H id t c hid k
  simp only [lenH_hs, thn_some, binK_lss, condK_bool, n1, decide_false, Bool.false_eq_true, if_false, intOf64, e1, e2, Int.natCast_one]
  rw [mul_pure _ _ (by omega) (by omega)]
  simp only [thnH_some, extractD, tupOf, Option.bind_some, List.getElem?_cons_zero, List.getElem?_cons_succ, thn_some, binK_gtr, Int.lt_irrefl, decide_false, condK_bool, Bool.false_eq_true, if_false, n2, intOf64, e3, em, ec]
  have key := rep_rounds H c k (k + 2) hk'
  have hloop : loopF Try.prog T09b kp_slices_Repeat___int_int_ (k + 2) Try.f138 0 [.hs H.length k, iD (min 1 k : Nat)] (H ++ [.cells 3 1 (List.replicate (min 1 k) (iD c) ++ List.replicate (k - min 1 k) (iD 0))]) = some (.exit 0, [.hs H.length k, iD k], H ++ [.cells 3 1 (List.replicate k (iD c))]) :=
    key k (min 1 k) (by omega) (by omega) (by omega) (k + 2) (by omega)
  rw [hloop]
  simp
def fs09c : List Entry := (138, false, G_Repeat) :: fs09b
theorem fs09c_ok : ∀ p ∈ fs09c, EntryOk Try.prog p := entries_cons (entry_obj C_Repeat) <| fs09b_ok
def T09c : Tab := ⟨fs09c, noYl⟩
theorem T09c_ok : TabOk Try.prog T09c := tabOk_of fs09c_ok
end Go.Proofs.Ytalehbmgbjiigaa
end
