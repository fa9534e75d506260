/-
  Parts joined into one text: Sh12i, T12i, Sh12j, T12j, Sh12k, T12k. No condition.
-/
import Derived.Test.YtalehbmgbjiigaaDs

section
namespace Go.Proofs.Ytalehbmgbjiigaa
open Go.RowKit
set_option linter.unusedVariables false
set_option maxRecDepth 100000

def kp_delta_Put : List Nat := [1, 5, 35, 36, 37]
theorem sh_delta_Put (n : Nat) (x0 : D) (h : Heap) : textK Try.prog (T12h Try.prog) kp_delta_Put n Try.f21 [x0] h =
(thnH (boxH 27 x0 h) fun y0 h1 =>
thn (fieldAtH 0 y0) fun y2 =>
thn (loadH none h1 y2) fun y3 =>
thn (lenH .sl y3) fun y4 =>
thn (binK .int .gtr y4 (iD 30)) fun y5 =>
condK y5
(some (.tup [(.v (.string ⟨#[]⟩)), (iD 17)], h1))
(thn (fieldAtH 0 y0) fun y6 =>
thn (loadH none h1 y6) fun y7 =>
thnH ((G_conF Try.prog) [y7, (.clo (.func 52) [] [])] h1) fun y8 h9 =>
condK y8
(some (.tup [(.v (.string ⟨#[]⟩)), (iD 17)], h9))
(thn (fieldAtH 1 y0) fun y10 =>
thn (loadH none h9 y10) fun y11 =>
thn (binK .int .lss y11 (iD 1)) fun y12 =>
condK y12
(some (.tup [(.v (.string ⟨#[]⟩)), (iD 17)], h9))
(thn (fieldAtH 1 y0) fun y13 =>
thn (loadH none h9 y13) fun y14 =>
thn (binK .int .gtr y14 (iD 7)) fun y15 =>
condK y15
(some (.tup [(.v (.string ⟨#[]⟩)), (iD 17)], h9))
(thnH ((G_wNew Try.prog) [] h9) fun y16 h17 =>
thn (fieldAtH 0 y0) fun y18 =>
thn (loadH none h17 y18) fun y19 =>
thn (lenH .sl y19) fun y20 =>
thn (intOf64 .u64 y20) fun y21 =>
thnH ((G_wNum Try.prog) [y16, y21] h17) fun y22 h23 =>
sameO y18 (some h9) (some h17)
(wholeK y20
(thn (fieldAtH 0 y0) fun y24 =>
thn (loadH none h23 y24) fun y25 =>
thn (lenH .sl y25) fun y26 =>
leaveK (loopF Try.prog (T12h Try.prog) kp_delta_Put n Try.f21 0 [y0, y22, y25, y26, (iD 0)] h23) (fun j27 s28 h29 =>
condN j27 0
(thn (fieldAtH 1 (s28.getD 0 .undef)) fun y30 =>
thn (loadH none h29 y30) fun y31 =>
thn (intOf64 .u8 y31) fun y32 =>
thnH ((G_wByte Try.prog) [(s28.getD 1 .undef), y32] h29) fun y33 h34 =>
thn (fieldAtH 2 (s28.getD 0 .undef)) fun y35 =>
thn (loadH none h34 y35) fun y36 =>
thnH ((G_wInt Try.prog) [y33, y36] h34) fun y37 h38 =>
thnH ((G_wBytes Try.prog) [y37] h38) fun y39 h40 =>
sameO y35 (some h29) (some h34)
(some (.tup [y39, (iD 0)], h40)))
(none)) (fun s28 h29 =>
some (.tup [.undef, .undef], h29))))))))) := by kernel_rfl

theorem st_delta_Put_0 (n : Nat) (s0 s1 s2 s3 s4 : D) (h : Heap) : stepF Try.prog (T12h Try.prog) kp_delta_Put n Try.f21 0 [s0, s1, s2, s3, s4] h =
(thn (binK .int .lss s4 s3) fun y0 =>
condK y0
(thn (idxH 1 s2 s4) fun y1 =>
thn (loadH none h y1) fun y2 =>
thn (intOf64 .u64 y2) fun y3 =>
thnH ((G_wNum Try.prog) [s1, y3] h) fun y4 h5 =>
thn (binK .int .add s4 (iD 1)) fun y6 =>
some (.normal, [s0, s1, s2, s3, y6], h5))
(some ((.exit 0), [s0, s1, s2, s3, s4], h))) := by kernel_rfl

def kp_offshootref12_Put : List Nat := [1, 4, 5]
theorem sh_offshootref12_Put (n : Nat) (x0 : D) (h : Heap) : textK Try.prog (T12h Try.prog) kp_offshootref12_Put n Try.f22 [x0] h =
(thnH (boxH 27 x0 h) fun y0 h1 =>
thn (loadH (some 3) h1 y0) fun y2 =>
thnH (liftF F_Right [y2] h1) fun y3 h4 =>
thn (notD y3) fun y5 =>
condK y5
(some (.tup [(.v (.string ⟨#[]⟩)), (iD 17)], h4))
(thn (fieldAtH 0 y0) fun y6 =>
thn (loadH none h4 y6) fun y7 =>
thn (lenH .sl y7) fun y8 =>
thn (intOf64 .u64 y8) fun y9 =>
thnH (liftF F_PutN [y9] h4) fun y10 h11 =>
leaveK (loopF Try.prog (T12h Try.prog) kp_offshootref12_Put n Try.f22 0 [y0, y10, (iD 0)] h11) (fun j12 s13 h14 =>
condN j12 0
(thn (fieldAtH 1 (s13.getD 0 .undef)) fun y15 =>
thn (loadH none h14 y15) fun y16 =>
thn (intOf64 .u8 y16) fun y17 =>
thnH (rowH 5 1 1 [(.v (.int .u8 0))] [(0, y17)] h14) fun y18 h19 =>
thn (bytesS h19 y18) fun y20 =>
thn (binK .str .add (s13.getD 1 .undef) y20) fun y21 =>
thn (fieldAtH 2 (s13.getD 0 .undef)) fun y22 =>
thn (loadH none h19 y22) fun y23 =>
thnH (liftF F_PutZ [y23] h19) fun y24 h25 =>
thn (binK .str .add y21 y24) fun y26 =>
pureK [y23]
(some (.tup [y26, (iD 0)], h25)))
(none)) (fun s13 h14 =>
some (.tup [.undef, .undef], h14)))) := by kernel_rfl

theorem st_offshootref12_Put_0 (n : Nat) (s0 s1 s2 : D) (h : Heap) : stepF Try.prog (T12h Try.prog) kp_offshootref12_Put n Try.f22 0 [s0, s1, s2] h =
(thn (fieldAtH 0 s0) fun y0 =>
thn (loadH none h y0) fun y1 =>
thn (lenH .sl y1) fun y2 =>
thn (binK .int .lss s2 y2) fun y3 =>
condK y3
(thn (fieldAtH 0 s0) fun y4 =>
thn (loadH none h y4) fun y5 =>
thn (idxH 1 y5 s2) fun y6 =>
thn (loadH none h y6) fun y7 =>
thn (intOf64 .u64 y7) fun y8 =>
thnH (liftF F_PutN [y8] h) fun y9 h10 =>
thn (binK .str .add s1 y9) fun y11 =>
thn (binK .int .add s2 (iD 1)) fun y12 =>
some (.normal, [s0, y11, y12], h10))
(some ((.exit 0), [s0, s1, s2], h))) := by kernel_rfl

end Go.Proofs.Ytalehbmgbjiigaa
end

section
namespace Go.Proofs.Ytalehbmgbjiigaa
open Go.RowKit
set_option linter.unusedVariables false
set_option linter.unusedSimpArgs false
set_option maxRecDepth 100000

def boxL (d : Dl) : HO := .cells 27 3 [intsD d.path, iD d.op, iD d.n]
theorem boxL_load (d : Dl) (H : Heap) (i : Nat) (h : H[i]? = some (boxL d)) : loadH none H (.hp i 0) = some (intsD d.path) ∧ loadH none H (.hp i 1) = some (iD d.op) ∧ loadH none H (.hp i 2) = some (iD d.n) :=
  ⟨load_cellN H i 0 _ _ _ _ h rfl, load_cellN H i 1 _ _ _ _ h rfl, load_cellN H i 2 _ _ _ _ h rfl⟩
/-- The delta at 0, a writer at 1. -/
structure PutL (d : Dl) (H : Heap) (l : By) : Prop where
  box : H[0]? = some (boxL d)
  wr : WrAt H 1 2 l
theorem PutL.next {d : Dl} {H H' : Heap} {l l' : By} (h : PutL d H l) (k : KpW 1 H H') (w : WrAt H' 1 2 l') : PutL d H' l' :=
  ⟨(k.2 0 (by have := h.wr.lt; omega) (by omega) (h.wr.notRow 0 (.inl (by omega)))).1.trans h.box, w⟩
theorem deltaPut_path (d : Dl) (H : Heap) (l : By) (N : Nat) (hN : d.path.length < N) (hp : d.path.length ≤ 30) (hl : l.length ≤ 1000) (hx : ∀ x ∈ d.path, 0 ≤ x ∧ x ≤ 199) (h : PutL d H l) :
    ∃ r, loopF Try.prog (T12h Try.prog) kp_delta_Put N Try.f21 0 [.hp 0 0, .hp 1 0, intsD d.path, iD d.path.length, iD 0] H = some r ∧ ∃ H', r = (.exit 0, [.hp 0 0, .hp 1 0, intsD d.path, iD d.path.length, iD d.path.length], H') ∧ PutL d H' (l ++ pathB d.path) := by
  have e0 : l = l ++ pathB (d.path.take 0) := by simp [pathB]
  rw [e0] at h
  refine loopF_inv (fun j => [.hp 0 0, .hp 1 0, intsD d.path, iD d.path.length, iD j]) (fun j H' => PutL d H' (l ++ pathB (d.path.take j))) _ d.path.length N ?_ ?_ hN (H := H) h
  · intro j H hj hI
    have h1 : (j : Int) < d.path.length := by omega
    have e1 := intD_add (j : Int) 1 (by omega) (by omega)
    have hlen := pathB_len (d.path.take j)
    rw [List.length_take] at hlen
    have hxj := hx _ (List.getElem_mem hj)
    obtain ⟨H2, w1, w2, w3⟩ := wNum_ok H 1 2 _ d.path[j] ⟨hxj.1, by omega⟩ hI.wr (by simp; omega)
    have hu : intOf64 .u64 (iD d.path[j]) = some (u64D d.path[j]) := u64_of _ _ hxj.1 (by omega)
    refine ⟨H2, ?_, ?_⟩
    · rw [st_delta_Put_0]
      simp only [binK_lss, thn_some, condK_bool, decide_eq_true_eq, h1, if_true, idx_intsN _ _ hj, load_one, hu, w1, thnH_some, binK_int, e1, Int.natCast_add, Int.cast_ofNat_Int]
    · have := hI.next w3 w2
      rw [pathB_take _ _ hj, ← List.append_assoc]
      exact this
  · intro H hI
    rw [List.take_length] at hI
    refine ⟨_, by rw [st_delta_Put_0]; simp, (by intro e; cases e), H, rfl, hI⟩
def F_DPut : List D → Option D := F1 dlT fun d => if d.path.length ≤ 100000 ∧ -9223372036854775808 ≤ d.n ∧ d.n ≤ 9223372036854775807 then some (.tup [sD (putD12 d).1, iD (putD12 d).2]) else none
theorem C_DPut : CallOk Try.prog 21 F_DPut := call1 (kp := kp_delta_Put) T12h_ok mixed Try.func21 (by kernel_rfl) (by decide) fun d r h => by
  split at h
  case isFalse => cases h
  rename_i hg
  obtain ⟨hl, hn⟩ := hg
  cases h
  refine ⟨300, _, ?_, Imp.refl _⟩
  show outD (textK _ _ _ _ _ [dlD d] []) = _
  rw [sh_delta_Put]
  have hbox : boxH 27 (dlD d) [] = some (.hp 0 0, [boxL d]) := rfl
  obtain ⟨l0, l1, l2⟩ := boxL_load d [boxL d] 0 rfl
  have hc := conF_ok d.path [boxL d] (by omega)
  have hfc : D.clo (.func 52) [] [] = farC := rfl
  unfold putD12
  by_cases h1 : (30 : Int) < d.path.length
  · have hr : rightV d = false := by unfold rightV; simp; omega
    rw [hr]
    simp [-loadH_hp, hbox, l0, h1, sD_nil]
  have h1' : d.path.length ≤ 30 := by omega
  by_cases h2 : (d.path.all fun x => decide (0 ≤ x ∧ x ≤ 199)) = true
  · have hf : d.path.any farV = false := by rw [any_far, h2]; rfl
    rw [hf] at hc
    by_cases h3 : d.op < 1
    · have hr : rightV d = false := by unfold rightV; simp; omega
      rw [hr]
      simp [-loadH_hp, hbox, l0, h1, hfc, hc, l1, h3, sD_nil]
    by_cases h4 : 7 < d.op
    · have hr : rightV d = false := by unfold rightV; simp; omega
      rw [hr]
      simp [-loadH_hp, hbox, l0, h1, hfc, hc, l1, h3, h4, sD_nil]
    have hr : rightV d = true := by
      unfold rightV
      rw [h2]
      simp; omega
    rw [hr]
    obtain ⟨_, hx, _, _⟩ := right_of hr
    have hnew : G_wNew Try.prog [] [boxL d] = some (.hp 1 0, [boxL d] ++ [.cells 114 1 [.v (.slice none 0 0)]]) := new_ok' [boxL d]
    have hI0 : PutL d ([boxL d] ++ [.cells 114 1 [.v (.slice none 0 0)]]) [] := ⟨rfl, wr_new [boxL d]⟩
    generalize hH7 : [boxL d] ++ [HO.cells 114 1 [.v (.slice none 0 0)]] = H7 at *
    obtain ⟨m0, m1, m2⟩ := boxL_load d H7 0 hI0.box
    obtain ⟨H8, w1, w2, w3⟩ := wNum_ok H7 1 2 [] (d.path.length : Int) ⟨by omega, by omega⟩ hI0.wr (by simp)
    have hI1 := hI0.next w3 w2
    have hu : intOf64 .u64 (iD d.path.length) = some (u64D d.path.length) := u64_of _ _ (by omega) (by omega)
    obtain ⟨m3, m4, m5⟩ := boxL_load d H8 0 hI1.box
    have q1 := (putV_len d.path.length).2
    have q2 := pathB_len d.path
    obtain ⟨r1, c1, H9, rfl, hI2⟩ := deltaPut_path d H8 _ 300 (by omega) h1' (by simp; omega) hx hI1
    obtain ⟨m6, m7, m8⟩ := boxL_load d H9 0 hI2.box
    have hb := u8_of .i64 d.op
    obtain ⟨H10, v1, v2, v3⟩ := wByte_ok H9 1 2 _ (b8 d.op) hI2.wr (by simp; omega)
    have hI3 := hI2.next v3 v2
    obtain ⟨m9, m10, m11⟩ := boxL_load d H10 0 hI3.box
    obtain ⟨H11, u1, u2, u3⟩ := wInt_ok H10 1 2 _ d.n hn hI3.wr (by simp; omega)
    have hby := wBytes_ok H11 1 2 _ u2
    have henc : [] ++ putV ↑d.path.length ++ pathB d.path ++ [b8 d.op] ++ putV (zigV d.n) = encDl d := by simp [encDl]
    rw [henc] at hby
    have s1 : ∀ (o : Nat) (k : Option (D × Heap)), sameO (.hp 0 o) (some [boxL d]) (some H7) k = k := fun o k => sameO_hp 0 o _ _ 27 3 [intsD d.path, iD d.op, iD d.n] k rfl (hI0.box.trans rfl) (by simp)
    have s2 : ∀ (o : Nat) (k : Option (D × Heap)), sameO (.hp 0 o) (some H9) (some H10) k = k := fun o k => sameO_hp 0 o _ _ 27 3 [intsD d.path, iD d.op, iD d.n] k hI2.box (hI3.box.trans hI2.box.symm) (by simp)
    rw [if_pos rfl]
    simp [-loadH_hp, hbox, l0, h1, hfc, hc, l1, h3, h4, hnew, m0, hu, w1, s1, m3, c1, m7, hb, v1, m11, u1, hby, s2]
  · have h2' : (d.path.all fun x => decide (0 ≤ x ∧ x ≤ 199)) = false := by simpa using h2
    have hf : d.path.any farV = true := by rw [any_far, h2']; rfl
    rw [hf] at hc
    have hr : rightV d = false := by unfold rightV; rw [h2']; simp
    rw [hr]
    simp [-loadH_hp, hbox, l0, h1, hfc, hc, sD_nil]

theorem refPutL_path (d : Dl) (H : Heap) (l : By) (N : Nat) (hN : d.path.length < N) (hp : d.path.length ≤ 30) (hl : l.length ≤ 1000) (hx : ∀ x ∈ d.path, 0 ≤ x ∧ x ≤ 199) (h : H[0]? = some (boxL d)) :
    ∃ r, loopF Try.prog (T12h Try.prog) kp_offshootref12_Put N Try.f22 0 [.hp 0 0, sD l, iD 0] H = some r ∧ r = (.exit 0, [.hp 0 0, sD (l ++ pathB d.path), iD d.path.length], H) := by
  have e0 : sD l = sD (l ++ pathB (d.path.take 0)) := by simp [pathB]
  rw [e0]
  refine loopF_inv (fun j => [.hp 0 0, sD (l ++ pathB (d.path.take j)), iD j]) (fun j H' => H' = H) _ d.path.length N ?_ ?_ hN (H := H) rfl
  · rintro j _ hj rfl
    obtain ⟨l0, l1, l2⟩ := boxL_load d _ 0 h
    have h1 : (j : Int) < d.path.length := by omega
    have e1 := intD_add (j : Int) 1 (by omega) (by omega)
    have hlen := pathB_len (d.path.take j)
    rw [List.length_take] at hlen
    have hxj := hx _ (List.getElem_mem hj)
    have hq := (putV_len d.path[j]).2
    have hu : intOf64 .u64 (iD d.path[j]) = some (u64D d.path[j]) := u64_of _ _ hxj.1 (by omega)
    have ha := str_add (l ++ pathB (d.path.take j)) (putV d.path[j]) (by simp; omega)
    rw [List.append_assoc, ← pathB_take _ _ hj] at ha
    refine ⟨_, ?_, rfl⟩
    rw [st_offshootref12_Put_0]
    simp only [fieldAt_hp, thn_some, Nat.zero_add, l0, lenH_ints, binK_lss, condK_bool, decide_eq_true_eq, h1, if_true, idx_intsN _ _ hj, load_one, hu, putN_pure d.path[j] ⟨hxj.1, by omega⟩, thnH_some, ha, binK_int, e1, Int.natCast_add, Int.cast_ofNat_Int]
  · rintro _ rfl
    obtain ⟨l0, l1, l2⟩ := boxL_load d _ 0 h
    rw [List.take_length]
    refine ⟨_, by rw [st_offshootref12_Put_0]; simp [-loadH_hp, l0], (by intro e; cases e), rfl⟩
theorem right_pure (d : Dl) (H : Heap) (h : d.path.length ≤ 1000000) : liftF F_Right [dlD d] H = some (bD (rightV d), H) := by
  rw [liftF_pure _ _ _ rfl]
  have : F_Right [dlD d] = _ := f1_enc (A := dlT) _ d
  rw [this, if_pos h]; rfl
theorem C_RefDPut : CallOk Try.prog 22 F_DPut := call1 (kp := kp_offshootref12_Put) T12h_ok mixed Try.func22 (by kernel_rfl) (by decide) fun d r h => by
  split at h
  case isFalse => cases h
  rename_i hg
  obtain ⟨hl, hn⟩ := hg
  cases h
  refine ⟨300, _, ?_, Imp.refl _⟩
  show outD (textK _ _ _ _ _ [dlD d] []) = _
  rw [sh_offshootref12_Put]
  have hbox : boxH 27 (dlD d) [] = some (.hp 0 0, [boxL d]) := rfl
  have hld : loadH (some 3) [boxL d] (.hp 0 0) = some (dlD d) := rfl
  obtain ⟨l0, l1, l2⟩ := boxL_load d [boxL d] 0 rfl
  have hR := right_pure d [boxL d] (by omega)
  unfold putD12
  by_cases hr : rightV d = true
  · obtain ⟨h1, hx, h3, h4⟩ := right_of hr
    have hu : intOf64 .u64 (iD d.path.length) = some (u64D d.path.length) := u64_of _ _ (by omega) (by omega)
    have hp := putN_pure (d.path.length : Int) ⟨by omega, by omega⟩
    have q1 := (putV_len d.path.length).2
    have q2 := pathB_len d.path
    have q3 := (putV_len (zigV d.n)).2
    obtain ⟨r1, c1, rfl⟩ := refPutL_path d [boxL d] (putV d.path.length) 300 (by omega) h1 (by omega) hx rfl
    have hb := u8_of .i64 d.op
    have hrow := row_one (b8 d.op) [boxL d]
    have hbs : bytesS ([boxL d] ++ [.cells 5 1 (bytesC [b8 d.op])]) (.hs [boxL d].length 1) = some (sD [b8 d.op]) := bytes_one _ _ _
    have hA := str_add (putV d.path.length ++ pathB d.path) [b8 d.op] (by simp; omega)
    have hB := str_add (putV d.path.length ++ pathB d.path ++ [b8 d.op]) (putV (zigV d.n)) (by simp; omega)
    have henc : putV ↑d.path.length ++ pathB d.path ++ [b8 d.op] ++ putV (zigV d.n) = encDl d := by simp [encDl]
    rw [henc] at hB
    obtain ⟨_, _, m2⟩ := boxL_load d ([boxL d] ++ [.cells 5 1 (bytesC [b8 d.op])]) 0 rfl
    rw [if_pos hr]
    simp only [hbox, thnH_some, hld, thn_some, hR, hr, notD_bool, Bool.not_true, condK_bool, Bool.false_eq_true, if_false, fieldAt_hp, Nat.zero_add, l0, lenH_ints, hu, hp, c1, leaveK_exit, condN_same, List.getD_cons_zero, List.getD_cons_succ, l1, hb, hrow, hbs, hA, m2, putZ_pure d.n hn, hB]
    simp
  · rw [if_neg hr]
    have hr' : rightV d = false := by simpa using hr
    simp [-loadH_hp, hbox, hld, hR, hr', sD_nil]
def fs12i (P : Program) : List Entry := (21, true, liftF F_DPut) :: (22, true, liftF F_DPut) :: fs12h P
theorem fs12i_ok : ∀ p ∈ fs12i Try.prog, EntryOk Try.prog p := entries_cons (entry_lift C_DPut) <| entries_cons (entry_lift C_RefDPut) <| fs12h_ok
def T12i (P : Program) : Tab := ⟨fs12i P, noYl⟩
theorem T12i_ok : TabOk Try.prog (T12i Try.prog) := tabOk_of fs12i_ok
end Go.Proofs.Ytalehbmgbjiigaa
end

section
namespace Go.Proofs.Ytalehbmgbjiigaa
open Go.RowKit
set_option linter.unusedVariables false
set_option maxRecDepth 100000

def kp_delta_Get : List Nat := [0, 2, 4, 5, 11, 12]
theorem sh_delta_Get (n : Nat) (x0 : D) (h : Heap) : textK Try.prog (T12i Try.prog) kp_delta_Get n Try.f23 [x0] h =
(thnH (allocH 27 [(.v (.slice none 0 0)), (iD 0), (iD 0)] h) fun y0 h1 =>
thnH ((G_rOf Try.prog) [x0] h1) fun y2 h3 =>
thnH (allocH 27 [(.v (.slice none 0 0)), (iD 0), (iD 0)] h3) fun y4 h5 =>
thnH ((G_rCount Try.prog) [y2, (iD 30)] h5) fun y6 h7 =>
leaveK (loopF Try.prog (T12i Try.prog) kp_delta_Get n Try.f23 0 [x0, y0, y2, y4, y6, (iD 0)] h7) (fun j8 s9 h10 =>
condN j8 0
(thnH ((G_rByte Try.prog) [(s9.getD 2 .undef)] h10) fun y11 h12 =>
thn (intOf64 .i64 y11) fun y13 =>
thnH ((G_rInt Try.prog) [(s9.getD 2 .undef)] h12) fun y14 h15 =>
thn (fieldAtH 1 (s9.getD 3 .undef)) fun y16 =>
thnH (setH 1 y16 y13 h15) fun y17 h18 =>
thn (fieldAtH 2 (s9.getD 3 .undef)) fun y19 =>
thnH (setH 1 y19 y14 h18) fun y20 h21 =>
thn (loadH (some 3) h21 (s9.getD 3 .undef)) fun y22 =>
thnH (liftF F_DPut [y22] h21) fun y23 h24 =>
thn (extractD y23 0) fun y25 =>
thn (extractD y23 1) fun y26 =>
thn (binK .int .neq y26 (iD 0)) fun y27 =>
condK y27
(thn (buildR [(0, 1), (1, 1), (2, 1)] [(.v (.slice none 0 0)), (iD 0), (iD 0)] []) fun y28 =>
thnH (setH 3 (s9.getD 1 .undef) y28 h24) fun y29 h30 =>
thn (loadH (some 3) h30 (s9.getD 1 .undef)) fun y31 =>
some (.tup [y31, (iD 12)], h30))
(thn (binK .str .neq y25 (s9.getD 0 .undef)) fun y32 =>
condK y32
(thn (buildR [(0, 1), (1, 1), (2, 1)] [(.v (.slice none 0 0)), (iD 0), (iD 0)] []) fun y33 =>
thnH (setH 3 (s9.getD 1 .undef) y33 h24) fun y34 h35 =>
thn (loadH (some 3) h35 (s9.getD 1 .undef)) fun y36 =>
some (.tup [y36, (iD 12)], h35))
(thn (loadH (some 3) h24 (s9.getD 3 .undef)) fun y37 =>
thnH (setH 3 (s9.getD 1 .undef) y37 h24) fun y38 h39 =>
thn (loadH (some 3) h39 (s9.getD 1 .undef)) fun y40 =>
some (.tup [y40, (iD 0)], h39))))
(none)) (fun s9 h10 =>
thn (loadH (some 3) h10 (s9.getD 1 .undef)) fun y41 =>
some (.tup [y41, .undef], h10))) := by kernel_rfl

theorem st_delta_Get_0 (n : Nat) (s0 s1 s2 s3 s4 s5 : D) (h : Heap) : stepF Try.prog (T12i Try.prog) kp_delta_Get n Try.f23 0 [s0, s1, s2, s3, s4, s5] h =
(thn (binK .int .lss s5 s4) fun y0 =>
condK y0
(thn (fieldAtH 0 s3) fun y1 =>
thn (loadH none h y1) fun y2 =>
thnH ((G_rCount Try.prog) [s2, (iD 200)] h) fun y3 h4 =>
thnH (rowH 3 1 1 [(iD 0)] [(0, y3)] h4) fun y5 h6 =>
thnH (appendH 3 1 y2 y5 h6) fun y7 h8 =>
thn (fieldAtH 0 s3) fun y9 =>
thnH (setH 1 y9 y7 h8) fun y10 h11 =>
sameO y1 (some h) (some h4)
(thn (binK .int .add s5 (iD 1)) fun y12 =>
some (.normal, [s0, s1, s2, s3, s4, y12], h11)))
(some ((.exit 0), [s0, s1, s2, s3, s4, s5], h))) := by kernel_rfl

def kp_offshootref12_Get : List Nat := []
theorem sh_offshootref12_Get (n : Nat) (x0 : D) (h : Heap) : textK Try.prog (T12i Try.prog) kp_offshootref12_Get n Try.f24 [x0] h =
(thnH (allocH 27 [(.v (.slice none 0 0)), (iD 0), (iD 0)] h) fun y0 h1 =>
thn (buildR [(0, 1), (1, 1), (2, 1)] [(.v (.string ⟨#[]⟩)), (iD 0), (iD 0)] [(0, x0)]) fun y2 =>
thnH (liftF F_DRead [y2] h1) fun y3 h4 =>
thn (extractD y3 0) fun y5 =>
thn (extractD y3 1) fun y6 =>
thnH (allocH 85 [(.v (.string ⟨#[]⟩)), (iD 0), (iD 0)] h4) fun y7 h8 =>
thnH (allocH 27 [(.v (.slice none 0 0)), (iD 0), (iD 0)] h8) fun y9 h10 =>
thnH (setH 3 y7 y5 h10) fun y11 h12 =>
thnH (setH 3 y9 y6 h12) fun y13 h14 =>
thn (loadH (some 3) h14 y9) fun y15 =>
thnH (liftF F_DPut [y15] h14) fun y16 h17 =>
thn (extractD y16 0) fun y18 =>
thn (extractD y16 1) fun y19 =>
thn (binK .int .neq y19 (iD 0)) fun y20 =>
condK y20
(thn (buildR [(0, 1), (1, 1), (2, 1)] [(.v (.slice none 0 0)), (iD 0), (iD 0)] []) fun y21 =>
thnH (setH 3 y0 y21 h17) fun y22 h23 =>
thn (loadH (some 3) h23 y0) fun y24 =>
some (.tup [y24, (iD 12)], h23))
(thn (binK .str .neq y18 x0) fun y25 =>
condK y25
(thn (buildR [(0, 1), (1, 1), (2, 1)] [(.v (.slice none 0 0)), (iD 0), (iD 0)] []) fun y26 =>
thnH (setH 3 y0 y26 h17) fun y27 h28 =>
thn (loadH (some 3) h28 y0) fun y29 =>
some (.tup [y29, (iD 12)], h28))
(thn (loadH (some 3) h17 y9) fun y30 =>
thnH (setH 3 y0 y30 h17) fun y31 h32 =>
thn (loadH (some 3) h32 y0) fun y33 =>
some (.tup [y33, (iD 0)], h32)))) := by kernel_rfl

end Go.Proofs.Ytalehbmgbjiigaa
end

section
namespace Go.Proofs.Ytalehbmgbjiigaa
open Go.RowKit
set_option linter.unusedVariables false
set_option linter.unusedSimpArgs false
set_option maxRecDepth 100000

theorem pathR_in {s : By} : ∀ (n : Nat) {r : Rd}, r.1 ≤ s.length → (pathR s n r).2.1 ≤ s.length
  | 0, r, h => by simpa [pathR] using h
  | n + 1, r, h => by simp only [pathR]; exact pathR_in n (cnt_in h _)
theorem pathR_len (s : By) : ∀ (n : Nat) (r : Rd), (pathR s n r).1.length = n
  | 0, r => by simp [pathR]
  | n + 1, r => by simp [pathR, pathR_len s n]
theorem pathQ_len (s : By) (n : Int) : ∀ (f i : Nat) (r : Rd), (pathQ s n f i r).1.length ≤ f
  | 0, i, r => by simp [pathQ]
  | f + 1, i, r => by
    unfold pathQ
    split
    · have := pathQ_len s n f (i + 1) (askV10 s r 2).2
      simp only [List.length_cons]; omega
    · simp
theorem decDl_in (s : By) : (decDl s).path.length ≤ 30 ∧ dlIn (decDl s) := by
  have hc := cnt_range s (0, 0) 30 (by omega)
  have hi := int_range s (bytV s (pathR s (cntV s (0, 0) 30).1.toNat (cntV s (0, 0) 30).2).2).2
  refine ⟨?_, hi⟩
  simp only [decDl, pathR_len]
  omega
theorem decDlQ_in (s : By) : (decDlQ s).path.length ≤ 31 ∧ dlIn (decDlQ s) := by
  refine ⟨pathQ_len s _ 31 0 _, ?_⟩
  exact ask_range s _ 3 (by omega)
theorem deltaGet_path (s : By) (hs : s.length ≤ 3000) (K : Heap) (N : Nat) : ∀ (m j q n : Nat) (r : Rd) (p : List Int) (H : Heap), j + m = n → m < q → n ≤ 30 → p.length ≤ j → r.1 ≤ s.length → DInv 1 2 3 (rdO s r) p 0 0 K H →
    ∃ H', iterS (stepF Try.prog (T12i Try.prog) kp_delta_Get N Try.f23 0) q [sD s, .hp 0 0, .hp 1 0, .hp 2 0, iD n, iD j] H = some (.exit 0, [sD s, .hp 0 0, .hp 1 0, .hp 2 0, iD n, iD n], H') ∧ DInv 1 2 3 (rdO s (pathR s m r).2) (p ++ (pathR s m r).1) 0 0 K H'
  | 0, j, q, n, r, p, H, hj, hq, hn, hv, hr, h => by
    obtain ⟨q, rfl⟩ : ∃ x, q = x + 1 := ⟨q - 1, by omega⟩
    obtain rfl : j = n := by omega
    refine ⟨H, iterS_exit ?_, by simpa [pathR] using h⟩
    rw [st_delta_Get_0]
    simp
  | m + 1, j, q, n, r, p, H, hj, hq, hn, hv, hr, h => by
    obtain ⟨q, rfl⟩ : ∃ x, q = x + 1 := ⟨q - 1, by omega⟩
    have h1 : (j : Int) < n := by omega
    have e1 := intD_add (j : Int) 1 (by omega) (by omega)
    have hby := rCount_ok s r H 1 h.rd hr (by omega) 200 (by omega) (by omega)
    have hI1 := h.read (rdO s (cntV s r 200).2)
    obtain ⟨d0, l1, l2, l3, l4⟩ := h.low
    obtain ⟨d, d', H3, H4, g1, g2, g3, g4, g5, _⟩ := dl_more hI1 (by omega) (cntV s r 200).1
    have g0 : loadH none H (.hp 2 0) = some d := by
      rw [← g1]
      simp only [loadH_hp]
      rw [List.getElem?_set_ne (by omega)]
    have hso : ∀ k : Option (Lv × List D × Heap), sameO (.hp 2 0) (some H) (some (H.set 1 (rdO s (cntV s r 200).2))) k = k := fun k =>
      sameO_hp 2 0 _ _ _ _ _ k l1 (by rw [List.getElem?_set_ne (by omega)]) (by simp [l3])
    obtain ⟨H', z1, z2⟩ := deltaGet_path s hs K N m (j + 1) q n (cntV s r 200).2 _ H4 (by omega) (by omega) hn (by simp; omega) (cnt_in hr _) g5
    have hstep : stepF Try.prog (T12i Try.prog) kp_delta_Get N Try.f23 0 [sD s, .hp 0 0, .hp 1 0, .hp 2 0, iD n, iD j] H = some (.normal, [sD s, .hp 0 0, .hp 1 0, .hp 2 0, iD n, iD (j + 1 : Nat)], H4) := by
      rw [st_delta_Get_0]
      simp only [binK_lss, thn_some, condK_bool, decide_eq_true_eq, h1, if_true, fieldAt_hp, Nat.zero_add, g0, hby, thnH_some, g2, g3, g4, hso, binK_int, e1, Int.natCast_add, Int.cast_ofNat_Int]
    refine ⟨H', by rw [iterS_go hstep]; exact z1, ?_⟩
    simp only [pathR]
    rw [List.append_assoc] at z2
    exact z2
def retL : HO := .cells 27 3 [.v (.slice none 0 0), iD 0, iD 0]
theorem imp_noneL : Imp (.agg [.v (.slice none 0 0), iD 0, iD 0]) (dlD ⟨[], 0, 0⟩) := Imp.agg (.cons (Imp.nil 1) (.cons (Imp.refl _) (.cons (Imp.refl _) .nil)))
/-- The delta that was read is given back, or none. -/
theorem getL_end (ri di B : Nat) (ro : HO) (K H : Heap) (d : Dl) (h : DInv ri di B ro d.path d.op d.n K H) (hr0 : ri ≠ 0) (hd0 : di ≠ 0) (hK : K[0]? = some retL) (hp : d.path.length ≤ 100000) (hn : dlIn d) : ∃ d1, loadH (some 3) H (.hp di 0) = some (.agg [d1, iD d.op, iD d.n]) ∧ liftF F_DPut [.agg [d1, iD d.op, iD d.n]] H = some (.tup [sD (putD12 d).1, iD (putD12 d).2], H) ∧
    (∃ H', setH 3 (.hp 0 0) (.agg [d1, iD d.op, iD d.n]) H = some (.v undef, H') ∧ loadH (some 3) H' (.hp 0 0) = some (.agg [d1, iD d.op, iD d.n]) ∧ ∃ d', outD (some (.tup [.agg [d1, iD d.op, iD d.n], iD 0], H')) = some d' ∧ Imp d' (.tup [dlD d, iD 0])) ∧
    (∃ H', setH 3 (.hp 0 0) (.agg [.v (.slice none 0 0), iD 0, iD 0]) H = some (.v undef, H') ∧ loadH (some 3) H' (.hp 0 0) = some (.agg [.v (.slice none 0 0), iD 0, iD 0])) := by
  obtain ⟨⟨a1, a2, a3, a4⟩, h2, ⟨d1, h3, h4⟩, h5⟩ := h
  have h1 : H[0]? = some retL := (h5 0 (by omega) (by omega) (by omega)).trans hK
  have st : ∀ x y z : D, cellOk x = true → cellOk y = true → cellOk z = true → setH 3 (.hp 0 0) (.agg [x, y, z]) H = some (.v undef, H.set 0 (.cells 27 3 [x, y, z])) := fun x y z hx hy hz => set_three H 0 _ _ _ _ x y z h1 hx hy hz
  have ld : ∀ x y z : D, loadH (some 3) (H.set 0 (.cells 27 3 [x, y, z])) (.hp 0 0) = some (.agg [x, y, z]) := fun x y z => by
    simp [List.getElem?_set_self (show 0 < H.length by omega)]
  refine ⟨d1, by simp [h3], ?_, ⟨_, st _ _ _ h4.ok rfl rfl, ld _ _ _, ?_⟩, ⟨_, st _ _ _ rfl rfl rfl, ld _ _ _⟩⟩
  · exact lift_dl h4 d.op d.n _ (by rw [if_pos ⟨hp, hn⟩]) rfl
  · exact (out_dl (h4.set 0 _ (by omega)) d.op d.n (iD 0) (iD 0) rfl rfl).1
def F_DGet : List D → Option D := F1 strT fun s => if s.length ≤ 3000 then some (.tup [dlD (getD12 s).1, iD (getD12 s).2]) else none
theorem putD_eq (d : Dl) (s : By) : (rightV d = true ∧ encDl d = s) ↔ ((putD12 d).2 = 0 ∧ (putD12 d).1 = s) := by
  unfold putD12
  split
  · rename_i h; simp [h]
  · rename_i h; simp [h]
theorem C_DGet : CallOk Try.prog 23 F_DGet := call1 (kp := kp_delta_Get) T12i_ok mixed Try.func23 (by kernel_rfl) (by decide) fun s d h => by
  split at h
  case isFalse => cases h
  rename_i hs
  cases h
  refine ⟨100, ?_⟩
  show ∃ d', outD (textK _ _ _ _ _ [sD s] []) = _ ∧ _
  rw [sh_delta_Get]
  have ha0 : allocH 27 [.v (.slice none 0 0), iD 0, iD 0] [] = some (.hp 0 0, [retL]) := rfl
  have hof : G_rOf Try.prog [sD s] [retL] = some (.hp 1 0, [retL, rdO s (0, 0)]) := rOf_ok s [retL]
  have ha2 : allocH 27 [.v (.slice none 0 0), iD 0, iD 0] [retL, rdO s (0, 0)] = some (.hp 2 0, [retL, rdO s (0, 0), retL]) := rfl
  generalize hK : ([retL, rdO s (0, 0), retL] : Heap) = K at *
  have hI0 : DInv 1 2 3 (rdO s (0, 0)) [] 0 0 K K := by
    rw [← hK]
    exact ⟨⟨by omega, by omega, by omega, by simp⟩, rfl, ⟨_, rfl, Buf.nil _ _ _ _⟩, fun _ _ _ _ => rfl⟩
  have hK0 : K[0]? = some retL := by rw [← hK]; rfl
  have hA := cnt_range s (0, 0) 30 (by omega)
  have hAi := cnt_in (s := s) (r := (0, 0)) (by simp) 30
  have c1 := rCount_ok s (0, 0) K 1 hI0.rd (by simp) (by omega) 30 (by omega) (by omega)
  obtain ⟨hpl, hpin⟩ := decDl_in s
  have hdec : decDl s = ⟨(pathR s (cntV s (0, 0) 30).1.toNat (cntV s (0, 0) 30).2).1, (bytV s (pathR s (cntV s (0, 0) 30).1.toNat (cntV s (0, 0) 30).2).2).1.toNat, (intV s (bytV s (pathR s (cntV s (0, 0) 30).1.toNat (cntV s (0, 0) 30).2).2).2).1⟩ := rfl
  have hI1 := hI0.read (rdO s (cntV s (0, 0) 30).2)
  generalize cntV s (0, 0) 30 = A at *
  obtain ⟨n, hn⟩ := Int.eq_ofNat_of_zero_le hA.1
  have hAn : A.1.toNat = n := by omega
  rw [hAn] at hdec
  obtain ⟨H1, z1, hI2⟩ := deltaGet_path s hs K 100 n 0 100 n A.2 [] _ (by omega) (by omega) (by omega) (by simp) hAi hI1
  have z1' : loopF Try.prog (T12i Try.prog) kp_delta_Get 100 Try.f23 0 [sD s, .hp 0 0, .hp 1 0, .hp 2 0, iD A.1, iD 0] (K.set 1 (rdO s A.2)) = some (.exit 0, [sD s, .hp 0 0, .hp 1 0, .hp 2 0, iD A.1, iD n], H1) := by rw [hn]; exact z1
  rw [List.nil_append] at hI2
  have hPi := pathR_in (s := s) n hAi
  generalize pathR s n A.2 = P at *
  have hby := rByte_ok s P.2 H1 1 hI2.rd hPi (by omega)
  have hI3 := hI2.read (rdO s (bytV s P.2).2)
  have hBi := byt_in (s := s) hPi
  generalize bytV s P.2 = C at *
  have hu : intOf64 .i64 (u8D C.1) = some (iD (C.1.toNat : Int)) := by
    have := C.1.toNat_lt
    exact i64_of _ _ (by omega) (by omega)
  have hint := rInt_ok s C.2 _ 1 hI3.rd hBi (by omega)
  have hI4 := hI3.read (rdO s (intV s C.2).2)
  generalize intV s C.2 = E at *
  obtain ⟨H5, st5, hI5, _⟩ := dl_set1 hI4 (C.1.toNat : Int)
  obtain ⟨H6, st6, hI6, _⟩ := dl_set2 hI5 E.1
  have hd : (⟨P.1, (C.1.toNat : Int), E.1⟩ : Dl) = decDl s := hdec.symm
  obtain ⟨d1, w1, w2, ⟨H7, w3, w4, d', w5, w6⟩, ⟨H8, w7, w8⟩⟩ := getL_end 1 2 3 _ K H6 (decDl s) (by rw [hdec]; exact hI6) (by omega) (by omega) hK0 (by omega) hpin
  rw [← hd] at w1 w2 w3 w4 w5 w6
  simp only at w1 w2 w3 w4 w5 w6
  rw [hd] at w2 w6
  have hb0 : buildR [(0, 1), (1, 1), (2, 1)] [.v (.slice none 0 0), iD 0, iD 0] [] = some (.agg [.v (.slice none 0 0), iD 0, iD 0]) := rfl
  have hno : ∃ d', outD (some (.tup [.agg [.v (.slice none 0 0), iD 0, iD 0], iD 12], H8)) = some d' ∧ Imp d' (.tup [dlD ⟨[], 0, 0⟩, iD 12]) := ⟨_, outD_tup _ _ rfl, Imp.tup (.cons imp_noneL (.cons (Imp.refl _) .nil))⟩
  have hgd : getD12 s = if (putD12 (decDl s)).2 = 0 ∧ (putD12 (decDl s)).1 = s then (decDl s, 0) else (⟨[], 0, 0⟩, 12) := by
    unfold getD12
    by_cases hc : rightV (decDl s) = true ∧ encDl (decDl s) = s
    · rw [if_pos hc, if_pos ((putD_eq _ _).1 hc)]
    · rw [if_neg hc, if_neg (fun h => hc ((putD_eq _ _).2 h))]
  rw [hgd]
  by_cases hz : (putD12 (decDl s)).2 = 0
  · by_cases hq : (putD12 (decDl s)).1 = s
    · rw [if_pos ⟨hz, hq⟩]
      refine ⟨d', ?_, w6⟩
      rw [← w5]
      rw [hq, hz] at w2
      simp only [ha0, thnH_some, hof, ha2, c1, z1', leaveK_exit, condN_same, List.getD_cons_zero, List.getD_cons_succ, hby, hu, thn_some, hint, fieldAt_hp, Nat.zero_add, st5, st6, w1, w2, ext0, ext1, binK_neq, bne_self_eq_false, condK_bool, Bool.false_eq_true, if_false, str_ne, decide_true, Bool.not_true, w3, w4]
    · rw [if_neg (fun h => hq h.2)]
      obtain ⟨d'', q1, q2⟩ := hno
      refine ⟨d'', ?_, q2⟩
      rw [← q1]
      rw [hz] at w2
      simp only [ha0, thnH_some, hof, ha2, c1, z1', leaveK_exit, condN_same, List.getD_cons_zero, List.getD_cons_succ, hby, hu, thn_some, hint, fieldAt_hp, Nat.zero_add, st5, st6, w1, w2, ext0, ext1, binK_neq, bne_self_eq_false, condK_bool, Bool.false_eq_true, if_false, str_ne, hq, decide_false, Bool.not_false, if_true, hb0, w7, w8]
  · rw [if_neg (fun h => hz h.1)]
    obtain ⟨d'', q1, q2⟩ := hno
    refine ⟨d'', ?_, q2⟩
    rw [← q1]
    have hz' : ((putD12 (decDl s)).2 != 0) = true := by simpa using hz
    simp only [ha0, thnH_some, hof, ha2, c1, z1', leaveK_exit, condN_same, List.getD_cons_zero, List.getD_cons_succ, hby, hu, thn_some, hint, fieldAt_hp, Nat.zero_add, st5, st6, w1, w2, ext0, ext1, binK_neq, hz', condK_bool, if_true, hb0, w7, w8]
theorem dread_pure (s : By) (hs : s.length ≤ 3000) (H : Heap) : liftF F_DRead [.agg [sD s, iD 0, iD 0]] H = some (.tup [.agg [sD s, iD (endQ s).1, iD (endQ s).2], dlD (decDlQ s)], H) := by
  rw [liftF_pure _ _ _ rfl]
  have : F_DRead [.agg [sD s, iD 0, iD 0]] = _ := f1_enc (A := rdT) _ (s, (0 : Int), (0 : Int))
  rw [this, if_pos ⟨rfl, hs⟩]; rfl
theorem dput_pure (d : Dl) (H : Heap) (h : d.path.length ≤ 100000) (hn : dlIn d) : liftF F_DPut [dlD d] H = some (.tup [sD (putD12 d).1, iD (putD12 d).2], H) := by
  rw [liftF_pure _ _ _ rfl]
  have : F_DPut [dlD d] = _ := f1_enc (A := dlT) _ d
  rw [this, if_pos ⟨h, hn⟩]; rfl
theorem C_RefDGet : CallOk Try.prog 24 F_DGet := call1 (kp := kp_offshootref12_Get) T12i_ok mixed Try.func24 (by kernel_rfl) (by decide) fun s d h => by
  split at h
  case isFalse => cases h
  rename_i hs
  cases h
  refine ⟨0, ?_⟩
  show ∃ d', outD (textK _ _ _ _ _ [sD s] []) = _ ∧ _
  rw [sh_offshootref12_Get]
  obtain ⟨hl, hn⟩ := decDlQ_in s
  have ha0 : allocH 27 [.v (.slice none 0 0), iD 0, iD 0] [] = some (.hp 0 0, [retL]) := rfl
  have hb : buildR [(0, 1), (1, 1), (2, 1)] [.v (.string ⟨#[]⟩), iD 0, iD 0] [(0, sD s)] = some (.agg [sD s, iD 0, iD 0]) := rfl
  have hr := dread_pure s hs [retL]
  have ha1 : allocH 85 [.v (.string ⟨#[]⟩), iD 0, iD 0] [retL] = some (.hp 1 0, [retL, .cells 85 3 [.v (.string ⟨#[]⟩), iD 0, iD 0]]) := rfl
  have ha2 : allocH 27 [.v (.slice none 0 0), iD 0, iD 0] [retL, .cells 85 3 [.v (.string ⟨#[]⟩), iD 0, iD 0]] = some (.hp 2 0, [retL, .cells 85 3 [.v (.string ⟨#[]⟩), iD 0, iD 0], retL]) := rfl
  have s1 := set_three [retL, .cells 85 3 [.v (.string ⟨#[]⟩), iD 0, iD 0], retL] 1 _ _ _ _ (sD s) (iD (endQ s).1) (iD (endQ s).2) rfl rfl rfl rfl
  have hgd : getD12 s = if (putD12 (decDlQ s)).2 = 0 ∧ (putD12 (decDlQ s)).1 = s then (decDlQ s, 0) else (⟨[], 0, 0⟩, 12) := by
    rw [← refD_eq s (decDl_in s).2 hn]
    unfold refD12
    by_cases hc : rightV (decDlQ s) = true ∧ encDl (decDlQ s) = s
    · rw [if_pos hc, if_pos ((putD_eq _ _).1 hc)]
    · rw [if_neg hc, if_neg (fun h => hc ((putD_eq _ _).2 h))]
  rw [hgd]
  clear hgd
  generalize decDlQ s = q at *
  have s2 : setH 3 (.hp 2 0) (dlD q) [retL, .cells 85 3 [sD s, iD (endQ s).1, iD (endQ s).2], retL] = some (.v undef, [retL, .cells 85 3 [sD s, iD (endQ s).1, iD (endQ s).2], boxL q]) := set_three [retL, .cells 85 3 [sD s, iD (endQ s).1, iD (endQ s).2], retL] 2 _ _ _ _ (intsD q.path) (iD q.op) (iD q.n) rfl rfl rfl rfl
  have ld : loadH (some 3) [retL, .cells 85 3 [sD s, iD (endQ s).1, iD (endQ s).2], boxL q] (.hp 2 0) = some (dlD q) := rfl
  have hp := dput_pure q [retL, .cells 85 3 [sD s, iD (endQ s).1, iD (endQ s).2], boxL q] (by omega) hn
  have hb0 : buildR [(0, 1), (1, 1), (2, 1)] [.v (.slice none 0 0), iD 0, iD 0] [] = some (.agg [.v (.slice none 0 0), iD 0, iD 0]) := rfl
  have s3 : setH 3 (.hp 0 0) (dlD q) [retL, .cells 85 3 [sD s, iD (endQ s).1, iD (endQ s).2], boxL q] = some (.v undef, [boxL q, .cells 85 3 [sD s, iD (endQ s).1, iD (endQ s).2], boxL q]) := set_three [retL, .cells 85 3 [sD s, iD (endQ s).1, iD (endQ s).2], boxL q] 0 _ _ _ _ (intsD q.path) (iD q.op) (iD q.n) rfl rfl rfl rfl
  have ld3 : loadH (some 3) [boxL q, .cells 85 3 [sD s, iD (endQ s).1, iD (endQ s).2], boxL q] (.hp 0 0) = some (dlD q) := rfl
  have s4 : setH 3 (.hp 0 0) (.agg [.v (.slice none 0 0), iD 0, iD 0]) [retL, .cells 85 3 [sD s, iD (endQ s).1, iD (endQ s).2], boxL q] = some (.v undef, [retL, .cells 85 3 [sD s, iD (endQ s).1, iD (endQ s).2], boxL q]) := rfl
  have ld4 : loadH (some 3) [retL, .cells 85 3 [sD s, iD (endQ s).1, iD (endQ s).2], boxL q] (.hp 0 0) = some (.agg [.v (.slice none 0 0), iD 0, iD 0]) := rfl
  by_cases hz : (putD12 q).2 = 0
  · by_cases hq : (putD12 q).1 = s
    · rw [if_pos ⟨hz, hq⟩]
      rw [hq, hz] at hp
      refine ⟨_, ?_, Imp.refl _⟩
      simp only [ha0, thnH_some, hb, thn_some, hr, ext0, ext1, ha1, ha2, s1, List.set_cons_succ, List.set_cons_zero, s2, ld, hp, binK_neq, bne_self_eq_false, condK_bool, Bool.false_eq_true, if_false, str_ne, decide_true, Bool.not_true, s3, ld3]
      exact outD_tup _ _ rfl
    · rw [if_neg (fun h => hq h.2)]
      rw [hz] at hp
      refine ⟨.tup [.agg [.v (.slice none 0 0), iD 0, iD 0], iD 12], ?_, Imp.tup (.cons imp_noneL (.cons (Imp.refl _) .nil))⟩
      simp only [ha0, thnH_some, hb, thn_some, hr, ext0, ext1, ha1, ha2, s1, List.set_cons_succ, List.set_cons_zero, s2, ld, hp, binK_neq, bne_self_eq_false, condK_bool, Bool.false_eq_true, if_false, str_ne, hq, decide_false, Bool.not_false, if_true, hb0, s4, ld4]
      exact outD_tup _ _ rfl
  · rw [if_neg (fun h => hz h.1)]
    have hz' : ((putD12 q).2 != 0) = true := by simpa using hz
    refine ⟨.tup [.agg [.v (.slice none 0 0), iD 0, iD 0], iD 12], ?_, Imp.tup (.cons imp_noneL (.cons (Imp.refl _) .nil))⟩
    simp only [ha0, thnH_some, hb, thn_some, hr, ext0, ext1, ha1, ha2, s1, List.set_cons_succ, List.set_cons_zero, s2, ld, hp, binK_neq, hz', condK_bool, if_true, hb0, s4, ld4]
    exact outD_tup _ _ rfl
def fs12j (P : Program) : List Entry := (23, true, liftF F_DGet) :: (24, true, liftF F_DGet) :: fs12i P
theorem fs12j_ok : ∀ p ∈ fs12j Try.prog, EntryOk Try.prog p := entries_cons (entry_lift C_DGet) <| entries_cons (entry_lift C_RefDGet) <| fs12i_ok
def T12j (P : Program) : Tab := ⟨fs12j P, noYl⟩
theorem T12j_ok : TabOk Try.prog (T12j Try.prog) := tabOk_of fs12j_ok
end Go.Proofs.Ytalehbmgbjiigaa
end

section
namespace Go.Proofs.Ytalehbmgbjiigaa
open Go.RowKit
set_option linter.unusedVariables false
set_option maxRecDepth 100000

def kp_offshootlaw12_few : List Nat := []
theorem sh_offshootlaw12_few (n : Nat) (x0 : D) (h : Heap) : textK Try.prog (T12j Try.prog) kp_offshootlaw12_few n Try.f17 [x0] h =
(thnH (boxH 27 x0 h) fun y0 h1 =>
thn (fieldAtH 0 y0) fun y2 =>
thn (loadH none h1 y2) fun y3 =>
thn (lenH .sl y3) fun y4 =>
thn (binK .int .leq y4 (iD 60)) fun y5 =>
some (y5, h1)) := by kernel_rfl

end Go.Proofs.Ytalehbmgbjiigaa
end

section
namespace Go.Proofs.Ytalehbmgbjiigaa
open Go.RowKit
set_option linter.unusedVariables false
set_option linter.unusedSimpArgs false
set_option maxRecDepth 100000

def F_true12 : List D → Option D := F0 (some (bD true))
def F_dfew : List D → Option D := F1 dlT fun d => some (bD (decide (d.path.length ≤ 60)))
theorem C_dfew : CallOk Try.prog 17 F_dfew := call1 (kp := kp_offshootlaw12_few) T12j_ok mixed Try.func17 (by kernel_rfl) (by decide) fun d r h => by
  cases h
  refine ⟨0, _, ?_, Imp.refl _⟩
  show outD (textK _ _ _ _ _ [dlD d] []) = _
  rw [sh_offshootlaw12_few]
  by_cases h1 : (d.path.length : Int) ≤ 60
  · have h2 : d.path.length ≤ 60 := by omega
    simp [h1, h2]
  · have h2 : ¬ d.path.length ≤ 60 := by omega
    simp [h1, h2]
/- In the document's example rows of the call's own are handed on: there Apply is run by its text. -/
theorem N_chNode : CallNew Try.prog 86 F_chNode := by
  refine ⟨C_chNode.body, fun ds d hF S vs w hS hv => ?_⟩
  refine (C_chNode.calls ds d hF S vs w hS hv).mono ?_
  rintro e w' ⟨v, rfl, h1, h2⟩
  refine ⟨v, rfl, ?_, h2⟩
  unfold F_chNode F1 at hF
  split at hF
  · obtain ⟨c, hc, hF⟩ := Option.bind_eq_some_iff.1 hF
    split at hF
    · cases hF
      simp only [Rep, nodeD, RepA] at h1 ⊢
      exact h1
    · cases hF
  · cases hF
def fs12c' (P : Program) : List Entry := (86, true, liftN F_chNode) :: fs12c P
theorem fs12c'_ok : ∀ p ∈ fs12c' Try.prog, EntryOk Try.prog p := entries_cons (entry_new N_chNode) <| fs12c_ok
def T12c' (P : Program) : Tab := ⟨fs12c' P, noYl⟩
theorem T12c'_ok : TabOk Try.prog (T12c' Try.prog) := tabOk_of fs12c'_ok
def G_constant (P : Program) : List D → Heap → Option (D × Heap) := textG P (T12c' P) kp_delta_change__constant 0 44
theorem C_Gconstant : HCallOk Try.prog 44 (G_constant Try.prog) := hcall_G T12c'_ok mixed Try.func44 (by kernel_rfl) (by decide)
def fs12y (P : Program) : List Entry := (46, true, liftN F_negate) :: (44, false, G_constant P) :: fs12e P
theorem fs12y_ok : ∀ p ∈ fs12y Try.prog, EntryOk Try.prog p := entries_cons (entry_new N_negate) <| entries_cons (entry_obj C_Gconstant) <| fs12e_ok
def T12y (P : Program) : Tab := ⟨fs12y P, noYl⟩
theorem T12y_ok : TabOk Try.prog (T12y Try.prog) := tabOk_of fs12y_ok
def G_DApply (P : Program) : List D → Heap → Option (D × Heap) := textG P (T12y P) kp_delta_Apply 0 18
theorem C_GDApply : HCallOk Try.prog 18 (G_DApply Try.prog) := hcall_G T12y_ok mixed Try.func18 (by kernel_rfl) (by decide)
def fs12x (P : Program) : List Entry := (18, false, G_DApply P) :: fs12j P
theorem fs12x_ok : ∀ p ∈ fs12x Try.prog, EntryOk Try.prog p := entries_cons (entry_obj C_GDApply) <| fs12j_ok
def T12x (P : Program) : Tab := ⟨fs12x P, noYl⟩
theorem T12x_ok : TabOk Try.prog (T12x Try.prog) := tabOk_of fs12x_ok
theorem works12 : outD (textK Try.prog (T12x Try.prog) [] 20 Try.f15 [] []) = some (bD true) := by kernel_rfl
theorem C_works12 : CallOk Try.prog 15 F_true12 := call0 (kp := []) T12x_ok mixed Try.func15 (by kernel_rfl) (by decide) fun d h => by
  cases h
  exact ⟨20, _, works12, Imp.refl _⟩
def fsL12 (P : Program) : List Entry := (15, true, liftF F_true12) :: (17, true, liftF F_dfew) :: fs12j P
theorem fsL12_ok : ∀ p ∈ fsL12 Try.prog, EntryOk Try.prog p := entries_cons (entry_lift C_works12) <| entries_cons (entry_lift C_dfew) <| fs12j_ok
def L12 (P : Program) : Tab := ⟨fsL12 P, noYl⟩
theorem L12_ok : TabOk Try.prog (L12 Try.prog) := tabOk_of fsL12_ok
end Go.Proofs.Ytalehbmgbjiigaa
end
