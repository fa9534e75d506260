/-
  Parts joined into one text: T14h, T14i, Sh14f, T14j, T12n, Cut, T14v, Sh14w, T14w, T14k, ShL14. No condition.
-/
import Derived.Test.YtinnbafplhcnpaaGreatGf
import Derived.Test.YtinnbafplhcnpaaGreatGj
import Derived.Test.YtinnbafplhcnpaaGreatGp

section
namespace Go.Proofs.YtinnbafplhcnpaaGreat
open Go.RowKit
set_option linter.unusedVariables false
set_option linter.unusedSimpArgs false
set_option maxRecDepth 100000

def okL (l : List Dl) : Prop := l.length ≤ 100000 ∧ ∀ x ∈ l, x.path.length ≤ 3000000
instance (l : List Dl) : Decidable (okL l) := by unfold okL; infer_instance
theorem okL_at {l : List Dl} (h : okL l) (i : Nat) (hi : i < l.length) : l[i].path.length ≤ 3000000 := h.2 _ (List.getElem_mem hi)
def F_SFind : List D → Option D := F2 dlsT dlT fun l d => if okL l ∧ d.path.length ≤ 3000000 then some (iD (findD l d)) else none
theorem sfind_loop (l : List Dl) (d : Dl) (hl : okL l) (hd : d.path.length ≤ 3000000) : ∀ (f lo hi n : Nat), hi ≤ l.length → hi < lo + f → f < n →
    ∃ u2 u3, iterS (stepF Tryz.prog (T14a Tryz.prog) kp_sites_Find 100002 Tryz.f23 0) n [dlsD l, .hp 0 0, iD lo, iD hi, iD (-1)] [.cells 34 3 [intsD d.path, iD d.op, iD d.n]] =
      some (.exit 0, [dlsD l, .hp 0 0, u2, u3, iD (bsV l d f lo hi)], [.cells 34 3 [intsD d.path, iD d.op, iD d.n]]) := by
  intro f
  induction f with
  | zero =>
    intro lo hi n h1 h2 h3
    obtain ⟨n, rfl⟩ : ∃ z, n = z + 1 := ⟨n - 1, by omega⟩
    have h0 : ¬ (lo : Int) < (hi : Int) := by omega
    refine ⟨iD lo, iD hi, iterS_exit ?_⟩
    rw [st_sites_Find_0]
    simp only [binK_lss, h0, decide_false, thn_some, condK_bool, Bool.false_eq_true, if_false, bsV]
  | succ f ih =>
    intro lo hi n h1 h2 h3
    obtain ⟨n, rfl⟩ : ∃ z, n = z + 1 := ⟨n - 1, by omega⟩
    have hl1 := hl.1
    by_cases hlt : lo < hi
    · have h0 : (lo : Int) < (hi : Int) := by omega
      have e1 := intD_sub (hi : Int) (lo : Int) (by omega) (by omega)
      have e2 : intD .quo .i64 ((hi : Int) - (lo : Int)) 2 = some (iD (((hi - lo) / 2 : Nat) : Int)) := by
        show (if (2 : Int) = 0 then none else some (D.v (.int .i64 (IntKind.i64.wrap (((hi : Int) - (lo : Int)).tdiv 2))))) = _
        rw [if_neg (by omega)]
        have q : ((hi : Int) - (lo : Int)).tdiv 2 = (((hi - lo) / 2 : Nat) : Int) := by
          rw [Int.tdiv_eq_ediv_of_nonneg (by omega)]
          omega
        rw [q, wrap_in _ (by omega) (by omega)]
      have e3 := intD_add (lo : Int) (((hi - lo) / 2 : Nat) : Int) (by omega) (by omega)
      have c3 : (lo : Int) + (((hi - lo) / 2 : Nat) : Int) = ((lo + (hi - lo) / 2 : Nat) : Int) := by omega
      rw [c3] at e3
      have hm : lo + (hi - lo) / 2 < l.length := by omega
      have i1 := idx_dls l (lo + (hi - lo) / 2) hm
      have l1 := load_dl [.cells 34 3 [intsD d.path, iD d.op, iD d.n]] l[lo + (hi - lo) / 2]
      have l2 : loadH (some 3) [.cells 34 3 [intsD d.path, iD d.op, iD d.n]] (.hp 0 0) = some (dlD d) := rfl
      have cc := dcompare_pure l[lo + (hi - lo) / 2] d [.cells 34 3 [intsD d.path, iD d.op, iD d.n]] (okL_at hl _ hm) hd
      have hg : l.getD (lo + (hi - lo) / 2) default = l[lo + (hi - lo) / 2] := by simp [hm]
      have e4 := intD_add ((lo + (hi - lo) / 2 : Nat) : Int) 1 (by omega) (by omega)
      have c4 : ((lo + (hi - lo) / 2 : Nat) : Int) + 1 = ((lo + (hi - lo) / 2 + 1 : Nat) : Int) := by omega
      rw [c4] at e4
      simp only [bsV]
      rw [if_pos hlt, hg]
      by_cases z0 : cmpDl l[lo + (hi - lo) / 2] d = 0
      · rw [if_pos z0]
        have b0 : (cmpDl l[lo + (hi - lo) / 2] d == 0) = true := by rw [z0]; rfl
        refine ⟨iD lo, iD hi, iterS_exit ?_⟩
        rw [st_sites_Find_0]
        simp only [binK_lss, h0, decide_true, thn_some, condK_bool, if_true, binK_sub, e1, binK_quo, e2, binK_int, e3, i1, l1, l2, cc, thnH_some, binK_eql, b0]
      · rw [if_neg z0]
        have b0 : (cmpDl l[lo + (hi - lo) / 2] d == 0) = false := by rw [beq_eq_false_iff_ne]; exact z0
        by_cases z1 : cmpDl l[lo + (hi - lo) / 2] d < 0
        · rw [if_pos z1]
          obtain ⟨u2, u3, q⟩ := ih (lo + (hi - lo) / 2 + 1) hi n h1 (by omega) (by omega)
          refine ⟨u2, u3, ?_⟩
          rw [iterS_go]
          · exact q
          · rw [st_sites_Find_0]
            simp only [binK_lss, h0, decide_true, thn_some, condK_bool, if_true, binK_sub, e1, binK_quo, e2, binK_int, e3, i1, l1, l2, cc, thnH_some, binK_eql, b0, Bool.false_eq_true, if_false, z1, e4]
        · rw [if_neg z1]
          obtain ⟨u2, u3, q⟩ := ih lo (lo + (hi - lo) / 2) n (by omega) (by omega) (by omega)
          refine ⟨u2, u3, ?_⟩
          rw [iterS_go]
          · exact q
          · rw [st_sites_Find_0]
            simp only [binK_lss, h0, decide_true, thn_some, condK_bool, if_true, binK_sub, e1, binK_quo, e2, binK_int, e3, i1, l1, l2, cc, thnH_some, binK_eql, b0, Bool.false_eq_true, if_false, z1, decide_false]
    · have h0 : ¬ (lo : Int) < (hi : Int) := by omega
      have hv : bsV l d (f + 1) lo hi = -1 := by simp only [bsV]; rw [if_neg hlt]
      refine ⟨iD lo, iD hi, iterS_exit ?_⟩
      rw [st_sites_Find_0, hv]
      simp only [binK_lss, h0, decide_false, thn_some, condK_bool, Bool.false_eq_true, if_false]
theorem C_SFind : CallOk Tryz.prog 23 F_SFind := call2 (kp := kp_sites_Find) T14a_ok mixed Tryz.func23 (by kernel_rfl) (by decide) fun l d r h => by
  split at h
  case isFalse => cases h
  rename_i hf
  cases h
  obtain ⟨u2, u3, q⟩ := sfind_loop l d hf.1 hf.2 (l.length + 1) 0 l.length 100002 (Nat.le_refl _) (by omega) (by have := hf.1.1; omega)
  have q' : loopF Tryz.prog (T14a Tryz.prog) kp_sites_Find 100002 Tryz.f23 0 [dlsD l, .hp 0 0, iD 0, iD l.length, iD (-1)] [.cells 34 3 [intsD d.path, iD d.op, iD d.n]] = _ := q
  refine ⟨100002, _, ?_, Imp.refl _⟩
  show outD (textK _ _ _ _ _ [dlsD l, dlD d] []) = _
  rw [sh_sites_Find]
  have hb : boxH 34 (dlD d) [] = some (.hp 0 0, [.cells 34 3 [intsD d.path, iD d.op, iD d.n]]) := rfl
  simp only [hb, thnH_some, lenH_dls, thn_some, q', leaveK_exit, condN_same, List.getD_cons_zero, List.getD_cons_succ]
  rfl
theorem sfind_pure (l : List Dl) (d : Dl) (h : okL l) (hd : d.path.length ≤ 3000000) (H : Heap) : liftF F_SFind [dlsD l, dlD d] H = some (iD (findD l d), H) := by
  rw [liftF_pure _ _ _ rfl]
  have : F_SFind [dlsD l, dlD d] = _ := f2_enc (A := dlsT) (B := dlT) _ l d
  rw [this, if_pos ⟨h, hd⟩]; rfl

def F_RSame : List D → Option D := F2 dlsT dlsT fun a b => if okL a ∧ okL b then some (bD (decide (a = b))) else none
theorem C_RSame : CallOk Tryz.prog 14 F_RSame := call2 (kp := kp_offshootref14_Same) T14a_ok mixed Tryz.func14 (by kernel_rfl) (by decide) fun a b r h => by
  split at h
  case isFalse => cases h
  rename_i hf
  cases h
  obtain ⟨ha, hb⟩ := hf
  have ha1 := ha.1
  by_cases hl : a.length = b.length
  · have key := loopF_scan (P := Tryz.prog) (T := T14a Tryz.prog) (kp := kp_offshootref14_Same) (fn := Tryz.f14) (li := 0) (fun i => [dlsD a, dlsD b, bD false, iD i]) [] a.length (fun i => decide (a.getD i default = b.getD i default))
      (fun i => (.ret, [dlsD a, dlsD b, bD false, iD i], [])) (.exit 0, [dlsD a, dlsD b, bD false, iD a.length], []) (fun i => by intro e; cases e) (by intro e; cases e) 0 100002 (Nat.zero_le _) (by have := ha.1; omega)
      (fun i _ hi hp => by
        have e1 := intD_add (i : Int) 1 (by omega) (by omega)
        have h4 : (i : Int) < (a.length : Int) := by omega
        have i1 := idx_dls a i hi
        have i2 := idx_dls b i (by omega)
        have g1 : a.getD i default = a[i] := by simp [hi]
        have g2 : b.getD i default = b[i] := by simp [show i < b.length by omega]
        have cc := dcompare_pure a[i] b[i] [] (okL_at ha i hi) (okL_at hb i (by omega))
        have hz : (cmpDl a[i] b[i] != 0) = false := by
          have : a[i] = b[i] := by rw [← g1, ← g2]; exact of_decide_eq_true hp
          rw [(cmpDl_zero _ _).2 this]; rfl
        rw [st_offshootref14_Same_0]
        simp only [lenH_dls, thn_some, binK_lss, h4, decide_true, condK_bool, if_true, i1, i2, load_dl, cc, thnH_some, binK_neq, hz, Bool.false_eq_true, if_false, binK_int, e1]
        rfl)
      (fun i _ hi hp => by
        have h4 : (i : Int) < (a.length : Int) := by omega
        have i1 := idx_dls a i hi
        have i2 := idx_dls b i (by omega)
        have g1 : a.getD i default = a[i] := by simp [hi]
        have g2 : b.getD i default = b[i] := by simp [show i < b.length by omega]
        have cc := dcompare_pure a[i] b[i] [] (okL_at ha i hi) (okL_at hb i (by omega))
        have hz : (cmpDl a[i] b[i] != 0) = true := by
          refine bne_iff_ne.2 fun e => ?_
          have := (cmpDl_zero _ _).1 e
          rw [g1, g2, this] at hp
          simp at hp
        rw [st_offshootref14_Same_0]
        simp only [lenH_dls, thn_some, binK_lss, h4, decide_true, condK_bool, if_true, i1, i2, load_dl, cc, thnH_some, binK_neq, hz])
      (by rw [st_offshootref14_Same_0]; simp)
    have hb2 : ((a.length : Int) != (b.length : Int)) = false := by rw [hl]; exact bne_self_eq_false _
    rcases key with ⟨q1, q2⟩ | ⟨i, _, hi, q1, _, q2⟩
    · have hab : a = b := by
        refine List.ext_getElem hl fun i h1 h2 => ?_
        have := of_decide_eq_true (q1 i (Nat.zero_le _) h1)
        simpa [h1, h2] using this
      refine ⟨100002, _, ?_, Imp.refl _⟩
      show outD (textK _ _ _ _ _ [dlsD a, dlsD b] []) = _
      rw [sh_offshootref14_Same]
      simp only [cast0] at q2
      simp only [lenH_dls, thn_some, binK_neq, hb2, condK_bool, Bool.false_eq_true, if_false, q2, leaveK_exit, condN_same, decide_eq_true hab]
      rfl
    · have hab : ¬ a = b := fun e => by subst e; simp at q1
      refine ⟨100002, _, ?_, Imp.refl _⟩
      show outD (textK _ _ _ _ _ [dlsD a, dlsD b] []) = _
      rw [sh_offshootref14_Same]
      simp only [cast0] at q2
      simp only [lenH_dls, thn_some, binK_neq, hb2, condK_bool, Bool.false_eq_true, if_false, q2, leaveK_ret, List.getD_cons_zero, List.getD_cons_succ, decide_eq_false hab]
      rfl
  · have hab : ¬ a = b := fun e => hl (by rw [e])
    have hb2 : ((a.length : Int) != (b.length : Int)) = true := bne_iff_ne.2 (by omega)
    refine ⟨0, _, ?_, Imp.refl _⟩
    show outD (textK _ _ _ _ _ [dlsD a, dlsD b] []) = _
    rw [sh_offshootref14_Same]
    simp only [lenH_dls, thn_some, binK_neq, hb2, condK_bool, if_true, decide_eq_false hab]
    rfl
theorem rsame_pure (a b : List Dl) (ha : okL a) (hb : okL b) (H : Heap) : liftF F_RSame [dlsD a, dlsD b] H = some (bD (decide (a = b)), H) := by
  rw [liftF_pure _ _ _ rfl]
  have : F_RSame [dlsD a, dlsD b] = _ := f2_enc (A := dlsT) (B := dlsT) _ a b
  rw [this, if_pos ⟨ha, hb⟩]; rfl

/-- Does each stand ahead of the next one? -/
def risesV (l : List Dl) : Bool := (List.range (l.length - 1)).all fun i => decide (cmpDl (l.getD i default) (l.getD (i + 1) default) < 0)
theorem rises_pw (l : List Dl) : risesV l = true ↔ l.Pairwise fun a b => cmpDl a b < 0 := by
  unfold risesV
  rw [List.all_eq_true]
  constructor
  · intro h
    rw [List.pairwise_iff_getElem]
    have step : ∀ i (hi : i + 1 < l.length), cmpDl l[i] l[i + 1] < 0 := fun i hi => by
      have := of_decide_eq_true (h i (by rw [List.mem_range]; omega))
      simpa [hi, show i < l.length by omega] using this
    intro i j hi hj hij
    obtain ⟨m, rfl⟩ : ∃ m, j = i + 1 + m := ⟨j - (i + 1), by omega⟩
    clear hij
    induction m with
    | zero => exact step i hj
    | succ m ih => exact cmpDl_lt_trans _ _ _ (ih (by omega)) (step (i + 1 + m) hj)
  · intro h i hi
    rw [List.mem_range] at hi
    have := (List.pairwise_iff_getElem.1 h) i (i + 1) (by omega) (by omega) (by omega)
    rw [decide_eq_true_eq]
    simpa [show i + 1 < l.length by omega, show i < l.length by omega] using this
def F_Rises : List D → Option D := F1 dlsT fun l => if okL l then some (bD (risesV l)) else none
theorem C_Rises : CallOk Tryz.prog 25 F_Rises := call1 (kp := kp_offshootref14_Rises) T14a_ok mixed Tryz.func25 (by kernel_rfl) (by decide) fun l r h => by
  split at h
  case isFalse => cases h
  rename_i hf
  cases h
  have hl1 := hf.1
  have lt0 : ∀ i : Nat, i + 1 < l.length → 1 ≤ i + 1 := fun i _ => by omega
  have key := loopF_scan (P := Tryz.prog) (T := T14a Tryz.prog) (kp := kp_offshootref14_Rises) (fn := Tryz.f25) (li := 0) (fun i => [dlsD l, bD false, iD ((i + 1 : Nat) : Int)]) [] (l.length - 1) (fun i => decide (cmpDl (l.getD i default) (l.getD (i + 1) default) < 0))
    (fun i => (.ret, [dlsD l, bD false, iD ((i + 1 : Nat) : Int)], [])) (.exit 0, [dlsD l, bD false, iD ((l.length - 1 + 1 : Nat) : Int)], []) (fun i => by intro e; cases e) (by intro e; cases e) 0 100002 (Nat.zero_le _) (by omega)
    (fun i _ hi hp => by
      have e1 := intD_add ((i + 1 : Nat) : Int) 1 (by omega) (by omega)
      have h4 : ((i + 1 : Nat) : Int) < (l.length : Int) := by omega
      have e2 := intD_sub ((i + 1 : Nat) : Int) 1 (by omega) (by omega)
      have c2 : ((i + 1 : Nat) : Int) - 1 = ((i : Nat) : Int) := by omega
      rw [c2] at e2
      have i1 := idx_dls l i (by omega)
      have i2 := idx_dls l (i + 1) (by omega)
      have g1 : l.getD i default = l[i] := by simp [show i < l.length by omega]
      have g2 : l.getD (i + 1) default = l[i + 1] := by simp [show i + 1 < l.length by omega]
      have cc := dcompare_pure l[i] l[i + 1] [] (okL_at hf i (by omega)) (okL_at hf (i + 1) (by omega))
      have hz : ¬ (0 ≤ cmpDl l[i] l[i + 1]) := by
        have := of_decide_eq_true hp
        rw [g1, g2] at this
        omega
      rw [st_offshootref14_Rises_0]
      simp only [lenH_dls, thn_some, binK_lss, h4, decide_true, condK_bool, if_true, binK_sub, e2, i1, i2, load_dl, cc, thnH_some, binK_geq, hz, decide_false, Bool.false_eq_true, if_false, binK_int, e1]
      rfl)
    (fun i _ hi hp => by
      have h4 : ((i + 1 : Nat) : Int) < (l.length : Int) := by omega
      have e2 := intD_sub ((i + 1 : Nat) : Int) 1 (by omega) (by omega)
      have c2 : ((i + 1 : Nat) : Int) - 1 = ((i : Nat) : Int) := by omega
      rw [c2] at e2
      have i1 := idx_dls l i (by omega)
      have i2 := idx_dls l (i + 1) (by omega)
      have g1 : l.getD i default = l[i] := by simp [show i < l.length by omega]
      have g2 : l.getD (i + 1) default = l[i + 1] := by simp [show i + 1 < l.length by omega]
      have cc := dcompare_pure l[i] l[i + 1] [] (okL_at hf i (by omega)) (okL_at hf (i + 1) (by omega))
      have hz : 0 ≤ cmpDl l[i] l[i + 1] := by
        rw [decide_eq_false_iff_not, g1, g2] at hp
        omega
      rw [st_offshootref14_Rises_0]
      simp only [lenH_dls, thn_some, binK_lss, h4, decide_true, condK_bool, if_true, binK_sub, e2, i1, i2, load_dl, cc, thnH_some, binK_geq, hz])
    (by
      have h4 : ¬ (((l.length - 1 + 1 : Nat) : Int) < (l.length : Int)) := by omega
      rw [st_offshootref14_Rises_0]
      simp only [lenH_dls, thn_some, binK_lss, h4, decide_false, condK_bool, Bool.false_eq_true, if_false])
  rcases key with ⟨q1, q2⟩ | ⟨i, _, hi, q1, _, q2⟩
  · have hr : risesV l = true := by
      unfold risesV
      rw [List.all_eq_true]
      exact fun i hi => q1 i (Nat.zero_le _) (by rwa [List.mem_range] at hi)
    refine ⟨100002, _, ?_, Imp.refl _⟩
    show outD (textK _ _ _ _ _ [dlsD l] []) = _
    rw [sh_offshootref14_Rises]
    have q2' : loopF Tryz.prog (T14a Tryz.prog) kp_offshootref14_Rises 100002 Tryz.f25 0 [dlsD l, bD false, iD 1] [] = _ := q2
    simp only [q2', leaveK_exit, condN_same, hr]
    rfl
  · have hr : risesV l = false := by
      rw [Bool.eq_false_iff]
      intro e
      unfold risesV at e
      rw [List.all_eq_true] at e
      have := e i (by rw [List.mem_range]; exact hi)
      rw [q1] at this
      cases this
    refine ⟨100002, _, ?_, Imp.refl _⟩
    show outD (textK _ _ _ _ _ [dlsD l] []) = _
    rw [sh_offshootref14_Rises]
    have q2' : loopF Tryz.prog (T14a Tryz.prog) kp_offshootref14_Rises 100002 Tryz.f25 0 [dlsD l, bD false, iD 1] [] = _ := q2
    simp only [q2', leaveK_ret, List.getD_cons_zero, List.getD_cons_succ, hr]
    rfl
theorem rises_pure (l : List Dl) (h : okL l) (H : Heap) : liftF F_Rises [dlsD l] H = some (bD (risesV l), H) := by
  rw [liftF_pure _ _ _ rfl]
  have : F_Rises [dlsD l] = _ := f1_enc (A := dlsT) _ l
  rw [this, if_pos h]; rfl

/-- Are deltas so few, and their paths so short? -/
def fewD (l : List Dl) : Bool := decide (l.length ≤ 300) && l.all fun x => decide (x.path.length ≤ 60)
def F_few14 : List D → Option D := F1 dlsT fun l => some (bD (fewD l))
theorem C_few14 : CallOk Tryz.prog 15 F_few14 := call1 (kp := kp_offshootlaw14_few) T14a_ok mixed Tryz.func15 (by kernel_rfl) (by decide) fun l r h => by
  cases h
  by_cases h3 : (300 : Int) < (l.length : Int)
  · have hr : fewD l = false := by
      unfold fewD
      rw [decide_eq_false (by omega)]; rfl
    refine ⟨0, _, ?_, Imp.refl _⟩
    show outD (textK _ _ _ _ _ [dlsD l] []) = _
    rw [sh_offshootlaw14_few]
    simp only [lenH_dls, thn_some, binK_gtr, h3, decide_true, condK_bool, if_true, hr]
    rfl
  · have key := loopF_scan (P := Tryz.prog) (T := T14a Tryz.prog) (kp := kp_offshootlaw14_few) (fn := Tryz.f15) (li := 0) (fun i => [dlsD l, bD false, iD i]) [] l.length (fun i => decide ((l.getD i default).path.length ≤ 60))
      (fun i => (.ret, [dlsD l, bD false, iD i], [])) (.exit 0, [dlsD l, bD false, iD l.length], []) (fun i => by intro e; cases e) (by intro e; cases e) 0 302 (Nat.zero_le _) (by omega)
      (fun i _ hi hp => by
        have e1 := intD_add (i : Int) 1 (by omega) (by omega)
        have h4 : (i : Int) < (l.length : Int) := by omega
        have i1 := idx_dls l i hi
        have g1 : l.getD i default = l[i] := by simp [hi]
        have f0 : fieldAtH 0 (.ptr (dlC l[i])) = some (.ptr (dlC l[i])) := rfl
        have l0 : loadH none [] (.ptr (dlC l[i])) = some (intsD l[i].path) := rfl
        have hz : ¬ ((60 : Int) < (l[i].path.length : Int)) := by
          have := of_decide_eq_true hp
          rw [g1] at this
          omega
        rw [st_offshootlaw14_few_0]
        simp only [lenH_dls, thn_some, binK_lss, h4, decide_true, condK_bool, if_true, i1, f0, l0, lenH_ints, binK_gtr, hz, decide_false, Bool.false_eq_true, if_false, binK_int, e1]
        rfl)
      (fun i _ hi hp => by
        have h4 : (i : Int) < (l.length : Int) := by omega
        have i1 := idx_dls l i hi
        have g1 : l.getD i default = l[i] := by simp [hi]
        have f0 : fieldAtH 0 (.ptr (dlC l[i])) = some (.ptr (dlC l[i])) := rfl
        have l0 : loadH none [] (.ptr (dlC l[i])) = some (intsD l[i].path) := rfl
        have hz : (60 : Int) < (l[i].path.length : Int) := by
          rw [decide_eq_false_iff_not, g1] at hp
          omega
        rw [st_offshootlaw14_few_0]
        simp only [lenH_dls, thn_some, binK_lss, h4, decide_true, condK_bool, if_true, i1, f0, l0, lenH_ints, binK_gtr, hz])
      (by rw [st_offshootlaw14_few_0]; simp)
    rcases key with ⟨q1, q2⟩ | ⟨i, _, hi, q1, _, q2⟩
    · have hr : fewD l = true := by
        unfold fewD
        rw [decide_eq_true (by omega), Bool.true_and, List.all_eq_true]
        intro x hx
        obtain ⟨i, hi, e⟩ := List.getElem_of_mem hx
        have := q1 i (Nat.zero_le _) hi
        rw [← e]
        simpa [hi] using this
      refine ⟨302, _, ?_, Imp.refl _⟩
      show outD (textK _ _ _ _ _ [dlsD l] []) = _
      rw [sh_offshootlaw14_few]
      simp only [cast0] at q2
      simp only [lenH_dls, thn_some, binK_gtr, h3, decide_false, condK_bool, Bool.false_eq_true, if_false, q2, leaveK_exit, condN_same, hr]
      rfl
    · have hr : fewD l = false := by
        rw [Bool.eq_false_iff]
        intro e
        unfold fewD at e
        rw [Bool.and_eq_true, List.all_eq_true] at e
        have := e.2 l[i] (List.getElem_mem hi)
        have g1 : l.getD i default = l[i] := by simp [hi]
        rw [g1, this] at q1
        cases q1
      refine ⟨302, _, ?_, Imp.refl _⟩
      show outD (textK _ _ _ _ _ [dlsD l] []) = _
      rw [sh_offshootlaw14_few]
      simp only [cast0] at q2
      simp only [lenH_dls, thn_some, binK_gtr, h3, decide_false, condK_bool, Bool.false_eq_true, if_false, q2, leaveK_ret, List.getD_cons_zero, List.getD_cons_succ, hr]
      rfl
theorem few14_pure (l : List Dl) (H : Heap) : liftF F_few14 [dlsD l] H = some (bD (fewD l), H) := by
  rw [liftF_pure _ _ _ rfl]
  have : F_few14 [dlsD l] = _ := f1_enc (A := dlsT) _ l
  rw [this]; rfl
/-- Of one delta, that lies in a row of the call's own. -/
theorem few14_row (t : TypeId) (d : Dl) (H : Heap) (i : Nat) (h : H[i]? = some (.cells t 3 [intsD d.path, iD d.op, iD d.n])) : liftF F_few14 [.hs i 1] H = some (bD (decide (d.path.length ≤ 60)), H) := by
  have hd : derefN H 9 (.hs i 1) = some (dlsD [d]) := by
    rw [derefN_hs H 8 i 1 t 3 _ h (by simp)]
    rfl
  rw [liftF_obj _ [.hs i 1] [dlsD [d]] H rfl (by rw [List.mapM_cons, hd]; rfl)]
  have : F_few14 [dlsD [d]] = _ := f1_enc (A := dlsT) _ [d]
  rw [this]
  simp [fewD, flatD]
end Go.Proofs.YtinnbafplhcnpaaGreat
end

section
namespace Go.Proofs.YtinnbafplhcnpaaGreat
open Go.RowKit
set_option linter.unusedVariables false
set_option linter.unusedSimpArgs false
set_option maxRecDepth 100000

def dlcC (ls : List Dl) : List D := (ls.map dlC).flatten
theorem dlcC_len (ls : List Dl) : (dlcC ls).length = 3 * ls.length := by
  induction ls with
  | nil => rfl
  | cons x r ih =>
    have e : dlcC (x :: r) = intsD x.path :: iD x.op :: iD x.n :: dlcC r := rfl
    rw [e]; simp [ih]; omega
theorem dlcC_app (a b : List Dl) : dlcC (a ++ b) = dlcC a ++ dlcC b := by simp [dlcC]
theorem mapM_dlcC (H : Heap) (n : Nat) (ls : List Dl) : (dlcC ls).mapM (derefN H n) = some (dlcC ls) := by
  induction ls with
  | nil => rfl
  | cons x r ih =>
    have e : dlcC (x :: r) = intsD x.path :: iD x.op :: iD x.n :: dlcC r := rfl
    rw [e, List.mapM_cons, List.mapM_cons, List.mapM_cons, derefN_pure H n _ rfl, derefN_pure H n _ rfl, derefN_pure H n _ rfl, ih]; rfl
theorem chunks_dlcC (ls : List Dl) : chunks 3 ls.length (dlcC ls) = ls.map dlC := by
  induction ls with
  | nil => rfl
  | cons x r ih =>
    have e : dlcC (x :: r) = intsD x.path :: iD x.op :: iD x.n :: dlcC r := rfl
    rw [e, List.length_cons, chunks, List.map_cons]
    simp only [List.take_succ_cons, List.take_zero, List.drop_succ_cons, List.drop_zero, ih]
    rfl
theorem Buf.dls {e : TypeId} {H : Heap} {B : Nat} {d : D} {ls : List Dl} (h : Buf e 3 H B d ls.length (dlcC ls)) (n : Nat) : ∃ d', derefN H (n + 1) d = some d' ∧ Imp d' (dlsD ls) := by
  rcases h with ⟨rfl, h1, _⟩ | ⟨r, h1, rfl, h3, h4⟩
  · have : ls = [] := List.length_eq_zero_iff.1 h1
    subst this
    exact ⟨_, derefN_pure H (n + 1) _ rfl, Imp.nil 3⟩
  · refine ⟨dlsD ls, ?_, Imp.refl _⟩
    simp only [derefN, h3]
    rw [if_pos (by rw [dlcC_len]; omega), List.take_of_length_le (by rw [dlcC_len]; omega), mapM_dlcC, Option.map_some, chunks_dlcC]; rfl
def progB (p : Pg) : HO := .cells 25 3 [iD p.params, intsD p.vars, nodesD p.body]
def F_RAll : List D → Option D := F1 progT fun p => if p.body.length ≤ 3000000 then some (.tup [dlsD (allV14 p), iD (chk9 p)]) else none
theorem rall_node (p : Pg) (k : Nat) (hk : k ≤ 250) (H : Heap) (d : D) (h0 : H[0]? = some (progB p)) (hd : Buf 34 3 H 1 d (headS p.body k).length (dlcC (headS p.body k))) :
    ∃ H' d' u, loopF Tryz.prog (T14a Tryz.prog) kp_offshootref14_All 300 Tryz.f13 1 [.hp 0 0, d, iD k, intsD ((ofv p.body k).getD []), dlsD (choicesD p.body k), iD 0] H =
      some (.exit 2, [.hp 0 0, d', iD k, intsD ((ofv p.body k).getD []), dlsD (choicesD p.body k), u], H') ∧ H'[0]? = some (progB p) ∧ Buf 34 3 H' 1 d' (headS p.body (k + 1)).length (dlcC (headS p.body (k + 1))) := by
  rw [headS_succ, ← site_with]
  have hhl := headS_len p.body k
  have hcl := choices_short p.body k
  have hcl2 : (choicesD p.body k).length ≤ 5 := by simp [choicesD]; omega
  generalize (ofv p.body k).getD [] = pv at *
  generalize choicesD p.body k = L at *
  generalize headS p.body k = ls at *
  have key := loopF_invS (P := Tryz.prog) (T := T14a Tryz.prog) (kp := kp_offshootref14_All) (fn := Tryz.f13) (li := 1)
    (fun j s H => ∃ d, s = [.hp 0 0, d, iD k, intsD pv, dlsD L, iD j] ∧ H[0]? = some (progB p) ∧ Buf 34 3 H 1 d (ls ++ (L.take j).map (withP pv)).length (dlcC (ls ++ (L.take j).map (withP pv))))
    (fun r => ∃ H' d' u, r = (.exit 2, [.hp 0 0, d', iD k, intsD pv, dlsD L, u], H') ∧ H'[0]? = some (progB p) ∧ Buf 34 3 H' 1 d' (ls ++ L.map (withP pv)).length (dlcC (ls ++ L.map (withP pv)))) L.length 300
    (fun j s H hj hI => by
      obtain ⟨d, rfl, hH, hd⟩ := hI
      have hlt : (j : Int) < (L.length : Int) := by omega
      have i1 := idx_dls L j hj
      have f1 : fieldAtH 1 (.ptr (dlC L[j])) = some (.ptr [iD L[j].op, iD L[j].n]) := rfl
      have f2 : fieldAtH 2 (.ptr (dlC L[j])) = some (.ptr [iD L[j].n]) := rfl
      have l1 : loadH none H (.ptr [iD L[j].op, iD L[j].n]) = some (iD L[j].op) := rfl
      have l2 : loadH none H (.ptr [iD L[j].n]) = some (iD L[j].n) := rfl
      have bu : buildR [(0, 1), (1, 1), (2, 1)] [.v (.slice none 0 0), iD 0, iD 0] [(0, intsD pv), (1, iD L[j].op), (2, iD L[j].n)] = some (.agg [intsD pv, iD L[j].op, iD L[j].n]) := rfl
      have ro := row_delP 34 (intsD pv) L[j].op L[j].n H rfl
      have e1 := intD_add (j : Int) 1 (by omega) (by omega)
      have c1 : (j : Int) + 1 = ((j + 1 : Nat) : Int) := by omega
      rw [c1] at e1
      have hlen := (List.getElem?_eq_some_iff.1 hH).1
      obtain ⟨d', H', a1, a2, a3, _⟩ := app_one (new := [intsD pv, iD L[j].op, iD L[j].n]) hd (by omega) rfl rfl (by rw [dlcC_len]; simp; omega) (by omega)
      refine ⟨[.hp 0 0, d', iD k, intsD pv, dlsD L, iD ((j + 1 : Nat) : Int)], H', ?_, d', rfl, (a3.2 0 (by omega)).trans hH, ?_⟩
      · rw [st_offshootref14_All_1]
        simp only [lenH_dls, thn_some, binK_lss, hlt, decide_true, condK_bool, if_true, i1, f1, f2, l1, l2, bu, ro, thnH_some, a1, binK_int, e1]
      · have e : (L.take (j + 1)).map (withP pv) = (L.take j).map (withP pv) ++ [withP pv L[j]] := by rw [List.take_succ_eq_append_getElem hj, List.map_append]; rfl
        rw [e, ← List.append_assoc, dlcC_app _ [_], List.length_append]
        exact a2)
    (fun s H hI => by
      obtain ⟨d, rfl, hH, hd⟩ := hI
      rw [List.take_length] at hd
      refine ⟨(.exit 2, [.hp 0 0, d, iD k, intsD pv, dlsD L, iD L.length], H), ?_, (by intro e; cases e), _, _, _, rfl, hH, hd⟩
      rw [st_offshootref14_All_1]
      have hlt : ¬ ((L.length : Int) < (L.length : Int)) := by omega
      simp only [lenH_dls, thn_some, binK_lss, hlt, decide_false, condK_bool, Bool.false_eq_true, if_false])
    (by omega) (s := [.hp 0 0, d, iD k, intsD pv, dlsD L, iD 0]) (H := H) ⟨d, rfl, h0, by simpa using hd⟩
  obtain ⟨r, k1, H', d', u, rfl, k2, k3⟩ := key
  exact ⟨H', d', u, k1, k2, k3⟩
theorem C_RAll : CallOk Tryz.prog 13 F_RAll := call1 (kp := kp_offshootref14_All) T14a_ok mixed Tryz.func13 (by kernel_rfl) (by decide) fun p r h => by
  split at h
  case isFalse => cases h
  rename_i hb
  cases h
  have hb1 : boxH 25 (progD p) [] = some (.hp 0 0, [progB p]) := rfl
  have l0 : loadH (some 3) [progB p] (.hp 0 0) = some (progD p) := rfl
  have hc := check14_pure p hb [progB p]
  by_cases h0 : chk9 p = 0
  · have hv : allV14 p = headS p.body p.body.length := by unfold allV14; rw [if_pos h0]; rfl
    obtain ⟨k1, k2⟩ := chk9_len h0
    have hz : ((chk9 p) != 0) = false := by rw [h0]; rfl
    have f2 : fieldAtH 2 (.hp 0 0) = some (.hp 0 2) := rfl
    have key := loopF_invS (P := Tryz.prog) (T := T14a Tryz.prog) (kp := kp_offshootref14_All) (fn := Tryz.f13) (li := 0)
      (fun k s H => ∃ d u3 u4 u5, s = [.hp 0 0, d, iD k, u3, u4, u5] ∧ H[0]? = some (progB p) ∧ Buf 34 3 H 1 d (headS p.body k).length (dlcC (headS p.body k)))
      (fun r => ∃ s H d, r = (.exit 0, s, H) ∧ s.getD 1 .undef = d ∧ Buf 34 3 H 1 d (headS p.body p.body.length).length (dlcC (headS p.body p.body.length))) p.body.length 300
      (fun k s H hk hI => by
        obtain ⟨d, u3, u4, u5, rfl, hH, hd⟩ := hI
        have hlt : (k : Int) < (p.body.length : Int) := by omega
        have b2 : loadH none H (.hp 0 2) = some (nodesD p.body) := load_cellN _ _ _ _ _ _ _ hH rfl
        have o1 := of11_pure p.body k (by omega) H
        have c1 := refChoices_pure p.body k (by omega) H
        have x0 : extractD (.tup [intsD ((ofv p.body k).getD []), bD (ofv p.body k).isSome]) 0 = some (intsD ((ofv p.body k).getD [])) := rfl
        have x1 : extractD (.tup [intsD ((ofv p.body k).getD []), bD (ofv p.body k).isSome]) 1 = some (bD (ofv p.body k).isSome) := rfl
        obtain ⟨H', d', u, q1, q2, q3⟩ := rall_node p k (by omega) H d hH hd
        have e1 := intD_add (k : Int) 1 (by omega) (by omega)
        have cc : (k : Int) + 1 = ((k + 1 : Nat) : Int) := by omega
        rw [cc] at e1
        refine ⟨[.hp 0 0, d', iD ((k + 1 : Nat) : Int), intsD ((ofv p.body k).getD []), dlsD (choicesD p.body k), u], H', ?_, _, _, _, _, rfl, q2, q3⟩
        rw [st_offshootref14_All_0]
        simp only [f2, thn_some, b2, lenH_nodes, binK_lss, hlt, decide_true, condK_bool, if_true, o1, thnH_some, x0, x1, c1, q1, leaveK_exit, condN_same, List.getD_cons_zero, List.getD_cons_succ, binK_int, e1])
      (fun s H hI => by
        obtain ⟨d, u3, u4, u5, rfl, hH, hd⟩ := hI
        have b2 : loadH none H (.hp 0 2) = some (nodesD p.body) := load_cellN _ _ _ _ _ _ _ hH rfl
        refine ⟨(.exit 0, [.hp 0 0, d, iD p.body.length, u3, u4, u5], H), ?_, (by intro e; cases e), _, H, d, rfl, rfl, hd⟩
        rw [st_offshootref14_All_0]
        have hlt : ¬ ((p.body.length : Int) < (p.body.length : Int)) := by omega
        simp only [f2, thn_some, b2, lenH_nodes, binK_lss, hlt, decide_false, condK_bool, Bool.false_eq_true, if_false])
      (by omega) (s := [.hp 0 0, .v (.slice none 0 0), iD 0, .undef, .undef, .undef]) (H := [progB p]) ⟨_, _, _, _, rfl, rfl, Buf.nil _ _ _ _⟩
    obtain ⟨r, q1, s, H', d, rfl, q2, q3⟩ := key
    obtain ⟨d', z1, z2⟩ := q3.dls 7
    rw [hv, h0]
    refine ⟨300, .tup [d', iD 0], ?_, Imp.tup (.cons z2 (.cons (Imp.refl (iD 0)) .nil))⟩
    show outD (textK _ _ _ _ _ [progD p] []) = _
    rw [sh_offshootref14_All]
    simp only [hb1, thnH_some, l0, thn_some, hc, binK_neq, hz, condK_bool, Bool.false_eq_true, if_false, q1, leaveK_exit, condN_same, q2]
    show (([d, iD 0].mapM (derefN H' 8)).map D.tup) = _
    rw [List.mapM_cons, z1]; rfl
  · have hv : allV14 p = [] := by unfold allV14; rw [if_neg h0]
    rw [hv]
    refine ⟨0, _, ?_, Imp.tup (.cons (Imp.nil 3) (.cons (Imp.refl (iD (chk9 p))) .nil))⟩
    show outD (textK _ _ _ _ _ [progD p] []) = _
    rw [sh_offshootref14_All]
    have hz : ((chk9 p) != 0) = true := bne_iff_ne.2 h0
    simp only [hb1, thnH_some, l0, thn_some, hc, binK_neq, hz, condK_bool, if_true]
    rfl
theorem rall_pure (p : Pg) (h : p.body.length ≤ 3000000) (H : Heap) : liftF F_RAll [progD p] H = some (.tup [dlsD (allV14 p), iD (chk9 p)], H) := by
  rw [liftF_pure _ _ _ rfl]
  have : F_RAll [progD p] = _ := f1_enc (A := progT) _ p
  rw [this, if_pos h]; rfl

/-- Is a delta a mutant's? -/
def isV14 (p : Pg) (d : Dl) : Bool := decide (chk9 p = 0 ∧ 0 ≤ findv p.body d.path ∧ isC p.body (findv p.body d.path) d.op d.n)
def fs14i (P : Program) : List Entry := (12, true, liftN F_SAll) :: (23, true, liftF F_SFind) :: (13, true, liftF F_RAll) :: (14, true, liftF F_RSame) :: (25, true, liftF F_Rises) :: (15, true, liftF F_few14) :: fs14a P
theorem fs14i_ok : ∀ p ∈ fs14i Tryz.prog, EntryOk Tryz.prog p := entries_cons (entry_new N_SAll) <| entries_cons (entry_lift C_SFind) <| entries_cons (entry_lift C_RAll) <| entries_cons (entry_lift C_RSame) <| entries_cons (entry_lift C_Rises) <| entries_cons (entry_lift C_few14) <| fs14a_ok
end Go.Proofs.YtinnbafplhcnpaaGreat
end

section
namespace Go.Proofs.YtinnbafplhcnpaaGreat
open Go.RowKit
set_option linter.unusedVariables false
set_option maxRecDepth 100000

def kp_sites_Mutant : List Nat := []
end Go.Proofs.YtinnbafplhcnpaaGreat
end

section
namespace Go.Proofs.YtinnbafplhcnpaaGreat
open Go.RowKit
set_option linter.unusedVariables false
set_option linter.unusedSimpArgs false
set_option maxRecDepth 100000

theorem isV14_mem {p : Pg} (h : chk9 p = 0) (d : Dl) : isV14 p d = true ↔ d ∈ allV14 p := by
  unfold isV14 allV14
  rw [if_pos h, mem_sitesV (chk9_len h).2, decide_eq_true_eq]
  exact ⟨fun q => q.2, fun q => ⟨h, q⟩⟩
theorem allV14_sorted (p : Pg) : (allV14 p).Pairwise fun a b => cmpDl a b < 0 := by
  unfold allV14
  split
  · rename_i h
    exact sitesV_sorted (chk9_len h).2
  · exact List.Pairwise.nil
theorem okL_all (p : Pg) : okL (allV14 p) := by
  unfold allV14
  split
  · rename_i h
    obtain ⟨h1, h2⟩ := chk9_len h
    refine ⟨by have := sitesV_short p.body; omega, fun x hx => ?_⟩
    have q := ((mem_sitesV h2 x).1 hx).1
    have := ofv_len14 p.body _ _ ((ofv_findv h2 _ q x.path).2 rfl)
    omega
  · exact ⟨by simp, fun x hx => by cases hx⟩
theorem find_all {p : Pg} (h : chk9 p = 0) (d : Dl) : isV14 p d = true ↔ 0 ≤ findD (allV14 p) d := by
  rw [isV14_mem h, findD_iff _ _ (allV14_sorted p)]
def delB (d : Dl) : HO := .cells 34 3 [intsD d.path, iD d.op, iD d.n]
def nilB : HO := .cells 25 3 [iD 0, .v (.slice none 0 0), .v (.slice none 0 0)]
end Go.Proofs.YtinnbafplhcnpaaGreat
end

section
namespace Go.Proofs.YtinnbafplhcnpaaGreat
open Go.RowKit
set_option linter.unusedVariables false
set_option linter.unusedSimpArgs false
set_option maxRecDepth 100000

/- In the document's example rows of the call's own are handed on: there Apply is run by its text. -/
theorem N_chNode : CallNew Tryz.prog 106 F_chNode := by
  refine ⟨C_chNode.body, fun ds d hF S vs w hS hv => ?_⟩
  refine (C_chNode.calls ds d hF S vs w hS hv).mono ?_
  rintro e w' ⟨v, rfl, h1, h2⟩
  refine ⟨v, rfl, ?_, h2⟩
  unfold F_chNode F1 at hF
  split at hF
  · obtain ⟨c, hc, hF⟩ := Option.bind_eq_some_iff.1 hF
    split at hF
    · cases hF
      simp only [Rep, nodeD, RepA] at h1 ⊢
      exact h1
    · cases hF
  · cases hF
def fs12c' (P : Program) : List Entry := (106, true, liftN F_chNode) :: fs12c P
theorem fs12c'_ok : ∀ p ∈ fs12c' Tryz.prog, EntryOk Tryz.prog p := entries_cons (entry_new N_chNode) <| fs12c_ok
def T12c' (P : Program) : Tab := ⟨fs12c' P, noYl⟩
theorem T12c'_ok : TabOk Tryz.prog (T12c' Tryz.prog) := tabOk_of fs12c'_ok
def G_answer (P : Program) : List D → Heap → Option (D × Heap) := textG P (T12c' P) kp_delta_change__answer 0 72
theorem C_Ganswer : HCallOk Tryz.prog 72 (G_answer Tryz.prog) := hcall_G T12c'_ok mixed Tryz.func72 (by kernel_rfl) (by decide)
def fs12y (P : Program) : List Entry := (72, false, G_answer P) :: fs12e P
theorem fs12y_ok : ∀ p ∈ fs12y Tryz.prog, EntryOk Tryz.prog p := entries_cons (entry_obj C_Ganswer) <| fs12e_ok
def T12y (P : Program) : Tab := ⟨fs12y P, noYl⟩
theorem T12y_ok : TabOk Tryz.prog (T12y Tryz.prog) := tabOk_of fs12y_ok
def G_DApply (P : Program) : List D → Heap → Option (D × Heap) := textG P (T12y P) kp_delta_Apply 0 35
theorem C_GDApply : HCallOk Tryz.prog 35 (G_DApply Tryz.prog) := hcall_G T12y_ok mixed Tryz.func35 (by kernel_rfl) (by decide)
end Go.Proofs.YtinnbafplhcnpaaGreat
end

section
namespace Go.Proofs.YtinnbafplhcnpaaGreat
open Go.RowKit
set_option linter.unusedVariables false
set_option linter.unusedSimpArgs false

section
variable {S S' : Nat → Prop} {w w' : World} {L L' : List (Nat × Nat)}
mutual
theorem Rep.narrow (hL : ∀ (i : Nat) (p : Nat × Nat), L[i]? = some p → L'[i]? = some p) : ∀ (d : D) (y x : Value), Rep S L w y d → Rep S' L' w' x d → Rep S' L w' x d
  | .undef, y, x, h, k => by simp only [Rep]
  | .v z, y, x, h, k => by simpa only [Rep] using k
  | .sl sz els, y, x, h, k => by simpa only [Rep] using k
  | .ptr cs, y, x, h, k => by simpa only [Rep] using k
  | .agg cs, y, x, h, k => by
    simp only [Rep] at h k ⊢
    obtain ⟨ys, _, h2⟩ := h
    obtain ⟨xs, k1, k2⟩ := k
    exact ⟨xs, k1, RepA.narrow hL cs ys xs h2 k2⟩
  | .tup cs, y, x, h, k => by
    simp only [Rep] at h k ⊢
    obtain ⟨ys, _, h2⟩ := h
    obtain ⟨xs, k1, k2⟩ := k
    exact ⟨xs, k1, RepA.narrow hL cs ys xs h2 k2⟩
  | .hp id off, y, x, h, k => by
    simp only [Rep] at h k ⊢
    obtain ⟨b, c, h1, _⟩ := h
    obtain ⟨b', c', k1, k2⟩ := k
    rw [hL _ _ h1] at k1
    cases k1
    exact ⟨_, _, h1, k2⟩
  | .hs id n, y, x, h, k => by
    simp only [Rep] at h k ⊢
    obtain ⟨b, c, h1, _⟩ := h
    obtain ⟨b', c', k1, k2⟩ := k
    rw [hL _ _ h1] at k1
    cases k1
    exact ⟨_, _, h1, k2⟩
  | .ifc t d, y, x, h, k => by
    simp only [Rep] at h k ⊢
    obtain ⟨z, _, h2⟩ := h
    obtain ⟨z', k1, k2⟩ := k
    exact ⟨z', k1, Rep.narrow hL d z z' h2 k2⟩
  | .clo f fs cs, y, x, h, k => by
    simp only [Rep] at h k ⊢
    obtain ⟨ys, zs, _, h2, h3⟩ := h
    obtain ⟨ys', zs', k1, k2, k3⟩ := k
    exact ⟨ys', zs', k1, RepA.narrow hL fs ys ys' h2 k2, RepA.narrow hL cs zs zs' h3 k3⟩
  | .mp id, y, x, h, k => by
    simp only [Rep] at h k ⊢
    obtain ⟨b, c, h1, _⟩ := h
    obtain ⟨b', c', k1, k2⟩ := k
    rw [hL _ _ h1] at k1
    cases k1
    exact ⟨_, _, h1, k2⟩
  | .ht id off n, y, x, h, k => by
    simp only [Rep] at h k ⊢
    obtain ⟨b, c, o, cap, h1, _⟩ := h
    obtain ⟨b', c', o', cap', k1, k2⟩ := k
    rw [hL _ _ h1] at k1
    cases k1
    exact ⟨_, _, _, _, h1, k2⟩
  | .yld id, y, x, h, k => by
    simp only [Rep] at h k ⊢
    obtain ⟨b, c, h1, _⟩ := h
    obtain ⟨b', c', k1, k2⟩ := k
    rw [hL _ _ h1] at k1
    cases k1
    exact ⟨_, _, h1, k2⟩
  | .mv ks vs, y, x, h, k => by simpa only [Rep] using k
theorem RepA.narrow (hL : ∀ (i : Nat) (p : Nat × Nat), L[i]? = some p → L'[i]? = some p) : ∀ (ds : List D) (ys xs : List Value), RepA S L w ys ds → RepA S' L' w' xs ds → RepA S' L w' xs ds
  | [], ys, xs, h, k => by simpa only [RepA] using k
  | d :: r, ys, xs, h, k => by
    simp only [RepA] at h k ⊢
    obtain ⟨y, yr, _, h2, h3⟩ := h
    obtain ⟨x, xr, k1, k2, k3⟩ := k
    exact ⟨x, xr, k1, Rep.narrow hL d y x h2 k2, RepA.narrow hL r yr xr h3 k3⟩
end
theorem ObjOk.narrow (hL : ∀ (i : Nat) (p : Nat × Nat), L[i]? = some p → L'[i]? = some p) {b c b' c' : Nat} {o : HO} (h : ObjOk S L w b c o) (k : ObjOk S' L' w' b' c' o) : ObjOk S' L w' b' c' o := by
  cases o with
  | cells t sz cs =>
    obtain ⟨arr, _, _, _, _, h5⟩ := h
    obtain ⟨arr', k1, k2, k3, k4, k5⟩ := k
    refine ⟨arr', k1, k2, k3, k4, fun j d hd => ?_⟩
    obtain ⟨y, _, _, hy⟩ := h5 j d hd
    obtain ⟨x, q1, q2, q3⟩ := k5 j d hd
    exact ⟨x, q1, q2, Rep.narrow hL d y x hy q3⟩
  | map ks vs =>
    obtain ⟨arr, clk, _, _, h3⟩ := h
    obtain ⟨arr', clk', k1, k2, k3⟩ := k
    exact ⟨arr', clk', k1, k2, RepA.narrow hL _ _ _ h3 k3⟩
  | loop st ps as' bd sz kp s =>
    obtain ⟨r, _, _, _, _, _, _, h7⟩ := h
    obtain ⟨r', k1, k2, k3, k4, k5, k6, k7⟩ := k
    exact ⟨r', k1, k2, k3, k4, k5, k6, RepA.narrow hL _ _ _ h7 k7⟩
  | dead => trivial
end
theorem HRel.cut {B : Nat} {S S' : Nat → Prop} {L L' : List (Nat × Nat)} {w w' : World} {H H' : Heap} (h : HRel B S L w H) (k : HRel B S' L' w' H') (hl : Later B S S' L L' w w') (hk : ∀ i, i < H.length → H'[i]? = H[i]?) : HRel B S' L w' H := by
  have hL := prefix_get hl.pre
  refine ⟨h.len, k.small, k.base, fun id o hid ho => ?_, h.inj⟩
  have hlt := (List.getElem?_eq_some_iff.1 hid).1
  obtain ⟨b, c, h1, h2, h3, h4⟩ := h.obj id o hid ho
  obtain ⟨b', c', k1, k2, k3, k4⟩ := k.obj id o ((hk id hlt).trans hid) ho
  rw [hL _ _ h1] at k1
  cases k1
  exact ⟨b, c, h1, k2, k3, h4.narrow hL k4⟩
/-- A call that gives by value, over objects that it leaves. -/
theorem hcall_cut {P : Program} {f : FuncId} {G Gc : List D → Heap → Option (D × Heap)} (hG : HCallOk P f G) (h : ∀ ds H d H', Gc ds H = some (d, H') → H' = H ∧ pureD d = true ∧ ∃ H2, G ds H = some (d, H2) ∧ ∀ i, i < H.length → H2[i]? = H[i]?) : HCallOk P f Gc := by
  refine ⟨hG.body, fun ds H d H' hg B S L vs w hr hv => ?_⟩
  obtain ⟨rfl, hp, H2, g1, g2⟩ := h ds H d H' hg
  refine (hG.calls ds _ d H2 g1 B S L vs w hr hv).mono ?_
  rintro e w' ⟨v, S', L', rfl, k1, k2, k3⟩
  exact ⟨v, S', L, rfl, (pure_rep d v hp k1).lift, hr.cut k2 k3 g2, ⟨k3.below, k3.kept, k3.more, List.prefix_refl _, k3.only, k3.marks⟩⟩
end Go.Proofs.YtinnbafplhcnpaaGreat
end

section
namespace Go.Proofs.YtinnbafplhcnpaaGreat
open Go.RowKit
set_option linter.unusedVariables false
set_option linter.unusedSimpArgs false
set_option maxRecDepth 100000

def fs14x (P : Program) : List Entry := (35, false, G_DApply P) :: fs14i P
theorem fs14x_ok : ∀ p ∈ fs14x Tryz.prog, EntryOk Tryz.prog p := entries_cons (entry_obj C_GDApply) <| fs14i_ok
def T14x (P : Program) : Tab := ⟨fs14x P, noYl⟩
theorem T14x_ok : TabOk Tryz.prog (T14x Tryz.prog) := tabOk_of fs14x_ok
def G_SMutant (P : Program) : List D → Heap → Option (D × Heap) := textG P (T14x P) kp_sites_Mutant 0 16
theorem C_GSMutant : HCallOk Tryz.prog 16 (G_SMutant Tryz.prog) := hcall_G T14x_ok mixed Tryz.func16 (by kernel_rfl) (by decide)
end Go.Proofs.YtinnbafplhcnpaaGreat
end

section
namespace Go.Proofs.YtinnbafplhcnpaaGreat
open Go.RowKit
set_option linter.unusedVariables false
set_option maxRecDepth 100000

theorem shw_delta_change__answer (n : Nat) (x0 : D) (h : Heap) : textK Tryz.prog (T12c' Tryz.prog) kp_delta_change__answer n Tryz.f72 [x0] h =
(thnH (boxH 97 x0 h) fun y0 h1 =>
thn (loadH (some 5) h1 y0) fun y2 =>
thnH (liftN F_chNode [y2] h1) fun y3 h4 =>
thn (fieldD none 0 y3) fun y5 =>
thn (binK .int .neq y5 (iD 25)) fun y6 =>
condK y6
(some ((.v (.slice none 0 0)), h4))
(thn (fieldAtH 0 y0) fun y7 =>
thn (fieldAtH 2 y7) fun y8 =>
thn (loadH none h4 y8) fun y9 =>
thn (fieldAtH 3 y0) fun y10 =>
thn (loadH none h4 y10) fun y11 =>
thn (binK .int .add y11 (iD 1)) fun y12 =>
thn (fieldAtH 4 y0) fun y13 =>
thn (loadH none h4 y13) fun y14 =>
thn (buildR [(0, 1), (1, 1)] [(iD 0), (iD 0)] [(0, (iD 1)), (1, y14)]) fun y15 =>
thnH (rowH 54 2 1 [(iD 0), (iD 0)] [(0, y15)] h4) fun y16 h17 =>
thnH (liftN F_Replace [y9, y12, y16] h17) fun y18 h19 =>
some (y18, h19))) := by kernel_rfl


theorem shw_delta_Apply (n : Nat) (x0 x1 : D) (h : Heap) : textK Tryz.prog (T12y Tryz.prog) kp_delta_Apply n Tryz.f35 [x0, x1] h =
(thnH (boxH 25 x0 h) fun y0 h1 =>
thnH (boxH 34 x1 h1) fun y2 h3 =>
thnH (allocH 25 [(iD 0), (.v (.slice none 0 0)), (.v (.slice none 0 0))] h3) fun y4 h5 =>
thn (buildA 1 [(.v .nilFunc), (.v .nilFunc), (.v .nilFunc), (.v .nilFunc), (.v .nilFunc), (.v .nilFunc), (.v .nilFunc), (.v .nilFunc)] [(0, (.v .nilFunc)), (1, (.clo (.func 66) [] [])), (2, (.clo (.func 67) [] [])), (3, (.clo (.func 68) [] [])), (4, (.clo (.func 69) [] [])), (5, (.clo (.func 70) [] [])), (6, (.clo (.func 71) [] [])), (7, (.clo (.func 72) [] []))]) fun y6 =>
thnH (allocH 98 [(.v .nilFunc), (.v .nilFunc), (.v .nilFunc), (.v .nilFunc), (.v .nilFunc), (.v .nilFunc), (.v .nilFunc), (.v .nilFunc)] h5) fun y7 h8 =>
thnH (setH 8 y7 y6 h8) fun y9 h10 =>
thn (fieldAtH 2 y0) fun y11 =>
thn (loadH none h10 y11) fun y12 =>
thn (fieldAtH 0 y2) fun y13 =>
thn (loadH none h10 y13) fun y14 =>
thnH (liftF F_Find [y12, y14] h10) fun y15 h16 =>
thn (binK .int .lss y15 (iD 0)) fun y17 =>
condK y17
(thn (buildR [(0, 1), (1, 1), (2, 1)] [(iD 0), (.v (.slice none 0 0)), (.v (.slice none 0 0))] []) fun y18 =>
thnH (setH 3 y4 y18 h16) fun y19 h20 =>
thn (loadH (some 3) h20 y4) fun y21 =>
some (.tup [y21, (iD 16)], h20))
(thn (fieldAtH 1 y2) fun y22 =>
thn (loadH none h16 y22) fun y23 =>
thn (binK .int .lss y23 (iD 1)) fun y24 =>
condK y24
(thn (buildR [(0, 1), (1, 1), (2, 1)] [(iD 0), (.v (.slice none 0 0)), (.v (.slice none 0 0))] []) fun y25 =>
thnH (setH 3 y4 y25 h16) fun y26 h27 =>
thn (loadH (some 3) h27 y4) fun y28 =>
some (.tup [y28, (iD 17)], h27))
(thn (fieldAtH 1 y2) fun y29 =>
thn (loadH none h16 y29) fun y30 =>
thn (binK .int .geq y30 (iD 8)) fun y31 =>
condK y31
(thn (buildR [(0, 1), (1, 1), (2, 1)] [(iD 0), (.v (.slice none 0 0)), (.v (.slice none 0 0))] []) fun y32 =>
thnH (setH 3 y4 y32 h16) fun y33 h34 =>
thn (loadH (some 3) h34 y4) fun y35 =>
some (.tup [y35, (iD 17)], h34))
(thn (fieldAtH 1 y2) fun y36 =>
thn (loadH none h16 y36) fun y37 =>
thn (idxA 8 1 y7 y37) fun y38 =>
thn (loadH none h16 y38) fun y39 =>
thn (loadH (some 3) h16 y0) fun y40 =>
thn (fieldAtH 2 y2) fun y41 =>
thn (loadH none h16 y41) fun y42 =>
thn (buildR [(0, 3), (3, 1), (4, 1)] [(iD 0), (.v (.slice none 0 0)), (.v (.slice none 0 0)), (iD 0), (iD 0)] [(0, y40), (1, y15), (2, y42)]) fun y43 =>
thnH (callClo (T12y Tryz.prog) y39 [y43] h16) fun y44 h45 =>
thn (lenH .sl y44) fun y46 =>
thn (binK .int .eql y46 (iD 0)) fun y47 =>
condK y47
(thn (buildR [(0, 1), (1, 1), (2, 1)] [(iD 0), (.v (.slice none 0 0)), (.v (.slice none 0 0))] []) fun y48 =>
thnH (setH 3 y4 y48 h45) fun y49 h50 =>
thn (loadH (some 3) h50 y4) fun y51 =>
some (.tup [y51, (iD 17)], h50))
(thn (fieldAtH 0 y0) fun y52 =>
thn (loadH none h45 y52) fun y53 =>
thn (fieldAtH 1 y0) fun y54 =>
thn (loadH none h45 y54) fun y55 =>
thnH (liftN F_CloneI [y55] h45) fun y56 h57 =>
thn (buildR [(0, 1), (1, 1), (2, 1)] [(iD 0), (.v (.slice none 0 0)), (.v (.slice none 0 0))] [(0, y53), (1, y56), (2, y44)]) fun y58 =>
thnH (setH 3 y4 y58 h57) fun y59 h60 =>
thn (loadH (some 3) h60 y4) fun y61 =>
some (.tup [y61, (iD 0)], h60)))))) := by kernel_rfl


theorem shw_sites_Mutant (n : Nat) (x0 x1 : D) (h : Heap) : textK Tryz.prog (T14x Tryz.prog) kp_sites_Mutant n Tryz.f16 [x0, x1] h =
(thnH (boxH 25 x0 h) fun y0 h1 =>
thnH (boxH 34 x1 h1) fun y2 h3 =>
thnH (allocH 25 [(iD 0), (.v (.slice none 0 0)), (.v (.slice none 0 0))] h3) fun y4 h5 =>
thn (loadH (some 3) h5 y0) fun y6 =>
thnH (liftN F_SAll [y6] h5) fun y7 h8 =>
thn (extractD y7 0) fun y9 =>
thn (extractD y7 1) fun y10 =>
thn (binK .int .neq y10 (iD 0)) fun y11 =>
condK y11
(thn (buildR [(0, 1), (1, 1), (2, 1)] [(iD 0), (.v (.slice none 0 0)), (.v (.slice none 0 0))] []) fun y12 =>
thnH (setH 3 y4 y12 h8) fun y13 h14 =>
thn (loadH (some 3) h14 y4) fun y15 =>
some (.tup [y15, y10], h14))
(thn (loadH (some 3) h8 y2) fun y16 =>
thnH (liftF F_SFind [y9, y16] h8) fun y17 h18 =>
thn (binK .int .lss y17 (iD 0)) fun y19 =>
condK y19
(thn (buildR [(0, 1), (1, 1), (2, 1)] [(iD 0), (.v (.slice none 0 0)), (.v (.slice none 0 0))] []) fun y20 =>
thnH (setH 3 y4 y20 h18) fun y21 h22 =>
thn (loadH (some 3) h22 y4) fun y23 =>
some (.tup [y23, (iD 17)], h22))
(thn (loadH (some 3) h18 y0) fun y24 =>
thn (loadH (some 3) h18 y2) fun y25 =>
thnH ((G_DApply Tryz.prog) [y24, y25] h18) fun y26 h27 =>
thn (extractD y26 0) fun y28 =>
thn (extractD y26 1) fun y29 =>
thnH (setH 3 y4 y28 h27) fun y30 h31 =>
thn (loadH (some 3) h31 y4) fun y32 =>
some (.tup [y32, y29], h31)))) := by kernel_rfl

end Go.Proofs.YtinnbafplhcnpaaGreat
end

section
namespace Go.Proofs.YtinnbafplhcnpaaGreat
open Go.RowKit
set_option linter.unusedVariables false
set_option linter.unusedSimpArgs false
set_option maxRecDepth 100000

theorem app_at (H T : Heap) (k : Nat) (o : HO) (h : T[k]? = some o) : (H ++ T)[H.length + k]? = some o := by
  rw [List.getElem?_append_right (by omega), Nat.add_sub_cancel_left]; exact h
theorem app_set (H T : Heap) (k : Nat) (o : HO) : (H ++ T).set (H.length + k) o = H ++ T.set k o := by
  rw [List.set_append_right _ _ (by omega), Nat.add_sub_cancel_left]
theorem app_low (H T : Heap) (k : Nat) (o : HO) (h : H[k]? = some o) : (H ++ T)[k]? = some o := by
  rw [List.getElem?_append_left (List.getElem?_eq_some_iff.1 h).1]; exact h
def bdB : List D := [iD 20, iD 1, iD 25, iD 0, iD 1, iD 1]
def bdV : List Nd := [(20, 1), (25, 0), (1, 1)]
def ppV : Pg := ⟨0, [], bdV⟩
def rrV : List Nd := [(20, 1), (25, 0), (1, 0)]
def pxD (id : Nat) : D := .agg [iD 0, .v (.slice none 0 0), .hs id 3]
theorem deref_bd (H : Heap) (n id : Nat) (t : TypeId) (h : H[id]? = some (.cells t 2 bdB)) : derefN H (n + 1) (.hs id 3) = some (nodesD bdV) := by
  rw [derefN_hs H n id 3 t 2 bdB h (by decide)]
  have : (bdB.take (3 * 2)).mapM (derefN H n) = some bdB := by
    show [iD 20, iD 1, iD 25, iD 0, iD 1, iD 1].mapM (derefN H n) = _
    simp only [List.mapM_cons, derefN_pure H n (iD _) rfl]; rfl
  rw [this]; rfl
def chB (id : Nat) : List D := [iD 0, .v (.slice none 0 0), .hs id 3, iD 1, iD 0]
theorem deref_ch (H : Heap) (id : Nat) (t : TypeId) (h : H[id]? = some (.cells t 2 bdB)) : [D.agg (chB id)].mapM (derefN H 9) = some [.agg [iD 0, .v (.slice none 0 0), nodesD bdV, iD 1, iD 0]] := by
  have : derefN H 9 (.agg (chB id)) = some (.agg [iD 0, .v (.slice none 0 0), nodesD bdV, iD 1, iD 0]) := by
    show (([iD 0, .v (.slice none 0 0), .hs id 3, iD 1, iD 0].mapM (derefN H 8)).map D.agg) = _
    simp only [List.mapM_cons, derefN_pure H 8 (iD _) rfl, derefN_pure H 8 (.v (.slice none 0 0)) rfl, deref_bd H 7 id t h]; rfl
  rw [List.mapM_cons, this]; rfl
/-- A return's answer is made 0. -/
theorem answer_w (id : Nat) (t : TypeId) (H : Heap) (h : H[id]? = some (.cells t 2 bdB)) : G_answer Tryz.prog [.agg (chB id)] H = some (nodesD rrV, H ++ [.cells 97 5 (chB id), .cells 54 2 [iD 1, iD 0]]) := by
  have he : G_answer Tryz.prog [.agg (chB id)] H = textK Tryz.prog (T12c' Tryz.prog) kp_delta_change__answer 0 Tryz.f72 [.agg (chB id)] H := textG_eq Tryz.func72 _ H
  rw [he, shw_delta_change__answer]
  have b1 : boxH 97 (.agg (chB id)) H = some (.hp (H.length + 0) 0, H ++ [.cells 97 5 (chB id)]) := rfl
  have g1 := app_at H [.cells 97 5 (chB id)] 0 _ rfl
  have l1 : loadH (some 5) (H ++ [.cells 97 5 (chB id)]) (.hp (H.length + 0) 0) = some (.agg (chB id)) := by
    simp only [loadH, g1]; rfl
  have n1 : liftN F_chNode [.agg (chB id)] (H ++ [.cells 97 5 (chB id)]) = some (.agg [iD 25, iD 0], H ++ [.cells 97 5 (chB id)]) := by
    rw [liftN_obj _ _ _ _ rfl (deref_ch _ id t (app_low H _ id _ h))]; rfl
  have f0 : fieldAtH 0 (.hp (H.length + 0) 0) = some (.hp (H.length + 0) 0) := rfl
  have f2 : fieldAtH 2 (.hp (H.length + 0) 0) = some (.hp (H.length + 0) 2) := rfl
  have f3 : fieldAtH 3 (.hp (H.length + 0) 0) = some (.hp (H.length + 0) 3) := rfl
  have f4 : fieldAtH 4 (.hp (H.length + 0) 0) = some (.hp (H.length + 0) 4) := rfl
  have l2 := load_cellN _ _ 2 _ _ _ (.hs id 3) g1 rfl
  have l3 := load_cellN _ _ 3 _ _ _ (iD 1) g1 rfl
  have l4 := load_cellN _ _ 4 _ _ _ (iD 0) g1 rfl
  have x0 : fieldD none 0 (.agg [iD 25, iD 0]) = some (iD 25) := rfl
  have x1 : binK .int .neq (iD 25) (iD 25) = some (bD false) := rfl
  have x2 : binK .int .add (iD 1) (iD 1) = some (iD 2) := rfl
  have x3 : buildR [(0, 1), (1, 1)] [iD 0, iD 0] [(0, iD 1), (1, iD 0)] = some (.agg [iD 1, iD 0]) := rfl
  have r1 : rowH 54 2 1 [iD 0, iD 0] [(0, .agg [iD 1, iD 0])] (H ++ [.cells 97 5 (chB id)]) = some (.hs (H.length + 1) 1, H ++ [.cells 97 5 (chB id), .cells 54 2 [iD 1, iD 0]]) := by
    show some (D.hs (H ++ [HO.cells 97 5 (chB id)]).length 1, (H ++ [HO.cells 97 5 (chB id)]) ++ [HO.cells 54 2 [iD 1, iD 0]]) = _
    simp
  have g2 := app_at H [.cells 97 5 (chB id), .cells 54 2 [iD 1, iD 0]] 1 _ rfl
  have d2 : derefN (H ++ [.cells 97 5 (chB id), .cells 54 2 [iD 1, iD 0]]) 9 (.hs (H.length + 1) 1) = some (nodesD [(1, 0)]) := by
    rw [derefN_hs _ 8 _ 1 _ 2 _ g2 (by decide)]
    rfl
  have rp : liftN F_Replace [.hs id 3, iD 2, .hs (H.length + 1) 1] (H ++ [.cells 97 5 (chB id), .cells 54 2 [iD 1, iD 0]]) = some (nodesD rrV, H ++ [.cells 97 5 (chB id), .cells 54 2 [iD 1, iD 0]]) := by
    have e : F_Replace [nodesD bdV, iD 2, nodesD [(1, 0)]] = some (nodesD rrV) := by kernel_rfl
    rw [liftN_obj _ _ [nodesD bdV, iD 2, nodesD [(1, 0)]] _ rfl (by
      rw [List.mapM_cons, List.mapM_cons, List.mapM_cons, deref_bd _ 8 id t (app_low H _ id _ h), derefN_pure _ 9 (iD 2) rfl, d2]; rfl), e]
    rfl
  simp only [b1, thnH_some, l1, thn_some, n1, x0, x1, condK_bool, Bool.false_eq_true, if_false, f0, f2, f3, f4, l2, l3, l4, x2, x3, r1, rp]
theorem set_ops (H : Heap) (i : Nat) (t : TypeId) (cs : List D) (h : H[i]? = some (.cells t 8 cs)) (hc : cs.length = 8) : setH 8 (.hp i 0) (.agg opsC) H = some (.v undef, H.set i (.cells t 8 opsC)) := by
  have h2 : cs.drop 8 = [] := List.drop_eq_nil_iff.2 (by omega)
  have h3 : opsC.length = 8 := rfl
  have h4 : opsC.all cellOk = true := rfl
  simp only [setH, storeH, h, cellsD, h3, h4]
  rw [if_pos ⟨trivial, by omega, trivial⟩]
  simp [h2]
def ddD : D := .agg [intsD [0], iD 7, iD 0]
def rrD : D := .agg [iD 0, intsD [], nodesD rrV]
def zzD : D := .agg [iD 0, .v (.slice none 0 0), .v (.slice none 0 0)]
/-- The example's program is changed. -/
theorem apply_w (id : Nat) (t : TypeId) (H : Heap) (h : H[id]? = some (.cells t 2 bdB)) : ∃ H', G_DApply Tryz.prog [pxD id, ddD] H = some (.tup [rrD, iD 0], H') ∧ Kp H.length H H' := by
  have he : G_DApply Tryz.prog [pxD id, ddD] H = textK Tryz.prog (T12y Tryz.prog) kp_delta_Apply 0 Tryz.f35 [pxD id, ddD] H := textG_eq Tryz.func35 _ H
  rw [he, shw_delta_Apply]
  have b1 : boxH 25 (pxD id) H = some (.hp (H.length + 0) 0, H ++ [.cells 25 3 [iD 0, .v (.slice none 0 0), .hs id 3]]) := rfl
  have b2 : boxH 34 ddD (H ++ [.cells 25 3 [iD 0, .v (.slice none 0 0), .hs id 3]]) = some (.hp (H.length + 1) 0, H ++ [.cells 25 3 [iD 0, .v (.slice none 0 0), .hs id 3], .cells 34 3 [intsD [0], iD 7, iD 0]]) := by
    show some (D.hp (H ++ [HO.cells 25 3 [iD 0, .v (.slice none 0 0), .hs id 3]]).length 0, (H ++ [HO.cells 25 3 [iD 0, .v (.slice none 0 0), .hs id 3]]) ++ [HO.cells 34 3 [intsD [0], iD 7, iD 0]]) = _
    simp
  have b3 : allocH 25 [iD 0, .v (.slice none 0 0), .v (.slice none 0 0)] (H ++ [.cells 25 3 [iD 0, .v (.slice none 0 0), .hs id 3], .cells 34 3 [intsD [0], iD 7, iD 0]]) = some (.hp (H.length + 2) 0, H ++ [.cells 25 3 [iD 0, .v (.slice none 0 0), .hs id 3], .cells 34 3 [intsD [0], iD 7, iD 0], nilB]) := by
    rw [alloc_prog]
    simp [nilB]
  have b4 : allocH 98 [.v .nilFunc, .v .nilFunc, .v .nilFunc, .v .nilFunc, .v .nilFunc, .v .nilFunc, .v .nilFunc, .v .nilFunc] (H ++ [.cells 25 3 [iD 0, .v (.slice none 0 0), .hs id 3], .cells 34 3 [intsD [0], iD 7, iD 0], nilB]) = some (.hp (H.length + 3) 0, H ++ [.cells 25 3 [iD 0, .v (.slice none 0 0), .hs id 3], .cells 34 3 [intsD [0], iD 7, iD 0], nilB, .cells 98 8 [.v .nilFunc, .v .nilFunc, .v .nilFunc, .v .nilFunc, .v .nilFunc, .v .nilFunc, .v .nilFunc, .v .nilFunc]]) := by
    rw [alloc_ops]
    simp
  have g4 := app_at H [.cells 25 3 [iD 0, .v (.slice none 0 0), .hs id 3], .cells 34 3 [intsD [0], iD 7, iD 0], nilB, .cells 98 8 [.v .nilFunc, .v .nilFunc, .v .nilFunc, .v .nilFunc, .v .nilFunc, .v .nilFunc, .v .nilFunc, .v .nilFunc]] 3 _ rfl
  have s4 : setH 8 (.hp (H.length + 3) 0) (.agg opsC) (H ++ [.cells 25 3 [iD 0, .v (.slice none 0 0), .hs id 3], .cells 34 3 [intsD [0], iD 7, iD 0], nilB, .cells 98 8 [.v .nilFunc, .v .nilFunc, .v .nilFunc, .v .nilFunc, .v .nilFunc, .v .nilFunc, .v .nilFunc, .v .nilFunc]]) =
      some (.v undef, H ++ [.cells 25 3 [iD 0, .v (.slice none 0 0), .hs id 3], .cells 34 3 [intsD [0], iD 7, iD 0], nilB, .cells 98 8 opsC]) := by
    have q := app_set H [.cells 25 3 [iD 0, .v (.slice none 0 0), .hs id 3], .cells 34 3 [intsD [0], iD 7, iD 0], nilB, .cells 98 8 [.v .nilFunc, .v .nilFunc, .v .nilFunc, .v .nilFunc, .v .nilFunc, .v .nilFunc, .v .nilFunc, .v .nilFunc]] 3 (.cells 98 8 opsC)
    simp only [List.set_cons_succ, List.set_cons_zero] at q
    rw [← q]
    exact set_ops _ _ _ _ g4 rfl
  have hi : (H ++ [.cells 25 3 [iD 0, .v (.slice none 0 0), .hs id 3], .cells 34 3 [intsD [0], iD 7, iD 0], nilB, .cells 98 8 opsC])[id]? = some (.cells t 2 bdB) := app_low H _ id _ h
  have o0 := app_at H [.cells 25 3 [iD 0, .v (.slice none 0 0), .hs id 3], .cells 34 3 [intsD [0], iD 7, iD 0], nilB, .cells 98 8 opsC] 0 _ rfl
  have o1 := app_at H [.cells 25 3 [iD 0, .v (.slice none 0 0), .hs id 3], .cells 34 3 [intsD [0], iD 7, iD 0], nilB, .cells 98 8 opsC] 1 _ rfl
  have o2 := app_at H [.cells 25 3 [iD 0, .v (.slice none 0 0), .hs id 3], .cells 34 3 [intsD [0], iD 7, iD 0], nilB, .cells 98 8 opsC] 2 _ rfl
  have o3 := app_at H [.cells 25 3 [iD 0, .v (.slice none 0 0), .hs id 3], .cells 34 3 [intsD [0], iD 7, iD 0], nilB, .cells 98 8 opsC] 3 _ rfl
  have k0 : Kp H.length H (H ++ [.cells 25 3 [iD 0, .v (.slice none 0 0), .hs id 3], .cells 34 3 [intsD [0], iD 7, iD 0], nilB, .cells 98 8 opsC]) := Kp.app _ _ _ (Nat.le_refl _)
  have hlen : (H ++ [.cells 25 3 [iD 0, .v (.slice none 0 0), .hs id 3], .cells 34 3 [intsD [0], iD 7, iD 0], nilB, .cells 98 8 opsC]).length = H.length + 4 := by simp
  simp only [b1, b2, b3, b4, thnH_some, build_ops, thn_some, s4]
  generalize H ++ [HO.cells 25 3 [iD 0, .v (.slice none 0 0), .hs id 3], HO.cells 34 3 [intsD [0], iD 7, iD 0], nilB, HO.cells 98 8 opsC] = H4 at *
  have f2 : fieldAtH 2 (.hp (H.length + 0) 0) = some (.hp (H.length + 0) 2) := rfl
  have f1 : fieldAtH 1 (.hp (H.length + 0) 0) = some (.hp (H.length + 0) 1) := rfl
  have f0 : fieldAtH 0 (.hp (H.length + 0) 0) = some (.hp (H.length + 0) 0) := rfl
  have e0 : fieldAtH 0 (.hp (H.length + 1) 0) = some (.hp (H.length + 1) 0) := rfl
  have e1 : fieldAtH 1 (.hp (H.length + 1) 0) = some (.hp (H.length + 1) 1) := rfl
  have e2 : fieldAtH 2 (.hp (H.length + 1) 0) = some (.hp (H.length + 1) 2) := rfl
  have l2 := load_cellN _ _ 2 _ _ _ (.hs id 3) o0 rfl
  have m0 := load_cellN _ _ 0 _ _ _ (intsD [0]) o1 rfl
  have m1 := load_cellN _ _ 1 _ _ _ (iD 7) o1 rfl
  have m2 := load_cellN _ _ 2 _ _ _ (iD 0) o1 rfl
  have fn : liftF F_Find [.hs id 3, intsD [0]] H4 = some (iD 1, H4) := by
    have e : F_Find [nodesD bdV, intsD [0]] = some (iD 1) := by kernel_rfl
    rw [liftF_obj _ _ [nodesD bdV, intsD [0]] _ rfl (by
      rw [List.mapM_cons, List.mapM_cons, deref_bd _ 8 id t hi, derefN_pure _ 9 (intsD [0]) rfl]; rfl), e]
    rfl
  have c1 : binK .int .lss (iD 1) (iD 0) = some (bD false) := rfl
  have c2 : binK .int .lss (iD 7) (iD 1) = some (bD false) := rfl
  have c3 : binK .int .geq (iD 7) (iD 8) = some (bD false) := rfl
  have ia : idxA 8 1 (.hp (H.length + 3) 0) (iD 7) = some (.hp (H.length + 3) 7) := rfl
  have lo := load_cellN _ _ 7 _ _ _ (.clo (.func 72) [] []) o3 rfl
  have lp := load_delP _ _ _ _ _ _ o0
  have bc : buildR [(0, 3), (3, 1), (4, 1)] [iD 0, .v (.slice none 0 0), .v (.slice none 0 0), iD 0, iD 0] [(0, .agg [iD 0, .v (.slice none 0 0), .hs id 3]), (1, iD 1), (2, iD 0)] = some (.agg (chB id)) := rfl
  have cc : callClo (T12y Tryz.prog) (.clo (.func 72) [] []) [.agg (chB id)] H4 = G_answer Tryz.prog [.agg (chB id)] H4 := rfl
  have aw := answer_w id t H4 hi
  have ln : lenH .sl (nodesD rrV) = some (iD 3) := rfl
  have c4 : binK .int .eql (iD 3) (iD 0) = some (bD false) := rfl
  have q0 := app_low H4 [.cells 97 5 (chB id), .cells 54 2 [iD 1, iD 0]] _ _ o0
  have q2 := app_low H4 [.cells 97 5 (chB id), .cells 54 2 [iD 1, iD 0]] _ _ o2
  have k1 := Kp.app H.length H4 [.cells 97 5 (chB id), .cells 54 2 [iD 1, iD 0]] (by omega)
  simp only [f0, f1, f2, e0, e1, e2, l2, m0, m1, m2, thn_some, fn, thnH_some, c1, c2, c3, condK_bool, Bool.false_eq_true, if_false, ia, lo, lp, bc, cc, aw, ln, c4]
  generalize H4 ++ [HO.cells 97 5 (chB id), HO.cells 54 2 [iD 1, iD 0]] = H5 at *
  have p0 := load_cellN _ _ 0 _ _ _ (iD 0) q0 rfl
  have p1 := load_cellN _ _ 1 _ _ _ (.v (.slice none 0 0)) q0 rfl
  have cl : liftN F_CloneI [.v (.slice none 0 0)] H5 = some (intsD [], H5) := by rw [liftN_pure _ _ _ rfl]; rfl
  have bp : buildR [(0, 1), (1, 1), (2, 1)] [iD 0, .v (.slice none 0 0), .v (.slice none 0 0)] [(0, iD 0), (1, intsD []), (2, nodesD rrV)] = some rrD := rfl
  have st := set_three H5 (H.length + 2) 25 _ _ _ (iD 0) (intsD []) (nodesD rrV) q2 rfl rfl rfl
  have st' : setH 3 (.hp (H.length + 2) 0) rrD H5 = _ := st
  have z2 := load_delP 25 (iD 0) (intsD []) (nodesD rrV) (H5.set (H.length + 2) (.cells 25 3 [iD 0, intsD [], nodesD rrV])) (H.length + 2) (List.getElem?_set_self (List.getElem?_eq_some_iff.1 q2).1)
  refine ⟨H5.set (H.length + 2) (.cells 25 3 [iD 0, intsD [], nodesD rrV]), ?_, (k0.trans k1).trans ⟨by simp, fun k hk => List.getElem?_set_ne (by omega)⟩⟩
  simp only [p0, p1, thn_some, cl, thnH_some, bp, st', z2]
  rfl
def ppD : D := .agg [iD 0, .v (.slice none 0 0), nodesD bdV]
theorem deref_px (H : Heap) (id : Nat) (t : TypeId) (h : H[id]? = some (.cells t 2 bdB)) : [pxD id].mapM (derefN H 9) = some [ppD] := by
  have : derefN H 9 (pxD id) = some ppD := by
    show (([iD 0, .v (.slice none 0 0), .hs id 3].mapM (derefN H 8)).map D.agg) = _
    simp only [List.mapM_cons, derefN_pure H 8 (iD _) rfl, derefN_pure H 8 (.v (.slice none 0 0)) rfl, deref_bd H 7 id t h]; rfl
  rw [List.mapM_cons, this]; rfl
def dd5 : D := .agg [.v (.slice none 0 0), iD 5, iD 0]
/-- What the example's mutants come to. -/
theorem mutant_w (id : Nat) (t : TypeId) (H : Heap) (x : D) (hx : x = ddD ∨ x = dd5) (h : H[id]? = some (.cells t 2 bdB)) : ∃ H', G_SMutant Tryz.prog [pxD id, x] H = some (cond (eqB x ddD) (.tup [rrD, iD 0]) (.tup [zzD, iD 17]), H') ∧ Kp H.length H H' := by
  have hxa : ∃ a b c, x = .agg [a, b, c] ∧ cellOk a = true ∧ cellOk b = true ∧ cellOk c = true := by
    rcases hx with rfl | rfl
    · exact ⟨_, _, _, rfl, rfl, rfl, rfl⟩
    · exact ⟨_, _, _, rfl, rfl, rfl, rfl⟩
  obtain ⟨a, b, c, rfl, ha, hb, hc⟩ := hxa
  have he : G_SMutant Tryz.prog [pxD id, .agg [a, b, c]] H = textK Tryz.prog (T14x Tryz.prog) kp_sites_Mutant 0 Tryz.f16 [pxD id, .agg [a, b, c]] H := textG_eq Tryz.func16 _ H
  rw [he, shw_sites_Mutant]
  have b1 : boxH 25 (pxD id) H = some (.hp (H.length + 0) 0, H ++ [.cells 25 3 [iD 0, .v (.slice none 0 0), .hs id 3]]) := rfl
  have b2 : boxH 34 (.agg [a, b, c]) (H ++ [.cells 25 3 [iD 0, .v (.slice none 0 0), .hs id 3]]) = some (.hp (H.length + 1) 0, H ++ [.cells 25 3 [iD 0, .v (.slice none 0 0), .hs id 3], .cells 34 3 [a, b, c]]) := by
    have q : boxH 34 (.agg [a, b, c]) (H ++ [.cells 25 3 [iD 0, .v (.slice none 0 0), .hs id 3]]) = some (D.hp (H ++ [HO.cells 25 3 [iD 0, .v (.slice none 0 0), .hs id 3]]).length 0, (H ++ [HO.cells 25 3 [iD 0, .v (.slice none 0 0), .hs id 3]]) ++ [HO.cells 34 3 [a, b, c]]) := by
      simp [boxH, newH, cellsD, ha, hb, hc]
    rw [q]
    simp
  have b3 : allocH 25 [iD 0, .v (.slice none 0 0), .v (.slice none 0 0)] (H ++ [.cells 25 3 [iD 0, .v (.slice none 0 0), .hs id 3], .cells 34 3 [a, b, c]]) = some (.hp (H.length + 2) 0, H ++ [.cells 25 3 [iD 0, .v (.slice none 0 0), .hs id 3], .cells 34 3 [a, b, c], nilB]) := by
    rw [alloc_prog]
    simp [nilB]
  have hi : (H ++ [.cells 25 3 [iD 0, .v (.slice none 0 0), .hs id 3], .cells 34 3 [a, b, c], nilB])[id]? = some (.cells t 2 bdB) := app_low H _ id _ h
  have o0 := app_at H [.cells 25 3 [iD 0, .v (.slice none 0 0), .hs id 3], .cells 34 3 [a, b, c], nilB] 0 _ rfl
  have o1 := app_at H [.cells 25 3 [iD 0, .v (.slice none 0 0), .hs id 3], .cells 34 3 [a, b, c], nilB] 1 _ rfl
  have o2 : (H ++ [.cells 25 3 [iD 0, .v (.slice none 0 0), .hs id 3], .cells 34 3 [a, b, c], nilB])[H.length + 2]? = some nilB := app_at H [.cells 25 3 [iD 0, .v (.slice none 0 0), .hs id 3], .cells 34 3 [a, b, c], nilB] 2 _ rfl
  have k0 : Kp H.length H (H ++ [.cells 25 3 [iD 0, .v (.slice none 0 0), .hs id 3], .cells 34 3 [a, b, c], nilB]) := Kp.app _ _ _ (Nat.le_refl _)
  have hlen : (H ++ [.cells 25 3 [iD 0, .v (.slice none 0 0), .hs id 3], .cells 34 3 [a, b, c], nilB]).length = H.length + 3 := by simp
  simp only [b1, b2, b3, thnH_some]
  generalize H ++ [HO.cells 25 3 [iD 0, .v (.slice none 0 0), .hs id 3], HO.cells 34 3 [a, b, c], nilB] = H3 at *
  have lp : loadH (some 3) H3 (.hp (H.length + 0) 0) = some (pxD id) := load_delP _ _ _ _ _ _ o0
  have ld := load_delP _ _ _ _ _ _ o1
  have al : liftN F_SAll [pxD id] H3 = some (.tup [dlsD (allV14 ppV), iD 0], H3) := by
    have e : F_SAll [ppD] = some (.tup [dlsD (allV14 ppV), iD 0]) := by kernel_rfl
    rw [liftN_obj _ _ _ _ rfl (deref_px H3 id t hi), e]; rfl
  have x0 : extractD (.tup [dlsD (allV14 ppV), iD 0]) 0 = some (dlsD (allV14 ppV)) := rfl
  have x1 : extractD (.tup [dlsD (allV14 ppV), iD 0]) 1 = some (iD 0) := rfl
  have c0 : binK .int .neq (iD 0) (iD 0) = some (bD false) := rfl
  rcases hx with hx | hx
  · have hcc : eqB (D.agg [a, b, c]) ddD = true := by rw [hx]; rfl
    rw [hcc]
    have ld' : loadH (some 3) H3 (.hp (H.length + 1) 0) = some ddD := by rw [ld, hx]
    have fi : liftF F_SFind [dlsD (allV14 ppV), ddD] H3 = some (iD 1, H3) := by
      have e : F_SFind [dlsD (allV14 ppV), ddD] = some (iD 1) := by kernel_rfl
      rw [liftF_pure _ _ _ rfl, e]; rfl
    have c1 : binK .int .lss (iD 1) (iD 0) = some (bD false) := rfl
    obtain ⟨H5, ap, kp⟩ := apply_w id t H3 hi
    have y0 : extractD (.tup [rrD, iD 0]) 0 = some rrD := rfl
    have y1 : extractD (.tup [rrD, iD 0]) 1 = some (iD 0) := rfl
    have q2 : H5[H.length + 2]? = some nilB := (kp.2 _ (by omega)).trans o2
    have st := set_three H5 (H.length + 2) 25 _ _ _ (iD 0) (intsD []) (nodesD rrV) q2 rfl rfl rfl
    have st' : setH 3 (.hp (H.length + 2) 0) rrD H5 = _ := st
    have z2 : loadH (some 3) (H5.set (H.length + 2) (.cells 25 3 [iD 0, intsD [], nodesD rrV])) (.hp (H.length + 2) 0) = some rrD := load_delP 25 (iD 0) (intsD []) (nodesD rrV) (H5.set (H.length + 2) (.cells 25 3 [iD 0, intsD [], nodesD rrV])) (H.length + 2) (List.getElem?_set_self (List.getElem?_eq_some_iff.1 q2).1)
    refine ⟨H5.set (H.length + 2) (.cells 25 3 [iD 0, intsD [], nodesD rrV]), ?_, (k0.trans (kp.mono (by omega))).trans ⟨by simp, fun k hk => List.getElem?_set_ne (by omega)⟩⟩
    simp only [lp, ld', thn_some, al, thnH_some, x0, x1, c0, condK_bool, Bool.false_eq_true, if_false, fi, c1, ap, y0, y1, st', z2, cond_true]
  · have hcc : eqB (D.agg [a, b, c]) ddD = false := by rw [hx]; rfl
    rw [hcc]
    have ld' : loadH (some 3) H3 (.hp (H.length + 1) 0) = some dd5 := by rw [ld, hx]
    have fi : liftF F_SFind [dlsD (allV14 ppV), dd5] H3 = some (iD (-1), H3) := by
      have e : F_SFind [dlsD (allV14 ppV), dd5] = some (iD (-1)) := by kernel_rfl
      rw [liftF_pure _ _ _ rfl, e]; rfl
    have c1 : binK .int .lss (iD (-1)) (iD 0) = some (bD true) := rfl
    have st := set_three H3 (H.length + 2) 25 _ _ _ (iD 0) (.v (.slice none 0 0)) (.v (.slice none 0 0)) o2 rfl rfl rfl
    have z2 : loadH (some 3) (H3.set (H.length + 2) nilB) (.hp (H.length + 2) 0) = some zzD := load_delP 25 (iD 0) (.v (.slice none 0 0)) (.v (.slice none 0 0)) (H3.set (H.length + 2) nilB) (H.length + 2) (List.getElem?_set_self (List.getElem?_eq_some_iff.1 o2).1)
    refine ⟨H3.set (H.length + 2) nilB, ?_, k0.trans ⟨by simp, fun k hk => List.getElem?_set_ne (by omega)⟩⟩
    have st' : setH 3 (.hp (H.length + 2) 0) (.agg [iD 0, .v (.slice none 0 0), .v (.slice none 0 0)]) H3 = some (.v undef, H3.set (H.length + 2) nilB) := st
    simp only [lp, ld', thn_some, al, thnH_some, x0, x1, c0, condK_bool, Bool.false_eq_true, if_false, fi, c1, if_true, build_none, st', z2, cond_false]
def rowB (H : Heap) (id : Nat) : Bool := match H[id]? with | some (.cells _ sz cs) => Nat.beq sz 2 && eqL cs bdB | _ => false
theorem rowB_ok {H : Heap} {id : Nat} (h : rowB H id = true) : ∃ t, H[id]? = some (.cells t 2 bdB) := by
  unfold rowB at h
  split at h
  · rename_i t sz cs hg
    simp only [Bool.and_eq_true] at h
    exact ⟨t, by rw [hg, Nat.eq_of_beq_eq_true h.1, eqL_eq _ _ h.2]⟩
  · cases h
def isW (ds : List D) (H : Heap) : Option (Nat × D) :=
  match ds with
  | [.agg [a, b, .hs id k], x] => if eqB a (iD 0) && eqB b (.v (.slice none 0 0)) && Nat.beq k 3 && rowB H id then some (id, x) else none
  | _ => none
theorem isW_ok {ds : List D} {H : Heap} {id : Nat} {x : D} (h : isW ds H = some (id, x)) : ds = [pxD id, x] ∧ (∃ t, H[id]? = some (.cells t 2 bdB)) ∧ ∀ t, isW ds (H ++ t) = some (id, x) := by
  unfold isW at h
  split at h
  · rename_i a b i k y
    split at h
    case isFalse => cases h
    rename_i hc
    cases h
    have hc2 := hc
    simp only [Bool.and_eq_true] at hc
    obtain ⟨⟨⟨h1, h2⟩, h3⟩, h4⟩ := hc
    obtain ⟨t, hg⟩ := rowB_ok h4
    have e1 := eqB_eq _ _ h1
    have e2 := eqB_eq _ _ h2
    have e3 := Nat.eq_of_beq_eq_true h3
    refine ⟨by rw [e1, e2, e3]; rfl, ⟨t, hg⟩, fun T => ?_⟩
    have hT : rowB (H ++ T) id = rowB H id := by unfold rowB; rw [app_low H T id _ hg, hg]
    unfold isW
    simp only
    rw [hT, if_pos hc2]
  · cases h
def G_vm (ds : List D) (H : Heap) : Option (D × Heap) := (isW ds H).bind fun r => if eqB r.2 ddD then some (.tup [rrD, iD 0], H) else if eqB r.2 dd5 then some (.tup [zzD, iD 17], H) else none
theorem C_vm : HCallOk Tryz.prog 16 G_vm := hcall_cut C_GSMutant fun ds H d H' h => by
  unfold G_vm at h
  obtain ⟨⟨id, x⟩, hr, h2⟩ := Option.bind_eq_some_iff.1 h
  obtain ⟨rfl, ⟨t, ht⟩, _⟩ := isW_ok hr
  clear h
  have h := h2
  simp only at h
  split at h
  · rename_i e
    have e := eqB_eq _ _ e
    cases h
    obtain ⟨H2, q1, q2⟩ := mutant_w id t H x (.inl e) ht
    rw [show eqB x ddD = true from by rw [e]; rfl] at q1
    exact ⟨rfl, rfl, H2, q1, q2.2⟩
  · split at h
    · rename_i ne e
      have e := eqB_eq _ _ e
      cases h
      obtain ⟨H2, q1, q2⟩ := mutant_w id t H x (.inr e) ht
      rw [show eqB x ddD = false from by rw [e]; rfl] at q1
      exact ⟨rfl, rfl, H2, q1, q2.2⟩
    · cases h
theorem calm_vm : CalmOk G_vm := fun ds H d H' h => by
  unfold G_vm at h ⊢
  obtain ⟨⟨id, x⟩, hr, h⟩ := Option.bind_eq_some_iff.1 h
  obtain ⟨hd, _, hT⟩ := isW_ok hr
  refine ⟨?_, fun t => ?_, fun hp => ?_⟩
  · split at h
    · cases h; rfl
    · split at h
      · cases h; rfl
      · cases h
  · rw [hT t, Option.bind_some]
    split at h
    · rename_i e; cases h; rw [if_pos e]
    · rename_i ne
      rw [if_neg ne]
      split at h
      · rename_i e; cases h; rw [if_pos e]
      · cases h
  · subst hd; cases hp
theorem vm_ok : HCallOk Tryz.prog 16 G_vm ∧ CalmOk G_vm := ⟨C_vm, calm_vm⟩
theorem entry_both {P : Program} {f : FuncId} {G : List D → Heap → Option (D × Heap)} (h : HCallOk P f G ∧ CalmOk G) : EntryOk P (f, true, G) := ⟨h.1, fun _ => h.2⟩
end Go.Proofs.YtinnbafplhcnpaaGreat
end

section
namespace Go.Proofs.YtinnbafplhcnpaaGreat
open Go.RowKit
set_option linter.unusedVariables false
set_option linter.unusedSimpArgs false
set_option maxRecDepth 100000

def fs14w (P : Program) : List Entry := (16, true, G_vm) :: fs14i P
theorem fs14w_ok : ∀ p ∈ fs14w Tryz.prog, EntryOk Tryz.prog p := entries_cons (entry_both vm_ok) <| fs14i_ok
def T14w (P : Program) : Tab := ⟨fs14w P, noYl⟩
theorem T14w_ok : TabOk Tryz.prog (T14w Tryz.prog) := tabOk_of fs14w_ok
def F_true14 : List D → Option D := F0 (some (bD true))
theorem works14 : outD (textK Tryz.prog (T14w Tryz.prog) [] 20 Tryz.f10 [] []) = some (bD true) := by kernel_rfl
theorem C_works14 : CallOk Tryz.prog 10 F_true14 := call0 (kp := []) T14w_ok mixed Tryz.func10 (by kernel_rfl) (by decide) fun d h => by
  cases h
  exact ⟨20, _, works14, Imp.refl _⟩
theorem true14_pure (H : Heap) : liftF F_true14 [] H = some (bD true, H) := by rw [liftF_pure _ _ _ rfl]; rfl
def fsL14 (P : Program) : List Entry := (10, true, liftF F_true14) :: fs14i P
theorem fsL14_ok : ∀ p ∈ fsL14 Tryz.prog, EntryOk Tryz.prog p := entries_cons (entry_lift C_works14) <| fs14i_ok
def L14 (P : Program) : Tab := ⟨fsL14 P, noYl⟩
theorem L14_ok : TabOk Tryz.prog (L14 Tryz.prog) := tabOk_of fsL14_ok
end Go.Proofs.YtinnbafplhcnpaaGreat
end

section
namespace Go.Proofs.YtinnbafplhcnpaaGreat
open Go.RowKit
set_option linter.unusedVariables false
set_option maxRecDepth 100000

def kp_offshootlaw14_SitesAll : List Nat := []
theorem sh_offshootlaw14_SitesAll (n : Nat) (x0 : D) (h : Heap) : textK Tryz.prog (L14 Tryz.prog) kp_offshootlaw14_SitesAll n Tryz.f3 [x0] h =
(thnH (boxH 25 x0 h) fun y0 h1 =>
thnH (liftF F_true14 [] h1) fun y2 h3 =>
thn (notD y2) fun y4 =>
condK y4
(some ((bD false), h3))
(thn (loadH (some 3) h3 y0) fun y5 =>
thnH (liftF F_Few [y5] h3) fun y6 h7 =>
thn (notD y6) fun y8 =>
condK y8
(some (y2, h7))
(thn (loadH (some 3) h7 y0) fun y9 =>
thnH (liftN F_SAll [y9] h7) fun y10 h11 =>
thn (extractD y10 0) fun y12 =>
thn (extractD y10 1) fun y13 =>
thn (loadH (some 3) h11 y0) fun y14 =>
thnH (liftF F_RAll [y14] h11) fun y15 h16 =>
thn (extractD y15 0) fun y17 =>
thn (extractD y15 1) fun y18 =>
thnH (liftF F_RSame [y12, y17] h16) fun y19 h20 =>
condK y2
(condK y19
(thn (binK .int .eql y13 y18) fun y21 =>
some (y21, h20))
(some ((bD false), h20)))
(some ((bD false), h20))))) := by kernel_rfl

def kp_offshootlaw14_SitesCount : List Nat := [1, 2, 5, 7, 9, 10, 11, 12, 13, 14]
theorem sh_offshootlaw14_SitesCount (n : Nat) (x0 x1 : D) (h : Heap) : textK Tryz.prog (L14 Tryz.prog) kp_offshootlaw14_SitesCount n Tryz.f5 [x0, x1] h =
(thnH (boxH 25 x0 h) fun y0 h1 =>
thnH (liftF F_true14 [] h1) fun y2 h3 =>
thn (notD y2) fun y4 =>
condK y4
(some ((bD false), h3))
(thn (loadH (some 3) h3 y0) fun y5 =>
thnH (liftF F_Few [y5] h3) fun y6 h7 =>
thn (notD y6) fun y8 =>
condK y8
(some (y2, h7))
(thn (loadH (some 3) h7 y0) fun y9 =>
thnH (liftN F_SAll [y9] h7) fun y10 h11 =>
thn (extractD y10 0) fun y12 =>
thn (extractD y10 1) fun y13 =>
thn (binK .int .neq y13 (iD 0)) fun y14 =>
condK y14
(condK y2
(thn (loadH (some 3) h11 y0) fun y15 =>
thnH (liftF F_Check9 [y15] h11) fun y16 h17 =>
thn (binK .int .eql y16 y13) fun y18 =>
condK y18
(thn (lenH .sl y12) fun y19 =>
thn (binK .int .eql y19 (iD 0)) fun y20 =>
some (y20, h17))
(some ((bD false), h17)))
(some ((bD false), h11)))
(leaveK (loopF Tryz.prog (L14 Tryz.prog) kp_offshootlaw14_SitesCount n Tryz.f5 0 [x1, y0, y2, y12, (iD 0), (iD 0), .undef, .undef, .undef, .undef] h11) (fun j21 s22 h23 =>
condN j21 0
(thn (fieldAtH 2 (s22.getD 1 .undef)) fun y24 =>
thn (loadH none h23 y24) fun y25 =>
thnH (liftF F_Of11 [y25, (s22.getD 0 .undef)] h23) fun y26 h27 =>
thn (extractD y26 0) fun y28 =>
thn (extractD y26 1) fun y29 =>
leaveK (loopF Tryz.prog (L14 Tryz.prog) kp_offshootlaw14_SitesCount n Tryz.f5 1 [(s22.getD 0 .undef), (s22.getD 1 .undef), (s22.getD 2 .undef), (s22.getD 3 .undef), (s22.getD 4 .undef), (s22.getD 5 .undef), y28, y29, (iD 0), (iD 0)] h27) (fun j30 s31 h32 =>
condN j30 2
(condK (s31.getD 2 .undef)
(thn (lenH .sl (s31.getD 3 .undef)) fun y33 =>
thn (binK .int .eql (s31.getD 4 .undef) y33) fun y34 =>
condK y34
(thn (fieldAtH 2 (s31.getD 1 .undef)) fun y35 =>
thn (loadH none h32 y35) fun y36 =>
thnH (liftN F_Choices [y36, (s31.getD 0 .undef)] h32) fun y37 h38 =>
thn (lenH .sl y37) fun y39 =>
thn (binK .int .eql (s31.getD 8 .undef) y39) fun y40 =>
some (y40, h38))
(some ((bD false), h32)))
(some ((bD false), h32)))
(none)) (fun s31 h32 =>
some (.undef, h32)))
(none)) (fun s22 h23 =>
some (.undef, h23)))))) := by kernel_rfl

theorem st_offshootlaw14_SitesCount_0 (n : Nat) (s0 s1 s2 s3 s4 s5 s6 s7 s8 s9 : D) (h : Heap) : stepF Tryz.prog (L14 Tryz.prog) kp_offshootlaw14_SitesCount n Tryz.f5 0 [s0, s1, s2, s3, s4, s5, s6, s7, s8, s9] h =
(thn (fieldAtH 2 s1) fun y0 =>
thn (loadH none h y0) fun y1 =>
thn (lenH .sl y1) fun y2 =>
thn (binK .int .lss s5 y2) fun y3 =>
condK y3
(thn (fieldAtH 2 s1) fun y4 =>
thn (loadH none h y4) fun y5 =>
thnH (liftN F_Choices [y5, s5] h) fun y6 h7 =>
thn (lenH .sl y6) fun y8 =>
thn (binK .int .add s4 y8) fun y9 =>
thn (binK .int .add s5 (iD 1)) fun y10 =>
some (.normal, [s0, s1, s2, s3, y9, y10, s6, s7, s8, s9], h7))
(some ((.exit 0), [s0, s1, s2, s3, s4, s5, s6, s7, s8, s9], h))) := by kernel_rfl

theorem st_offshootlaw14_SitesCount_1 (n : Nat) (s0 s1 s2 s3 s4 s5 s6 s7 s8 s9 : D) (h : Heap) : stepF Tryz.prog (L14 Tryz.prog) kp_offshootlaw14_SitesCount n Tryz.f5 1 [s0, s1, s2, s3, s4, s5, s6, s7, s8, s9] h =
(thn (lenH .sl s3) fun y0 =>
thn (binK .int .lss s9 y0) fun y1 =>
condK y1
(condK s7
(thn (idxH 3 s3 s9) fun y2 =>
thn (fieldAtH 0 y2) fun y3 =>
thn (loadH none h y3) fun y4 =>
thnH (liftF F_Compare [y4, s6] h) fun y5 h6 =>
thn (binK .int .eql y5 (iD 0)) fun y7 =>
condK y7
(thn (binK .int .add s8 (iD 1)) fun y8 =>
thn (binK .int .add s9 (iD 1)) fun y9 =>
some (.normal, [s0, s1, s2, s3, s4, s5, s6, s7, y8, y9], h6))
(thn (binK .int .add s9 (iD 1)) fun y10 =>
some (.normal, [s0, s1, s2, s3, s4, s5, s6, s7, s8, y10], h6)))
(thn (binK .int .add s9 (iD 1)) fun y11 =>
some (.normal, [s0, s1, s2, s3, s4, s5, s6, s7, s8, y11], h)))
(some ((.exit 2), [s0, s1, s2, s3, s4, s5, s6, s7, s8, s9], h))) := by kernel_rfl

def kp_offshootlaw14_SitesFind : List Nat := [0, 3, 4, 5, 8]
theorem sh_offshootlaw14_SitesFind (n : Nat) (x0 x1 : D) (h : Heap) : textK Tryz.prog (L14 Tryz.prog) kp_offshootlaw14_SitesFind n Tryz.f6 [x0, x1] h =
(thnH (boxH 34 x1 h) fun y0 h1 =>
thnH (liftF F_true14 [] h1) fun y2 h3 =>
thn (notD y2) fun y4 =>
condK y4
(some ((bD false), h3))
(thnH (liftF F_few14 [x0] h3) fun y5 h6 =>
thn (notD y5) fun y7 =>
condK y7
(some (y2, h6))
(thn (loadH (some 3) h6 y0) fun y8 =>
thnH (rowH 34 3 1 [(.v (.slice none 0 0)), (iD 0), (iD 0)] [(0, y8)] h6) fun y9 h10 =>
thnH (liftF F_few14 [y9] h10) fun y11 h12 =>
thn (notD y11) fun y13 =>
condK y13
(some (y2, h12))
(thn (loadH (some 3) h12 y0) fun y14 =>
thnH (liftF F_SFind [x0, y14] h12) fun y15 h16 =>
thn (lenH .sl x0) fun y17 =>
thn (binK .int .geq y15 y17) fun y18 =>
condK y18
(some ((bD false), h16))
(thn (binK .int .lss y15 (iD (-1))) fun y19 =>
condK y19
(some ((bD false), h16))
(thn (binK .int .geq y15 (iD 0)) fun y20 =>
condK y20
(thn (idxH 3 x0 y15) fun y21 =>
thn (loadH (some 3) h16 y21) fun y22 =>
thn (loadH (some 3) h16 y0) fun y23 =>
thnH (liftF F_DSame [y22, y23] h16) fun y24 h25 =>
thn (notD y24) fun y26 =>
condK y26
(some ((bD false), h25))
(thnH (liftF F_Rises [x0] h25) fun y27 h28 =>
thn (notD y27) fun y29 =>
condK y29
(some (y2, h28))
(thn (binK .int .geq y15 (iD 0)) fun y30 =>
condK y30
(some (y2, h28))
(leaveK (loopF Tryz.prog (L14 Tryz.prog) kp_offshootlaw14_SitesFind n Tryz.f6 0 [x0, y0, (bD false), y2, (iD 0)] h28) (fun j31 s32 h33 =>
condN j31 0
(some ((s32.getD 3 .undef), h33))
(none)) (fun s32 h33 =>
some ((s32.getD 2 .undef), h33))))))
(thnH (liftF F_Rises [x0] h16) fun y34 h35 =>
thn (notD y34) fun y36 =>
condK y36
(some (y2, h35))
(thn (binK .int .geq y15 (iD 0)) fun y37 =>
condK y37
(some (y2, h35))
(leaveK (loopF Tryz.prog (L14 Tryz.prog) kp_offshootlaw14_SitesFind n Tryz.f6 0 [x0, y0, (bD false), y2, (iD 0)] h35) (fun j38 s39 h40 =>
condN j38 0
(some ((s39.getD 3 .undef), h40))
(none)) (fun s39 h40 =>
some ((s39.getD 2 .undef), h40))))))))))) := by kernel_rfl

theorem st_offshootlaw14_SitesFind_0 (n : Nat) (s0 s1 s2 s3 s4 : D) (h : Heap) : stepF Tryz.prog (L14 Tryz.prog) kp_offshootlaw14_SitesFind n Tryz.f6 0 [s0, s1, s2, s3, s4] h =
(thn (lenH .sl s0) fun y0 =>
thn (binK .int .lss s4 y0) fun y1 =>
condK y1
(thn (idxH 3 s0 s4) fun y2 =>
thn (loadH (some 3) h y2) fun y3 =>
thn (loadH (some 3) h s1) fun y4 =>
thnH (liftF F_DSame [y3, y4] h) fun y5 h6 =>
condK y5
(some (.ret, [s0, s1, (bD false), s3, s4], h6))
(thn (binK .int .add s4 (iD 1)) fun y7 =>
some (.normal, [s0, s1, s2, s3, y7], h6)))
(some ((.exit 0), [s0, s1, s2, s3, s4], h))) := by kernel_rfl

def kp_offshootlaw14_SitesJust : List Nat := []
theorem sh_offshootlaw14_SitesJust (n : Nat) (x0 x1 : D) (h : Heap) : textK Tryz.prog (L14 Tryz.prog) kp_offshootlaw14_SitesJust n Tryz.f7 [x0, x1] h =
(thnH (boxH 25 x0 h) fun y0 h1 =>
thnH (boxH 34 x1 h1) fun y2 h3 =>
thnH (liftF F_true14 [] h3) fun y4 h5 =>
thn (notD y4) fun y6 =>
condK y6
(some ((bD false), h5))
(thn (loadH (some 3) h5 y0) fun y7 =>
thnH (liftF F_Few [y7] h5) fun y8 h9 =>
condK y8
(thn (loadH (some 3) h9 y2) fun y10 =>
thnH (rowH 34 3 1 [(.v (.slice none 0 0)), (iD 0), (iD 0)] [(0, y10)] h9) fun y11 h12 =>
thnH (liftF F_few14 [y11] h12) fun y13 h14 =>
thn (notD y13) fun y15 =>
condK y15
(some (y4, h14))
(thn (loadH (some 3) h14 y0) fun y16 =>
thnH (liftF F_Check9 [y16] h14) fun y17 h18 =>
thn (binK .int .neq y17 (iD 0)) fun y19 =>
condK y19
(some (y4, h18))
(thn (loadH (some 3) h18 y0) fun y20 =>
thnH (liftN F_SAll [y20] h18) fun y21 h22 =>
thn (extractD y21 0) fun y23 =>
thn (extractD y21 1) fun y24 =>
thn (fieldAtH 2 y0) fun y25 =>
thn (loadH none h22 y25) fun y26 =>
thn (fieldAtH 0 y2) fun y27 =>
thn (loadH none h22 y27) fun y28 =>
thnH (liftF F_Find [y26, y28] h22) fun y29 h30 =>
thn (binK .int .geq y29 (iD 0)) fun y31 =>
condK y31
(thn (fieldAtH 2 y0) fun y32 =>
thn (loadH none h30 y32) fun y33 =>
thn (fieldAtH 1 y2) fun y34 =>
thn (loadH none h30 y34) fun y35 =>
thn (fieldAtH 2 y2) fun y36 =>
thn (loadH none h30 y36) fun y37 =>
thnH (liftF F_CIs [y33, y29, y35, y37] h30) fun y38 h39 =>
thnH (liftF F_Rises [y23] h39) fun y40 h41 =>
thn (loadH (some 3) h41 y2) fun y42 =>
thnH (liftF F_SFind [y23, y42] h41) fun y43 h44 =>
thn (binK .int .neq y24 (iD 0)) fun y45 =>
condK y45
(some ((bD false), h44))
(thn (notD y40) fun y46 =>
condK y46
(some ((bD false), h44))
(thn (lenH .sl y23) fun y47 =>
thn (binK .int .geq y43 y47) fun y48 =>
condK y48
(some ((bD false), h44))
(condK y4
(thn (binK .int .geq y43 (iD 0)) fun y49 =>
thn (binK .bool .eql y49 y38) fun y50 =>
condK y50
(thn (binK .int .lss y43 (iD 0)) fun y51 =>
condK y51
(some ((bD true), h44))
(thn (idxH 3 y23 y43) fun y52 =>
thn (loadH (some 3) h44 y52) fun y53 =>
thn (loadH (some 3) h44 y2) fun y54 =>
thnH (liftF F_DSame [y53, y54] h44) fun y55 h56 =>
some (y55, h56)))
(some ((bD false), h44)))
(some ((bD false), h44))))))
(thnH (liftF F_Rises [y23] h30) fun y57 h58 =>
thn (loadH (some 3) h58 y2) fun y59 =>
thnH (liftF F_SFind [y23, y59] h58) fun y60 h61 =>
thn (binK .int .neq y24 (iD 0)) fun y62 =>
condK y62
(some ((bD false), h61))
(thn (notD y57) fun y63 =>
condK y63
(some ((bD false), h61))
(thn (lenH .sl y23) fun y64 =>
thn (binK .int .geq y60 y64) fun y65 =>
condK y65
(some ((bD false), h61))
(condK y4
(thn (binK .int .geq y60 (iD 0)) fun y66 =>
thn (binK .bool .eql y66 (bD false)) fun y67 =>
condK y67
(thn (binK .int .lss y60 (iD 0)) fun y68 =>
condK y68
(some ((bD true), h61))
(thn (idxH 3 y23 y60) fun y69 =>
thn (loadH (some 3) h61 y69) fun y70 =>
thn (loadH (some 3) h61 y2) fun y71 =>
thnH (liftF F_DSame [y70, y71] h61) fun y72 h73 =>
some (y72, h73)))
(some ((bD false), h61)))
(some ((bD false), h61)))))))))
(thn (notD (bD false)) fun y74 =>
condK y74
(some (y4, h9))
(thn (loadH (some 3) h9 y0) fun y75 =>
thnH (liftF F_Check9 [y75] h9) fun y76 h77 =>
thn (binK .int .neq y76 (iD 0)) fun y78 =>
condK y78
(some (y4, h77))
(thn (loadH (some 3) h77 y0) fun y79 =>
thnH (liftN F_SAll [y79] h77) fun y80 h81 =>
thn (extractD y80 0) fun y82 =>
thn (extractD y80 1) fun y83 =>
thn (fieldAtH 2 y0) fun y84 =>
thn (loadH none h81 y84) fun y85 =>
thn (fieldAtH 0 y2) fun y86 =>
thn (loadH none h81 y86) fun y87 =>
thnH (liftF F_Find [y85, y87] h81) fun y88 h89 =>
thn (binK .int .geq y88 (iD 0)) fun y90 =>
condK y90
(thn (fieldAtH 2 y0) fun y91 =>
thn (loadH none h89 y91) fun y92 =>
thn (fieldAtH 1 y2) fun y93 =>
thn (loadH none h89 y93) fun y94 =>
thn (fieldAtH 2 y2) fun y95 =>
thn (loadH none h89 y95) fun y96 =>
thnH (liftF F_CIs [y92, y88, y94, y96] h89) fun y97 h98 =>
thnH (liftF F_Rises [y82] h98) fun y99 h100 =>
thn (loadH (some 3) h100 y2) fun y101 =>
thnH (liftF F_SFind [y82, y101] h100) fun y102 h103 =>
thn (binK .int .neq y83 (iD 0)) fun y104 =>
condK y104
(some ((bD false), h103))
(thn (notD y99) fun y105 =>
condK y105
(some ((bD false), h103))
(thn (lenH .sl y82) fun y106 =>
thn (binK .int .geq y102 y106) fun y107 =>
condK y107
(some ((bD false), h103))
(condK y4
(thn (binK .int .geq y102 (iD 0)) fun y108 =>
thn (binK .bool .eql y108 y97) fun y109 =>
condK y109
(thn (binK .int .lss y102 (iD 0)) fun y110 =>
condK y110
(some ((bD true), h103))
(thn (idxH 3 y82 y102) fun y111 =>
thn (loadH (some 3) h103 y111) fun y112 =>
thn (loadH (some 3) h103 y2) fun y113 =>
thnH (liftF F_DSame [y112, y113] h103) fun y114 h115 =>
some (y114, h115)))
(some ((bD false), h103)))
(some ((bD false), h103))))))
(thnH (liftF F_Rises [y82] h89) fun y116 h117 =>
thn (loadH (some 3) h117 y2) fun y118 =>
thnH (liftF F_SFind [y82, y118] h117) fun y119 h120 =>
thn (binK .int .neq y83 (iD 0)) fun y121 =>
condK y121
(some ((bD false), h120))
(thn (notD y116) fun y122 =>
condK y122
(some ((bD false), h120))
(thn (lenH .sl y82) fun y123 =>
thn (binK .int .geq y119 y123) fun y124 =>
condK y124
(some ((bD false), h120))
(condK y4
(thn (binK .int .geq y119 (iD 0)) fun y125 =>
thn (binK .bool .eql y125 (bD false)) fun y126 =>
condK y126
(thn (binK .int .lss y119 (iD 0)) fun y127 =>
condK y127
(some ((bD true), h120))
(thn (idxH 3 y82 y119) fun y128 =>
thn (loadH (some 3) h120 y128) fun y129 =>
thn (loadH (some 3) h120 y2) fun y130 =>
thnH (liftF F_DSame [y129, y130] h120) fun y131 h132 =>
some (y131, h132)))
(some ((bD false), h120)))
(some ((bD false), h120))))))))))) := by kernel_rfl

end Go.Proofs.YtinnbafplhcnpaaGreat
end
