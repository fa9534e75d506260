import Derived.Test.YtinnbafplhcnpaaGreatHg
import Derived.Test.YtinnbafplhcnpaaGreatHm
section
namespace Go.Proofs.YtinnbafplhcnpaaGreat
open Go.RowKit
set_option linter.unusedVariables false
set_option linter.unusedSimpArgs false
def Ju1 : List D -> Option D
  | [.v (.int .u64 1), .v (.int .u64 k)] => if 0 <= k /\ k < 4294967296 then some (.tup [.v (.int .u64 0), .v (.int .u64 k)]) else none
  | _ => none
theorem Jwf (k : Int) (h0 : 0 <= k) (h : k < 18446744073709551616) : IntKind.u64.wrap k = k := by
  unfold IntKind.wrap
  simp [IntKind.signed, IntKind.bits]
  omega
theorem Qdo (k : Int) (h0 : 0 <= k) (h : k < 4294967296) : intD .and .u64 k 4294967295 = some (.v (.int .u64 k)) := by
  obtain ⟨m, rfl⟩ := Int.eq_ofNat_of_zero_le h0
  have hm : m < 4294967296 := by omega
  have : (BitVec.ofInt IntKind.u64.bits (m : Int) &&& BitVec.ofInt IntKind.u64.bits 4294967295).toNat = m := by
    rw [BitVec.toNat_and]
    have h1 : (BitVec.ofInt IntKind.u64.bits (m : Int)).toNat = m := by
      simp [IntKind.bits]; omega
    have h2 : (BitVec.ofInt IntKind.u64.bits 4294967295).toNat = 2 ^ 32 - 1 := by rfl
    rw [h1, h2, Nat.and_two_pow_sub_one_eq_mod]
    omega
  simp only [intD, this]
  rw [Jwf _ (by omega) (by omega)]
theorem Qbw (k : Int) (h0 : 0 <= k) (h : k < 4294967296) : binK .int .shr (.v (.int .u64 k)) (.v (.int .u64 32)) = some (.v (.int .u64 0)) := by
  have : k.fdiv 4294967296 = 0 := by
    rw [Int.fdiv_eq_ediv_of_nonneg _ (by omega)]
    exact Int.ediv_eq_zero_of_lt h0 h
  simp [binK, Jyv, IntKind.bits, this]
theorem Qt7 : CallOk Tryz.prog 152 Ju1 := by
  refine Jpq (kp := Jpc) Jn8 mixed Tryz.func152 (by kernel_rfl) (by decide) fun ds d h => ⟨0, ?_⟩
  unfold Ju1 at h
  split at h
  case h_2 => cases h
  rename_i k
  split at h
  case isFalse => cases h
  rename_i hk
  cases h
  rw [Jws]
  have e1 := Qdo 1 (by omega) (by omega)
  have e2 := Qbw 1 (by omega) (by omega)
  have e3 := Qdo k hk.1 hk.2
  have e4 := Qbw k hk.1 hk.2
  have e5 := Qdo 0 (by omega) (by omega)
  have e6 := Qbw 0 (by omega) (by omega)
  have e7 : intD .mul .u64 1 k = some (.v (.int .u64 k)) := by simp only [intD, Int.one_mul]; rw [Jwf _ hk.1 (by omega)]
  have e8 : intD .mul .u64 0 k = some (.v (.int .u64 0)) := by simp only [intD, Int.zero_mul]; rfl
  have e9 : intD .add .u64 0 0 = some (.v (.int .u64 0)) := rfl
  have e10 : intD .mul .u64 1 0 = some (.v (.int .u64 0)) := rfl
  have e11 : intD .mul .u64 0 0 = some (.v (.int .u64 0)) := rfl
  simp [e1, e2, e3, e4, e5, e6, e7, e8, e9, e10, e11]
def blkV (l : List Nd) (ks : List Int) (from_ : Nat) : Bool := (ks.drop from_).all fun k => decide ((l.getD k.toNat (0, 0)).1 = 20)
def Jni : List D -> Option D := F3 progT intsT intT fun p ks i => if 0 <= i /\ ks.length <= 3000000 /\ (∀ k ∈ ks, 0 <= k /\ k.toNat < p.body.length) then some (bD (blkV p.body ks i.toNat)) else none
theorem Qpy : CallOk Tryz.prog 104 Jni := Qax (kp := Jcf) Jn8 mixed Tryz.func104 (by kernel_rfl) (by decide) fun p ks i d h => by
  split at h
  case isFalse => cases h
  rename_i hf
  obtain ⟨h0, hl, hk⟩ := hf
  cases h
  obtain ⟨i, rfl⟩ := Int.eq_ofNat_of_zero_le h0
  refine ⟨ks.length + 1, _, ?_, Imp.refl _⟩
  show outD (Jap _ _ _ _ _ [Jak p, Jag ks, iD i] []) = _
  rw [Jkx]
  have key : ∀ (m j : Nat), j + m = max ks.length j → ∀ n, m < n → ∃ s lv, (lv = .exit 0 ∧ blkV p.body ks j = true ∨ lv = .ret ∧ blkV p.body ks j = false ∧ s.getD 4 .undef = bD false) ∧
      Jez (Jdu Tryz.prog T08 Jcf (ks.length + 1) Tryz.f104 0) n [Jak p, Jag ks, iD i, .hp 0 0, bD false, iD j] (pgH 25 p) = some (lv, s, pgH 25 p) := by
    intro m
    induction m with
    | zero =>
      intro j hj n hn
      obtain ⟨n, rfl⟩ : ∃ m, n = m + 1 := ⟨n - 1, by omega⟩
      have hjl : ks.length <= j := by omega
      refine ⟨_, .exit 0, .inl ⟨rfl, ?_⟩, Jdn (s' := [Jak p, Jag ks, iD i, .hp 0 0, bD false, iD j]) ?_⟩
      · simp [blkV, List.drop_of_length_le hjl]
      · rw [Jd0]
        have : ¬ (j : Int) < ks.length := by omega
        simp [this]
    | succ m ih =>
      intro j hj n hn
      obtain ⟨n, rfl⟩ : ∃ m, n = m + 1 := ⟨n - 1, by omega⟩
      have hjl : j < ks.length := by omega
      have h1 : (j : Int) < ks.length := by omega
      have e1 := Jb0 (j : Int) 1 (by omega) (by omega)
      obtain ⟨k0, k1⟩ := hk ks[j] (List.getElem_mem hjl)
      have hblk : blkV p.body ks j = (decide ((p.body[ks[j].toNat]).1 = 20) && blkV p.body ks (j + 1)) := by
        simp only [blkV]
        rw [List.drop_eq_getElem_cons hjl, List.all_cons]
        congr 1
        simp [k1]
      by_cases he : (p.body[ks[j].toNat]).1 = 20
      · rw [Jei (s' := [Jak p, Jag ks, iD i, .hp 0 0, bD false, iD ((j + 1 : Nat) : Int)]) (H' := pgH 25 p)]
        · obtain ⟨s, lv, q1, q2⟩ := ih (j + 1) (by omega) n (by omega)
          exact ⟨s, lv, by simpa [hblk, he] using q1, q2⟩
        · rw [Jd0]
          simp [pgH, h1, Jay _ _ hjl, Jhr _ _ k0 k1, he, e1]
      · refine ⟨_, .ret, .inr ⟨rfl, by simp [hblk, he], rfl⟩, Jpf (s' := [Jak p, Jag ks, iD i, .hp 0 0, bD false, iD j]) ?_⟩
        rw [Jd0]
        simp [pgH, h1, Jay _ _ hjl, Jhr _ _ k0 k1, he]
  obtain ⟨s, lv, hs, hkk⟩ := key (max ks.length i - i) i (by omega) (ks.length + 1) (by omega)
  have hk' : Jds Tryz.prog T08 Jcf (ks.length + 1) Tryz.f104 0 [Jak p, Jag ks, iD i, .hp 0 0, bD false, iD i] (pgH 25 p) = some (lv, s, pgH 25 p) := hkk
  simp only [Qo9, List.length_nil, List.nil_append, Jan]
  unfold pgH at hk'
  rw [hk']
  rcases hs with ⟨rfl, he⟩ | ⟨rfl, he, hg⟩
  · simp [he]
  · simp only [Jig, hg]
    simp [he]
inductive RuleT where
  | plain (ks : List Int) (is : Int)
  | array (ks : List Int) (is : Int)
  | scalar (set : Bool)
  | none
  deriving DecidableEq, Inhabited
def RuleT.enc : RuleT -> D
  | .plain ks is => .ifc 117 (.agg [Jag ks, iD is])
  | .array ks is => .ifc 121 (.agg [Jag ks, iD is])
  | .scalar b => .ifc 119 (.agg [bD b])
  | .none => .v .nilIface
def RuleT.dec : D -> Option RuleT
  | .ifc t (.agg [ks, .v (.int .i64 is)]) => if t = 117 then (Jdr ks).map (RuleT.plain · is) else if t = 121 then (Jdr ks).map (RuleT.array · is) else Option.none
  | .ifc t (.agg [.v (.bool b)]) => if t = 119 then some (.scalar b) else Option.none
  | .v .nilIface => some .none
  | _ => Option.none
def Qnc : Dec RuleT := ⟨RuleT.enc, RuleT.dec, fun r => by cases r <;> simp [RuleT.enc, RuleT.dec], fun d r h => by
  unfold RuleT.dec at h
  split at h
  · split at h
    · rename_i he
      obtain ⟨ks, hk, rfl⟩ := Option.map_eq_some_iff.1 h
      subst he
      exact Imp.ifc (Imp.agg (.cons (Jid hk) (ImpL.refl _)))
    · split at h
      · rename_i he
        obtain ⟨ks, hk, rfl⟩ := Option.map_eq_some_iff.1 h
        subst he
        exact Imp.ifc (Imp.agg (.cons (Jid hk) (ImpL.refl _)))
      · cases h
  · split at h
    · rename_i he
      cases h
      subst he
      exact Imp.refl _
    · cases h
  · cases h; exact Imp.refl _
  · cases h⟩
def Jvc : List Int := [1, 2, 3, 21, 4, 22, 5, 6, 18, 19, 23, 24, 25, 26, 7, 8, 9, 10, 11, 12, 13, 14, 15, 16, 17]
def ruleRs : List RuleT := [.plain [] 0, .plain [] 1, .scalar false, .scalar true, .array [0] 0, .array [0, 0] 2, .plain [0] 0, .plain [1] 1, .plain [1, 1] 1, .plain [1, 1] 1, .plain [1, 2, 2] 2, .plain [1, 2] 2, .plain [0] 2, .plain [] 2,
  .plain [0, 0] 0, .plain [0, 0] 0, .plain [0, 0] 0, .plain [0, 0] 0, .plain [0, 0] 0, .plain [0, 0] 1, .plain [0, 0] 1, .plain [0, 0] 1, .plain [0, 0] 1, .plain [0, 0] 1, .plain [0, 0] 1]
def Jjd : D := .mv Jvc (ruleRs.map RuleT.enc)
def Jqm : D -> Option Unit
  | .mv ks vs => if ks = Jvc /\ vs.mapM RuleT.dec = some ruleRs then some () else Option.none
  | _ => Option.none
theorem Jz1 {d : D} (h : Jqm d = some ()) : Imp d Jjd := by
  unfold Jqm at h
  split at h
  · split at h
    · rename_i hc
      obtain ⟨rfl, h2⟩ := hc
      exact Imp.mv (Jz4 Qnc _ _ h2)
    · cases h
  · cases h
def Jyi : List D -> Option D := F0 (some Jjd)
theorem Qgf : (outD (Jap Tryz.prog T08 [0, 1, 2, 3] 20 Tryz.f53 [] [])).bind Jqm = some () := by kernel_rfl
theorem Qtq : CallOk Tryz.prog 53 Jyi := call0 (kp := [0, 1, 2, 3]) Jn8 mixed Tryz.func53 (by kernel_rfl) (by decide) fun d h => by
  cases h
  obtain ⟨d', h1, h2⟩ := Option.bind_eq_some_iff.1 Qgf
  exact ⟨20, d', h1, Jz1 h2⟩
def Qsd : List Entry := (81, true, Jae Jp0) :: (102, true, Jae Jp0) :: (100, true, Jae Juj) :: (101, true, Jae Jdm) :: (18, true, Jae Jhy) :: (11, true, Jae Qbh) :: (51, true, Jae Ji7) :: (152, true, Jae Ju1) :: (104, true, Jae Jni) :: (53, true, Jae Jyi) :: fs08
theorem Qfi : ∀ p ∈ Qsd, Jbu Tryz.prog p := Jac (Jal C_Size) <| Jac (Jal Qmn) <| Jac (Jal Qtp) <| Jac (Jal C_kind) <| Jac (Jal Jwd) <| Jac (Jal C_Few) <| Jac (Jal Qd2) <| Jac (Jal Qt7) <| Jac (Jal Qpy) <| Jac (Jal Qtq) <| Qc0
def T09a : Tab := ⟨Qsd, noYl⟩
theorem Jop : TabOk Tryz.prog T09a := Jb4 Qfi
end Go.Proofs.YtinnbafplhcnpaaGreat
end
section
namespace Go.Proofs.YtinnbafplhcnpaaGreat
open Go.RowKit
set_option linter.unusedVariables false
set_option maxRecDepth 100000
def Jgg : List Nat := [1, 2, 23, 24, 25]
theorem Jwp (n : Nat) (x0 : D) (h : Heap) : Jap Tryz.prog T09a Jgg n Tryz.f41 [x0] h =
(thnH (boxH 25 x0 h) fun y0 h1 =>
thn (Jaa 0 y0) fun y2 =>
thn (Jad none h1 y2) fun y3 =>
thn (binK .int .lss y3 (iD 0)) fun y4 =>
Jah y4
(some ((iD 14), h1))
(thn (Jaa 0 y0) fun y5 =>
thn (Jad none h1 y5) fun y6 =>
thn (Jaa 1 y0) fun y7 =>
thn (Jad none h1 y7) fun y8 =>
thn (lenH .sl y8) fun y9 =>
thn (binK .int .gtr y6 y9) fun y10 =>
Jah y10
(some ((iD 14), h1))
(thn (Jaa 1 y0) fun y11 =>
thn (Jad none h1 y11) fun y12 =>
thn (lenH .sl y12) fun y13 =>
thn (binK .int .gtr y13 (iD 12)) fun y14 =>
Jah y14
(some ((iD 14), h1))
(thn (Jaa 1 y0) fun y15 =>
thn (Jad none h1 y15) fun y16 =>
thn (lenH .sl y16) fun y17 =>
Jdl (Jds Tryz.prog T09a Jgg n Tryz.f41 0 [y0, (iD 0), y16, y17, (iD 0)] h1) (fun j18 s19 h20 =>
Jew j18 0
(some ((iD 0), h20))
(none)) (fun s19 h20 =>
some ((s19.getD 1 .undef), h20)))))) := by kernel_rfl
theorem Jim (n : Nat) (s0 s1 s2 s3 s4 : D) (h : Heap) : Jdu Tryz.prog T09a Jgg n Tryz.f41 0 [s0, s1, s2, s3, s4] h =
(thn (binK .int .lss s4 s3) fun y0 =>
Jah y0
(thn (idxH 1 s2 s4) fun y1 =>
thn (Jad none h y1) fun y2 =>
thn (binK .int .neq y2 (iD 0)) fun y3 =>
Jah y3
(thn (Jaa 0 s0) fun y4 =>
thn (Jad none h y4) fun y5 =>
thn (binK .int .lss s4 y5) fun y6 =>
Jah y6
(some (.ret, [s0, (iD 14), s2, s3, s4], h))
(thn (binK .int .neq y2 (iD 1)) fun y7 =>
Jah y7
(thnH (Jae Jp0 [y2] h) fun y8 h9 =>
thn (binK .int .eql y8 (iD 0)) fun y10 =>
Jah y10
(some (.ret, [s0, (iD 14), s2, s3, s4], h9))
(thn (binK .int .add s4 (iD 1)) fun y11 =>
some (.normal, [s0, s1, s2, s3, y11], h9)))
(thn (binK .int .add s4 (iD 1)) fun y12 =>
some (.normal, [s0, s1, s2, s3, y12], h))))
(thn (binK .int .add s4 (iD 1)) fun y13 =>
some (.normal, [s0, s1, s2, s3, y13], h)))
(some ((.exit 0), [s0, s1, s2, s3, s4], h))) := by kernel_rfl
def Jc9 : List Nat := [1, 2, 3]
theorem Jlz (n : Nat) (x0 : D) (h : Heap) : Jap Tryz.prog T09a Jc9 n Tryz.f58 [x0] h =
(thnH (boxH 25 x0 h) fun y0 h1 =>
thn (Jaa 0 y0) fun y2 =>
thn (Jad none h1 y2) fun y3 =>
thn (binK .int .lss y3 (iD 0)) fun y4 =>
Jah y4
(some ((iD 14), h1))
(thn (Jaa 0 y0) fun y5 =>
thn (Jad none h1 y5) fun y6 =>
thn (Jaa 1 y0) fun y7 =>
thn (Jad none h1 y7) fun y8 =>
thn (lenH .sl y8) fun y9 =>
thn (binK .int .gtr y6 y9) fun y10 =>
Jah y10
(some ((iD 14), h1))
(thn (Jaa 1 y0) fun y11 =>
thn (Jad none h1 y11) fun y12 =>
thn (lenH .sl y12) fun y13 =>
thn (binK .int .gtr y13 (iD 12)) fun y14 =>
Jah y14
(some ((iD 14), h1))
(Jdl (Jds Tryz.prog T09a Jc9 n Tryz.f58 0 [y0, (iD 0), (iD 0)] h1) (fun j15 s16 h17 =>
Jew j15 0
(some ((iD 0), h17))
(none)) (fun s16 h17 =>
some ((s16.getD 1 .undef), h17)))))) := by kernel_rfl
theorem Jef (n : Nat) (s0 s1 s2 : D) (h : Heap) : Jdu Tryz.prog T09a Jc9 n Tryz.f58 0 [s0, s1, s2] h =
(thn (Jaa 1 s0) fun y0 =>
thn (Jad none h y0) fun y1 =>
thn (lenH .sl y1) fun y2 =>
thn (binK .int .lss s2 y2) fun y3 =>
Jah y3
(thn (Jaa 1 s0) fun y4 =>
thn (Jad none h y4) fun y5 =>
thn (idxH 1 y5 s2) fun y6 =>
thn (Jad none h y6) fun y7 =>
thn (binK .int .lss y7 (iD 0)) fun y8 =>
Jah y8
(some (.ret, [s0, (iD 14), s2], h))
(thn (Jaa 1 s0) fun y9 =>
thn (Jad none h y9) fun y10 =>
thn (idxH 1 y10 s2) fun y11 =>
thn (Jad none h y11) fun y12 =>
thn (binK .int .gtr y12 (iD 9)) fun y13 =>
Jah y13
(some (.ret, [s0, (iD 14), s2], h))
(thn (Jaa 0 s0) fun y14 =>
thn (Jad none h y14) fun y15 =>
thn (binK .int .lss s2 y15) fun y16 =>
Jah y16
(thn (Jaa 1 s0) fun y17 =>
thn (Jad none h y17) fun y18 =>
thn (idxH 1 y18 s2) fun y19 =>
thn (Jad none h y19) fun y20 =>
thn (binK .int .neq y20 (iD 0)) fun y21 =>
Jah y21
(some (.ret, [s0, (iD 14), s2], h))
(thn (binK .int .add s2 (iD 1)) fun y22 =>
some (.normal, [s0, s1, y22], h)))
(thn (binK .int .add s2 (iD 1)) fun y23 =>
some (.normal, [s0, s1, y23], h)))))
(some ((.exit 0), [s0, s1, s2], h))) := by kernel_rfl
def Jpb : List Nat := []
theorem Jwr (n : Nat) (x0 x1 : D) (h : Heap) : Jap Tryz.prog T09a Jpb n Tryz.f28 [x0, x1] h =
(thnH (boxH 25 x0 h) fun y0 h1 =>
thnH (boxH 25 x1 h1) fun y2 h3 =>
thn (Jaa 0 y0) fun y4 =>
thn (Jad none h3 y4) fun y5 =>
thn (Jaa 0 y2) fun y6 =>
thn (Jad none h3 y6) fun y7 =>
thn (binK .int .eql y5 y7) fun y8 =>
Jah y8
(thn (Jaa 1 y0) fun y9 =>
thn (Jad none h3 y9) fun y10 =>
thn (Jaa 1 y2) fun y11 =>
thn (Jad none h3 y11) fun y12 =>
thnH (Jae Ji7 [y10, y12] h3) fun y13 h14 =>
Jah y13
(thn (Jaa 2 y0) fun y15 =>
thn (Jad none h14 y15) fun y16 =>
thn (Jaa 2 y2) fun y17 =>
thn (Jad none h14 y17) fun y18 =>
thnH (Jae Jf3 [y16, y18] h14) fun y19 h20 =>
some (y19, h20))
(some ((bD false), h14)))
(some ((bD false), h3))) := by kernel_rfl
def Jtc : List Nat := []
theorem Qby (n : Nat) (x0 x1 : D) (h : Heap) : Jap Tryz.prog T09a Jtc n Tryz.f134 [x0, x1] h =
(thnH (Jae Ju1 [x0, x1] h) fun y0 h1 =>
thn (Jat y0 0) fun y2 =>
thn (Jat y0 1) fun y3 =>
some (.tup [y2, y3], h1)) := by kernel_rfl
def Jh3 : List Nat := []
theorem Jnn (n : Nat) (x0 x1 x2 : D) (h : Heap) : Jap Tryz.prog T09a Jh3 n Tryz.f191 [x0, x1, x2] h =
(thnH (boxH 117 x0 h) fun y0 h1 =>
thnH (boxH 25 x1 h1) fun y2 h3 =>
thnH (boxH 54 x2 h3) fun y4 h5 =>
thn (Jaa 1 y0) fun y6 =>
thn (Jad none h5 y6) fun y7 =>
some (y7, h5)) := by kernel_rfl
def Jho : List Nat := []
theorem Jl2 (n : Nat) (x0 x1 x2 : D) (h : Heap) : Jap Tryz.prog T09a Jho n Tryz.f192 [x0, x1, x2] h =
(thnH (boxH 119 x0 h) fun y0 h1 =>
thnH (boxH 25 x1 h1) fun y2 h3 =>
thnH (boxH 54 x2 h3) fun y4 h5 =>
thn (Jaa 1 y4) fun y6 =>
thn (Jad none h5 y6) fun y7 =>
thn (Jaa 1 y2) fun y8 =>
thn (Jad none h5 y8) fun y9 =>
thn (lenH .sl y9) fun y10 =>
thn (binK .int .geq y7 y10) fun y11 =>
Jah y11
(some ((iD (-1)), h5))
(thn (Jaa 1 y2) fun y12 =>
thn (Jad none h5 y12) fun y13 =>
thn (Jaa 1 y4) fun y14 =>
thn (Jad none h5 y14) fun y15 =>
thn (idxH 1 y13 y15) fun y16 =>
thn (Jad none h5 y16) fun y17 =>
thn (binK .int .neq y17 (iD 0)) fun y18 =>
Jah y18
(thn (Jaa 1 y2) fun y19 =>
thn (Jad none h5 y19) fun y20 =>
thn (Jaa 1 y4) fun y21 =>
thn (Jad none h5 y21) fun y22 =>
thn (idxH 1 y20 y22) fun y23 =>
thn (Jad none h5 y23) fun y24 =>
thn (binK .int .neq y24 (iD 1)) fun y25 =>
Jah y25
(some ((iD (-1)), h5))
(thn (Jaa 0 y0) fun y26 =>
thn (Jad none h5 y26) fun y27 =>
Jah y27
(some ((iD 2), h5))
(thn (Jaa 1 y2) fun y28 =>
thn (Jad none h5 y28) fun y29 =>
thn (Jaa 1 y4) fun y30 =>
thn (Jad none h5 y30) fun y31 =>
thn (idxH 1 y29 y31) fun y32 =>
thn (Jad none h5 y32) fun y33 =>
some (y33, h5))))
(thn (Jaa 0 y0) fun y34 =>
thn (Jad none h5 y34) fun y35 =>
Jah y35
(some ((iD 2), h5))
(thn (Jaa 1 y2) fun y36 =>
thn (Jad none h5 y36) fun y37 =>
thn (Jaa 1 y4) fun y38 =>
thn (Jad none h5 y38) fun y39 =>
thn (idxH 1 y37 y39) fun y40 =>
thn (Jad none h5 y40) fun y41 =>
some (y41, h5))))) := by kernel_rfl
def Jh4 : List Nat := []
theorem Jnp (n : Nat) (x0 x1 x2 : D) (h : Heap) : Jap Tryz.prog T09a Jh4 n Tryz.f193 [x0, x1, x2] h =
(thnH (boxH 121 x0 h) fun y0 h1 =>
thnH (boxH 25 x1 h1) fun y2 h3 =>
thnH (boxH 54 x2 h3) fun y4 h5 =>
thn (Jaa 1 y4) fun y6 =>
thn (Jad none h5 y6) fun y7 =>
thn (Jaa 1 y2) fun y8 =>
thn (Jad none h5 y8) fun y9 =>
thn (lenH .sl y9) fun y10 =>
thn (binK .int .geq y7 y10) fun y11 =>
Jah y11
(some ((iD (-1)), h5))
(thn (Jaa 1 y2) fun y12 =>
thn (Jad none h5 y12) fun y13 =>
thn (Jaa 1 y4) fun y14 =>
thn (Jad none h5 y14) fun y15 =>
thn (idxH 1 y13 y15) fun y16 =>
thn (Jad none h5 y16) fun y17 =>
thnH (Jae Jp0 [y17] h5) fun y18 h19 =>
thn (binK .int .eql y18 (iD 0)) fun y20 =>
Jah y20
(some ((iD (-1)), h19))
(thn (Jaa 0 y0) fun y21 =>
thn (Jaa 1 y21) fun y22 =>
thn (Jad none h19 y22) fun y23 =>
some (y23, h19)))) := by kernel_rfl
end Go.Proofs.YtinnbafplhcnpaaGreat
end
section
namespace Go.Proofs.YtinnbafplhcnpaaGreat
open Go.RowKit
set_option linter.unusedVariables false
set_option linter.unusedSimpArgs false
def Jsg (params : Int) (i : Nat) (t : Int) : Bool := decide (0 <= t /\ t <= 9 /\ ((i : Int) < params -> t = 0))
def Qd5 (p : Pg) : Bool := decide (0 <= p.params /\ p.params <= p.vars.length /\ p.vars.length <= 12) && (List.range p.vars.length).all fun i => Jsg p.params i (p.vars.getD i 0)
def Joc (p : Pg) : Int := if Qd5 p then 0 else 14
def Jrn : List D -> Option D := F1 progT fun p => some (iD (Joc p))
theorem Ja8 (t : Int) (H : Heap) : Jae Jp0 [iD t] H = some (iD (Jnj t), H) := by rw [Jar _ _ _ rfl]; rfl
theorem Jj2 {p : Pg} (h : ¬ (0 <= p.params /\ p.params <= p.vars.length /\ p.vars.length <= 12)) : Joc p = 14 := by simp [Joc, Qd5, h]
theorem Jyn {p : Pg} (h : 0 <= p.params /\ p.params <= p.vars.length /\ p.vars.length <= 12) (h2 : ∀ i, 0 <= i -> i < p.vars.length -> Jsg p.params i (p.vars.getD i 0) = true) : Joc p = 0 := by
  have : (List.range p.vars.length).all (fun i => Jsg p.params i (p.vars.getD i 0)) = true := by
    rw [List.all_eq_true]; intro i hi; exact h2 i (Nat.zero_le _) (by simpa using hi)
  unfold Joc Qd5
  rw [this]; simp [h]
theorem Jyo {p : Pg} {i : Nat} (hi : i < p.vars.length) (h2 : Jsg p.params i (p.vars.getD i 0) = false) : Joc p = 14 := by
  have : (List.range p.vars.length).all (fun i => Jsg p.params i (p.vars.getD i 0)) = false := by
    rw [Bool.eq_false_iff]; intro e; rw [List.all_eq_true] at e
    have := e i (by simpa using hi)
    rw [h2] at this; cases this
  unfold Joc Qd5
  rw [this]; simp
theorem C_Vars : CallOk Tryz.prog 41 Jrn := Jms (kp := Jgg) Jop mixed Tryz.func41 (by kernel_rfl) (by decide) fun p d h => by
  cases h
  refine ⟨p.vars.length + 1, _, ?_, Imp.refl _⟩
  show outD (Jap _ _ _ _ _ [Jak p] []) = _
  rw [Jwp]
  by_cases h1 : p.params < 0
  · rw [Jj2 (by omega)]; simp [h1]
  by_cases h2 : (p.vars.length : Int) < p.params
  · rw [Jj2 (by omega)]; simp [h1, h2]
  by_cases h3 : (12 : Int) < p.vars.length
  · rw [Jj2 (by omega)]; simp [h1, h2, h3]
  have hs := Jfv (P := Tryz.prog) (T := T09a) (kp := Jgg) (fn := Tryz.f41) (li := 0) (fun i => [.hp 0 0, iD 0, Jag p.vars, iD p.vars.length, iD i]) (pgH 25 p) p.vars.length (fun i => Jsg p.params i (p.vars.getD i 0))
    (fun i => (.ret, [.hp 0 0, iD 14, Jag p.vars, iD p.vars.length, iD i], pgH 25 p)) (.exit 0, [.hp 0 0, iD 0, Jag p.vars, iD p.vars.length, iD p.vars.length], pgH 25 p)
    (fun i => by intro e; cases e) (by intro e; cases e) 0 (p.vars.length + 1) (Nat.zero_le _) (by omega)
    (fun i _ hi hp => by
      have e1 := Jb0 (i : Int) 1 (by omega) (by omega)
      have h4 : (i : Int) < p.vars.length := by omega
      rw [Jim]
      simp only [Jsg, decide_eq_true_eq, getD_in _ i 0 hi] at hp
      by_cases h5 : p.vars[i] = 0
      · simp [pgH, h4, Jay _ _ hi, h5, e1]
      · have h6 : ¬ (i : Int) < p.params := fun h => h5 (hp.2.2 h)
        by_cases h7 : p.vars[i] = 1
        · simp [pgH, h4, Jay _ _ hi, h5, h6, h7, e1]
        · have h8 : ¬ Jnj p.vars[i] = 0 := by unfold Jnj; rw [if_pos (by omega)]; omega
          simp [pgH, h4, Jay       _ _ hi, h5, h6, h7, h8, e1, Ja8      ])
    (fun i _ hi hp => by
      have h4 : (i : Int) < p.vars.length := by omega
      rw [Jim]
      simp only [Jsg, decide_eq_false_iff_not, getD_in _ i 0 hi] at hp
      have h5 : ¬ p.vars[i] = 0 := fun h => hp (by omega)
      by_cases h6 : (i : Int) < p.params
      · simp [pgH, h4, Jay _ _ hi, h5, h6]
      · have h7 : ¬ p.vars[i] = 1 := fun h => hp (by omega)
        have h8 : Jnj p.vars[i] = 0 := by unfold Jnj; rw [if_neg (by omega)]
        simp [pgH, h4, Jay       _ _ hi, h5, h6, h7, h8, Ja8      ])
    (by rw [Jim]; simp)
  rcases hs with ⟨q1, q2⟩ | ⟨i, q0, q1, q2, q3, q4⟩
  · rw [Jyn (by omega) q1]
    simp only [pgH, Jld] at q2
    simp [h1, h2, h3, q2]
  · rw [Jyo q1 q2]
    simp only [pgH, Jld] at q4
    simp [h1, h2, h3, q4]
theorem Qmm : CallOk Tryz.prog 58 Jrn := Jms (kp := Jc9) Jop mixed Tryz.func58 (by kernel_rfl) (by decide) fun p d h => by
  cases h
  refine ⟨p.vars.length + 1, _, ?_, Imp.refl _⟩
  show outD (Jap _ _ _ _ _ [Jak p] []) = _
  rw [Jlz]
  by_cases h1 : p.params < 0
  · rw [Jj2 (by omega)]; simp [h1]
  by_cases h2 : (p.vars.length : Int) < p.params
  · rw [Jj2 (by omega)]; simp [h1, h2]
  by_cases h3 : (12 : Int) < p.vars.length
  · rw [Jj2 (by omega)]; simp [h1, h2, h3]
  have hs := Jfv (P := Tryz.prog) (T := T09a) (kp := Jc9) (fn := Tryz.f58) (li := 0) (fun i => [.hp 0 0, iD 0, iD i]) (pgH 25 p) p.vars.length (fun i => Jsg p.params i (p.vars.getD i 0))
    (fun i => (.ret, [.hp 0 0, iD 14, iD i], pgH 25 p)) (.exit 0, [.hp 0 0, iD 0, iD p.vars.length], pgH 25 p)
    (fun i => by intro e; cases e) (by intro e; cases e) 0 (p.vars.length + 1) (Nat.zero_le _) (by omega)
    (fun i _ hi hp => by
      have e1 := Jb0 (i : Int) 1 (by omega) (by omega)
      have h4 : (i : Int) < p.vars.length := by omega
      rw [Jef]
      simp only [Jsg, decide_eq_true_eq, getD_in _ i 0 hi] at hp
      have h5 : ¬ p.vars[i] < 0 := by omega
      have h6 : ¬ 9 < p.vars[i] := by omega
      by_cases h7 : (i : Int) < p.params
      · simp [pgH, h4, Jay _ _ hi, h5, h6, h7, hp.2.2 h7, e1]
      · simp [pgH, h4, Jay       _ _ hi, h5, h6, h7, e1])
    (fun i _ hi hp => by
      have h4 : (i : Int) < p.vars.length := by omega
      rw [Jef]
      simp only [Jsg, decide_eq_false_iff_not, getD_in _ i 0 hi] at hp
      by_cases h5 : p.vars[i] < 0
      · simp [pgH, h4, Jay _ _ hi, h5]
      · by_cases h6 : 9 < p.vars[i]
        · simp [pgH, h4, Jay _ _ hi, h5, h6]
        · have h7 : (i : Int) < p.params := by
            by_cases h : (i : Int) < p.params
            · exact h
            · exact absurd ⟨by omega, by omega, fun e => absurd e h⟩ hp
          have h8 : ¬ p.vars[i] = 0 := fun h => hp ⟨by omega, by omega, fun _ => h⟩
          simp [pgH, h4, Jay       _ _ hi, h5, h6, h7, h8])
    (by rw [Jef]; simp [pgH])
  rcases hs with ⟨q1, q2⟩ | ⟨i, q0, q1, q2, q3, q4⟩
  · rw [Jyn (by omega) q1]
    simp only [pgH, Jld] at q2
    simp [h1, h2, h3, q2]
  · rw [Jyo q1 q2]
    simp only [pgH, Jld] at q4
    simp [h1, h2, h3, q4]
theorem Juy (a b : List Int) (H : Heap) (ha : a.length <= 3000000) (hb : b.length <= 3000000) : Jae Ji7 [Jag a, Jag b] H = some (bD (decide (a = b)), H) := by
  rw [Jar _ _ _ rfl]; unfold Ji7; rw [show [Jag a, Jag b] = [intsT.enc a, intsT.enc b] from rfl, Jht, if_pos ⟨ha, hb⟩]; rfl
theorem Qmj : CallOk Tryz.prog 28 Jhy := Jlf (kp := Jpb) Jop mixed Tryz.func28 (by kernel_rfl) (by decide) fun p q d h => by
  split at h
  case isFalse => cases h
  rename_i hf
  cases h
  refine ⟨0, _, ?_, Imp.refl _⟩
  show outD (Jap _ _ _ _ _ [Jak p, Jak q] []) = _
  rw [Jwr]
  simp only [pg_eq p q]
  by_cases h1 : p.vars = q.vars <;> by_cases h2 : p.body = q.body <;> by_cases h3 : p.params = q.params <;> simp [Juy, Jtp, hf.1.1, hf.1.2, hf.2.1, hf.2.2, h1, h2, h3]
theorem Qet (k : Int) (H : Heap) (h0 : 0 <= k) (h : k < 4294967296) : Jae Ju1 [.v (.int .u64 1), .v (.int .u64 k)] H = some (.tup [.v (.int .u64 0), .v (.int .u64 k)], H) := by
  rw [Jar _ _ _ rfl]; simp [Ju1, h0, h]
theorem C_Mul : CallOk Tryz.prog 134 Ju1 := by
  refine Jpq (kp := Jtc) Jop mixed Tryz.func134 (by kernel_rfl) (by decide) fun ds d h => ⟨0, ?_⟩
  unfold Ju1 at h
  split at h
  case h_2 => cases h
  rename_i k
  split at h
  case isFalse => cases h
  rename_i hk
  cases h
  rw [Qby]
  simp [Qet k _ hk.1 hk.2, Jat, Jup]
def Jeo (vs : List Int) (n is : Int) : Int := if Jnj (Jfd vs n) = 0 then -1 else is
def Jcv (vs : List Int) (n : Int) (set : Bool) : Int := if Jfd vs n = 0 \/ Jfd vs n = 1 then (if set then 2 else Jfd vs n) else -1
def Jau (vs : List Int) (n : Int) : RuleT -> Int
  | .plain _ is => is
  | .array _ is => Jeo vs n is
  | .scalar b => Jcv vs n b
  | .none => 2
def Qn0 : RuleT -> Bool
  | .plain _ _ | .none => false
  | _ => true
abbrev Jw6 (r : RuleT) (x : Nd) : Prop := Qn0 r = true -> 0 <= x.2 /\ x.2 <= 1000000
def Jq8 (t : TypeId) (d : D) : Option RuleT := RuleT.dec (.ifc t d)
def Jey (t : TypeId) : List D -> Option D
  | [r, p, x] => (Jq8 t r).bind fun r => (Jv5 p).bind fun p => (asNd x).bind fun x => if Jw6 r x then some (iD (Jau p.vars x.2 r)) else none
  | _ => none
theorem Jqj        {T : Tab} {kp : List Nat} (hT : TabOk Tryz.prog T) {f : FuncId} {fn : Func} (hf : Tryz.prog.funcs[f]? = some fn) (hb : fn.body.isSome = true) (hname : fn.name ≠ "runtime.NumGoroutine") (t : TypeId)
    (h : ∀ d r p x, Jq8 t d = some r -> Jw6 r x -> ∃ d', Imp d d' /\ ∃ n, outD (Jap Tryz.prog T kp n fn [d', Jak p, .agg (Jax x)] []) = some (iD (Jau p.vars x.2 r))) : CallOk Tryz.prog f (Jey t) :=
  Jij hT mixed hf hb hname fun ds d hF => by
    unfold Jey at hF
    split at hF
    · obtain ⟨r, h1, hF⟩ := Option.bind_eq_some_iff.1 hF
      obtain ⟨p, h2, hF⟩ := Option.bind_eq_some_iff.1 hF
      obtain ⟨x, h3, hF⟩ := Option.bind_eq_some_iff.1 hF
      split at hF
      · rename_i h0
        cases hF
        obtain ⟨d', h4, n, h5⟩ := h _ r p x h1 h0
        exact ⟨_, _, n, .cons h4 (.cons (progT.ok _ _ h2) (.cons (ndT.ok _ _ h3) .nil)), h5, Imp.refl _⟩
      · cases hF
    · cases hF
theorem Jsh {vs : List Int} {n : Int} (h0 : 0 <= n) (h : (vs.length : Int) <= n) : Jfd vs n = -1 := by
  unfold Jfd
  have : vs[n.toNat]? = none := List.getElem?_eq_none (by omega)
  rw [if_neg (by omega), List.getD_eq_getElem?_getD, this]; rfl
theorem Jwg {vs : List Int} {n : Int} (h0 : 0 <= n) (h : n.toNat < vs.length) : Jfd vs n = vs[n.toNat] := by
  unfold Jfd
  rw [if_neg (by omega), getD_in _ _ _ h]
theorem Qdy : CallOk Tryz.prog 191 (Jey 117) :=
  Jqj (kp := Jh3) Jop Tryz.func191 (by kernel_rfl) (by decide) _ fun d r p x hr hn => by
    unfold Jq8 RuleT.dec at hr
    split at hr
    · rename_i t ks is he
      cases he
      simp only [if_true] at hr
      obtain ⟨l, hl, rfl⟩ := Option.map_eq_some_iff.1 hr
      refine ⟨.agg [Jag l, iD is], Imp.agg (.cons (Jid hl) (ImpL.refl _)), 0, ?_⟩
      rw [Jnn, Jx9 _ _ _ rfl]
      simp [Jau]
    · rename_i he
      split at hr
      · rename_i h2; cases he; cases h2
      · cases hr
    · rename_i he; cases he
    · cases hr
theorem Qdz : CallOk Tryz.prog 193 (Jey 121) :=
  Jqj (kp := Jh4) Jop Tryz.func193 (by kernel_rfl) (by decide) _ fun d r p x hr hn => by
    unfold Jq8 RuleT.dec at hr
    split at hr
    · rename_i t ks is he
      cases he
      rw [if_neg (by decide)] at hr
      simp only [if_true] at hr
      obtain ⟨l, hl, rfl⟩ := Option.map_eq_some_iff.1 hr
      have h0 := (hn rfl).1
      refine ⟨.agg [Jag l, iD is], Imp.agg (.cons (Jid hl) (ImpL.refl _)), 0, ?_⟩
      rw [Jnp, Jx9 _ _ _ rfl]
      by_cases h1 : (p.vars.length : Int) <= x.2
      · have := Jsh h0 h1
        simp [Jau, Jeo, this, Jnj, h1]
      · have h2 : x.2.toNat < p.vars.length := by omega
        have := Jwg h0 h2
        by_cases h3 : Jnj p.vars[x.2.toNat] = 0
        · simp [Jau, Jeo, this, h1, Jk8 _ _ h0 h2, Ja8, h3]
        · simp [Jau, Jeo, this, h1, Jk8 _ _ h0 h2, Ja8, h3]
    · rename_i he
      split at hr
      · rename_i h2; cases he; cases h2
      · cases hr
    · rename_i he; cases he
    · cases hr
theorem Qbk : CallOk Tryz.prog 192 (Jey 119) :=
  Jqj (kp := Jho) Jop Tryz.func192 (by kernel_rfl) (by decide) _ fun d r p x hr hn => by
    unfold Jq8 RuleT.dec at hr
    split at hr
    · rename_i t ks is he
      cases he
      rw [if_neg (by decide), if_neg (by decide)] at hr
      cases hr
    · rename_i b he
      cases he
      simp only [if_true] at hr
      cases hr
      have h0 := (hn rfl).1
      refine ⟨_, Imp.refl _, 0, ?_⟩
      rw [Jl2, Jx9 _ _ _ rfl]
      by_cases h1 : (p.vars.length : Int) <= x.2
      · have := Jsh h0 h1
        simp [Jau, Jcv, this, h1]
      · have h2 : x.2.toNat < p.vars.length := by omega
        have := Jwg h0 h2
        by_cases h3 : p.vars[x.2.toNat] = 0
        · cases b <;> simp [Jau, Jcv, this, h1, Jk8 _ _ h0 h2, h3]
        · by_cases h4 : p.vars[x.2.toNat] = 1
          · cases b <;> simp [Jau, Jcv, this, h1, Jk8 _ _ h0 h2, h3, h4]
          · cases b <;> simp [Jau, Jcv, this, h1, Jk8 _ _ h0 h2, h3, h4]
    · rename_i he; cases he
    · cases hr
def Qsc : List Entry := (41, true, Jae Jrn) :: (58, true, Jae Jrn) :: (28, true, Jae Jhy) :: (134, true, Jae Ju1) :: (191, true, Jae (Jey 117)) :: (192, true, Jae (Jey 119)) :: (193, true, Jae (Jey 121)) :: Qsd
theorem Qfh : ∀ p ∈ Qsc, Jbu Tryz.prog p := Jac (Jal C_Vars) <| Jac (Jal Qmm) <| Jac (Jal Qmj) <| Jac (Jal C_Mul) <| Jac (Jal Qdy) <| Jac (Jal Qbk) <| Jac (Jal Qdz) <| Qfi
def T09b : Tab := ⟨Qsc, noYl⟩
theorem Qtl : TabOk Tryz.prog T09b := Jb4 Qfh
end Go.Proofs.YtinnbafplhcnpaaGreat
end
section
namespace Go.Proofs.YtinnbafplhcnpaaGreat
open Go.RowKit
set_option linter.unusedVariables false
set_option maxRecDepth 100000
def Jby : List Nat := [7, 8]
theorem Jip (n : Nat) (x0 x1 : D) (h : Heap) : Jap Tryz.prog T09b Jby n Tryz.f121 [x0, x1] h =
(thn (binK .int .lss x1 (iD 0)) fun y0 =>
Jah y0
(none /- UNSUPPORTED panic -/)
(thn (lenH .sl x0) fun y1 =>
thn (Jmk .u64 y1) fun y2 =>
thn (Jmk .u64 x1) fun y3 =>
thnH (Jae Ju1 [y2, y3] h) fun y4 h5 =>
thn (Jat y4 0) fun y6 =>
thn (Jat y4 1) fun y7 =>
thn (binK .int .gtr y6 (.v (.int .u64 0))) fun y8 =>
Jah y8
(none /- UNSUPPORTED panic -/)
(thn (binK .int .gtr y7 (.v (.int .u64 9223372036854775807))) fun y9 =>
Jah y9
(none /- UNSUPPORTED panic -/)
(thn (Jmk .i64 y7) fun y10 =>
thnH (Jzm 3 1 [(iD 0)] y10 y10 h5) fun y11 h12 =>
thnH (Jx1 1 y11 x0 h12) fun y13 h14 =>
Jdl (Jds Tryz.prog T09b Jby n Tryz.f121 0 [y11, y13] h14) (fun j15 s16 h17 =>
Jew j15 0
(some ((s16.getD 0 .undef), h17))
(none)) (fun s16 h17 =>
some (.undef, h17)))))) := by kernel_rfl
theorem Jde (n : Nat) (s0 s1 : D) (h : Heap) : Jdu Tryz.prog T09b Jby n Tryz.f121 0 [s0, s1] h =
(thn (lenH .sl s0) fun y0 =>
thn (binK .int .lss s1 y0) fun y1 =>
Jah y1
(thn (cutH 1 s0 (some s1) none) fun y2 =>
thn (cutH 1 s0 none (some s1)) fun y3 =>
thnH (Jx1 1 y2 y3 h) fun y4 h5 =>
thn (binK .int .add s1 y4) fun y6 =>
some (.normal, [s0, y6], h5))
(some ((.exit 0), [s0, s1], h))) := by kernel_rfl
end Go.Proofs.YtinnbafplhcnpaaGreat
end
section
namespace Go.Proofs.YtinnbafplhcnpaaGreat
open Go.RowKit
set_option linter.unusedVariables false
set_option linter.unusedSimpArgs false
def Jnf (ds : List D) (H : Heap) : Option (D × Heap) :=
  match ds with
  | [.hs id 1, .v (.int .i64 k)] =>
    match H[id]? with
    | some (.cells _ 1 [.v (.int .i64 c)]) => if 0 <= k /\ k <= 4000000 then some (.hs H.length k.toNat, H ++ [.cells 3 1 (List.replicate k.toNat (iD c))]) else none
    | _ => none
  | _ => none
theorem Qkr (n : Nat) (d : D) : (List.replicate n [d]).flatten = List.replicate n d := by
  induction n with
  | zero => rfl
  | succ n ih => simp [List.replicate_succ, ih]
theorem Jz9 {α : Type} (l : List α) (x : α) : (l ++ [x])[l.length]? = some x := by simp
theorem Qeb {α : Type} (l : List α) (x y : α) : (l ++ [x]).set l.length y = l ++ [y] := by simp
theorem Qbs (m : Nat) (c : Int) : (List.take m [iD c]).all Jcc = true := List.all_eq_true.2 fun x hx => by
  have := List.mem_of_mem_take hx
  simp only [List.mem_singleton] at this
  subst this; rfl
theorem Qnj (H : Heap) (k : Nat) (hk : k <= 4000000) : Jzm 3 1 [iD 0] (.v (.int .i64 (k : Int))) (.v (.int .i64 (k : Int))) H = some (.hs H.length k, H ++ [.cells 3 1 (List.replicate k (iD 0))]) := by
  simp only [Jzm]
  rw [if_pos ⟨trivial, by omega, by omega, rfl⟩]
  simp only [Int.toNat_natCast, Qkr, newH]
  have : (List.replicate k (iD 0)).all Jcc = true := by simp [List.all_replicate]
  rw [this]; rfl
theorem Qi8 (H : Heap) (id : Nat) (t : TypeId) (c : Int) (hid : H[id]? = some (.cells t 1 [.v (.int .i64 c)])) (k : Nat) : Jx1 1 (.hs H.length k) (.hs id 1) (H ++ [.cells 3 1 (List.replicate k (iD 0))]) = some (iD (min 1 k : Nat), H ++ [.cells 3 1 (List.replicate (min 1 k) (iD c) ++ List.replicate (k - min 1 k) (iD 0))]) := by
  have hlt := (List.getElem?_eq_some_iff.1 hid).1
  have h1 : (H ++ [HO.cells 3 1 (List.replicate k (iD 0))])[id]? = some (.cells t 1 [iD c]) := by rw [List.getElem?_append_left hlt]; exact hid
  simp only [Jx1, htOf, Option.bind_some, Jz9, srcH, h1]
  simp only [List.length_singleton, Nat.mul_one, Nat.le_refl, and_self, if_true, List.take_succ_cons, List.take_zero, Option.bind_some, Nat.div_one, Nat.zero_add, List.length_replicate, List.nil_append]
  rw [if_pos ⟨by omega, trivial, trivial, Qbs _ c⟩]
  simp only [Option.some.injEq, Prod.mk.injEq, true_and, Qeb]
  congr 4
  · rcases Nat.eq_zero_or_pos k with h | h
    · subst h; rfl
    · rw [Nat.min_eq_left h]; rfl
  · simp
theorem Qgm        (H : Heap) (c : Int) (k fuel : Nat) (hk : k ≤ 4000000) : ∀ (m n : Nat), k - n ≤ m → n ≤ k → (0 < k → 0 < n) → ∀ N, m < N →
    Jez (Jdu Tryz.prog T09b Jby fuel Tryz.f121 0) N [.hs H.length k, iD n] (H ++ [.cells 3 1 (List.replicate n (iD c) ++ List.replicate (k - n) (iD 0))]) = some (.exit 0, [.hs H.length k, iD k], H ++ [.cells 3 1 (List.replicate k (iD c))]) := by
  intro m
  induction m with
  | zero =>
    intro n h1 h2 h3 N hN
    obtain ⟨N, rfl⟩ : ∃ m, N = m + 1 := ⟨N - 1, by omega⟩
    obtain rfl : n = k := by omega
    refine Jdn ?_
    rw [Jde]
    simp
  | succ m ih =>
    intro n h1 h2 h3 N hN
    obtain ⟨N, rfl⟩ : ∃ m, N = m + 1 := ⟨N - 1, by omega⟩
    by_cases hnk : n = k
    · subst hnk
      refine Jdn ?_
      rw [Jde]
      simp
    · have hn0 : 0 < n := h3 (by omega)
      have hlt2 : (n : Int) < k := by omega
      have q1 : cutH 1 (.hs H.length k) (some (.v (.int .i64 (n : Int)))) none = some (.ht H.length n (k - n)) := by
        simp [cutH, lowD, Jqo, show ¬ n = 0 from by omega, show n <= k from h2]
      have q2 : cutH 1 (.hs H.length k) none (some (.v (.int .i64 (n : Int)))) = some (.hs H.length n) := by
        simp [cutH, lowD, Jqo, show n <= k from h2]
      have q3 : Jx1   1 (.ht H.length n (k - n)) (.hs H.length n) (H ++ [.cells 3 1 (List.replicate n (iD c) ++ List.replicate (k - n) (iD 0))]) =
          some (iD (min n (k - n) : Nat), H ++ [.cells 3 1 (List.replicate (n + min n (k - n)) (iD c) ++ List.replicate (k - (n + min n (k - n))) (iD 0))]) := by
        have hl : (List.replicate n (iD c) ++ List.replicate (k - n) (iD 0)).length = k := by simp; omega
        simp only [Jx1, htOf, Option.bind_some, Jz9, srcH, Nat.mul_one, hl]
        rw [if_pos ⟨trivial, h2⟩]
        have ht : (List.replicate n (iD c) ++ List.replicate (k - n) (iD 0)).take n = List.replicate n (iD c) := List.take_left' (by simp)
        simp only [Option.bind_some, ht, List.length_replicate, Nat.div_one]
        rw [if_pos ⟨by omega, trivial, by omega, by simp [List.take_replicate, List.all_replicate]⟩]
        simp only [Option.some.injEq, Prod.mk.injEq, true_and, Qeb]
        congr 3
        rw [List.take_replicate, Nat.min_eq_left (Nat.min_le_left _ _), <- List.replicate_append_replicate, List.drop_append]
        simp only [List.length_replicate, List.drop_replicate]
        rw [show n - (n + min n (k - n)) = 0 from by omega, show k - n - (n + min n (k - n) - n) = k - (n + min n (k - n)) from by omega]
        simp
      have e4 := Jb0 (n : Int) ((min n (k - n) : Nat) : Int) (by omega) (by omega)
      rw [Jei (s' := [.hs H.length k, iD ((n + min n (k - n) : Nat) : Int)]) (H' := H ++ [.cells 3 1 (List.replicate (n + min n (k - n)) (iD c) ++ List.replicate (k - (n + min n (k - n))) (iD 0))])]
      · exact ih (n + min n (k - n)) (by omega) (by omega) (fun _ => by omega) N (by omega)
      · rw [Jde]
        simp only [Jjv, Jaj, Jbd, hlt2, decide_true, Jai, if_true, q1, q2, q3, Jan, Jcs, e4]
        rfl
theorem Qp0 : HCallOk Tryz.prog 121 Jnf := by
  refine Jvs (kp := Jby) Qtl mixed Tryz.func121 (by kernel_rfl) (by decide) fun ds H d H' h => ?_
  unfold Jnf at h
  split at h
  case h_2 => cases h
  rename_i id k
  split at h
  case h_2 => cases h
  rename_i t c hid
  split at h
  case isFalse => cases h
  rename_i hk
  cases h
  obtain ⟨k, rfl⟩ := Int.eq_ofNat_of_zero_le hk.1
  have hk' : k <= 4000000 := by omega
  refine ⟨k + 2, ?_⟩
  rw [Jip]
  have e1 : (IntKind.u64.wrap (1 : Int)) = 1 := rfl
  have e2 : (IntKind.u64.wrap (k : Int)) = k := Jwf _ (by omega) (by omega)
  have e3 : (IntKind.i64.wrap (k : Int)) = k := wrap_in _ (by omega) (by omega)
  have hlt := (List.getElem?_eq_some_iff.1 hid).1
  have n1 : ¬ (k : Int) < 0 := by omega
  have n2 : ¬ (9223372036854775807 : Int) < k := by omega
  have em := Qnj H k hk'
  have ec := Qi8 H id t c hid k
  simp only [Jjv, Jaj, Jbd, Jai, n1, decide_false, Bool.false_eq_true, if_false, Jmk, e1, e2, Int.natCast_one]
  rw [Qet _ _ (by omega) (by omega)]
  simp only [Jan, Jat, Jup, Option.bind_some, List.getElem?_cons_zero, List.getElem?_cons_succ, Jaj, Jfr, Int.lt_irrefl, decide_false, Jai, Bool.false_eq_true, if_false, n2, Jmk, e3, em, ec]
  have key := Qgm H c k (k + 2) hk'
  have hloop : Jds Tryz.prog T09b Jby (k + 2) Tryz.f121 0 [.hs H.length k, iD (min 1 k : Nat)] (H ++ [.cells 3 1 (List.replicate (min 1 k) (iD c) ++ List.replicate (k - min 1 k) (iD 0))]) = some (.exit 0, [.hs H.length k, iD k], H ++ [.cells 3 1 (List.replicate k (iD c))]) :=
    key k (min 1 k) (by omega) (by omega) (by omega) (k + 2) (by omega)
  rw [hloop]
  simp
def Qsb : List Entry := (121, false, Jnf) :: Qsc
theorem Qfg : ∀ p ∈ Qsb, Jbu Tryz.prog p := Jac (Jcg Qp0) <| Qfh
def T09c : Tab := ⟨Qsb, noYl⟩
theorem Qtk : TabOk Tryz.prog T09c := Jb4 Qfg
end Go.Proofs.YtinnbafplhcnpaaGreat
end
section
namespace Go.Proofs.YtinnbafplhcnpaaGreat
open Go.RowKit
set_option linter.unusedVariables false
set_option maxRecDepth 100000
def Jn2 : List Nat := []
theorem Juq (n : Nat) (x0 x1 x2 x3 : D) (h : Heap) : Jap Tryz.prog T09c Jn2 n Tryz.f93 [x0, x1, x2, x3] h =
(thnH (boxH 25 x0 h) fun y0 h1 =>
thnH (boxH 54 x1 h1) fun y2 h3 =>
thn (Jgo 117 (.agg [(.v (.slice none 0 0)), (iD 0)]) true x2) fun y4 =>
thn (Jat y4 1) fun y5 =>
thn (Jat y4 0) fun y6 =>
Jah y5
(thnH (Jaz 117 [(.v (.slice none 0 0)), (iD 0)] h3) fun y7 h8 =>
thnH (setH 2 y7 y6 h8) fun y9 h10 =>
thn (Jaa 0 y7) fun y11 =>
thn (Jad none h10 y11) fun y12 =>
some (y12, h10))
(thn (Jgo 121 (.agg [(.v (.slice none 0 0)), (iD 0)]) true x2) fun y13 =>
thn (Jat y13 1) fun y14 =>
thn (Jat y13 0) fun y15 =>
Jah y14
(thnH (Jaz 121 [(.v (.slice none 0 0)), (iD 0)] h3) fun y16 h17 =>
thnH (setH 2 y16 y15 h17) fun y18 h19 =>
thn (Jaa 0 y16) fun y20 =>
thn (Jaa 0 y20) fun y21 =>
thn (Jad none h19 y21) fun y22 =>
some (y22, h19))
(thn (Jgo 119 (.agg [(bD false)]) true x2) fun y23 =>
thn (Jat y23 1) fun y24 =>
thn (Jat y23 0) fun y25 =>
Jah y24
(thnH (Jaz 119 [(bD false)] h3) fun y26 h27 =>
thnH (setH 1 y26 y25 h27) fun y28 h29 =>
thn (Jaa 0 y26) fun y30 =>
thn (Jad none h29 y30) fun y31 =>
Jah y31
(thn (Jaa 1 y2) fun y32 =>
thn (Jad none h29 y32) fun y33 =>
thn (Jaa 1 y0) fun y34 =>
thn (Jad none h29 y34) fun y35 =>
thn (lenH .sl y35) fun y36 =>
thn (binK .int .lss y33 y36) fun y37 =>
Jah y37
(thn (Jaa 1 y0) fun y38 =>
thn (Jad none h29 y38) fun y39 =>
thn (Jaa 1 y2) fun y40 =>
thn (Jad none h29 y40) fun y41 =>
thn (Jaa 1 y2) fun y42 =>
thn (Jad none h29 y42) fun y43 =>
thn (binK .int .add y43 (iD 1)) fun y44 =>
thn (cutH 1 y39 (some y41) (some y44)) fun y45 =>
some (y45, h29))
(some ((.v (.slice none 0 0)), h29)))
(some ((.v (.slice none 0 0)), h29)))
(thnH (rowH 3 1 1 [(iD 0)] [(0, (iD 2))] h3) fun y46 h47 =>
thnH (Jnf [y46, x3] h47) fun y48 h49 =>
some (y48, h49))))) := by kernel_rfl
end Go.Proofs.YtinnbafplhcnpaaGreat
end
section
namespace Go.Proofs.YtinnbafplhcnpaaGreat
open Go.RowKit
set_option linter.unusedVariables false
set_option linter.unusedSimpArgs false
def askV (vs : List Int) (x : Nd) (n : Nat) : RuleT -> List Int
  | .plain ks _ => ks
  | .array ks _ => ks
  | .scalar true => if x.2.toNat < vs.length then [vs.getD x.2.toNat 0] else []
  | .scalar false => []
  | .none => List.replicate n 2
def Jq5 : List D -> Option D := F4 progT ndT Qnc intT fun p x r n => if Jw6 r x /\ 0 <= n /\ n <= 4000000 then some (Jag (askV p.vars x n.toNat r)) else none
theorem Qct (H : Heap) (n : Nat) (l : List Int) : (l.map iD).mapM (Jbs H n) = some (l.map iD) := by
  induction l with
  | nil => rfl
  | cons a r ih => rw [List.map_cons, List.mapM_cons, Jbt H n _ rfl, ih]; rfl
theorem Qdc (l : List Int) : chunks 1 l.length (l.map iD) = l.map oneI := by
  induction l with
  | nil => rfl
  | cons a r ih => simp [chunks, ih, oneI]
theorem Jvy (H : Heap) (n id : Nat) (t : TypeId) (l : List Int) (h : H[id]? = some (.cells t 1 (l.map iD))) : Jbs H (n + 1) (.hs id l.length) = some (Jag l) := by
  simp only [Jbs, h]
  rw [if_pos (by simp), List.take_of_length_le (by simp), Qct, Option.map_some, Qdc]; rfl
theorem Qnq (H : Heap) (id : Nat) (t : TypeId) (l : List Int) (k : Nat) (hk : k = l.length) (h : H[id]? = some (.cells t 1 (l.map iD))) : outD (some (.hs id k, H)) = some (Jag l) := by
  subst hk; exact Jvy H 8 id t l h
theorem Qt4 : CallOk Tryz.prog 93 Jq5 := call4 (kp := Jn2) Qtk mixed Tryz.func93 (by kernel_rfl) (by decide) fun p x r n d h => by
  split at h
  case isFalse => cases h
  rename_i hg
  cases h
  refine ⟨0, ?_⟩
  show ∃ d', outD (Jap _ _ _ _ _ [Jak p, .agg (Jax x), r.enc, iD n] []) = some d' /\ _
  rw [Juq]
  have fin : ∀ l : List Int, (o : Option D) -> o = some (Jag l) -> ∃ d', o = some d' /\ Imp d' (Jag l) := fun l o h => ⟨_, h, Imp.refl _⟩
  cases r with
  | plain ks is => exact fin ks _ (by simp [RuleT.enc, Jgo, Jat, Jup, Jaz, newH, setH, Jhz, cellsD])
  | array ks is => exact fin ks _ (by simp [RuleT.enc, Jgo, Jat, Jup, Jaz, newH, setH, Jhz, cellsD])
  | scalar b =>
    cases b with
    | false =>
      refine ⟨.v (.slice none 0 0), by simp [RuleT.enc, Jgo, Jat, Jup, Jaz, newH, setH, Jhz, cellsD], Imp.nil 1⟩
    | true =>
      have hx := hg.1 rfl
      by_cases h1 : x.2.toNat < p.vars.length
      · have h2 : x.2 < (p.vars.length : Int) := by omega
        obtain ⟨k, hk⟩ := Int.eq_ofNat_of_zero_le hx.1
        have e1 := Jb0 (k : Int) 1 (by omega) (by omega)
        have e2 := Qo1 p.vars k (k + 1) (by omega) (by omega)
        rw [Int.natCast_add, Int.natCast_one] at e2
        have e3 : (p.vars.take (k + 1)).drop k = [p.vars.getD x.2.toNat 0] := by
          rw [hk, Int.toNat_natCast, getD_in _ _ _ (by omega), List.take_succ_eq_append_getElem (by omega), List.drop_left' (by simp; omega)]
        refine fin _ _ ?_
        have h3 : (k : Int) < p.vars.length := by omega
        simp [RuleT.enc, Jgo, Jat, Jup, Jaz, newH, setH, Jhz, cellsD, hk, h3, e1, e2]
        rw [e3]
        simp [askV, h1]
      · have h2 : ¬ x.2 < (p.vars.length : Int) := by omega
        refine ⟨.v (.slice none 0 0), by simp [RuleT.enc, Jgo, Jat, Jup, Jaz, newH, setH, Jhz, cellsD, h2], ?_⟩
        simp only [askV, if_neg h1]
        exact Imp.nil 1
  | none =>
    refine fin _ _ ?_
    have e1 : ∀ H : Heap, rowH 3 1 1 [iD 0] [(0, iD 2)] H = some (.hs H.length 1, H ++ [.cells 3 1 [iD 2]]) := fun H => rfl
    have e2 : Jnf      [.hs 2 1, iD n] [.cells 25 3 [iD p.params, Jag   p.vars, Jaf    p.body], .cells 54 2 [iD x.1, iD x.2], .cells 3 1 [iD 2]] =
        some (.hs 3 n.toNat, [.cells 25 3 [iD p.params, Jag p.vars, Jaf p.body], .cells 54 2 [iD x.1, iD x.2], .cells 3 1 [iD 2], .cells 3 1 (List.replicate n.toNat (iD 2))]) := by
      simp [Jnf, hg.2]
    simp [RuleT.enc, Jgo, Jat, Jup, e1]
    rw [e2]
    simp only [Jan, askV]
    exact Qnq _ 3 3 (List.replicate n.toNat 2) n.toNat (by simp) (by simp)
def Qkq : List Entry := (93, true, Jae Jq5) :: Qsb
theorem Jr8 : ∀ p ∈ Qkq, Jbu Tryz.prog p := Jac (Jal Qt4) <| Qfg
def Qad : List Int -> List RuleT -> Int -> Option RuleT
  | a :: r, v :: s, k => if k = a then some v else Qad r s k
  | _, _, _ => none
def Jb6 (t : Int) : RuleT := (Qad Jvc ruleRs t).getD .none
theorem Qae : ∀ (ks : List Int) (rs : List RuleT) (k : Int), Jxo ks (rs.map RuleT.enc) k = (Qad ks rs k).map RuleT.enc
  | [], rs, k => by cases rs <;> rfl
  | a :: r, [], k => rfl
  | a :: r, v :: s, k => by
    simp only [List.map_cons, Jxo, Qad]
    split
    · rfl
    · exact Qae r s k
theorem Qhf (t : Int) (H : Heap) : Juw (.v .nilIface) false H Jjd (iD t) = some (Jb6 t).enc := by
  have := Qae Jvc ruleRs t
  simp only [Juw, mapOf, Jjd, Option.bind_some, Jth, this, Jb6]
  cases Qad Jvc ruleRs t <;> rfl
def inner (t : Int) : Bool := decide (t = 23 \/ t = 24)
def Jcp : Nat -> List Int -> List Nd -> Int -> Int
  | 0, _, _, _ => -1
  | f + 1, vs, l, i =>
    if endv l i < 0 then -1 else
    if Jau vs (nodeAt l i).2 (Jb6 (nodeAt l i).1) = -1 \/ (askV vs (nodeAt l i) (Jab l i).length (Jb6 (nodeAt l i).1)).length ≠ (Jab l i).length then -1 else
    if (List.range (Jab l i).length).all (fun j => decide (Jcp f vs l ((Jab l i).getD j 0) = (askV vs (nodeAt l i) (Jab l i).length (Jb6 (nodeAt l i).1)).getD j 0) && !(inner (nodeAt l i).1 && decide (0 < j) && !decide ((nodeAt l ((Jab l i).getD j 0)).1 = 20)))
      then Jau vs (nodeAt l i).2 (Jb6 (nodeAt l i).1) else -1
end Go.Proofs.YtinnbafplhcnpaaGreat
end
section
namespace Go.Proofs.YtinnbafplhcnpaaGreat
open Go.RowKit
set_option linter.unusedVariables false
set_option linter.unusedSimpArgs false
def chkC (p : Pg) : List D := [iD p.params, Jag p.vars, Jaf p.body, Jjd]
def Qsz : D -> Option Pg
  | .agg [a, b, c, m] => (Jqm m).bind fun _ => Jqy [a, b, c]
  | _ => none
theorem Qn5 {α : Type} (A : Dec α) (l : List α) : (l.map A.enc).mapM A.dec = some l := by
  induction l with
  | nil => rfl
  | cons a r ih => rw [List.map_cons, List.mapM_cons, A.back, ih]; rfl
theorem Jxh : Jqm Jjd = some () := by
  have : (ruleRs.map RuleT.enc).mapM RuleT.dec = some ruleRs := Qn5 Qnc ruleRs
  unfold Jqm Jjd
  simp only [this, and_self, if_true]
def chkT : Dec Pg := ⟨fun p => .agg (chkC p), Qsz, fun p => by simp [Qsz, chkC, Jxh, Jqy], fun d p h => by
  unfold Qsz at h
  split at h
  · obtain ⟨_, h1, h⟩ := Option.bind_eq_some_iff.1 h
    refine Imp.agg ?_
    have := Jz2 h
    simp only [Qgy, chkC] at this ⊢
    cases this with | cons a1 r => cases r with | cons a2 r => cases r with | cons a3 r => exact .cons a1 (.cons a2 (.cons a3 (.cons (Jz1 h1) .nil)))
  · cases h⟩
def ofOk (p : Pg) (i : Int) : Bool := decide (0 <= endv p.body i /\ p.body.length <= 3000000)
def F_of (m : Nat) : List D -> Option D := F2 chkT intT fun p i => if ofOk p i && decide (p.body.length < i.toNat + m) then some (iD (Jcp m p.vars p.body i)) else none
def fs09e (m : Nat) : List Entry := (54, true, Jae (F_of m)) :: Qkq
def T09e (m : Nat) : Tab := ⟨fs09e m, noYl⟩
end Go.Proofs.YtinnbafplhcnpaaGreat
end
section
namespace Go.Proofs.YtinnbafplhcnpaaGreat
open Go.RowKit
set_option linter.unusedVariables false
set_option maxRecDepth 100000
variable (m : Nat)
def Jcj : List Nat := [2, 4, 5, 8, 9, 52, 53, 54]
theorem Jno (n : Nat) (x0 x1 : D) (h : Heap) : Jap Tryz.prog (T09e m) Jcj n Tryz.f54 [x0, x1] h =
(thnH (boxH 88 x0 h) fun y0 h1 =>
thn (Jaa 0 y0) fun y2 =>
thn (Jaa 2 y2) fun y3 =>
thn (Jad none h1 y3) fun y4 =>
thn (idxH 2 y4 x1) fun y5 =>
thn (Jad (some 2) h1 y5) fun y6 =>
thnH (Jaz 54 [(iD 0), (iD 0)] h1) fun y7 h8 =>
thnH (setH 2 y7 y6 h8) fun y9 h10 =>
thn (Jaa 0 y0) fun y11 =>
thn (Jaa 2 y11) fun y12 =>
thn (Jad none h10 y12) fun y13 =>
thnH (Jae Jwb [y13, x1] h10) fun y14 h15 =>
thn (Jaa 3 y0) fun y16 =>
thn (Jad none h15 y16) fun y17 =>
thn (Jaa 0 y7) fun y18 =>
thn (Jad none h15 y18) fun y19 =>
thn (Juw (.v .nilIface) false h15 y17 y19) fun y20 =>
thn (binN true .ifc .neq y20 (.v .nilIface)) fun y21 =>
Jah y21
(thn (Jaa 0 y0) fun y22 =>
thn (Jad (some 3) h15 y22) fun y23 =>
thn (Jad (some 2) h15 y7) fun y24 =>
thnH (Jle Tryz.prog (T09e m) y20 "offshoot/kinds.kind" [y23, y24] h15) fun y25 h26 =>
thn (Jaa 0 y0) fun y27 =>
thn (Jad (some 3) h26 y27) fun y28 =>
thn (Jad (some 2) h26 y7) fun y29 =>
thn (lenH .sl y14) fun y30 =>
thnH (Jae Jq5 [y28, y29, y20, y30] h26) fun y31 h32 =>
thn (binK .int .eql y25 (iD (-1))) fun y33 =>
Jah y33
(some ((iD (-1)), h32))
(thn (lenH .sl y31) fun y34 =>
thn (lenH .sl y14) fun y35 =>
thn (binK .int .neq y34 y35) fun y36 =>
Jah y36
(some ((iD (-1)), h32))
(thn (lenH .sl y14) fun y37 =>
Jdl (Jds Tryz.prog (T09e m) Jcj n Tryz.f54 0 [y0, (iD 0), y7, y25, y31, y14, y37, (iD 0)] h32) (fun j38 s39 h40 =>
Jew j38 0
(some ((s39.getD 3 .undef), h40))
(none)) (fun s39 h40 =>
some ((s39.getD 1 .undef), h40)))))
(thn (Jaa 0 y0) fun y41 =>
thn (Jad (some 3) h15 y41) fun y42 =>
thn (Jad (some 2) h15 y7) fun y43 =>
thn (lenH .sl y14) fun y44 =>
thnH (Jae Jq5 [y42, y43, y20, y44] h15) fun y45 h46 =>
thn (binK .int .eql (iD 2) (iD (-1))) fun y47 =>
Jah y47
(some ((iD (-1)), h46))
(thn (lenH .sl y45) fun y48 =>
thn (lenH .sl y14) fun y49 =>
thn (binK .int .neq y48 y49) fun y50 =>
Jah y50
(some ((iD (-1)), h46))
(thn (lenH .sl y14) fun y51 =>
Jdl (Jds Tryz.prog (T09e m) Jcj n Tryz.f54 0 [y0, (iD 0), y7, (iD 2), y45, y14, y51, (iD 0)] h46) (fun j52 s53 h54 =>
Jew j52 0
(some ((s53.getD 3 .undef), h54))
(none)) (fun s53 h54 =>
some ((s53.getD 1 .undef), h54)))))) := by kernel_rfl
theorem Jes (n : Nat) (s0 s1 s2 s3 s4 s5 s6 s7 : D) (h : Heap) : Jdu Tryz.prog (T09e m) Jcj n Tryz.f54 0 [s0, s1, s2, s3, s4, s5, s6, s7] h =
(thn (binK .int .lss s7 s6) fun y0 =>
Jah y0
(thn (idxH 1 s5 s7) fun y1 =>
thn (Jad none h y1) fun y2 =>
thn (Jad (some 4) h s0) fun y3 =>
thnH (Jae (F_of m) [y3, y2] h) fun y4 h5 =>
thn (idxH 1 s4 s7) fun y6 =>
thn (Jad none h5 y6) fun y7 =>
thn (binK .int .neq y4 y7) fun y8 =>
Jah y8
(some (.ret, [s0, (iD (-1)), s2, s3, s4, s5, s6, s7], h5))
(thn (Jaa 0 s2) fun y9 =>
thn (Jad none h5 y9) fun y10 =>
thn (binK .int .eql y10 (iD 23)) fun y11 =>
Jah y11
(thn (binK .int .gtr s7 (iD 0)) fun y12 =>
Jah y12
(thn (Jaa 0 s0) fun y13 =>
thn (Jaa 2 y13) fun y14 =>
thn (Jad none h5 y14) fun y15 =>
thn (idxH 2 y15 y2) fun y16 =>
thn (Jaa 0 y16) fun y17 =>
thn (Jad none h5 y17) fun y18 =>
thn (binK .int .neq y18 (iD 20)) fun y19 =>
Jah y19
(some (.ret, [s0, (iD (-1)), s2, s3, s4, s5, s6, s7], h5))
(thn (binK .int .add s7 (iD 1)) fun y20 =>
some (.normal, [s0, s1, s2, s3, s4, s5, s6, y20], h5)))
(thn (binK .int .add s7 (iD 1)) fun y21 =>
some (.normal, [s0, s1, s2, s3, s4, s5, s6, y21], h5)))
(thn (Jaa 0 s2) fun y22 =>
thn (Jad none h5 y22) fun y23 =>
thn (binK .int .eql y23 (iD 24)) fun y24 =>
Jah y24
(thn (binK .int .gtr s7 (iD 0)) fun y25 =>
Jah y25
(thn (Jaa 0 s0) fun y26 =>
thn (Jaa 2 y26) fun y27 =>
thn (Jad none h5 y27) fun y28 =>
thn (idxH 2 y28 y2) fun y29 =>
thn (Jaa 0 y29) fun y30 =>
thn (Jad none h5 y30) fun y31 =>
thn (binK .int .neq y31 (iD 20)) fun y32 =>
Jah y32
(some (.ret, [s0, (iD (-1)), s2, s3, s4, s5, s6, s7], h5))
(thn (binK .int .add s7 (iD 1)) fun y33 =>
some (.normal, [s0, s1, s2, s3, s4, s5, s6, y33], h5)))
(thn (binK .int .add s7 (iD 1)) fun y34 =>
some (.normal, [s0, s1, s2, s3, s4, s5, s6, y34], h5)))
(thn (binK .int .add s7 (iD 1)) fun y35 =>
some (.normal, [s0, s1, s2, s3, s4, s5, s6, y35], h5)))))
(some ((.exit 0), [s0, s1, s2, s3, s4, s5, s6, s7], h))) := by kernel_rfl
end Go.Proofs.YtinnbafplhcnpaaGreat
end
section
namespace Go.Proofs.YtinnbafplhcnpaaGreat
open Go.RowKit
set_option linter.unusedVariables false
set_option linter.unusedSimpArgs false
theorem ar_num (x : Nd) (h : 0 <= ar x) (h1 : x.1 ≠ 1) : 0 <= x.2 /\ x.2 <= 200 := by
  unfold ar at h
  rw [if_neg h1] at h
  split at h
  · omega
  · rename_i hh
    refine ⟨by omega, ?_⟩
    have hl : (lim x.1 x.2).1 <= 200 := by
      unfold lim
      repeat' split
      all_goals simp
    omega
theorem Qgi (x : Nd) (h : 0 <= ar x) : Jw6 (Jb6 x.1) x := by
  intro hn
  have h1 : x.1 ≠ 1 := by
    intro e
    rw [e] at hn
    cases hn
  have := ar_num x h h1
  omega
theorem Qjs (m : Nat) (r : RuleT) (hr : r ≠ .none) (p : Pg) (x : Nd) (hn : Jw6 r x) (H : Heap) : Jle Tryz.prog (T09e m) r.enc "offshoot/kinds.kind" [Jak p, .agg (Jax x)] H = some (iD (Jau p.vars x.2 r), H) := by
  cases r with
  | none => exact absurd rfl hr
  | plain ks is =>
    have hm : Qhb Tryz.prog 117 "offshoot/kinds.kind" = some 191 := by kernel_rfl
    simp only [Jle, RuleT.enc, hm, Option.bind_some]
    show Jae (Jey 117) [.agg [Jag ks, iD is], Jak p, .agg (Jax x)] H = _
    rw [Jar _ _ _ rfl]
    simp [Jey, Jq8, RuleT.dec, Jw6, Qn0]
  | array ks is =>
    have hm : Qhb Tryz.prog 121 "offshoot/kinds.kind" = some 193 := by kernel_rfl
    simp only [Jle, RuleT.enc, hm, Option.bind_some]
    show Jae (Jey 121) [.agg [Jag ks, iD is], Jak p, .agg (Jax x)] H = _
    rw [Jar _ _ _ rfl]
    have := hn rfl
    simp [Jey, Jq8, RuleT.dec, Jw6, Qn0, this]
  | scalar b =>
    have hm : Qhb Tryz.prog 119 "offshoot/kinds.kind" = some 192 := by kernel_rfl
    simp only [Jle, RuleT.enc, hm, Option.bind_some]
    show Jae (Jey 119) [.agg [bD b], Jak p, .agg (Jax x)] H = _
    rw [Jar _ _ _ rfl]
    have := hn rfl
    simp [Jey, Jq8, RuleT.dec, Jw6, Qn0, this]
theorem Qh0 (p : Pg) (x : Nd) (r : RuleT) (n : Nat) (hn : Jw6 r x) (hb : n <= 4000000) (H : Heap) : Jae Jq5 [Jak p, .agg (Jax x), r.enc, iD n] H = some (Jag (askV p.vars x n r), H) := by
  rw [Jar _ _ _ (by cases r <;> rfl)]
  have : Jq5 [Jak p, .agg (Jax x), r.enc, iD n] = _ := Qkw (A := progT) (B := ndT) (C := Qnc) (E := intT) _ p x r (n : Int)
  rw [this, if_pos ⟨hn, by omega, by omega⟩]
  simp
theorem Ji0 (l : List Nd) (i : Int) (h : l.length <= 3000000) (H : Heap) : Jae Jwb [Jaf l, iD i] H = some (Jag (Jab l i), H) := by
  rw [Jar _ _ _ rfl]; simp [Jwb, h]
theorem Jok (r : RuleT) : binN true .ifc .neq r.enc (.v .nilIface) = some (bD (decide (r ≠ .none))) := by
  cases r <;> rfl
theorem Jbc (l : List Nd) (k : Nat) (j : Nat) (hj : j < (Jab l k).length) : (k : Int) < (Jab l k)[j] /\ 0 <= endv l (Jab l k)[j] /\ endv l (Jab l k)[j] <= endv l k /\ (Jab l k)[j].toNat < l.length := by
  have hm := List.getElem_mem hj
  obtain ⟨h, c, hc, e⟩ := Jzk l k _ hm
  have := Jd8 l k h c hc
  rw [<- e] at this
  have h2 := Ja2 l _ this.2.2.1
  exact ⟨this.1, this.2.2.1, this.2.2.2, h2.2⟩
def ofAt (m : Nat) (p : Pg) (x : Nd) (ks w : List Int) (j : Nat) : Bool := decide (Jcp m p.vars p.body (ks.getD j 0) = w.getD j 0) && !(inner x.1 && decide (0 < j) && !decide ((nodeAt p.body (ks.getD j 0)).1 = 20))
def ofH (p : Pg) (x : Nd) : Heap := [.cells 88 4 [iD p.params, Jag p.vars, Jaf p.body, Jjd], .cells 54 2 [iD x.1, iD x.2]]
theorem Qrj     (m N : Nat) (p : Pg) (x : Nd) (ks w : List Int) (is : Int)
    (hof : ∀ (j : Nat) (hj : j < ks.length), Jae (F_of m) [.agg [iD p.params, Jag p.vars, Jaf p.body, Jjd], iD ks[j]] (ofH p x) = some (iD (Jcp m p.vars p.body ks[j]), ofH p x))
    (hkid : ∀ (j : Nat) (hj : j < ks.length), 0 <= ks[j] /\ ks[j].toNat < p.body.length) (hks : ks.length <= 200) (hN : ks.length < N) (hwl : w.length = ks.length) :
    ((∀ i, 0 <= i -> i < ks.length -> ofAt m p x ks w i = true) /\ Jds Tryz.prog (T09e m) Jcj N Tryz.f54 0 [.hp 0 0, iD 0, .hp 1 0, iD is, Jag w, Jag ks, iD ks.length, iD ((0 : Nat) : Int)] (ofH p x) = some (.exit 0, [.hp 0 0, iD 0, .hp 1 0, iD is, Jag w, Jag ks, iD ks.length, iD ks.length], ofH p x)) \/
    ∃ i, 0 <= i /\ i < ks.length /\ ofAt m p x ks w i = false /\ (∀ j, 0 <= j -> j < i -> ofAt m p x ks w j = true) /\ Jds Tryz.prog (T09e m) Jcj N Tryz.f54 0 [.hp 0 0, iD 0, .hp 1 0, iD is, Jag w, Jag ks, iD ks.length, iD ((0 : Nat) : Int)] (ofH p x) = some (.ret, [.hp 0 0, iD (-1), .hp 1 0, iD is, Jag w, Jag ks, iD ks.length, iD i], ofH p x) := by
  have load4 : Jad (some 4) (ofH p x) (.hp 0 0) = some (.agg [iD p.params, Jag p.vars, Jaf p.body, Jjd]) := rfl
  have load0 : Jad none (ofH p x) (.hp 1 0) = some (iD x.1) := rfl
  have load2 : Jad none (ofH p x) (.hp 0 2) = some (Jaf p.body) := rfl
  have split3 : ∀ (j : Nat) (hj : j < ks.length) (hw : j < w.length), ofAt m p x ks w j = (decide (Jcp m p.vars p.body ks[j] = w[j]) && !(inner x.1 && decide (0 < j) && !decide ((p.body[ks[j].toNat]'(hkid j hj).2).1 = 20))) := by
    intro j hj hw
    simp only [ofAt, getD_in _ _ _ hj, getD_in _ _ _ hw, nodeAt, getD_in _ _ _ (hkid j hj).2]
  refine Jfv (fun j => [.hp 0 0, iD 0, .hp 1 0, iD is, Jag w, Jag ks, iD ks.length, iD j]) (ofH p x) ks.length (ofAt m p x ks w) (fun i => (.ret, [.hp 0 0, iD (-1), .hp 1 0, iD is, Jag w, Jag ks, iD ks.length, iD i], ofH p x)) _ (fun i => by intro e; cases e) (by intro e; cases e) 0 N (Nat.zero_le _) (by omega) ?_ ?_ ?_
  · intro j _ hj hp
    have hw : j < w.length := by omega
    have e1 := Jb0 (j : Int) 1 (by omega) (by omega)
    have h1 : (j : Int) < ks.length := by omega
    obtain ⟨k0, k1⟩ := hkid j hj
    rw [split3 j hj hw, Bool.and_eq_true, decide_eq_true_eq] at hp
    obtain ⟨hp1, hp2⟩ := hp
    rw [Jes]
    by_cases h23 : x.1 = 23
    · by_cases hj0 : 0 < j
      · have h20 : (p.body[ks[j].toNat]).1 = 20 := by simpa [inner, h23, hj0] using hp2
        simp [-Jha, h1, Jay _ _ hj, Jay _ _ hw, load4, load0, load2, hof j hj, hp1, h23, e1, hj0, Jhr _ _ k0 k1, h20]
      · simp [-Jha, h1, Jay _ _ hj, Jay _ _ hw, load4, load0, load2, hof j hj, hp1, h23, e1, hj0]
    · by_cases h24 : x.1 = 24
      · by_cases hj0 : 0 < j
        · have h20 : (p.body[ks[j].toNat]).1 = 20 := by simpa [inner, h24, hj0] using hp2
          simp [-Jha, h1, Jay _ _ hj, Jay _ _ hw, load4, load0, load2, hof j hj, hp1, h23, h24, e1, hj0, Jhr _ _ k0 k1, h20]
        · simp [-Jha, h1, Jay _ _ hj, Jay _ _ hw, load4, load0, load2, hof j hj, hp1, h23, h24, e1, hj0]
      · simp [-Jha, h1, Jay _ _ hj, Jay _ _ hw, load4, load0, load2, hof j hj, hp1, h23, h24, e1]
  · intro j _ hj hp
    have hw : j < w.length := by omega
    have h1 : (j : Int) < ks.length := by omega
    obtain ⟨k0, k1⟩ := hkid j hj
    rw [split3 j hj hw] at hp
    rw [Jes]
    by_cases hq : Jcp m p.vars p.body ks[j] = w[j]
    · simp only [hq, decide_true, Bool.true_and, Bool.not_eq_false', Bool.and_eq_true, decide_eq_true_eq, Bool.not_eq_true', decide_eq_false_iff_not] at hp
      obtain ⟨⟨hp1, hp2⟩, hp3⟩ := hp
      have hj0 : 0 < j := hp2
      by_cases h23 : x.1 = 23
      · simp [-Jha, h1, Jay _ _ hj, Jay _ _ hw, load4, load0, load2, hof j hj, hq, h23, hj0, Jhr _ _ k0 k1, hp3]
      · have h24 : x.1 = 24 := by simpa [inner, h23] using hp1
        simp [-Jha, h1, Jay _ _ hj, Jay _ _ hw, load4, load0, load2, hof j hj, hq, h23, h24, hj0, Jhr _ _ k0 k1, hp3]
    · simp [-Jha, h1, Jay _ _ hj, Jay _ _ hw, load4, load0, load2, hof j hj, hq]
  · rw [Jes]
    simp
theorem C_of : ∀ m : Nat, CallOk Tryz.prog 54 (F_of m)
  | 0 => ⟨⟨_, Tryz.func54, by decide, rfl⟩, fun ds d hF => by
      exfalso
      unfold F_of F2 at hF
      split at hF
      · obtain ⟨p, _, hF⟩ := Option.bind_eq_some_iff.1 hF
        obtain ⟨i, _, hF⟩ := Option.bind_eq_some_iff.1 hF
        simp only at hF
        split at hF
        · rename_i hc
          simp only [ofOk, Bool.and_eq_true, decide_eq_true_eq] at hc
          have := (Ja2 p.body i hc.1.1).2
          omega
        · cases hF
      · cases hF⟩
  | m + 1 => by
    have hT : TabOk Tryz.prog (T09e m) := Jb4 (Jac (Jal (C_of m)) Jr8)
    refine Jlf (kp := Jcj) hT mixed Tryz.func54 (by kernel_rfl) (by decide) fun p i d h => ?_
    split at h
    case isFalse => cases h
    rename_i hc
    cases h
    simp only [ofOk, Bool.and_eq_true, decide_eq_true_eq] at hc
    obtain ⟨⟨hE, hlen⟩, hm⟩ := hc
    obtain ⟨h0, hil⟩ := Ja2 p.body i hE
    obtain ⟨k, rfl⟩ := Int.eq_ofNat_of_zero_le h0
    have hk : k < p.body.length := by simpa using hil
    have har : 0 <= ar p.body[k] := by have := Jck p.body k hE; rwa [Jb1 _ _ hk] at this
    have hn := Qgi p.body[k] har
    have hna : nodeAt p.body k = p.body[k] := by unfold nodeAt; rw [Int.toNat_natCast, getD_in _ _ _ hk]
    have hkl := Jbn p.body k
    have hkid : ∀ (j : Nat) (hj : j < (Jab p.body k).length), 0 <= (Jab p.body k)[j] /\ (Jab p.body k)[j].toNat < p.body.length := fun j hj => by
      have := Jbc p.body k j hj
      exact ⟨by omega, this.2.2.2⟩
    have hof : ∀ (j : Nat) (hj : j < (Jab p.body k).length), Jae (F_of m) [.agg [iD p.params, Jag p.vars, Jaf p.body, Jjd], iD (Jab p.body k)[j]] (ofH p p.body[k]) = some (iD (Jcp m p.vars p.body (Jab p.body k)[j]), ofH p p.body[k]) := by
      intro j hj
      have hf := Jbc p.body k j hj
      rw [Jar _ _ _ rfl]
      have : F_of m [.agg [iD p.params, Jag p.vars, Jaf p.body, Jjd], iD (Jab p.body k)[j]] = _ := Jht (A := chkT) (B := intT) _ p (Jab p.body k)[j]
      rw [this, if_pos]
      · rfl
      · simp only [ofOk, Bool.and_eq_true, decide_eq_true_eq]
        refine ⟨⟨hf.2.1, hlen⟩, ?_⟩
        have := hf.1
        simp only [Int.toNat_natCast] at hm
        omega
    have hkind : Jcp   (m + 1) p.vars p.body k = if Jau      p.vars p.body[k].2 (Jb6    p.body[k].1) = -1 ∨ (askV p.vars p.body[k] (Jab   p.body k).length (Jb6    p.body[k].1)).length ≠ (Jab   p.body k).length then -1 else
        if (List.range (Jab p.body k).length).all (ofAt m p p.body[k] (Jab p.body k) (askV p.vars p.body[k] (Jab p.body k).length (Jb6 p.body[k].1))) then Jau p.vars p.body[k].2 (Jb6 p.body[k].1) else -1 := by
      rw [Jcp, if_neg (by omega)]
      simp only [hna]
      rfl
    have hask := fun H => Qh0 p p.body[k] (Jb6 p.body[k].1) (Jab p.body k).length hn (by omega) H
    have hmeth := fun (hr : Jb6 p.body[k].1 ≠ .none) H => Qjs m (Jb6 p.body[k].1) hr p p.body[k] hn H
    have hloop := Qrj m ((Jab p.body k).length + 1) p p.body[k] (Jab p.body k) (askV p.vars p.body[k] (Jab p.body k).length (Jb6 p.body[k].1))
    refine ⟨(Jab p.body k).length + 1, _, ?_, Imp.refl _⟩
    show outD (Jap _ _ _ _ _ [.agg (chkC p), iD (k : Int)] []) = _
    rw [Jno, hkind]
    rw [Jx9 _ _ _ rfl]
    have ea : ∀ o : HO, Jaz 54 [iD 0, iD 0] [o] = some (.hp 1 0, [o, .cells 54 2 [iD 0, iD 0]]) := fun o => rfl
    have es : ∀ o : HO, setH 2 (.hp 1 0) (.agg (Jax p.body[k])) [o, .cells 54 2 [iD 0, iD 0]] = some (.v undef, [o, .cells 54 2 [iD p.body[k].1, iD p.body[k].2]]) := fun o => rfl
    have ep : D.agg [iD p.params, Jag p.vars, Jaf p.body] = Jak p := rfl
    have en : D.agg [iD p.body[k].1, iD p.body[k].2] = .agg (Jax p.body[k]) := rfl
    have hlook := Qhf p.body[k].1
    have hlk : ∀ a b : Nat, ((a : Int) = b) = (a = b) := fun a b => by simp only [eq_iff_iff]; omega
    generalize Jb6 p.body[k].1 = r at hn hkind hask hmeth hloop hlook ⊢
    have hall1 : (∀ i, 0 <= i -> i < (Jab p.body k).length -> ofAt m p p.body[k] (Jab p.body k) (askV p.vars p.body[k] (Jab p.body k).length r) i = true) -> (List.range (Jab p.body k).length).all (ofAt m p p.body[k] (Jab p.body k) (askV p.vars p.body[k] (Jab p.body k).length r)) = true := fun q => by
      rw [List.all_eq_true]; intro i hi; exact q i (Nat.zero_le _) (by simpa using hi)
    have hall2 : ∀ i, i < (Jab p.body k).length -> ofAt m p p.body[k] (Jab p.body k) (askV p.vars p.body[k] (Jab p.body k).length r) i = false -> (List.range (Jab p.body k).length).all (ofAt m p p.body[k] (Jab p.body k) (askV p.vars p.body[k] (Jab p.body k).length r)) = false := fun i hi q => by
      rw [Bool.eq_false_iff]; intro e; rw [List.all_eq_true] at e
      have := e i (by simpa using hi)
      rw [q] at this; cases this
    have hr := fun is hl => hloop is hof hkid hkl (by omega) hl
    simp only [ofH, Jld] at hr
    generalize askV p.vars p.body[k] (Jab p.body k).length r = ww at hall1 hall2 hask hr ⊢
    by_cases hn0 : r = .none
    · subst hn0
      have h2 : Jau p.vars p.body[k].2 RuleT.none = 2 := rfl
      by_cases hl : ww.length = (Jab p.body k).length
      · rcases hr 2 hl with ⟨q1, q2⟩ | ⟨i, _, q1, q2, q3, q4⟩
        · have hall := hall1 q1
          simp [chkC, Jav _ _ hk, ea, es, Ji0 _ _ hlen, hlook, Jok, ep, en, h2, hask, hl, q2, hall]
        · have hall := hall2 i q1 q2
          simp [chkC, Jav _ _ hk, ea, es, Ji0 _ _ hlen, hlook, Jok, ep, en, h2, hask, hl, q4, hall]
      · simp [chkC, Jav _ _ hk, ea, es, Ji0 _ _ hlen, hlook, Jok, ep, en, h2, hask, hl, hlk]
    · have hm' := hmeth hn0
      generalize Jau p.vars p.body[k].2 r = is at hm' ⊢
      by_cases his : is = -1
      · simp [chkC, Jav _ _ hk, ea, es, Ji0 _ _ hlen, hlook, Jok, ep, en, hask, hm', hn0, his]
      · by_cases hl : ww.length = (Jab p.body k).length
        · rcases hr is hl with ⟨q1, q2⟩ | ⟨i, _, q1, q2, q3, q4⟩
          · have hall := hall1 q1
            simp [chkC, Jav _ _ hk, ea, es, Ji0 _ _ hlen, hlook, Jok, ep, en, hask, hm', hn0, his, hl, q2, hall]
          · have hall := hall2 i q1 q2
            simp [chkC, Jav _ _ hk, ea, es, Ji0 _ _ hlen, hlook, Jok, ep, en, hask, hm', hn0, his, hl, q4, hall]
        · simp [chkC, Jav _ _ hk, ea, es, Ji0 _ _ hlen, hlook, Jok, ep, en, hask, hm', hn0, his, hl, hlk]
end Go.Proofs.YtinnbafplhcnpaaGreat
end
section
namespace Go.Proofs.YtinnbafplhcnpaaGreat
open Go.RowKit
set_option linter.unusedVariables false
set_option linter.unusedSimpArgs false
def allV (m : Nat) (p : Pg) (ks want : List Int) : Bool := decide (ks.length = want.length) && (List.range ks.length).all fun j => decide (Jcp m p.vars p.body (ks.getD j 0) = want.getD j 0)
def Jj0 (m : Nat) : List D -> Option D := F2 progT intT fun p i => if p.body.length <= 3000000 /\ 0 < m /\ (endv p.body i < 0 \/ p.body.length < i.toNat + m) then some (iD (Jcp m p.vars p.body i)) else none
def Jbi (m : Nat) : List D -> Option D := F3 progT intsT intsT fun p ks want => if p.body.length <= 3000000 /\ ks.length <= 3000000 /\ 0 < m /\ (∀ k ∈ ks, p.body.length < k.toNat + m) then some (bD (allV m p ks want)) else none
def fs09f (m : Nat) : List Entry := (59, true, Jae (Jj0 m)) :: (103, true, Jae (Jbi m)) :: Qkq
def T09f (m : Nat) : Tab := ⟨fs09f m, noYl⟩
def fs09g (m : Nat) : List Entry := (59, true, Jae (Jj0 m)) :: Qkq
def T09g (m : Nat) : Tab := ⟨fs09g m, noYl⟩
end Go.Proofs.YtinnbafplhcnpaaGreat
end
section
namespace Go.Proofs.YtinnbafplhcnpaaGreat
open Go.RowKit
set_option linter.unusedVariables false
set_option maxRecDepth 100000
variable (m : Nat)
def Jam : List Nat := [2, 4, 6, 8]
theorem Jao (n : Nat) (x0 x1 : D) (h : Heap) : Jap Tryz.prog (T09f m) Jam n Tryz.f59 [x0, x1] h =
(thnH (boxH 25 x0 h) fun y0 h1 =>
thn (Jaa 2 y0) fun y2 =>
thn (Jad none h1 y2) fun y3 =>
thnH (Jae Jgq [y3, x1] h1) fun y4 h5 =>
thn (binK .int .lss y4 (iD 0)) fun y6 =>
Jah y6
(some ((iD (-1)), h5))
(thn (Jaa 2 y0) fun y7 =>
thn (Jad none h5 y7) fun y8 =>
thn (idxH 2 y8 x1) fun y9 =>
thn (Jad (some 2) h5 y9) fun y10 =>
thnH (Jaz 54 [(iD 0), (iD 0)] h5) fun y11 h12 =>
thnH (setH 2 y11 y10 h12) fun y13 h14 =>
thn (Jaa 2 y0) fun y15 =>
thn (Jad none h14 y15) fun y16 =>
thnH (Jae Jkp [y16, x1] h14) fun y17 h18 =>
thn (Jad (some 3) h18 y0) fun y19 =>
thn (Jaa 1 y11) fun y20 =>
thn (Jad none h18 y20) fun y21 =>
thnH (Jae Juj [y19, y21] h18) fun y22 h23 =>
thn (Jaa 0 y11) fun y24 =>
thn (Jad none h23 y24) fun y25 =>
thn (binK .int .eql y25 (iD 1)) fun y26 =>
Jah y26
(some ((iD 0), h23))
(thn (binK .int .eql y25 (iD 2)) fun y27 =>
Jah y27
(some ((iD 1), h23))
(thn (binK .int .eql y25 (iD 3)) fun y28 =>
Jah y28
(thn (binK .int .eql y22 (iD 0)) fun y29 =>
Jah y29
(thnH (Jae Jdm [(bD true), y22] h23) fun y30 h31 =>
some (y30, h31))
(thn (binK .int .eql y22 (iD 1)) fun y32 =>
thnH (Jae Jdm [y32, y22] h23) fun y33 h34 =>
some (y33, h34)))
(thn (binK .int .eql y25 (iD 4)) fun y35 =>
Jah y35
(thnH (Jae Jp0 [y22] h23) fun y36 h37 =>
thn (binK .int .gtr y36 (iD 0)) fun y38 =>
Jah y38
(thn (Jad (some 3) h37 y0) fun y39 =>
thnH (rowH 3 1 1 [(iD 0)] [(0, (iD 0))] h37) fun y40 h41 =>
thnH (Jae (Jbi m) [y39, y17, y40] h41) fun y42 h43 =>
thnH (Jae Jdm [y42, (iD 0)] h43) fun y44 h45 =>
some (y44, h45))
(thnH (Jae Jdm [(bD false), (iD 0)] h37) fun y46 h47 =>
some (y46, h47)))
(thn (binK .int .eql y25 (iD 5)) fun y48 =>
Jah y48
(thn (Jad (some 3) h23 y0) fun y49 =>
thnH (rowH 3 1 1 [(iD 0)] [(0, (iD 0))] h23) fun y50 h51 =>
thnH (Jae (Jbi m) [y49, y17, y50] h51) fun y52 h53 =>
thnH (Jae Jdm [y52, (iD 0)] h53) fun y54 h55 =>
some (y54, h55))
(thn (binK .int .eql y25 (iD 6)) fun y56 =>
Jah y56
(thn (Jad (some 3) h23 y0) fun y57 =>
thnH (rowH 3 1 1 [(iD 0)] [(0, (iD 1))] h23) fun y58 h59 =>
thnH (Jae (Jbi m) [y57, y17, y58] h59) fun y60 h61 =>
thnH (Jae Jdm [y60, (iD 1)] h61) fun y62 h63 =>
some (y62, h63))
(thn (binK .int .eql y25 (iD 7)) fun y64 =>
Jah y64
(thn (Jad (some 3) h23 y0) fun y65 =>
thnH (rowH 3 1 2 [(iD 0)] [(0, (iD 0)), (1, (iD 0))] h23) fun y66 h67 =>
thnH (Jae (Jbi m) [y65, y17, y66] h67) fun y68 h69 =>
thnH (Jae Jdm [y68, (iD 0)] h69) fun y70 h71 =>
some (y70, h71))
(thn (binK .int .eql y25 (iD 8)) fun y72 =>
Jah y72
(thn (Jad (some 3) h23 y0) fun y73 =>
thnH (rowH 3 1 2 [(iD 0)] [(0, (iD 0)), (1, (iD 0))] h23) fun y74 h75 =>
thnH (Jae (Jbi m) [y73, y17, y74] h75) fun y76 h77 =>
thnH (Jae Jdm [y76, (iD 0)] h77) fun y78 h79 =>
some (y78, h79))
(thn (binK .int .eql y25 (iD 9)) fun y80 =>
Jah y80
(thn (Jad (some 3) h23 y0) fun y81 =>
thnH (rowH 3 1 2 [(iD 0)] [(0, (iD 0)), (1, (iD 0))] h23) fun y82 h83 =>
thnH (Jae (Jbi m) [y81, y17, y82] h83) fun y84 h85 =>
thnH (Jae Jdm [y84, (iD 0)] h85) fun y86 h87 =>
some (y86, h87))
(thn (binK .int .eql y25 (iD 10)) fun y88 =>
Jah y88
(thn (Jad (some 3) h23 y0) fun y89 =>
thnH (rowH 3 1 2 [(iD 0)] [(0, (iD 0)), (1, (iD 0))] h23) fun y90 h91 =>
thnH (Jae (Jbi m) [y89, y17, y90] h91) fun y92 h93 =>
thnH (Jae Jdm [y92, (iD 0)] h93) fun y94 h95 =>
some (y94, h95))
(thn (binK .int .eql y25 (iD 11)) fun y96 =>
Jah y96
(thn (Jad (some 3) h23 y0) fun y97 =>
thnH (rowH 3 1 2 [(iD 0)] [(0, (iD 0)), (1, (iD 0))] h23) fun y98 h99 =>
thnH (Jae (Jbi m) [y97, y17, y98] h99) fun y100 h101 =>
thnH (Jae Jdm [y100, (iD 0)] h101) fun y102 h103 =>
some (y102, h103))
(thn (binK .int .eql y25 (iD 12)) fun y104 =>
Jah y104
(thn (Jad (some 3) h23 y0) fun y105 =>
thnH (rowH 3 1 2 [(iD 0)] [(0, (iD 0)), (1, (iD 0))] h23) fun y106 h107 =>
thnH (Jae (Jbi m) [y105, y17, y106] h107) fun y108 h109 =>
thnH (Jae Jdm [y108, (iD 1)] h109) fun y110 h111 =>
some (y110, h111))
(thn (binK .int .eql y25 (iD 13)) fun y112 =>
Jah y112
(thn (Jad (some 3) h23 y0) fun y113 =>
thnH (rowH 3 1 2 [(iD 0)] [(0, (iD 0)), (1, (iD 0))] h23) fun y114 h115 =>
thnH (Jae (Jbi m) [y113, y17, y114] h115) fun y116 h117 =>
thnH (Jae Jdm [y116, (iD 1)] h117) fun y118 h119 =>
some (y118, h119))
(thn (binK .int .eql y25 (iD 14)) fun y120 =>
Jah y120
(thn (Jad (some 3) h23 y0) fun y121 =>
thnH (rowH 3 1 2 [(iD 0)] [(0, (iD 0)), (1, (iD 0))] h23) fun y122 h123 =>
thnH (Jae (Jbi m) [y121, y17, y122] h123) fun y124 h125 =>
thnH (Jae Jdm [y124, (iD 1)] h125) fun y126 h127 =>
some (y126, h127))
(thn (binK .int .eql y25 (iD 15)) fun y128 =>
Jah y128
(thn (Jad (some 3) h23 y0) fun y129 =>
thnH (rowH 3 1 2 [(iD 0)] [(0, (iD 0)), (1, (iD 0))] h23) fun y130 h131 =>
thnH (Jae (Jbi m) [y129, y17, y130] h131) fun y132 h133 =>
thnH (Jae Jdm [y132, (iD 1)] h133) fun y134 h135 =>
some (y134, h135))
(thn (binK .int .eql y25 (iD 16)) fun y136 =>
Jah y136
(thn (Jad (some 3) h23 y0) fun y137 =>
thnH (rowH 3 1 2 [(iD 0)] [(0, (iD 0)), (1, (iD 0))] h23) fun y138 h139 =>
thnH (Jae (Jbi m) [y137, y17, y138] h139) fun y140 h141 =>
thnH (Jae Jdm [y140, (iD 1)] h141) fun y142 h143 =>
some (y142, h143))
(thn (binK .int .eql y25 (iD 17)) fun y144 =>
Jah y144
(thn (Jad (some 3) h23 y0) fun y145 =>
thnH (rowH 3 1 2 [(iD 0)] [(0, (iD 0)), (1, (iD 0))] h23) fun y146 h147 =>
thnH (Jae (Jbi m) [y145, y17, y146] h147) fun y148 h149 =>
thnH (Jae Jdm [y148, (iD 1)] h149) fun y150 h151 =>
some (y150, h151))
(thn (binK .int .eql y25 (iD 18)) fun y152 =>
Jah y152
(thn (Jad (some 3) h23 y0) fun y153 =>
thnH (rowH 3 1 2 [(iD 0)] [(0, (iD 1)), (1, (iD 1))] h23) fun y154 h155 =>
thnH (Jae (Jbi m) [y153, y17, y154] h155) fun y156 h157 =>
thnH (Jae Jdm [y156, (iD 1)] h157) fun y158 h159 =>
some (y158, h159))
(thn (binK .int .eql y25 (iD 19)) fun y160 =>
Jah y160
(thn (Jad (some 3) h23 y0) fun y161 =>
thnH (rowH 3 1 2 [(iD 0)] [(0, (iD 1)), (1, (iD 1))] h23) fun y162 h163 =>
thnH (Jae (Jbi m) [y161, y17, y162] h163) fun y164 h165 =>
thnH (Jae Jdm [y164, (iD 1)] h165) fun y166 h167 =>
some (y166, h167))
(thn (binK .int .eql y25 (iD 20)) fun y168 =>
Jah y168
(Jdl (Jds Tryz.prog (T09f m) Jam n Tryz.f59 0 [y0, (iD 0), y17, (iD 0)] h23) (fun j169 s170 h171 =>
Jew j169 1
(some ((iD 2), h171))
(Jew j169 0
(some ((iD 2), h171))
(none))) (fun s170 h171 =>
some ((s170.getD 1 .undef), h171)))
(thn (binK .int .eql y25 (iD 21)) fun y172 =>
Jah y172
(thn (binK .int .eql y22 (iD 0)) fun y173 =>
Jah y173
(thn (Jad (some 3) h23 y0) fun y174 =>
thnH (rowH 3 1 1 [(iD 0)] [(0, y22)] h23) fun y175 h176 =>
thnH (Jae (Jbi m) [y174, y17, y175] h176) fun y177 h178 =>
thnH (Jae Jdm [y177, (iD 2)] h178) fun y179 h180 =>
some (y179, h180))
(thn (binK .int .eql y22 (iD 1)) fun y181 =>
Jah y181
(thn (Jad (some 3) h23 y0) fun y182 =>
thnH (rowH 3 1 1 [(iD 0)] [(0, y22)] h23) fun y183 h184 =>
thnH (Jae (Jbi m) [y182, y17, y183] h184) fun y185 h186 =>
thnH (Jae Jdm [y185, (iD 2)] h186) fun y187 h188 =>
some (y187, h188))
(thnH (Jae Jdm [(bD false), (iD 2)] h23) fun y189 h190 =>
some (y189, h190))))
(thn (binK .int .eql y25 (iD 22)) fun y191 =>
Jah y191
(thnH (Jae Jp0 [y22] h23) fun y192 h193 =>
thn (binK .int .gtr y192 (iD 0)) fun y194 =>
Jah y194
(thn (Jad (some 3) h193 y0) fun y195 =>
thnH (rowH 3 1 2 [(iD 0)] [(0, (iD 0)), (1, (iD 0))] h193) fun y196 h197 =>
thnH (Jae (Jbi m) [y195, y17, y196] h197) fun y198 h199 =>
thnH (Jae Jdm [y198, (iD 2)] h199) fun y200 h201 =>
some (y200, h201))
(thnH (Jae Jdm [(bD false), (iD 2)] h193) fun y202 h203 =>
some (y202, h203)))
(thn (binK .int .eql y25 (iD 23)) fun y204 =>
Jah y204
(thn (Jad (some 3) h23 y0) fun y205 =>
thnH (rowH 3 1 3 [(iD 0)] [(0, (iD 1)), (1, (iD 2)), (2, (iD 2))] h23) fun y206 h207 =>
thnH (Jae (Jbi m) [y205, y17, y206] h207) fun y208 h209 =>
Jah y208
(thn (Jad (some 3) h209 y0) fun y210 =>
thnH (Jae Jni [y210, y17, (iD 1)] h209) fun y211 h212 =>
thnH (Jae Jdm [y211, (iD 2)] h212) fun y213 h214 =>
some (y213, h214))
(thnH (Jae Jdm [(bD false), (iD 2)] h209) fun y215 h216 =>
some (y215, h216)))
(thn (binK .int .eql y25 (iD 24)) fun y217 =>
Jah y217
(thn (Jad (some 3) h23 y0) fun y218 =>
thnH (rowH 3 1 2 [(iD 0)] [(0, (iD 1)), (1, (iD 2))] h23) fun y219 h220 =>
thnH (Jae (Jbi m) [y218, y17, y219] h220) fun y221 h222 =>
Jah y221
(thn (Jad (some 3) h222 y0) fun y223 =>
thnH (Jae Jni [y223, y17, (iD 1)] h222) fun y224 h225 =>
thnH (Jae Jdm [y224, (iD 2)] h225) fun y226 h227 =>
some (y226, h227))
(thnH (Jae Jdm [(bD false), (iD 2)] h222) fun y228 h229 =>
some (y228, h229)))
(thn (binK .int .eql y25 (iD 25)) fun y230 =>
Jah y230
(thn (Jad (some 3) h23 y0) fun y231 =>
thnH (rowH 3 1 1 [(iD 0)] [(0, (iD 0))] h23) fun y232 h233 =>
thnH (Jae (Jbi m) [y231, y17, y232] h233) fun y234 h235 =>
thnH (Jae Jdm [y234, (iD 2)] h235) fun y236 h237 =>
some (y236, h237))
(some ((iD 2), h23)))))))))))))))))))))))))))) := by kernel_rfl
theorem Je2 (n : Nat) (s0 s1 s2 s3 : D) (h : Heap) : Jdu Tryz.prog (T09f m) Jam n Tryz.f59 0 [s0, s1, s2, s3] h =
(thn (lenH .sl s2) fun y0 =>
thn (binK .int .lss s3 y0) fun y1 =>
Jah y1
(thn (Jad (some 3) h s0) fun y2 =>
thn (idxH 1 s2 s3) fun y3 =>
thn (Jad none h y3) fun y4 =>
thnH (Jae (Jj0 m) [y2, y4] h) fun y5 h6 =>
thn (binK .int .neq y5 (iD 2)) fun y7 =>
Jah y7
(some (.ret, [s0, (iD (-1)), s2, s3], h6))
(thn (binK .int .add s3 (iD 1)) fun y8 =>
some (.normal, [s0, s1, s2, y8], h6)))
(some ((.exit 1), [s0, s1, s2, s3], h))) := by kernel_rfl
end Go.Proofs.YtinnbafplhcnpaaGreat
end
section
namespace Go.Proofs.YtinnbafplhcnpaaGreat
open Go.RowKit
set_option linter.unusedVariables false
set_option maxRecDepth 100000
variable (m : Nat)
def Jdh : List Nat := [1, 2, 3, 6, 7]
theorem Jnl (n : Nat) (x0 x1 x2 : D) (h : Heap) : Jap Tryz.prog (T09g m) Jdh n Tryz.f103 [x0, x1, x2] h =
(thnH (boxH 25 x0 h) fun y0 h1 =>
thn (lenH .sl x1) fun y2 =>
thn (lenH .sl x2) fun y3 =>
thn (binK .int .neq y2 y3) fun y4 =>
Jah y4
(some ((bD false), h1))
(Jdl (Jds Tryz.prog (T09g m) Jdh n Tryz.f103 0 [x1, x2, y0, (bD false), (iD 0)] h1) (fun j5 s6 h7 =>
Jew j5 0
(some ((bD true), h7))
(none)) (fun s6 h7 =>
some ((s6.getD 3 .undef), h7)))) := by kernel_rfl
theorem Jeq (n : Nat) (s0 s1 s2 s3 s4 : D) (h : Heap) : Jdu Tryz.prog (T09g m) Jdh n Tryz.f103 0 [s0, s1, s2, s3, s4] h =
(thn (lenH .sl s0) fun y0 =>
thn (binK .int .lss s4 y0) fun y1 =>
Jah y1
(thn (Jad (some 3) h s2) fun y2 =>
thn (idxH 1 s0 s4) fun y3 =>
thn (Jad none h y3) fun y4 =>
thnH (Jae (Jj0 m) [y2, y4] h) fun y5 h6 =>
thn (idxH 1 s1 s4) fun y7 =>
thn (Jad none h6 y7) fun y8 =>
thn (binK .int .neq y5 y8) fun y9 =>
Jah y9
(some (.ret, [s0, s1, s2, (bD false), s4], h6))
(thn (binK .int .add s4 (iD 1)) fun y10 =>
some (.normal, [s0, s1, s2, s3, y10], h6)))
(some ((.exit 0), [s0, s1, s2, s3, s4], h))) := by kernel_rfl
end Go.Proofs.YtinnbafplhcnpaaGreat
end
