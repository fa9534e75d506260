/-
  Parts joined into one text: Sh10c, T10d, Sh10d, T10e, T10f, Sh10f, T10g, Sh10g, T10h, T10i, Sh10i, T10j, Sh10j. No condition.
-/
import Derived.Test.YtalehbmgbjiigaaEn
import Derived.Test.YtalehbmgbjiigaaEq

section
namespace Go.Proofs.Ytalehbmgbjiigaa
open Go.RowKit
set_option linter.unusedVariables false
set_option maxRecDepth 100000

def kp_offshootref05_Do : List Nat := []
theorem sh_offshootref05_Do (n : Nat) (x0 x1 : D) (h : Heap) : textK Try.prog T10c kp_offshootref05_Do n Try.f130 [x0, x1] h =
(thnH (boxH 85 x0 h) fun y0 h1 =>
thnH (boxH 168 x1 h1) fun y2 h3 =>
thnH (allocH 85 [(.v (.string ⟨#[]⟩)), (iD 0), (iD 0)] h3) fun y4 h5 =>
thnH (allocH 164 [(.v (.int .u64 0)), (iD 0), (.v (.string ⟨#[]⟩)), (iD 0), (iD 0)] h5) fun y6 h7 =>
thn (fieldAtH 2 y0) fun y8 =>
thn (loadH none h7 y8) fun y9 =>
thn (binK .int .neq y9 (iD 0)) fun y10 =>
condK y10
(thn (loadH (some 3) h7 y0) fun y11 =>
thn (buildR [(0, 1), (1, 1), (2, 1), (3, 1), (4, 1)] [(.v (.int .u64 0)), (iD 0), (.v (.string ⟨#[]⟩)), (iD 0), (iD 0)] []) fun y12 =>
thnH (setH 3 y4 y11 h7) fun y13 h14 =>
thnH (setH 5 y6 y12 h14) fun y15 h16 =>
thn (loadH (some 3) h16 y4) fun y17 =>
thn (loadH (some 5) h16 y6) fun y18 =>
some (.tup [y17, y18], h16))
(thn (fieldAtH 0 y2) fun y19 =>
thn (loadH none h7 y19) fun y20 =>
thn (binK .int .eql y20 (iD 0)) fun y21 =>
condK y21
(thn (fieldAtH 1 y0) fun y22 =>
thn (loadH none h7 y22) fun y23 =>
thn (fieldAtH 0 y0) fun y24 =>
thn (loadH none h7 y24) fun y25 =>
thn (lenH .str y25) fun y26 =>
thn (binK .int .geq y23 y26) fun y27 =>
condK y27
(thn (loadH (some 3) h7 y0) fun y28 =>
thnH (liftF F_wrong [y28, (iD 2)] h7) fun y29 h30 =>
thn (extractD y29 0) fun y31 =>
thn (extractD y29 1) fun y32 =>
thnH (setH 3 y4 y31 h30) fun y33 h34 =>
thnH (setH 5 y6 y32 h34) fun y35 h36 =>
thn (loadH (some 3) h36 y4) fun y37 =>
thn (loadH (some 5) h36 y6) fun y38 =>
some (.tup [y37, y38], h36))
(thn (fieldAtH 1 y0) fun y39 =>
thn (loadH none h7 y39) fun y40 =>
thn (binK .int .add y40 (iD 1)) fun y41 =>
thn (fieldAtH 1 y0) fun y42 =>
thnH (setH 1 y42 y41 h7) fun y43 h44 =>
thn (loadH (some 3) h44 y0) fun y45 =>
thn (fieldAtH 0 y0) fun y46 =>
thn (loadH none h44 y46) fun y47 =>
thn (fieldAtH 1 y0) fun y48 =>
thn (loadH none h44 y48) fun y49 =>
thn (binK .int .sub y49 (iD 1)) fun y50 =>
thn (idxS y47 y50) fun y51 =>
thn (intOf64 .u64 y51) fun y52 =>
thn (buildR [(0, 1), (1, 1), (2, 1), (3, 1), (4, 1)] [(.v (.int .u64 0)), (iD 0), (.v (.string ⟨#[]⟩)), (iD 0), (iD 0)] [(0, y52)]) fun y53 =>
thnH (setH 3 y4 y45 h44) fun y54 h55 =>
thnH (setH 5 y6 y53 h55) fun y56 h57 =>
apartK y46 y4
(apartK y48 y4
(wholeK y51
(thn (loadH (some 3) h57 y4) fun y58 =>
thn (loadH (some 5) h57 y6) fun y59 =>
some (.tup [y58, y59], h57))))))
(thn (fieldAtH 0 y2) fun y60 =>
thn (loadH none h7 y60) fun y61 =>
thn (binK .int .eql y61 (iD 5)) fun y62 =>
condK y62
(thn (fieldAtH 1 y2) fun y63 =>
thn (loadH none h7 y63) fun y64 =>
thn (binK .int .lss y64 (iD 0)) fun y65 =>
condK y65
(thn (loadH (some 3) h7 y0) fun y66 =>
thnH (liftF F_wrong [y66, (iD 1)] h7) fun y67 h68 =>
thn (extractD y67 0) fun y69 =>
thn (extractD y67 1) fun y70 =>
thnH (setH 3 y4 y69 h68) fun y71 h72 =>
thnH (setH 5 y6 y70 h72) fun y73 h74 =>
thn (loadH (some 3) h74 y4) fun y75 =>
thn (loadH (some 5) h74 y6) fun y76 =>
some (.tup [y75, y76], h74))
(thn (loadH (some 3) h7 y0) fun y77 =>
thn (fieldAtH 1 y0) fun y78 =>
thn (loadH none h7 y78) fun y79 =>
thn (fieldAtH 1 y2) fun y80 =>
thn (loadH none h7 y80) fun y81 =>
thn (intOf64 .u64 y81) fun y82 =>
thnH (liftF F_no [y77, y79, y82] h7) fun y83 h84 =>
thn (extractD y83 0) fun y85 =>
thn (extractD y83 1) fun y86 =>
thnH (setH 3 y4 y85 h84) fun y87 h88 =>
thnH (setH 5 y6 y86 h88) fun y89 h90 =>
thn (loadH (some 3) h90 y4) fun y91 =>
thn (loadH (some 5) h90 y6) fun y92 =>
some (.tup [y91, y92], h90)))
(thn (fieldAtH 0 y0) fun y93 =>
thn (loadH none h7 y93) fun y94 =>
thn (fieldAtH 1 y0) fun y95 =>
thn (loadH none h7 y95) fun y96 =>
thnH (liftF F_RefGet [y94, y96] h7) fun y97 h98 =>
thn (extractD y97 0) fun y99 =>
thn (extractD y97 1) fun y100 =>
thn (extractD y97 2) fun y101 =>
thn (binK .int .neq y101 (iD 0)) fun y102 =>
condK y102
(thn (loadH (some 3) h98 y0) fun y103 =>
thnH (liftF F_wrong [y103, y101] h98) fun y104 h105 =>
thn (extractD y104 0) fun y106 =>
thn (extractD y104 1) fun y107 =>
thnH (setH 3 y4 y106 h105) fun y108 h109 =>
thnH (setH 5 y6 y107 h109) fun y110 h111 =>
thn (loadH (some 3) h111 y4) fun y112 =>
thn (loadH (some 5) h111 y6) fun y113 =>
some (.tup [y112, y113], h111))
(thn (fieldAtH 0 y2) fun y114 =>
thn (loadH none h98 y114) fun y115 =>
thn (binK .int .eql y115 (iD 2)) fun y116 =>
condK y116
(thn (fieldAtH 1 y2) fun y117 =>
thn (loadH none h98 y117) fun y118 =>
thn (binK .int .lss y118 (iD 0)) fun y119 =>
condK y119
(thn (loadH (some 3) h98 y0) fun y120 =>
thnH (liftF F_wrong [y120, (iD 4)] h98) fun y121 h122 =>
thn (extractD y121 0) fun y123 =>
thn (extractD y121 1) fun y124 =>
thnH (setH 3 y4 y123 h122) fun y125 h126 =>
thnH (setH 5 y6 y124 h126) fun y127 h128 =>
thn (loadH (some 3) h128 y4) fun y129 =>
thn (loadH (some 5) h128 y6) fun y130 =>
some (.tup [y129, y130], h128))
(thn (fieldAtH 1 y2) fun y131 =>
thn (loadH none h98 y131) fun y132 =>
thn (intOf64 .u64 y132) fun y133 =>
thn (binK .int .gtr y99 y133) fun y134 =>
condK y134
(thn (loadH (some 3) h98 y0) fun y135 =>
thnH (liftF F_wrong [y135, (iD 4)] h98) fun y136 h137 =>
thn (extractD y136 0) fun y138 =>
thn (extractD y136 1) fun y139 =>
thnH (setH 3 y4 y138 h137) fun y140 h141 =>
thnH (setH 5 y6 y139 h141) fun y142 h143 =>
thn (loadH (some 3) h143 y4) fun y144 =>
thn (loadH (some 5) h143 y6) fun y145 =>
some (.tup [y144, y145], h143))
(thn (fieldAtH 0 y2) fun y146 =>
thn (loadH none h98 y146) fun y147 =>
thn (binK .int .eql y147 (iD 4)) fun y148 =>
condK y148
(thn (loadH (some 3) h98 y0) fun y149 =>
thnH (liftF F_no [y149, y100, y99] h98) fun y150 h151 =>
thn (extractD y150 0) fun y152 =>
thn (extractD y150 1) fun y153 =>
thnH (setH 3 y4 y152 h151) fun y154 h155 =>
thnH (setH 5 y6 y153 h155) fun y156 h157 =>
thn (loadH (some 3) h157 y4) fun y158 =>
thn (loadH (some 5) h157 y6) fun y159 =>
some (.tup [y158, y159], h157))
(thn (fieldAtH 1 y0) fun y160 =>
thnH (setH 1 y160 y100 h98) fun y161 h162 =>
thn (fieldAtH 0 y2) fun y163 =>
thn (loadH none h162 y163) fun y164 =>
thn (binK .int .eql y164 (iD 3)) fun y165 =>
condK y165
(thn (loadH (some 3) h162 y0) fun y166 =>
thnH (liftF F_Zag [y99] h162) fun y167 h168 =>
thn (buildR [(0, 1), (1, 1), (2, 1), (3, 1), (4, 1)] [(.v (.int .u64 0)), (iD 0), (.v (.string ⟨#[]⟩)), (iD 0), (iD 0)] [(1, y167)]) fun y169 =>
thnH (setH 3 y4 y166 h168) fun y170 h171 =>
thnH (setH 5 y6 y169 h171) fun y172 h173 =>
thn (loadH (some 3) h173 y4) fun y174 =>
thn (loadH (some 5) h173 y6) fun y175 =>
some (.tup [y174, y175], h173))
(thn (loadH (some 3) h162 y0) fun y176 =>
thn (buildR [(0, 1), (1, 1), (2, 1), (3, 1), (4, 1)] [(.v (.int .u64 0)), (iD 0), (.v (.string ⟨#[]⟩)), (iD 0), (iD 0)] [(0, y99)]) fun y177 =>
thnH (setH 3 y4 y176 h162) fun y178 h179 =>
thnH (setH 5 y6 y177 h179) fun y180 h181 =>
thn (loadH (some 3) h181 y4) fun y182 =>
thn (loadH (some 5) h181 y6) fun y183 =>
some (.tup [y182, y183], h181))))))
(thn (fieldAtH 0 y2) fun y184 =>
thn (loadH none h98 y184) fun y185 =>
thn (binK .int .eql y185 (iD 4)) fun y186 =>
condK y186
(thn (fieldAtH 1 y2) fun y187 =>
thn (loadH none h98 y187) fun y188 =>
thn (binK .int .lss y188 (iD 0)) fun y189 =>
condK y189
(thn (loadH (some 3) h98 y0) fun y190 =>
thnH (liftF F_wrong [y190, (iD 4)] h98) fun y191 h192 =>
thn (extractD y191 0) fun y193 =>
thn (extractD y191 1) fun y194 =>
thnH (setH 3 y4 y193 h192) fun y195 h196 =>
thnH (setH 5 y6 y194 h196) fun y197 h198 =>
thn (loadH (some 3) h198 y4) fun y199 =>
thn (loadH (some 5) h198 y6) fun y200 =>
some (.tup [y199, y200], h198))
(thn (fieldAtH 1 y2) fun y201 =>
thn (loadH none h98 y201) fun y202 =>
thn (intOf64 .u64 y202) fun y203 =>
thn (binK .int .gtr y99 y203) fun y204 =>
condK y204
(thn (loadH (some 3) h98 y0) fun y205 =>
thnH (liftF F_wrong [y205, (iD 4)] h98) fun y206 h207 =>
thn (extractD y206 0) fun y208 =>
thn (extractD y206 1) fun y209 =>
thnH (setH 3 y4 y208 h207) fun y210 h211 =>
thnH (setH 5 y6 y209 h211) fun y212 h213 =>
thn (loadH (some 3) h213 y4) fun y214 =>
thn (loadH (some 5) h213 y6) fun y215 =>
some (.tup [y214, y215], h213))
(thn (fieldAtH 0 y2) fun y216 =>
thn (loadH none h98 y216) fun y217 =>
thn (binK .int .eql y217 (iD 4)) fun y218 =>
condK y218
(thn (loadH (some 3) h98 y0) fun y219 =>
thnH (liftF F_no [y219, y100, y99] h98) fun y220 h221 =>
thn (extractD y220 0) fun y222 =>
thn (extractD y220 1) fun y223 =>
thnH (setH 3 y4 y222 h221) fun y224 h225 =>
thnH (setH 5 y6 y223 h225) fun y226 h227 =>
thn (loadH (some 3) h227 y4) fun y228 =>
thn (loadH (some 5) h227 y6) fun y229 =>
some (.tup [y228, y229], h227))
(thn (fieldAtH 1 y0) fun y230 =>
thnH (setH 1 y230 y100 h98) fun y231 h232 =>
thn (fieldAtH 0 y2) fun y233 =>
thn (loadH none h232 y233) fun y234 =>
thn (binK .int .eql y234 (iD 3)) fun y235 =>
condK y235
(thn (loadH (some 3) h232 y0) fun y236 =>
thnH (liftF F_Zag [y99] h232) fun y237 h238 =>
thn (buildR [(0, 1), (1, 1), (2, 1), (3, 1), (4, 1)] [(.v (.int .u64 0)), (iD 0), (.v (.string ⟨#[]⟩)), (iD 0), (iD 0)] [(1, y237)]) fun y239 =>
thnH (setH 3 y4 y236 h238) fun y240 h241 =>
thnH (setH 5 y6 y239 h241) fun y242 h243 =>
thn (loadH (some 3) h243 y4) fun y244 =>
thn (loadH (some 5) h243 y6) fun y245 =>
some (.tup [y244, y245], h243))
(thn (loadH (some 3) h232 y0) fun y246 =>
thn (buildR [(0, 1), (1, 1), (2, 1), (3, 1), (4, 1)] [(.v (.int .u64 0)), (iD 0), (.v (.string ⟨#[]⟩)), (iD 0), (iD 0)] [(0, y99)]) fun y247 =>
thnH (setH 3 y4 y246 h232) fun y248 h249 =>
thnH (setH 5 y6 y247 h249) fun y250 h251 =>
thn (loadH (some 3) h251 y4) fun y252 =>
thn (loadH (some 5) h251 y6) fun y253 =>
some (.tup [y252, y253], h251))))))
(thn (fieldAtH 0 y2) fun y254 =>
thn (loadH none h98 y254) fun y255 =>
thn (binK .int .eql y255 (iD 4)) fun y256 =>
condK y256
(thn (loadH (some 3) h98 y0) fun y257 =>
thnH (liftF F_no [y257, y100, y99] h98) fun y258 h259 =>
thn (extractD y258 0) fun y260 =>
thn (extractD y258 1) fun y261 =>
thnH (setH 3 y4 y260 h259) fun y262 h263 =>
thnH (setH 5 y6 y261 h263) fun y264 h265 =>
thn (loadH (some 3) h265 y4) fun y266 =>
thn (loadH (some 5) h265 y6) fun y267 =>
some (.tup [y266, y267], h265))
(thn (fieldAtH 1 y0) fun y268 =>
thnH (setH 1 y268 y100 h98) fun y269 h270 =>
thn (fieldAtH 0 y2) fun y271 =>
thn (loadH none h270 y271) fun y272 =>
thn (binK .int .eql y272 (iD 3)) fun y273 =>
condK y273
(thn (loadH (some 3) h270 y0) fun y274 =>
thnH (liftF F_Zag [y99] h270) fun y275 h276 =>
thn (buildR [(0, 1), (1, 1), (2, 1), (3, 1), (4, 1)] [(.v (.int .u64 0)), (iD 0), (.v (.string ⟨#[]⟩)), (iD 0), (iD 0)] [(1, y275)]) fun y277 =>
thnH (setH 3 y4 y274 h276) fun y278 h279 =>
thnH (setH 5 y6 y277 h279) fun y280 h281 =>
thn (loadH (some 3) h281 y4) fun y282 =>
thn (loadH (some 5) h281 y6) fun y283 =>
some (.tup [y282, y283], h281))
(thn (loadH (some 3) h270 y0) fun y284 =>
thn (buildR [(0, 1), (1, 1), (2, 1), (3, 1), (4, 1)] [(.v (.int .u64 0)), (iD 0), (.v (.string ⟨#[]⟩)), (iD 0), (iD 0)] [(0, y99)]) fun y285 =>
thnH (setH 3 y4 y284 h270) fun y286 h287 =>
thnH (setH 5 y6 y285 h287) fun y288 h289 =>
thn (loadH (some 3) h289 y4) fun y290 =>
thn (loadH (some 5) h289 y6) fun y291 =>
some (.tup [y290, y291], h289)))))))))) := by kernel_rfl

def kp_zigzag_Zig : List Nat := []
theorem sh_zigzag_Zig (n : Nat) (x0 : D) (h : Heap) : textK Try.prog T10c kp_zigzag_Zig n Try.f125 [x0] h =
(thn (buildA 1 [(.v .nilFunc), (.v .nilFunc)] [(0, (.clo (.func 141) [] [])), (1, (.clo (.func 142) [] []))]) fun y0 =>
thnH (allocH 176 [(.v .nilFunc), (.v .nilFunc)] h) fun y1 h2 =>
thnH (setH 2 y1 y0 h2) fun y3 h4 =>
thn (intOf64 .u64 x0) fun y5 =>
thn (binK .int .shr y5 (.v (.int .u64 63))) fun y6 =>
thn (idxA 2 1 y1 y6) fun y7 =>
thn (loadH none h4 y7) fun y8 =>
thn (intOf64 .u64 x0) fun y9 =>
thnH (callClo T10c y8 [y9] h4) fun y10 h11 =>
some (y10, h11)) := by kernel_rfl

end Go.Proofs.Ytalehbmgbjiigaa
end

section
namespace Go.Proofs.Ytalehbmgbjiigaa
open Go.RowKit
set_option linter.unusedVariables false
set_option linter.unusedSimpArgs false

theorem wrong_pure (r : Rdr) (e : Int) (H : Heap) : liftF F_wrong [rdD r, iD e] H = some (.tup [rdD (r.1, r.2.1, e), gotD 0 0], H) := by
  rw [liftF_pure _ _ _ rfl]
  have : F_wrong [rdD r, iD e] = _ := f2_enc (A := rdT) (B := intT) _ r e
  rw [this]; rfl
theorem refGet_pure (s : By) (i : Nat) (hi : i ≤ s.length) (hs : s.length ≤ 3000000) (H : Heap) : liftF F_RefGet [sD s, iD i] H = some (.tup [u64D (refV s i).1, iD (refV s i).2.1, iD (refV s i).2.2], H) := by
  rw [liftF_pure _ _ _ rfl]
  have : F_RefGet [sD s, iD i] = _ := f2_enc (A := strT) (B := intT) _ s (i : Int)
  rw [this, if_pos ⟨by omega, by omega, hs⟩]; rfl
theorem refV_range (s : By) (i : Nat) : 0 ≤ (refV s i).1 ∧ (refV s i).1 ≤ 18446744073709551615 := by
  unfold refV
  split
  · simp
  · split
    · exact val_range _
    · simp
@[simp] theorem box_rd (t : TypeId) (r : Rdr) (H : Heap) : boxH t (rdD r) H = some (.hp H.length 0, H ++ [.cells t 3 [sD r.1, iD r.2.1, iD r.2.2]]) := rfl
@[simp] theorem cells_rd (r : Rdr) : cellsD (rdD r) = some (rdC r) := rfl
@[simp] theorem pure_rdD (r : Rdr) : pureD (rdD r) = true := rfl
@[simp] theorem pure_gotD (a b : Int) : pureD (gotD a b) = true := rfl
theorem agg_rd (s : By) (n e : Int) : D.agg [sD s, iD n, iD e] = rdD (s, n, e) := rfl

theorem sD_nil : D.v (.string ⟨#[]⟩) = sD [] := rfl
def doOk (r : Rdr) (o : Nd) : Bool := decide ((o.1 = 0 ∨ o.1 = 2 ∨ o.1 = 3) ∧ o.2 = 1000000 ∧ 0 ≤ r.2.1 ∧ r.2.1 ≤ r.1.length ∧ r.1.length ≤ 3000000)
def F_Do : List D → Option D := F2 rdT ndT fun r o => if doOk r o = true then
    some (.tup [rdD (r.1, ((doV r.1 (r.2.1.toNat, r.2.2) o.1).2.1 : Int), (doV r.1 (r.2.1.toNat, r.2.2) o.1).2.2), gotD (if o.1 = 3 then 0 else (doV r.1 (r.2.1.toNat, r.2.2) o.1).1) (if o.1 = 3 then (doV r.1 (r.2.1.toNat, r.2.2) o.1).1 else 0)]) else none
set_option maxHeartbeats 4000000 in
theorem C_Do : CallOk Try.prog 130 F_Do := call2 (kp := kp_offshootref05_Do) T10c_ok mixed Try.func130 (by kernel_rfl) (by decide) fun r o d h => by
  split at h
  case isFalse => cases h
  rename_i hc
  cases h
  obtain ⟨s, i, e⟩ := r
  obtain ⟨k, m⟩ := o
  simp only [doOk, decide_eq_true_eq] at hc
  obtain ⟨hk, rfl, h0, h1, hs⟩ := hc
  obtain ⟨i, rfl⟩ := Int.eq_ofNat_of_zero_le h0
  have hi : i ≤ s.length := by omega
  refine ⟨0, _, ?_, Imp.refl _⟩
  show outD (textK _ _ _ _ _ [rdD (s, (i : Int), e), .agg (nodeD (k, 1000000))] []) = _
  rw [sh_offshootref05_Do]
  simp only [Int.toNat_natCast]
  unfold doV
  by_cases he : e = 0
  · subst he
    have hg := refGet_pure s i hi hs
    have hr := refV_range s i
    have hin := refV_in s i
    rcases hk with rfl | rfl | rfl
    · by_cases hl : s.length ≤ i
      · simp [setH, storeH, allocH, newH, hl, wrong_pure, agg_rd, rdC, gotD, show (s.length : Int) ≤ i from by omega]
      · have hx := str_idx s i (by omega)
        have hadd := intD_add (i : Int) 1 (by omega) (by omega)
        have hsub := intD_sub ((i : Int) + 1) 1 (by omega) (by omega)
        have hcast : ((i : Int) + 1) - 1 = i := by omega
        rw [hcast] at hsub
        have hb := s[i]'(by omega) |>.toNat_lt
        have hu : intOf64 .u64 (u8D (s[i]'(by omega))) = some (u64D ((s[i]'(by omega)).toNat : Int)) := u64_of _ _ (by omega) (by omega)
        simp [setH, storeH, allocH, newH, hl, agg_rd, rdC, gotD, show ¬ (s.length : Int) ≤ i from by omega, hadd, hsub, hx, hu, fold_u64, buildR, fillD, sD_nil, List.getElem?_eq_getElem (show i < s.length by omega)]
    · by_cases hE : (refV s i).2.2 = 0
      · have hu : intOf64 .u64 (iD 1000000) = some (u64D 1000000) := u64_of _ _ (by omega) (by omega)
        by_cases hn : 1000000 < (refV s i).1
        · simp [setH, storeH, allocH, newH, agg_rd, rdC, gotD, hg, hE, hu, hn, wrong_pure, fold_u64]
        · simp [setH, storeH, allocH, newH, agg_rd, rdC, gotD, hg, hE, hu, hn, fold_u64, buildR, fillD, sD_nil]
      · simp [setH, storeH, allocH, newH, agg_rd, rdC, gotD, hg, hE, wrong_pure]
    · by_cases hE : (refV s i).2.2 = 0
      · have hz := zag_pure _ hr
        simp [setH, storeH, allocH, newH, agg_rd, rdC, gotD, hg, hE, hz, fold_u64, buildR, fillD, sD_nil]
      · simp [setH, storeH, allocH, newH, agg_rd, rdC, gotD, hg, hE, wrong_pure]
  · simp [he, setH, storeH, allocH, newH, agg_rd, rdC, gotD, fold_u64, buildR, fillD, sD_nil]

theorem C_Zig : CallOk Try.prog 125 F_Zig := call1 (kp := kp_zigzag_Zig) T10c_ok mixed Try.func125 (by kernel_rfl) (by decide) fun n d h => by
  split at h
  case isFalse => cases h
  rename_i hn
  cases h
  refine ⟨0, _, ?_, Imp.refl _⟩
  show outD (textK _ _ _ _ _ [iD n] []) = _
  rw [sh_zigzag_Zig]
  have hsh : ∀ u : Int, 0 ≤ u → binK .int .shr (u64D u) (.v (.int .u64 63)) = some (u64D (u / 9223372036854775808)) := by
    intro u h0
    show shiftD .shr .u64 u 63 = _
    unfold shiftD
    rw [if_neg (by omega)]
    have e : min (Int.toNat 63) IntKind.u64.bits = 63 := by decide
    have e2 : (2 : Int) ^ 63 = 9223372036854775808 := by decide
    simp only [e, e2]
    rw [Int.fdiv_eq_ediv_of_nonneg _ (by omega)]
    rfl
  have hbuild : buildA 1 [.v .nilFunc, .v .nilFunc] [(0, .clo (.func 141) [] []), (1, .clo (.func 142) [] [])] = some (.agg [.clo (.func 141) [] [], .clo (.func 142) [] []]) := rfl
  have hw : intOf64 .u64 (iD n) = some (u64D (IntKind.u64.wrap n)) := rfl
  have hwv : IntKind.u64.wrap n = if 0 ≤ n then n else n + 18446744073709551616 := by
    rw [IntKind.wrap_u64]
    split <;> omega
  have hw0 : 0 ≤ IntKind.u64.wrap n := by rw [hwv]; split <;> omega
  have hs := hsh _ hw0
  have c1 : ∀ (u : Int) (H : Heap), callClo T10c (.clo (.func 141) [] []) [u64D u] H = some (u64D (IntKind.u64.wrap (u * 2)), H) := fun u H => by
    show liftF F_Zig1 [u64D u] H = _
    rw [liftF_pure _ _ _ rfl]
    have : F_Zig1 [u64D u] = _ := f1_enc (A := u64T) _ u
    rw [this]; rfl
  have c2 : ∀ (u : Int) (H : Heap), callClo T10c (.clo (.func 142) [] []) [u64D u] H = some (u64D (18446744073709551615 - IntKind.u64.wrap (u * 2)), H) := fun u H => by
    show liftF F_Zig2 [u64D u] H = _
    rw [liftF_pure _ _ _ rfl]
    have : F_Zig2 [u64D u] = _ := f1_enc (A := u64T) _ u
    rw [this]; rfl
  unfold zigV
  by_cases h0 : 0 ≤ n
  · rw [hwv, if_pos h0] at hs hw
    have hz : n / 9223372036854775808 = 0 := by omega
    rw [hz] at hs
    have e : IntKind.u64.wrap (n * 2) = 2 * n := by rw [IntKind.wrap_u64]; omega
    have hi : ∀ i o, idxA 2 1 (.hp i o) (u64D 0) = some (.hp i o) := fun i o => by simp [idxA, u64D]
    simp [hbuild, allocH, newH, setH, storeH, hw, hs, hi, c1, e, h0]
  · rw [hwv, if_neg h0] at hs hw
    have hz : (n + 18446744073709551616) / 9223372036854775808 = 1 := by omega
    rw [hz] at hs
    have e : 18446744073709551615 - IntKind.u64.wrap ((n + 18446744073709551616) * 2) = -2 * n - 1 := by rw [IntKind.wrap_u64]; omega
    have hi : ∀ i o, idxA 2 1 (.hp i o) (u64D 1) = some (.hp i (o + 1)) := fun i o => by simp [idxA, u64D]
    simp [hbuild, allocH, newH, setH, storeH, hw, hs, hi, c2, e, h0]
def fs10d : List Entry := (130, true, liftF F_Do) :: (125, true, liftF F_Zig) :: fs10c
theorem fs10d_ok : ∀ p ∈ fs10d, EntryOk Try.prog p := entries_cons (entry_lift C_Do) <| entries_cons (entry_lift C_Zig) <| fs10c_ok
def T10d : Tab := ⟨fs10d, noYl⟩
theorem T10d_ok : TabOk Try.prog T10d := tabOk_of fs10d_ok
end Go.Proofs.Ytalehbmgbjiigaa
end

section
namespace Go.Proofs.Ytalehbmgbjiigaa
open Go.RowKit
set_option linter.unusedVariables false
set_option maxRecDepth 100000

def kp_offshootref10_Ask : List Nat := []
theorem sh_offshootref10_Ask (n : Nat) (x0 x1 : D) (h : Heap) : textK Try.prog T10d kp_offshootref10_Ask n Try.f104 [x0, x1] h =
(thnH (boxH 85 x0 h) fun y0 h1 =>
thnH (allocH 85 [(.v (.string ⟨#[]⟩)), (iD 0), (iD 0)] h1) fun y2 h3 =>
thn (loadH (some 3) h3 y0) fun y4 =>
thn (buildR [(0, 1), (1, 1)] [(iD 0), (iD 0)] [(0, x1), (1, (iD 1000000))]) fun y5 =>
thnH (liftF F_Do [y4, y5] h3) fun y6 h7 =>
thn (extractD y6 0) fun y8 =>
thn (extractD y6 1) fun y9 =>
thnH (allocH 85 [(.v (.string ⟨#[]⟩)), (iD 0), (iD 0)] h7) fun y10 h11 =>
thnH (allocH 164 [(.v (.int .u64 0)), (iD 0), (.v (.string ⟨#[]⟩)), (iD 0), (iD 0)] h11) fun y12 h13 =>
thnH (setH 3 y10 y8 h13) fun y14 h15 =>
thnH (setH 5 y12 y9 h15) fun y16 h17 =>
thn (fieldAtH 2 y10) fun y18 =>
thn (loadH none h17 y18) fun y19 =>
thn (binK .int .neq y19 (iD 0)) fun y20 =>
condK y20
(thn (loadH (some 3) h17 y10) fun y21 =>
thnH (setH 3 y2 y21 h17) fun y22 h23 =>
thn (loadH (some 3) h23 y2) fun y24 =>
some (.tup [y24, (iD (-1))], h23))
(thn (binK .int .eql x1 (iD 3)) fun y25 =>
condK y25
(thn (loadH (some 3) h17 y10) fun y26 =>
thn (fieldAtH 1 y12) fun y27 =>
thn (loadH none h17 y27) fun y28 =>
thnH (setH 3 y2 y26 h17) fun y29 h30 =>
apartK y27 y2
(thn (loadH (some 3) h30 y2) fun y31 =>
some (.tup [y31, y28], h30)))
(thn (loadH (some 3) h17 y10) fun y32 =>
thn (fieldAtH 0 y12) fun y33 =>
thn (loadH none h17 y33) fun y34 =>
thn (intOf64 .i64 y34) fun y35 =>
thnH (setH 3 y2 y32 h17) fun y36 h37 =>
apartK y33 y2
(wholeK y34
(thn (loadH (some 3) h37 y2) fun y38 =>
some (.tup [y38, y35], h37)))))) := by kernel_rfl

end Go.Proofs.Ytalehbmgbjiigaa
end

section
namespace Go.Proofs.Ytalehbmgbjiigaa
open Go.RowKit
set_option linter.unusedVariables false
set_option linter.unusedSimpArgs false

theorem do_pure (s : By) (i : Nat) (e k : Int) (h : doOk (s, (i : Int), e) (k, 1000000) = true) (H : Heap) : liftF F_Do [rdD (s, (i : Int), e), .agg (nodeD (k, 1000000))] H =
    some (.tup [rdD (s, ((doV s (i, e) k).2.1 : Int), (doV s (i, e) k).2.2), gotD (if k = 3 then 0 else (doV s (i, e) k).1) (if k = 3 then (doV s (i, e) k).1 else 0)], H) := by
  rw [liftF_pure _ _ _ rfl]
  have : F_Do [rdD (s, (i : Int), e), .agg (nodeD (k, 1000000))] = _ := f2_enc (A := rdT) (B := ndT) _ (s, (i : Int), e) (k, 1000000)
  rw [this, if_pos h]; rfl
theorem doV_small (s : By) (r : Rd) (k : Int) (h : k = 0 ∨ k = 2) (he : (doV s r k).2.2 = 0) : 0 ≤ (doV s r k).1 ∧ (doV s r k).1 ≤ 1000000 := by
  have hr := refV_range s r.1
  unfold doV at he ⊢
  by_cases h0 : r.2 ≠ 0
  · rw [if_pos h0]; simp
  rw [if_neg h0] at he ⊢
  rcases h with rfl | rfl
  · rw [if_pos rfl]
    split
    · simp
    · have := (s.getD r.1 0).toNat_lt
      simp only
      omega
  · rw [if_neg (by omega)] at he ⊢
    split
    · simp
    · split
      · simp
      · rename_i h2
        rw [if_neg (by omega)]
        simp only
        have : ¬ 1000000 < (refV s r.1).1 := fun hh => h2 ⟨rfl, hh⟩
        omega
def F_Ask : List D → Option D := F2 rdT intT fun r k => if doOk r (k, 1000000) = true then
    some (.tup [rdD (r.1, ((askV10 r.1 (r.2.1.toNat, r.2.2) k).2.1 : Int), (askV10 r.1 (r.2.1.toNat, r.2.2) k).2.2), iD (askV10 r.1 (r.2.1.toNat, r.2.2) k).1]) else none
theorem C_Ask : CallOk Try.prog 104 F_Ask := call2 (kp := kp_offshootref10_Ask) T10d_ok mixed Try.func104 (by kernel_rfl) (by decide) fun r k d h => by
  split at h
  case isFalse => cases h
  rename_i hc
  cases h
  obtain ⟨s, i, e⟩ := r
  have hc' := hc
  simp only [doOk, decide_eq_true_eq] at hc'
  obtain ⟨hk, _, h0, h1, hs⟩ := hc'
  obtain ⟨i, rfl⟩ := Int.eq_ofNat_of_zero_le h0
  refine ⟨0, _, ?_, Imp.refl _⟩
  show outD (textK _ _ _ _ _ [rdD (s, (i : Int), e), iD k] []) = _
  rw [sh_offshootref10_Ask]
  have hd := do_pure s i e k hc
  have hsm := doV_small s (i, e) k
  have hb : buildR [(0, 1), (1, 1)] [iD 0, iD 0] [(0, iD k), (1, iD 1000000)] = some (.agg (nodeD (k, 1000000))) := rfl
  simp only [Int.toNat_natCast]
  unfold askV10
  generalize hv : doV s (i, e) k = v at *
  obtain ⟨v, j, f⟩ := v
  by_cases hf : f = 0
  · subst hf
    by_cases h3 : k = 3
    · subst h3
      simp [allocH, newH, setH, storeH, agg_rd, hb, hd, rdC, gotD]
    · have hu : intOf64 .i64 (u64D v) = some (iD v) := by
        have := hsm (by omega) rfl
        simp only at this
        exact i64_of _ _ (by omega) (by omega)
      simp [allocH, newH, setH, storeH, agg_rd, hb, hd, rdC, gotD, h3, hu]
  · simp [allocH, newH, setH, storeH, agg_rd, hb, hd, rdC, gotD, hf]
def fs10e : List Entry := (104, true, liftF F_Ask) :: fs10d
theorem fs10e_ok : ∀ p ∈ fs10e, EntryOk Try.prog p := entries_cons (entry_lift C_Ask) <| fs10d_ok
def T10e : Tab := ⟨fs10e, noYl⟩
theorem T10e_ok : TabOk Try.prog T10e := tabOk_of fs10e_ok
end Go.Proofs.Ytalehbmgbjiigaa
end

section
namespace Go.Proofs.Ytalehbmgbjiigaa
open Go.RowKit
set_option linter.unusedVariables false
abbrev Yl := Nat → List D → Heap → Option (D × Heap)
def T10y (Y : Yl) : Tab := ⟨fs10e, Y⟩
theorem T10y_ok (Y : Yl) (hY : YOk Try.prog Y) : TabOk Try.prog (T10y Y) := ⟨fs10e_ok, hY⟩
end Go.Proofs.Ytalehbmgbjiigaa
end

section
namespace Go.Proofs.Ytalehbmgbjiigaa
open Go.RowKit
set_option linter.unusedVariables false
set_option maxRecDepth 100000
variable (Y : Yl)

def kp_leb_digits_1 : List Nat := [0, 1]
theorem sh_leb_digits_1 (n : Nat) (x0 x1 : D) (h : Heap) : textK Try.prog (T10y Y) kp_leb_digits_1 n Try.f140 [x0, x1] h =
(leaveK (loopF Try.prog (T10y Y) kp_leb_digits_1 n Try.f140 0 [x0, x1] h) (fun j0 s1 h2 =>
condN j0 0
(thn (loadH none h2 (s1.getD 1 .undef)) fun y3 =>
thn (intOf64 .u8 y3) fun y4 =>
thnH (callClo (T10y Y) (s1.getD 0 .undef) [y4] h2) fun y5 h6 =>
some (.tup [], h6))
(none)) (fun s1 h2 =>
some (.tup [], h2))) := by kernel_rfl

theorem st_leb_digits_1_0 (n : Nat) (s0 s1 : D) (h : Heap) : stepF Try.prog (T10y Y) kp_leb_digits_1 n Try.f140 0 [s0, s1] h =
(thn (loadH none h s1) fun y0 =>
thn (binK .int .geq y0 (.v (.int .u64 128))) fun y1 =>
condK y1
(thn (loadH none h s1) fun y2 =>
thn (intOf64 .u8 y2) fun y3 =>
thn (binK .int .or y3 (.v (.int .u8 128))) fun y4 =>
thnH (callClo (T10y Y) s0 [y4] h) fun y5 h6 =>
thn (notD y5) fun y7 =>
condK y7
(some (.ret, [s0, s1], h6))
(thn (loadH none h6 s1) fun y8 =>
thn (binK .int .shr y8 (.v (.int .u64 7))) fun y9 =>
thnH (setH 1 s1 y9 h6) fun y10 h11 =>
some (.normal, [s0, s1], h11)))
(some ((.exit 0), [s0, s1], h))) := by kernel_rfl

end Go.Proofs.Ytalehbmgbjiigaa
end

section
namespace Go.Proofs.Ytalehbmgbjiigaa
open Go.RowKit
set_option linter.unusedVariables false

def G_digits (P : Program) : List D → Heap → Option (D × Heap) := textG P T10b kp_leb_digits 0 124
theorem G_digits_eq (ds : List D) (H : Heap) : G_digits Try.prog ds H = textK Try.prog T10b kp_leb_digits 0 Try.f124 ds H := textG_eq Try.func124 ds H
def G_digits1 (P : Program) (Y : Yl) : List D → Heap → Option (D × Heap) := textG P (T10y Y) kp_leb_digits_1 12 140
theorem G_digits1_eq (Y : Yl) (ds : List D) (H : Heap) : G_digits1 Try.prog Y ds H = textK Try.prog (T10y Y) kp_leb_digits_1 12 Try.f140 ds H := textG_eq Try.func140 ds H
theorem C_digits : HCallOk Try.prog 124 (G_digits Try.prog) := hcall_G T10b_ok mixed Try.func124 (by kernel_rfl) (by decide)
theorem C_digits1 (Y : Yl) (hY : YOk Try.prog Y) : HCallOk Try.prog 140 (G_digits1 Try.prog Y) := hcall_G (T10y_ok Y hY) mixed Try.func140 (by kernel_rfl) (by decide)
def TF (P : Program) (Y : Yl) : Tab := ⟨(124, false, G_digits P) :: (140, false, G_digits1 P Y) :: fs10e, Y⟩
theorem TF_ok (Y : Yl) (hY : YOk Try.prog Y) : TabOk Try.prog (TF Try.prog Y) := ⟨entries_cons (entry_obj C_digits) (entries_cons (entry_obj (C_digits1 Y hY)) fs10e_ok), hY⟩
end Go.Proofs.Ytalehbmgbjiigaa
end

section
namespace Go.Proofs.Ytalehbmgbjiigaa
open Go.RowKit
set_option linter.unusedVariables false
set_option maxRecDepth 100000
variable (Y : Yl)

def kp_leb_Put : List Nat := [3]
theorem sh_leb_Put (n : Nat) (x0 : D) (h : Heap) : textK Try.prog (TF Try.prog Y) kp_leb_Put n Try.f96 [x0] h =
(thnH (allocH 77 [(.v (.slice none 0 0))] h) fun y0 h1 =>
thnH ((G_digits Try.prog) [x0] h1) fun y2 h3 =>
leaveR3 (rangeS (TF Try.prog Y) y2 [7] (rangeA Try.f96 0) (rangeB Try.f96 0) 14 kp_leb_Put [y0] h3) (fun h5 =>
thn (loadH none h5 y0) fun y6 =>
thn (bytesS h5 y6) fun y7 =>
some (y7, h5)) (fun l4 h5 =>
condN l4 0
(thn (loadH none h5 y0) fun y8 =>
thn (bytesS h5 y8) fun y9 =>
some (y9, h5))
(none)) (fun h5 =>
some ((.v (.string ⟨#[]⟩)), h5))) := by kernel_rfl

theorem rd_leb_Put_0 (n id : Nat) (s0 : D) (a0 : D) (h : Heap) : roundB Try.prog (TF Try.prog Y) n id [7] (rangeA Try.f96 0) (rangeB Try.f96 0) 14 kp_leb_Put [s0] [a0] h =
(busyK id h fun h0 =>
thn (loadH none h0 s0) fun y1 =>
thnH (rowH 5 1 1 [(.v (.int .u8 0))] [(0, a0)] h0) fun y2 h3 =>
thnH (appendH 5 1 y1 y2 h3) fun y4 h5 =>
thnH (setH 1 s0 y4 h5) fun y6 h7 =>
endR id .normal h7) := by kernel_rfl

end Go.Proofs.Ytalehbmgbjiigaa
end

section
namespace Go.Proofs.Ytalehbmgbjiigaa
open Go.RowKit
set_option linter.unusedVariables false
set_option linter.unusedSimpArgs false
set_option maxRecDepth 100000

def Y1 (P : Program) : Yl := Yn P (TF P) 0 1
theorem Y1_ok : YOk Try.prog (Y1 Try.prog) := Yn_ok TF_ok mixed 0 1
def loopP (fn : Func) (st : LS) : HO := .loop st [7] (rangeA fn 0) (rangeB fn 0) 14 kp_leb_Put [.hp 0 0]
structure DigInv (H : Heap) (l : By) (m : Int) : Prop where
  len : 3 ≤ H.length
  box : ∃ d, H[0]? = some (.cells 77 1 [d]) ∧ Buf 5 1 H 3 d l.length (bytesC l)
  num : H[1]? = some (.cells 72 1 [u64D m])
  loop : H[2]? = some (loopP Try.f96 .ready)
theorem dig_round (H : Heap) (l : By) (m : Int) (b : UInt8) (h : DigInv H l m) (hl : l.length ≤ 1000) : ∃ H', Y1 Try.prog 2 [u8D b] H = some (bD true, H') ∧ DigInv H' (l ++ [b]) m := by
  obtain ⟨h0, ⟨d, h1, h2⟩, h3, h4⟩ := h
  have hY : Y1 Try.prog 2 [u8D b] H = roundK Try.prog (TF Try.prog noYl) 0 2 [u8D b] H := rfl
  have hk : roundK Try.prog (TF Try.prog noYl) 0 2 [u8D b] H = roundB Try.prog (TF Try.prog noYl) 0 2 [7] (rangeA Try.f96 0) (rangeB Try.f96 0) 14 kp_leb_Put [.hp 0 0] [u8D b] H := by
    unfold roundK
    rw [h4]
    simp only [loopP]
    rw [if_pos]
    refine ⟨rfl, ?_, ?_, ?_, ?_⟩ <;> kernel_rfl
  rw [hY, hk, rd_leb_Put_0]
  have hb : busyK (α := D × Heap) 2 H = fun k => k (H.set 2 (loopP Try.f96 .busy)) := by
    funext k
    unfold busyK
    rw [h4]
    rfl
  rw [hb]
  generalize hH1 : H.set 2 (loopP Try.f96 .busy) = H1
  have g0 : H1[0]? = some (.cells 77 1 [d]) := by rw [← hH1, List.getElem?_set_ne (by omega)]; exact h1
  have g1 : H1[1]? = some (.cells 72 1 [u64D m]) := by rw [← hH1, List.getElem?_set_ne (by omega)]; exact h3
  have g2 : H1[2]? = some (loopP Try.f96 .busy) := by rw [← hH1, List.getElem?_set_self (by omega)]
  have gl : 3 ≤ H1.length := by rw [← hH1]; simpa using h0
  have gb : Buf 5 1 H1 3 d l.length (bytesC l) := by rw [← hH1]; exact h2.set 2 _ (by omega)
  have l0 := load_cell0 H1 0 _ _ _ _ g0
  have r0 := row_one b H1
  generalize hH2 : H1 ++ [HO.cells 5 1 (bytesC [b])] = H2 at r0
  have gb2 : Buf 5 1 H2 3 d l.length (bytesC l) := by rw [← hH2]; exact gb.app _
  have gl2 : H2.length = H1.length + 1 := by rw [← hH2]; simp
  have k2 : ∀ k, k < H1.length → H2[k]? = H1[k]? := fun k hk => by rw [← hH2, List.getElem?_append_left hk]
  have src : srcH 1 H2 (.hs H1.length 1) = some (bytesC [b]) := by
    have : H2[H1.length]? = some (.cells 5 1 (bytesC [b])) := by rw [← hH2]; simp
    simp only [srcH, this]
    rfl
  obtain ⟨d', H3, a1, a2, a3, a4, _⟩ := app_bytes gb2 [b] (by simp; omega) (by omega)
  have ap : appendH 5 1 d (.hs H1.length 1) H2 = some (d', H3) := by unfold appendH; rw [src, Option.bind_some]; exact a1
  have c0 : H3[0]? = some (.cells 77 1 [d]) := by rw [a3.2 0 (by omega), k2 0 (by omega)]; exact g0
  have st := set_cellN H3 0 0 _ _ _ d' c0 (by simp) a2.cells a2.ok
  have hl3 := a3.1
  refine ⟨(H3.set 0 (.cells 77 1 [d'])).set 2 (loopP Try.f96 .ready), ?_, ?_⟩
  · have c2 : (H3.set 0 (.cells 77 1 [d']))[2]? = some (loopP Try.f96 .busy) := by rw [List.getElem?_set_ne (by omega), a3.2 2 (by omega), k2 2 (by omega)]; exact g2
    simp only [l0, thn_some, r0, thnH_some, ap, st, List.set_cons_zero]
    unfold endR
    rw [c2]
    rfl
  · refine ⟨by simp; omega, ⟨d', ?_, ?_⟩, ?_, ?_⟩
    · rw [List.getElem?_set_ne (by omega), List.getElem?_set_self (by omega)]
    · exact (a2.set 0 _ (by omega)).set 2 _ (by omega)
    · rw [List.getElem?_set_ne (by omega), List.getElem?_set_ne (by omega), a3.2 1 (by omega), k2 1 (by omega)]; exact g1
    · rw [List.getElem?_set_self (by simp; omega)]
theorem or128 (m : Int) : binK .int .or (u8D (b8 m)) (.v (.int .u8 128)) = some (u8D (b8 (128 + m % 128))) := by
  have key : ∀ a : Fin 256, (BitVec.ofInt 8 (a.val : Int) ||| BitVec.ofInt 8 128).toNat = 128 + a.val % 128 := by decide +kernel
  have hb := b8_toNat m
  have hlt := (b8 m).toNat_lt
  have := key ⟨(b8 m).toNat, hlt⟩
  rw [u8D, binK_or]
  show some (D.v (.int .u8 (IntKind.u8.wrap (BitVec.ofInt 8 ((b8 m).toNat : Int) ||| BitVec.ofInt 8 128).toNat))) = _
  simp only at this
  rw [this, IntWalk.u8_in _ ⟨by omega, by omega⟩]
  have hb2 := b8_toNat (128 + m % 128)
  unfold u8D
  congr 3
  omega
theorem shr7 (m : Int) : binK .int .shr (u64D m) (.v (.int .u64 7)) = some (u64D (m / 128)) := by
  show shiftD .shr .u64 m 7 = _
  unfold shiftD
  rw [if_neg (by omega)]
  have e : min (Int.toNat 7) IntKind.u64.bits = 7 := by decide
  have e2 : (2 : Int) ^ 7 = 128 := by decide
  simp only [e, e2]
  rw [Int.fdiv_eq_ediv_of_nonneg _ (by omega)]
  rfl
theorem dig_loop : ∀ (f n : Nat) (m : Int) (l : By) (H : Heap), DigInv H l m → 0 ≤ m → m < 128 * 128 ^ f → f < n → l.length + f ≤ 1000 → ∃ m' l' H', iterS (stepF Try.prog (T10y (Y1 Try.prog)) kp_leb_digits_1 12 Try.f140 0) n [.yld 2, .hp 1 0] H = some (.exit 0, [.yld 2, .hp 1 0], H') ∧ DigInv H' l' m' ∧ l'.length ≤ 1000 ∧ l' ++ [b8 m'] = l ++ putF f m := by
  intro f
  have one : ∀ (f n : Nat) (m : Int) (l : By) (H : Heap), DigInv H l m → m < 128 → f < n → l.length + f ≤ 1000 → ∃ m' l' H', iterS (stepF Try.prog (T10y (Y1 Try.prog)) kp_leb_digits_1 12 Try.f140 0) n [.yld 2, .hp 1 0] H = some (.exit 0, [.yld 2, .hp 1 0], H') ∧ DigInv H' l' m' ∧ l'.length ≤ 1000 ∧ l' ++ [b8 m'] = l ++ putF f m := by
    intro f n m l H h hm hn hl
    obtain ⟨n, rfl⟩ : ∃ k, n = k + 1 := ⟨n - 1, by omega⟩
    have l1 := load_cell0 H 1 _ _ _ _ h.num
    have hp : putF f m = [b8 m] := by cases f <;> simp [putF, hm]
    refine ⟨m, l, H, iterS_exit ?_, h, by omega, by rw [hp]⟩
    rw [st_leb_digits_1_0]
    have hg : binK .int .geq (u64D m) (.v (.int .u64 128)) = some (bD (decide (128 ≤ m))) := by rw [u64D, binK_geq]
    simp only [l1, thn_some, hg, condK_bool, decide_eq_true_eq]
    rw [if_neg (by omega)]
  induction f with
  | zero => intro n m l H h h0 h1 hn hl; exact one 0 n m l H h (by simpa using h1) hn hl
  | succ f ih =>
    intro n m l H h h0 h1 hn hl
    by_cases hm : m < 128
    · exact one (f + 1) n m l H h hm hn hl
    · obtain ⟨n, rfl⟩ : ∃ k, n = k + 1 := ⟨n - 1, by omega⟩
      have hp : (128 : Int) ^ (f + 1) = 128 * 128 ^ f := by rw [Int.pow_succ, Int.mul_comm]
      have l1 := load_cell0 H 1 _ _ _ _ h.num
      have hg : binK .int .geq (u64D m) (.v (.int .u64 128)) = some (bD (decide (128 ≤ m))) := by rw [u64D, binK_geq]
      obtain ⟨H1, y1, y2⟩ := dig_round H l m (b8 (128 + m % 128)) h (by omega)
      have l2 := load_cell0 H1 1 _ _ _ _ y2.num
      have st := set_cellN H1 1 0 _ _ _ (u64D (m / 128)) y2.num (by simp) rfl rfl
      have hu := u8_of .u64 m
      have hi : DigInv (H1.set 1 (.cells 72 1 [u64D (m / 128)])) (l ++ [b8 (128 + m % 128)]) (m / 128) := by
        obtain ⟨q0, ⟨d, q1, q2⟩, q3, q4⟩ := y2
        exact ⟨by simpa using q0, ⟨d, by rw [List.getElem?_set_ne (by omega)]; exact q1, q2.set 1 _ (by omega)⟩, by rw [List.getElem?_set_self (by omega)], by rw [List.getElem?_set_ne (by omega)]; exact q4⟩
      have hstep : stepF Try.prog (T10y (Y1 Try.prog)) kp_leb_digits_1 12 Try.f140 0 [.yld 2, .hp 1 0] H = some (.normal, [.yld 2, .hp 1 0], H1.set 1 (.cells 72 1 [u64D (m / 128)])) := by
        rw [st_leb_digits_1_0]
        have hc : callClo (T10y (Y1 Try.prog)) (.yld 2) [u8D (b8 (128 + m % 128))] H = some (bD true, H1) := y1
        simp only [l1, thn_some, hg, condK_bool, decide_eq_true_eq]
        rw [if_pos (by omega)]
        have hu' : intOf64 .u8 (u64D m) = some (u8D (b8 m)) := hu
        simp only [hu', thn_some, or128, hc, thnH_some, notD_bool, Bool.not_true, condK_bool, Bool.false_eq_true, if_false, l2, shr7, st, List.set_cons_zero]
      obtain ⟨m', l', H', z1, z2, z3, z4⟩ := ih n (m / 128) _ _ hi (by omega) (by omega) (by omega) (by simp; omega)
      refine ⟨m', l', H', by rw [iterS_go hstep]; exact z1, z2, z3, ?_⟩
      rw [z4, List.append_assoc]
      congr 1
      simp [putF, hm]
theorem look_digits1 (Y : Yl) (ds : List D) (H : Heap) : look (TF Try.prog Y) 140 ds H = G_digits1 Try.prog Y ds H := rfl
theorem C_LebPut : CallOk Try.prog 96 F_PutN := call1 (kp := kp_leb_Put) (TF_ok (Y1 Try.prog) Y1_ok) mixed Try.func96 (by kernel_rfl) (by decide) fun n d h => by
  split at h
  case isFalse => cases h
  rename_i hn
  cases h
  refine ⟨0, _, ?_, Imp.refl _⟩
  show outD (textK _ _ _ _ _ [u64D n] []) = _
  rw [sh_leb_Put]
  have e1 : allocH 77 [.v (.slice none 0 0)] [] = some (.hp 0 0, [.cells 77 1 [.v (.slice none 0 0)]]) := rfl
  have e2 : G_digits Try.prog [u64D n] [.cells 77 1 [.v (.slice none 0 0)]] = some (.clo (.func 140) [] [.hp 1 0], [.cells 77 1 [.v (.slice none 0 0)], .cells 72 1 [u64D n]]) := by
    rw [G_digits_eq, sh_leb_digits]
    rfl
  have h0 : DigInv [.cells 77 1 [.v (.slice none 0 0)], .cells 72 1 [u64D n], loopP Try.f96 .ready] [] n := ⟨by simp, ⟨_, rfl, Buf.nil _ _ _ _⟩, rfl, rfl⟩
  have hp9 : (128 : Int) ^ 9 = 9223372036854775808 := by decide
  obtain ⟨m', l', H', z1, z2, z3, z4⟩ := dig_loop 9 12 n [] _ h0 hn.1 (by rw [hp9]; omega) (by omega) (by simp)
  obtain ⟨H2, y1, y2⟩ := dig_round H' l' m' (b8 m') z2 z3
  have l1 := load_cell0 H' 1 _ _ _ _ z2.num
  have hu : intOf64 .u8 (u64D m') = some (u8D (b8 m')) := u8_of .u64 m'
  have hc : callClo (T10y (Y1 Try.prog)) (.yld 2) [u8D (b8 m')] H' = some (bD true, H2) := y1
  have e3 : G_digits1 Try.prog (Y1 Try.prog) [.yld 2, .hp 1 0] [.cells 77 1 [.v (.slice none 0 0)], .cells 72 1 [u64D n], loopP Try.f96 .ready] = some (.tup [], H2) := by
    rw [G_digits1_eq, sh_leb_digits_1]
    have z1' : loopF Try.prog (T10y (Y1 Try.prog)) kp_leb_digits_1 12 Try.f140 0 [.yld 2, .hp 1 0] [.cells 77 1 [.v (.slice none 0 0)], .cells 72 1 [u64D n], loopP Try.f96 .ready] = some (.exit 0, [.yld 2, .hp 1 0], H') := z1
    rw [z1']
    simp only [leaveK_exit, condN_same, List.getD_cons_succ, List.getD_cons_zero, l1, thn_some, hu, hc, thnH_some]
  obtain ⟨q0, ⟨d, q1, q2⟩, q3, q4⟩ := y2
  have e4 : rangeS (TF Try.prog (Y1 Try.prog)) (.clo (.func 140) [] [.hp 1 0]) [7] (rangeA Try.f96 0) (rangeB Try.f96 0) 14 kp_leb_Put [.hp 0 0] [.cells 77 1 [.v (.slice none 0 0)], .cells 72 1 [u64D n]] = some (.normal, H2.set 2 .dead) := by
    have e5 : rangeS (TF Try.prog (Y1 Try.prog)) (.clo (.func 140) [] [.hp 1 0]) [7] (rangeA Try.f96 0) (rangeB Try.f96 0) 14 kp_leb_Put [.hp 0 0] [.cells 77 1 [.v (.slice none 0 0)], .cells 72 1 [u64D n]] = leftR (G_digits1 Try.prog (Y1 Try.prog) [.yld 2, .hp 1 0] [.cells 77 1 [.v (.slice none 0 0)], .cells 72 1 [u64D n], loopP Try.f96 .ready]) 2 := rfl
    rw [e5, e3]
    unfold leftR
    simp only [q4]
    rfl
  have w1 : (H2.set 2 HO.dead)[0]? = some (.cells 77 1 [d]) := by rw [List.getElem?_set_ne (by omega)]; exact q1
  have l2 := load_cell0 _ 0 _ _ _ _ w1
  have l3 := (q2.set 2 .dead (by omega)).text
  simp only [List.nil_append] at z4
  rw [e1]
  simp only [thnH_some, e2, e4, leaveR3_normal, l2, thn_some, l3, z4, outD_str]
  rfl
theorem C_ZigPut : True := trivial
end Go.Proofs.Ytalehbmgbjiigaa
end

section
namespace Go.Proofs.Ytalehbmgbjiigaa
open Go.RowKit
set_option linter.unusedVariables false
def fs10i : List Entry := (96, true, liftF F_PutN) :: fs10e
theorem fs10i_ok : ∀ p ∈ fs10i, EntryOk Try.prog p := entries_cons (entry_lift C_LebPut) <| fs10e_ok
def T10i : Tab := ⟨fs10i, noYl⟩
theorem T10i_ok : TabOk Try.prog T10i := tabOk_of fs10i_ok
end Go.Proofs.Ytalehbmgbjiigaa
end

section
namespace Go.Proofs.Ytalehbmgbjiigaa
open Go.RowKit
set_option linter.unusedVariables false
set_option maxRecDepth 100000

def kp_zigzag_Put : List Nat := []
theorem sh_zigzag_Put (n : Nat) (x0 : D) (h : Heap) : textK Try.prog T10i kp_zigzag_Put n Try.f97 [x0] h =
(thnH (liftF F_Zig [x0] h) fun y0 h1 =>
thnH (liftF F_PutN [y0] h1) fun y2 h3 =>
some (y2, h3)) := by kernel_rfl

def kp_wire_Writer__Byte : List Nat := []
theorem sh_wire_Writer__Byte (n : Nat) (x0 x1 : D) (h : Heap) : textK Try.prog T10i kp_wire_Writer__Byte n Try.f56 [x0, x1] h =
(thn (nilD x0) fun y0 =>
thn (fieldAtH 0 y0) fun y1 =>
thn (loadH none h y1) fun y2 =>
thnH (rowH 5 1 1 [(.v (.int .u8 0))] [(0, x1)] h) fun y3 h4 =>
thnH (appendH 5 1 y2 y3 h4) fun y5 h6 =>
thn (nilD x0) fun y7 =>
thn (fieldAtH 0 y7) fun y8 =>
thnH (setH 1 y8 y5 h6) fun y9 h10 =>
some (x0, h10)) := by kernel_rfl

def kp_wire_Writer__Raw : List Nat := []
theorem sh_wire_Writer__Raw (n : Nat) (x0 x1 : D) (h : Heap) : textK Try.prog T10i kp_wire_Writer__Raw n Try.f95 [x0, x1] h =
(thn (nilD x0) fun y0 =>
thn (fieldAtH 0 y0) fun y1 =>
thn (loadH none h y1) fun y2 =>
thnH (appendS 5 1 y2 x1 h) fun y3 h4 =>
thn (nilD x0) fun y5 =>
thn (fieldAtH 0 y5) fun y6 =>
thnH (setH 1 y6 y3 h4) fun y7 h8 =>
some (x0, h8)) := by kernel_rfl

def kp_wire_Writer__Bytes : List Nat := []
theorem sh_wire_Writer__Bytes (n : Nat) (x0 : D) (h : Heap) : textK Try.prog T10i kp_wire_Writer__Bytes n Try.f58 [x0] h =
(thn (nilD x0) fun y0 =>
thn (fieldAtH 0 y0) fun y1 =>
thn (loadH none h y1) fun y2 =>
thn (bytesS h y2) fun y3 =>
some (y3, h)) := by kernel_rfl

def kp_wire_place__End : List Nat := []
def kp_wire_place__move : List Nat := []
theorem sh_wire_place__move (n : Nat) (x0 x1 x2 : D) (h : Heap) : textK Try.prog T10i kp_wire_place__move n Try.f101 [x0, x1, x2] h =
(thn (nilD x0) fun y0 =>
thn (fieldAtH 2 y0) fun y1 =>
thn (loadH none h y1) fun y2 =>
thn (binK .int .eql y2 (iD 0)) fun y3 =>
condK y3
(thn (nilD x0) fun y4 =>
thn (fieldAtH 2 y4) fun y5 =>
thnH (setH 1 y5 x2 h) fun y6 h7 =>
thn (nilD x0) fun y8 =>
thn (fieldAtH 2 y8) fun y9 =>
thn (loadH none h7 y9) fun y10 =>
thn (binK .int .eql y10 (iD 0)) fun y11 =>
condK y11
(thn (nilD x0) fun y12 =>
thn (fieldAtH 1 y12) fun y13 =>
thnH (setH 1 y13 x1 h7) fun y14 h15 =>
thn (nilD x0) fun y16 =>
thn (fieldAtH 2 y16) fun y17 =>
thn (loadH none h15 y17) fun y18 =>
thn (binK .int .eql y18 (iD 0)) fun y19 =>
some (y19, h15))
(thn (nilD x0) fun y20 =>
thn (fieldAtH 2 y20) fun y21 =>
thn (loadH none h7 y21) fun y22 =>
thn (binK .int .eql y22 (iD 0)) fun y23 =>
some (y23, h7)))
(thn (nilD x0) fun y24 =>
thn (fieldAtH 2 y24) fun y25 =>
thn (loadH none h y25) fun y26 =>
thn (binK .int .eql y26 (iD 0)) fun y27 =>
condK y27
(thn (nilD x0) fun y28 =>
thn (fieldAtH 1 y28) fun y29 =>
thnH (setH 1 y29 x1 h) fun y30 h31 =>
thn (nilD x0) fun y32 =>
thn (fieldAtH 2 y32) fun y33 =>
thn (loadH none h31 y33) fun y34 =>
thn (binK .int .eql y34 (iD 0)) fun y35 =>
some (y35, h31))
(thn (nilD x0) fun y36 =>
thn (fieldAtH 2 y36) fun y37 =>
thn (loadH none h y37) fun y38 =>
thn (binK .int .eql y38 (iD 0)) fun y39 =>
some (y39, h)))) := by kernel_rfl

def kp_wire_Reader__count : List Nat := []
theorem sh_wire_Reader__count (n : Nat) (x0 x1 : D) (h : Heap) : textK Try.prog T10i kp_wire_Reader__count n Try.f99 [x0, x1] h =
(thn (nilD x0) fun y0 =>
thn (fieldAtH 0 y0) fun y1 =>
thn (fieldAtH 0 y1) fun y2 =>
thn (loadH none h y2) fun y3 =>
thn (nilD x0) fun y4 =>
thn (fieldAtH 0 y4) fun y5 =>
thn (fieldAtH 1 y5) fun y6 =>
thn (loadH none h y6) fun y7 =>
thnH (liftF F_LebGet [y3, y7] h) fun y8 h9 =>
thn (extractD y8 0) fun y10 =>
thn (extractD y8 1) fun y11 =>
thn (extractD y8 2) fun y12 =>
thn (binK .int .eql y12 (iD 0)) fun y13 =>
condK y13
(thn (binK .int .lss x1 (iD 0)) fun y14 =>
condK y14
(thn (intOf64 .i64 y10) fun y15 =>
some (.tup [y15, y11, (iD 4)], h9))
(thn (intOf64 .u64 x1) fun y16 =>
thn (binK .int .gtr y10 y16) fun y17 =>
condK y17
(thn (intOf64 .i64 y10) fun y18 =>
some (.tup [y18, y11, (iD 4)], h9))
(thn (intOf64 .i64 y10) fun y19 =>
some (.tup [y19, y11, y12], h9))))
(thn (intOf64 .i64 y10) fun y20 =>
some (.tup [y20, y11, y12], h9))) := by kernel_rfl

def kp_wire_Reader__part : List Nat := []
theorem sh_wire_Reader__part (n : Nat) (x0 x1 x2 : D) (h : Heap) : textK Try.prog T10i kp_wire_Reader__part n Try.f128 [x0, x1, x2] h =
(thn (nilD x0) fun y0 =>
thn (fieldAtH 0 y0) fun y1 =>
thn (fieldAtH 0 y1) fun y2 =>
thn (loadH none h y2) fun y3 =>
thn (lenH .str y3) fun y4 =>
thn (binK .int .sub y4 x1) fun y5 =>
thn (binK .int .gtr x2 y5) fun y6 =>
condK y6
(some (.tup [(.v (.string ⟨#[]⟩)), x1, (iD 2)], h))
(thn (nilD x0) fun y7 =>
thn (fieldAtH 0 y7) fun y8 =>
thn (fieldAtH 0 y8) fun y9 =>
thn (loadH none h y9) fun y10 =>
thn (binK .int .add x1 x2) fun y11 =>
thn (cutS y10 (some x1) (some y11)) fun y12 =>
thn (binK .int .add x1 x2) fun y13 =>
some (.tup [y12, y13, (iD 0)], h))) := by kernel_rfl


end Go.Proofs.Ytalehbmgbjiigaa
end

section
namespace Go.Proofs.Ytalehbmgbjiigaa
open Go.RowKit
set_option linter.unusedVariables false
set_option linter.unusedSimpArgs false
set_option maxRecDepth 100000

theorem C_PutZ : CallOk Try.prog 97 F_PutZ := call1 (kp := kp_zigzag_Put) T10i_ok mixed Try.func97 (by kernel_rfl) (by decide) fun n d h => by
  split at h
  case isFalse => cases h
  rename_i hn
  cases h
  refine ⟨0, _, ?_, Imp.refl _⟩
  show outD (textK _ _ _ _ _ [iD n] []) = _
  rw [sh_zigzag_Put]
  simp [zig_pure n hn, putN_pure (zigV n) (zig_in n hn.1 hn.2)]

/- The writer. -/
/-- The writer at w has the bytes l; its row lies at B or behind. -/
def WrAt (H : Heap) (w B : Nat) (l : By) : Prop := w < B ∧ B ≤ H.length ∧ ∃ d, H[w]? = some (.cells 114 1 [d]) ∧ Buf 5 1 H B d l.length (bytesC l)
/-- The object k is not the row of the writer at w. -/
def NotRow (H : Heap) (w k : Nat) : Prop := ∀ t sz q, H[w]? ≠ some (.cells t sz [.hs k q])
/-- All stays, but what stands at w, and its row. -/
def KpW (w : Nat) (H H' : Heap) : Prop := H.length ≤ H'.length ∧ ∀ k, k < H.length → k ≠ w → NotRow H w k → H'[k]? = H[k]? ∧ NotRow H' w k
theorem KpW.refl (w : Nat) (H : Heap) : KpW w H H := ⟨Nat.le_refl _, fun _ _ _ h => ⟨rfl, h⟩⟩
theorem KpW.trans {w : Nat} {H H' H'' : Heap} (h : KpW w H H') (k : KpW w H' H'') : KpW w H H'' := ⟨Nat.le_trans h.1 k.1, fun i hi hw hn => by
  have a := h.2 i hi hw hn
  have b := k.2 i (Nat.lt_of_lt_of_le hi h.1) hw a.2
  exact ⟨b.1.trans a.1, b.2⟩⟩
theorem KpW.app (w : Nat) (H t : Heap) (hw : w < H.length) : KpW w H (H ++ t) := ⟨by simp, fun k hk _ hn => ⟨List.getElem?_append_left hk, fun t sz q => by rw [List.getElem?_append_left hw]; exact hn t sz q⟩⟩
/-- Another object is written. -/
theorem KpW.other {w : Nat} {H H' : Heap} (hl : H.length ≤ H'.length) (hw : H'[w]? = H[w]?) (hk : ∀ k, k < H.length → k ≠ w → NotRow H w k → H'[k]? = H[k]?) : KpW w H H' := ⟨hl, fun k h1 h2 h3 => ⟨hk k h1 h2 h3, fun t sz q => by rw [hw]; exact h3 t sz q⟩⟩
theorem WrAt.lt {H : Heap} {w B : Nat} {l : By} (h : WrAt H w B l) : w < H.length := by have := h.1; have := h.2.1; omega
/-- What lies ahead of the writer's rows is none; nor is what is new. -/
theorem WrAt.notRow {H : Heap} {w B : Nat} {l : By} (h : WrAt H w B l) (k : Nat) (hk : k < B ∨ H.length ≤ k) : NotRow H w k := by
  obtain ⟨h1, h2, d, h3, h4⟩ := h
  intro t sz q e
  rw [h3] at e
  cases e
  have := h4.lt
  omega
theorem KpW.grow {H2 H3 : Heap} {w : Nat} {d d' : D} (hw : H2[w]? = some (.cells 114 1 [d])) (hl : H2.length ≤ H3.length) (a4 : ∀ k, k < H2.length → (∀ q, d ≠ .hs k q) → H3[k]? = H2[k]?) (a5 : d' = d ∨ ∃ q, d' = .hs H2.length q) : KpW w H2 (H3.set w (.cells 114 1 [d'])) := by
  have hwl := (List.getElem?_eq_some_iff.1 hw).1
  refine ⟨by simpa using hl, fun k hk hkw hn => ⟨?_, fun t sz q e => ?_⟩⟩
  · rw [List.getElem?_set_ne (by omega)]
    exact a4 k hk fun q e => hn _ _ q (by rw [hw, e])
  · rw [List.getElem?_set_self (by omega)] at e
    cases e
    rcases a5 with e | ⟨q', e⟩
    · exact hn _ _ q (by rw [hw, ← e])
    · cases e; omega
theorem WrAt.app {H : Heap} {w B : Nat} {l : By} (h : WrAt H w B l) (t : Heap) : WrAt (H ++ t) w B l := by
  obtain ⟨h1, h2, d, h3, h4⟩ := h
  exact ⟨h1, by simp; omega, d, by rw [List.getElem?_append_left (by omega)]; exact h3, h4.app t⟩
/-- Objects that are not the writer's are written. -/
theorem WrAt.keep {H H' : Heap} {w B : Nat} {l : By} (h : WrAt H w B l) (hl : H.length ≤ H'.length) (hk : H'[w]? = H[w]?) (hr : ∀ r m d, H[w]? = some (.cells 114 1 [d]) → d = .hs r m → H'[r]? = H[r]?) : WrAt H' w B l := by
  obtain ⟨h1, h2, d, h3, h4⟩ := h
  exact ⟨h1, by omega, d, hk.trans h3, h4.keep fun r m e => hr r m d h3 e⟩
def G_wByte (P : Program) : List D → Heap → Option (D × Heap) := textG P T10i kp_wire_Writer__Byte 0 56
theorem G_wByte_eq (ds : List D) (H : Heap) : G_wByte Try.prog ds H = textK Try.prog T10i kp_wire_Writer__Byte 0 Try.f56 ds H := textG_eq Try.func56 ds H
theorem C_wByte : HCallOk Try.prog 56 (G_wByte Try.prog) := hcall_G T10i_ok mixed Try.func56 (by kernel_rfl) (by decide)
def G_wRaw (P : Program) : List D → Heap → Option (D × Heap) := textG P T10i kp_wire_Writer__Raw 0 95
theorem G_wRaw_eq (ds : List D) (H : Heap) : G_wRaw Try.prog ds H = textK Try.prog T10i kp_wire_Writer__Raw 0 Try.f95 ds H := textG_eq Try.func95 ds H
theorem C_wRaw : HCallOk Try.prog 95 (G_wRaw Try.prog) := hcall_G T10i_ok mixed Try.func95 (by kernel_rfl) (by decide)
def G_wBytes (P : Program) : List D → Heap → Option (D × Heap) := textG P T10i kp_wire_Writer__Bytes 0 58
theorem G_wBytes_eq (ds : List D) (H : Heap) : G_wBytes Try.prog ds H = textK Try.prog T10i kp_wire_Writer__Bytes 0 Try.f58 ds H := textG_eq Try.func58 ds H
theorem C_wBytes : HCallOk Try.prog 58 (G_wBytes Try.prog) := hcall_G T10i_ok mixed Try.func58 (by kernel_rfl) (by decide)
def G_wNew (P : Program) : List D → Heap → Option (D × Heap) := textG P T10b kp_wire_New 0 54
theorem G_wNew_eq (ds : List D) (H : Heap) : G_wNew Try.prog ds H = textK Try.prog T10b kp_wire_New 0 Try.f54 ds H := textG_eq Try.func54 ds H
theorem C_wNew : HCallOk Try.prog 54 (G_wNew Try.prog) := hcall_G T10b_ok mixed Try.func54 (by kernel_rfl) (by decide)
theorem new_ok' (H : Heap) : G_wNew Try.prog [] H = some (.hp H.length 0, H ++ [.cells 114 1 [.v (.slice none 0 0)]]) := by
  rw [G_wNew_eq, sh_wire_New]
  rfl
theorem wr_new (H : Heap) : WrAt (H ++ [.cells 114 1 [.v (.slice none 0 0)]]) H.length (H.length + 1) [] := ⟨by omega, by simp, _, by simp, Buf.nil _ _ _ _⟩
theorem wByte_ok (H : Heap) (w B : Nat) (l : By) (b : UInt8) (h : WrAt H w B l) (hl : l.length + 1 ≤ 4000000) : ∃ H', G_wByte Try.prog [.hp w 0, u8D b] H = some (.hp w 0, H') ∧ WrAt H' w B (l ++ [b]) ∧ KpW w H H' := by
  obtain ⟨h1, h2, d, h3, h4⟩ := h
  have l0 := load_cell0 H w _ _ _ _ h3
  have r0 := row_one b H
  have src : srcH 1 (H ++ [HO.cells 5 1 (bytesC [b])]) (.hs H.length 1) = some (bytesC [b]) := by
    have : (H ++ [HO.cells 5 1 (bytesC [b])])[H.length]? = some (.cells 5 1 (bytesC [b])) := by simp
    simp only [srcH, this]
    rfl
  obtain ⟨d', H3, a1, a2, a3, a4, a5⟩ := app_bytes (h4.app [HO.cells 5 1 (bytesC [b])]) [b] (by simpa using hl) (by simp; omega)
  have ap : appendH 5 1 d (.hs H.length 1) (H ++ [HO.cells 5 1 (bytesC [b])]) = some (d', H3) := by unfold appendH; rw [src, Option.bind_some]; exact a1
  have c0 : H3[w]? = some (.cells 114 1 [d]) := by rw [a3.2 w h1, List.getElem?_append_left (by omega)]; exact h3
  have st := set_cellN H3 w 0 _ _ _ d' c0 (by simp) a2.cells a2.ok
  have hl3 := a3.1
  simp only [List.length_append, List.length_singleton] at hl3
  refine ⟨H3.set w (.cells 114 1 [d']), ?_, ⟨h1, by simp; omega, d', by rw [List.getElem?_set_self (by omega)], a2.set w _ h1⟩, (KpW.app w H _ (by omega)).trans (KpW.grow (by rw [List.getElem?_append_left (by omega)]; exact h3) a3.1 a4 a5)⟩
  rw [G_wByte_eq, sh_wire_Writer__Byte]
  simp only [nilD_hp, thn_some, fieldAt_hp, Nat.add_zero, l0, r0, thnH_some, ap, st, List.set_cons_zero]
theorem wRaw_ok (H : Heap) (w B : Nat) (l m : By) (h : WrAt H w B l) (hl : l.length + m.length ≤ 4000000) : ∃ H', G_wRaw Try.prog [.hp w 0, sD m] H = some (.hp w 0, H') ∧ WrAt H' w B (l ++ m) ∧ KpW w H H' := by
  obtain ⟨h1, h2, d, h3, h4⟩ := h
  have l0 := load_cell0 H w _ _ _ _ h3
  obtain ⟨d', H3, a1, a2, a3, a4, a5⟩ := app_bytes h4 m hl h2
  have ap : appendS 5 1 d (sD m) H = some (d', H3) := by rw [appendS_eq]; exact a1
  have c0 : H3[w]? = some (.cells 114 1 [d]) := by rw [a3.2 w h1]; exact h3
  have st := set_cellN H3 w 0 _ _ _ d' c0 (by simp) a2.cells a2.ok
  have hl3 := a3.1
  refine ⟨H3.set w (.cells 114 1 [d']), ?_, ⟨h1, by simp; omega, d', by rw [List.getElem?_set_self (by omega)], a2.set w _ h1⟩, KpW.grow h3 a3.1 a4 a5⟩
  rw [G_wRaw_eq, sh_wire_Writer__Raw]
  simp only [nilD_hp, thn_some, fieldAt_hp, Nat.add_zero, l0, thnH_some, ap, st, List.set_cons_zero]
theorem wBytes_ok (H : Heap) (w B : Nat) (l : By) (h : WrAt H w B l) : G_wBytes Try.prog [.hp w 0] H = some (sD l, H) := by
  obtain ⟨h1, h2, d, h3, h4⟩ := h
  have l0 := load_cell0 H w _ _ _ _ h3
  rw [G_wBytes_eq, sh_wire_Writer__Bytes]
  simp only [nilD_hp, thn_some, fieldAt_hp, Nat.add_zero, l0, h4.text]

/- The reader. -/
def rdO (s : By) (r : Rd) : HO := .cells 120 3 [sD s, iD r.1, iD r.2]
def G_rOf (P : Program) : List D → Heap → Option (D × Heap) := textG P T10b kp_wire_Of 0 62
theorem G_rOf_eq (ds : List D) (H : Heap) : G_rOf Try.prog ds H = textK Try.prog T10b kp_wire_Of 0 Try.f62 ds H := textG_eq Try.func62 ds H
theorem C_rOf : HCallOk Try.prog 62 (G_rOf Try.prog) := hcall_G T10b_ok mixed Try.func62 (by kernel_rfl) (by decide)
theorem rOf_ok (s : By) (H : Heap) : G_rOf Try.prog [sD s] H = some (.hp H.length 0, H ++ [rdO s (0, 0)]) := by
  rw [G_rOf_eq, sh_wire_Of]
  rfl
theorem rd_load (s : By) (r : Rd) (H : Heap) (i : Nat) (h : H[i]? = some (rdO s r)) : loadH none H (.hp i 0) = some (sD s) ∧ loadH none H (.hp i 1) = some (iD r.1) ∧ loadH none H (.hp i 2) = some (iD r.2) :=
  ⟨load_cellN H i 0 _ _ _ _ h rfl, load_cellN H i 1 _ _ _ _ h rfl, load_cellN H i 2 _ _ _ _ h rfl⟩
def G_rMove (P : Program) : List D → Heap → Option (D × Heap) := textG P T10i kp_wire_place__move 0 101
theorem G_rMove_eq (ds : List D) (H : Heap) : G_rMove Try.prog ds H = textK Try.prog T10i kp_wire_place__move 0 Try.f101 ds H := textG_eq Try.func101 ds H
theorem C_rMove : HCallOk Try.prog 101 (G_rMove Try.prog) := hcall_G T10i_ok mixed Try.func101 (by kernel_rfl) (by decide)
theorem set_same {α : Type} (H : List α) (i : Nat) (o : α) (h : H[i]? = some o) : H.set i o = H := by
  apply List.ext_getElem?
  intro j
  by_cases e : i = j
  · subst e
    rw [List.getElem?_set_self (List.getElem?_eq_some_iff.1 h).1, h]
  · rw [List.getElem?_set_ne e]
theorem rMove_ok (s : By) (r : Rd) (H : Heap) (i : Nat) (h : H[i]? = some (rdO s r)) (to : Nat) (e : Int) : G_rMove Try.prog [.hp i 0, iD to, iD e] H = some (bD (decide ((moveV r to e).2 = 0)), H.set i (rdO s (moveV r to e))) := by
  obtain ⟨l0, l1, l2⟩ := rd_load s r H i h
  have hi := (List.getElem?_eq_some_iff.1 h).1
  unfold moveV
  rw [G_rMove_eq, sh_wire_place__move]
  by_cases he : r.2 = 0
  · have s1 := set_cellN H i 2 _ _ _ (iD e) h (by simp) rfl rfl
    have e1 : ([sD s, iD r.1, iD r.2] : List D).set 2 (iD e) = [sD s, iD r.1, iD e] := rfl
    rw [e1] at s1
    have g1 : (H.set i (.cells 120 3 [sD s, iD r.1, iD e]))[i]? = some (rdO s (r.1, e)) := by rw [List.getElem?_set_self hi]; rfl
    obtain ⟨m0, m1, m2⟩ := rd_load s (r.1, e) _ i g1
    by_cases hz : e = 0
    · subst hz
      have s2 := set_cellN _ i 1 _ _ _ (iD to) g1 (by simp) rfl rfl
      have e2 : ([sD s, iD (r.1, (0 : Int)).1, iD (r.1, (0 : Int)).2] : List D).set 1 (iD to) = [sD s, iD to, iD 0] := rfl
      rw [e2, List.set_set] at s2
      have g2 : (H.set i (.cells 120 3 [sD s, iD to, iD 0]))[i]? = some (rdO s (to, 0)) := by rw [List.getElem?_set_self hi]; rfl
      obtain ⟨n0, n1, n2⟩ := rd_load s (to, 0) _ i g2
      simp only at n2 m2
      simp [-loadH_hp, l2, he, s1, m2, s2, n2]
      rfl
    · simp only at m2
      simp [-loadH_hp, l2, he, s1, m2, hz]
      rfl
  · have e1 : H.set i (rdO s r) = H := set_same H i _ h
    simp [-loadH_hp, l2, he, e1]
def G_rcount (P : Program) : List D → Heap → Option (D × Heap) := textG P T10i kp_wire_Reader__count 0 99
theorem G_rcount_eq (ds : List D) (H : Heap) : G_rcount Try.prog ds H = textK Try.prog T10i kp_wire_Reader__count 0 Try.f99 ds H := textG_eq Try.func99 ds H
theorem C_rcount : HCallOk Try.prog 99 (G_rcount Try.prog) := hcall_G T10i_ok mixed Try.func99 (by kernel_rfl) (by decide)
theorem rcount_ok (s : By) (r : Rd) (H : Heap) (i : Nat) (h : H[i]? = some (rdO s r)) (hr : r.1 ≤ s.length) (hs : s.length ≤ 3000000) (most : Int) (hm : 0 ≤ most) (hm2 : most ≤ 1000000) :
    G_rcount Try.prog [.hp i 0, iD most] H = some (.tup [iD (IntKind.i64.wrap (lebV s r.1).1), iD (lebV s r.1).2.1, iD (cntE (lebV s r.1) most)], H) := by
  obtain ⟨l0, l1, l2⟩ := rd_load s r H i h
  have hg := lebGet_pure s (r.1 : Int) hs
  rw [if_pos ⟨by omega, by omega⟩] at hg
  simp only [Int.toNat_natCast] at hg
  have hw : intOf64 .i64 (u64D (lebV s r.1).1) = some (iD (IntKind.i64.wrap (lebV s r.1).1)) := rfl
  have hu : intOf64 .u64 (iD most) = some (u64D most) := u64_of _ _ hm (by omega)
  have hm3 : ¬ most < 0 := by omega
  unfold cntE
  rw [G_rcount_eq, sh_wire_Reader__count]
  by_cases he : (lebV s r.1).2.2 = 0
  · by_cases hn : most < (lebV s r.1).1
    · simp [-loadH_hp, l0, l1, hg, hw, hu, hm3, he, hn]
    · simp [-loadH_hp, l0, l1, hg, hw, hu, hm3, he, hn]
  · simp [-loadH_hp, l0, l1, hg, hw, hu, hm3, he]
def G_rPart (P : Program) : List D → Heap → Option (D × Heap) := textG P T10i kp_wire_Reader__part 0 128
theorem G_rPart_eq (ds : List D) (H : Heap) : G_rPart Try.prog ds H = textK Try.prog T10i kp_wire_Reader__part 0 Try.f128 ds H := textG_eq Try.func128 ds H
theorem C_rPart : HCallOk Try.prog 128 (G_rPart Try.prog) := hcall_G T10i_ok mixed Try.func128 (by kernel_rfl) (by decide)
theorem rPart_ok (s : By) (r : Rd) (H : Heap) (i : Nat) (h : H[i]? = some (rdO s r)) (a n : Nat) (ha : a ≤ s.length) (hs : s.length ≤ 3000000) (hn : n ≤ 3000000) :
    G_rPart Try.prog [.hp i 0, iD a, iD n] H = some (if s.length - a < n then .tup [sD [], iD a, iD 2] else .tup [sD ((s.drop a).take n), iD (a + n : Nat), iD 0], H) := by
  obtain ⟨l0, l1, l2⟩ := rd_load s r H i h
  have e1 := intD_sub (s.length : Int) (a : Int) (by omega) (by omega)
  have e2 := intD_add (a : Int) (n : Int) (by omega) (by omega)
  rw [G_rPart_eq, sh_wire_Reader__part]
  by_cases hn' : s.length - a < n
  · have e3 : (s.length : Int) - a < n := by omega
    simp [-loadH_hp, l0, e1, e3, hn', sD_nil]
  · have e3 : ¬ (s.length : Int) - a < n := by omega
    have hc := str_cut s a (a + n) (by omega) (by omega)
    have e4 : ((s.take (a + n)).drop a) = (s.drop a).take n := by rw [List.drop_take]; congr 1; omega
    rw [e4, Int.natCast_add] at hc
    simp [-loadH_hp, l0, e1, e3, hn', e2, hc]
def fs10j (P : Program) : List Entry := (97, true, liftF F_PutZ) :: (56, false, G_wByte P) :: (95, false, G_wRaw P) :: (58, false, G_wBytes P) :: (54, false, G_wNew P) :: (62, false, G_rOf P) :: (101, false, G_rMove P) :: (99, false, G_rcount P) :: (128, false, G_rPart P) :: fs10i
theorem fs10j_ok : ∀ p ∈ fs10j Try.prog, EntryOk Try.prog p := entries_cons (entry_lift C_PutZ) <| entries_cons (entry_obj C_wByte) <| entries_cons (entry_obj C_wRaw) <| entries_cons (entry_obj C_wBytes) <| entries_cons (entry_obj C_wNew) <| entries_cons (entry_obj C_rOf) <| entries_cons (entry_obj C_rMove) <| entries_cons (entry_obj C_rcount) <| entries_cons (entry_obj C_rPart) <| fs10i_ok
def T10j (P : Program) : Tab := ⟨fs10j P, noYl⟩
theorem T10j_ok : TabOk Try.prog (T10j Try.prog) := tabOk_of fs10j_ok
end Go.Proofs.Ytalehbmgbjiigaa
end

section
namespace Go.Proofs.Ytalehbmgbjiigaa
open Go.RowKit
set_option linter.unusedVariables false
set_option maxRecDepth 100000

def kp_wire_Writer__Num : List Nat := []
theorem sh_wire_Writer__Num (n : Nat) (x0 x1 : D) (h : Heap) : textK Try.prog (T10j Try.prog) kp_wire_Writer__Num n Try.f55 [x0, x1] h =
(thnH (liftF F_PutN [x1] h) fun y0 h1 =>
thnH ((G_wRaw Try.prog) [x0, y0] h1) fun y2 h3 =>
some (y2, h3)) := by kernel_rfl

def kp_wire_Writer__Int : List Nat := []
theorem sh_wire_Writer__Int (n : Nat) (x0 x1 : D) (h : Heap) : textK Try.prog (T10j Try.prog) kp_wire_Writer__Int n Try.f57 [x0, x1] h =
(thnH (liftF F_PutZ [x1] h) fun y0 h1 =>
thnH ((G_wRaw Try.prog) [x0, y0] h1) fun y2 h3 =>
some (y2, h3)) := by kernel_rfl

def kp_wire_took_int_ : List Nat := []
theorem sh_wire_took_int_ (n : Nat) (x0 x1 x2 x3 : D) (h : Heap) : textK Try.prog (T10j Try.prog) kp_wire_took_int_ n Try.f100 [x0, x1, x2, x3] h =
(thnH (callClo (T10j Try.prog) x0 [x2, x3] h) fun y0 h1 =>
condK y0
(some (x1, h1))
(some ((iD 0), h1))) := by kernel_rfl

def kp_wire_took_string_ : List Nat := []
theorem sh_wire_took_string_ (n : Nat) (x0 x1 x2 x3 : D) (h : Heap) : textK Try.prog (T10j Try.prog) kp_wire_took_string_ n Try.f127 [x0, x1, x2, x3] h =
(thnH (callClo (T10j Try.prog) x0 [x2, x3] h) fun y0 h1 =>
condK y0
(some (x1, h1))
(some ((.v (.string ⟨#[]⟩)), h1))) := by kernel_rfl

end Go.Proofs.Ytalehbmgbjiigaa
end
