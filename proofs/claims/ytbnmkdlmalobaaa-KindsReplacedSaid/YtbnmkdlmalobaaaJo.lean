/-
  Parts joined into one text: ShL09, Law09, Walk09. No condition.
-/
import Derived.Test.YtbnmkdlmalobaaaJn

section
namespace Go.Proofs.Ytbnmkdlmalobaaa
open Go.RowKit
set_option linter.unusedVariables false
set_option maxRecDepth 100000

def kp_offshootlaw09_KindsChecks : List Nat := []
theorem sh_offshootlaw09_KindsChecks (n : Nat) (x0 x1 x2 : D) (h : Heap) : textK Try.prog L09 kp_offshootlaw09_KindsChecks n Try.f3 [x0, x1, x2] h =
(thnH (boxH 25 x0 h) fun y0 h1 =>
thnH (boxH 25 x1 h1) fun y2 h3 =>
thnH (liftF F_true [] h3) fun y4 h5 =>
thn (notD y4) fun y6 =>
condK y6
(some ((bD false), h5))
(thn (loadH (some 3) h5 y0) fun y7 =>
thnH (liftF F_Few [y7] h5) fun y8 h9 =>
condK y8
(thn (loadH (some 3) h9 y2) fun y10 =>
thnH (liftF F_Few [y10] h9) fun y11 h12 =>
thn (notD y11) fun y13 =>
condK y13
(some (y4, h12))
(thn (loadH (some 3) h12 y0) fun y14 =>
thn (loadH (some 3) h12 y2) fun y15 =>
thnH (liftF F_Same9 [y14, y15] h12) fun y16 h17 =>
condK y4
(thn (loadH (some 3) h17 y0) fun y18 =>
thnH (liftF F_Check9 [y18] h17) fun y19 h20 =>
thn (loadH (some 3) h20 y0) fun y21 =>
thnH (liftF F_Check9 [y21] h20) fun y22 h23 =>
thn (binK .int .eql y19 y22) fun y24 =>
condK y24
(thn (loadH (some 3) h23 y0) fun y25 =>
thnH (liftF F_Vars [y25] h23) fun y26 h27 =>
thn (loadH (some 3) h27 y0) fun y28 =>
thnH (liftF F_Vars [y28] h27) fun y29 h30 =>
thn (binK .int .eql y26 y29) fun y31 =>
condK y31
(thnH (liftF F_Size [x2] h30) fun y32 h33 =>
thnH (liftF F_Size [x2] h33) fun y34 h35 =>
thn (binK .int .eql y32 y34) fun y36 =>
condK y36
(thn (loadH (some 3) h35 y0) fun y37 =>
thn (loadH (some 3) h35 y2) fun y38 =>
thnH (liftF F_Same9 [y37, y38] h35) fun y39 h40 =>
thn (binK .bool .eql y39 y16) fun y41 =>
some (y41, h40))
(some ((bD false), h35)))
(some ((bD false), h30)))
(some ((bD false), h23)))
(some ((bD false), h17))))
(thn (notD (bD false)) fun y42 =>
condK y42
(some (y4, h9))
(thn (loadH (some 3) h9 y0) fun y43 =>
thn (loadH (some 3) h9 y2) fun y44 =>
thnH (liftF F_Same9 [y43, y44] h9) fun y45 h46 =>
condK y4
(thn (loadH (some 3) h46 y0) fun y47 =>
thnH (liftF F_Check9 [y47] h46) fun y48 h49 =>
thn (loadH (some 3) h49 y0) fun y50 =>
thnH (liftF F_Check9 [y50] h49) fun y51 h52 =>
thn (binK .int .eql y48 y51) fun y53 =>
condK y53
(thn (loadH (some 3) h52 y0) fun y54 =>
thnH (liftF F_Vars [y54] h52) fun y55 h56 =>
thn (loadH (some 3) h56 y0) fun y57 =>
thnH (liftF F_Vars [y57] h56) fun y58 h59 =>
thn (binK .int .eql y55 y58) fun y60 =>
condK y60
(thnH (liftF F_Size [x2] h59) fun y61 h62 =>
thnH (liftF F_Size [x2] h62) fun y63 h64 =>
thn (binK .int .eql y61 y63) fun y65 =>
condK y65
(thn (loadH (some 3) h64 y0) fun y66 =>
thn (loadH (some 3) h64 y2) fun y67 =>
thnH (liftF F_Same9 [y66, y67] h64) fun y68 h69 =>
thn (binK .bool .eql y68 y45) fun y70 =>
some (y70, h69))
(some ((bD false), h64)))
(some ((bD false), h59)))
(some ((bD false), h52)))
(some ((bD false), h46)))))) := by kernel_rfl

def kp_offshootlaw09_KindsOf : List Nat := []
theorem sh_offshootlaw09_KindsOf (n : Nat) (x0 x1 : D) (h : Heap) : textK Try.prog L09 kp_offshootlaw09_KindsOf n Try.f4 [x0, x1] h =
(thnH (boxH 25 x0 h) fun y0 h1 =>
thnH (liftF F_true [] h1) fun y2 h3 =>
thn (notD y2) fun y4 =>
condK y4
(some ((bD false), h3))
(thn (loadH (some 3) h3 y0) fun y5 =>
thnH (liftF F_Few [y5] h3) fun y6 h7 =>
thn (notD y6) fun y8 =>
condK y8
(some (y2, h7))
(condK y2
(thn (loadH (some 3) h7 y0) fun y9 =>
thnH (liftF F_Of9 [y9, x1] h7) fun y10 h11 =>
thn (loadH (some 3) h11 y0) fun y12 =>
thnH (liftF F_Of9 [y12, x1] h11) fun y13 h14 =>
thn (binK .int .eql y10 y13) fun y15 =>
some (y15, h14))
(some ((bD false), h7))))) := by kernel_rfl

def kp_offshootlaw09_KindsBelow : List Nat := [1, 2, 4, 5, 7, 8, 9]
theorem sh_offshootlaw09_KindsBelow (n : Nat) (x0 x1 : D) (h : Heap) : textK Try.prog L09 kp_offshootlaw09_KindsBelow n Try.f6 [x0, x1] h =
(thnH (boxH 25 x0 h) fun y0 h1 =>
thnH (liftF F_true [] h1) fun y2 h3 =>
thn (notD y2) fun y4 =>
condK y4
(some ((bD false), h3))
(thn (loadH (some 3) h3 y0) fun y5 =>
thnH (liftF F_Few [y5] h3) fun y6 h7 =>
thn (notD y6) fun y8 =>
condK y8
(some (y2, h7))
(thn (loadH (some 3) h7 y0) fun y9 =>
thnH (liftF F_Check9 [y9] h7) fun y10 h11 =>
thn (binK .int .neq y10 (iD 0)) fun y12 =>
condK y12
(some (y2, h11))
(thn (binK .int .lss x1 (iD 0)) fun y13 =>
condK y13
(some (y2, h11))
(thn (fieldAtH 2 y0) fun y14 =>
thn (loadH none h11 y14) fun y15 =>
thn (lenH .sl y15) fun y16 =>
thn (binK .int .geq x1 y16) fun y17 =>
condK y17
(some (y2, h11))
(thn (loadH (some 3) h11 y0) fun y18 =>
thnH (liftF F_Of9 [y18, x1] h11) fun y19 h20 =>
thn (fieldAtH 2 y0) fun y21 =>
thn (loadH none h20 y21) fun y22 =>
thnH (liftF F_Kids [y22, x1] h20) fun y23 h24 =>
leaveK (loopF Try.prog L09 kp_offshootlaw09_KindsBelow n Try.f6 0 [x1, y0, (bD false), y2, y19, y23, (iD 0)] h24) (fun j25 s26 h27 =>
condN j25 0
(thn (fieldAtH 0 (s26.getD 1 .undef)) fun y28 =>
thn (loadH none h27 y28) fun y29 =>
thn (fieldAtH 1 (s26.getD 1 .undef)) fun y30 =>
thn (loadH none h27 y30) fun y31 =>
thn (fieldAtH 2 (s26.getD 1 .undef)) fun y32 =>
thn (loadH none h27 y32) fun y33 =>
thnH (liftF F_Part [y33, (s26.getD 0 .undef)] h27) fun y34 h35 =>
thn (buildR [(0, 1), (1, 1), (2, 1)] [(iD 0), (.v (.slice none 0 0)), (.v (.slice none 0 0))] [(0, y29), (1, y31), (2, y34)]) fun y36 =>
thnH (liftF F_Of9 [y36, (iD 0)] h35) fun y37 h38 =>
condK (s26.getD 3 .undef)
(thn (binK .int .geq (s26.getD 4 .undef) (iD 0)) fun y39 =>
condK y39
(thn (binK .int .leq (s26.getD 4 .undef) (iD 2)) fun y40 =>
condK y40
(thn (binK .int .eql y37 (s26.getD 4 .undef)) fun y41 =>
some (y41, h38))
(some ((bD false), h38)))
(some ((bD false), h38)))
(some ((bD false), h38)))
(none)) (fun s26 h27 =>
some ((s26.getD 2 .undef), h27)))))))) := by kernel_rfl

theorem st_offshootlaw09_KindsBelow_0 (n : Nat) (s0 s1 s2 s3 s4 s5 s6 : D) (h : Heap) : stepF Try.prog L09 kp_offshootlaw09_KindsBelow n Try.f6 0 [s0, s1, s2, s3, s4, s5, s6] h =
(thn (lenH .sl s5) fun y0 =>
thn (binK .int .lss s6 y0) fun y1 =>
condK y1
(thn (loadH (some 3) h s1) fun y2 =>
thn (idxH 1 s5 s6) fun y3 =>
thn (loadH none h y3) fun y4 =>
thnH (liftF F_Of9 [y2, y4] h) fun y5 h6 =>
thn (binK .int .lss y5 (iD 0)) fun y7 =>
condK y7
(some (.ret, [s0, s1, (bD false), s3, s4, s5, s6], h6))
(thn (binK .int .add s6 (iD 1)) fun y8 =>
some (.normal, [s0, s1, s2, s3, s4, s5, y8], h6)))
(some ((.exit 0), [s0, s1, s2, s3, s4, s5, s6], h))) := by kernel_rfl

def kp_offshootlaw09_KindsPart : List Nat := []
theorem sh_offshootlaw09_KindsPart (n : Nat) (x0 x1 : D) (h : Heap) : textK Try.prog L09 kp_offshootlaw09_KindsPart n Try.f8 [x0, x1] h =
(thnH (boxH 25 x0 h) fun y0 h1 =>
thnH (liftF F_true [] h1) fun y2 h3 =>
thn (notD y2) fun y4 =>
condK y4
(some ((bD false), h3))
(thn (loadH (some 3) h3 y0) fun y5 =>
thnH (liftF F_Few [y5] h3) fun y6 h7 =>
thn (notD y6) fun y8 =>
condK y8
(condK y2
(thn (notD y6) fun y9 =>
condK y9
(some ((bD true), h7))
(thn (loadH (some 3) h7 y0) fun y10 =>
thnH (liftF F_Of9 [y10, x1] h7) fun y11 h12 =>
thn (binK .int .eql y11 (iD (-1))) fun y13 =>
some (y13, h12)))
(some ((bD false), h7)))
(thn (fieldAtH 2 y0) fun y14 =>
thn (loadH none h7 y14) fun y15 =>
thnH (liftF F_End [y15, x1] h7) fun y16 h17 =>
thn (binK .int .lss y16 (iD 0)) fun y18 =>
condK y18
(condK y2
(thn (notD y6) fun y19 =>
condK y19
(some ((bD true), h17))
(thn (loadH (some 3) h17 y0) fun y20 =>
thnH (liftF F_Of9 [y20, x1] h17) fun y21 h22 =>
thn (binK .int .eql y21 (iD (-1))) fun y23 =>
some (y23, h22)))
(some ((bD false), h17)))
(condK y2
(thn (loadH (some 3) h17 y0) fun y24 =>
thnH (liftF F_Of9 [y24, x1] h17) fun y25 h26 =>
thn (fieldAtH 1 y0) fun y27 =>
thn (loadH none h26 y27) fun y28 =>
thn (fieldAtH 2 y0) fun y29 =>
thn (loadH none h26 y29) fun y30 =>
thnH (liftF F_Part [y30, x1] h26) fun y31 h32 =>
thn (buildR [(0, 1), (1, 1), (2, 1)] [(iD 0), (.v (.slice none 0 0)), (.v (.slice none 0 0))] [(1, y28), (2, y31)]) fun y33 =>
thnH (liftF F_Of9 [y33, (iD 0)] h32) fun y34 h35 =>
thn (binK .int .eql y25 y34) fun y36 =>
some (y36, h35))
(some ((bD false), h17)))))) := by kernel_rfl

def kp_offshootlaw09_KindsReplaced : List Nat := []
theorem sh_offshootlaw09_KindsReplaced (n : Nat) (x0 x1 x2 : D) (h : Heap) : textK Try.prog L09 kp_offshootlaw09_KindsReplaced n Try.f7 [x0, x1, x2] h =
(thnH (boxH 25 x0 h) fun y0 h1 =>
thnH (liftF F_true [] h1) fun y2 h3 =>
thn (notD y2) fun y4 =>
condK y4
(some ((bD false), h3))
(thn (loadH (some 3) h3 y0) fun y5 =>
thnH (liftF F_Few [y5] h3) fun y6 h7 =>
condK y6
(thn (lenH .sl x2) fun y8 =>
thn (binK .int .leq y8 (iD 60)) fun y9 =>
thn (notD y9) fun y10 =>
condK y10
(some (y2, h7))
(thn (loadH (some 3) h7 y0) fun y11 =>
thnH (liftF F_Check9 [y11] h7) fun y12 h13 =>
thn (binK .int .neq y12 (iD 0)) fun y14 =>
condK y14
(some (y2, h13))
(thn (binK .int .lss x1 (iD 0)) fun y15 =>
condK y15
(some (y2, h13))
(thn (fieldAtH 2 y0) fun y16 =>
thn (loadH none h13 y16) fun y17 =>
thn (lenH .sl y17) fun y18 =>
thn (binK .int .geq x1 y18) fun y19 =>
condK y19
(some (y2, h13))
(thn (fieldAtH 0 y0) fun y20 =>
thn (loadH none h13 y20) fun y21 =>
thn (fieldAtH 1 y0) fun y22 =>
thn (loadH none h13 y22) fun y23 =>
thn (buildR [(0, 1), (1, 1), (2, 1)] [(iD 0), (.v (.slice none 0 0)), (.v (.slice none 0 0))] [(0, y21), (1, y23), (2, x2)]) fun y24 =>
thnH (allocH 25 [(iD 0), (.v (.slice none 0 0)), (.v (.slice none 0 0))] h13) fun y25 h26 =>
thnH (setH 3 y25 y24 h26) fun y27 h28 =>
thnH (liftF F_End [x2, (iD 0)] h28) fun y29 h30 =>
thn (lenH .sl x2) fun y31 =>
thn (binK .int .neq y29 y31) fun y32 =>
condK y32
(some (y2, h30))
(thn (loadH (some 3) h30 y25) fun y33 =>
thnH (liftF F_Of9 [y33, (iD 0)] h30) fun y34 h35 =>
thn (loadH (some 3) h35 y0) fun y36 =>
thnH (liftF F_Of9 [y36, x1] h35) fun y37 h38 =>
thn (binK .int .neq y34 y37) fun y39 =>
condK y39
(some (y2, h38))
(thn (idxH 2 x2 (iD 0)) fun y40 =>
thn (fieldAtH 0 y40) fun y41 =>
thn (loadH none h38 y41) fun y42 =>
thn (fieldAtH 2 y0) fun y43 =>
thn (loadH none h38 y43) fun y44 =>
thn (idxH 2 y44 x1) fun y45 =>
thn (fieldAtH 0 y45) fun y46 =>
thn (loadH none h38 y46) fun y47 =>
thn (binK .int .neq y42 y47) fun y48 =>
condK y48
(some (y2, h38))
(thn (fieldAtH 0 y0) fun y49 =>
thn (loadH none h38 y49) fun y50 =>
thn (fieldAtH 1 y0) fun y51 =>
thn (loadH none h38 y51) fun y52 =>
thn (fieldAtH 2 y0) fun y53 =>
thn (loadH none h38 y53) fun y54 =>
thnH (liftF F_Replace [y54, x1, x2] h38) fun y55 h56 =>
thn (buildR [(0, 1), (1, 1), (2, 1)] [(iD 0), (.v (.slice none 0 0)), (.v (.slice none 0 0))] [(0, y50), (1, y52), (2, y55)]) fun y57 =>
thnH (allocH 25 [(iD 0), (.v (.slice none 0 0)), (.v (.slice none 0 0))] h56) fun y58 h59 =>
thnH (setH 3 y58 y57 h59) fun y60 h61 =>
thn (loadH (some 3) h61 y58) fun y62 =>
thnH (liftF F_Check9 [y62] h61) fun y63 h64 =>
condK y2
(thn (loadH (some 3) h64 y58) fun y65 =>
thnH (liftF F_Of9 [y65, (iD 0)] h64) fun y66 h67 =>
thn (binK .int .eql y66 (iD 2)) fun y68 =>
condK y68
(thn (binK .int .eql y63 (iD 0)) fun y69 =>
condK y69
(some ((bD true), h67))
(thn (binK .int .eql y63 (iD 13)) fun y70 =>
condK y70
(thn (fieldAtH 2 y58) fun y71 =>
thn (loadH none h67 y71) fun y72 =>
thnH (liftF F_Depth [y72, (iD 0)] h67) fun y73 h74 =>
thn (binK .int .gtr y73 (iD 30)) fun y75 =>
some (y75, h74))
(some ((bD false), h67))))
(some ((bD false), h67)))
(some ((bD false), h64))))))))))
(thn (notD (bD false)) fun y76 =>
condK y76
(some (y2, h7))
(thn (loadH (some 3) h7 y0) fun y77 =>
thnH (liftF F_Check9 [y77] h7) fun y78 h79 =>
thn (binK .int .neq y78 (iD 0)) fun y80 =>
condK y80
(some (y2, h79))
(thn (binK .int .lss x1 (iD 0)) fun y81 =>
condK y81
(some (y2, h79))
(thn (fieldAtH 2 y0) fun y82 =>
thn (loadH none h79 y82) fun y83 =>
thn (lenH .sl y83) fun y84 =>
thn (binK .int .geq x1 y84) fun y85 =>
condK y85
(some (y2, h79))
(thn (fieldAtH 0 y0) fun y86 =>
thn (loadH none h79 y86) fun y87 =>
thn (fieldAtH 1 y0) fun y88 =>
thn (loadH none h79 y88) fun y89 =>
thn (buildR [(0, 1), (1, 1), (2, 1)] [(iD 0), (.v (.slice none 0 0)), (.v (.slice none 0 0))] [(0, y87), (1, y89), (2, x2)]) fun y90 =>
thnH (allocH 25 [(iD 0), (.v (.slice none 0 0)), (.v (.slice none 0 0))] h79) fun y91 h92 =>
thnH (setH 3 y91 y90 h92) fun y93 h94 =>
thnH (liftF F_End [x2, (iD 0)] h94) fun y95 h96 =>
thn (lenH .sl x2) fun y97 =>
thn (binK .int .neq y95 y97) fun y98 =>
condK y98
(some (y2, h96))
(thn (loadH (some 3) h96 y91) fun y99 =>
thnH (liftF F_Of9 [y99, (iD 0)] h96) fun y100 h101 =>
thn (loadH (some 3) h101 y0) fun y102 =>
thnH (liftF F_Of9 [y102, x1] h101) fun y103 h104 =>
thn (binK .int .neq y100 y103) fun y105 =>
condK y105
(some (y2, h104))
(thn (idxH 2 x2 (iD 0)) fun y106 =>
thn (fieldAtH 0 y106) fun y107 =>
thn (loadH none h104 y107) fun y108 =>
thn (fieldAtH 2 y0) fun y109 =>
thn (loadH none h104 y109) fun y110 =>
thn (idxH 2 y110 x1) fun y111 =>
thn (fieldAtH 0 y111) fun y112 =>
thn (loadH none h104 y112) fun y113 =>
thn (binK .int .neq y108 y113) fun y114 =>
condK y114
(some (y2, h104))
(thn (fieldAtH 0 y0) fun y115 =>
thn (loadH none h104 y115) fun y116 =>
thn (fieldAtH 1 y0) fun y117 =>
thn (loadH none h104 y117) fun y118 =>
thn (fieldAtH 2 y0) fun y119 =>
thn (loadH none h104 y119) fun y120 =>
thnH (liftF F_Replace [y120, x1, x2] h104) fun y121 h122 =>
thn (buildR [(0, 1), (1, 1), (2, 1)] [(iD 0), (.v (.slice none 0 0)), (.v (.slice none 0 0))] [(0, y116), (1, y118), (2, y121)]) fun y123 =>
thnH (allocH 25 [(iD 0), (.v (.slice none 0 0)), (.v (.slice none 0 0))] h122) fun y124 h125 =>
thnH (setH 3 y124 y123 h125) fun y126 h127 =>
thn (loadH (some 3) h127 y124) fun y128 =>
thnH (liftF F_Check9 [y128] h127) fun y129 h130 =>
condK y2
(thn (loadH (some 3) h130 y124) fun y131 =>
thnH (liftF F_Of9 [y131, (iD 0)] h130) fun y132 h133 =>
thn (binK .int .eql y132 (iD 2)) fun y134 =>
condK y134
(thn (binK .int .eql y129 (iD 0)) fun y135 =>
condK y135
(some ((bD true), h133))
(thn (binK .int .eql y129 (iD 13)) fun y136 =>
condK y136
(thn (fieldAtH 2 y124) fun y137 =>
thn (loadH none h133 y137) fun y138 =>
thnH (liftF F_Depth [y138, (iD 0)] h133) fun y139 h140 =>
thn (binK .int .gtr y139 (iD 30)) fun y141 =>
some (y141, h140))
(some ((bD false), h133))))
(some ((bD false), h133)))
(some ((bD false), h130)))))))))))) := by kernel_rfl

end Go.Proofs.Ytbnmkdlmalobaaa
end

section
namespace Go.Proofs.Ytbnmkdlmalobaaa
open Go.RowKit
set_option linter.unusedVariables false
set_option linter.unusedSimpArgs false

theorem true_pure (H : Heap) : liftF F_true [] H = some (bD true, H) := by rw [liftF_pure _ _ _ rfl]; rfl
theorem few_pure (p : Pg) (H : Heap) : liftF F_Few [progD p] H = some (bD (fewV p), H) := by
  rw [liftF_pure _ _ _ rfl]
  have : F_Few [progD p] = _ := f1_enc (A := progT) _ p
  rw [this]; rfl
theorem same9_pure (p q : Pg) (hp : p.fits) (hq : q.fits) (H : Heap) : liftF F_Same9 [progD p, progD q] H = some (bD (decide (p = q)), H) := by
  rw [liftF_pure _ _ _ rfl]
  have : F_Same9 [progD p, progD q] = _ := f2_enc (A := progT) (B := progT) _ p q
  rw [this, if_pos ⟨hp, hq⟩]; rfl
theorem check9_pure (p : Pg) (h : p.body.length ≤ 3000000) (H : Heap) : liftF F_Check9 [progD p] H = some (iD (chk9 p), H) := by
  rw [liftF_pure _ _ _ rfl]
  have : F_Check9 [progD p] = _ := f1_enc (A := progT) _ p
  rw [this, if_pos h]; rfl
theorem few_fits {p : Pg} (h : fewV p = true) : p.body.length ≤ 60 ∧ p.vars.length ≤ 20 ∧ p.fits ∧ p.body.length ≤ 3000000 := by
  simp only [fewV, Bool.and_eq_true, decide_eq_true_eq] at h
  exact ⟨h.1, h.2, ⟨by omega, by omega⟩, by omega⟩

theorem kindsChecks_text (p o : Pg) (t : Int) : ∃ H, textK Try.prog L09 kp_offshootlaw09_KindsChecks 0 Try.f3 [progD p, progD o, iD t] [] = some (bD true, H) := by
  rw [sh_offshootlaw09_KindsChecks]
  have ep : ∀ p : Pg, D.agg [iD p.params, intsD p.vars, nodesD p.body] = progD p := fun _ => rfl
  cases h1 : fewV p with
  | false => exact ⟨_, by simp [true_pure, few_pure, ep, h1]; rfl⟩
  | true =>
    obtain ⟨_, _, hp, hp'⟩ := few_fits h1
    cases h2 : fewV o with
    | false => exact ⟨_, by simp [true_pure, few_pure, ep, h1, h2]; rfl⟩
    | true =>
      obtain ⟨_, _, ho, _⟩ := few_fits h2
      exact ⟨_, by simp [true_pure, few_pure, ep, h1, h2, same9_pure p o hp ho, check9_pure p hp', vars_pure, size_pure]; rfl⟩
theorem kindsOf_text (p : Pg) (i : Int) : ∃ H, textK Try.prog L09 kp_offshootlaw09_KindsOf 0 Try.f4 [progD p, iD i] [] = some (bD true, H) := by
  rw [sh_offshootlaw09_KindsOf]
  have ep : ∀ p : Pg, D.agg [iD p.params, intsD p.vars, nodesD p.body] = progD p := fun _ => rfl
  cases h1 : fewV p with
  | false => exact ⟨_, by simp [true_pure, few_pure, ep, h1]; rfl⟩
  | true =>
    obtain ⟨_, _, hp, hp'⟩ := few_fits h1
    exact ⟨_, by simp [true_pure, few_pure, ep, h1, of9_pure p i hp']; rfl⟩
end Go.Proofs.Ytbnmkdlmalobaaa
end

section
namespace Go.Proofs.Ytbnmkdlmalobaaa
open Go.RowKit
set_option linter.unusedVariables false

theorem kindsChecks_walk (p : Pg) (v : Value) (q : Pg) (u : Value) (t : Int) (w : World) (hv : Rep (· < w.heap.size) [] w v (progD p)) (hu : Rep (· < w.heap.size) [] w u (progD q)) :
    Calls Try.prog 3 #[v, u, .int .i64 t] w fun e w' => e = .returned (.bool true) ∧ Below w.heap.size w w' := by
  obtain ⟨H, hH⟩ := kindsChecks_text p q t
  exact law_walk L09_ok mixed Try.func3 (by kernel_rfl) (by decide) hH (vs := [v, u, .int .i64 t]) (RepA.cons hv (RepA.cons hu (RepA.cons (rep_int t) RepA.nil)))
theorem kindsOf_walk (p : Pg) (v : Value) (i : Int) (w : World) (hv : Rep (· < w.heap.size) [] w v (progD p)) :
    Calls Try.prog 4 #[v, .int .i64 i] w fun e w' => e = .returned (.bool true) ∧ Below w.heap.size w w' := by
  obtain ⟨H, hH⟩ := kindsOf_text p i
  exact law_walk L09_ok mixed Try.func4 (by kernel_rfl) (by decide) hH (vs := [v, .int .i64 i]) (RepA.cons hv (RepA.cons (rep_int i) RepA.nil))
end Go.Proofs.Ytbnmkdlmalobaaa
end
