/-
  Parts joined into one text: ShL09, Pure9, Law09, ReplLaw, KindLaw, KindBelow, Law09b. No condition.
-/
import Derived.Test.YtbnmkdlmalobaaaVk
import Derived.Test.YtbnmkdlmalobaaaVl
import Derived.Test.YtbnmkdlmalobaaaVo

section
namespace Go.Proofs.Ytbnmkdlmalobaaa
open Go.RowKit
set_option linter.unusedVariables false
set_option maxRecDepth 100000

def kp_offshootlaw09_KindsChecks : List Nat := []
theorem sh_offshootlaw09_KindsChecks (n : Nat) (x0 x1 x2 : D) (h : Heap) : textK Try.prog L09 kp_offshootlaw09_KindsChecks n Try.f3 [x0, x1, x2] h =
(thnH (boxH 25 x0 h) fun y0 h1 =>
thnH (boxH 25 x1 h1) fun y2 h3 =>
thnH (liftF F_true [] h3) fun y4 h5 =>
thn (notD y4) fun y6 =>
condK y6
(some ((bD false), h5))
(thn (loadH (some 3) h5 y0) fun y7 =>
thnH (liftF F_Few [y7] h5) fun y8 h9 =>
condK y8
(thn (loadH (some 3) h9 y2) fun y10 =>
thnH (liftF F_Few [y10] h9) fun y11 h12 =>
thn (notD y11) fun y13 =>
condK y13
(some (y4, h12))
(thn (loadH (some 3) h12 y0) fun y14 =>
thn (loadH (some 3) h12 y2) fun y15 =>
thnH (liftF F_Same9 [y14, y15] h12) fun y16 h17 =>
condK y4
(thn (loadH (some 3) h17 y0) fun y18 =>
thnH (liftF F_Check9 [y18] h17) fun y19 h20 =>
thn (loadH (some 3) h20 y0) fun y21 =>
thnH (liftF F_Check9 [y21] h20) fun y22 h23 =>
thn (binK .int .eql y19 y22) fun y24 =>
condK y24
(thn (loadH (some 3) h23 y0) fun y25 =>
thnH (liftF F_Vars [y25] h23) fun y26 h27 =>
thn (loadH (some 3) h27 y0) fun y28 =>
thnH (liftF F_Vars [y28] h27) fun y29 h30 =>
thn (binK .int .eql y26 y29) fun y31 =>
condK y31
(thnH (liftF F_Size [x2] h30) fun y32 h33 =>
thnH (liftF F_Size [x2] h33) fun y34 h35 =>
thn (binK .int .eql y32 y34) fun y36 =>
condK y36
(thn (loadH (some 3) h35 y0) fun y37 =>
thn (loadH (some 3) h35 y2) fun y38 =>
thnH (liftF F_Same9 [y37, y38] h35) fun y39 h40 =>
thn (binK .bool .eql y39 y16) fun y41 =>
some (y41, h40))
(some ((bD false), h35)))
(some ((bD false), h30)))
(some ((bD false), h23)))
(some ((bD false), h17))))
(thn (notD (bD false)) fun y42 =>
condK y42
(some (y4, h9))
(thn (loadH (some 3) h9 y0) fun y43 =>
thn (loadH (some 3) h9 y2) fun y44 =>
thnH (liftF F_Same9 [y43, y44] h9) fun y45 h46 =>
condK y4
(thn (loadH (some 3) h46 y0) fun y47 =>
thnH (liftF F_Check9 [y47] h46) fun y48 h49 =>
thn (loadH (some 3) h49 y0) fun y50 =>
thnH (liftF F_Check9 [y50] h49) fun y51 h52 =>
thn (binK .int .eql y48 y51) fun y53 =>
condK y53
(thn (loadH (some 3) h52 y0) fun y54 =>
thnH (liftF F_Vars [y54] h52) fun y55 h56 =>
thn (loadH (some 3) h56 y0) fun y57 =>
thnH (liftF F_Vars [y57] h56) fun y58 h59 =>
thn (binK .int .eql y55 y58) fun y60 =>
condK y60
(thnH (liftF F_Size [x2] h59) fun y61 h62 =>
thnH (liftF F_Size [x2] h62) fun y63 h64 =>
thn (binK .int .eql y61 y63) fun y65 =>
condK y65
(thn (loadH (some 3) h64 y0) fun y66 =>
thn (loadH (some 3) h64 y2) fun y67 =>
thnH (liftF F_Same9 [y66, y67] h64) fun y68 h69 =>
thn (binK .bool .eql y68 y45) fun y70 =>
some (y70, h69))
(some ((bD false), h64)))
(some ((bD false), h59)))
(some ((bD false), h52)))
(some ((bD false), h46)))))) := by kernel_rfl

def kp_offshootlaw09_KindsOf : List Nat := []
theorem sh_offshootlaw09_KindsOf (n : Nat) (x0 x1 : D) (h : Heap) : textK Try.prog L09 kp_offshootlaw09_KindsOf n Try.f4 [x0, x1] h =
(thnH (boxH 25 x0 h) fun y0 h1 =>
thnH (liftF F_true [] h1) fun y2 h3 =>
thn (notD y2) fun y4 =>
condK y4
(some ((bD false), h3))
(thn (loadH (some 3) h3 y0) fun y5 =>
thnH (liftF F_Few [y5] h3) fun y6 h7 =>
thn (notD y6) fun y8 =>
condK y8
(some (y2, h7))
(condK y2
(thn (loadH (some 3) h7 y0) fun y9 =>
thnH (liftF F_Of9 [y9, x1] h7) fun y10 h11 =>
thn (loadH (some 3) h11 y0) fun y12 =>
thnH (liftF F_Of9 [y12, x1] h11) fun y13 h14 =>
thn (binK .int .eql y10 y13) fun y15 =>
some (y15, h14))
(some ((bD false), h7))))) := by kernel_rfl

def kp_offshootlaw09_KindsBelow : List Nat := [1, 2, 4, 5, 7, 8, 9]
theorem sh_offshootlaw09_KindsBelow (n : Nat) (x0 x1 : D) (h : Heap) : textK Try.prog L09 kp_offshootlaw09_KindsBelow n Try.f6 [x0, x1] h =
(thnH (boxH 25 x0 h) fun y0 h1 =>
thnH (liftF F_true [] h1) fun y2 h3 =>
thn (notD y2) fun y4 =>
condK y4
(some ((bD false), h3))
(thn (loadH (some 3) h3 y0) fun y5 =>
thnH (liftF F_Few [y5] h3) fun y6 h7 =>
thn (notD y6) fun y8 =>
condK y8
(some (y2, h7))
(thn (loadH (some 3) h7 y0) fun y9 =>
thnH (liftF F_Check9 [y9] h7) fun y10 h11 =>
thn (binK .int .neq y10 (iD 0)) fun y12 =>
condK y12
(some (y2, h11))
(thn (binK .int .lss x1 (iD 0)) fun y13 =>
condK y13
(some (y2, h11))
(thn (fieldAtH 2 y0) fun y14 =>
thn (loadH none h11 y14) fun y15 =>
thn (lenH .sl y15) fun y16 =>
thn (binK .int .geq x1 y16) fun y17 =>
condK y17
(some (y2, h11))
(thn (loadH (some 3) h11 y0) fun y18 =>
thnH (liftF F_Of9 [y18, x1] h11) fun y19 h20 =>
thn (fieldAtH 2 y0) fun y21 =>
thn (loadH none h20 y21) fun y22 =>
thnH (liftF F_Kids [y22, x1] h20) fun y23 h24 =>
leaveK (loopF Try.prog L09 kp_offshootlaw09_KindsBelow n Try.f6 0 [x1, y0, (bD false), y2, y19, y23, (iD 0)] h24) (fun j25 s26 h27 =>
condN j25 0
(thn (fieldAtH 0 (s26.getD 1 .undef)) fun y28 =>
thn (loadH none h27 y28) fun y29 =>
thn (fieldAtH 1 (s26.getD 1 .undef)) fun y30 =>
thn (loadH none h27 y30) fun y31 =>
thn (fieldAtH 2 (s26.getD 1 .undef)) fun y32 =>
thn (loadH none h27 y32) fun y33 =>
thnH (liftF F_Part [y33, (s26.getD 0 .undef)] h27) fun y34 h35 =>
thn (buildR [(0, 1), (1, 1), (2, 1)] [(iD 0), (.v (.slice none 0 0)), (.v (.slice none 0 0))] [(0, y29), (1, y31), (2, y34)]) fun y36 =>
thnH (liftF F_Of9 [y36, (iD 0)] h35) fun y37 h38 =>
condK (s26.getD 3 .undef)
(thn (binK .int .geq (s26.getD 4 .undef) (iD 0)) fun y39 =>
condK y39
(thn (binK .int .leq (s26.getD 4 .undef) (iD 2)) fun y40 =>
condK y40
(thn (binK .int .eql y37 (s26.getD 4 .undef)) fun y41 =>
some (y41, h38))
(some ((bD false), h38)))
(some ((bD false), h38)))
(some ((bD false), h38)))
(none)) (fun s26 h27 =>
some ((s26.getD 2 .undef), h27)))))))) := by kernel_rfl

theorem st_offshootlaw09_KindsBelow_0 (n : Nat) (s0 s1 s2 s3 s4 s5 s6 : D) (h : Heap) : stepF Try.prog L09 kp_offshootlaw09_KindsBelow n Try.f6 0 [s0, s1, s2, s3, s4, s5, s6] h =
(thn (lenH .sl s5) fun y0 =>
thn (binK .int .lss s6 y0) fun y1 =>
condK y1
(thn (loadH (some 3) h s1) fun y2 =>
thn (idxH 1 s5 s6) fun y3 =>
thn (loadH none h y3) fun y4 =>
thnH (liftF F_Of9 [y2, y4] h) fun y5 h6 =>
thn (binK .int .lss y5 (iD 0)) fun y7 =>
condK y7
(some (.ret, [s0, s1, (bD false), s3, s4, s5, s6], h6))
(thn (binK .int .add s6 (iD 1)) fun y8 =>
some (.normal, [s0, s1, s2, s3, s4, s5, y8], h6)))
(some ((.exit 0), [s0, s1, s2, s3, s4, s5, s6], h))) := by kernel_rfl

def kp_offshootlaw09_KindsPart : List Nat := []
theorem sh_offshootlaw09_KindsPart (n : Nat) (x0 x1 : D) (h : Heap) : textK Try.prog L09 kp_offshootlaw09_KindsPart n Try.f8 [x0, x1] h =
(thnH (boxH 25 x0 h) fun y0 h1 =>
thnH (liftF F_true [] h1) fun y2 h3 =>
thn (notD y2) fun y4 =>
condK y4
(some ((bD false), h3))
(thn (loadH (some 3) h3 y0) fun y5 =>
thnH (liftF F_Few [y5] h3) fun y6 h7 =>
thn (notD y6) fun y8 =>
condK y8
(condK y2
(thn (notD y6) fun y9 =>
condK y9
(some ((bD true), h7))
(thn (loadH (some 3) h7 y0) fun y10 =>
thnH (liftF F_Of9 [y10, x1] h7) fun y11 h12 =>
thn (binK .int .eql y11 (iD (-1))) fun y13 =>
some (y13, h12)))
(some ((bD false), h7)))
(thn (fieldAtH 2 y0) fun y14 =>
thn (loadH none h7 y14) fun y15 =>
thnH (liftF F_End [y15, x1] h7) fun y16 h17 =>
thn (binK .int .lss y16 (iD 0)) fun y18 =>
condK y18
(condK y2
(thn (notD y6) fun y19 =>
condK y19
(some ((bD true), h17))
(thn (loadH (some 3) h17 y0) fun y20 =>
thnH (liftF F_Of9 [y20, x1] h17) fun y21 h22 =>
thn (binK .int .eql y21 (iD (-1))) fun y23 =>
some (y23, h22)))
(some ((bD false), h17)))
(condK y2
(thn (loadH (some 3) h17 y0) fun y24 =>
thnH (liftF F_Of9 [y24, x1] h17) fun y25 h26 =>
thn (fieldAtH 1 y0) fun y27 =>
thn (loadH none h26 y27) fun y28 =>
thn (fieldAtH 2 y0) fun y29 =>
thn (loadH none h26 y29) fun y30 =>
thnH (liftF F_Part [y30, x1] h26) fun y31 h32 =>
thn (buildR [(0, 1), (1, 1), (2, 1)] [(iD 0), (.v (.slice none 0 0)), (.v (.slice none 0 0))] [(1, y28), (2, y31)]) fun y33 =>
thnH (liftF F_Of9 [y33, (iD 0)] h32) fun y34 h35 =>
thn (binK .int .eql y25 y34) fun y36 =>
some (y36, h35))
(some ((bD false), h17)))))) := by kernel_rfl

def kp_offshootlaw09_KindsReplaced : List Nat := []
theorem sh_offshootlaw09_KindsReplaced (n : Nat) (x0 x1 x2 : D) (h : Heap) : textK Try.prog L09 kp_offshootlaw09_KindsReplaced n Try.f7 [x0, x1, x2] h =
(thnH (boxH 25 x0 h) fun y0 h1 =>
thnH (liftF F_true [] h1) fun y2 h3 =>
thn (notD y2) fun y4 =>
condK y4
(some ((bD false), h3))
(thn (loadH (some 3) h3 y0) fun y5 =>
thnH (liftF F_Few [y5] h3) fun y6 h7 =>
condK y6
(thn (lenH .sl x2) fun y8 =>
thn (binK .int .leq y8 (iD 60)) fun y9 =>
thn (notD y9) fun y10 =>
condK y10
(some (y2, h7))
(thn (loadH (some 3) h7 y0) fun y11 =>
thnH (liftF F_Check9 [y11] h7) fun y12 h13 =>
thn (binK .int .neq y12 (iD 0)) fun y14 =>
condK y14
(some (y2, h13))
(thn (binK .int .lss x1 (iD 0)) fun y15 =>
condK y15
(some (y2, h13))
(thn (fieldAtH 2 y0) fun y16 =>
thn (loadH none h13 y16) fun y17 =>
thn (lenH .sl y17) fun y18 =>
thn (binK .int .geq x1 y18) fun y19 =>
condK y19
(some (y2, h13))
(thn (fieldAtH 0 y0) fun y20 =>
thn (loadH none h13 y20) fun y21 =>
thn (fieldAtH 1 y0) fun y22 =>
thn (loadH none h13 y22) fun y23 =>
thn (buildR [(0, 1), (1, 1), (2, 1)] [(iD 0), (.v (.slice none 0 0)), (.v (.slice none 0 0))] [(0, y21), (1, y23), (2, x2)]) fun y24 =>
thnH (allocH 25 [(iD 0), (.v (.slice none 0 0)), (.v (.slice none 0 0))] h13) fun y25 h26 =>
thnH (setH 3 y25 y24 h26) fun y27 h28 =>
thnH (liftF F_End [x2, (iD 0)] h28) fun y29 h30 =>
thn (lenH .sl x2) fun y31 =>
thn (binK .int .neq y29 y31) fun y32 =>
condK y32
(some (y2, h30))
(thn (loadH (some 3) h30 y25) fun y33 =>
thnH (liftF F_Of9 [y33, (iD 0)] h30) fun y34 h35 =>
thn (loadH (some 3) h35 y0) fun y36 =>
thnH (liftF F_Of9 [y36, x1] h35) fun y37 h38 =>
thn (binK .int .neq y34 y37) fun y39 =>
condK y39
(some (y2, h38))
(thn (idxH 2 x2 (iD 0)) fun y40 =>
thn (fieldAtH 0 y40) fun y41 =>
thn (loadH none h38 y41) fun y42 =>
thn (fieldAtH 2 y0) fun y43 =>
thn (loadH none h38 y43) fun y44 =>
thn (idxH 2 y44 x1) fun y45 =>
thn (fieldAtH 0 y45) fun y46 =>
thn (loadH none h38 y46) fun y47 =>
thn (binK .int .neq y42 y47) fun y48 =>
condK y48
(some (y2, h38))
(thn (fieldAtH 0 y0) fun y49 =>
thn (loadH none h38 y49) fun y50 =>
thn (fieldAtH 1 y0) fun y51 =>
thn (loadH none h38 y51) fun y52 =>
thn (fieldAtH 2 y0) fun y53 =>
thn (loadH none h38 y53) fun y54 =>
thnH (liftF F_Replace [y54, x1, x2] h38) fun y55 h56 =>
thn (buildR [(0, 1), (1, 1), (2, 1)] [(iD 0), (.v (.slice none 0 0)), (.v (.slice none 0 0))] [(0, y50), (1, y52), (2, y55)]) fun y57 =>
thnH (allocH 25 [(iD 0), (.v (.slice none 0 0)), (.v (.slice none 0 0))] h56) fun y58 h59 =>
thnH (setH 3 y58 y57 h59) fun y60 h61 =>
thn (loadH (some 3) h61 y58) fun y62 =>
thnH (liftF F_Check9 [y62] h61) fun y63 h64 =>
condK y2
(thn (loadH (some 3) h64 y58) fun y65 =>
thnH (liftF F_Of9 [y65, (iD 0)] h64) fun y66 h67 =>
thn (binK .int .eql y66 (iD 2)) fun y68 =>
condK y68
(thn (binK .int .eql y63 (iD 0)) fun y69 =>
condK y69
(some ((bD true), h67))
(thn (binK .int .eql y63 (iD 13)) fun y70 =>
condK y70
(thn (fieldAtH 2 y58) fun y71 =>
thn (loadH none h67 y71) fun y72 =>
thnH (liftF F_Depth [y72, (iD 0)] h67) fun y73 h74 =>
thn (binK .int .gtr y73 (iD 30)) fun y75 =>
some (y75, h74))
(some ((bD false), h67))))
(some ((bD false), h67)))
(some ((bD false), h64))))))))))
(thn (notD (bD false)) fun y76 =>
condK y76
(some (y2, h7))
(thn (loadH (some 3) h7 y0) fun y77 =>
thnH (liftF F_Check9 [y77] h7) fun y78 h79 =>
thn (binK .int .neq y78 (iD 0)) fun y80 =>
condK y80
(some (y2, h79))
(thn (binK .int .lss x1 (iD 0)) fun y81 =>
condK y81
(some (y2, h79))
(thn (fieldAtH 2 y0) fun y82 =>
thn (loadH none h79 y82) fun y83 =>
thn (lenH .sl y83) fun y84 =>
thn (binK .int .geq x1 y84) fun y85 =>
condK y85
(some (y2, h79))
(thn (fieldAtH 0 y0) fun y86 =>
thn (loadH none h79 y86) fun y87 =>
thn (fieldAtH 1 y0) fun y88 =>
thn (loadH none h79 y88) fun y89 =>
thn (buildR [(0, 1), (1, 1), (2, 1)] [(iD 0), (.v (.slice none 0 0)), (.v (.slice none 0 0))] [(0, y87), (1, y89), (2, x2)]) fun y90 =>
thnH (allocH 25 [(iD 0), (.v (.slice none 0 0)), (.v (.slice none 0 0))] h79) fun y91 h92 =>
thnH (setH 3 y91 y90 h92) fun y93 h94 =>
thnH (liftF F_End [x2, (iD 0)] h94) fun y95 h96 =>
thn (lenH .sl x2) fun y97 =>
thn (binK .int .neq y95 y97) fun y98 =>
condK y98
(some (y2, h96))
(thn (loadH (some 3) h96 y91) fun y99 =>
thnH (liftF F_Of9 [y99, (iD 0)] h96) fun y100 h101 =>
thn (loadH (some 3) h101 y0) fun y102 =>
thnH (liftF F_Of9 [y102, x1] h101) fun y103 h104 =>
thn (binK .int .neq y100 y103) fun y105 =>
condK y105
(some (y2, h104))
(thn (idxH 2 x2 (iD 0)) fun y106 =>
thn (fieldAtH 0 y106) fun y107 =>
thn (loadH none h104 y107) fun y108 =>
thn (fieldAtH 2 y0) fun y109 =>
thn (loadH none h104 y109) fun y110 =>
thn (idxH 2 y110 x1) fun y111 =>
thn (fieldAtH 0 y111) fun y112 =>
thn (loadH none h104 y112) fun y113 =>
thn (binK .int .neq y108 y113) fun y114 =>
condK y114
(some (y2, h104))
(thn (fieldAtH 0 y0) fun y115 =>
thn (loadH none h104 y115) fun y116 =>
thn (fieldAtH 1 y0) fun y117 =>
thn (loadH none h104 y117) fun y118 =>
thn (fieldAtH 2 y0) fun y119 =>
thn (loadH none h104 y119) fun y120 =>
thnH (liftF F_Replace [y120, x1, x2] h104) fun y121 h122 =>
thn (buildR [(0, 1), (1, 1), (2, 1)] [(iD 0), (.v (.slice none 0 0)), (.v (.slice none 0 0))] [(0, y116), (1, y118), (2, y121)]) fun y123 =>
thnH (allocH 25 [(iD 0), (.v (.slice none 0 0)), (.v (.slice none 0 0))] h122) fun y124 h125 =>
thnH (setH 3 y124 y123 h125) fun y126 h127 =>
thn (loadH (some 3) h127 y124) fun y128 =>
thnH (liftF F_Check9 [y128] h127) fun y129 h130 =>
condK y2
(thn (loadH (some 3) h130 y124) fun y131 =>
thnH (liftF F_Of9 [y131, (iD 0)] h130) fun y132 h133 =>
thn (binK .int .eql y132 (iD 2)) fun y134 =>
condK y134
(thn (binK .int .eql y129 (iD 0)) fun y135 =>
condK y135
(some ((bD true), h133))
(thn (binK .int .eql y129 (iD 13)) fun y136 =>
condK y136
(thn (fieldAtH 2 y124) fun y137 =>
thn (loadH none h133 y137) fun y138 =>
thnH (liftF F_Depth [y138, (iD 0)] h133) fun y139 h140 =>
thn (binK .int .gtr y139 (iD 30)) fun y141 =>
some (y141, h140))
(some ((bD false), h133))))
(some ((bD false), h133)))
(some ((bD false), h130)))))))))))) := by kernel_rfl

end Go.Proofs.Ytbnmkdlmalobaaa
end

section
namespace Go.Proofs.Ytbnmkdlmalobaaa
open Go.RowKit
set_option linter.unusedVariables false
set_option linter.unusedSimpArgs false

theorem few_pure (p : Pg) (H : Heap) : liftF F_Few [progD p] H = some (bD (fewV p), H) := by
  rw [liftF_pure _ _ _ rfl]
  have : F_Few [progD p] = _ := f1_enc (A := progT) _ p
  rw [this]; rfl
theorem same9_pure (p q : Pg) (hp : p.fits) (hq : q.fits) (H : Heap) : liftF F_Same9 [progD p, progD q] H = some (bD (decide (p = q)), H) := by
  rw [liftF_pure _ _ _ rfl]
  have : F_Same9 [progD p, progD q] = _ := f2_enc (A := progT) (B := progT) _ p q
  rw [this, if_pos ⟨hp, hq⟩]; rfl
theorem few_fits {p : Pg} (h : fewV p = true) : p.body.length ≤ 60 ∧ p.vars.length ≤ 20 ∧ p.fits ∧ p.body.length ≤ 3000000 := by
  simp only [fewV, Bool.and_eq_true, decide_eq_true_eq] at h
  exact ⟨h.1, h.2, ⟨by omega, by omega⟩, by omega⟩

@[simp] theorem cells_prog (p : Pg) : cellsD (progD p) = some [iD p.params, intsD p.vars, nodesD p.body] := rfl
end Go.Proofs.Ytbnmkdlmalobaaa
end

section
namespace Go.Proofs.Ytbnmkdlmalobaaa
open Go.RowKit
set_option linter.unusedVariables false
set_option linter.unusedSimpArgs false

theorem true_pure (H : Heap) : liftF F_true [] H = some (bD true, H) := by rw [liftF_pure _ _ _ rfl]; rfl
theorem check9_pure (p : Pg) (h : p.body.length ≤ 3000000) (H : Heap) : liftF F_Check9 [progD p] H = some (iD (chk9 p), H) := by
  rw [liftF_pure _ _ _ rfl]
  have : F_Check9 [progD p] = _ := f1_enc (A := progT) _ p
  rw [this, if_pos h]; rfl
theorem kindsChecks_text (p o : Pg) (t : Int) : ∃ H, textK Try.prog L09 kp_offshootlaw09_KindsChecks 0 Try.f3 [progD p, progD o, iD t] [] = some (bD true, H) := by
  rw [sh_offshootlaw09_KindsChecks]
  have ep : ∀ p : Pg, D.agg [iD p.params, intsD p.vars, nodesD p.body] = progD p := fun _ => rfl
  cases h1 : fewV p with
  | false => exact ⟨_, by simp [true_pure, few_pure, ep, h1]; rfl⟩
  | true =>
    obtain ⟨_, _, hp, hp'⟩ := few_fits h1
    cases h2 : fewV o with
    | false => exact ⟨_, by simp [true_pure, few_pure, ep, h1, h2]; rfl⟩
    | true =>
      obtain ⟨_, _, ho, _⟩ := few_fits h2
      exact ⟨_, by simp [true_pure, few_pure, ep, h1, h2, same9_pure p o hp ho, check9_pure p hp', vars_pure, size_pure]; rfl⟩
theorem kindsOf_text (p : Pg) (i : Int) : ∃ H, textK Try.prog L09 kp_offshootlaw09_KindsOf 0 Try.f4 [progD p, iD i] [] = some (bD true, H) := by
  rw [sh_offshootlaw09_KindsOf]
  have ep : ∀ p : Pg, D.agg [iD p.params, intsD p.vars, nodesD p.body] = progD p := fun _ => rfl
  cases h1 : fewV p with
  | false => exact ⟨_, by simp [true_pure, few_pure, ep, h1]; rfl⟩
  | true =>
    obtain ⟨_, _, hp, hp'⟩ := few_fits h1
    exact ⟨_, by simp [true_pure, few_pure, ep, h1, of9_pure p i hp']; rfl⟩
end Go.Proofs.Ytbnmkdlmalobaaa
end

section
namespace Go.Proofs.Ytbnmkdlmalobaaa

/-- Whatever stands behind the first k nodes, as many are wanted of it. -/
theorem scan_prefix (k : Nat) : ∀ (a : Nat) (l : List Nd) (t : Nat), scan a l = some t → k < t → ∃ w, 1 ≤ w ∧ ∀ s, scan a (l.take k ++ s) = (scan w s).map (k + ·) := by
  induction k with
  | zero =>
    intro a l t h hk
    refine ⟨a, ?_, fun s => ?_⟩
    · cases a with
      | zero => rw [scan_zero] at h; cases h; omega
      | succ a => omega
    · simp only [List.take_zero, List.nil_append, Nat.zero_add]
      cases scan a s <;> rfl
  | succ k ih =>
    intro a l t h hk
    cases a with
    | zero => rw [scan_zero] at h; cases h; omega
    | succ a =>
      cases l with
      | nil => rw [scan_nil _ (by omega)] at h; cases h
      | cons x r =>
        rw [scan_cons] at h
        by_cases hx : ar x < 0
        · rw [if_pos hx] at h; cases h
        · rw [if_neg hx] at h
          cases hs : scan (a + (ar x).toNat) r with
          | none => rw [hs] at h; cases h
          | some t' =>
            rw [hs] at h
            simp only [Option.map_some, Option.some.injEq] at h
            obtain ⟨w, hw, hall⟩ := ih _ _ _ hs (by omega)
            refine ⟨w, hw, fun s => ?_⟩
            rw [List.take_succ_cons, List.cons_append, scan_cons, if_neg hx, hall]
            cases scan w s with
            | none => rfl
            | some c => simp only [Option.map_some, Option.some.injEq]; omega

section
variable {l r : List Nd} {k : Nat}
theorem whole_scan (h : endv r 0 = r.length) : scan 1 r = some r.length := by
  obtain ⟨m, hs, he⟩ := endv_get r 0 (by show 0 ≤ endv r 0; rw [h]; omega)
  rw [List.drop_zero] at hs
  have : endv r 0 = ((0 + m : Nat) : Int) := he
  rw [hs]
  congr 1
  omega
theorem whole_pos (h : endv r 0 = r.length) : 0 < r.length := by
  have := whole_scan h
  have := scan_ge _ _ _ this
  omega
theorem whole_of (h : scan 1 r = some r.length) : endv r 0 = r.length := by
  have := endv_some r 0 r.length (by rw [List.drop_zero]; exact h)
  have e : endv r 0 = ((0 + r.length : Nat) : Int) := this
  rw [e, Nat.zero_add]
theorem repl_end (hE : 0 ≤ endv l k) (hr : endv r 0 = r.length) : endv (replV l k r) k = ((k + r.length : Nat) : Int) := by
  have hkl : k < l.length := by have := (endv_in l k hE).2; simpa using this
  obtain ⟨m, hs, he⟩ := endv_get l k hE
  have hnlt : ¬ endv l k < 0 := by omega
  refine endv_some _ k r.length ?_
  rw [replV, if_neg hnlt, he, List.append_assoc]
  rw [show ((k : Int)).toNat = k from rfl, List.drop_append_of_le_length (by simp; omega), List.drop_eq_nil_of_le (by simp; omega), List.nil_append]
  have := scan_take 1 r r.length (whole_scan hr) (l.drop (((k + m : Nat) : Int)).toNat)
  rwa [List.take_length] at this
theorem repl_len (hE : 0 ≤ endv l k) : (replV l k r).length + (partV l k).length = l.length + r.length := by
  have hkl : k < l.length := by have := (endv_in l k hE).2; simpa using this
  have hnlt : ¬ endv l k < 0 := by omega
  have hle := endv_le l k
  have hgt := endv_gt l k hE
  rw [replV, if_neg hnlt, partV, if_neg hnlt]
  simp
  omega
theorem repl_part (hE : 0 ≤ endv l k) (hr : endv r 0 = r.length) : partV (replV l k r) k = r := by
  have hkl : k < l.length := by have := (endv_in l k hE).2; simpa using this
  have hnlt : ¬ endv l k < 0 := by omega
  have h1 := repl_end hE hr
  rw [partV, if_neg (by omega), h1, replV, if_neg hnlt]
  rw [show ((k : Int)).toNat = k from rfl, show (((k + r.length : Nat) : Int)).toNat = k + r.length from rfl, List.append_assoc]
  rw [List.take_append, List.drop_append]
  have h2 : (l.take k).length = k := by simp; omega
  simp [h2]
theorem repl_back (hE : 0 ≤ endv l k) (hr : endv r 0 = r.length) : replV (replV l k r) k (partV l k) = l := by
  have hkl : k < l.length := by have := (endv_in l k hE).2; simpa using this
  have hnlt : ¬ endv l k < 0 := by omega
  have h1 := repl_end hE hr
  have hle := endv_le l k
  have hgt := endv_gt l k hE
  obtain ⟨m, hm⟩ := Int.eq_ofNat_of_zero_le hE
  rw [hm] at hle hgt
  rw [replV, if_neg (by omega), h1]
  have e1 : replV l k r = l.take k ++ r ++ l.drop m := by rw [replV, if_neg hnlt, hm]; rfl
  have e2 : partV l k = (l.take m).drop k := by rw [partV, if_neg hnlt, hm]; rfl
  rw [e1, e2, show ((k : Int)).toNat = k from rfl, show (((k + r.length : Nat) : Int)).toNat = k + r.length from rfl]
  have h2 : (l.take k).length = k := by simp; omega
  have e3 : (l.take k ++ r ++ l.drop m).take k = l.take k := by rw [List.append_assoc, List.take_append_of_le_length (by omega), List.take_of_length_le (by omega)]
  have e4 : (l.take k ++ r ++ l.drop m).drop (k + r.length) = l.drop m := by
    rw [List.drop_append, List.drop_eq_nil_of_le (by simp; omega)]
    simp; omega
  have e5 : l.take k ++ (l.take m).drop k = l.take m := by
    rw [show l.take k = (l.take m).take k from by rw [List.take_take]; congr 1; omega]
    exact List.take_append_drop _ _
  rw [e3, e4, e5, List.take_append_drop]
/-- What is replaced by a whole in a whole, is a whole. -/
theorem repl_whole (hl : endv l 0 = l.length) (hE : 0 ≤ endv l k) (hr : endv r 0 = r.length) : endv (replV l k r) 0 = (replV l k r).length := by
  have hkl : k < l.length := by have := (endv_in l k hE).2; simpa using this
  have hnlt : ¬ endv l k < 0 := by omega
  obtain ⟨m, hs, he⟩ := endv_get l k hE
  have hle := endv_le l k
  obtain ⟨w, hw, hall⟩ := scan_prefix k 1 l l.length (whole_scan hl) hkl
  have h0 := hall (l.drop k)
  rw [List.take_append_drop, whole_scan hl] at h0
  obtain ⟨v, rfl⟩ : ∃ v, w = 1 + v := ⟨w - 1, by omega⟩
  rw [scan_add, hs] at h0
  simp only [Option.bind_some, List.drop_drop] at h0
  have e1 : replV l k r = l.take k ++ (r ++ l.drop (k + m)) := by rw [replV, if_neg hnlt, he, List.append_assoc]; rfl
  have h1 := hall (r ++ l.drop (k + m))
  have h2 : scan 1 (r ++ l.drop (k + m)) = some r.length := by
    have := scan_take 1 r r.length (whole_scan hr) (l.drop (k + m))
    rwa [List.take_length] at this
  rw [scan_add, h2] at h1
  simp only [Option.bind_some] at h1
  rw [List.drop_left' rfl] at h1
  refine whole_of ?_
  rw [e1, h1]
  cases hv : scan v (l.drop (k + m)) with
  | none => rw [hv] at h0; cases h0
  | some c =>
    rw [hv] at h0
    simp only [Option.map_some, Option.some.injEq] at h0 ⊢
    simp
    omega
theorem repl_before (hE : 0 ≤ endv l k) (j : Nat) (hj : j < k) : (replV l k r)[j]? = l[j]? := by
  have hkl : k < l.length := by have := (endv_in l k hE).2; simpa using this
  rw [replV, if_neg (by omega), List.append_assoc, List.getElem?_append_left (by simp; omega)]
  simp [hj]
theorem repl_behind (hE : 0 ≤ endv l k) (j : Nat) (hj : endv l k ≤ j) : (replV l k r)[j - (endv l k).toNat + k + r.length]? = l[j]? := by
  have hkl : k < l.length := by have := (endv_in l k hE).2; simpa using this
  obtain ⟨m, hm⟩ := Int.eq_ofNat_of_zero_le hE
  rw [hm] at hj ⊢
  have hj' : m ≤ j := by omega
  rw [replV, if_neg (by omega), hm, show ((m : Int)).toNat = m from rfl, show ((k : Int)).toNat = k from rfl, List.getElem?_append_right (by simp; omega)]
  simp only [List.length_append, List.length_take, List.getElem?_drop]
  congr 1
  omega
end
end Go.Proofs.Ytbnmkdlmalobaaa
end

section
namespace Go.Proofs.Ytbnmkdlmalobaaa
open Go.RowKit
set_option linter.unusedVariables false
set_option linter.unusedSimpArgs false

/-- A node's kind, with fuel enough. -/
def kv (vs : List Int) (l : List Nd) (i : Int) : Int := kindV (l.length + 1) vs l i
/-- A node's kind, by its kids' kinds and tags. -/
def stepV (vs : List Int) (x : Nd) (kk tt : List Int) : Int :=
  if ruleKind vs x.2 (ruleOf x.1) = -1 ∨ (askV vs x kk.length (ruleOf x.1)).length ≠ kk.length then -1 else
  if (List.range kk.length).all (fun j => decide (kk.getD j 0 = (askV vs x kk.length (ruleOf x.1)).getD j 0) && !(inner x.1 && decide (0 < j) && !decide (tt.getD j 0 = 20)))
    then ruleKind vs x.2 (ruleOf x.1) else -1
theorem all_congr (n : Nat) (f g : Nat → Bool) (h : ∀ j, j < n → f j = g j) : (List.range n).all f = (List.range n).all g := by
  rw [Bool.eq_iff_iff]
  simp only [List.all_eq_true, List.mem_range]
  exact ⟨fun q j hj => (h j hj) ▸ q j hj, fun q j hj => (h j hj).symm ▸ q j hj⟩
theorem kv_no (vs : List Int) (l : List Nd) (i : Int) (h : endv l i < 0) : kv vs l i = -1 := by rw [kv, kindV, if_pos h]
theorem kv_step (vs : List Int) (l : List Nd) (k : Nat) (h : 0 ≤ endv l k) : kv vs l k = stepV vs (nodeAt l k) ((kidsv l k).map (kv vs l)) ((kidsv l k).map fun j => (nodeAt l j).1) := by
  have hkl : k < l.length := by have := (endv_in l k h).2; simpa using this
  rw [kv, kindV, if_neg (by omega), stepV]
  simp only [List.length_map]
  rw [all_congr _ _ (fun j => decide (((kidsv l k).map (kv vs l)).getD j 0 = (askV vs (nodeAt l k) (kidsv l k).length (ruleOf (nodeAt l k).1)).getD j 0) && !(inner (nodeAt l k).1 && decide (0 < j) && !decide (((kidsv l k).map fun j => (nodeAt l j).1).getD j 0 = 20))) fun j hj => ?_]
  have hf := kid_facts l k j hj
  rw [getD_in _ _ _ hj, getD_in ((kidsv l k).map (kv vs l)) _ _ (by simpa using hj), getD_in ((kidsv l k).map fun j => (nodeAt l j).1) _ _ (by simpa using hj)]
  simp only [List.getElem_map]
  rw [kv, kindV_deep (l.length) (l.length + 1) vs l _ hf.2.1 (by omega) (by omega)]

/-- Nodes alike, or with kids alike, have a kind. -/
theorem kind_sim (vs : List Int) (l l' : List Nd) (R : Nat → Nat → Prop)
    (hR : ∀ i i', R i i' → (kv vs l i = kv vs l' i' ∧ (nodeAt l i).1 = (nodeAt l' i').1) ∨
      (0 ≤ endv l i ∧ 0 ≤ endv l' i' ∧ nodeAt l i = nodeAt l' i' ∧ (kidsv l i).length = (kidsv l' i').length ∧ ∀ j (h : j < (kidsv l i).length) (h' : j < (kidsv l' i').length), ∃ a b : Nat, (kidsv l i)[j] = a ∧ (kidsv l' i')[j] = b ∧ R a b)) :
    ∀ (n i i' : Nat), l.length ≤ i + n → R i i' → kv vs l i = kv vs l' i' ∧ (nodeAt l i).1 = (nodeAt l' i').1
  | 0, i, i', hn, h => by
    rcases hR i i' h with h | ⟨h1, _⟩
    · exact h
    · have := (endv_in l i h1).2; omega
  | n + 1, i, i', hn, h => by
    rcases hR i i' h with h | ⟨h1, h2, h3, h4, h5⟩
    · exact h
    · have hk : ∀ j (hj : j < (kidsv l i).length) (hj' : j < (kidsv l' i').length), kv vs l (kidsv l i)[j] = kv vs l' (kidsv l' i')[j] ∧ (nodeAt l (kidsv l i)[j]).1 = (nodeAt l' (kidsv l' i')[j]).1 := fun j hj hj' => by
        obtain ⟨a, b, ea, eb, hab⟩ := h5 j hj hj'
        have hf := kid_facts l i j hj
        rw [ea, eb]
        rw [ea] at hf
        exact kind_sim vs l l' R hR n a b (by omega) hab
      refine ⟨?_, by rw [h3]⟩
      rw [kv_step _ _ _ h1, kv_step _ _ _ h2, h3]
      congr 1
      · exact List.ext_getElem (by simpa using h4) fun j a b => by simpa using (hk j (by simpa using a) (by simpa using b)).1
      · exact List.ext_getElem (by simpa using h4) fun j a b => by simpa using (hk j (by simpa using a) (by simpa using b)).2

/-- Alike for m nodes. -/
def Seg (l l' : List Nd) (i i' m : Nat) : Prop := ∀ x, x < m → l[i + x]? = l'[i' + x]?
theorem endv_shift {l l' : List Nd} {i i' m : Nat} (h : endv l i = ((i + m : Nat) : Int)) (hs : Seg l l' i i' m) : endv l' i' = ((i' + m : Nat) : Int) := by
  obtain ⟨c, hc, he⟩ := endv_get l i (by omega)
  have hcm : c = m := by omega
  subst hcm
  refine endv_some l' i' c ?_
  have e : (l.drop i).take c = (l'.drop i').take c := by
    apply List.ext_getElem?
    intro x
    simp only [List.getElem?_take, List.getElem?_drop]
    split
    · rename_i hx; exact hs x hx
    · rfl
  have := scan_take 1 (l.drop i) c hc ((l'.drop i').drop c)
  rwa [e, List.take_append_drop] at this
/-- A node, and all below it, stand elsewhere, too. -/
def R0 (l l' : List Nd) (i i' : Nat) : Prop := ∃ m, endv l i = ((i + m : Nat) : Int) ∧ Seg l l' i i' m
theorem nodeAt_seg {l l' : List Nd} {i i' m : Nat} (hs : Seg l l' i i' m) (hm : 0 < m) : nodeAt l i = nodeAt l' i' := by
  have := hs 0 hm
  simp only [Nat.add_zero] at this
  simp [nodeAt, List.getD, this]
theorem ar_node (l : List Nd) (i : Nat) : i < l.length → arAt l i = ar (nodeAt l i) := fun h => by
  rw [arAt_in _ _ h, nodeAt, Int.toNat_natCast, getD_in _ _ _ h]
theorem seg_kids {l l' : List Nd} {i i' : Nat} (h : R0 l l' i i') : 0 ≤ endv l i ∧ 0 ≤ endv l' i' ∧ nodeAt l i = nodeAt l' i' ∧ (kidsv l i).length = (kidsv l' i').length ∧
    ∀ j (h : j < (kidsv l i).length) (h' : j < (kidsv l' i').length), ∃ a b : Nat, (kidsv l i)[j] = a ∧ (kidsv l' i')[j] = b ∧ R0 l l' a b := by
  obtain ⟨m, hm, hs⟩ := h
  have h1 : 0 ≤ endv l i := by omega
  have hm' := endv_shift hm hs
  have h2 : 0 ≤ endv l' i' := by omega
  have hgt := endv_gt l i h1
  have hn := nodeAt_seg hs (by omega)
  have hil : i < l.length := by have := (endv_in l i h1).2; simpa using this
  have hil' : i' < l'.length := by have := (endv_in l' i' h2).2; simpa using this
  have har : arAt l i = arAt l' i' := by rw [ar_node _ _ hil, ar_node _ _ hil', hn]
  have hk : ∀ j, j ≤ (arAt l i).toNat → ∃ x, kth l (i + 1) j = ((i + x : Nat) : Int) ∧ kth l' (i' + 1) j = ((i' + x : Nat) : Int) := by
    intro j
    induction j with
    | zero => exact fun _ => ⟨1, by simp [kth], by simp [kth]⟩
    | succ j ih =>
      intro hj
      obtain ⟨x, e1, e2⟩ := ih (by omega)
      obtain ⟨g1, g2, g3, g4⟩ := kth_range l i h1 j (by omega)
      simp only [kth]
      rw [e1] at g1 g2 g3 g4 ⊢
      rw [e2]
      obtain ⟨c, hc, he⟩ := endv_get l (i + x) g3
      refine ⟨x + c, by rw [he]; omega, ?_⟩
      have : endv l' ((i' + x : Nat) : Int) = _ := endv_shift (l' := l') (i' := i' + x) he fun y hy => by
        rw [Nat.add_assoc, Nat.add_assoc]; exact hs _ (by omega)
      rw [this]; omega
  refine ⟨h1, h2, hn, ?_, fun j hj hj' => ?_⟩
  · rw [kidsv_eq _ _ h1, kidsv_eq _ _ h2, upto_length, upto_length, har]
  · have hj2 : j < (arAt l i).toNat := by rwa [kidsv_eq _ _ h1, upto_length] at hj
    obtain ⟨x, e1, e2⟩ := hk j (by omega)
    obtain ⟨g1, g2, g3, g4⟩ := kth_range l i h1 j hj2
    refine ⟨i + x, i' + x, ?_, ?_, ?_⟩
    · simp only [kidsv_eq _ _ h1, upto, List.getElem_map, List.getElem_range, e1]
    · simp only [kidsv_eq _ _ h2, upto, List.getElem_map, List.getElem_range, e2]
    · rw [e1] at g1 g2 g3 g4
      obtain ⟨c, hc, he⟩ := endv_get l (i + x) g3
      exact ⟨c, he, fun y hy => by rw [Nat.add_assoc, Nat.add_assoc]; exact hs _ (by omega)⟩
theorem kind_seg {l l' : List Nd} {i i' : Nat} (vs : List Int) (h : R0 l l' i i') : kv vs l i = kv vs l' i' ∧ (nodeAt l i).1 = (nodeAt l' i').1 :=
  kind_sim vs l l' (R0 l l') (fun i i' h => .inr (seg_kids h)) l.length i i' (by omega) h
theorem part_seg (l : List Nd) (k : Nat) (h : 0 ≤ endv l k) : R0 l (partV l k) k 0 := by
  obtain ⟨c, hc, he⟩ := endv_get l k h
  refine ⟨c, he, fun x hx => ?_⟩
  rw [partV, if_neg (by omega), he]
  simp only [Int.toNat_natCast, List.getElem?_drop, Nat.zero_add, List.getElem?_take]
  rw [if_pos (by omega)]
/-- A part by itself has the kind that it has in its place. -/
theorem kind_part (vs : List Int) (l : List Nd) (k : Nat) (h : 0 ≤ endv l k) : kv vs (partV l k) 0 = kv vs l k := (kind_seg vs (part_seg l k h)).1.symm

section
variable {l r : List Nd} {k : Nat}
/-- Where a node above the part that is replaced ends. -/
theorem repl_above (hE : 0 ≤ endv l k) (hr : endv r 0 = r.length) (i : Nat) (hi : i < k) (h : (k : Int) < endv l i) :
    endv l k ≤ endv l i ∧ endv (replV l k r) i + endv l k = endv l i + k + r.length := by
  have hkl : k < l.length := by have := (endv_in l k hE).2; simpa using this
  have hnlt : ¬ endv l k < 0 := by omega
  obtain ⟨m, hs, he⟩ := endv_get l k hE
  obtain ⟨t, ht, hte⟩ := endv_get l i (by omega)
  obtain ⟨w, hw, hall⟩ := scan_prefix (k - i) 1 (l.drop i) t ht (by omega)
  have h0 := hall ((l.drop i).drop (k - i))
  rw [List.take_append_drop, ht, List.drop_drop, show i + (k - i) = k from by omega] at h0
  obtain ⟨v, rfl⟩ : ∃ v, w = 1 + v := ⟨w - 1, by omega⟩
  rw [scan_add, hs] at h0
  simp only [Option.bind_some, List.drop_drop] at h0
  have h1 := hall (r ++ l.drop (k + m))
  have h2 : scan 1 (r ++ l.drop (k + m)) = some r.length := by
    have := scan_take 1 r r.length (whole_scan hr) (l.drop (k + m))
    rwa [List.take_length] at this
  rw [scan_add, h2] at h1
  simp only [Option.bind_some] at h1
  rw [List.drop_left' rfl] at h1
  have e1 : (replV l k r).drop i = (l.drop i).take (k - i) ++ (r ++ l.drop (k + m)) := by
    rw [replV, if_neg hnlt, he, List.append_assoc]
    rw [List.drop_append_of_le_length (by simp; omega)]
    simp [List.drop_take]
    omega
  cases hv : scan v (l.drop (k + m)) with
  | none => rw [hv] at h0; cases h0
  | some c =>
    rw [hv] at h0 h1
    simp only [Option.map_some, Option.some.injEq] at h0 h1
    rw [← e1] at h1
    have := endv_some _ _ _ h1
    rw [this]
    omega
/-- The nodes of a list, and those of the list with a part replaced. -/
def R1 (l : List Nd) (k : Nat) (r : List Nd) (i i' : Nat) : Prop := R0 l (replV l k r) i i' ∨ (i ≤ k ∧ i' = i ∧ endv l k ≤ endv l i)
theorem repl_seg_before (hE : 0 ≤ endv l k) (i : Nat) (h0 : 0 ≤ endv l i) (h : endv l i ≤ k) : R0 l (replV l k r) i i := by
  obtain ⟨m, hs, he⟩ := endv_get l i h0
  exact ⟨m, he, fun x hx => (repl_before hE (i + x) (by omega)).symm⟩
theorem repl_seg_behind (hE : 0 ≤ endv l k) (i b : Nat) (h0 : 0 ≤ endv l i) (h : endv l k ≤ i) (hb : (b : Int) + endv l k = i + k + r.length) : R0 l (replV l k r) i b := by
  obtain ⟨m, hs, he⟩ := endv_get l i h0
  refine ⟨m, he, fun x hx => ?_⟩
  rw [← repl_behind hE (i + x) (by omega)]
  congr 1
  omega
theorem repl_seg_at (hE : 0 ≤ endv l k) (hr : endv r 0 = r.length) : R0 r (replV l k r) 0 k := by
  have hkl : k < l.length := by have := (endv_in l k hE).2; simpa using this
  refine ⟨r.length, by rw [show ((0 : Nat) : Int) = 0 from rfl, hr]; omega, fun x hx => ?_⟩
  rw [replV, if_neg (by omega), List.append_assoc, List.getElem?_append_right (by simp; omega)]
  simp only [Int.toNat_natCast, List.length_take]
  rw [List.getElem?_append_left (by omega)]
  congr 1
  omega
theorem r1_step (vs : List Int) (hE : 0 ≤ endv l k) (hr : endv r 0 = r.length) (hk : kv vs r 0 = kv vs l k) (ht : (nodeAt r 0).1 = (nodeAt l k).1) (i i' : Nat) (h : R1 l k r i i') :
    (kv vs l i = kv vs (replV l k r) i' ∧ (nodeAt l i).1 = (nodeAt (replV l k r) i').1) ∨
      (0 ≤ endv l i ∧ 0 ≤ endv (replV l k r) i' ∧ nodeAt l i = nodeAt (replV l k r) i' ∧ (kidsv l i).length = (kidsv (replV l k r) i').length ∧ ∀ j (h : j < (kidsv l i).length) (h' : j < (kidsv (replV l k r) i').length), ∃ a b : Nat, (kidsv l i)[j] = a ∧ (kidsv (replV l k r) i')[j] = b ∧ R1 l k r a b) := by
  rcases h with h | ⟨h1, rfl, h2⟩
  · obtain ⟨a, b, c, d, e⟩ := seg_kids h
    refine .inr ⟨a, b, c, d, fun j h h' => ?_⟩
    obtain ⟨x, y, e1, e2, e3⟩ := e j h h'
    exact ⟨x, y, e1, e2, .inl e3⟩
  · by_cases hik : i' = k
    · subst hik
      have : kv vs r 0 = kv vs (replV l i' r) i' ∧ (nodeAt r 0).1 = (nodeAt (replV l i' r) i').1 := kind_seg vs (repl_seg_at hE hr)
      exact .inl ⟨by rw [← this.1]; exact hk.symm, by rw [← this.2]; exact ht.symm⟩
    · have hgtk := endv_gt l k hE
      have hi : i' < k := by omega
      have h0 : 0 ≤ endv l i' := by omega
      obtain ⟨_, hab⟩ := repl_above hE hr i' hi (by omega)
      have h0' : 0 ≤ endv (replV l k r) i' := by omega
      have hil : i' < l.length := by have := (endv_in l i' h0).2; simpa using this
      have hil' : i' < (replV l k r).length := by have := (endv_in _ i' h0').2; simpa using this
      have hn : nodeAt l i' = nodeAt (replV l k r) i' := by simp [nodeAt, List.getD, repl_before hE i' hi]
      have har : arAt l i' = arAt (replV l k r) i' := by rw [ar_node _ _ hil, ar_node _ _ hil', hn]
      have hone : ∀ a b : Nat, ((a ≤ k ∧ b = a) ∨ (endv l k ≤ a ∧ (b : Int) + endv l k = a + k + r.length)) → 0 ≤ endv l a → R1 l k r a b ∧ ∃ a' b' : Nat, endv l a = a' ∧ endv (replV l k r) b = b' ∧ ((a' ≤ k ∧ b' = a') ∨ (endv l k ≤ a' ∧ (b' : Int) + endv l k = a' + k + r.length)) := by
        intro a b hP ha
        obtain ⟨c, hc, hce⟩ := endv_get l a ha
        rcases hP with ⟨p1, rfl⟩ | ⟨p1, p2⟩
        · by_cases hbk : b = k
          · subst hbk
            refine ⟨.inr ⟨by omega, rfl, by omega⟩, b + c, b + r.length, hce, repl_end hE hr, .inr ⟨by omega, by omega⟩⟩
          · by_cases hlow : endv l b ≤ k
            · have hseg := repl_seg_before (r := r) hE b ha hlow
              obtain ⟨m, hm, hs⟩ := hseg
              exact ⟨.inl ⟨m, hm, hs⟩, b + m, b + m, hm, endv_shift hm hs, .inl ⟨by omega, rfl⟩⟩
            · obtain ⟨q1, q2⟩ := repl_above (r := r) hE hr b (by omega) (by omega)
              obtain ⟨d, hd⟩ := Int.eq_ofNat_of_zero_le (show 0 ≤ endv (replV l k r) b by omega)
              exact ⟨.inr ⟨by omega, rfl, q1⟩, b + c, d, hce, hd, .inr ⟨by omega, by omega⟩⟩
        · have hseg := repl_seg_behind (r := r) hE a b ha p1 p2
          obtain ⟨m, hm, hs⟩ := hseg
          exact ⟨.inl ⟨m, hm, hs⟩, a + m, b + m, hm, endv_shift hm hs, .inr ⟨by omega, by omega⟩⟩
      have hkk : ∀ j, j ≤ (arAt l i').toNat → ∃ a b : Nat, kth l (i' + 1) j = a ∧ kth (replV l k r) (i' + 1) j = b ∧ ((a ≤ k ∧ b = a) ∨ (endv l k ≤ a ∧ (b : Int) + endv l k = a + k + r.length)) := by
        intro j
        induction j with
        | zero => exact fun _ => ⟨i' + 1, i' + 1, by simp [kth], by simp [kth], .inl ⟨by omega, rfl⟩⟩
        | succ j ih =>
          intro hj
          obtain ⟨a, b, e1, e2, hP⟩ := ih (by omega)
          obtain ⟨g1, g2, g3, g4⟩ := kth_range l i' h0 j (by omega)
          rw [e1] at g3
          obtain ⟨_, a', b', f1, f2, f3⟩ := hone a b hP g3
          simp only [kth]
          exact ⟨a', b', by rw [e1, f1], by rw [e2, f2], f3⟩
      refine .inr ⟨h0, h0', hn, ?_, fun j hj hj' => ?_⟩
      · rw [kidsv_eq _ _ h0, kidsv_eq _ _ h0', upto_length, upto_length, har]
      · have hj2 : j < (arAt l i').toNat := by rwa [kidsv_eq _ _ h0, upto_length] at hj
        obtain ⟨a, b, e1, e2, hP⟩ := hkk j (by omega)
        obtain ⟨g1, g2, g3, g4⟩ := kth_range l i' h0 j hj2
        rw [e1] at g3
        refine ⟨a, b, ?_, ?_, (hone a b hP g3).1⟩
        · simp only [kidsv_eq _ _ h0, upto, List.getElem_map, List.getElem_range, e1]
        · simp only [kidsv_eq _ _ h0', upto, List.getElem_map, List.getElem_range, e2]
/-- With a part of the same kind and tag instead, the whole's kind stays. -/
theorem kind_repl (vs : List Int) (hl : endv l 0 = l.length) (hE : 0 ≤ endv l k) (hr : endv r 0 = r.length) (hk : kv vs r 0 = kv vs l k) (ht : (nodeAt r 0).1 = (nodeAt l k).1) :
    kv vs l 0 = kv vs (replV l k r) 0 ∧ (nodeAt l 0).1 = (nodeAt (replV l k r) 0).1 := by
  have := kind_sim vs l (replV l k r) (R1 l k r) (fun i i' h => r1_step vs hE hr hk ht i i' h) l.length 0 0 (by omega) (.inr ⟨by omega, rfl, by
    have := endv_le l k
    rw [show ((0 : Nat) : Int) = 0 from rfl, hl]; exact this⟩)
  exact this
end
end Go.Proofs.Ytbnmkdlmalobaaa
end

section
namespace Go.Proofs.Ytbnmkdlmalobaaa
open Go.RowKit
set_option linter.unusedVariables false
set_option linter.unusedSimpArgs false

/-- A rule asks for kinds and tells one. -/
def goodR : RuleT → Bool
  | .plain ks is => decide (0 ≤ is ∧ is ≤ 2) && ks.all fun k => decide (0 ≤ k)
  | .array ks is => decide (0 ≤ is ∧ is ≤ 2) && ks.all fun k => decide (0 ≤ k)
  | _ => true
theorem findR_mem : ∀ (ks : List Int) (rs : List RuleT) (k : Int) (v : RuleT), findR ks rs k = some v → v ∈ rs
  | [], rs, k, v, h => by cases rs <;> cases h
  | a :: r, [], k, v, h => by cases h
  | a :: r, b :: s, k, v, h => by
    simp only [findR] at h
    split at h
    · cases h; exact List.mem_cons_self ..
    · exact List.mem_cons_of_mem _ (findR_mem r s k v h)
theorem ruleOf_good (t : Int) : goodR (ruleOf t) = true := by
  unfold ruleOf
  cases h : findR ruleKs ruleRs t with
  | none => rfl
  | some v =>
    have hm := findR_mem _ _ _ _ h
    have : ∀ v ∈ ruleRs, goodR v = true := by decide
    exact this v hm
theorem typedV_in {vs : List Int} {n : Int} (h : 0 ≤ typedV vs n) : 0 ≤ n ∧ n.toNat < vs.length ∧ typedV vs n = vs.getD n.toNat 0 := by
  unfold typedV at h ⊢
  split at h
  · omega
  · rename_i hn
    rw [if_neg hn]
    by_cases hl : n.toNat < vs.length
    · exact ⟨by omega, hl, by rw [getD_in _ _ _ hl, getD_in _ _ _ hl]⟩
    · rw [List.getD_eq_getElem?_getD, List.getElem?_eq_none (by omega)] at h; simp at h
theorem rule_range (vs : List Int) (n : Int) (r : RuleT) (h : goodR r = true) (hn : ruleKind vs n r ≠ -1) : 0 ≤ ruleKind vs n r ∧ ruleKind vs n r ≤ 2 := by
  cases r with
  | plain ks is => simp [goodR] at h; exact h.1
  | array ks is =>
    simp [goodR] at h
    simp only [ruleKind, arrayKindV] at hn ⊢
    split
    · rename_i hz; rw [if_pos hz] at hn; omega
    · exact h.1
  | scalar b =>
    simp only [ruleKind, scalarKindV] at hn ⊢
    split
    · split <;> omega
    · rename_i hz; rw [if_neg hz] at hn; omega
  | none => simp [ruleKind]
theorem ask_pos (vs : List Int) (x : Nd) (n : Nat) (r : RuleT) (h : goodR r = true) (hn : ruleKind vs x.2 r ≠ -1) : ∀ k ∈ askV vs x n r, 0 ≤ k := by
  cases r with
  | plain ks is => simp [goodR] at h; simpa [askV] using h.2
  | array ks is => simp [goodR] at h; simpa [askV] using h.2
  | none => intro k hk; simp [askV] at hk; omega
  | scalar b =>
    cases b with
    | false => simp [askV]
    | true =>
      simp only [ruleKind, scalarKindV] at hn
      split at hn
      · rename_i hz
        obtain ⟨a, b, c⟩ := typedV_in (vs := vs) (n := x.2) (by omega)
        intro k hk
        simp only [askV] at hk
        rw [if_pos b] at hk
        simp only [List.mem_singleton] at hk
        rw [hk, ← c]; omega
      · exact absurd rfl hn
theorem step_facts (vs : List Int) (x : Nd) (kk tt : List Int) (h : stepV vs x kk tt ≠ -1) : ruleKind vs x.2 (ruleOf x.1) ≠ -1 ∧ (0 ≤ stepV vs x kk tt ∧ stepV vs x kk tt ≤ 2) ∧ ∀ k ∈ kk, 0 ≤ k := by
  unfold stepV at h ⊢
  split at h
  · exact absurd rfl h
  · rename_i h1
    rw [if_neg h1]
    split at h
    · rename_i h2
      rw [if_pos h2]
      refine ⟨h, rule_range _ _ _ (ruleOf_good _) h, fun k hk => ?_⟩
      obtain ⟨j, hj, rfl⟩ := List.getElem_of_mem hk
      simp only [List.all_eq_true, List.mem_range] at h2
      have := h2 j hj
      simp only [Bool.and_eq_true, decide_eq_true_eq] at this
      have hl : (askV vs x kk.length (ruleOf x.1)).length = kk.length := by
        rcases Nat.decEq (askV vs x kk.length (ruleOf x.1)).length kk.length with h | h
        · exact absurd (.inr h) h1
        · exact h
      have t := this.1
      rw [getD_in _ _ _ hj, getD_in _ _ _ (by omega)] at t
      rw [t]
      exact ask_pos vs x kk.length _ (ruleOf_good _) h _ (List.getElem_mem _)
    · exact absurd rfl h
theorem kv_end (vs : List Int) (l : List Nd) (i : Int) (h : kv vs l i ≠ -1) : 0 ≤ endv l i := by
  rcases endv_bound l i with e | e
  · exact absurd (kv_no vs l i (by omega)) h
  · exact e
/-- A place behind a node's own, before its end, is in a kid of its. -/
theorem kid_at (l : List Nd) (i : Nat) (h : 0 ≤ endv l i) (x : Nat) (h1 : i < x) (h2 : (x : Int) < endv l i) : ∃ j, ∃ hj : j < (kidsv l i).length, (kidsv l i)[j] ≤ x ∧ (x : Int) < endv l (kidsv l i)[j] := by
  have hk : ∀ j, j ≤ (arAt l i).toNat → kth l (i + 1) j ≤ x ∨ ∃ c, c < j ∧ kth l (i + 1) c ≤ x ∧ (x : Int) < kth l (i + 1) (c + 1) := by
    intro j
    induction j with
    | zero => intro _; left; simp only [kth]; omega
    | succ j ih =>
      intro hj
      rcases ih (by omega) with e | ⟨c, e1, e2, e3⟩
      · by_cases hx : kth l (i + 1) (j + 1) ≤ x
        · exact .inl hx
        · exact .inr ⟨j, by omega, e, by omega⟩
      · exact .inr ⟨c, by omega, e2, e3⟩
  rcases hk _ (Nat.le_refl _) with e | ⟨c, e1, e2, e3⟩
  · rw [kth_last l i h] at e; omega
  · have hj : c < (kidsv l i).length := by rw [kidsv_eq _ _ h, upto_length]; exact e1
    have he : (kidsv l i)[c] = kth l (i + 1) c := by simp only [kidsv_eq _ _ h, upto, List.getElem_map, List.getElem_range]
    exact ⟨c, hj, by rw [he]; exact e2, by rw [he, (kth_end l i h c e1).2]; exact e3⟩
/-- What is below a node that has a kind, has one. -/
theorem kind_below (vs : List Int) (l : List Nd) : ∀ (n i : Nat), l.length ≤ i + n → kv vs l i ≠ -1 → ∀ x : Nat, i ≤ x → (x : Int) < endv l i → 0 ≤ kv vs l x ∧ kv vs l x ≤ 2
  | 0, i, hn, h, x, h1, h2 => by have := (endv_in l i (kv_end vs l i h)).2; omega
  | n + 1, i, hn, h, x, h1, h2 => by
    have hE := kv_end vs l i h
    have hs := kv_step vs l i hE
    rw [hs] at h
    obtain ⟨f1, f2, f3⟩ := step_facts _ _ _ _ h
    by_cases hx : x = i
    · subst hx; rw [hs]; exact f2
    · obtain ⟨j, hj, g1, g2⟩ := kid_at l i hE x (by omega) h2
      have hf := kid_facts l i j hj
      have hk : 0 ≤ kv vs l (kidsv l i)[j] := f3 _ (List.mem_map.2 ⟨_, List.getElem_mem _, rfl⟩)
      obtain ⟨a, ha⟩ := Int.eq_ofNat_of_zero_le (show 0 ≤ (kidsv l i)[j] by omega)
      rw [ha] at hf hk g1 g2
      have hk' : kv vs l a ≠ -1 := by
        intro e
        have : kv vs l ((a : Nat) : Int) = -1 := e
        omega
      exact kind_below vs l n a (by omega) hk' x (by omega) g2

theorem typedV_more (vs : List Int) (t n : Int) (h : 0 ≤ typedV vs n) : typedV (vs ++ [t]) n = typedV vs n := by
  obtain ⟨a, b, c⟩ := typedV_in h
  unfold typedV
  rw [if_neg (by omega), if_neg (by omega), List.getD, List.getD, List.getElem?_append_left b]
theorem sizeV_typed {vs : List Int} {n : Int} (h : sizeV (typedV vs n) ≠ 0) : 0 ≤ typedV vs n := by
  unfold sizeV at h
  split at h
  · omega
  · exact absurd rfl h
theorem rule_more (vs : List Int) (t : Int) (x : Nd) (n : Nat) (r : RuleT) (h : ruleKind vs x.2 r ≠ -1) : ruleKind (vs ++ [t]) x.2 r = ruleKind vs x.2 r ∧ askV (vs ++ [t]) x n r = askV vs x n r := by
  cases r with
  | plain ks is => exact ⟨rfl, rfl⟩
  | none => exact ⟨rfl, rfl⟩
  | array ks is =>
    simp only [ruleKind, arrayKindV] at h ⊢
    split at h
    · exact absurd rfl h
    · rename_i hz
      rw [typedV_more vs t x.2 (sizeV_typed hz)]
      exact ⟨rfl, rfl⟩
  | scalar b =>
    simp only [ruleKind, scalarKindV] at h ⊢
    split at h
    · rename_i hz
      have hp : 0 ≤ typedV vs x.2 := by omega
      rw [typedV_more vs t x.2 hp]
      refine ⟨rfl, ?_⟩
      obtain ⟨c1, c2, c3⟩ := typedV_in hp
      cases b with
      | false => rfl
      | true =>
        simp only [askV]
        rw [if_pos c2, if_pos (by simp; omega), List.getD, List.getD, List.getElem?_append_left c2]
    · exact absurd rfl h
/-- A variable more, and a node that has a kind keeps it. -/
theorem kind_more (vs : List Int) (t : Int) (l : List Nd) : ∀ (n i : Nat), l.length ≤ i + n → kv vs l i ≠ -1 → kv (vs ++ [t]) l i = kv vs l i
  | 0, i, hn, h => by have := (endv_in l i (kv_end vs l i h)).2; omega
  | n + 1, i, hn, h => by
    have hE := kv_end vs l i h
    have hs := kv_step vs l i hE
    rw [hs] at h
    obtain ⟨f1, f2, f3⟩ := step_facts _ _ _ _ h
    have hk : (kidsv l i).map (kv (vs ++ [t]) l) = (kidsv l i).map (kv vs l) := by
      refine List.map_congr_left fun y hy => ?_
      obtain ⟨j, hj, rfl⟩ := List.getElem_of_mem hy
      have hf := kid_facts l i j hj
      have hk : 0 ≤ kv vs l (kidsv l i)[j] := f3 _ (List.mem_map.2 ⟨_, List.getElem_mem _, rfl⟩)
      obtain ⟨a, ha⟩ := Int.eq_ofNat_of_zero_le (show 0 ≤ (kidsv l i)[j] by omega)
      rw [ha] at hf hk ⊢
      exact kind_more vs t l n a (by omega) (by intro e; have : kv vs l ((a : Nat) : Int) = -1 := e; omega)
    rw [hs, kv_step _ _ _ hE, hk]
    obtain ⟨r1, r2⟩ := rule_more vs t (nodeAt l i) ((kidsv l i).map (kv vs l)).length (ruleOf (nodeAt l i).1) f1
    simp only [stepV]
    rw [r1, r2]
end Go.Proofs.Ytbnmkdlmalobaaa
end

section
namespace Go.Proofs.Ytbnmkdlmalobaaa
open Go.RowKit
set_option linter.unusedVariables false
set_option linter.unusedSimpArgs false

theorem part_pure (l : List Nd) (i : Int) (h : l.length ≤ 3000000) (H : Heap) : liftF F_Part [nodesD l, iD i] H = some (nodesD (partV l i), H) := by
  rw [liftF_pure _ _ _ rfl]; simp [F_Part, h]
theorem replace_pure (l r : List Nd) (i : Int) (h : l.length ≤ 3000000) (h' : r.length ≤ 3000000) (H : Heap) : liftF F_Replace [nodesD l, iD i, nodesD r] H = some (nodesD (replV l i r), H) := by
  rw [liftF_pure _ _ _ rfl]; simp [F_Replace, h, h']
theorem depth_pure (l : List Nd) (i : Int) (h : l.length ≤ 3000000) (H : Heap) : liftF F_Depth [nodesD l, iD i] H = some (iD (depV l.length l i), H) := by
  rw [liftF_pure _ _ _ rfl]; simp [F_Depth, h]
theorem knd_kv (p : Pg) (i : Int) : knd p i = kv p.vars p.body i := rfl
theorem part_len (l : List Nd) (i : Int) : (partV l i).length ≤ l.length := by
  unfold partV
  split
  · simp
  · simp; omega
theorem chk9_ok {p : Pg} (h : chk9 p = 0) : checkV p.body = 0 ∧ varsV p = 0 ∧ (nodeAt p.body 0).1 = 20 ∧ knd p 0 = 2 := by
  unfold chk9 at h
  by_cases h1 : checkV p.body = 0
  · rw [if_neg (by simp [h1])] at h
    by_cases h2 : varsV p = 0
    · rw [if_neg (by simp [h2])] at h
      split at h
      · cases h
      · rename_i h3
        rw [not_or] at h3
        exact ⟨h1, h2, Decidable.not_not.1 h3.1, Decidable.not_not.1 h3.2⟩
    · rw [if_pos h2] at h; exact absurd h h2
  · rw [if_pos h1] at h; exact absurd h h1
theorem check_whole {l : List Nd} (h : checkV l = 0) : endv l 0 = l.length := by
  unfold checkV at h
  split at h
  · cases h
  split at h
  · cases h
  split at h
  · cases h
  split at h
  · cases h
  · rename_i h4; exact Decidable.not_not.1 h4
theorem scan_good : ∀ (l : List Nd) (a : Nat), scan a l = some l.length → ∀ x ∈ l, 0 ≤ ar x
  | [], a, h => by simp
  | x :: r, 0, h => by rw [scan_zero] at h; simp at h
  | x :: r, a + 1, h => by
    rw [scan_cons] at h
    split at h
    · cases h
    · rename_i hx
      obtain ⟨c, hc, e⟩ := Option.map_eq_some_iff.1 h
      have hc' : scan (a + (ar x).toNat) r = some r.length := by rw [hc]; simp at e; rw [e]
      intro y hy
      rcases List.mem_cons.1 hy with rfl | hy
      · omega
      · exact scan_good r _ hc' y hy
theorem whole_fine {l : List Nd} (h : endv l 0 = l.length) : hasBad l = false := by
  have := scan_good l 1 (whole_scan h)
  unfold hasBad
  simpa using this
theorem whole_check {l : List Nd} (h : endv l 0 = l.length) (hl : l.length ≤ 200) : checkV l = 0 ∨ (checkV l = 13 ∧ 30 < depV l.length l 0) := by
  have h0 := whole_pos h
  unfold checkV
  rw [if_neg (by omega), if_neg (by omega), if_neg (by simp [whole_fine h]), if_neg (by simp [h])]
  split
  · rename_i hd; exact .inr ⟨rfl, hd⟩
  · exact .inl rfl
theorem chk9_repl {p : Pg} {k : Nat} {r : List Nd} (h : chk9 p = 0) (hk : k < p.body.length) (hl : p.body.length ≤ 60) (hr : endv r 0 = r.length) (hrl : r.length ≤ 60) (e1 : knd ⟨p.params, p.vars, r⟩ 0 = knd p k) (e2 : (nodeAt r 0).1 = (nodeAt p.body k).1) :
    knd ⟨p.params, p.vars, replV p.body k r⟩ 0 = 2 ∧ (replV p.body k r).length ≤ 120 ∧ (chk9 ⟨p.params, p.vars, replV p.body k r⟩ = 0 ∨ (chk9 ⟨p.params, p.vars, replV p.body k r⟩ = 13 ∧ 30 < depV (replV p.body k r).length (replV p.body k r) 0)) := by
  obtain ⟨c1, c2, c3, c4⟩ := chk9_ok h
  have hw := check_whole c1
  rw [knd_kv] at c4
  have hE : 0 ≤ endv p.body k := by
    have hne : kv p.vars p.body ((0 : Nat) : Int) ≠ -1 := by intro e; have : kv p.vars p.body 0 = -1 := e; omega
    have := (kind_below p.vars p.body p.body.length 0 (by omega) hne k (by omega) (by rw [show ((0 : Nat) : Int) = 0 from rfl, hw]; omega)).1
    exact kv_end p.vars p.body k (by omega)
  rw [knd_kv, knd_kv] at e1
  obtain ⟨g1, g2⟩ := kind_repl p.vars hw hE hr e1 e2
  have hlen := repl_len (r := r) hE
  have hww := repl_whole hw hE hr
  have hk2 : knd ⟨p.params, p.vars, replV p.body k r⟩ 0 = 2 := by rw [knd_kv]; exact g1.symm.trans c4
  have hl2 : (replV p.body k r).length ≤ 120 := by omega
  refine ⟨hk2, hl2, ?_⟩
  have hv : varsV ⟨p.params, p.vars, replV p.body k r⟩ = 0 := c2
  unfold chk9
  rcases whole_check hww (by omega) with hc | ⟨hc, hd⟩
  · refine .inl ?_
    rw [if_neg (by simp [hc]), if_neg (by simp [hv]), if_neg]
    rw [not_or]
    exact ⟨Decidable.not_not.2 (g2.symm.trans c3), Decidable.not_not.2 hk2⟩
  · refine .inr ⟨?_, hd⟩
    rw [if_pos (by simp [hc])]
    exact hc

theorem build2 (vs : List Int) (b : List Nd) : buildR [(0, 1), (1, 1), (2, 1)] [iD 0, .v (.slice none 0 0), .v (.slice none 0 0)] [(1, intsD vs), (2, nodesD b)] = some (progD ⟨0, vs, b⟩) := rfl
theorem build3 (a : Int) (vs : List Int) (b : List Nd) : buildR [(0, 1), (1, 1), (2, 1)] [iD 0, .v (.slice none 0 0), .v (.slice none 0 0)] [(0, iD a), (1, intsD vs), (2, nodesD b)] = some (progD ⟨a, vs, b⟩) := rfl

theorem kindsPart_text (p : Pg) (i : Int) : ∃ H, textK Try.prog L09 kp_offshootlaw09_KindsPart 0 Try.f8 [progD p, iD i] [] = some (bD true, H) := by
  rw [sh_offshootlaw09_KindsPart]
  have ep : ∀ p : Pg, D.agg [iD p.params, intsD p.vars, nodesD p.body] = progD p := fun _ => rfl
  cases h1 : fewV p with
  | false => exact ⟨_, by simp [true_pure, few_pure, ep, h1]; rfl⟩
  | true =>
    obtain ⟨_, _, hp, hp'⟩ := few_fits h1
    by_cases hE : endv p.body i < 0
    · have hk : knd p i = -1 := kv_no _ _ _ hE
      exact ⟨_, by simp [true_pure, few_pure, ep, h1, end_pure p.body i hp', hE, of9_pure p i hp', hk]; rfl⟩
    · have h0 : 0 ≤ endv p.body i := by omega
      obtain ⟨k, rfl⟩ := Int.eq_ofNat_of_zero_le (endv_in _ _ h0).1
      have hq : (partV p.body k).length ≤ 3000000 := Nat.le_trans (part_len _ _) hp'
      have ho := of9_pure ⟨0, p.vars, partV p.body k⟩ 0 hq
      have hk : knd ⟨0, p.vars, partV p.body k⟩ 0 = knd p k := kind_part p.vars p.body k h0
      have eq : D.agg [iD 0, intsD p.vars, nodesD (partV p.body k)] = progD ⟨0, p.vars, partV p.body k⟩ := rfl
      exact ⟨_, by simp [true_pure, few_pure, ep, build2, h1, end_pure p.body k hp', hE, of9_pure p k hp', part_pure p.body k hp', ho, hk]; rfl⟩

theorem below_loop (p : Pg) (ks : List Int) (hp : p.body.length ≤ 3000000) (hks : ks.length ≤ 200) (hk : ∀ x ∈ ks, 0 ≤ knd p x) (s0 s2 s3 s4 : D) :
    loopF Try.prog L09 kp_offshootlaw09_KindsBelow 201 Try.f6 0 [s0, .hp 0 0, s2, s3, s4, intsD ks, iD 0] [.cells 25 3 [iD p.params, intsD p.vars, nodesD p.body]] = some (.exit 0, [s0, .hp 0 0, s2, s3, s4, intsD ks, iD ks.length], [.cells 25 3 [iD p.params, intsD p.vars, nodesD p.body]]) := by
  have ep : D.agg [iD p.params, intsD p.vars, nodesD p.body] = progD p := rfl
  have hs := loopF_scan (P := Try.prog) (T := L09) (kp := kp_offshootlaw09_KindsBelow) (fn := Try.f6) (li := 0) (fun j => [s0, .hp 0 0, s2, s3, s4, intsD ks, iD j]) [.cells 25 3 [iD p.params, intsD p.vars, nodesD p.body]] ks.length (fun _ => true) (fun _ => (.ret, [], [])) (.exit 0, [s0, .hp 0 0, s2, s3, s4, intsD ks, iD ks.length], [.cells 25 3 [iD p.params, intsD p.vars, nodesD p.body]]) (fun i => by intro e; cases e) (by intro e; cases e) 0 201 (Nat.zero_le _) (by omega) (fun j _ hj _ => by
    have e1 := intD_add (j : Int) 1 (by omega) (by omega)
    have h1 : (j : Int) < ks.length := by omega
    have h2 := of9_pure p ks[j] hp [.cells 25 3 [iD p.params, intsD p.vars, nodesD p.body]]
    have h3 : ¬ knd p ks[j] < 0 := by have := hk _ (List.getElem_mem hj); omega
    rw [st_offshootlaw09_KindsBelow_0]
    simp [h1, idx_intsN _ _ hj, h2, h3, e1, ep]) (fun j _ _ h => by cases h) (by
    rw [st_offshootlaw09_KindsBelow_0]
    simp)
  rcases hs with h | ⟨i, _, _, h, _⟩
  · exact h.2
  · cases h
theorem kindsBelow_text (p : Pg) (i : Int) : ∃ H, textK Try.prog L09 kp_offshootlaw09_KindsBelow 201 Try.f6 [progD p, iD i] [] = some (bD true, H) := by
  rw [sh_offshootlaw09_KindsBelow]
  have ep : ∀ p : Pg, D.agg [iD p.params, intsD p.vars, nodesD p.body] = progD p := fun _ => rfl
  cases h1 : fewV p with
  | false => exact ⟨_, by simp [true_pure, few_pure, ep, h1]; rfl⟩
  | true =>
    obtain ⟨_, _, hp, hp'⟩ := few_fits h1
    by_cases h2 : chk9 p = 0
    case neg => exact ⟨_, by simp [true_pure, few_pure, ep, h1, check9_pure p hp', h2]; rfl⟩
    by_cases h3 : i < 0
    case pos => exact ⟨_, by simp [true_pure, few_pure, ep, h1, check9_pure p hp', h2, h3]; rfl⟩
    obtain ⟨k, rfl⟩ := Int.eq_ofNat_of_zero_le (Int.not_lt.1 h3)
    by_cases h4 : p.body.length ≤ k
    case pos => exact ⟨_, by simp [true_pure, few_pure, ep, h1, check9_pure p hp', h2, h3, h4]; rfl⟩
    obtain ⟨c1, c2, c3, c4⟩ := chk9_ok h2
    have hw := check_whole c1
    rw [knd_kv] at c4
    have hne : kv p.vars p.body ((0 : Nat) : Int) ≠ -1 := by intro e; have : kv p.vars p.body 0 = -1 := e; omega
    have hall : ∀ x : Nat, x < p.body.length → 0 ≤ knd p x ∧ knd p x ≤ 2 := fun x hx =>
      kind_below p.vars p.body p.body.length 0 (by omega) hne x (by omega) (by rw [show ((0 : Nat) : Int) = 0 from rfl, hw]; omega)
    obtain ⟨k1, k2⟩ := hall k (by omega)
    have h0 : 0 ≤ endv p.body k := kv_end p.vars p.body k (by rw [← knd_kv]; omega)
    have hq : (partV p.body k).length ≤ 3000000 := Nat.le_trans (part_len _ _) hp'
    have ho := of9_pure ⟨p.params, p.vars, partV p.body k⟩ 0 hq
    have hk : knd ⟨p.params, p.vars, partV p.body k⟩ 0 = knd p k := kind_part p.vars p.body k h0
    have eq : D.agg [iD p.params, intsD p.vars, nodesD (partV p.body k)] = progD ⟨p.params, p.vars, partV p.body k⟩ := rfl
    have hkl := kidsv_len p.body k
    have hloop := below_loop p (kidsv p.body k) hp' hkl (fun x hx => by
      obtain ⟨c, hc, rfl⟩ := List.getElem_of_mem hx
      have hf := kid_facts p.body k c hc
      obtain ⟨a, ha⟩ := Int.eq_ofNat_of_zero_le (show 0 ≤ (kidsv p.body k)[c] by omega)
      rw [ha] at hf ⊢
      exact (hall a (by simpa using hf.2.2.2)).1)
    exact ⟨_, by simp [true_pure, few_pure, ep, build3, h1, check9_pure p hp', h2, h3, h4, of9_pure p k hp', kids_pure p.body k hp', hloop, part_pure p.body k hp', ho, hk, k1, k2]; rfl⟩

theorem kindsReplaced_text (p : Pg) (i : Int) (r : List Nd) : ∃ H, textK Try.prog L09 kp_offshootlaw09_KindsReplaced 0 Try.f7 [progD p, iD i, nodesD r] [] = some (bD true, H) := by
  rw [sh_offshootlaw09_KindsReplaced]
  have ep : ∀ p : Pg, D.agg [iD p.params, intsD p.vars, nodesD p.body] = progD p := fun _ => rfl
  cases h1 : fewV p with
  | false => exact ⟨_, by simp [true_pure, few_pure, ep, h1]; rfl⟩
  | true =>
    obtain ⟨hl60, _, hp, hp'⟩ := few_fits h1
    by_cases hrl : r.length ≤ 60
    case neg => exact ⟨_, by simp [true_pure, few_pure, ep, h1, show ¬ ((r.length : Nat) : Int) ≤ 60 from by omega]; rfl⟩
    have hrl' : ((r.length : Nat) : Int) ≤ 60 := by omega
    have hr0 : r.length ≤ 3000000 := by omega
    by_cases h2 : chk9 p = 0
    case neg => exact ⟨_, by simp [true_pure, few_pure, ep, h1, hrl', check9_pure p hp', h2]; rfl⟩
    by_cases h3 : i < 0
    case pos => exact ⟨_, by simp [true_pure, few_pure, ep, h1, hrl', check9_pure p hp', h2, h3]; rfl⟩
    obtain ⟨k, rfl⟩ := Int.eq_ofNat_of_zero_le (Int.not_lt.1 h3)
    by_cases h4 : p.body.length ≤ k
    case pos => exact ⟨_, by simp [true_pure, few_pure, ep, h1, hrl', check9_pure p hp', h2, h3, h4]; rfl⟩
    have hk : k < p.body.length := by omega
    have eqw : D.agg [iD p.params, intsD p.vars, nodesD r] = progD ⟨p.params, p.vars, r⟩ := rfl
    generalize hw : (⟨p.params, p.vars, r⟩ : Pg) = w at *
    have eqv : (w.params = p.params ∧ w.vars = p.vars ∧ w.body = r) := by subst hw; exact ⟨rfl, rfl, rfl⟩
    have a1 : ∀ o : HO, allocH 25 [iD 0, .v (.slice none 0 0), .v (.slice none 0 0)] [o] = some (.hp 1 0, [o, .cells 25 3 [iD 0, .v (.slice none 0 0), .v (.slice none 0 0)]]) := fun _ => rfl
    have s1 : ∀ (o : HO) (q : Pg), setH 3 (.hp 1 0) (progD q) [o, .cells 25 3 [iD 0, .v (.slice none 0 0), .v (.slice none 0 0)]] = some (.v undef, [o, .cells 25 3 [iD q.params, intsD q.vars, nodesD q.body]]) := fun _ _ => rfl
    have a2 : ∀ o o1 : HO, allocH 25 [iD 0, .v (.slice none 0 0), .v (.slice none 0 0)] [o, o1] = some (.hp 2 0, [o, o1, .cells 25 3 [iD 0, .v (.slice none 0 0), .v (.slice none 0 0)]]) := fun _ _ => rfl
    have s2 : ∀ (o o1 : HO) (q : Pg), setH 3 (.hp 2 0) (progD q) [o, o1, .cells 25 3 [iD 0, .v (.slice none 0 0), .v (.slice none 0 0)]] = some (.v undef, [o, o1, .cells 25 3 [iD q.params, intsD q.vars, nodesD q.body]]) := fun _ _ _ => rfl
    have l0 : ∀ (H : Heap), loadH (some 3) (.cells 25 3 [iD p.params, intsD p.vars, nodesD p.body] :: H) (.hp 0 0) = some (progD p) := fun _ => rfl
    have l1 : ∀ (o : HO) (H : Heap) (q : Pg), loadH (some 3) (o :: .cells 25 3 [iD q.params, intsD q.vars, nodesD q.body] :: H) (.hp 1 0) = some (progD q) := fun _ _ _ => rfl
    have l2 : ∀ (o o1 : HO) (H : Heap) (q : Pg), loadH (some 3) (o :: o1 :: .cells 25 3 [iD q.params, intsD q.vars, nodesD q.body] :: H) (.hp 2 0) = some (progD q) := fun _ _ _ _ => rfl
    have f0 : ∀ (H : Heap), loadH none (.cells 25 3 [iD p.params, intsD p.vars, nodesD p.body] :: H) (.hp 0 0) = some (iD p.params) := fun _ => rfl
    have f1 : ∀ (H : Heap), loadH none (.cells 25 3 [iD p.params, intsD p.vars, nodesD p.body] :: H) (.hp 0 1) = some (intsD p.vars) := fun _ => rfl
    have f2 : ∀ (H : Heap), loadH none (.cells 25 3 [iD p.params, intsD p.vars, nodesD p.body] :: H) (.hp 0 2) = some (nodesD p.body) := fun _ => rfl
    have f5 : ∀ (o o1 : HO) (H : Heap) (q : Pg), loadH none (o :: o1 :: .cells 25 3 [iD q.params, intsD q.vars, nodesD q.body] :: H) (.hp 2 2) = some (nodesD q.body) := fun _ _ _ _ => rfl
    by_cases h5 : endv r 0 = r.length
    case neg => exact ⟨_, by simp [true_pure, few_pure, ep, h1, hrl', check9_pure p hp', h2, h3, h4, f0, f1, f2, l0, build3, eqw, a1, s1, end_pure r 0 hr0, h5]; rfl⟩
    have hwb : w.body.length ≤ 3000000 := by rw [eqv.2.2]; exact hr0
    by_cases h6 : knd w 0 = knd p k
    case neg => exact ⟨_, by simp [true_pure, few_pure, ep, h1, hrl', check9_pure p hp', h2, h3, h4, f0, f1, f2, l0, l1, build3, eqw, a1, s1, end_pure r 0 hr0, h5, of9_pure w 0 hwb, of9_pure p k hp', h6]; rfl⟩
    have hr1 := whole_pos h5
    have i1 := idx_nodesN r 0 hr1
    have i2 := idx_nodesN p.body k hk
    simp only [cast0] at i1
    by_cases h7 : (r[0]).1 = (p.body[k]).1
    case neg => exact ⟨_, by simp [true_pure, few_pure, ep, h1, hrl', check9_pure p hp', h2, h3, h4, f0, f1, f2, l0, l1, build3, eqw, a1, s1, end_pure r 0 hr0, h5, of9_pure w 0 hwb, of9_pure p k hp', h6, i1, i2, h7]; rfl⟩
    have e2 : (nodeAt r 0).1 = (nodeAt p.body k).1 := by
      have : nodeAt r 0 = r[0] := by unfold nodeAt; exact getD_in _ 0 _ hr1
      have h : nodeAt p.body k = p.body[k] := by unfold nodeAt; rw [Int.toNat_natCast, getD_in _ _ _ hk]
      rw [this, h, h7]
    subst hw
    obtain ⟨q1, q2, q3⟩ := chk9_repl h2 hk hl60 h5 hrl h6 e2
    have eqn : D.agg [iD p.params, intsD p.vars, nodesD (replV p.body k r)] = progD ⟨p.params, p.vars, replV p.body k r⟩ := rfl
    generalize hn : (⟨p.params, p.vars, replV p.body k r⟩ : Pg) = n at *
    have hnb : n.body = replV p.body k r := by subst hn; rfl
    have hnl : n.body.length ≤ 3000000 := by rw [hnb]; omega
    have hwl : (⟨p.params, p.vars, r⟩ : Pg).body.length ≤ 3000000 := hr0
    rcases q3 with q3 | ⟨q3, q4⟩
    · exact ⟨_, by simp [true_pure, few_pure, ep, h1, hrl', check9_pure p hp', h2, h3, h4, f0, f1, f2, l0, l1, l2, build3, eqw, a1, s1, a2, s2, end_pure r 0 hr0, h5, of9_pure _ 0 hwl, of9_pure p k hp', h6, i1, i2, h7, replace_pure p.body r k hp' hr0, eqn, check9_pure n hnl, of9_pure n 0 hnl, q1, q3]; rfl⟩
    · exact ⟨_, by simp [true_pure, few_pure, ep, h1, hrl', check9_pure p hp', h2, h3, h4, f0, f1, f2, f5, l0, l1, l2, build3, eqw, a1, s1, a2, s2, end_pure r 0 hr0, h5, of9_pure _ 0 hwl, of9_pure p k hp', h6, i1, i2, h7, replace_pure p.body r k hp' hr0, eqn, check9_pure n hnl, of9_pure n 0 hnl, q1, q3, depth_pure (replV p.body k r) 0 (by omega), q4]; rfl⟩
end Go.Proofs.Ytbnmkdlmalobaaa
end
