/-
  Parts joined into one text: ShL12, DeltLaw, Pure9, Law12, KindLaw, KindBelow. No condition.
-/
import Derived.Test.YtalehbmgbjiigaaEm
import Derived.Test.YtalehbmgbjiigaaEn
import Derived.Test.YtalehbmgbjiigaaEp
import Derived.Test.YtalehbmgbjiigaaEs
import Derived.Test.YtalehbmgbjiigaaEt
import Derived.Test.YtalehbmgbjiigaaEu

section
namespace Go.Proofs.Ytalehbmgbjiigaa
open Go.RowKit
set_option linter.unusedVariables false
set_option maxRecDepth 100000

def kp_offshootlaw12_DeltaApplies : List Nat := []
theorem sh_offshootlaw12_DeltaApplies (n : Nat) (x0 x1 : D) (h : Heap) : textK Try.prog (L12 Try.prog) kp_offshootlaw12_DeltaApplies n Try.f3 [x0, x1] h =
(thnH (boxH 25 x0 h) fun y0 h1 =>
thnH (boxH 27 x1 h1) fun y2 h3 =>
thnH (liftF F_true12 [] h3) fun y4 h5 =>
thn (notD y4) fun y6 =>
condK y6
(some ((bD false), h5))
(thn (loadH (some 3) h5 y0) fun y7 =>
thnH (liftF F_Few [y7] h5) fun y8 h9 =>
condK y8
(thn (loadH (some 3) h9 y2) fun y10 =>
thnH (liftF F_dfew [y10] h9) fun y11 h12 =>
thn (notD y11) fun y13 =>
condK y13
(some (y4, h12))
(thn (loadH (some 3) h12 y0) fun y14 =>
thn (loadH (some 3) h12 y2) fun y15 =>
thnH (liftF F_DApply [y14, y15] h12) fun y16 h17 =>
thn (extractD y16 0) fun y18 =>
thn (extractD y16 1) fun y19 =>
thnH (allocH 25 [(iD 0), (.v (.slice none 0 0)), (.v (.slice none 0 0))] h17) fun y20 h21 =>
thnH (setH 3 y20 y18 h21) fun y22 h23 =>
thn (loadH (some 3) h23 y0) fun y24 =>
thn (loadH (some 3) h23 y2) fun y25 =>
thnH (liftF F_DApply [y24, y25] h23) fun y26 h27 =>
thn (extractD y26 0) fun y28 =>
thn (extractD y26 1) fun y29 =>
thnH (allocH 25 [(iD 0), (.v (.slice none 0 0)), (.v (.slice none 0 0))] h27) fun y30 h31 =>
thnH (setH 3 y30 y28 h31) fun y32 h33 =>
thn (loadH (some 3) h33 y20) fun y34 =>
thn (loadH (some 3) h33 y30) fun y35 =>
thnH (liftF F_Same9 [y34, y35] h33) fun y36 h37 =>
condK y4
(condK y36
(thn (binK .int .eql y19 y29) fun y38 =>
some (y38, h37))
(some ((bD false), h37)))
(some ((bD false), h37))))
(thn (notD (bD false)) fun y39 =>
condK y39
(some (y4, h9))
(thn (loadH (some 3) h9 y0) fun y40 =>
thn (loadH (some 3) h9 y2) fun y41 =>
thnH (liftF F_DApply [y40, y41] h9) fun y42 h43 =>
thn (extractD y42 0) fun y44 =>
thn (extractD y42 1) fun y45 =>
thnH (allocH 25 [(iD 0), (.v (.slice none 0 0)), (.v (.slice none 0 0))] h43) fun y46 h47 =>
thnH (setH 3 y46 y44 h47) fun y48 h49 =>
thn (loadH (some 3) h49 y0) fun y50 =>
thn (loadH (some 3) h49 y2) fun y51 =>
thnH (liftF F_DApply [y50, y51] h49) fun y52 h53 =>
thn (extractD y52 0) fun y54 =>
thn (extractD y52 1) fun y55 =>
thnH (allocH 25 [(iD 0), (.v (.slice none 0 0)), (.v (.slice none 0 0))] h53) fun y56 h57 =>
thnH (setH 3 y56 y54 h57) fun y58 h59 =>
thn (loadH (some 3) h59 y46) fun y60 =>
thn (loadH (some 3) h59 y56) fun y61 =>
thnH (liftF F_Same9 [y60, y61] h59) fun y62 h63 =>
condK y4
(condK y62
(thn (binK .int .eql y45 y55) fun y64 =>
some (y64, h63))
(some ((bD false), h63)))
(some ((bD false), h63)))))) := by kernel_rfl

def kp_offshootlaw12_DeltaBytes : List Nat := []
theorem sh_offshootlaw12_DeltaBytes (n : Nat) (x0 x1 : D) (h : Heap) : textK Try.prog (L12 Try.prog) kp_offshootlaw12_DeltaBytes n Try.f4 [x0, x1] h =
(thnH (boxH 27 x0 h) fun y0 h1 =>
thnH (liftF F_true12 [] h1) fun y2 h3 =>
thn (notD y2) fun y4 =>
condK y4
(some ((bD false), h3))
(thn (loadH (some 3) h3 y0) fun y5 =>
thnH (liftF F_dfew [y5] h3) fun y6 h7 =>
thn (notD y6) fun y8 =>
condK y8
(some (y2, h7))
(thn (lenH .str x1) fun y9 =>
thn (binK .int .gtr y9 (iD 300)) fun y10 =>
condK y10
(some (y2, h7))
(thn (loadH (some 3) h7 y0) fun y11 =>
thnH (liftF F_DPut [y11] h7) fun y12 h13 =>
thn (extractD y12 0) fun y14 =>
thn (extractD y12 1) fun y15 =>
thn (loadH (some 3) h13 y0) fun y16 =>
thnH (liftF F_DPut [y16] h13) fun y17 h18 =>
thn (extractD y17 0) fun y19 =>
thn (extractD y17 1) fun y20 =>
thnH (liftF F_DGet [x1] h18) fun y21 h22 =>
thn (extractD y21 0) fun y23 =>
thn (extractD y21 1) fun y24 =>
thnH (allocH 27 [(.v (.slice none 0 0)), (iD 0), (iD 0)] h22) fun y25 h26 =>
thnH (setH 3 y25 y23 h26) fun y27 h28 =>
thnH (liftF F_DGet [x1] h28) fun y29 h30 =>
thn (extractD y29 0) fun y31 =>
thn (extractD y29 1) fun y32 =>
thnH (allocH 27 [(.v (.slice none 0 0)), (iD 0), (iD 0)] h30) fun y33 h34 =>
thnH (setH 3 y33 y31 h34) fun y35 h36 =>
condK y2
(thn (binK .str .eql y14 y19) fun y37 =>
condK y37
(thn (binK .int .eql y15 y20) fun y38 =>
condK y38
(thn (loadH (some 3) h36 y25) fun y39 =>
thn (loadH (some 3) h36 y33) fun y40 =>
thnH (liftF F_DCompare [y39, y40] h36) fun y41 h42 =>
thn (binK .int .eql y41 (iD 0)) fun y43 =>
condK y43
(thn (binK .int .eql y24 y32) fun y44 =>
some (y44, h42))
(some ((bD false), h42)))
(some ((bD false), h36)))
(some ((bD false), h36)))
(some ((bD false), h36)))))) := by kernel_rfl

def kp_offshootlaw12_DeltaBack : List Nat := []
theorem sh_offshootlaw12_DeltaBack (n : Nat) (x0 x1 : D) (h : Heap) : textK Try.prog (L12 Try.prog) kp_offshootlaw12_DeltaBack n Try.f5 [x0, x1] h =
(thnH (boxH 27 x0 h) fun y0 h1 =>
thnH (liftF F_true12 [] h1) fun y2 h3 =>
thn (notD y2) fun y4 =>
condK y4
(some ((bD false), h3))
(thn (loadH (some 3) h3 y0) fun y5 =>
thnH (liftF F_dfew [y5] h3) fun y6 h7 =>
thn (notD y6) fun y8 =>
condK y8
(some (y2, h7))
(thn (lenH .str x1) fun y9 =>
thn (binK .int .gtr y9 (iD 300)) fun y10 =>
condK y10
(some (y2, h7))
(thn (loadH (some 3) h7 y0) fun y11 =>
thnH (liftF F_DPut [y11] h7) fun y12 h13 =>
thn (extractD y12 0) fun y14 =>
thn (extractD y12 1) fun y15 =>
thn (binK .int .eql y15 (iD 0)) fun y16 =>
condK y16
(thnH (liftF F_DGet [y14] h13) fun y17 h18 =>
thn (extractD y17 0) fun y19 =>
thn (extractD y17 1) fun y20 =>
thnH (allocH 27 [(.v (.slice none 0 0)), (iD 0), (iD 0)] h18) fun y21 h22 =>
thnH (setH 3 y21 y19 h22) fun y23 h24 =>
thn (binK .int .neq y20 (iD 0)) fun y25 =>
condK y25
(some ((bD false), h24))
(thn (loadH (some 3) h24 y21) fun y26 =>
thn (loadH (some 3) h24 y0) fun y27 =>
thnH (liftF F_DSame [y26, y27] h24) fun y28 h29 =>
thn (notD y28) fun y30 =>
condK y30
(some ((bD false), h29))
(thnH (liftF F_DGet [x1] h29) fun y31 h32 =>
thn (extractD y31 0) fun y33 =>
thn (extractD y31 1) fun y34 =>
thnH (allocH 27 [(.v (.slice none 0 0)), (iD 0), (iD 0)] h32) fun y35 h36 =>
thnH (setH 3 y35 y33 h36) fun y37 h38 =>
thn (binK .int .neq y34 (iD 0)) fun y39 =>
condK y39
(condK y2
(thn (binK .int .eql y34 (iD 12)) fun y40 =>
condK y40
(thn (fieldAtH 0 y35) fun y41 =>
thn (loadH none h38 y41) fun y42 =>
thn (lenH .sl y42) fun y43 =>
thn (binK .int .eql y43 (iD 0)) fun y44 =>
some (y44, h38))
(some ((bD false), h38)))
(some ((bD false), h38)))
(thn (loadH (some 3) h38 y35) fun y45 =>
thnH (liftF F_DPut [y45] h38) fun y46 h47 =>
thn (extractD y46 0) fun y48 =>
thn (extractD y46 1) fun y49 =>
condK y2
(thn (binK .int .eql y49 (iD 0)) fun y50 =>
condK y50
(thn (binK .str .eql y48 x1) fun y51 =>
some (y51, h47))
(some ((bD false), h47)))
(some ((bD false), h47))))))
(thnH (liftF F_DGet [x1] h13) fun y52 h53 =>
thn (extractD y52 0) fun y54 =>
thn (extractD y52 1) fun y55 =>
thnH (allocH 27 [(.v (.slice none 0 0)), (iD 0), (iD 0)] h53) fun y56 h57 =>
thnH (setH 3 y56 y54 h57) fun y58 h59 =>
thn (binK .int .neq y55 (iD 0)) fun y60 =>
condK y60
(condK y2
(thn (binK .int .eql y55 (iD 12)) fun y61 =>
condK y61
(thn (fieldAtH 0 y56) fun y62 =>
thn (loadH none h59 y62) fun y63 =>
thn (lenH .sl y63) fun y64 =>
thn (binK .int .eql y64 (iD 0)) fun y65 =>
some (y65, h59))
(some ((bD false), h59)))
(some ((bD false), h59)))
(thn (loadH (some 3) h59 y56) fun y66 =>
thnH (liftF F_DPut [y66] h59) fun y67 h68 =>
thn (extractD y67 0) fun y69 =>
thn (extractD y67 1) fun y70 =>
condK y2
(thn (binK .int .eql y70 (iD 0)) fun y71 =>
condK y71
(thn (binK .str .eql y69 x1) fun y72 =>
some (y72, h68))
(some ((bD false), h68)))
(some ((bD false), h68)))))))) := by kernel_rfl

def kp_offshootlaw12_DeltaElse : List Nat := []
theorem sh_offshootlaw12_DeltaElse (n : Nat) (x0 x1 x2 : D) (h : Heap) : textK Try.prog (L12 Try.prog) kp_offshootlaw12_DeltaElse n Try.f6 [x0, x1, x2] h =
(thnH (boxH 25 x0 h) fun y0 h1 =>
thnH (boxH 27 x1 h1) fun y2 h3 =>
thnH (liftF F_true12 [] h3) fun y4 h5 =>
thn (notD y4) fun y6 =>
condK y6
(some ((bD false), h5))
(thn (loadH (some 3) h5 y0) fun y7 =>
thnH (liftF F_Few [y7] h5) fun y8 h9 =>
condK y8
(thn (loadH (some 3) h9 y2) fun y10 =>
thnH (liftF F_dfew [y10] h9) fun y11 h12 =>
thn (notD y11) fun y13 =>
condK y13
(some (y4, h12))
(thn (binK .int .lss x2 (iD 0)) fun y14 =>
condK y14
(some (y4, h12))
(thn (fieldAtH 2 y0) fun y15 =>
thn (loadH none h12 y15) fun y16 =>
thn (lenH .sl y16) fun y17 =>
thn (binK .int .geq x2 y17) fun y18 =>
condK y18
(some (y4, h12))
(thn (loadH (some 3) h12 y0) fun y19 =>
thn (loadH (some 3) h12 y2) fun y20 =>
thnH (liftF F_DApply [y19, y20] h12) fun y21 h22 =>
thn (extractD y21 0) fun y23 =>
thn (extractD y21 1) fun y24 =>
thnH (allocH 25 [(iD 0), (.v (.slice none 0 0)), (.v (.slice none 0 0))] h22) fun y25 h26 =>
thnH (setH 3 y25 y23 h26) fun y27 h28 =>
thn (fieldAtH 2 y0) fun y29 =>
thn (loadH none h28 y29) fun y30 =>
thn (fieldAtH 0 y2) fun y31 =>
thn (loadH none h28 y31) fun y32 =>
thnH (liftF F_Find [y30, y32] h28) fun y33 h34 =>
thn (fieldAtH 2 y0) fun y35 =>
thn (loadH none h34 y35) fun y36 =>
thnH (liftF F_End [y36, y33] h34) fun y37 h38 =>
thn (binK .int .neq y24 (iD 0)) fun y39 =>
condK y39
(condK y4
(thn (fieldAtH 2 y25) fun y40 =>
thn (loadH none h38 y40) fun y41 =>
thn (lenH .sl y41) fun y42 =>
thn (binK .int .eql y42 (iD 0)) fun y43 =>
some (y43, h38))
(some ((bD false), h38)))
(thn (fieldAtH 2 y25) fun y44 =>
thn (loadH none h38 y44) fun y45 =>
thn (lenH .sl y45) fun y46 =>
thn (fieldAtH 2 y0) fun y47 =>
thn (loadH none h38 y47) fun y48 =>
thn (lenH .sl y48) fun y49 =>
thn (binK .int .sub y46 y49) fun y50 =>
thn (binK .int .add y50 x2) fun y51 =>
thn (binK .int .lss x2 y33) fun y52 =>
condK y52
(condK y4
(thn (fieldAtH 2 y25) fun y53 =>
thn (loadH none h38 y53) fun y54 =>
thn (lenH .sl y54) fun y55 =>
thn (binK .int .lss x2 y55) fun y56 =>
condK y56
(thn (fieldAtH 2 y25) fun y57 =>
thn (loadH none h38 y57) fun y58 =>
thn (idxH 2 y58 x2) fun y59 =>
thn (loadH (some 2) h38 y59) fun y60 =>
thn (fieldAtH 2 y0) fun y61 =>
thn (loadH none h38 y61) fun y62 =>
thn (idxH 2 y62 x2) fun y63 =>
thn (loadH (some 2) h38 y63) fun y64 =>
thn (binK (.ints 2) .eql y60 y64) fun y65 =>
some (y65, h38))
(some ((bD false), h38)))
(some ((bD false), h38)))
(thn (binK .int .lss x2 y37) fun y66 =>
condK y66
(some (y4, h38))
(thn (fieldAtH 1 y25) fun y67 =>
thn (loadH none h38 y67) fun y68 =>
thn (fieldAtH 1 y0) fun y69 =>
thn (loadH none h38 y69) fun y70 =>
thnH (liftF F_RefInts [y68, y70] h38) fun y71 h72 =>
condK y4
(condK y71
(thn (fieldAtH 0 y25) fun y73 =>
thn (loadH none h72 y73) fun y74 =>
thn (fieldAtH 0 y0) fun y75 =>
thn (loadH none h72 y75) fun y76 =>
thn (binK .int .eql y74 y76) fun y77 =>
condK y77
(thn (binK .int .geq y51 (iD 0)) fun y78 =>
condK y78
(thn (fieldAtH 2 y25) fun y79 =>
thn (loadH none h72 y79) fun y80 =>
thn (lenH .sl y80) fun y81 =>
thn (binK .int .lss y51 y81) fun y82 =>
condK y82
(thn (fieldAtH 2 y25) fun y83 =>
thn (loadH none h72 y83) fun y84 =>
thn (idxH 2 y84 y51) fun y85 =>
thn (loadH (some 2) h72 y85) fun y86 =>
thn (fieldAtH 2 y0) fun y87 =>
thn (loadH none h72 y87) fun y88 =>
thn (idxH 2 y88 x2) fun y89 =>
thn (loadH (some 2) h72 y89) fun y90 =>
thn (binK (.ints 2) .eql y86 y90) fun y91 =>
some (y91, h72))
(some ((bD false), h72)))
(some ((bD false), h72)))
(some ((bD false), h72)))
(some ((bD false), h72)))
(some ((bD false), h72)))))))))
(thn (notD (bD false)) fun y92 =>
condK y92
(some (y4, h9))
(thn (binK .int .lss x2 (iD 0)) fun y93 =>
condK y93
(some (y4, h9))
(thn (fieldAtH 2 y0) fun y94 =>
thn (loadH none h9 y94) fun y95 =>
thn (lenH .sl y95) fun y96 =>
thn (binK .int .geq x2 y96) fun y97 =>
condK y97
(some (y4, h9))
(thn (loadH (some 3) h9 y0) fun y98 =>
thn (loadH (some 3) h9 y2) fun y99 =>
thnH (liftF F_DApply [y98, y99] h9) fun y100 h101 =>
thn (extractD y100 0) fun y102 =>
thn (extractD y100 1) fun y103 =>
thnH (allocH 25 [(iD 0), (.v (.slice none 0 0)), (.v (.slice none 0 0))] h101) fun y104 h105 =>
thnH (setH 3 y104 y102 h105) fun y106 h107 =>
thn (fieldAtH 2 y0) fun y108 =>
thn (loadH none h107 y108) fun y109 =>
thn (fieldAtH 0 y2) fun y110 =>
thn (loadH none h107 y110) fun y111 =>
thnH (liftF F_Find [y109, y111] h107) fun y112 h113 =>
thn (fieldAtH 2 y0) fun y114 =>
thn (loadH none h113 y114) fun y115 =>
thnH (liftF F_End [y115, y112] h113) fun y116 h117 =>
thn (binK .int .neq y103 (iD 0)) fun y118 =>
condK y118
(condK y4
(thn (fieldAtH 2 y104) fun y119 =>
thn (loadH none h117 y119) fun y120 =>
thn (lenH .sl y120) fun y121 =>
thn (binK .int .eql y121 (iD 0)) fun y122 =>
some (y122, h117))
(some ((bD false), h117)))
(thn (fieldAtH 2 y104) fun y123 =>
thn (loadH none h117 y123) fun y124 =>
thn (lenH .sl y124) fun y125 =>
thn (fieldAtH 2 y0) fun y126 =>
thn (loadH none h117 y126) fun y127 =>
thn (lenH .sl y127) fun y128 =>
thn (binK .int .sub y125 y128) fun y129 =>
thn (binK .int .add y129 x2) fun y130 =>
thn (binK .int .lss x2 y112) fun y131 =>
condK y131
(condK y4
(thn (fieldAtH 2 y104) fun y132 =>
thn (loadH none h117 y132) fun y133 =>
thn (lenH .sl y133) fun y134 =>
thn (binK .int .lss x2 y134) fun y135 =>
condK y135
(thn (fieldAtH 2 y104) fun y136 =>
thn (loadH none h117 y136) fun y137 =>
thn (idxH 2 y137 x2) fun y138 =>
thn (loadH (some 2) h117 y138) fun y139 =>
thn (fieldAtH 2 y0) fun y140 =>
thn (loadH none h117 y140) fun y141 =>
thn (idxH 2 y141 x2) fun y142 =>
thn (loadH (some 2) h117 y142) fun y143 =>
thn (binK (.ints 2) .eql y139 y143) fun y144 =>
some (y144, h117))
(some ((bD false), h117)))
(some ((bD false), h117)))
(thn (binK .int .lss x2 y116) fun y145 =>
condK y145
(some (y4, h117))
(thn (fieldAtH 1 y104) fun y146 =>
thn (loadH none h117 y146) fun y147 =>
thn (fieldAtH 1 y0) fun y148 =>
thn (loadH none h117 y148) fun y149 =>
thnH (liftF F_RefInts [y147, y149] h117) fun y150 h151 =>
condK y4
(condK y150
(thn (fieldAtH 0 y104) fun y152 =>
thn (loadH none h151 y152) fun y153 =>
thn (fieldAtH 0 y0) fun y154 =>
thn (loadH none h151 y154) fun y155 =>
thn (binK .int .eql y153 y155) fun y156 =>
condK y156
(thn (binK .int .geq y130 (iD 0)) fun y157 =>
condK y157
(thn (fieldAtH 2 y104) fun y158 =>
thn (loadH none h151 y158) fun y159 =>
thn (lenH .sl y159) fun y160 =>
thn (binK .int .lss y130 y160) fun y161 =>
condK y161
(thn (fieldAtH 2 y104) fun y162 =>
thn (loadH none h151 y162) fun y163 =>
thn (idxH 2 y163 y130) fun y164 =>
thn (loadH (some 2) h151 y164) fun y165 =>
thn (fieldAtH 2 y0) fun y166 =>
thn (loadH none h151 y166) fun y167 =>
thn (idxH 2 y167 x2) fun y168 =>
thn (loadH (some 2) h151 y168) fun y169 =>
thn (binK (.ints 2) .eql y165 y169) fun y170 =>
some (y170, h151))
(some ((bD false), h151)))
(some ((bD false), h151)))
(some ((bD false), h151)))
(some ((bD false), h151)))
(some ((bD false), h151))))))))))) := by kernel_rfl

def kp_offshootlaw12_DeltaOrder : List Nat := []
theorem sh_offshootlaw12_DeltaOrder (n : Nat) (x0 x1 x2 : D) (h : Heap) : textK Try.prog (L12 Try.prog) kp_offshootlaw12_DeltaOrder n Try.f7 [x0, x1, x2] h =
(thnH (boxH 27 x0 h) fun y0 h1 =>
thnH (boxH 27 x1 h1) fun y2 h3 =>
thnH (boxH 27 x2 h3) fun y4 h5 =>
thnH (liftF F_true12 [] h5) fun y6 h7 =>
thn (notD y6) fun y8 =>
condK y8
(some ((bD false), h7))
(thn (loadH (some 3) h7 y0) fun y9 =>
thnH (liftF F_dfew [y9] h7) fun y10 h11 =>
thn (notD y10) fun y12 =>
condK y12
(some (y6, h11))
(thn (loadH (some 3) h11 y2) fun y13 =>
thnH (liftF F_dfew [y13] h11) fun y14 h15 =>
thn (notD y14) fun y16 =>
condK y16
(some (y6, h15))
(thn (loadH (some 3) h15 y4) fun y17 =>
thnH (liftF F_dfew [y17] h15) fun y18 h19 =>
thn (notD y18) fun y20 =>
condK y20
(some (y6, h19))
(thn (loadH (some 3) h19 y0) fun y21 =>
thn (loadH (some 3) h19 y2) fun y22 =>
thnH (liftF F_DCompare [y21, y22] h19) fun y23 h24 =>
thn (loadH (some 3) h24 y2) fun y25 =>
thn (loadH (some 3) h24 y4) fun y26 =>
thnH (liftF F_DCompare [y25, y26] h24) fun y27 h28 =>
thn (loadH (some 3) h28 y0) fun y29 =>
thn (loadH (some 3) h28 y4) fun y30 =>
thnH (liftF F_DCompare [y29, y30] h28) fun y31 h32 =>
thn (loadH (some 3) h32 y0) fun y33 =>
thnH (liftF F_DPut [y33] h32) fun y34 h35 =>
thn (extractD y34 0) fun y36 =>
thn (extractD y34 1) fun y37 =>
thn (loadH (some 3) h35 y2) fun y38 =>
thnH (liftF F_DPut [y38] h35) fun y39 h40 =>
thn (extractD y39 0) fun y41 =>
thn (extractD y39 1) fun y42 =>
thn (binK .int .eql y37 (iD 0)) fun y43 =>
condK y43
(thn (binK .int .eql y42 (iD 0)) fun y44 =>
condK y44
(thn (binK .str .eql y36 y41) fun y45 =>
thn (binK .int .eql y23 (iD 0)) fun y46 =>
thn (binK .bool .neq y45 y46) fun y47 =>
condK y47
(some ((bD false), h40))
(condK y6
(thn (loadH (some 3) h40 y0) fun y48 =>
thn (loadH (some 3) h40 y2) fun y49 =>
thnH (liftF F_DCompare [y48, y49] h40) fun y50 h51 =>
thn (binK .int .eql y23 y50) fun y52 =>
condK y52
(thn (loadH (some 3) h51 y2) fun y53 =>
thn (loadH (some 3) h51 y0) fun y54 =>
thnH (liftF F_DCompare [y53, y54] h51) fun y55 h56 =>
thn (negD y23) fun y57 =>
thn (binK .int .eql y55 y57) fun y58 =>
condK y58
(thn (binK .int .gtr y23 (iD 0)) fun y59 =>
condK y59
(thn (loadH (some 3) h56 y0) fun y60 =>
thn (loadH (some 3) h56 y2) fun y61 =>
thnH (liftF F_DSame [y60, y61] h56) fun y62 h63 =>
thn (binK .int .eql y23 (iD 0)) fun y64 =>
thn (binK .bool .eql y62 y64) fun y65 =>
some (y65, h63))
(thn (binK .int .gtr y27 (iD 0)) fun y66 =>
condK y66
(thn (loadH (some 3) h56 y0) fun y67 =>
thn (loadH (some 3) h56 y2) fun y68 =>
thnH (liftF F_DSame [y67, y68] h56) fun y69 h70 =>
thn (binK .int .eql y23 (iD 0)) fun y71 =>
thn (binK .bool .eql y69 y71) fun y72 =>
some (y72, h70))
(thn (binK .int .leq y31 (iD 0)) fun y73 =>
condK y73
(thn (loadH (some 3) h56 y0) fun y74 =>
thn (loadH (some 3) h56 y2) fun y75 =>
thnH (liftF F_DSame [y74, y75] h56) fun y76 h77 =>
thn (binK .int .eql y23 (iD 0)) fun y78 =>
thn (binK .bool .eql y76 y78) fun y79 =>
some (y79, h77))
(some ((bD false), h56)))))
(some ((bD false), h56)))
(some ((bD false), h51)))
(some ((bD false), h40))))
(condK y6
(thn (loadH (some 3) h40 y0) fun y80 =>
thn (loadH (some 3) h40 y2) fun y81 =>
thnH (liftF F_DCompare [y80, y81] h40) fun y82 h83 =>
thn (binK .int .eql y23 y82) fun y84 =>
condK y84
(thn (loadH (some 3) h83 y2) fun y85 =>
thn (loadH (some 3) h83 y0) fun y86 =>
thnH (liftF F_DCompare [y85, y86] h83) fun y87 h88 =>
thn (negD y23) fun y89 =>
thn (binK .int .eql y87 y89) fun y90 =>
condK y90
(thn (binK .int .gtr y23 (iD 0)) fun y91 =>
condK y91
(thn (loadH (some 3) h88 y0) fun y92 =>
thn (loadH (some 3) h88 y2) fun y93 =>
thnH (liftF F_DSame [y92, y93] h88) fun y94 h95 =>
thn (binK .int .eql y23 (iD 0)) fun y96 =>
thn (binK .bool .eql y94 y96) fun y97 =>
some (y97, h95))
(thn (binK .int .gtr y27 (iD 0)) fun y98 =>
condK y98
(thn (loadH (some 3) h88 y0) fun y99 =>
thn (loadH (some 3) h88 y2) fun y100 =>
thnH (liftF F_DSame [y99, y100] h88) fun y101 h102 =>
thn (binK .int .eql y23 (iD 0)) fun y103 =>
thn (binK .bool .eql y101 y103) fun y104 =>
some (y104, h102))
(thn (binK .int .leq y31 (iD 0)) fun y105 =>
condK y105
(thn (loadH (some 3) h88 y0) fun y106 =>
thn (loadH (some 3) h88 y2) fun y107 =>
thnH (liftF F_DSame [y106, y107] h88) fun y108 h109 =>
thn (binK .int .eql y23 (iD 0)) fun y110 =>
thn (binK .bool .eql y108 y110) fun y111 =>
some (y111, h109))
(some ((bD false), h88)))))
(some ((bD false), h88)))
(some ((bD false), h83)))
(some ((bD false), h40))))
(condK y6
(thn (loadH (some 3) h40 y0) fun y112 =>
thn (loadH (some 3) h40 y2) fun y113 =>
thnH (liftF F_DCompare [y112, y113] h40) fun y114 h115 =>
thn (binK .int .eql y23 y114) fun y116 =>
condK y116
(thn (loadH (some 3) h115 y2) fun y117 =>
thn (loadH (some 3) h115 y0) fun y118 =>
thnH (liftF F_DCompare [y117, y118] h115) fun y119 h120 =>
thn (negD y23) fun y121 =>
thn (binK .int .eql y119 y121) fun y122 =>
condK y122
(thn (binK .int .gtr y23 (iD 0)) fun y123 =>
condK y123
(thn (loadH (some 3) h120 y0) fun y124 =>
thn (loadH (some 3) h120 y2) fun y125 =>
thnH (liftF F_DSame [y124, y125] h120) fun y126 h127 =>
thn (binK .int .eql y23 (iD 0)) fun y128 =>
thn (binK .bool .eql y126 y128) fun y129 =>
some (y129, h127))
(thn (binK .int .gtr y27 (iD 0)) fun y130 =>
condK y130
(thn (loadH (some 3) h120 y0) fun y131 =>
thn (loadH (some 3) h120 y2) fun y132 =>
thnH (liftF F_DSame [y131, y132] h120) fun y133 h134 =>
thn (binK .int .eql y23 (iD 0)) fun y135 =>
thn (binK .bool .eql y133 y135) fun y136 =>
some (y136, h134))
(thn (binK .int .leq y31 (iD 0)) fun y137 =>
condK y137
(thn (loadH (some 3) h120 y0) fun y138 =>
thn (loadH (some 3) h120 y2) fun y139 =>
thnH (liftF F_DSame [y138, y139] h120) fun y140 h141 =>
thn (binK .int .eql y23 (iD 0)) fun y142 =>
thn (binK .bool .eql y140 y142) fun y143 =>
some (y143, h141))
(some ((bD false), h120)))))
(some ((bD false), h120)))
(some ((bD false), h115)))
(some ((bD false), h40)))))))) := by kernel_rfl

def kp_offshootlaw12_DeltaTwice : List Nat := []
theorem sh_offshootlaw12_DeltaTwice (n : Nat) (x0 x1 : D) (h : Heap) : textK Try.prog (L12 Try.prog) kp_offshootlaw12_DeltaTwice n Try.f8 [x0, x1] h =
(thnH (boxH 25 x0 h) fun y0 h1 =>
thnH (boxH 27 x1 h1) fun y2 h3 =>
thnH (liftF F_true12 [] h3) fun y4 h5 =>
thn (notD y4) fun y6 =>
condK y6
(some ((bD false), h5))
(thn (loadH (some 3) h5 y0) fun y7 =>
thnH (liftF F_Few [y7] h5) fun y8 h9 =>
condK y8
(thn (loadH (some 3) h9 y2) fun y10 =>
thnH (liftF F_dfew [y10] h9) fun y11 h12 =>
thn (notD y11) fun y13 =>
condK y13
(some (y4, h12))
(thn (fieldAtH 1 y2) fun y14 =>
thn (loadH none h12 y14) fun y15 =>
thn (binK .int .gtr y15 (iD 4)) fun y16 =>
condK y16
(some (y4, h12))
(thn (loadH (some 3) h12 y0) fun y17 =>
thn (loadH (some 3) h12 y2) fun y18 =>
thnH (liftF F_DApply [y17, y18] h12) fun y19 h20 =>
thn (extractD y19 0) fun y21 =>
thn (extractD y19 1) fun y22 =>
thnH (allocH 25 [(iD 0), (.v (.slice none 0 0)), (.v (.slice none 0 0))] h20) fun y23 h24 =>
thnH (setH 3 y23 y21 h24) fun y25 h26 =>
thn (fieldAtH 2 y0) fun y27 =>
thn (loadH none h26 y27) fun y28 =>
thn (fieldAtH 0 y2) fun y29 =>
thn (loadH none h26 y29) fun y30 =>
thnH (liftF F_Find [y28, y30] h26) fun y31 h32 =>
thn (binK .int .neq y22 (iD 0)) fun y33 =>
condK y33
(some (y4, h32))
(thn (binK .int .lss y31 (iD 0)) fun y34 =>
condK y34
(some (y4, h32))
(thn (fieldAtH 2 y0) fun y35 =>
thn (loadH none h32 y35) fun y36 =>
thn (lenH .sl y36) fun y37 =>
thn (binK .int .geq y31 y37) fun y38 =>
condK y38
(some (y4, h32))
(thn (fieldAtH 0 y2) fun y39 =>
thn (loadH none h32 y39) fun y40 =>
thn (fieldAtH 1 y2) fun y41 =>
thn (loadH none h32 y41) fun y42 =>
thn (fieldAtH 2 y0) fun y43 =>
thn (loadH none h32 y43) fun y44 =>
thn (idxH 2 y44 y31) fun y45 =>
thn (fieldAtH 0 y45) fun y46 =>
thn (loadH none h32 y46) fun y47 =>
thn (buildR [(0, 1), (1, 1), (2, 1)] [(.v (.slice none 0 0)), (iD 0), (iD 0)] [(0, y40), (1, y42), (2, y47)]) fun y48 =>
thnH (allocH 27 [(.v (.slice none 0 0)), (iD 0), (iD 0)] h32) fun y49 h50 =>
thnH (setH 3 y49 y48 h50) fun y51 h52 =>
thn (fieldAtH 1 y2) fun y53 =>
thn (loadH none h52 y53) fun y54 =>
thn (binK .int .eql y54 (iD 4)) fun y55 =>
condK y55
(thn (fieldAtH 2 y0) fun y56 =>
thn (loadH none h52 y56) fun y57 =>
thn (idxH 2 y57 y31) fun y58 =>
thn (fieldAtH 1 y58) fun y59 =>
thn (loadH none h52 y59) fun y60 =>
thn (fieldAtH 2 y49) fun y61 =>
thnH (setH 1 y61 y60 h52) fun y62 h63 =>
thn (loadH (some 3) h63 y23) fun y64 =>
thn (loadH (some 3) h63 y49) fun y65 =>
thnH (liftF F_DApply [y64, y65] h63) fun y66 h67 =>
thn (extractD y66 0) fun y68 =>
thn (extractD y66 1) fun y69 =>
thnH (allocH 25 [(iD 0), (.v (.slice none 0 0)), (.v (.slice none 0 0))] h67) fun y70 h71 =>
thnH (setH 3 y70 y68 h71) fun y72 h73 =>
thn (loadH (some 3) h73 y70) fun y74 =>
thn (loadH (some 3) h73 y0) fun y75 =>
thnH (liftF F_Same9 [y74, y75] h73) fun y76 h77 =>
condK y4
(thn (binK .int .eql y69 (iD 0)) fun y78 =>
condK y78
(some (y76, h77))
(some ((bD false), h77)))
(some ((bD false), h77)))
(thn (loadH (some 3) h52 y23) fun y79 =>
thn (loadH (some 3) h52 y49) fun y80 =>
thnH (liftF F_DApply [y79, y80] h52) fun y81 h82 =>
thn (extractD y81 0) fun y83 =>
thn (extractD y81 1) fun y84 =>
thnH (allocH 25 [(iD 0), (.v (.slice none 0 0)), (.v (.slice none 0 0))] h82) fun y85 h86 =>
thnH (setH 3 y85 y83 h86) fun y87 h88 =>
thn (loadH (some 3) h88 y85) fun y89 =>
thn (loadH (some 3) h88 y0) fun y90 =>
thnH (liftF F_Same9 [y89, y90] h88) fun y91 h92 =>
condK y4
(thn (binK .int .eql y84 (iD 0)) fun y93 =>
condK y93
(some (y91, h92))
(some ((bD false), h92)))
(some ((bD false), h92)))))))))
(thn (notD (bD false)) fun y94 =>
condK y94
(some (y4, h9))
(thn (fieldAtH 1 y2) fun y95 =>
thn (loadH none h9 y95) fun y96 =>
thn (binK .int .gtr y96 (iD 4)) fun y97 =>
condK y97
(some (y4, h9))
(thn (loadH (some 3) h9 y0) fun y98 =>
thn (loadH (some 3) h9 y2) fun y99 =>
thnH (liftF F_DApply [y98, y99] h9) fun y100 h101 =>
thn (extractD y100 0) fun y102 =>
thn (extractD y100 1) fun y103 =>
thnH (allocH 25 [(iD 0), (.v (.slice none 0 0)), (.v (.slice none 0 0))] h101) fun y104 h105 =>
thnH (setH 3 y104 y102 h105) fun y106 h107 =>
thn (fieldAtH 2 y0) fun y108 =>
thn (loadH none h107 y108) fun y109 =>
thn (fieldAtH 0 y2) fun y110 =>
thn (loadH none h107 y110) fun y111 =>
thnH (liftF F_Find [y109, y111] h107) fun y112 h113 =>
thn (binK .int .neq y103 (iD 0)) fun y114 =>
condK y114
(some (y4, h113))
(thn (binK .int .lss y112 (iD 0)) fun y115 =>
condK y115
(some (y4, h113))
(thn (fieldAtH 2 y0) fun y116 =>
thn (loadH none h113 y116) fun y117 =>
thn (lenH .sl y117) fun y118 =>
thn (binK .int .geq y112 y118) fun y119 =>
condK y119
(some (y4, h113))
(thn (fieldAtH 0 y2) fun y120 =>
thn (loadH none h113 y120) fun y121 =>
thn (fieldAtH 1 y2) fun y122 =>
thn (loadH none h113 y122) fun y123 =>
thn (fieldAtH 2 y0) fun y124 =>
thn (loadH none h113 y124) fun y125 =>
thn (idxH 2 y125 y112) fun y126 =>
thn (fieldAtH 0 y126) fun y127 =>
thn (loadH none h113 y127) fun y128 =>
thn (buildR [(0, 1), (1, 1), (2, 1)] [(.v (.slice none 0 0)), (iD 0), (iD 0)] [(0, y121), (1, y123), (2, y128)]) fun y129 =>
thnH (allocH 27 [(.v (.slice none 0 0)), (iD 0), (iD 0)] h113) fun y130 h131 =>
thnH (setH 3 y130 y129 h131) fun y132 h133 =>
thn (fieldAtH 1 y2) fun y134 =>
thn (loadH none h133 y134) fun y135 =>
thn (binK .int .eql y135 (iD 4)) fun y136 =>
condK y136
(thn (fieldAtH 2 y0) fun y137 =>
thn (loadH none h133 y137) fun y138 =>
thn (idxH 2 y138 y112) fun y139 =>
thn (fieldAtH 1 y139) fun y140 =>
thn (loadH none h133 y140) fun y141 =>
thn (fieldAtH 2 y130) fun y142 =>
thnH (setH 1 y142 y141 h133) fun y143 h144 =>
thn (loadH (some 3) h144 y104) fun y145 =>
thn (loadH (some 3) h144 y130) fun y146 =>
thnH (liftF F_DApply [y145, y146] h144) fun y147 h148 =>
thn (extractD y147 0) fun y149 =>
thn (extractD y147 1) fun y150 =>
thnH (allocH 25 [(iD 0), (.v (.slice none 0 0)), (.v (.slice none 0 0))] h148) fun y151 h152 =>
thnH (setH 3 y151 y149 h152) fun y153 h154 =>
thn (loadH (some 3) h154 y151) fun y155 =>
thn (loadH (some 3) h154 y0) fun y156 =>
thnH (liftF F_Same9 [y155, y156] h154) fun y157 h158 =>
condK y4
(thn (binK .int .eql y150 (iD 0)) fun y159 =>
condK y159
(some (y157, h158))
(some ((bD false), h158)))
(some ((bD false), h158)))
(thn (loadH (some 3) h133 y104) fun y160 =>
thn (loadH (some 3) h133 y130) fun y161 =>
thnH (liftF F_DApply [y160, y161] h133) fun y162 h163 =>
thn (extractD y162 0) fun y164 =>
thn (extractD y162 1) fun y165 =>
thnH (allocH 25 [(iD 0), (.v (.slice none 0 0)), (.v (.slice none 0 0))] h163) fun y166 h167 =>
thnH (setH 3 y166 y164 h167) fun y168 h169 =>
thn (loadH (some 3) h169 y166) fun y170 =>
thn (loadH (some 3) h169 y0) fun y171 =>
thnH (liftF F_Same9 [y170, y171] h169) fun y172 h173 =>
condK y4
(thn (binK .int .eql y165 (iD 0)) fun y174 =>
condK y174
(some (y172, h173))
(some ((bD false), h173)))
(some ((bD false), h173))))))))))) := by kernel_rfl

end Go.Proofs.Ytalehbmgbjiigaa
end

section
namespace Go.Proofs.Ytalehbmgbjiigaa
open Go.RowKit
set_option linter.unusedVariables false
set_option linter.unusedSimpArgs false

theorem downV_alike {l l' : List Nd} (h : Alike l l') : ∀ (p : List Int) (i : Int), downV l i p = downV l' i p
  | [], i => rfl
  | n :: r, i => by
    unfold downV
    rw [kidsv_alike h i]
    split
    · exact downV_alike h r _
    · rfl
theorem findv_alike {l l' : List Nd} (h : Alike l l') (p : List Int) : findv l p = findv l' p := by
  unfold findv
  rw [endv_alike h, h.len, downV_alike h]
/-- What was done by an operator that changes a node alone is undone. -/
theorem apply_back (p : Pg) (d : Dl) (h4 : d.op ≤ 4) (h : (applyV p d).2 = 0) :
    applyV (applyV p d).1 ⟨d.path, d.op, if d.op = 4 then (nodeAt p.body (findv p.body d.path)).2 else (nodeAt p.body (findv p.body d.path)).1⟩ = (p, 0) := by
  rcases apply_cases p d with ⟨_, e⟩ | ⟨k, h1, h2, h3, hx, h5, ⟨_, e⟩ | ⟨hm, e⟩⟩
  · rw [e] at h; cases h
  · rw [e] at h; cases h
  · obtain ⟨y, b1, b2, b3⟩ := changed_back h3 _ hx hm h4
    have ha := changed_alike h3 _ hx hm h4
    have hf : findv (changedV p.body k (nodeAt p.body k) d.op d.n) d.path = k := by rw [← findv_alike ha, h1]
    have hy : nodeAt (changedV p.body k (nodeAt p.body k) d.op d.n) ((k : Nat) : Int) = y := nodeAt_get b1
    rw [e, h1]
    unfold applyV
    simp only
    rw [hf, if_neg (by omega), hy, if_pos b2]
    simp only [Int.toNat_natCast]
    rw [b3]
/-- All else stays. -/
theorem apply_else (p : Pg) (d : Dl) (h : (applyV p d).2 = 0) : (applyV p d).1.params = p.params ∧ (applyV p d).1.vars = p.vars ∧ 0 ≤ findv p.body d.path ∧ (applyV p d).1.body.length ≤ p.body.length + 1 ∧
    (∀ i : Nat, (i : Int) < findv p.body d.path → (applyV p d).1.body[i]? = p.body[i]?) ∧
    ∀ i : Nat, endv p.body (findv p.body d.path) ≤ i → i < p.body.length → p.body.length ≤ (applyV p d).1.body.length + i ∧ (applyV p d).1.body[(applyV p d).1.body.length + i - p.body.length]? = p.body[i]? := by
  rcases apply_cases p d with ⟨_, e⟩ | ⟨k, h1, h2, h3, hx, h5, ⟨_, e⟩ | ⟨hm, e⟩⟩
  · rw [e] at h; cases h
  · rw [e] at h; cases h
  · obtain ⟨c1, c2, c3, c4⟩ := changed_else h5 h3 _ hx hm
    rw [e, h1]
    exact ⟨rfl, rfl, by omega, c2, fun i hi => c3 i (by omega), c4⟩
theorem apply_none (p : Pg) (d : Dl) (h : (applyV p d).2 ≠ 0) : (applyV p d).1 = ⟨0, [], []⟩ := by
  rcases apply_cases p d with ⟨_, e⟩ | ⟨k, h1, h2, h3, hx, h5, ⟨_, e⟩ | ⟨hm, e⟩⟩
  · rw [e]
  · rw [e]
  · rw [e] at h; exact absurd rfl h
/-- Two deltas that can be put have one text just if they are alike. -/
theorem enc_same {a b : Dl} (ha : rightV a = true) (hb : rightV b = true) (hia : dlIn a) (hib : dlIn b) : encDl a = encDl b ↔ cmpDl a b = 0 := by
  rw [cmpDl_zero]
  exact ⟨encDl_inj ha hb hia hib, fun h => by rw [h]⟩
end Go.Proofs.Ytalehbmgbjiigaa
end

section
namespace Go.Proofs.Ytalehbmgbjiigaa
open Go.RowKit
set_option linter.unusedVariables false
set_option linter.unusedSimpArgs false

theorem few_pure (p : Pg) (H : Heap) : liftF F_Few [progD p] H = some (bD (fewV p), H) := by
  rw [liftF_pure _ _ _ rfl]
  have : F_Few [progD p] = _ := f1_enc (A := progT) _ p
  rw [this]; rfl
theorem same9_pure (p q : Pg) (hp : p.fits) (hq : q.fits) (H : Heap) : liftF F_Same9 [progD p, progD q] H = some (bD (decide (p = q)), H) := by
  rw [liftF_pure _ _ _ rfl]
  have : F_Same9 [progD p, progD q] = _ := f2_enc (A := progT) (B := progT) _ p q
  rw [this, if_pos ⟨hp, hq⟩]; rfl
theorem few_fits {p : Pg} (h : fewV p = true) : p.body.length ≤ 60 ∧ p.vars.length ≤ 20 ∧ p.fits ∧ p.body.length ≤ 3000000 := by
  simp only [fewV, Bool.and_eq_true, decide_eq_true_eq] at h
  exact ⟨h.1, h.2, ⟨by omega, by omega⟩, by omega⟩

@[simp] theorem cells_prog (p : Pg) : cellsD (progD p) = some [iD p.params, intsD p.vars, nodesD p.body] := rfl
end Go.Proofs.Ytalehbmgbjiigaa
end

section
namespace Go.Proofs.Ytalehbmgbjiigaa
open Go.RowKit
set_option linter.unusedVariables false
set_option linter.unusedSimpArgs false
set_option maxRecDepth 100000

theorem true12_pure (H : Heap) : liftF F_true12 [] H = some (bD true, H) := by rw [liftF_pure _ _ _ rfl]; rfl
theorem dfew_pure (d : Dl) (H : Heap) : liftF F_dfew [dlD d] H = some (bD (decide (d.path.length ≤ 60)), H) := by
  rw [liftF_pure _ _ _ rfl]
  have : F_dfew [dlD d] = _ := f1_enc (A := dlT) _ d
  rw [this]; rfl
theorem dapply_pure (p : Pg) (d : Dl) (h : fitsA p d) (H : Heap) : liftF F_DApply [progD p, dlD d] H = some (.tup [progD (applyV p d).1, iD (applyV p d).2], H) := by
  rw [liftF_pure _ _ _ rfl]
  have : F_DApply [progD p, dlD d] = _ := f2_enc (A := progT) (B := dlT) _ p d
  rw [this, if_pos h]; rfl
theorem dget_pure (s : By) (hs : s.length ≤ 3000) (H : Heap) : liftF F_DGet [sD s] H = some (.tup [dlD (getD12 s).1, iD (getD12 s).2], H) := by
  rw [liftF_pure _ _ _ rfl]
  have : F_DGet [sD s] = _ := f1_enc (A := strT) _ s
  rw [this, if_pos hs]; rfl
theorem dsame_pure (a b : Dl) (ha : a.path.length ≤ 3000000) (hb : b.path.length ≤ 3000000) (H : Heap) : liftF F_DSame [dlD a, dlD b] H = some (bD (decide (a = b)), H) := by
  rw [liftF_pure _ _ _ rfl]
  have : F_DSame [dlD a, dlD b] = _ := f2_enc (A := dlT) (B := dlT) _ a b
  rw [this, if_pos ⟨ha, hb⟩]; rfl
theorem end12_pure (l : List Nd) (i : Int) (h : l.length ≤ 3000000) (H : Heap) : liftF F_End [nodesD l, iD i] H = some (iD (endv l i), H) := by
  rw [liftF_pure _ _ _ rfl]; simp [F_End, h]
@[simp] theorem cells_dl (d : Dl) : cellsD (dlD d) = some [intsD d.path, iD d.op, iD d.n] := rfl
theorem apply_fits (p : Pg) (d : Dl) (hb : p.body.length ≤ 60) (hv : p.vars.length ≤ 20) : (applyV p d).1.body.length ≤ 61 ∧ (applyV p d).1.vars.length ≤ 20 := by
  by_cases h : (applyV p d).2 = 0
  · obtain ⟨_, h2, _, h3, _⟩ := apply_else p d h
    rw [h2]
    omega
  · rw [apply_none p d h]; simp
theorem deltaApplies_text (p : Pg) (d : Dl) : ∃ H, textK Try.prog (L12 Try.prog) kp_offshootlaw12_DeltaApplies 0 Try.f3 [progD p, dlD d] [] = some (bD true, H) := by
  rw [sh_offshootlaw12_DeltaApplies]
  cases h1 : fewV p with
  | false => exact ⟨_, by simp [true12_pure, few_pure, prog_agg, h1]; rfl⟩
  | true =>
    obtain ⟨hb, hv, hp, hp'⟩ := few_fits h1
    by_cases h2 : d.path.length ≤ 60
    · have hA := dapply_pure p d ⟨by omega, by omega, by omega⟩
      obtain ⟨f1, f2⟩ := apply_fits p d hb hv
      have hs := same9_pure (applyV p d).1 (applyV p d).1 ⟨by omega, by omega⟩ ⟨by omega, by omega⟩
      generalize applyV p d = r at *
      exact ⟨_, by simp [true12_pure, few_pure, dfew_pure, prog_agg, dl_agg, h1, h2, hA, allocH, newH, setH, storeH, hs]; rfl⟩
    · exact ⟨_, by simp [true12_pure, few_pure, dfew_pure, prog_agg, dl_agg, h1, h2]; rfl⟩
theorem getD_fits (s : By) : (getD12 s).1.path.length ≤ 30 ∧ dlIn (getD12 s).1 := by
  unfold getD12
  split
  · exact decDl_in s
  · exact ⟨by simp, by simp [dlIn]⟩
theorem deltaBytes_text (d : Dl) (hd : dlIn d) (s : By) : ∃ H, textK Try.prog (L12 Try.prog) kp_offshootlaw12_DeltaBytes 0 Try.f4 [dlD d, sD s] [] = some (bD true, H) := by
  rw [sh_offshootlaw12_DeltaBytes]
  by_cases h2 : d.path.length ≤ 60
  · by_cases h3 : (300 : Int) < s.length
    · exact ⟨_, by simp [true12_pure, dfew_pure, dl_agg, h2, h3]; rfl⟩
    · have hP := fun H => dput_pure d H (by omega) hd
      have hG := dget_pure s (by omega)
      obtain ⟨f1, f2⟩ := getD_fits s
      have hC := fun H => dcompare_pure (getD12 s).1 (getD12 s).1 H (by omega) (by omega)
      have hz : cmpDl (getD12 s).1 (getD12 s).1 = 0 := (cmpDl_zero _ _).2 rfl
      generalize getD12 s = g at *
      exact ⟨_, by simp [true12_pure, dfew_pure, dl_agg, h2, h3, hP, hG, allocH, newH, setH, storeH, hC, hz]; rfl⟩
  · exact ⟨_, by simp [true12_pure, dfew_pure, dl_agg, h2]; rfl⟩
theorem getD_cases (s : By) : ((getD12 s).2 = 0 ∧ putD12 (getD12 s).1 = (s, 0)) ∨ getD12 s = (⟨[], 0, 0⟩, 12) := by
  unfold getD12
  split
  · rename_i h
    left
    refine ⟨rfl, ?_⟩
    unfold putD12
    rw [if_pos h.1, h.2]
  · right; rfl
theorem deltaBack_text (d : Dl) (hd : dlIn d) (s : By) : ∃ H, textK Try.prog (L12 Try.prog) kp_offshootlaw12_DeltaBack 0 Try.f5 [dlD d, sD s] [] = some (bD true, H) := by
  rw [sh_offshootlaw12_DeltaBack]
  by_cases h2 : d.path.length ≤ 60
  · by_cases h3 : (300 : Int) < s.length
    · exact ⟨_, by simp [true12_pure, dfew_pure, dl_agg, h2, h3]; rfl⟩
    · have hP := fun H => dput_pure d H (by omega) hd
      have hG := dget_pure s (by omega)
      obtain ⟨f1, f2⟩ := getD_fits s
      have hQ := fun H => dput_pure (getD12 s).1 H (by omega) f2
      by_cases hr : rightV d = true
      · have hp : putD12 d = (encDl d, 0) := by unfold putD12; rw [if_pos hr]
        have hlen := encDl_len hr
        have hB := dget_pure (encDl d) (by omega)
        rw [get_encD hr hd] at hB
        have hS := fun H => dsame_pure d d (by omega) (by omega) H
        rw [hp] at hP
        rcases getD_cases s with ⟨e1, e2⟩ | e
        · rw [e1] at hG
          rw [e2] at hQ
          generalize (getD12 s).1 = g at *
          exact ⟨_, by simp [true12_pure, dfew_pure, dl_agg, h2, h3, hP, hB, hS, hG, allocH, newH, setH, storeH, hQ]; rfl⟩
        · rw [e] at hG
          exact ⟨_, by simp [true12_pure, dfew_pure, dl_agg, h2, h3, hP, hB, hS, hG, allocH, newH, setH, storeH]; rfl⟩
      · have hp : putD12 d = ([], 17) := by unfold putD12; rw [if_neg hr]
        rw [hp] at hP
        rcases getD_cases s with ⟨e1, e2⟩ | e
        · rw [e1] at hG
          rw [e2] at hQ
          generalize (getD12 s).1 = g at *
          exact ⟨_, by simp [true12_pure, dfew_pure, dl_agg, h2, h3, hP, hG, allocH, newH, setH, storeH, hQ]; rfl⟩
        · rw [e] at hG
          exact ⟨_, by simp [true12_pure, dfew_pure, dl_agg, h2, h3, hP, hG, allocH, newH, setH, storeH]; rfl⟩
  · exact ⟨_, by simp [true12_pure, dfew_pure, dl_agg, h2]; rfl⟩
set_option maxHeartbeats 4000000 in
theorem deltaTwice_text (p : Pg) (d : Dl) : ∃ H, textK Try.prog (L12 Try.prog) kp_offshootlaw12_DeltaTwice 0 Try.f8 [progD p, dlD d] [] = some (bD true, H) := by
  rw [sh_offshootlaw12_DeltaTwice]
  cases h1 : fewV p with
  | false => exact ⟨_, by simp [true12_pure, few_pure, prog_agg, h1]; rfl⟩
  | true =>
    obtain ⟨hb, hv, hp, hp'⟩ := few_fits h1
    by_cases h2 : d.path.length ≤ 60
    case neg => exact ⟨_, by simp [true12_pure, few_pure, dfew_pure, prog_agg, dl_agg, h1, h2]; rfl⟩
    by_cases h3 : 4 < d.op
    · exact ⟨_, by simp [true12_pure, few_pure, dfew_pure, prog_agg, dl_agg, h1, h2, h3]; rfl⟩
    have hA := dapply_pure p d ⟨by omega, by omega, by omega⟩
    have hF := fun H => find_pure p.body d.path H (by omega) (by omega)
    by_cases h4 : (applyV p d).2 = 0
    case neg =>
      have h4' : ((applyV p d).2 != 0) = true := by simpa using h4
      generalize applyV p d = r at *
      exact ⟨_, by simp [true12_pure, few_pure, dfew_pure, prog_agg, dl_agg, h1, h2, h3, hA, allocH, newH, setH, storeH, hF, h4']; rfl⟩
    obtain ⟨f1, f2⟩ := apply_fits p d hb hv
    have hback := apply_back p d (by omega) h4
    rcases apply_cases p d with ⟨_, e⟩ | ⟨k, g1, g2, g3, gx, g5, _⟩
    · rw [e] at h4; cases h4
    rw [g1] at hF hback
    have hi := idx_nodesN p.body k g2
    have hn : p.body[k] = nodeAt p.body k := (nodeAt_in _ k g2).symm
    rw [hn] at hi
    have n1 : ¬ ((k : Int) < 0) := by omega
    have n2 : ¬ ((p.body.length : Int) ≤ k) := by omega
    have hs := same9_pure p p hp hp
    have hb1 : ∀ (a b : Int) (l : List Int), buildR [(0, 1), (1, 1), (2, 1)] [.v (.slice none 0 0), iD 0, iD 0] [(0, intsD l), (1, iD a), (2, iD b)] = some (dlD ⟨l, a, b⟩) := fun _ _ _ => rfl
    have hc1 : ∀ n : Int, cellsD (iD n) = some [iD n] := fun _ => rfl
    have hd2 : ∀ (l : List Int) (a b : Int), D.agg [intsD l, iD a, iD b] = dlD ⟨l, a, b⟩ := fun _ _ _ => rfl
    by_cases h5 : d.op = 4
    · rw [if_pos h5] at hback
      have hA2 := dapply_pure (applyV p d).1 ⟨d.path, d.op, (nodeAt p.body k).2⟩ ⟨by omega, by omega, by simp only; omega⟩
      rw [hback] at hA2
      generalize hx : nodeAt p.body k = x at *
      generalize applyV p d = r at *
      obtain ⟨dp, op, n⟩ := d
      simp only at *
      subst h5
      have g0 : fieldAtH 1 (.ptr (nodeD x)) = some (.ptr [iD x.2]) := rfl
      exact ⟨_, by simp [true12_pure, few_pure, dfew_pure, prog_agg, hd2, h1, h2, h3, hA, allocH, newH, setH, storeH, hF, h4, n1, n2, hi, hb1, hc1, hA2, hs]; rfl⟩
    · rw [if_neg h5] at hback
      have hA2 := dapply_pure (applyV p d).1 ⟨d.path, d.op, (nodeAt p.body k).1⟩ ⟨by omega, by omega, by simp only; omega⟩
      rw [hback] at hA2
      generalize hx : nodeAt p.body k = x at *
      generalize applyV p d = r at *
      obtain ⟨dp, op, n⟩ := d
      simp only at *
      exact ⟨_, by simp [true12_pure, few_pure, dfew_pure, prog_agg, hd2, h1, h2, h3, hA, allocH, newH, setH, storeH, hF, h4, n1, n2, hi, hb1, hc1, h5, hA2, hs]; rfl⟩
end Go.Proofs.Ytalehbmgbjiigaa
end

section
namespace Go.Proofs.Ytalehbmgbjiigaa
open Go.RowKit
set_option linter.unusedVariables false
set_option linter.unusedSimpArgs false

/-- A node's kind, with fuel enough. -/
def kv (vs : List Int) (l : List Nd) (i : Int) : Int := kindV (l.length + 1) vs l i
/-- A node's kind, by its kids' kinds and tags. -/
def stepV (vs : List Int) (x : Nd) (kk tt : List Int) : Int :=
  if ruleKind vs x.2 (ruleOf x.1) = -1 ∨ (askV vs x kk.length (ruleOf x.1)).length ≠ kk.length then -1 else
  if (List.range kk.length).all (fun j => decide (kk.getD j 0 = (askV vs x kk.length (ruleOf x.1)).getD j 0) && !(inner x.1 && decide (0 < j) && !decide (tt.getD j 0 = 20)))
    then ruleKind vs x.2 (ruleOf x.1) else -1
theorem all_congr (n : Nat) (f g : Nat → Bool) (h : ∀ j, j < n → f j = g j) : (List.range n).all f = (List.range n).all g := by
  rw [Bool.eq_iff_iff]
  simp only [List.all_eq_true, List.mem_range]
  exact ⟨fun q j hj => (h j hj) ▸ q j hj, fun q j hj => (h j hj).symm ▸ q j hj⟩
theorem kv_no (vs : List Int) (l : List Nd) (i : Int) (h : endv l i < 0) : kv vs l i = -1 := by rw [kv, kindV, if_pos h]
theorem kv_step (vs : List Int) (l : List Nd) (k : Nat) (h : 0 ≤ endv l k) : kv vs l k = stepV vs (nodeAt l k) ((kidsv l k).map (kv vs l)) ((kidsv l k).map fun j => (nodeAt l j).1) := by
  have hkl : k < l.length := by have := (endv_in l k h).2; simpa using this
  rw [kv, kindV, if_neg (by omega), stepV]
  simp only [List.length_map]
  rw [all_congr _ _ (fun j => decide (((kidsv l k).map (kv vs l)).getD j 0 = (askV vs (nodeAt l k) (kidsv l k).length (ruleOf (nodeAt l k).1)).getD j 0) && !(inner (nodeAt l k).1 && decide (0 < j) && !decide (((kidsv l k).map fun j => (nodeAt l j).1).getD j 0 = 20))) fun j hj => ?_]
  have hf := kid_facts l k j hj
  rw [getD_in _ _ _ hj, getD_in ((kidsv l k).map (kv vs l)) _ _ (by simpa using hj), getD_in ((kidsv l k).map fun j => (nodeAt l j).1) _ _ (by simpa using hj)]
  simp only [List.getElem_map]
  rw [kv, kindV_deep (l.length) (l.length + 1) vs l _ hf.2.1 (by omega) (by omega)]

/-- Nodes alike, or with kids alike, have a kind. -/
theorem kind_sim (vs : List Int) (l l' : List Nd) (R : Nat → Nat → Prop)
    (hR : ∀ i i', R i i' → (kv vs l i = kv vs l' i' ∧ (nodeAt l i).1 = (nodeAt l' i').1) ∨
      (0 ≤ endv l i ∧ 0 ≤ endv l' i' ∧ nodeAt l i = nodeAt l' i' ∧ (kidsv l i).length = (kidsv l' i').length ∧ ∀ j (h : j < (kidsv l i).length) (h' : j < (kidsv l' i').length), ∃ a b : Nat, (kidsv l i)[j] = a ∧ (kidsv l' i')[j] = b ∧ R a b)) :
    ∀ (n i i' : Nat), l.length ≤ i + n → R i i' → kv vs l i = kv vs l' i' ∧ (nodeAt l i).1 = (nodeAt l' i').1
  | 0, i, i', hn, h => by
    rcases hR i i' h with h | ⟨h1, _⟩
    · exact h
    · have := (endv_in l i h1).2; omega
  | n + 1, i, i', hn, h => by
    rcases hR i i' h with h | ⟨h1, h2, h3, h4, h5⟩
    · exact h
    · have hk : ∀ j (hj : j < (kidsv l i).length) (hj' : j < (kidsv l' i').length), kv vs l (kidsv l i)[j] = kv vs l' (kidsv l' i')[j] ∧ (nodeAt l (kidsv l i)[j]).1 = (nodeAt l' (kidsv l' i')[j]).1 := fun j hj hj' => by
        obtain ⟨a, b, ea, eb, hab⟩ := h5 j hj hj'
        have hf := kid_facts l i j hj
        rw [ea, eb]
        rw [ea] at hf
        exact kind_sim vs l l' R hR n a b (by omega) hab
      refine ⟨?_, by rw [h3]⟩
      rw [kv_step _ _ _ h1, kv_step _ _ _ h2, h3]
      congr 1
      · exact List.ext_getElem (by simpa using h4) fun j a b => by simpa using (hk j (by simpa using a) (by simpa using b)).1
      · exact List.ext_getElem (by simpa using h4) fun j a b => by simpa using (hk j (by simpa using a) (by simpa using b)).2

/-- Alike for m nodes. -/
def Seg (l l' : List Nd) (i i' m : Nat) : Prop := ∀ x, x < m → l[i + x]? = l'[i' + x]?
theorem endv_shift {l l' : List Nd} {i i' m : Nat} (h : endv l i = ((i + m : Nat) : Int)) (hs : Seg l l' i i' m) : endv l' i' = ((i' + m : Nat) : Int) := by
  obtain ⟨c, hc, he⟩ := endv_get l i (by omega)
  have hcm : c = m := by omega
  subst hcm
  refine endv_some l' i' c ?_
  have e : (l.drop i).take c = (l'.drop i').take c := by
    apply List.ext_getElem?
    intro x
    simp only [List.getElem?_take, List.getElem?_drop]
    split
    · rename_i hx; exact hs x hx
    · rfl
  have := scan_take 1 (l.drop i) c hc ((l'.drop i').drop c)
  rwa [e, List.take_append_drop] at this
/-- A node, and all below it, stand elsewhere, too. -/
def R0 (l l' : List Nd) (i i' : Nat) : Prop := ∃ m, endv l i = ((i + m : Nat) : Int) ∧ Seg l l' i i' m
theorem nodeAt_seg {l l' : List Nd} {i i' m : Nat} (hs : Seg l l' i i' m) (hm : 0 < m) : nodeAt l i = nodeAt l' i' := by
  have := hs 0 hm
  simp only [Nat.add_zero] at this
  simp [nodeAt, List.getD, this]
theorem ar_node (l : List Nd) (i : Nat) : i < l.length → arAt l i = ar (nodeAt l i) := fun h => by
  rw [arAt_in _ _ h, nodeAt, Int.toNat_natCast, getD_in _ _ _ h]
theorem seg_kids {l l' : List Nd} {i i' : Nat} (h : R0 l l' i i') : 0 ≤ endv l i ∧ 0 ≤ endv l' i' ∧ nodeAt l i = nodeAt l' i' ∧ (kidsv l i).length = (kidsv l' i').length ∧
    ∀ j (h : j < (kidsv l i).length) (h' : j < (kidsv l' i').length), ∃ a b : Nat, (kidsv l i)[j] = a ∧ (kidsv l' i')[j] = b ∧ R0 l l' a b := by
  obtain ⟨m, hm, hs⟩ := h
  have h1 : 0 ≤ endv l i := by omega
  have hm' := endv_shift hm hs
  have h2 : 0 ≤ endv l' i' := by omega
  have hgt := endv_gt l i h1
  have hn := nodeAt_seg hs (by omega)
  have hil : i < l.length := by have := (endv_in l i h1).2; simpa using this
  have hil' : i' < l'.length := by have := (endv_in l' i' h2).2; simpa using this
  have har : arAt l i = arAt l' i' := by rw [ar_node _ _ hil, ar_node _ _ hil', hn]
  have hk : ∀ j, j ≤ (arAt l i).toNat → ∃ x, kth l (i + 1) j = ((i + x : Nat) : Int) ∧ kth l' (i' + 1) j = ((i' + x : Nat) : Int) := by
    intro j
    induction j with
    | zero => exact fun _ => ⟨1, by simp [kth], by simp [kth]⟩
    | succ j ih =>
      intro hj
      obtain ⟨x, e1, e2⟩ := ih (by omega)
      obtain ⟨g1, g2, g3, g4⟩ := kth_range l i h1 j (by omega)
      simp only [kth]
      rw [e1] at g1 g2 g3 g4 ⊢
      rw [e2]
      obtain ⟨c, hc, he⟩ := endv_get l (i + x) g3
      refine ⟨x + c, by rw [he]; omega, ?_⟩
      have : endv l' ((i' + x : Nat) : Int) = _ := endv_shift (l' := l') (i' := i' + x) he fun y hy => by
        rw [Nat.add_assoc, Nat.add_assoc]; exact hs _ (by omega)
      rw [this]; omega
  refine ⟨h1, h2, hn, ?_, fun j hj hj' => ?_⟩
  · rw [kidsv_eq _ _ h1, kidsv_eq _ _ h2, upto_length, upto_length, har]
  · have hj2 : j < (arAt l i).toNat := by rwa [kidsv_eq _ _ h1, upto_length] at hj
    obtain ⟨x, e1, e2⟩ := hk j (by omega)
    obtain ⟨g1, g2, g3, g4⟩ := kth_range l i h1 j hj2
    refine ⟨i + x, i' + x, ?_, ?_, ?_⟩
    · simp only [kidsv_eq _ _ h1, upto, List.getElem_map, List.getElem_range, e1]
    · simp only [kidsv_eq _ _ h2, upto, List.getElem_map, List.getElem_range, e2]
    · rw [e1] at g1 g2 g3 g4
      obtain ⟨c, hc, he⟩ := endv_get l (i + x) g3
      exact ⟨c, he, fun y hy => by rw [Nat.add_assoc, Nat.add_assoc]; exact hs _ (by omega)⟩
theorem kind_seg {l l' : List Nd} {i i' : Nat} (vs : List Int) (h : R0 l l' i i') : kv vs l i = kv vs l' i' ∧ (nodeAt l i).1 = (nodeAt l' i').1 :=
  kind_sim vs l l' (R0 l l') (fun i i' h => .inr (seg_kids h)) l.length i i' (by omega) h
theorem part_seg (l : List Nd) (k : Nat) (h : 0 ≤ endv l k) : R0 l (partV l k) k 0 := by
  obtain ⟨c, hc, he⟩ := endv_get l k h
  refine ⟨c, he, fun x hx => ?_⟩
  rw [partV, if_neg (by omega), he]
  simp only [Int.toNat_natCast, List.getElem?_drop, Nat.zero_add, List.getElem?_take]
  rw [if_pos (by omega)]
/-- A part by itself has the kind that it has in its place. -/
theorem kind_part (vs : List Int) (l : List Nd) (k : Nat) (h : 0 ≤ endv l k) : kv vs (partV l k) 0 = kv vs l k := (kind_seg vs (part_seg l k h)).1.symm

section
variable {l r : List Nd} {k : Nat}
/-- Where a node above the part that is replaced ends. -/
theorem repl_above (hE : 0 ≤ endv l k) (hr : endv r 0 = r.length) (i : Nat) (hi : i < k) (h : (k : Int) < endv l i) :
    endv l k ≤ endv l i ∧ endv (replV l k r) i + endv l k = endv l i + k + r.length := by
  have hkl : k < l.length := by have := (endv_in l k hE).2; simpa using this
  have hnlt : ¬ endv l k < 0 := by omega
  obtain ⟨m, hs, he⟩ := endv_get l k hE
  obtain ⟨t, ht, hte⟩ := endv_get l i (by omega)
  obtain ⟨w, hw, hall⟩ := scan_prefix (k - i) 1 (l.drop i) t ht (by omega)
  have h0 := hall ((l.drop i).drop (k - i))
  rw [List.take_append_drop, ht, List.drop_drop, show i + (k - i) = k from by omega] at h0
  obtain ⟨v, rfl⟩ : ∃ v, w = 1 + v := ⟨w - 1, by omega⟩
  rw [scan_add, hs] at h0
  simp only [Option.bind_some, List.drop_drop] at h0
  have h1 := hall (r ++ l.drop (k + m))
  have h2 : scan 1 (r ++ l.drop (k + m)) = some r.length := by
    have := scan_take 1 r r.length (whole_scan hr) (l.drop (k + m))
    rwa [List.take_length] at this
  rw [scan_add, h2] at h1
  simp only [Option.bind_some] at h1
  rw [List.drop_left' rfl] at h1
  have e1 : (replV l k r).drop i = (l.drop i).take (k - i) ++ (r ++ l.drop (k + m)) := by
    rw [replV, if_neg hnlt, he, List.append_assoc]
    rw [List.drop_append_of_le_length (by simp; omega)]
    simp [List.drop_take]
    omega
  cases hv : scan v (l.drop (k + m)) with
  | none => rw [hv] at h0; cases h0
  | some c =>
    rw [hv] at h0 h1
    simp only [Option.map_some, Option.some.injEq] at h0 h1
    rw [← e1] at h1
    have := endv_some _ _ _ h1
    rw [this]
    omega
/-- The nodes of a list, and those of the list with a part replaced. -/
def R1 (l : List Nd) (k : Nat) (r : List Nd) (i i' : Nat) : Prop := R0 l (replV l k r) i i' ∨ (i ≤ k ∧ i' = i ∧ endv l k ≤ endv l i)
theorem repl_seg_before (hE : 0 ≤ endv l k) (i : Nat) (h0 : 0 ≤ endv l i) (h : endv l i ≤ k) : R0 l (replV l k r) i i := by
  obtain ⟨m, hs, he⟩ := endv_get l i h0
  exact ⟨m, he, fun x hx => (repl_before hE (i + x) (by omega)).symm⟩
theorem repl_seg_behind (hE : 0 ≤ endv l k) (i b : Nat) (h0 : 0 ≤ endv l i) (h : endv l k ≤ i) (hb : (b : Int) + endv l k = i + k + r.length) : R0 l (replV l k r) i b := by
  obtain ⟨m, hs, he⟩ := endv_get l i h0
  refine ⟨m, he, fun x hx => ?_⟩
  rw [← repl_behind hE (i + x) (by omega)]
  congr 1
  omega
theorem repl_seg_at (hE : 0 ≤ endv l k) (hr : endv r 0 = r.length) : R0 r (replV l k r) 0 k := by
  have hkl : k < l.length := by have := (endv_in l k hE).2; simpa using this
  refine ⟨r.length, by rw [show ((0 : Nat) : Int) = 0 from rfl, hr]; omega, fun x hx => ?_⟩
  rw [replV, if_neg (by omega), List.append_assoc, List.getElem?_append_right (by simp; omega)]
  simp only [Int.toNat_natCast, List.length_take]
  rw [List.getElem?_append_left (by omega)]
  congr 1
  omega
theorem r1_step (vs : List Int) (hE : 0 ≤ endv l k) (hr : endv r 0 = r.length) (hk : kv vs r 0 = kv vs l k) (ht : (nodeAt r 0).1 = (nodeAt l k).1) (i i' : Nat) (h : R1 l k r i i') :
    (kv vs l i = kv vs (replV l k r) i' ∧ (nodeAt l i).1 = (nodeAt (replV l k r) i').1) ∨
      (0 ≤ endv l i ∧ 0 ≤ endv (replV l k r) i' ∧ nodeAt l i = nodeAt (replV l k r) i' ∧ (kidsv l i).length = (kidsv (replV l k r) i').length ∧ ∀ j (h : j < (kidsv l i).length) (h' : j < (kidsv (replV l k r) i').length), ∃ a b : Nat, (kidsv l i)[j] = a ∧ (kidsv (replV l k r) i')[j] = b ∧ R1 l k r a b) := by
  rcases h with h | ⟨h1, rfl, h2⟩
  · obtain ⟨a, b, c, d, e⟩ := seg_kids h
    refine .inr ⟨a, b, c, d, fun j h h' => ?_⟩
    obtain ⟨x, y, e1, e2, e3⟩ := e j h h'
    exact ⟨x, y, e1, e2, .inl e3⟩
  · by_cases hik : i' = k
    · subst hik
      have : kv vs r 0 = kv vs (replV l i' r) i' ∧ (nodeAt r 0).1 = (nodeAt (replV l i' r) i').1 := kind_seg vs (repl_seg_at hE hr)
      exact .inl ⟨by rw [← this.1]; exact hk.symm, by rw [← this.2]; exact ht.symm⟩
    · have hgtk := endv_gt l k hE
      have hi : i' < k := by omega
      have h0 : 0 ≤ endv l i' := by omega
      obtain ⟨_, hab⟩ := repl_above hE hr i' hi (by omega)
      have h0' : 0 ≤ endv (replV l k r) i' := by omega
      have hil : i' < l.length := by have := (endv_in l i' h0).2; simpa using this
      have hil' : i' < (replV l k r).length := by have := (endv_in _ i' h0').2; simpa using this
      have hn : nodeAt l i' = nodeAt (replV l k r) i' := by simp [nodeAt, List.getD, repl_before hE i' hi]
      have har : arAt l i' = arAt (replV l k r) i' := by rw [ar_node _ _ hil, ar_node _ _ hil', hn]
      have hone : ∀ a b : Nat, ((a ≤ k ∧ b = a) ∨ (endv l k ≤ a ∧ (b : Int) + endv l k = a + k + r.length)) → 0 ≤ endv l a → R1 l k r a b ∧ ∃ a' b' : Nat, endv l a = a' ∧ endv (replV l k r) b = b' ∧ ((a' ≤ k ∧ b' = a') ∨ (endv l k ≤ a' ∧ (b' : Int) + endv l k = a' + k + r.length)) := by
        intro a b hP ha
        obtain ⟨c, hc, hce⟩ := endv_get l a ha
        rcases hP with ⟨p1, rfl⟩ | ⟨p1, p2⟩
        · by_cases hbk : b = k
          · subst hbk
            refine ⟨.inr ⟨by omega, rfl, by omega⟩, b + c, b + r.length, hce, repl_end hE hr, .inr ⟨by omega, by omega⟩⟩
          · by_cases hlow : endv l b ≤ k
            · have hseg := repl_seg_before (r := r) hE b ha hlow
              obtain ⟨m, hm, hs⟩ := hseg
              exact ⟨.inl ⟨m, hm, hs⟩, b + m, b + m, hm, endv_shift hm hs, .inl ⟨by omega, rfl⟩⟩
            · obtain ⟨q1, q2⟩ := repl_above (r := r) hE hr b (by omega) (by omega)
              obtain ⟨d, hd⟩ := Int.eq_ofNat_of_zero_le (show 0 ≤ endv (replV l k r) b by omega)
              exact ⟨.inr ⟨by omega, rfl, q1⟩, b + c, d, hce, hd, .inr ⟨by omega, by omega⟩⟩
        · have hseg := repl_seg_behind (r := r) hE a b ha p1 p2
          obtain ⟨m, hm, hs⟩ := hseg
          exact ⟨.inl ⟨m, hm, hs⟩, a + m, b + m, hm, endv_shift hm hs, .inr ⟨by omega, by omega⟩⟩
      have hkk : ∀ j, j ≤ (arAt l i').toNat → ∃ a b : Nat, kth l (i' + 1) j = a ∧ kth (replV l k r) (i' + 1) j = b ∧ ((a ≤ k ∧ b = a) ∨ (endv l k ≤ a ∧ (b : Int) + endv l k = a + k + r.length)) := by
        intro j
        induction j with
        | zero => exact fun _ => ⟨i' + 1, i' + 1, by simp [kth], by simp [kth], .inl ⟨by omega, rfl⟩⟩
        | succ j ih =>
          intro hj
          obtain ⟨a, b, e1, e2, hP⟩ := ih (by omega)
          obtain ⟨g1, g2, g3, g4⟩ := kth_range l i' h0 j (by omega)
          rw [e1] at g3
          obtain ⟨_, a', b', f1, f2, f3⟩ := hone a b hP g3
          simp only [kth]
          exact ⟨a', b', by rw [e1, f1], by rw [e2, f2], f3⟩
      refine .inr ⟨h0, h0', hn, ?_, fun j hj hj' => ?_⟩
      · rw [kidsv_eq _ _ h0, kidsv_eq _ _ h0', upto_length, upto_length, har]
      · have hj2 : j < (arAt l i').toNat := by rwa [kidsv_eq _ _ h0, upto_length] at hj
        obtain ⟨a, b, e1, e2, hP⟩ := hkk j (by omega)
        obtain ⟨g1, g2, g3, g4⟩ := kth_range l i' h0 j hj2
        rw [e1] at g3
        refine ⟨a, b, ?_, ?_, (hone a b hP g3).1⟩
        · simp only [kidsv_eq _ _ h0, upto, List.getElem_map, List.getElem_range, e1]
        · simp only [kidsv_eq _ _ h0', upto, List.getElem_map, List.getElem_range, e2]
/-- With a part of the same kind and tag instead, the whole's kind stays. -/
theorem kind_repl (vs : List Int) (hl : endv l 0 = l.length) (hE : 0 ≤ endv l k) (hr : endv r 0 = r.length) (hk : kv vs r 0 = kv vs l k) (ht : (nodeAt r 0).1 = (nodeAt l k).1) :
    kv vs l 0 = kv vs (replV l k r) 0 ∧ (nodeAt l 0).1 = (nodeAt (replV l k r) 0).1 := by
  have := kind_sim vs l (replV l k r) (R1 l k r) (fun i i' h => r1_step vs hE hr hk ht i i' h) l.length 0 0 (by omega) (.inr ⟨by omega, rfl, by
    have := endv_le l k
    rw [show ((0 : Nat) : Int) = 0 from rfl, hl]; exact this⟩)
  exact this
end
end Go.Proofs.Ytalehbmgbjiigaa
end

section
namespace Go.Proofs.Ytalehbmgbjiigaa
open Go.RowKit
set_option linter.unusedVariables false
set_option linter.unusedSimpArgs false

/-- A rule asks for kinds and tells one. -/
def goodR : RuleT → Bool
  | .plain ks is => decide (0 ≤ is ∧ is ≤ 2) && ks.all fun k => decide (0 ≤ k)
  | .array ks is => decide (0 ≤ is ∧ is ≤ 2) && ks.all fun k => decide (0 ≤ k)
  | _ => true
theorem findR_mem : ∀ (ks : List Int) (rs : List RuleT) (k : Int) (v : RuleT), findR ks rs k = some v → v ∈ rs
  | [], rs, k, v, h => by cases rs <;> cases h
  | a :: r, [], k, v, h => by cases h
  | a :: r, b :: s, k, v, h => by
    simp only [findR] at h
    split at h
    · cases h; exact List.mem_cons_self ..
    · exact List.mem_cons_of_mem _ (findR_mem r s k v h)
theorem ruleOf_good (t : Int) : goodR (ruleOf t) = true := by
  unfold ruleOf
  cases h : findR ruleKs ruleRs t with
  | none => rfl
  | some v =>
    have hm := findR_mem _ _ _ _ h
    have : ∀ v ∈ ruleRs, goodR v = true := by decide
    exact this v hm
theorem typedV_in {vs : List Int} {n : Int} (h : 0 ≤ typedV vs n) : 0 ≤ n ∧ n.toNat < vs.length ∧ typedV vs n = vs.getD n.toNat 0 := by
  unfold typedV at h ⊢
  split at h
  · omega
  · rename_i hn
    rw [if_neg hn]
    by_cases hl : n.toNat < vs.length
    · exact ⟨by omega, hl, by rw [getD_in _ _ _ hl, getD_in _ _ _ hl]⟩
    · rw [List.getD_eq_getElem?_getD, List.getElem?_eq_none (by omega)] at h; simp at h
theorem rule_range (vs : List Int) (n : Int) (r : RuleT) (h : goodR r = true) (hn : ruleKind vs n r ≠ -1) : 0 ≤ ruleKind vs n r ∧ ruleKind vs n r ≤ 2 := by
  cases r with
  | plain ks is => simp [goodR] at h; exact h.1
  | array ks is =>
    simp [goodR] at h
    simp only [ruleKind, arrayKindV] at hn ⊢
    split
    · rename_i hz; rw [if_pos hz] at hn; omega
    · exact h.1
  | scalar b =>
    simp only [ruleKind, scalarKindV] at hn ⊢
    split
    · split <;> omega
    · rename_i hz; rw [if_neg hz] at hn; omega
  | none => simp [ruleKind]
theorem ask_pos (vs : List Int) (x : Nd) (n : Nat) (r : RuleT) (h : goodR r = true) (hn : ruleKind vs x.2 r ≠ -1) : ∀ k ∈ askV vs x n r, 0 ≤ k := by
  cases r with
  | plain ks is => simp [goodR] at h; simpa [askV] using h.2
  | array ks is => simp [goodR] at h; simpa [askV] using h.2
  | none => intro k hk; simp [askV] at hk; omega
  | scalar b =>
    cases b with
    | false => simp [askV]
    | true =>
      simp only [ruleKind, scalarKindV] at hn
      split at hn
      · rename_i hz
        obtain ⟨a, b, c⟩ := typedV_in (vs := vs) (n := x.2) (by omega)
        intro k hk
        simp only [askV] at hk
        rw [if_pos b] at hk
        simp only [List.mem_singleton] at hk
        rw [hk, ← c]; omega
      · exact absurd rfl hn
theorem step_facts (vs : List Int) (x : Nd) (kk tt : List Int) (h : stepV vs x kk tt ≠ -1) : ruleKind vs x.2 (ruleOf x.1) ≠ -1 ∧ (0 ≤ stepV vs x kk tt ∧ stepV vs x kk tt ≤ 2) ∧ ∀ k ∈ kk, 0 ≤ k := by
  unfold stepV at h ⊢
  split at h
  · exact absurd rfl h
  · rename_i h1
    rw [if_neg h1]
    split at h
    · rename_i h2
      rw [if_pos h2]
      refine ⟨h, rule_range _ _ _ (ruleOf_good _) h, fun k hk => ?_⟩
      obtain ⟨j, hj, rfl⟩ := List.getElem_of_mem hk
      simp only [List.all_eq_true, List.mem_range] at h2
      have := h2 j hj
      simp only [Bool.and_eq_true, decide_eq_true_eq] at this
      have hl : (askV vs x kk.length (ruleOf x.1)).length = kk.length := by
        rcases Nat.decEq (askV vs x kk.length (ruleOf x.1)).length kk.length with h | h
        · exact absurd (.inr h) h1
        · exact h
      have t := this.1
      rw [getD_in _ _ _ hj, getD_in _ _ _ (by omega)] at t
      rw [t]
      exact ask_pos vs x kk.length _ (ruleOf_good _) h _ (List.getElem_mem _)
    · exact absurd rfl h
theorem kv_end (vs : List Int) (l : List Nd) (i : Int) (h : kv vs l i ≠ -1) : 0 ≤ endv l i := by
  rcases endv_bound l i with e | e
  · exact absurd (kv_no vs l i (by omega)) h
  · exact e
/-- A place behind a node's own, before its end, is in a kid of its. -/
theorem kid_at (l : List Nd) (i : Nat) (h : 0 ≤ endv l i) (x : Nat) (h1 : i < x) (h2 : (x : Int) < endv l i) : ∃ j, ∃ hj : j < (kidsv l i).length, (kidsv l i)[j] ≤ x ∧ (x : Int) < endv l (kidsv l i)[j] := by
  have hk : ∀ j, j ≤ (arAt l i).toNat → kth l (i + 1) j ≤ x ∨ ∃ c, c < j ∧ kth l (i + 1) c ≤ x ∧ (x : Int) < kth l (i + 1) (c + 1) := by
    intro j
    induction j with
    | zero => intro _; left; simp only [kth]; omega
    | succ j ih =>
      intro hj
      rcases ih (by omega) with e | ⟨c, e1, e2, e3⟩
      · by_cases hx : kth l (i + 1) (j + 1) ≤ x
        · exact .inl hx
        · exact .inr ⟨j, by omega, e, by omega⟩
      · exact .inr ⟨c, by omega, e2, e3⟩
  rcases hk _ (Nat.le_refl _) with e | ⟨c, e1, e2, e3⟩
  · rw [kth_last l i h] at e; omega
  · have hj : c < (kidsv l i).length := by rw [kidsv_eq _ _ h, upto_length]; exact e1
    have he : (kidsv l i)[c] = kth l (i + 1) c := by simp only [kidsv_eq _ _ h, upto, List.getElem_map, List.getElem_range]
    exact ⟨c, hj, by rw [he]; exact e2, by rw [he, (kth_end l i h c e1).2]; exact e3⟩
/-- What is below a node that has a kind, has one. -/
theorem kind_below (vs : List Int) (l : List Nd) : ∀ (n i : Nat), l.length ≤ i + n → kv vs l i ≠ -1 → ∀ x : Nat, i ≤ x → (x : Int) < endv l i → 0 ≤ kv vs l x ∧ kv vs l x ≤ 2
  | 0, i, hn, h, x, h1, h2 => by have := (endv_in l i (kv_end vs l i h)).2; omega
  | n + 1, i, hn, h, x, h1, h2 => by
    have hE := kv_end vs l i h
    have hs := kv_step vs l i hE
    rw [hs] at h
    obtain ⟨f1, f2, f3⟩ := step_facts _ _ _ _ h
    by_cases hx : x = i
    · subst hx; rw [hs]; exact f2
    · obtain ⟨j, hj, g1, g2⟩ := kid_at l i hE x (by omega) h2
      have hf := kid_facts l i j hj
      have hk : 0 ≤ kv vs l (kidsv l i)[j] := f3 _ (List.mem_map.2 ⟨_, List.getElem_mem _, rfl⟩)
      obtain ⟨a, ha⟩ := Int.eq_ofNat_of_zero_le (show 0 ≤ (kidsv l i)[j] by omega)
      rw [ha] at hf hk g1 g2
      have hk' : kv vs l a ≠ -1 := by
        intro e
        have : kv vs l ((a : Nat) : Int) = -1 := e
        omega
      exact kind_below vs l n a (by omega) hk' x (by omega) g2

theorem typedV_more (vs : List Int) (t n : Int) (h : 0 ≤ typedV vs n) : typedV (vs ++ [t]) n = typedV vs n := by
  obtain ⟨a, b, c⟩ := typedV_in h
  unfold typedV
  rw [if_neg (by omega), if_neg (by omega), List.getD, List.getD, List.getElem?_append_left b]
theorem sizeV_typed {vs : List Int} {n : Int} (h : sizeV (typedV vs n) ≠ 0) : 0 ≤ typedV vs n := by
  unfold sizeV at h
  split at h
  · omega
  · exact absurd rfl h
theorem rule_more (vs : List Int) (t : Int) (x : Nd) (n : Nat) (r : RuleT) (h : ruleKind vs x.2 r ≠ -1) : ruleKind (vs ++ [t]) x.2 r = ruleKind vs x.2 r ∧ askV (vs ++ [t]) x n r = askV vs x n r := by
  cases r with
  | plain ks is => exact ⟨rfl, rfl⟩
  | none => exact ⟨rfl, rfl⟩
  | array ks is =>
    simp only [ruleKind, arrayKindV] at h ⊢
    split at h
    · exact absurd rfl h
    · rename_i hz
      rw [typedV_more vs t x.2 (sizeV_typed hz)]
      exact ⟨rfl, rfl⟩
  | scalar b =>
    simp only [ruleKind, scalarKindV] at h ⊢
    split at h
    · rename_i hz
      have hp : 0 ≤ typedV vs x.2 := by omega
      rw [typedV_more vs t x.2 hp]
      refine ⟨rfl, ?_⟩
      obtain ⟨c1, c2, c3⟩ := typedV_in hp
      cases b with
      | false => rfl
      | true =>
        simp only [askV]
        rw [if_pos c2, if_pos (by simp; omega), List.getD, List.getD, List.getElem?_append_left c2]
    · exact absurd rfl h
/-- A variable more, and a node that has a kind keeps it. -/
theorem kind_more (vs : List Int) (t : Int) (l : List Nd) : ∀ (n i : Nat), l.length ≤ i + n → kv vs l i ≠ -1 → kv (vs ++ [t]) l i = kv vs l i
  | 0, i, hn, h => by have := (endv_in l i (kv_end vs l i h)).2; omega
  | n + 1, i, hn, h => by
    have hE := kv_end vs l i h
    have hs := kv_step vs l i hE
    rw [hs] at h
    obtain ⟨f1, f2, f3⟩ := step_facts _ _ _ _ h
    have hk : (kidsv l i).map (kv (vs ++ [t]) l) = (kidsv l i).map (kv vs l) := by
      refine List.map_congr_left fun y hy => ?_
      obtain ⟨j, hj, rfl⟩ := List.getElem_of_mem hy
      have hf := kid_facts l i j hj
      have hk : 0 ≤ kv vs l (kidsv l i)[j] := f3 _ (List.mem_map.2 ⟨_, List.getElem_mem _, rfl⟩)
      obtain ⟨a, ha⟩ := Int.eq_ofNat_of_zero_le (show 0 ≤ (kidsv l i)[j] by omega)
      rw [ha] at hf hk ⊢
      exact kind_more vs t l n a (by omega) (by intro e; have : kv vs l ((a : Nat) : Int) = -1 := e; omega)
    rw [hs, kv_step _ _ _ hE, hk]
    obtain ⟨r1, r2⟩ := rule_more vs t (nodeAt l i) ((kidsv l i).map (kv vs l)).length (ruleOf (nodeAt l i).1) f1
    simp only [stepV]
    rw [r1, r2]
end Go.Proofs.Ytalehbmgbjiigaa
end
