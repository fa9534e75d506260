/-
  What functions come to by their text.
-/
import Derived.Test.YtnmgfobpcengkaaWorksK08
namespace Go.Proofs.Ytnmgfobpcengkaa
open Go.RowKit
set_option linter.unusedVariables false
set_option maxRecDepth 100000

theorem sh_offshootlaw08_ArenaChecks (x0 x1 x2 : D) : textK Try.prog L08 10 Try.f8 [x0, x1, x2] =
(thn (boxD x2) fun y0 =>
thn (F_works08 []) fun y1 =>
thn (notD y1) fun y2 =>
condK y2
(some (bD false))
(thn (lenK .sl x0) fun y3 =>
thn (binK .int .gtr y3 (iD 240)) fun y4 =>
condK y4
(some y1)
(thn (lenK .sl x1) fun y5 =>
thn (binK .int .gtr y5 (iD 240)) fun y6 =>
condK y6
(some y1)
(thn (F_RefSame [x0, x1]) fun y7 =>
condK y1
(thn (loadD (some 2) y0) fun y8 =>
thn (F_Arity [y8]) fun y9 =>
thn (loadD (some 2) y0) fun y10 =>
thn (F_RefArity [y10]) fun y11 =>
thn (binK .int .eql y9 y11) fun y12 =>
condK y12
(thn (F_Check [x0]) fun y13 =>
thn (F_RefCheck [x0]) fun y14 =>
thn (binK .int .eql y13 y14) fun y15 =>
condK y15
(thn (F_Same [x0, x1]) fun y16 =>
thn (binK .bool .eql y16 y7) fun y17 =>
some y17)
(some (bD false)))
(some (bD false)))
(some (bD false)))))) := by kernel_rfl

theorem sh_offshootlaw08_ArenaTells (x0 x1 x2 : D) : textK Try.prog L08 10 Try.f9 [x0, x1, x2] =
(thn (F_works08 []) fun y0 =>
thn (notD y0) fun y1 =>
condK y1
(some (bD false))
(thn (lenK .sl x0) fun y2 =>
thn (binK .int .gtr y2 (iD 80)) fun y3 =>
condK y3
(some y0)
(thn (lenK .sl x2) fun y4 =>
thn (binK .int .gtr y4 (iD 80)) fun y5 =>
condK y5
(some y0)
(thn (F_Kids [x0, x1]) fun y6 =>
thn (F_RefKids [x0, x1]) fun y7 =>
thn (F_RefInts [y6, y7]) fun y8 =>
thn (F_Part [x0, x1]) fun y9 =>
thn (F_RefPart [x0, x1]) fun y10 =>
thn (F_RefSame [y9, y10]) fun y11 =>
thn (F_Replace [x0, x1, x2]) fun y12 =>
thn (F_RefReplace [x0, x1, x2]) fun y13 =>
thn (F_RefSame [y12, y13]) fun y14 =>
condK y0
(condK y8
(condK y11
(condK y14
(thn (F_End [x0, x1]) fun y15 =>
thn (F_RefEnd [x0, x1]) fun y16 =>
thn (binK .int .eql y15 y16) fun y17 =>
condK y17
(thn (F_Depth [x0, x1]) fun y18 =>
thn (F_RefDepth [x0, x1]) fun y19 =>
thn (binK .int .eql y18 y19) fun y20 =>
some y20)
(some (bD false)))
(some (bD false)))
(some (bD false)))
(some (bD false)))
(some (bD false)))))) := by kernel_rfl

theorem sh_offshootlaw08_ArenaBack (x0 x1 x2 : D) : textK Try.prog L08 10 Try.f11 [x0, x1, x2] =
(thn (F_works08 []) fun y0 =>
thn (notD y0) fun y1 =>
condK y1
(some (bD false))
(thn (lenK .sl x0) fun y2 =>
thn (binK .int .gtr y2 (iD 80)) fun y3 =>
condK y3
(some y0)
(thn (lenK .sl x2) fun y4 =>
thn (binK .int .gtr y4 (iD 80)) fun y5 =>
condK y5
(some y0)
(thn (F_End [x0, x1]) fun y6 =>
thn (binK .int .lss y6 (iD 0)) fun y7 =>
condK y7
(some y0)
(thn (F_End [x2, (iD 0)]) fun y8 =>
thn (lenK .sl x2) fun y9 =>
thn (binK .int .neq y8 y9) fun y10 =>
condK y10
(some y0)
(thn (F_Part [x0, x1]) fun y11 =>
thn (F_Replace [x0, x1, x2]) fun y12 =>
thn (F_Part [y12, x1]) fun y13 =>
thn (F_RefSame [y13, x2]) fun y14 =>
thn (F_Replace [y12, x1, y11]) fun y15 =>
thn (F_RefSame [y15, x0]) fun y16 =>
condK y0
(condK y14
(condK y16
(thn (lenK .sl y12) fun y17 =>
thn (lenK .sl x0) fun y18 =>
thn (lenK .sl y11) fun y19 =>
thn (binK .int .sub y18 y19) fun y20 =>
thn (lenK .sl x2) fun y21 =>
thn (binK .int .add y20 y21) fun y22 =>
thn (binK .int .eql y17 y22) fun y23 =>
some y23)
(some (bD false)))
(some (bD false)))
(some (bD false)))))))) := by kernel_rfl

theorem sh_offshootlaw08_ArenaElse (x0 x1 x2 x3 : D) : textK Try.prog L08 10 Try.f12 [x0, x1, x2, x3] =
(thn (F_works08 []) fun y0 =>
thn (notD y0) fun y1 =>
condK y1
(some (bD false))
(thn (lenK .sl x0) fun y2 =>
thn (binK .int .gtr y2 (iD 80)) fun y3 =>
condK y3
(some y0)
(thn (lenK .sl x2) fun y4 =>
thn (binK .int .gtr y4 (iD 80)) fun y5 =>
condK y5
(some y0)
(thn (F_End [x0, (iD 0)]) fun y6 =>
thn (lenK .sl x0) fun y7 =>
thn (binK .int .neq y6 y7) fun y8 =>
condK y8
(some y0)
(thn (F_End [x0, x1]) fun y9 =>
thn (binK .int .lss y9 (iD 0)) fun y10 =>
condK y10
(some y0)
(thn (F_End [x2, (iD 0)]) fun y11 =>
thn (lenK .sl x2) fun y12 =>
thn (binK .int .neq y11 y12) fun y13 =>
condK y13
(some y0)
(thn (F_Replace [x0, x1, x2]) fun y14 =>
thn (F_End [y14, (iD 0)]) fun y15 =>
thn (lenK .sl y14) fun y16 =>
thn (binK .int .neq y15 y16) fun y17 =>
condK y17
(some (bD false))
(thn (F_End [x0, x1]) fun y18 =>
thn (binK .int .lss x3 (iD 0)) fun y19 =>
condK y19
(some y0)
(thn (lenK .sl x0) fun y20 =>
thn (binK .int .geq x3 y20) fun y21 =>
condK y21
(some y0)
(thn (binK .int .geq x3 x1) fun y22 =>
condK y22
(thn (binK .int .lss x3 y18) fun y23 =>
condK y23
(some y0)
(thn (binK .int .geq x3 y18) fun y24 =>
condK y24
(thn (binK .int .sub x3 y18) fun y25 =>
thn (binK .int .add y25 x1) fun y26 =>
thn (lenK .sl x2) fun y27 =>
thn (binK .int .add y26 y27) fun y28 =>
condK y0
(thn (binK .int .geq y28 (iD 0)) fun y29 =>
condK y29
(thn (lenK .sl y14) fun y30 =>
thn (binK .int .lss y28 y30) fun y31 =>
condK y31
(thn (idxD 2 y14 y28) fun y32 =>
thn (loadD (some 2) y32) fun y33 =>
thn (idxD 2 x0 x3) fun y34 =>
thn (loadD (some 2) y34) fun y35 =>
thn (binK (.ints 2) .eql y33 y35) fun y36 =>
some y36)
(some (bD false)))
(some (bD false)))
(some (bD false)))
(condK y0
(thn (binK .int .geq x3 (iD 0)) fun y37 =>
condK y37
(thn (lenK .sl y14) fun y38 =>
thn (binK .int .lss x3 y38) fun y39 =>
condK y39
(thn (idxD 2 y14 x3) fun y40 =>
thn (loadD (some 2) y40) fun y41 =>
thn (idxD 2 x0 x3) fun y42 =>
thn (loadD (some 2) y42) fun y43 =>
thn (binK (.ints 2) .eql y41 y43) fun y44 =>
some y44)
(some (bD false)))
(some (bD false)))
(some (bD false)))))
(thn (binK .int .geq x3 y18) fun y45 =>
condK y45
(thn (binK .int .sub x3 y18) fun y46 =>
thn (binK .int .add y46 x1) fun y47 =>
thn (lenK .sl x2) fun y48 =>
thn (binK .int .add y47 y48) fun y49 =>
condK y0
(thn (binK .int .geq y49 (iD 0)) fun y50 =>
condK y50
(thn (lenK .sl y14) fun y51 =>
thn (binK .int .lss y49 y51) fun y52 =>
condK y52
(thn (idxD 2 y14 y49) fun y53 =>
thn (loadD (some 2) y53) fun y54 =>
thn (idxD 2 x0 x3) fun y55 =>
thn (loadD (some 2) y55) fun y56 =>
thn (binK (.ints 2) .eql y54 y56) fun y57 =>
some y57)
(some (bD false)))
(some (bD false)))
(some (bD false)))
(condK y0
(thn (binK .int .geq x3 (iD 0)) fun y58 =>
condK y58
(thn (lenK .sl y14) fun y59 =>
thn (binK .int .lss x3 y59) fun y60 =>
condK y60
(thn (idxD 2 y14 x3) fun y61 =>
thn (loadD (some 2) y61) fun y62 =>
thn (idxD 2 x0 x3) fun y63 =>
thn (loadD (some 2) y63) fun y64 =>
thn (binK (.ints 2) .eql y62 y64) fun y65 =>
some y65)
(some (bD false)))
(some (bD false)))
(some (bD false)))))))))))))) := by kernel_rfl

end Go.Proofs.Ytnmgfobpcengkaa
