/-
  What functions come to by their text.
-/
import Derived.Test.YtnmgfobpcengkaaT08l
namespace Go.Proofs.Ytnmgfobpcengkaa
open Go.RowKit
set_option linter.unusedVariables false
set_option maxRecDepth 100000

def kp_offshootlaw08_ArenaParts : List Nat := [0, 1, 4, 5, 6, 7, 8]
theorem sh_offshootlaw08_ArenaParts (n : Nat) (x0 x1 : D) (h : Heap) : textK Try.prog L08 kp_offshootlaw08_ArenaParts n Try.f10 [x0, x1] h =
(thnH (liftF F_true08 [] h) fun y0 h1 =>
thn (notD y0) fun y2 =>
condK y2
(some ((bD false), h1))
(thn (lenH .sl x0) fun y3 =>
thn (binK .int .gtr y3 (iD 80)) fun y4 =>
condK y4
(some (y0, h1))
(thnH (liftF F_End [x0, x1] h1) fun y5 h6 =>
thn (binK .int .lss y5 (iD 0)) fun y7 =>
condK y7
(some (y0, h6))
(thn (binK .int .lss x1 (iD 0)) fun y8 =>
condK y8
(some (y0, h6))
(thn (lenH .sl x0) fun y9 =>
thn (binK .int .geq x1 y9) fun y10 =>
condK y10
(some (y0, h6))
(thn (idxH 2 x0 x1) fun y11 =>
thn (loadH (some 2) h6 y11) fun y12 =>
thnH (rowH 36 2 1 [(iD 0), (iD 0)] [(0, y12)] h6) fun y13 h14 =>
thnH (liftN F_Kids [x0, x1] h14) fun y15 h16 =>
leaveK (loopF Try.prog L08 kp_offshootlaw08_ArenaParts n Try.f10 0 [x0, x1, (bD false), y0, y13, y15, (iD 0)] h16) (fun j17 s18 h19 =>
condN j17 0
(thnH (liftN F_Part [(s18.getD 0 .undef), (s18.getD 1 .undef)] h19) fun y20 h21 =>
thnH (liftF F_RefSame [(s18.getD 4 .undef), y20] h21) fun y22 h23 =>
condK (s18.getD 3 .undef)
(condK y22
(thn (lenH .sl (s18.getD 5 .undef)) fun y24 =>
thn (idxH 2 (s18.getD 0 .undef) (s18.getD 1 .undef)) fun y25 =>
thn (loadH (some 2) h23 y25) fun y26 =>
thnH (liftF F_Arity [y26] h23) fun y27 h28 =>
thn (binK .int .eql y24 y27) fun y29 =>
condK y29
(thnH (liftF F_End [(s18.getD 0 .undef), (s18.getD 1 .undef)] h28) fun y30 h31 =>
thn (lenH .sl (s18.getD 4 .undef)) fun y32 =>
thn (binK .int .add (s18.getD 1 .undef) y32) fun y33 =>
thn (binK .int .eql y30 y33) fun y34 =>
some (y34, h31))
(some ((bD false), h28)))
(some ((bD false), h23)))
(some ((bD false), h23)))
(none)) (fun s18 h19 =>
some ((s18.getD 2 .undef), h19)))))))) := by kernel_rfl

theorem st_offshootlaw08_ArenaParts_0 (n : Nat) (s0 s1 s2 s3 s4 s5 s6 : D) (h : Heap) : stepF Try.prog L08 kp_offshootlaw08_ArenaParts n Try.f10 0 [s0, s1, s2, s3, s4, s5, s6] h =
(thn (lenH .sl s5) fun y0 =>
thn (binK .int .lss s6 y0) fun y1 =>
condK y1
(thn (idxH 1 s5 s6) fun y2 =>
thn (loadH none h y2) fun y3 =>
thnH (liftN F_Part [s0, y3] h) fun y4 h5 =>
thnH (appendH 36 2 s4 y4 h5) fun y6 h7 =>
thn (idxH 1 s5 s6) fun y8 =>
thn (loadH none h7 y8) fun y9 =>
thnH (liftF F_Depth [s0, y9] h7) fun y10 h11 =>
thnH (liftF F_Depth [s0, s1] h11) fun y12 h13 =>
thn (binK .int .geq y10 y12) fun y14 =>
condK y14
(some (.ret, [s0, s1, (bD false), s3, y6, s5, s6], h13))
(thn (binK .int .add s6 (iD 1)) fun y15 =>
some (.normal, [s0, s1, s2, s3, y6, s5, y15], h13)))
(some ((.exit 0), [s0, s1, s2, s3, s4, s5, s6], h))) := by kernel_rfl

end Go.Proofs.Ytnmgfobpcengkaa
