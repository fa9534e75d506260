/-
  Parts joined into one text: Code10, Ref10, T10a, T10p, Sh10p, T10q, T10b, Sh10b, T10c. No condition.
-/
import Derived.Test.YtalehbmgbjiigaaEm
import Derived.Test.YtalehbmgbjiigaaEp

section
namespace Go.Proofs.Ytalehbmgbjiigaa
open Go.RowKit
set_option linter.unusedVariables false
set_option linter.unusedSimpArgs false

/-- Is a tag's number told, and how: 0 not, 1 without a sign, 2 with one. -/
def kindN (t : Int) : Int := if t = 1 then 2 else if t = 2 ∨ t = 3 ∨ t = 4 ∨ t = 20 ∨ t = 21 ∨ t = 22 then 1 else 0
def zigV (n : Int) : Int := if 0 ≤ n then 2 * n else -2 * n - 1
def zagV (u : Int) : Int := if u % 2 = 0 then u / 2 else -(u / 2) - 1
theorem zag_zig (n : Int) : zagV (zigV n) = n := by
  unfold zagV zigV
  split <;> split <;> omega
def nodeB (x : Nd) : By := b8 x.1 :: (if kindN x.1 = 1 then putV x.2 else if kindN x.1 = 2 then putV (zigV x.2) else [])
def nodesB (l : List Nd) : By := (l.map nodeB).flatten
def encV (p : Pg) : By := putV p.params ++ (putV p.vars.length ++ (p.vars.map b8 ++ (putV p.body.length ++ nodesB p.body)))

/- The reader. -/
abbrev Rd := Nat × Int
def moveV (r : Rd) (to : Nat) (e : Int) : Rd := if r.2 = 0 then (if e = 0 then (to, 0) else (r.1, e)) else r
def cntE (m : Int × Nat × Int) (most : Int) : Int := if m.2.2 = 0 ∧ (most < 0 ∨ most < m.1) then 4 else m.2.2
def cntV (s : By) (r : Rd) (most : Int) : Int × Rd :=
  ((if (moveV r (lebV s r.1).2.1 (cntE (lebV s r.1) most)).2 = 0 then (lebV s r.1).1 else 0), moveV r (lebV s r.1).2.1 (cntE (lebV s r.1) most))
def bytV (s : By) (r : Rd) : UInt8 × Rd :=
  if r.1 < s.length then ((if r.2 = 0 then s.getD r.1 0 else 0), moveV r (r.1 + 1) 0) else (0, moveV r r.1 2)
def intV (s : By) (r : Rd) : Int × Rd :=
  if (lebV s r.1).2.2 = 0 then ((if r.2 = 0 then zagV (lebV s r.1).1 else 0), moveV r (lebV s r.1).2.1 0) else (0, moveV r r.1 (lebV s r.1).2.2)
def endE (s : By) (r : Rd) : Int := if r.2 = 0 ∧ r.1 < s.length then 5 else r.2
def varsR (s : By) : Nat → Rd → List Int × Rd
  | 0, r => ([], r)
  | n + 1, r => (((bytV s r).1.toNat : Int) :: (varsR s n (bytV s r).2).1, (varsR s n (bytV s r).2).2)
/-- One node. -/
def nodeR (s : By) (r : Rd) : Nd × Rd :=
  let t : Int := (bytV s r).1.toNat
  if kindN t = 1 then ((t, (cntV s (bytV s r).2 200).1), (cntV s (bytV s r).2 200).2)
  else if kindN t = 2 then ((t, (intV s (bytV s r).2).1), (intV s (bytV s r).2).2)
  else ((t, 0), (bytV s r).2)
def nodesR (s : By) : Nat → Rd → List Nd × Rd
  | 0, r => ([], r)
  | n + 1, r => if endE s r = 5 then ((nodeR s r).1 :: (nodesR s n (nodeR s r).2).1, (nodesR s n (nodeR s r).2).2) else ([], r)
/-- A program, read as well as can be. -/
def decC (s : By) : Pg :=
  let a := cntV s (0, 0) 12
  let b := cntV s a.2 12
  let c := varsR s b.1.toNat b.2
  let d := cntV s c.2 200
  ⟨a.1, c.1, (nodesR s d.1.toNat d.2).1⟩

/- What was put is read. -/
theorem cnt_back (u t : By) (n most : Int) (h0 : 0 ≤ n) (h1 : n ≤ most) (h2 : n ≤ 18446744073709551615) : cntV (u ++ (putV n ++ t)) (u.length, 0) most = (n, (u.length + (putV n).length, 0)) := by
  have h := leb_back u t n h0 h2
  have he : cntE (n, u.length + (putV n).length, 0) most = 0 := by
    unfold cntE
    rw [if_neg]
    simp only
    omega
  simp only [cntV, h, he, moveV, if_true]
theorem int_back (u t : By) (n : Int) (h0 : 0 ≤ zigV n) (h2 : zigV n ≤ 18446744073709551615) : intV (u ++ (putV (zigV n) ++ t)) (u.length, 0) = (n, (u.length + (putV (zigV n)).length, 0)) := by
  have h := leb_back u t (zigV n) h0 h2
  simp only [intV, h, moveV, if_true, zag_zig]
theorem byt_back (u t : By) (b : UInt8) : bytV (u ++ (b :: t)) (u.length, 0) = (b, (u.length + 1, 0)) := by
  simp only [bytV, moveV, if_true]
  rw [if_pos (by simp)]
  congr 1
  simp
theorem vars_back : ∀ (vs : List Int) (u t : By), (∀ v ∈ vs, 0 ≤ v ∧ v < 256) → varsR (u ++ (vs.map b8 ++ t)) vs.length (u.length, 0) = (vs, (u.length + vs.length, 0))
  | [], u, t, h => by simp [varsR]
  | v :: vs, u, t, h => by
    have hv := h v (List.mem_cons_self ..)
    have hb := b8_toNat v
    have e := byt_back u (vs.map b8 ++ t) (b8 v)
    have ih := vars_back vs (u ++ [b8 v]) t fun x hx => h x (List.mem_cons_of_mem _ hx)
    simp only [List.append_assoc, List.cons_append, List.nil_append, List.length_append, List.length_singleton] at ih
    simp only [List.map_cons, List.length_cons, List.cons_append, varsR, e, ih]
    refine Prod.ext_iff.2 ⟨?_, ?_⟩
    · simp only; congr 1; omega
    · simp only; congr 1; omega
/-- What a node must be, to be read as it was. -/
def ndOk (x : Nd) : Prop := 0 ≤ x.1 ∧ x.1 < 256 ∧ (kindN x.1 = 1 → 0 ≤ x.2 ∧ x.2 ≤ 200) ∧ (kindN x.1 = 2 → -9223372036854775808 ≤ x.2 ∧ x.2 ≤ 9223372036854775807) ∧ (kindN x.1 ≠ 1 → kindN x.1 ≠ 2 → x.2 = 0)
theorem zig_in (n : Int) (h1 : -9223372036854775808 ≤ n) (h2 : n ≤ 9223372036854775807) : 0 ≤ zigV n ∧ zigV n ≤ 18446744073709551615 := by
  unfold zigV; split <;> omega
theorem node_back (u t : By) (x : Nd) (h : ndOk x) : nodeR (u ++ (nodeB x ++ t)) (u.length, 0) = (x, (u.length + (nodeB x).length, 0)) := by
  obtain ⟨h1, h2, h3, h4, h5⟩ := h
  have hb := b8_toNat x.1
  have hbx : ((b8 x.1).toNat : Int) = x.1 := by omega
  have e := byt_back u ((if kindN x.1 = 1 then putV x.2 else if kindN x.1 = 2 then putV (zigV x.2) else []) ++ t) (b8 x.1)
  have en : nodeB x ++ t = b8 x.1 :: ((if kindN x.1 = 1 then putV x.2 else if kindN x.1 = 2 then putV (zigV x.2) else []) ++ t) := rfl
  rw [en]
  simp only [nodeR, e, hbx]
  by_cases k1 : kindN x.1 = 1
  · have hx := h3 k1
    have c := cnt_back (u ++ [b8 x.1]) t x.2 200 hx.1 hx.2 (by omega)
    simp only [List.append_assoc, List.cons_append, List.nil_append, List.length_append, List.length_singleton] at c
    simp only [k1, if_true, c]
    refine Prod.ext_iff.2 ⟨rfl, ?_⟩
    simp only [nodeB, k1, if_true, List.length_cons]
    congr 1; omega
  · by_cases k2 : kindN x.1 = 2
    · have hx := h4 k2
      have hz := zig_in x.2 hx.1 hx.2
      have c := int_back (u ++ [b8 x.1]) t x.2 hz.1 hz.2
      simp only [List.append_assoc, List.cons_append, List.nil_append, List.length_append, List.length_singleton] at c
      simp only [k2, show ¬ ((2 : Int) = 1) from by omega, if_false, if_true, c]
      refine Prod.ext_iff.2 ⟨rfl, ?_⟩
      simp only [nodeB, k2, show ¬ ((2 : Int) = 1) from by omega, if_false, if_true, List.length_cons]
      congr 1; omega
    · have hx := h5 k1 k2
      simp only [k1, k2, if_false]
      refine Prod.ext_iff.2 ⟨?_, ?_⟩
      · show (x.1, 0) = x; rw [← hx]
      · simp only [nodeB, k1, k2, if_false, List.length_cons, List.length_nil]
theorem nodeB_pos (x : Nd) : 0 < (nodeB x).length := by simp [nodeB]
theorem nodes_back : ∀ (l : List Nd) (u t : By), (∀ x ∈ l, ndOk x) → nodesR (u ++ (nodesB l ++ t)) l.length (u.length, 0) = (l, (u.length + (nodesB l).length, 0))
  | [], u, t, h => by simp [nodesR, nodesB]
  | x :: l, u, t, h => by
    have e := node_back u (nodesB l ++ t) x (h x (List.mem_cons_self ..))
    have ih := nodes_back l (u ++ nodeB x) t fun y hy => h y (List.mem_cons_of_mem _ hy)
    simp only [List.append_assoc, List.length_append] at ih
    have en : nodesB (x :: l) = nodeB x ++ nodesB l := by simp [nodesB]
    have hp := nodeB_pos x
    rw [en, List.length_cons, nodesR, List.append_assoc]
    have he : endE (u ++ (nodeB x ++ (nodesB l ++ t))) (u.length, 0) = 5 := by
      unfold endE
      rw [if_pos ⟨rfl, by simp only [List.length_append]; omega⟩]
    rw [if_pos he, e]
    simp only [ih]
    refine Prod.ext_iff.2 ⟨rfl, ?_⟩
    simp only [List.length_append]
    congr 1; omega
/-- What a program must be, to be read as it was. -/
structure PgOk (p : Pg) : Prop where
  params : 0 ≤ p.params ∧ p.params ≤ 12
  vars : p.vars.length ≤ 12 ∧ ∀ v ∈ p.vars, 0 ≤ v ∧ v < 256
  body : p.body.length ≤ 200 ∧ ∀ x ∈ p.body, ndOk x
theorem dec_enc (p : Pg) (h : PgOk p) (t : By) : decC (encV p ++ t) = p := by
  obtain ⟨⟨h1, h2⟩, ⟨h3, h4⟩, ⟨h5, h6⟩⟩ := h
  have a := cnt_back [] (putV p.vars.length ++ (p.vars.map b8 ++ (putV p.body.length ++ (nodesB p.body ++ t)))) p.params 12 h1 h2 (by omega)
  have b := cnt_back (putV p.params) (p.vars.map b8 ++ (putV p.body.length ++ (nodesB p.body ++ t))) p.vars.length 12 (by omega) (by omega) (by omega)
  have c := vars_back p.vars (putV p.params ++ putV p.vars.length) (putV p.body.length ++ (nodesB p.body ++ t)) h4
  have d := cnt_back (putV p.params ++ (putV p.vars.length ++ p.vars.map b8)) (nodesB p.body ++ t) p.body.length 200 (by omega) (by omega) (by omega)
  have e := nodes_back p.body (putV p.params ++ (putV p.vars.length ++ (p.vars.map b8 ++ putV p.body.length))) t h6
  simp only [List.nil_append, List.length_nil, Nat.zero_add, List.append_assoc, List.length_append, List.length_map] at a b c d e
  have hs : encV p ++ t = putV p.params ++ (putV p.vars.length ++ (p.vars.map b8 ++ (putV p.body.length ++ (nodesB p.body ++ t)))) := by simp [encV]
  rw [hs]
  simp only [decC, a, b, Int.toNat_natCast, c]
  rw [show (putV p.params).length + (putV p.vars.length).length + p.vars.length = (putV p.params).length + ((putV p.vars.length).length + p.vars.length) from by omega, d]
  simp only [Int.toNat_natCast]
  rw [show (putV p.params).length + ((putV p.vars.length).length + p.vars.length) + (putV p.body.length).length = (putV p.params).length + ((putV p.vars.length).length + (p.vars.length + (putV p.body.length).length)) from by omega, e]
/-- Programs whose bytes begin alike are the same, and so are their bytes. -/
theorem enc_prefix (p q : Pg) (hp : PgOk p) (hq : PgOk q) (t : By) (h : encV p ++ t = encV q) : t = [] ∧ p = q := by
  have h1 := dec_enc p hp t
  have h2 := dec_enc q hq []
  rw [List.append_nil, ← h, h1] at h2
  subst h2
  exact ⟨by simpa using h, rfl⟩
end Go.Proofs.Ytalehbmgbjiigaa
end

section
namespace Go.Proofs.Ytalehbmgbjiigaa
open Go.RowKit
set_option linter.unusedVariables false
set_option linter.unusedSimpArgs false

/-- How many groups a number has, of so many at most; 0: it does not end. -/
def cntB : Nat → By → Nat
  | 0, _ => 0
  | _ + 1, [] => 0
  | f + 1, b :: r => if b.toNat < 128 then 1 else if cntB f r = 0 then 0 else cntB f r + 1
def valV : By → Int
  | [] => 0
  | b :: r => IntKind.u64.wrap (IntKind.u64.wrap (valV r * 128) + (b.toNat : Int) % 128)
def refV (s : By) (i : Nat) : Int × Nat × Int :=
  if cntB 10 (s.drop i) = 0 then (0, i, if s.length - i < 10 then 2 else 3) else
  if putV (valV ((s.drop i).take (cntB 10 (s.drop i)))) = (s.drop i).take (cntB 10 (s.drop i)) then (valV ((s.drop i).take (cntB 10 (s.drop i))), i + cntB 10 (s.drop i), 0) else (0, i, 3)
theorem cntB_le : ∀ (f : Nat) (l : By), cntB f l ≤ l.length ∧ cntB f l ≤ f
  | 0, l => by simp [cntB]
  | f + 1, [] => by simp [cntB]
  | f + 1, b :: r => by
    have := cntB_le f r
    simp only [cntB, List.length_cons]
    split
    · omega
    · split <;> omega
theorem refV_in (s : By) (i : Nat) : (refV s i).2.1 ≤ max i s.length ∧ i ≤ (refV s i).2.1 := by
  have := (cntB_le 10 (s.drop i)).1
  rw [List.length_drop] at this
  unfold refV
  split
  · simp only; omega
  · split <;> simp only <;> omega
theorem val_range : ∀ (l : By), 0 ≤ valV l ∧ valV l ≤ 18446744073709551615
  | [] => by simp [valV]
  | b :: r => by
    simp only [valV]
    rw [IntKind.wrap_u64]
    omega
theorem cnt_put : ∀ (f : Nat) (n : Int) (t : By), 0 ≤ n → n < 128 * 128 ^ f → cntB (f + 1) (putF f n ++ t) = (putF f n).length
  | 0, n, t, h0, h1 => by
    have hb := b8_toNat n
    have : (128 : Int) ^ 0 = 1 := rfl
    simp only [putF, List.cons_append, List.nil_append, cntB, List.length_singleton]
    rw [if_pos (by omega)]
  | f + 1, n, t, h0, h1 => by
    unfold putF
    split
    · rename_i h
      have hb := b8_toNat n
      simp only [List.cons_append, List.nil_append, cntB, List.length_singleton]
      rw [if_pos (by omega)]
    · rename_i h
      have hb := b8_toNat (128 + n % 128)
      have hp : (128 : Int) ^ (f + 1) = 128 * 128 ^ f := by rw [Int.pow_succ, Int.mul_comm]
      have ih := cnt_put f (n / 128) t (by omega) (by omega)
      have hl := (putF_len f (n / 128)).1
      simp only [List.cons_append, List.length_cons]
      rw [cntB, if_neg (by omega), ih, if_neg (by omega)]
theorem val_put : ∀ (f : Nat) (n : Int), 0 ≤ n → n < 128 * 128 ^ f → n ≤ 18446744073709551615 → valV (putF f n) = n
  | 0, n, h0, h1, h2 => by
    have hb := b8_toNat n
    have : (128 : Int) ^ 0 = 1 := rfl
    simp only [putF, valV]
    rw [hb, IntKind.wrap_u64, IntKind.wrap_u64]
    omega
  | f + 1, n, h0, h1, h2 => by
    unfold putF
    split
    · rename_i h
      have hb := b8_toNat n
      simp only [valV]
      rw [hb, IntKind.wrap_u64, IntKind.wrap_u64]
      omega
    · rename_i h
      have hb := b8_toNat (128 + n % 128)
      have hp : (128 : Int) ^ (f + 1) = 128 * 128 ^ f := by rw [Int.pow_succ, Int.mul_comm]
      have ih := val_put f (n / 128) (by omega) (by omega) (by omega)
      simp only [valV]
      rw [ih, hb, IntKind.wrap_u64, IntKind.wrap_u64]
      omega
theorem ref_back (s t : By) (n : Int) (h0 : 0 ≤ n) (h1 : n ≤ 18446744073709551615) : refV (s ++ (putV n ++ t)) s.length = (n, s.length + (putV n).length, 0) := by
  have hp : (128 : Int) ^ 9 = 9223372036854775808 := by decide
  have hc : cntB 10 (putV n ++ t) = (putV n).length := cnt_put 9 n t h0 (by rw [hp]; omega)
  have hv : valV (putV n) = n := val_put 9 n h0 (by rw [hp]; omega) h1
  have hl := (putV_len n).1
  unfold refV
  rw [List.drop_left' rfl, hc, if_neg (by omega), List.take_left' rfl, hv, if_pos rfl]

/- The reader, one thing at a time: a byte, a number, one with a sign; -1 and what is wrong. -/
def doV (s : By) (r : Rd) (k : Int) : Int × Rd :=
  if r.2 ≠ 0 then (0, r) else
  if k = 0 then (if s.length ≤ r.1 then (0, (r.1, 2)) else (((s.getD r.1 0).toNat : Int), (r.1 + 1, 0))) else
  if (refV s r.1).2.2 ≠ 0 then (0, (r.1, (refV s r.1).2.2)) else
  if k = 2 ∧ 1000000 < (refV s r.1).1 then (0, (r.1, 4)) else
  ((if k = 3 then zagV (refV s r.1).1 else (refV s r.1).1), ((refV s r.1).2.1, 0))
def askV10 (s : By) (r : Rd) (k : Int) : Int × Rd := if (doV s r k).2.2 ≠ 0 then (-1, (doV s r k).2) else doV s r k
def varsQ (s : By) (n : Int) : Nat → Nat → Rd → List Int × Rd
  | 0, _, r => ([], r)
  | f + 1, i, r => if (i : Int) < n then ((askV10 s r 0).1 :: (varsQ s n f (i + 1) (askV10 s r 0).2).1, (varsQ s n f (i + 1) (askV10 s r 0).2).2) else ([], r)
def nodeQ (s : By) (r : Rd) : Nd × Rd :=
  let t := (askV10 s r 0).1
  if kindN t = 1 then ((t, (askV10 s (askV10 s r 0).2 2).1), (askV10 s (askV10 s r 0).2 2).2)
  else if kindN t = 2 then ((t, (askV10 s (askV10 s r 0).2 3).1), (askV10 s (askV10 s r 0).2 3).2)
  else ((t, 0), (askV10 s r 0).2)
def nodesQ (s : By) (n : Int) : Nat → Nat → Rd → List Nd × Rd
  | 0, _, r => ([], r)
  | f + 1, i, r => if (i : Int) < n then ((nodeQ s r).1 :: (nodesQ s n f (i + 1) (nodeQ s r).2).1, (nodesQ s n f (i + 1) (nodeQ s r).2).2) else ([], r)
def decQ (s : By) : Pg :=
  let a := askV10 s (0, 0) 2
  let b := askV10 s a.2 2
  let c := varsQ s b.1 13 0 b.2
  let d := askV10 s c.2 2
  ⟨a.1, c.1, (nodesQ s d.1 201 0 d.2).1⟩

theorem askN_back (u t : By) (n : Int) (h0 : 0 ≤ n) (h1 : n ≤ 1000000) : askV10 (u ++ (putV n ++ t)) (u.length, 0) 2 = (n, (u.length + (putV n).length, 0)) := by
  have h := ref_back u t n h0 (by omega)
  have hd : doV (u ++ (putV n ++ t)) (u.length, 0) 2 = (n, (u.length + (putV n).length, 0)) := by
    unfold doV
    simp only [h]
    rw [if_neg (by simp), if_neg (by omega), if_neg (by simp), if_neg (by omega), if_neg (by omega)]
  unfold askV10
  rw [hd]
  simp
theorem askI_back (u t : By) (n : Int) (h0 : 0 ≤ zigV n) (h1 : zigV n ≤ 18446744073709551615) : askV10 (u ++ (putV (zigV n) ++ t)) (u.length, 0) 3 = (n, (u.length + (putV (zigV n)).length, 0)) := by
  have h := ref_back u t (zigV n) h0 h1
  have hd : doV (u ++ (putV (zigV n) ++ t)) (u.length, 0) 3 = (n, (u.length + (putV (zigV n)).length, 0)) := by
    unfold doV
    simp only [h]
    rw [if_neg (by simp), if_neg (by omega), if_neg (by simp), if_neg (by omega), if_pos trivial, zag_zig]
  unfold askV10
  rw [hd]
  simp
theorem askB_back (u t : By) (b : UInt8) : askV10 (u ++ (b :: t)) (u.length, 0) 0 = ((b.toNat : Int), (u.length + 1, 0)) := by
  have hd : doV (u ++ (b :: t)) (u.length, 0) 0 = ((b.toNat : Int), (u.length + 1, 0)) := by
    unfold doV
    rw [if_neg (by simp), if_pos rfl, if_neg (by simp)]
    simp
  unfold askV10
  rw [hd]
  simp
theorem varsQ_back : ∀ (vs : List Int) (f i : Nat) (u t : By), (∀ v ∈ vs, 0 ≤ v ∧ v < 256) → vs.length < f → varsQ (u ++ (vs.map b8 ++ t)) ((i + vs.length : Nat) : Int) f i (u.length, 0) = (vs, (u.length + vs.length, 0))
  | [], 0, i, u, t, h, hf => by simp at hf
  | [], f + 1, i, u, t, h, hf => by
    rw [varsQ, if_neg (by simp)]; simp
  | v :: vs, 0, i, u, t, h, hf => by simp at hf
  | v :: vs, f + 1, i, u, t, h, hf => by
    have hv := h v (List.mem_cons_self ..)
    have hb := b8_toNat v
    have e := askB_back u (vs.map b8 ++ t) (b8 v)
    have ih := varsQ_back vs f (i + 1) (u ++ [b8 v]) t (fun x hx => h x (List.mem_cons_of_mem _ hx)) (by simpa using hf)
    simp only [List.append_assoc, List.cons_append, List.nil_append, List.length_append, List.length_singleton] at ih
    rw [show i + 1 + vs.length = i + (vs.length + 1) from by omega] at ih
    rw [List.map_cons, List.length_cons, List.cons_append, varsQ, if_pos (by omega), e]
    simp only [ih]
    refine Prod.ext_iff.2 ⟨?_, ?_⟩
    · simp only; congr 1; omega
    · simp only; congr 1; omega
theorem nodeQ_back (u t : By) (x : Nd) (h : ndOk x) : nodeQ (u ++ (nodeB x ++ t)) (u.length, 0) = (x, (u.length + (nodeB x).length, 0)) := by
  obtain ⟨h1, h2, h3, h4, h5⟩ := h
  have hb := b8_toNat x.1
  have hbx : ((b8 x.1).toNat : Int) = x.1 := by omega
  have e := askB_back u ((if kindN x.1 = 1 then putV x.2 else if kindN x.1 = 2 then putV (zigV x.2) else []) ++ t) (b8 x.1)
  have en : nodeB x ++ t = b8 x.1 :: ((if kindN x.1 = 1 then putV x.2 else if kindN x.1 = 2 then putV (zigV x.2) else []) ++ t) := rfl
  rw [hbx] at e
  rw [en]
  simp only [nodeQ, e]
  by_cases k1 : kindN x.1 = 1
  · have hx := h3 k1
    have c := askN_back (u ++ [b8 x.1]) t x.2 hx.1 (by omega)
    simp only [List.append_assoc, List.cons_append, List.nil_append, List.length_append, List.length_singleton] at c
    simp only [k1, if_true, c]
    refine Prod.ext_iff.2 ⟨rfl, ?_⟩
    simp only [nodeB, k1, if_true, List.length_cons]
    congr 1; omega
  · by_cases k2 : kindN x.1 = 2
    · have hx := h4 k2
      have hz := zig_in x.2 hx.1 hx.2
      have c := askI_back (u ++ [b8 x.1]) t x.2 hz.1 hz.2
      simp only [List.append_assoc, List.cons_append, List.nil_append, List.length_append, List.length_singleton] at c
      simp only [k2, show ¬ ((2 : Int) = 1) from by omega, if_false, if_true, c]
      refine Prod.ext_iff.2 ⟨rfl, ?_⟩
      simp only [nodeB, k2, show ¬ ((2 : Int) = 1) from by omega, if_false, if_true, List.length_cons]
      congr 1; omega
    · have hx := h5 k1 k2
      simp only [k1, k2, if_false]
      refine Prod.ext_iff.2 ⟨?_, ?_⟩
      · show (x.1, 0) = x; rw [← hx]
      · simp only [nodeB, k1, k2, if_false, List.length_cons, List.length_nil]
theorem nodesQ_back : ∀ (l : List Nd) (f i : Nat) (u t : By), (∀ x ∈ l, ndOk x) → l.length < f → nodesQ (u ++ (nodesB l ++ t)) ((i + l.length : Nat) : Int) f i (u.length, 0) = (l, (u.length + (nodesB l).length, 0))
  | [], 0, i, u, t, h, hf => by simp at hf
  | [], f + 1, i, u, t, h, hf => by
    rw [nodesQ, if_neg (by simp)]; simp [nodesB]
  | x :: l, 0, i, u, t, h, hf => by simp at hf
  | x :: l, f + 1, i, u, t, h, hf => by
    have e := nodeQ_back u (nodesB l ++ t) x (h x (List.mem_cons_self ..))
    have ih := nodesQ_back l f (i + 1) (u ++ nodeB x) t (fun y hy => h y (List.mem_cons_of_mem _ hy)) (by simpa using hf)
    simp only [List.append_assoc, List.length_append] at ih
    rw [show i + 1 + l.length = i + (l.length + 1) from by omega] at ih
    have en : nodesB (x :: l) = nodeB x ++ nodesB l := by simp [nodesB]
    rw [en, List.length_cons, nodesQ, if_pos (by omega), List.append_assoc, e]
    simp only [ih]
    refine Prod.ext_iff.2 ⟨rfl, ?_⟩
    simp only [List.length_append]
    congr 1; omega
theorem decQ_enc (p : Pg) (h : PgOk p) (t : By) : decQ (encV p ++ t) = p := by
  obtain ⟨⟨h1, h2⟩, ⟨h3, h4⟩, ⟨h5, h6⟩⟩ := h
  have a := askN_back [] (putV p.vars.length ++ (p.vars.map b8 ++ (putV p.body.length ++ (nodesB p.body ++ t)))) p.params h1 (by omega)
  have b := askN_back (putV p.params) (p.vars.map b8 ++ (putV p.body.length ++ (nodesB p.body ++ t))) p.vars.length (by omega) (by omega)
  have c := varsQ_back p.vars 13 0 (putV p.params ++ putV p.vars.length) (putV p.body.length ++ (nodesB p.body ++ t)) h4 (by omega)
  have d := askN_back (putV p.params ++ (putV p.vars.length ++ p.vars.map b8)) (nodesB p.body ++ t) p.body.length (by omega) (by omega)
  have e := nodesQ_back p.body 201 0 (putV p.params ++ (putV p.vars.length ++ (p.vars.map b8 ++ putV p.body.length))) t h6 (by omega)
  simp only [List.nil_append, List.length_nil, Nat.zero_add, List.append_assoc, List.length_append, List.length_map] at a b c d e
  have hs : encV p ++ t = putV p.params ++ (putV p.vars.length ++ (p.vars.map b8 ++ (putV p.body.length ++ (nodesB p.body ++ t)))) := by simp [encV]
  rw [hs]
  simp only [decQ, a, b, c]
  rw [show (putV p.params).length + (putV p.vars.length).length + p.vars.length = (putV p.params).length + ((putV p.vars.length).length + p.vars.length) from by omega, d]
  simp only
  rw [show (putV p.params).length + ((putV p.vars.length).length + p.vars.length) + (putV p.body.length).length = (putV p.params).length + ((putV p.vars.length).length + (p.vars.length + (putV p.body.length).length)) from by omega, e]
end Go.Proofs.Ytalehbmgbjiigaa
end

section
namespace Go.Proofs.Ytalehbmgbjiigaa
open Go.RowKit
set_option linter.unusedVariables false
set_option linter.unusedSimpArgs false

def F_bytes01 : List D → Option D := F2 strT intT fun s i => if 0 ≤ i ∧ i ≤ s.length ∧ s.length ≤ 3000000 then some (iD (cntB 10 (s.drop i.toNat))) else none
theorem bytes01_loop (s : By) (i : Nat) (hi : i ≤ s.length) (hs : s.length ≤ 3000000) (h : Heap) (N : Nat) : ∀ (f k n : Nat), f + k = 10 → f < n →
    ∃ k' : D, iterS (stepF Try.prog TB10 kp_offshootref01_bytes N Try.f151 0) n [sD s, iD i, iD 0, iD k] h =
      if cntB f (s.drop (i + k)) = 0 then some (.exit 0, [sD s, iD i, iD 0, k'], h) else some (.ret, [sD s, iD i, iD (k + cntB f (s.drop (i + k)) : Nat), k'], h)
  | 0, k, n, hk, hn => by
    obtain ⟨n, rfl⟩ : ∃ m, n = m + 1 := ⟨n - 1, by omega⟩
    refine ⟨iD k, ?_⟩
    simp only [cntB, if_true]
    exact iterS_exit (by rw [st_offshootref01_bytes_0]; simp [show ¬ (k : Int) < 10 from by omega])
  | f + 1, k, n, hk, hn => by
    obtain ⟨n, rfl⟩ : ∃ m, n = m + 1 := ⟨n - 1, by omega⟩
    have e1 := intD_add (i : Int) (k : Int) (by omega) (by omega)
    have e2 := intD_add (k : Int) 1 (by omega) (by omega)
    have hk10 : (k : Int) < 10 := by omega
    by_cases hl : i + k < s.length
    · have hl' : (i : Int) + k < s.length := by omega
      have hd : s.drop (i + k) = s[i + k] :: s.drop (i + (k + 1)) := by rw [List.drop_eq_getElem_cons hl]; rfl
      have hx := str_idx s (i + k) hl
      rw [Int.natCast_add] at hx
      have e3 : ((k : Int) + 1) = ((k + 1 : Nat) : Int) := by omega
      by_cases hb : s[i + k].toNat < 128
      · refine ⟨iD k, ?_⟩
        rw [hd, cntB, if_pos hb, if_neg (by omega)]
        refine iterS_ret ?_
        have hbI : (s[i + k].toNat : Int) < 128 := by omega
        rw [st_offshootref01_bytes_0]
        simp [hk10, e1, hl', hx, u8D, hbI, e2]
      · obtain ⟨k', ih⟩ := bytes01_loop s i hi hs h N f (k + 1) n (by omega) (by omega)
        refine ⟨k', ?_⟩
        have hstep : stepF Try.prog TB10 kp_offshootref01_bytes N Try.f151 0 [sD s, iD i, iD 0, iD k] h = some (.normal, [sD s, iD i, iD 0, iD (k + 1 : Nat)], h) := by
          have hbI : ¬ (s[i + k].toNat : Int) < 128 := by omega
          rw [st_offshootref01_bytes_0]
          simp [hk10, e1, hl', hx, u8D, hbI, e2]
        rw [iterS_go hstep, ih, hd, cntB, if_neg hb]
        by_cases hc : cntB f (s.drop (i + (k + 1))) = 0
        · rw [if_pos hc, if_pos hc]; simp
        · rw [if_neg hc, if_neg hc, if_neg (by omega)]
          rw [show k + 1 + cntB f (s.drop (i + (k + 1))) = k + (cntB f (s.drop (i + (k + 1))) + 1) from by omega]
    · refine ⟨iD k, ?_⟩
      have hl' : ¬ (i : Int) + k < s.length := by omega
      rw [List.drop_of_length_le (by omega), cntB, if_pos rfl]
      exact iterS_exit (by rw [st_offshootref01_bytes_0]; simp [hk10, e1, hl'])
theorem C_bytes01 : CallOk Try.prog 151 F_bytes01 := call2 (kp := kp_offshootref01_bytes) TB10_ok mixed Try.func151 (by kernel_rfl) (by decide) fun s i d h => by
  split at h
  case isFalse => cases h
  rename_i hp
  cases h
  obtain ⟨h0, h1, h2⟩ := hp
  obtain ⟨i, rfl⟩ := Int.eq_ofNat_of_zero_le h0
  have hi : i ≤ s.length := by omega
  refine ⟨20, _, ?_, Imp.refl _⟩
  show outD (textK _ _ _ _ _ [sD s, iD i] []) = _
  obtain ⟨k', hl⟩ := bytes01_loop s i hi h2 [] 20 10 0 20 (by omega) (by omega)
  have hl' : loopF Try.prog TB10 kp_offshootref01_bytes 20 Try.f151 0 [sD s, iD i, iD 0, iD 0] [] = _ := hl
  rw [sh_offshootref01_bytes, hl']
  simp only [Nat.add_zero, Nat.zero_add, Int.toNat_natCast]
  by_cases hc : cntB 10 (s.drop i) = 0
  · rw [if_pos hc, hc]; simp
  · rw [if_neg hc]; simp

def F_value01 : List D → Option D := F1 strT fun s => if s.length ≤ 3000000 then some (u64D (valV s)) else none
theorem value01_loop (s : By) (hs : s.length ≤ 3000000) (h : Heap) (N : Nat) : ∀ (i n : Nat), i ≤ s.length → i < n →
    iterS (stepF Try.prog TB10 kp_offshootref01_value N Try.f152 0) n [sD s, u64D (valV (s.drop i)), iD ((i : Int) - 1)] h = some (.exit 0, [sD s, u64D (valV s), iD (-1)], h)
  | 0, n, hi, hn => by
    obtain ⟨n, rfl⟩ : ∃ m, n = m + 1 := ⟨n - 1, by omega⟩
    refine iterS_exit ?_
    rw [st_offshootref01_value_0]
    simp
  | i + 1, n, hi, hn => by
    obtain ⟨n, rfl⟩ : ∃ m, n = m + 1 := ⟨n - 1, by omega⟩
    have hx := str_idx s i (by omega)
    have hd : s.drop i = s[i] :: s.drop (i + 1) := List.drop_eq_getElem_cons (by omega)
    have hb := s[i].toNat_lt
    have e1 : intOf64 .u64 (u8D s[i]) = some (u64D (s[i].toNat : Int)) := u64_of _ _ (by omega) (by omega)
    have e2 : ((i + 1 : Nat) : Int) - 1 = i := by omega
    have e3 := intD_sub (i : Int) 1 (by omega) (by omega)
    have e4 : intD .rem .u64 (s[i].toNat : Int) 128 = some (u64D ((s[i].toNat : Int) % 128)) := u64_rem _ _ (by omega) (by omega)
    have e5 : intD .mul .u64 (valV (s.drop (i + 1))) 128 = some (u64D (IntKind.u64.wrap (valV (s.drop (i + 1)) * 128))) := rfl
    have e6 : intD .add .u64 (IntKind.u64.wrap (valV (s.drop (i + 1)) * 128)) ((s[i].toNat : Int) % 128) = some (u64D (valV (s.drop i))) := by rw [hd]; rfl
    have hstep : stepF Try.prog TB10 kp_offshootref01_value N Try.f152 0 [sD s, u64D (valV (s.drop (i + 1))), iD (((i + 1 : Nat) : Int) - 1)] h = some (.normal, [sD s, u64D (valV (s.drop i)), iD ((i : Int) - 1)], h) := by
      rw [st_offshootref01_value_0, e2]
      simp only [u64D] at e1 e4 e5 e6 ⊢
      simp [hx, e1, e3, e4, e5, e6]
    rw [iterS_go hstep]
    exact value01_loop s hs h N i n (by omega) (by omega)
theorem C_value01 : CallOk Try.prog 152 F_value01 := call1 (kp := kp_offshootref01_value) TB10_ok mixed Try.func152 (by kernel_rfl) (by decide) fun s d h => by
  split at h
  case isFalse => cases h
  rename_i hs
  cases h
  refine ⟨s.length + 1, _, ?_, Imp.refl _⟩
  show outD (textK _ _ _ _ _ [sD s] []) = _
  have hl := value01_loop s hs [] (s.length + 1) s.length (s.length + 1) (Nat.le_refl _) (by omega)
  rw [List.drop_length] at hl
  have hl' : loopF Try.prog TB10 kp_offshootref01_value (s.length + 1) Try.f152 0 [sD s, .v (.int .u64 0), iD ((s.length : Int) - 1)] [] = _ := hl
  have e3 := intD_sub (s.length : Int) 1 (by omega) (by omega)
  rw [sh_offshootref01_value]
  simp [e3, hl']

/- With a sign, and without. -/
theorem xor_none (a : Int) (h0 : 0 ≤ a) (h1 : a < 2 ^ 63) : intD .xor .i64 a 0 = some (iD a) := by
  obtain ⟨x, rfl⟩ := Int.eq_ofNat_of_zero_le h0
  have hx : x < 2 ^ 63 := by exact_mod_cast h1
  have e : (BitVec.ofInt IntKind.i64.bits (x : Int) ^^^ BitVec.ofInt IntKind.i64.bits 0).toNat = x := by
    show (BitVec.ofInt 64 (x : Int) ^^^ BitVec.ofInt 64 0).toNat = x
    rw [BitVec.toNat_xor]
    simp
    omega
  show some (D.v (.int .i64 (IntKind.i64.wrap _))) = _
  rw [e, wrap_in _ (by omega) (by omega)]
theorem xor_all (a : Int) (h0 : 0 ≤ a) (h1 : a < 2 ^ 63) : intD .xor .i64 a (-1) = some (iD (-a - 1)) := by
  obtain ⟨x, rfl⟩ := Int.eq_ofNat_of_zero_le h0
  have hx : x < 2 ^ 63 := by exact_mod_cast h1
  have e : (BitVec.ofInt IntKind.i64.bits (x : Int) ^^^ BitVec.ofInt IntKind.i64.bits (-1)).toNat = 2 ^ 64 - 1 - x := by
    show (BitVec.ofInt 64 (x : Int) ^^^ BitVec.ofInt 64 (-1)).toNat = _
    have : BitVec.ofInt 64 (-1) = BitVec.allOnes 64 := by decide
    rw [this, BitVec.xor_allOnes, BitVec.toNat_not]
    simp
    omega
  show some (D.v (.int .i64 (IntKind.i64.wrap _))) = _
  rw [e]
  have : IntKind.i64.wrap ((2 ^ 64 - 1 - x : Nat) : Int) = -(x : Int) - 1 := by
    rw [IntKind.wrap_i64]
    omega
  rw [this]
theorem and_one (k : IntKind) (hk : k = .u64) (u : Int) (h0 : 0 ≤ u) (h1 : u ≤ 18446744073709551615) : intD .and .u64 u 1 = some (u64D (u % 2)) := by
  obtain ⟨x, rfl⟩ := Int.eq_ofNat_of_zero_le h0
  have e : (BitVec.ofInt IntKind.u64.bits (x : Int) &&& BitVec.ofInt IntKind.u64.bits 1).toNat = x % 2 := by
    show (BitVec.ofInt 64 (x : Int) &&& BitVec.ofInt 64 1).toNat = _
    rw [BitVec.toNat_and]
    have h2 : (BitVec.ofInt 64 1).toNat = 2 ^ 1 - 1 := by decide
    have h3 : (BitVec.ofInt 64 (x : Int)).toNat = x := by simp; omega
    rw [h2, h3, Nat.and_two_pow_sub_one_eq_mod]
  show some (D.v (.int .u64 (IntKind.u64.wrap _))) = _
  rw [e, IntWalk.u64_in _ ⟨by omega, by omega⟩]
  show _ = some (D.v (.int .u64 ((x : Int) % 2)))
  congr 3
def F_Zag : List D → Option D := F1 u64T fun u => if 0 ≤ u ∧ u ≤ 18446744073709551615 then some (iD (zagV u)) else none
theorem C_Zag : CallOk Try.prog 129 F_Zag := call1 (kp := kp_zigzag_Zag) TB10_ok mixed Try.func129 (by kernel_rfl) (by decide) fun u d h => by
  split at h
  case isFalse => cases h
  rename_i hu
  cases h
  refine ⟨0, _, ?_, Imp.refl _⟩
  show outD (textK _ _ _ _ _ [u64D u] []) = _
  rw [sh_zigzag_Zag]
  have e1 : binK .int .shr (u64D u) (.v (.int .u64 1)) = some (u64D (u / 2)) := by
    show shiftD .shr .u64 u 1 = _
    unfold shiftD
    rw [if_neg (by omega)]
    have e : min (Int.toNat 1) IntKind.u64.bits = 1 := by decide
    simp only [e, Int.pow_one]
    rw [Int.fdiv_eq_ediv_of_nonneg _ (by omega)]
    rfl
  have e2 : intOf64 .i64 (u64D (u / 2)) = some (iD (u / 2)) := i64_of _ _ (by omega) (by omega)
  have e3 : binK .int .and (u64D u) (.v (.int .u64 1)) = some (u64D (u % 2)) := by rw [u64D, binK_and]; exact and_one _ rfl u hu.1 hu.2
  have e4 : intOf64 .i64 (u64D (u % 2)) = some (iD (u % 2)) := i64_of _ _ (by omega) (by omega)
  unfold zagV
  by_cases hp : u % 2 = 0
  · have e5 : negD (iD (u % 2)) = some (iD 0) := by rw [hp]; rfl
    have e6 := xor_none (u / 2) (by omega) (by omega)
    rw [if_pos hp]
    simp [e1, e2, e3, e4, e5, e6]
  · have e5 : negD (iD (u % 2)) = some (iD (-1)) := by rw [show u % 2 = 1 from by omega]; rfl
    have e6 := xor_all (u / 2) (by omega) (by omega)
    rw [if_neg hp]
    simp [e1, e2, e3, e4, e5, e6]
theorem C_Zag02 : CallOk Try.prog 146 F_Zag := call1 (kp := kp_offshootref02_Zag) TB10_ok mixed Try.func146 (by kernel_rfl) (by decide) fun u d h => by
  split at h
  case isFalse => cases h
  rename_i hu
  cases h
  refine ⟨0, _, ?_, Imp.refl _⟩
  show outD (textK _ _ _ _ _ [u64D u] []) = _
  rw [sh_offshootref02_Zag]
  have e1 : intD .rem .u64 u 2 = some (u64D (u % 2)) := u64_rem _ _ hu.1 (by omega)
  have e2 : intD .quo .u64 u 2 = some (u64D (u / 2)) := u64_quo _ _ hu.1 hu.2 (by omega)
  have e3 : intOf64 .i64 (u64D (u / 2)) = some (iD (u / 2)) := i64_of _ _ (by omega) (by omega)
  have e4 := intD_sub 0 (u / 2) (by omega) (by omega)
  have e5 := intD_sub (-(u / 2)) 1 (by omega) (by omega)
  unfold zagV
  simp only [u64D] at e1 e2 e3 ⊢
  by_cases hp : u % 2 = 0
  · simp [e1, e2, e3, hp]
  · simp [e1, e2, e3, e4, e5, hp]
def F_Zig : List D → Option D := F1 intT fun n => if -9223372036854775808 ≤ n ∧ n ≤ 9223372036854775807 then some (u64D (zigV n)) else none
theorem C_Zig02 : CallOk Try.prog 98 F_Zig := call1 (kp := kp_offshootref02_Zig) TB10_ok mixed Try.func98 (by kernel_rfl) (by decide) fun n d h => by
  split at h
  case isFalse => cases h
  rename_i hn
  cases h
  refine ⟨0, _, ?_, Imp.refl _⟩
  show outD (textK _ _ _ _ _ [iD n] []) = _
  rw [sh_offshootref02_Zig]
  unfold zigV
  by_cases h0 : 0 ≤ n
  · have e1 : intOf64 .u64 (iD n) = some (u64D n) := u64_of _ _ h0 (by omega)
    have e2 : intD .mul .u64 2 n = some (u64D (2 * n)) := u64_mul _ _ (by omega) (by omega)
    simp only [u64D] at e1 e2 ⊢
    simp [h0, e1, e2]
  · have e1 := intD_add n 1 (by omega) (by omega)
    have e2 := intD_sub 0 (n + 1) (by omega) (by omega)
    have e3 : intOf64 .u64 (iD (0 - (n + 1))) = some (u64D (0 - (n + 1))) := u64_of _ _ (by omega) (by omega)
    have e4 : intD .mul .u64 2 (0 - (n + 1)) = some (u64D (2 * (0 - (n + 1)))) := u64_mul _ _ (by omega) (by omega)
    have e5 : intD .add .u64 (2 * (0 - (n + 1))) 1 = some (u64D (-2 * n - 1)) := by rw [u64_add _ _ (by omega) (by omega)]; congr 2; omega
    simp only [u64D] at e3 e4 e5 ⊢
    simp only [binK_geq, thn_some, condK_bool, decide_eq_true_eq, h0, if_false, binK_int, e1, binK_sub, e2, e3, binK_mul, e4, e5, outD_v]
/-- A row of one byte is its text. -/
theorem row_one (b : UInt8) (H : Heap) : rowH 5 1 1 [.v (.int .u8 0)] [(0, u8D b)] H = some (.hs H.length 1, H ++ [.cells 5 1 (bytesC [b])]) := rfl
theorem bytes_one (t : TypeId) (b : UInt8) (H : Heap) : bytesS (H ++ [.cells t 1 (bytesC [b])]) (.hs H.length 1) = some (sD [b]) := bytesS_row _ _ _ t [b] (by simp) rfl

/- Groups are read. -/
def F_LebGet : List D → Option D := F2 strT intT fun s i => if s.length ≤ 3000000 then some (if 0 ≤ i ∧ i ≤ s.length then .tup [u64D (lebV s i.toNat).1, iD (lebV s i.toNat).2.1, iD (lebV s i.toNat).2.2] else .tup [u64D 0, iD i, iD 1]) else none
def lebOut (s : By) (i : Nat) (h : Heap) : Lb → Option (Lv × List D × Heap) → Prop
  | .bad e, r => ∃ d5 d6, r = some (.ret, [sD s, iD i, u64D 0, iD i, iD e, d5, d6], h)
  | .got m j b, r => ∃ d2 d3 d4, r = some (.exit 0, [sD s, iD i, d2, d3, d4, u64D m, iD j], h)
theorem leb_grp (b : UInt8) (k : Nat) (n : Int) : (thn (binK .int .and (u8D b) (.v (.int .u8 127))) fun y6 => thn (intOf64 .u64 y6) fun y7 => thn (binK .int .shl y7 (iD (7 * k))) fun y9 => binK .int .or (u64D n) y9) = some (u64D (orI n (grpI b k))) := by
  have e1 : binK .int .and (u8D b) (.v (.int .u8 127)) = some (.v (.int .u8 (IntKind.u8.wrap (BitVec.ofInt 8 b.toNat &&& BitVec.ofInt 8 127).toNat))) := by rw [u8D, binK_and]; rfl
  rw [e1, thn_some]
  generalize hx : IntKind.u8.wrap (BitVec.ofInt 8 b.toNat &&& BitVec.ofInt 8 127).toNat = x
  have e2 : intOf64 .u64 (.v (.int .u8 x)) = some (u64D (IntKind.u64.wrap x)) := rfl
  rw [e2, thn_some]
  have e3 : binK .int .shl (u64D (IntKind.u64.wrap x)) (iD (7 * k)) = some (u64D (grpI b k)) := by
    show shiftD .shl .u64 (IntKind.u64.wrap x) (7 * k) = _
    unfold shiftD
    rw [if_neg (by omega)]
    have : Int.toNat (7 * (k : Int)) = 7 * k := by omega
    simp only [this]
    unfold grpI
    rw [hx]
    rfl
  rw [e3, thn_some, u64D, u64D, binK_or]
  rfl
theorem lebGet_loop (s : By) (i : Nat) (hi : i ≤ s.length) (hs : s.length ≤ 3000000) (h : Heap) (N : Nat) (d2 d3 d4 : D) : ∀ (f k n : Nat) (m : Int), f + k = 10 → f < n → i + k ≤ s.length →
    lebOut s i h (lebF f (s.drop (i + k)) k m) (iterS (stepF Try.prog TB10 kp_leb_Get N Try.f126 0) n [sD s, iD i, d2, d3, d4, u64D m, iD k] h)
  | 0, k, n, m, hk, hn, hik => by
    obtain ⟨n, rfl⟩ : ∃ m, n = m + 1 := ⟨n - 1, by omega⟩
    refine ⟨u64D m, iD k, ?_⟩
    exact iterS_ret (by rw [st_leb_Get_0]; simp [show (k : Int) = 10 from by omega]; rfl)
  | f + 1, k, n, m, hk, hn, hik => by
    obtain ⟨n, rfl⟩ : ∃ m, n = m + 1 := ⟨n - 1, by omega⟩
    have e1 := intD_add (i : Int) (k : Int) (by omega) (by omega)
    have e2 := intD_add (k : Int) 1 (by omega) (by omega)
    have hk10 : ¬ (k : Int) = 10 := by omega
    have e4 : intD .mul .i64 7 (k : Int) = some (iD (7 * k)) := by rw [intD, wrap_in _ (by omega) (by omega)]
    by_cases hl : i + k < s.length
    · have hl' : ¬ (i : Int) + k = s.length := by omega
      have hd : s.drop (i + k) = s[i + k] :: s.drop (i + (k + 1)) := by rw [List.drop_eq_getElem_cons hl]; rfl
      have hx := str_idx s (i + k) hl
      rw [Int.natCast_add] at hx
      have hg := leb_grp s[i + k] k m
      have hb8 : binK .int .lss (u8D s[i + k]) (.v (.int .u8 128)) = some (bD (decide (s[i + k].toNat < 128))) := by simp [u8D]; omega
      -- the round's numbers
      obtain ⟨z6, q6, hg⟩ : ∃ z6, binK .int .and (u8D s[i + k]) (.v (.int .u8 127)) = some z6 ∧ (thn (intOf64 .u64 z6) fun y7 => thn (binK .int .shl y7 (iD (7 * k))) fun y9 => binK .int .or (u64D m) y9) = some (u64D (orI m (grpI s[i + k] k))) := by
        cases hz : binK .int .and (u8D s[i + k]) (.v (.int .u8 127)) with
        | none => rw [hz] at hg; cases hg
        | some z => rw [hz, thn_some] at hg; exact ⟨z, rfl, hg⟩
      obtain ⟨z7, q7, hg⟩ : ∃ z7, intOf64 .u64 z6 = some z7 ∧ (thn (binK .int .shl z7 (iD (7 * k))) fun y9 => binK .int .or (u64D m) y9) = some (u64D (orI m (grpI s[i + k] k))) := by
        cases hz : intOf64 .u64 z6 with
        | none => rw [hz] at hg; cases hg
        | some z => rw [hz, thn_some] at hg; exact ⟨z, rfl, hg⟩
      obtain ⟨z9, q9, hg⟩ : ∃ z9, binK .int .shl z7 (iD (7 * k)) = some z9 ∧ binK .int .or (u64D m) z9 = some (u64D (orI m (grpI s[i + k] k))) := by
        cases hz : binK .int .shl z7 (iD (7 * k)) with
        | none => rw [hz] at hg; cases hg
        | some z => rw [hz, thn_some] at hg; exact ⟨z, rfl, hg⟩
      rw [hd, lebF]
      by_cases hb : s[i + k].toNat < 128
      · rw [if_pos hb]
        refine ⟨d2, d3, d4, iterS_exit ?_⟩
        rw [st_leb_Get_0]
        simp [hk10, e1, hl', hx, q6, q7, q9, hg, hb8, hb, e2, e4]
      · rw [if_neg hb]
        have ih := lebGet_loop s i hi hs h N d2 d3 d4 f (k + 1) n (orI m (grpI s[i + k] k)) (by omega) (by omega) (by omega)
        have hstep : stepF Try.prog TB10 kp_leb_Get N Try.f126 0 [sD s, iD i, d2, d3, d4, u64D m, iD k] h = some (.normal, [sD s, iD i, d2, d3, d4, u64D (orI m (grpI s[i + k] k)), iD (k + 1 : Nat)], h) := by
          rw [st_leb_Get_0]
          simp [hk10, e1, hl', hx, q6, q7, q9, hg, hb8, hb, e2, e4]
        rw [iterS_go hstep]
        exact ih
    · have hl' : (i : Int) + k = s.length := by omega
      have hd : s.drop (i + k) = [] := List.drop_of_length_le (by omega)
      rw [hd, lebF]
      exact ⟨u64D m, iD k, iterS_ret (by rw [st_leb_Get_0]; simp [hk10, e1, hl']; rfl)⟩
theorem C_LebGet : CallOk Try.prog 126 F_LebGet := call2 (kp := kp_leb_Get) TB10_ok mixed Try.func126 (by kernel_rfl) (by decide) fun s i d h => by
  split at h
  case isFalse => cases h
  rename_i hs
  cases h
  refine ⟨20, _, ?_, Imp.refl _⟩
  show outD (textK _ _ _ _ _ [sD s, iD i] []) = _
  rw [sh_leb_Get]
  by_cases h0 : 0 ≤ i
  · by_cases h1 : i ≤ s.length
    · obtain ⟨i, rfl⟩ := Int.eq_ofNat_of_zero_le h0
      have hi : i ≤ s.length := by omega
      have g1 : ¬ (i : Int) < 0 := by omega
      have g2 : ¬ (s.length : Int) < i := by omega
      have hl := lebGet_loop s i hi hs [] 20 (u64D 0) (iD 0) (iD 0) 10 0 20 0 (by omega) (by omega) (by omega)
      rw [if_pos ⟨h0, h1⟩]
      simp only [Int.toNat_natCast, Nat.add_zero] at hl ⊢
      cases hL : lebF 10 (s.drop i) 0 0 with
      | bad e =>
        rw [hL] at hl
        obtain ⟨d5, d6, hl⟩ := hl
        have hl' : loopF Try.prog TB10 kp_leb_Get 20 Try.f126 0 [sD s, iD i, .v (.int .u64 0), iD 0, iD 0, .v (.int .u64 0), iD 0] [] = _ := hl
        simp [g1, g2, hl', lebV, hL]
      | got m j b =>
        rw [hL] at hl
        obtain ⟨d2, d3, d4, hl⟩ := hl
        have hl' : loopF Try.prog TB10 kp_leb_Get 20 Try.f126 0 [sD s, iD i, .v (.int .u64 0), iD 0, iD 0, .v (.int .u64 0), iD 0] [] = _ := hl
        obtain ⟨k1, k2, k3, k4⟩ := lebF_in _ _ _ _ _ _ _ hL
        rw [List.length_drop] at k2
        rw [List.getElem?_drop] at k4
        have hlt := (List.getElem?_eq_some_iff.1 k4).1
        have hget : s[i + (j - 0 - 1)] = b := (List.getElem?_eq_some_iff.1 k4).2
        have hx := str_idx s (i + (j - 0 - 1)) hlt
        rw [hget] at hx
        have ex : ((i + (j - 0 - 1) : Nat) : Int) = (i : Int) + j - 1 := by omega
        rw [ex] at hx
        have a1 := intD_add (i : Int) (j : Int) (by omega) (by omega)
        have a2 := intD_sub ((i : Int) + j) 1 (by omega) (by omega)
        have hb : (b.toNat : Int) = 0 ↔ b = 0 := by
          constructor
          · intro h; apply UInt8.toNat_inj.1; simpa using h
          · intro h; rw [h]; decide
        have hb2 : binK .int .eql (u8D b) (.v (.int .u8 0)) = some (bD (decide (b = 0))) := by
          have : ((b.toNat : Int) == 0) = decide (b = 0) := by
            by_cases hz : b = 0
            · rw [hb.2 hz, decide_eq_true hz]; decide
            · rw [decide_eq_false hz]; exact beq_eq_false_iff_ne.2 fun e => hz (hb.1 e)
          rw [u8D, binK_eql, this]
        have hb3 : binK .int .gtr (u8D b) (.v (.int .u8 1)) = some (bD (decide (1 < b.toNat))) := by
          have : decide ((1 : Int) < b.toNat) = decide (1 < b.toNat) := decide_eq_decide.2 (by omega)
          rw [u8D, binK_gtr, this]
        unfold lebV
        rw [hL]
        dsimp only
        by_cases c1 : b = 0
        · have hb4 : binK .int .eql (u8D b) (.v (.int .u8 0)) = some (bD true) := by rw [hb2, decide_eq_true c1]
          by_cases c2 : 1 < j
          · rw [if_pos (.inl ⟨c1, c2⟩)]
            clear hb2 hb3 hb
            simp [g1, g2, hl', a1, a2, hx, hb4, show (1 : Int) < j from by omega, u64D]
          · rw [if_neg (by rintro (h | h) <;> omega)]
            clear hb2 hb3 hb
            simp [g1, g2, hl', a1, a2, hx, hb4, show ¬ (1 : Int) < j from by omega, show ¬ (j : Int) = 10 from by omega]
        · have hb4 : binK .int .eql (u8D b) (.v (.int .u8 0)) = some (bD false) := by rw [hb2, decide_eq_false c1]
          by_cases c2 : j = 10
          · have c2' : (j : Int) = 10 := by omega
            by_cases c3 : 1 < b.toNat
            · rw [if_pos (.inr ⟨c2, c3⟩)]
              rw [c2'] at a1 a2 hx
              have hb5 : binK .int .gtr (u8D b) (.v (.int .u8 1)) = some (bD true) := by rw [hb3, decide_eq_true c3]
              clear hb2 hb3 hb
              simp [g1, g2, hl', a1, a2, hx, hb4, hb5, c2', u64D]
            · rw [if_neg (by rintro (h | h); exact c1 h.1; exact c3 h.2)]
              rw [c2'] at a1 a2 hx
              have hb5 : binK .int .gtr (u8D b) (.v (.int .u8 1)) = some (bD false) := by rw [hb3, decide_eq_false c3]
              clear hb2 hb3 hb
              simp [g1, g2, hl', a1, a2, hx, hb4, hb5, c2']
          · rw [if_neg (by rintro (h | h); exact c1 h.1; exact c2 h.1)]
            clear hb2 hb3 hb
            simp [g1, g2, hl', a1, a2, hx, hb4, show ¬ (j : Int) = 10 from by omega]
    · rw [if_neg (by omega)]
      have g1 : ¬ i < 0 := by omega
      have g2 : (s.length : Int) < i := by omega
      simp [g1, g2]
      rfl
  · rw [if_neg (by omega)]
    have g1 : i < 0 := by omega
    simp [g1]
    rfl
end Go.Proofs.Ytalehbmgbjiigaa
end

section
namespace Go.Proofs.Ytalehbmgbjiigaa
open Go.RowKit
set_option linter.unusedVariables false

def fs10a : List Entry := (151, true, liftF F_bytes01) :: (152, true, liftF F_value01) :: (129, true, liftF F_Zag) :: (146, true, liftF F_Zag) :: (98, true, liftF F_Zig) :: (126, true, liftF F_LebGet) :: fsB10
theorem fs10a_ok : ∀ p ∈ fs10a, EntryOk Try.prog p := entries_cons (entry_lift C_bytes01) <| entries_cons (entry_lift C_value01) <| entries_cons (entry_lift C_Zag) <| entries_cons (entry_lift C_Zag02) <| entries_cons (entry_lift C_Zig02) <| entries_cons (entry_lift C_LebGet) <| fsB10_ok
/-- A number's bytes, if f is enough. -/
def F_p (f : Nat) : List D → Option D := F1 u64T fun n => if (0 < f ∧ f ≤ 10) ∧ 0 ≤ n ∧ n < 128 ^ f ∧ n ≤ 18446744073709551615 then some (sD (putF (f - 1) n)) else none
def fs10p (m : Nat) : List Entry := (60, true, liftF (F_p m)) :: fs10a
def T10p (m : Nat) : Tab := ⟨fs10p m, noYl⟩
end Go.Proofs.Ytalehbmgbjiigaa
end

section
namespace Go.Proofs.Ytalehbmgbjiigaa
open Go.RowKit
set_option linter.unusedVariables false
set_option maxRecDepth 100000
variable (m : Nat)

def kp_offshootref01_Put : List Nat := []
theorem sh_offshootref01_Put (n : Nat) (x0 : D) (h : Heap) : textK Try.prog (T10p m) kp_offshootref01_Put n Try.f60 [x0] h =
(thn (binK .int .lss x0 (.v (.int .u64 128))) fun y0 =>
condK y0
(thn (intOf64 .u8 x0) fun y1 =>
thnH (rowH 5 1 1 [(.v (.int .u8 0))] [(0, y1)] h) fun y2 h3 =>
thn (bytesS h3 y2) fun y4 =>
some (y4, h3))
(thn (binK .int .rem x0 (.v (.int .u64 128))) fun y5 =>
thn (binK .int .add (.v (.int .u64 128)) y5) fun y6 =>
thn (intOf64 .u8 y6) fun y7 =>
thnH (rowH 5 1 1 [(.v (.int .u8 0))] [(0, y7)] h) fun y8 h9 =>
thn (bytesS h9 y8) fun y10 =>
thn (binK .int .quo x0 (.v (.int .u64 128))) fun y11 =>
thnH (liftF (F_p m) [y11] h9) fun y12 h13 =>
thn (binK .str .add y10 y12) fun y14 =>
pureK [y11]
(some (y14, h13)))) := by kernel_rfl

end Go.Proofs.Ytalehbmgbjiigaa
end

section
namespace Go.Proofs.Ytalehbmgbjiigaa
open Go.RowKit
set_option linter.unusedVariables false
set_option linter.unusedSimpArgs false

theorem p_pure (m : Nat) (n : Int) (h : (0 < m ∧ m ≤ 10) ∧ 0 ≤ n ∧ n < 128 ^ m ∧ n ≤ 18446744073709551615) (H : Heap) : liftF (F_p m) [u64D n] H = some (sD (putF (m - 1) n), H) := by
  rw [liftF_pure _ _ _ rfl]
  have : F_p m [u64D n] = _ := f1_enc (A := u64T) _ n
  rw [this, if_pos h]; rfl
theorem C_p : ∀ m : Nat, CallOk Try.prog 60 (F_p m)
  | 0 => ⟨⟨_, Try.func60, by decide, rfl⟩, fun ds d hF => by
      exfalso
      unfold F_p F1 at hF
      split at hF
      · obtain ⟨p, _, hF⟩ := Option.bind_eq_some_iff.1 hF
        simp at hF
      · cases hF⟩
  | m + 1 => by
    have hT : TabOk Try.prog (T10p m) := tabOk_of (entries_cons (entry_lift (C_p m)) fs10a_ok)
    refine call1 (kp := kp_offshootref01_Put) hT mixed Try.func60 (by kernel_rfl) (by decide) fun n d h => ?_
    split at h
    case isFalse => cases h
    rename_i hc
    cases h
    obtain ⟨hm10, h0, h1, h2⟩ := hc
    refine ⟨0, _, ?_, Imp.refl _⟩
    show outD (textK _ _ _ _ _ [u64D n] []) = _
    rw [sh_offshootref01_Put, Nat.add_sub_cancel]
    have hp : (128 : Int) ^ (m + 1) = 128 * 128 ^ m := by rw [Int.pow_succ, Int.mul_comm]
    by_cases hn : n < 128
    · have e1 := u8_of .u64 n
      have e2 := row_one (b8 n) []
      have e3 := bytes_one 5 (b8 n) []
      simp only [List.nil_append, List.length_nil] at e2 e3
      have e4 : putF m n = [b8 n] := by cases m <;> simp [putF, hn]
      rw [e4]
      simp [u64D, e1, e2, e3, hn]
    · have hm : 0 < m := by
        cases m with
        | zero => simp at h1; omega
        | succ m => omega
      obtain ⟨f, rfl⟩ : ∃ f, m = f + 1 := ⟨m - 1, by omega⟩
      have e0 : intD .rem .u64 n 128 = some (u64D (n % 128)) := u64_rem _ _ h0 (by omega)
      have e00 : intD .add .u64 128 (n % 128) = some (u64D (128 + n % 128)) := u64_add _ _ (by omega) (by omega)
      have e1 := u8_of .u64 (128 + n % 128)
      have e2 := row_one (b8 (128 + n % 128)) []
      have e3 := bytes_one 5 (b8 (128 + n % 128)) []
      have e4 : putF (f + 1) n = b8 (128 + n % 128) :: putF f (n / 128) := by simp [putF, hn]
      have e5 : intD .quo .u64 n 128 = some (u64D (n / 128)) := u64_quo _ _ h0 h2 (by omega)
      have e6 := fun H => p_pure (f + 1) (n / 128) ⟨⟨by omega, by omega⟩, by omega, by omega, by omega⟩ H
      have hl := (putF_len f (n / 128)).2
      rw [e4]
      simp only [u64D] at e0 e00 e1 e5 e6 ⊢
      simp only [List.nil_append, List.length_nil] at e2 e3
      have e7 := str_add [b8 (128 + n % 128)] (putF f (n / 128)) (by simp; omega)
      simp [hn, e0, e00, e1, e2, e3, e5, e6, e7]
/-- A number's bytes. -/
def F_PutN : List D → Option D := F1 u64T fun n => if 0 ≤ n ∧ n ≤ 18446744073709551615 then some (sD (putV n)) else none
theorem C_PutN01 : CallOk Try.prog 60 F_PutN := call_any C_p fun ds d h => by
  refine ⟨10, ?_⟩
  unfold F_PutN at h
  unfold F_p
  unfold F1 at h ⊢
  split at h
  · rename_i x
    obtain ⟨n, h1, h⟩ := Option.bind_eq_some_iff.1 h
    split at h
    case isFalse => cases h
    rename_i hn
    cases h
    rw [h1, Option.bind_some]
    have e : (128 : Int) ^ 10 = 1180591620717411303424 := by decide
    rw [if_pos ⟨⟨by omega, by omega⟩, hn.1, by rw [e]; omega, hn.2⟩]
    rfl
  · cases h
end Go.Proofs.Ytalehbmgbjiigaa
end

section
namespace Go.Proofs.Ytalehbmgbjiigaa
open Go.RowKit
set_option linter.unusedVariables false

def fs10b : List Entry := (60, true, liftF F_PutN) :: fs10a
theorem fs10b_ok : ∀ p ∈ fs10b, EntryOk Try.prog p := entries_cons (entry_lift C_PutN01) <| fs10a_ok
def T10b : Tab := ⟨fs10b, noYl⟩
theorem T10b_ok : TabOk Try.prog T10b := tabOk_of fs10b_ok
end Go.Proofs.Ytalehbmgbjiigaa
end

section
namespace Go.Proofs.Ytalehbmgbjiigaa
open Go.RowKit
set_option linter.unusedVariables false
set_option maxRecDepth 100000

def kp_offshootref01_Get : List Nat := []
theorem sh_offshootref01_Get (n : Nat) (x0 x1 : D) (h : Heap) : textK Try.prog T10b kp_offshootref01_Get n Try.f145 [x0, x1] h =
(thn (binK .int .lss x1 (iD 0)) fun y0 =>
condK y0
(some (.tup [(.v (.int .u64 0)), x1, (iD 1)], h))
(thn (lenH .str x0) fun y1 =>
thn (binK .int .gtr x1 y1) fun y2 =>
condK y2
(some (.tup [(.v (.int .u64 0)), x1, (iD 1)], h))
(thnH (liftF F_bytes01 [x0, x1] h) fun y3 h4 =>
thn (binK .int .eql y3 (iD 0)) fun y5 =>
condK y5
(thn (lenH .str x0) fun y6 =>
thn (binK .int .sub y6 x1) fun y7 =>
thn (binK .int .lss y7 (iD 10)) fun y8 =>
condK y8
(some (.tup [(.v (.int .u64 0)), x1, (iD 2)], h4))
(thn (binK .int .eql y3 (iD 0)) fun y9 =>
condK y9
(some (.tup [(.v (.int .u64 0)), x1, (iD 3)], h4))
(thn (binK .int .add x1 y3) fun y10 =>
thn (cutS x0 (some x1) (some y10)) fun y11 =>
thnH (liftF F_value01 [y11] h4) fun y12 h13 =>
thnH (liftF F_PutN [y12] h13) fun y14 h15 =>
thn (binK .int .add x1 y3) fun y16 =>
thn (cutS x0 (some x1) (some y16)) fun y17 =>
thn (binK .str .neq y14 y17) fun y18 =>
condK y18
(some (.tup [(.v (.int .u64 0)), x1, (iD 3)], h15))
(thn (binK .int .add x1 y3) fun y19 =>
some (.tup [y12, y19, (iD 0)], h15)))))
(thn (binK .int .eql y3 (iD 0)) fun y20 =>
condK y20
(some (.tup [(.v (.int .u64 0)), x1, (iD 3)], h4))
(thn (binK .int .add x1 y3) fun y21 =>
thn (cutS x0 (some x1) (some y21)) fun y22 =>
thnH (liftF F_value01 [y22] h4) fun y23 h24 =>
thnH (liftF F_PutN [y23] h24) fun y25 h26 =>
thn (binK .int .add x1 y3) fun y27 =>
thn (cutS x0 (some x1) (some y27)) fun y28 =>
thn (binK .str .neq y25 y28) fun y29 =>
condK y29
(some (.tup [(.v (.int .u64 0)), x1, (iD 3)], h26))
(thn (binK .int .add x1 y3) fun y30 =>
some (.tup [y23, y30, (iD 0)], h26))))))) := by kernel_rfl

def kp_offshootref02_Put : List Nat := []
theorem sh_offshootref02_Put (n : Nat) (x0 : D) (h : Heap) : textK Try.prog T10b kp_offshootref02_Put n Try.f61 [x0] h =
(thnH (liftF F_Zig [x0] h) fun y0 h1 =>
thnH (liftF F_PutN [y0] h1) fun y2 h3 =>
some (y2, h3)) := by kernel_rfl

def kp_offshootref05_wrong : List Nat := []
theorem sh_offshootref05_wrong (n : Nat) (x0 x1 : D) (h : Heap) : textK Try.prog T10b kp_offshootref05_wrong n Try.f143 [x0, x1] h =
(thnH (boxH 85 x0 h) fun y0 h1 =>
thnH (allocH 85 [(.v (.string ⟨#[]⟩)), (iD 0), (iD 0)] h1) fun y2 h3 =>
thnH (allocH 164 [(.v (.int .u64 0)), (iD 0), (.v (.string ⟨#[]⟩)), (iD 0), (iD 0)] h3) fun y4 h5 =>
thn (fieldAtH 2 y0) fun y6 =>
thnH (setH 1 y6 x1 h5) fun y7 h8 =>
thn (loadH (some 3) h8 y0) fun y9 =>
thn (buildR [(0, 1), (1, 1), (2, 1), (3, 1), (4, 1)] [(.v (.int .u64 0)), (iD 0), (.v (.string ⟨#[]⟩)), (iD 0), (iD 0)] []) fun y10 =>
thnH (setH 3 y2 y9 h8) fun y11 h12 =>
thnH (setH 5 y4 y10 h12) fun y13 h14 =>
thn (loadH (some 3) h14 y2) fun y15 =>
thn (loadH (some 5) h14 y4) fun y16 =>
some (.tup [y15, y16], h14)) := by kernel_rfl

def kp_zigzag_Get : List Nat := []
theorem sh_zigzag_Get (n : Nat) (x0 x1 : D) (h : Heap) : textK Try.prog T10b kp_zigzag_Get n Try.f103 [x0, x1] h =
(thnH (liftF F_LebGet [x0, x1] h) fun y0 h1 =>
thn (extractD y0 0) fun y2 =>
thn (extractD y0 1) fun y3 =>
thn (extractD y0 2) fun y4 =>
thn (binK .int .neq y4 (iD 0)) fun y5 =>
condK y5
(some (.tup [(iD 0), x1, y4], h1))
(thnH (liftF F_Zag [y2] h1) fun y6 h7 =>
some (.tup [y6, y3, (iD 0)], h7))) := by kernel_rfl

def kp_zigzag_Zig_1 : List Nat := []
theorem sh_zigzag_Zig_1 (n : Nat) (x0 : D) (h : Heap) : textK Try.prog T10b kp_zigzag_Zig_1 n Try.f141 [x0] h =
(thn (binK .int .shl x0 (.v (.int .u64 1))) fun y0 =>
some (y0, h)) := by kernel_rfl

def kp_zigzag_Zig_2 : List Nat := []
theorem sh_zigzag_Zig_2 (n : Nat) (x0 : D) (h : Heap) : textK Try.prog T10b kp_zigzag_Zig_2 n Try.f142 [x0] h =
(thn (binK .int .shl x0 (.v (.int .u64 1))) fun y0 =>
thn (xorD y0) fun y1 =>
some (y1, h)) := by kernel_rfl

def kp_leb_digits : List Nat := []
theorem sh_leb_digits (n : Nat) (x0 : D) (h : Heap) : textK Try.prog T10b kp_leb_digits n Try.f124 [x0] h =
(thnH (boxH 72 x0 h) fun y0 h1 =>
some ((.clo (.func 140) [] [y0]), h1)) := by kernel_rfl

def kp_wire_New : List Nat := []
theorem sh_wire_New (n : Nat) (h : Heap) : textK Try.prog T10b kp_wire_New n Try.f54 [] h =
(thn (buildR [(0, 1)] [(.v (.slice none 0 0))] []) fun y0 =>
thnH (boxH 114 y0 h) fun y1 h2 =>
some (y1, h2)) := by kernel_rfl

def kp_wire_Of : List Nat := []
theorem sh_wire_Of (n : Nat) (x0 : D) (h : Heap) : textK Try.prog T10b kp_wire_Of n Try.f62 [x0] h =
(thn (buildR [(0, 1), (1, 1), (2, 1)] [(.v (.string ⟨#[]⟩)), (iD 0), (iD 0)] [(0, x0)]) fun y0 =>
thn (buildR [(0, 3)] [(.v (.string ⟨#[]⟩)), (iD 0), (iD 0)] [(0, y0)]) fun y1 =>
thnH (boxH 120 y1 h) fun y2 h3 =>
some (y2, h3)) := by kernel_rfl

end Go.Proofs.Ytalehbmgbjiigaa
end

section
namespace Go.Proofs.Ytalehbmgbjiigaa
open Go.RowKit
set_option linter.unusedVariables false
set_option linter.unusedSimpArgs false

theorem bytes01_pure (s : By) (i : Nat) (hi : i ≤ s.length) (hs : s.length ≤ 3000000) (H : Heap) : liftF F_bytes01 [sD s, iD i] H = some (iD (cntB 10 (s.drop i)), H) := by
  rw [liftF_pure _ _ _ rfl]
  have : F_bytes01 [sD s, iD i] = _ := f2_enc (A := strT) (B := intT) _ s (i : Int)
  rw [this, if_pos ⟨by omega, by omega, hs⟩]; rfl
theorem value01_pure (s : By) (hs : s.length ≤ 3000000) (H : Heap) : liftF F_value01 [sD s] H = some (u64D (valV s), H) := by
  rw [liftF_pure _ _ _ rfl]
  have : F_value01 [sD s] = _ := f1_enc (A := strT) _ s
  rw [this, if_pos hs]; rfl
theorem putN_pure (n : Int) (h : 0 ≤ n ∧ n ≤ 18446744073709551615) (H : Heap) : liftF F_PutN [u64D n] H = some (sD (putV n), H) := by
  rw [liftF_pure _ _ _ rfl]
  have : F_PutN [u64D n] = _ := f1_enc (A := u64T) _ n
  rw [this, if_pos h]; rfl
theorem zag_pure (n : Int) (h : 0 ≤ n ∧ n ≤ 18446744073709551615) (H : Heap) : liftF F_Zag [u64D n] H = some (iD (zagV n), H) := by
  rw [liftF_pure _ _ _ rfl]
  have : F_Zag [u64D n] = _ := f1_enc (A := u64T) _ n
  rw [this, if_pos h]; rfl
theorem zig_pure (n : Int) (h : -9223372036854775808 ≤ n ∧ n ≤ 9223372036854775807) (H : Heap) : liftF F_Zig [iD n] H = some (u64D (zigV n), H) := by
  rw [liftF_pure _ _ _ rfl]
  have : F_Zig [iD n] = _ := f1_enc (A := intT) _ n
  rw [this, if_pos h]; rfl
theorem lebGet_pure (s : By) (i : Int) (hs : s.length ≤ 3000000) (H : Heap) : liftF F_LebGet [sD s, iD i] H = some (if 0 ≤ i ∧ i ≤ s.length then .tup [u64D (lebV s i.toNat).1, iD (lebV s i.toNat).2.1, iD (lebV s i.toNat).2.2] else .tup [u64D 0, iD i, iD 1], H) := by
  rw [liftF_pure _ _ _ rfl]
  have : F_LebGet [sD s, iD i] = _ := f2_enc (A := strT) (B := intT) _ s i
  rw [this, if_pos hs]; rfl

/-- The number at a place, as the document has it. -/
def F_RefGet : List D → Option D := F2 strT intT fun s i => if 0 ≤ i ∧ i ≤ s.length ∧ s.length ≤ 3000000 then some (.tup [u64D (refV s i.toNat).1, iD (refV s i.toNat).2.1, iD (refV s i.toNat).2.2]) else none
theorem C_RefGet01 : CallOk Try.prog 145 F_RefGet := call2 (kp := kp_offshootref01_Get) T10b_ok mixed Try.func145 (by kernel_rfl) (by decide) fun s i d h => by
  split at h
  case isFalse => cases h
  rename_i hs
  obtain ⟨h0, h1, hs⟩ := hs
  cases h
  refine ⟨0, _, ?_, Imp.refl _⟩
  show outD (textK _ _ _ _ _ [sD s, iD i] []) = _
  rw [sh_offshootref01_Get]
  obtain ⟨i, rfl⟩ := Int.eq_ofNat_of_zero_le h0
  have hi : i ≤ s.length := by omega
  have g1 : ¬ (i : Int) < 0 := by omega
  have g2 : ¬ (s.length : Int) < i := by omega
  have hc := bytes01_pure s i hi hs
  have hsub := intD_sub (s.length : Int) (i : Int) (by omega) (by omega)
  unfold refV
  rw [Int.toNat_natCast]
  by_cases h0 : cntB 10 (s.drop i) = 0
  · rw [h0] at hc
    have hc' : ∀ H, liftF F_bytes01 [sD s, iD i] H = some (iD 0, H) := hc
    by_cases h10 : s.length - i < 10
    · simp [g1, g2, hc', hsub, h0, h10, show (s.length : Int) - i < 10 from by omega, u64D]
    · simp [g1, g2, hc', hsub, h0, h10, show ¬ (s.length : Int) - i < 10 from by omega, u64D]
  · have hle := (cntB_le 10 (s.drop i)).1
    rw [List.length_drop] at hle
    have hadd := intD_add (i : Int) (cntB 10 (s.drop i) : Int) (by omega) (by omega)
    have hcut := str_cut s i (i + cntB 10 (s.drop i)) (by omega) (by omega)
    rw [Int.natCast_add] at hcut
    have e1 : ((s.take (i + cntB 10 (s.drop i))).drop i) = (s.drop i).take (cntB 10 (s.drop i)) := by rw [List.drop_take]; congr 1; omega
    rw [e1] at hcut
    generalize hk : cntB 10 (s.drop i) = k at *
    have hv := value01_pure ((s.drop i).take k) (by simp; omega)
    have hp := putN_pure (valV ((s.drop i).take k)) (val_range _)
    have hne : ¬ (k : Int) = 0 := by omega
    by_cases heq : putV (valV ((s.drop i).take k)) = (s.drop i).take k
    · simp [g1, g2, hc, hne, h0, hadd, hcut, hv, hp, heq]
    · have hz : u64D 0 = .v (.int .u64 0) := rfl
      simp [g1, g2, hc, hne, h0, hadd, hcut, hv, hp, heq, hz]
/-- A number's bytes, with its sign. -/
def F_PutZ : List D → Option D := F1 intT fun n => if -9223372036854775808 ≤ n ∧ n ≤ 9223372036854775807 then some (sD (putV (zigV n))) else none
theorem C_PutZ02 : CallOk Try.prog 61 F_PutZ := call1 (kp := kp_offshootref02_Put) T10b_ok mixed Try.func61 (by kernel_rfl) (by decide) fun n d h => by
  split at h
  case isFalse => cases h
  rename_i hn
  cases h
  refine ⟨0, _, ?_, Imp.refl _⟩
  show outD (textK _ _ _ _ _ [iD n] []) = _
  rw [sh_offshootref02_Put]
  simp [zig_pure n hn, putN_pure (zigV n) (zig_in n hn.1 hn.2)]
/-- The number with a sign at a place. -/
def F_ZigGet : List D → Option D := F2 strT intT fun s i => if 0 ≤ i ∧ i ≤ s.length ∧ s.length ≤ 3000000 then
    some (if (lebV s i.toNat).2.2 = 0 then .tup [iD (zagV (lebV s i.toNat).1), iD (lebV s i.toNat).2.1, iD 0] else .tup [iD 0, iD i, iD (lebV s i.toNat).2.2]) else none
theorem lebV_range (s : By) (i : Nat) : 0 ≤ (lebV s i).1 ∧ (lebV s i).1 ≤ 18446744073709551615 := by
  have key : ∀ (f : Nat) (l : By) (k : Nat) (n : Int), (0 ≤ n ∧ n ≤ 18446744073709551615) → ∀ m j b, lebF f l k n = .got m j b → 0 ≤ m ∧ m ≤ 18446744073709551615 := by
    intro f
    induction f with
    | zero => intro l k n _ m j b h; cases h
    | succ f ih =>
      intro l k n hn m j b h
      cases l with
      | nil => cases h
      | cons x r =>
        have ho : 0 ≤ orI n (grpI x k) ∧ orI n (grpI x k) ≤ 18446744073709551615 := by
          unfold orI; rw [IntKind.wrap_u64]; omega
        simp only [lebF] at h
        split at h
        · cases h; exact ho
        · exact ih r (k + 1) _ ho m j b h
  unfold lebV
  split
  · simp
  · rename_i n k b h
    have := key _ _ _ _ (by omega) _ _ _ h
    split
    · simp
    · exact this
theorem C_ZigGet : CallOk Try.prog 103 F_ZigGet := call2 (kp := kp_zigzag_Get) T10b_ok mixed Try.func103 (by kernel_rfl) (by decide) fun s i d h => by
  split at h
  case isFalse => cases h
  rename_i hs
  obtain ⟨h0, h1, hs⟩ := hs
  cases h
  refine ⟨0, _, ?_, Imp.refl _⟩
  show outD (textK _ _ _ _ _ [sD s, iD i] []) = _
  rw [sh_zigzag_Get]
  have hg := lebGet_pure s i hs
  rw [if_pos ⟨h0, h1⟩] at hg
  have hz := zag_pure _ (lebV_range s i.toNat)
  by_cases he : (lebV s i.toNat).2.2 = 0
  · simp [hg, extractD, tupOf, he, hz]
  · simp [hg, extractD, tupOf, he]
/-- Twice a number; its opposite. -/
def F_Zig1 : List D → Option D := F1 u64T fun u => some (u64D (IntKind.u64.wrap (u * 2)))
theorem shl1 (u : Int) : binK .int .shl (u64D u) (.v (.int .u64 1)) = some (u64D (IntKind.u64.wrap (u * 2))) := by
  show shiftD .shl .u64 u 1 = _
  unfold shiftD
  rw [if_neg (by omega)]
  have e : min (Int.toNat 1) IntKind.u64.bits = 1 := by decide
  simp only [e, Int.pow_one]
  rfl
theorem C_Zig1 : CallOk Try.prog 141 F_Zig1 := call1 (kp := kp_zigzag_Zig_1) T10b_ok mixed Try.func141 (by kernel_rfl) (by decide) fun u d h => by
  cases h
  refine ⟨0, _, ?_, Imp.refl _⟩
  show outD (textK _ _ _ _ _ [u64D u] []) = _
  rw [sh_zigzag_Zig_1]
  simp [shl1]
def F_Zig2 : List D → Option D := F1 u64T fun u => some (u64D (18446744073709551615 - IntKind.u64.wrap (u * 2)))
theorem xor_u64 (x : Int) (h0 : 0 ≤ x) (h1 : x ≤ 18446744073709551615) : xorD (u64D x) = some (u64D (18446744073709551615 - x)) := by
  obtain ⟨n, rfl⟩ := Int.eq_ofNat_of_zero_le h0
  have hm : IntKind.u64.max = 18446744073709551615 := by decide
  show intD .xor .u64 IntKind.u64.max n = _
  rw [hm]
  have e : (BitVec.ofInt IntKind.u64.bits 18446744073709551615 ^^^ BitVec.ofInt IntKind.u64.bits (n : Int)).toNat = 18446744073709551615 - n := by
    show (BitVec.ofInt 64 18446744073709551615 ^^^ BitVec.ofInt 64 (n : Int)).toNat = _
    have : BitVec.ofInt 64 18446744073709551615 = BitVec.allOnes 64 := by decide
    rw [this, BitVec.allOnes_xor, BitVec.toNat_not]
    simp
    omega
  show some (D.v (.int .u64 (IntKind.u64.wrap _))) = _
  rw [e, IntWalk.u64_in _ ⟨by omega, by omega⟩]
  unfold u64D
  congr 3
  omega
theorem C_Zig2 : CallOk Try.prog 142 F_Zig2 := call1 (kp := kp_zigzag_Zig_2) T10b_ok mixed Try.func142 (by kernel_rfl) (by decide) fun u d h => by
  cases h
  refine ⟨0, _, ?_, Imp.refl _⟩
  show outD (textK _ _ _ _ _ [u64D u] []) = _
  rw [sh_zigzag_Zig_2]
  have hw : 0 ≤ IntKind.u64.wrap (u * 2) ∧ IntKind.u64.wrap (u * 2) ≤ 18446744073709551615 := by rw [IntKind.wrap_u64]; omega
  simp [shl1, xor_u64 _ hw.1 hw.2]

/- The document's reader. -/
abbrev Rdr := By × Int × Int
def rdC (r : Rdr) : List D := [sD r.1, iD r.2.1, iD r.2.2]
def rdD (r : Rdr) : D := .agg (rdC r)
def asRd : D → Option Rdr
  | .agg [a, b, c] => (asStr a).bind fun s => (asInt b).bind fun n => (asInt c).map fun e => (s, n, e)
  | _ => none
def rdT : Dec Rdr := ⟨rdD, asRd, fun r => by simp [asRd, rdD, rdC, asStr, sD, baOf, asInt], fun d r h => by
  unfold asRd at h
  split at h
  · obtain ⟨s, h1, h⟩ := Option.bind_eq_some_iff.1 h
    obtain ⟨n, h2, h⟩ := Option.bind_eq_some_iff.1 h
    obtain ⟨e, h3, h⟩ := Option.map_eq_some_iff.1 h
    subst h
    exact Imp.agg (.cons (strT.ok _ _ h1) (.cons (intT.ok _ _ h2) (.cons (intT.ok _ _ h3) .nil)))
  · cases h⟩
/-- What was read: a number; one with a sign. -/
def gotD (a b : Int) : D := .agg [u64D a, iD b, sD [], iD 0, iD 0]
def F_wrong : List D → Option D := F2 rdT intT fun r e => some (.tup [rdD (r.1, r.2.1, e), gotD 0 0])
theorem C_wrong : CallOk Try.prog 143 F_wrong := call2 (kp := kp_offshootref05_wrong) T10b_ok mixed Try.func143 (by kernel_rfl) (by decide) fun r e d h => by
  cases h
  refine ⟨0, _, ?_, Imp.refl _⟩
  show outD (textK _ _ _ _ _ [rdD r, iD e] []) = _
  rw [sh_offshootref05_wrong]
  rfl
/-- A function that nothing is said of. -/
def F_no : List D → Option D := fun _ => none
theorem C_no {P : Program} {f : FuncId} {fn : Func} (h1 : P.funcs[f]? = some fn) (h2 : fn.name ≠ "runtime.NumGoroutine") (h3 : fn.body.isSome = true) : CallOk P f F_no := ⟨⟨fn, h1, h2, h3⟩, fun ds d h => by cases h⟩
theorem C_text05 : CallOk Try.prog 144 F_no := C_no Try.func144 (by decide) rfl
def fs10c : List Entry := (145, true, liftF F_RefGet) :: (61, true, liftF F_PutZ) :: (103, true, liftF F_ZigGet) :: (141, true, liftF F_Zig1) :: (142, true, liftF F_Zig2) :: (143, true, liftF F_wrong) :: (144, true, liftF F_no) :: fs10b
theorem fs10c_ok : ∀ p ∈ fs10c, EntryOk Try.prog p := entries_cons (entry_lift C_RefGet01) <| entries_cons (entry_lift C_PutZ02) <| entries_cons (entry_lift C_ZigGet) <| entries_cons (entry_lift C_Zig1) <| entries_cons (entry_lift C_Zig2) <| entries_cons (entry_lift C_wrong) <| entries_cons (entry_lift C_text05) <| fs10b_ok
def T10c : Tab := ⟨fs10c, noYl⟩
theorem T10c_ok : TabOk Try.prog T10c := tabOk_of fs10c_ok
end Go.Proofs.Ytalehbmgbjiigaa
end
