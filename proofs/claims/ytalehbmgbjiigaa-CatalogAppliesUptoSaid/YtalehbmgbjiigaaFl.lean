/-
  Parts joined into one text: PathV, Paths, PathD, Find, Compare, RefFind, RefCompare, InsV, Ins, T12a. No condition.
-/
import Derived.WalkSpells
import Derived.Lib.SliceRun
import Derived.Laws.CopyRow
import Derived.Shelf.Spec.SlicesInsert
import Derived.Lib.AppendZerosOnto
import Derived.Laws.NewBlocks
import Derived.Test.YtalehbmgbjiigaaFb
import Derived.Test.YtalehbmgbjiigaaFd
import Derived.Test.YtalehbmgbjiigaaFf
import Derived.Test.YtalehbmgbjiigaaFj
import Derived.Test.YtalehbmgbjiigaaFk

section
namespace Go.Proofs.Ytalehbmgbjiigaa

/-- The node at i, and all below it, with their paths; f: how deep one looks. -/
def pathsV : Nat → List Nd → Int → List Int → List (Int × List Int)
  | 0, _, i, own => [(i, own)]
  | f + 1, l, i, own => (i, own) :: (kidsv l i).zipIdx.flatMap fun x => pathsV f l x.1 (own ++ [(x.2 : Int)])

/-- The first c kids' parts. -/
def pathsTo (f : Nat) (l : List Nd) (i : Int) (own : List Int) (c : Nat) : List (Int × List Int) := ((kidsv l i).zipIdx.take c).flatMap fun x => pathsV f l x.1 (own ++ [(x.2 : Int)])

theorem pathsTo_zero (f : Nat) (l : List Nd) (i : Int) (own : List Int) : pathsTo f l i own 0 = [] := rfl
theorem pathsTo_succ (f : Nat) (l : List Nd) (i : Int) (own : List Int) (c : Nat) (h : c < (kidsv l i).length) :
    pathsTo f l i own (c + 1) = pathsTo f l i own c ++ pathsV f l (kidsv l i)[c] (own ++ [(c : Int)]) := by
  unfold pathsTo
  rw [List.take_succ_eq_append_getElem (by simpa using h), List.flatMap_append]
  simp
theorem pathsTo_all (f : Nat) (l : List Nd) (i : Int) (own : List Int) : (i, own) :: pathsTo f l i own (kidsv l i).length = pathsV (f + 1) l i own := by
  rw [pathsV, pathsTo, List.take_of_length_le (by simp)]
theorem pathsTo_prefix (f : Nat) (l : List Nd) (i : Int) (own : List Int) (c : Nat) : (i, own) :: pathsTo f l i own c <+: pathsV (f + 1) l i own := by
  rw [pathsV]
  refine List.cons_prefix_cons.2 ⟨rfl, ?_⟩
  unfold pathsTo
  have h := List.take_append_drop c (kidsv l i).zipIdx
  conv => rhs; rw [← h, List.flatMap_append]
  exact List.prefix_append _ _
theorem pathsTo_prefix2 (f : Nat) (l : List Nd) (i : Int) (own : List Int) (c : Nat) (h : c < (kidsv l i).length) (q : List (Int × List Int)) (hq : q <+: pathsV f l (kidsv l i)[c] (own ++ [(c : Int)])) :
    (i, own) :: pathsTo f l i own c ++ q <+: pathsV (f + 1) l i own := by
  refine List.IsPrefix.trans ?_ (pathsTo_prefix f l i own (c + 1))
  rw [pathsTo_succ f l i own c h]
  obtain ⟨r, hr⟩ := hq
  exact ⟨r, by rw [← hr]; simp⟩
theorem pathsV_pos (f : Nat) (l : List Nd) (i : Int) (own : List Int) : 0 < (pathsV f l i own).length := by cases f <;> simp [pathsV]
/-- Beyond the nodes there are none. -/
theorem pathsV_out (f : Nat) (l : List Nd) (i : Int) (own : List Int) (h : (l.length : Int) ≤ i) : pathsV f l i own = [(i, own)] := by
  cases f with
  | zero => rfl
  | succ f =>
    have : kidsv l i = [] := kidsv_no l i (by rcases endv_bound l i with h1 | h1; · omega
                                              · have := (endv_in l i h1).2; omega)
    rw [pathsV, this]; rfl
end Go.Proofs.Ytalehbmgbjiigaa
end

section
namespace Go.Proofs.Ytalehbmgbjiigaa
open Go.RowKit Go.Shelf
set_option linter.unusedVariables false
attribute [local go_sem] Oper.semAt_some

set_option maxHeartbeats 1000000 in
/-- slices.Clone of ints: a row of the call's own. -/
theorem Clone_any (l : List Int) (v : Value) (w : World) (S : Nat → Prop) (hS : ∀ k, S k → k < w.heap.size) (hv : IntsIn S w v l) (hl : l.length ≤ 4000000) :
    Calls Try.prog 48 #[v] w fun e w' => ∃ u, e = .returned u ∧ w'.ownsRow w.heap.size 3 1 u l.length (l.map (Value.int .i64)) ∧ Below w.heap.size w w' := by
  obtain ⟨i0, hi, hz0, hz1, hz2⟩ := info_parts infoInt
  have qT : ∀ (w : World) (a : Option Addr) (n c n' c' : Nat), (binOp .eql 22 (.slice a n c) (.slice none n' c')).run Try.prog w = .ok (.bool a.isNone) w := fun w a n c n' c' => Lib.run_eql_slice_nil w _ _ a n c n' c' Try.underlying22
  obtain ⟨p, cap, hpc⟩ := hv.slice
  subst hpc
  cases p with
  | none =>
    have hl0 : l = [] := by
      rcases hv.open with ⟨rfl, _⟩ | ⟨b, o, cap', hsl, _⟩
      · rfl
      · cases hsl
    subst hl0
    go_enter Try.func48, Try.ntmps48
    go_wp2
    go_ret
    exact ⟨_, rfl, World.ownsRow_nil _ _ _ _, Below.refl _ _⟩
  | some ad =>
    go_enter Try.func48, Try.ntmps48
    have hv2 := hv.kept (kept_of (below_alloc1 w (.cells #[] 3)) hS)
    go_wp2_with (at_builtin; refine wpList_append_in rfl _ _ 22 rfl w.heap.size 3 i0 (.int .i64 0) 1 8 Try.underlying22 hi hz0 hz1 hz2 rfl (by decide) _ _ _ rfl (ownsRow_empty w w.heap.size 3 1 (Nat.le_refl _)) _ l.length _ rfl hv2 (by simp) (ints_one l) (by unfold maxLen; omega) (by omega) (by simp) ?_; intro v' w3 hown' hgrow)
    go_ret
    refine ⟨_, rfl, by simpa using hown', ((Below.refl _ _).alloc (Nat.le_refl _) _).grown hgrow (by simp) (fun j hj => ?_)⟩
    exact ((ownsRow_empty w w.heap.size 3 1 (Nat.le_refl _)).lt j hj).1

/-- Three new blocks of one cell. -/
theorem cells_three (w : World) (a b c : Value) (ta tb tc : TypeId) :
    (((w.alloc (.cells #[a] ta)).alloc (.cells #[b] tb)).alloc (.cells #[c] tc)).cell? ⟨w.heap.size, 0, none⟩ = some a ∧
    (((w.alloc (.cells #[a] ta)).alloc (.cells #[b] tb)).alloc (.cells #[c] tc)).cell? ⟨w.heap.size + 1, 0, none⟩ = some b ∧
    (((w.alloc (.cells #[a] ta)).alloc (.cells #[b] tb)).alloc (.cells #[c] tc)).cell? ⟨w.heap.size + 1 + 1, 0, none⟩ = some c := by
  have h1 := Boxed.new w ta a
  have h2 := Boxed.new (w.alloc (.cells #[a] ta)) tb b
  have h3 := Boxed.new ((w.alloc (.cells #[a] ta)).alloc (.cells #[b] tb)) tc c
  rw [World.size_alloc] at h2
  rw [World.size_alloc, World.size_alloc] at h3
  exact ⟨((h1.alloc _).alloc _).cell, (h2.alloc _).cell, h3.cell⟩

/-- Some slice. -/
def IsSlice (v : Value) : Prop := ∃ (p : Option Addr) (n c : Nat), v = .slice p n c
theorem IntsIn.isSlice {S : Nat → Prop} {w : World} {v : Value} {l : List Int} (h : IntsIn S w v l) : IsSlice v := by obtain ⟨p, c, h⟩ := h.slice; exact ⟨_, _, _, h⟩
theorem NodesIn.isSlice {S : Nat → Prop} {w : World} {v : Value} {l : List Nd} (h : NodesIn S w v l) : IsSlice v := by obtain ⟨p, c, h⟩ := h.slice; exact ⟨_, _, _, h⟩

/-- One element that paths hands out: a node, the slice value of its path, its path. -/
abbrev Step := Int × Value × List Int
def stepVals (x : Step) : Array Value := #[.int .i64 x.1, x.2.1]
def stepOf (x : Step) : Int × List Int := (x.1, x.2.2)
/-- How an element reads, but in the blocks of X. -/
def StepIn (X : Nat → Prop) (x : Step) (W : World) : Prop := IntsIn (fun k => ¬ X k ∧ k < W.heap.size) W x.2.1 x.2.2
/-- What has come: all; or a part. -/
def stepsR (ys : List (Int × List Int)) (xs : List Step) (b : Bool) : Prop := if b = true then xs.map stepOf = ys else xs.map stepOf <+: ys

theorem ownsRow_base {w : World} {base base' : Nat} {e : TypeId} {size : Nat} {v : Value} {n : Nat} {xs : List Value} (h : w.ownsRow base e size v n xs) (hb : base' ≤ base) : w.ownsRow base' e size v n xs := by
  refine ⟨h.1, ?_⟩
  rcases h.2 with h2 | ⟨g, cap, cur, h1, h2, h3⟩
  · exact .inl h2
  · exact .inr ⟨g, cap, cur, h1, Nat.le_trans hb h2, h3⟩
theorem intsIn_new {B : Nat} {w w' : World} {v : Value} {l : List Int} (h : IntsIn (fun k => B ≤ k ∧ k < w.heap.size) w v l) (hb : Below w.heap.size w w') : IntsIn (fun k => B ≤ k ∧ k < w'.heap.size) w' v l :=
  (IntsIn.kept h (kept_of hb (fun k hk => hk.2))).mono (fun k hk => ⟨hk.1, Nat.lt_of_lt_of_le hk.2 hb.size⟩)
/-- One append, carried out. -/
theorem wpIn_append {F : Fence} {n : Nat} {P : Program} {o : Oper} {a : Act} {w w' : World} {K : Act → World → Prop} {Q : Exit → Act → World → Prop} {s x : Operand} {t : TypeId} {v u v' : Value}
    (hop : o.op = Op.call { callee := Callee.builtin Builtin.append, args := #[s, x], argTypes := #[t, t] }) (hrun : (Builtin.append_ #[t, t] o.type #[v, u]).run P w = .ok v' w') (hs : a.eval s = v) (hx : a.eval x = u) (hK : K (a.put o.dst v') w') : o.wpIn F n P a w K Q := by
  unfold Oper.wpIn
  refine ⟨?_, ?_⟩
  · simp [Oper.about, hop, resolve, Target.leads, Sem.run_pure]
  · rw [Oper.semAt_plain F _ _ (by rw [hop]; intro c hc'; cases hc')]
    simp [execOp, hop, resolve, invoke, builtin, hs, hx, hrun, Result.andThen]
    exact hK

end Go.Proofs.Ytalehbmgbjiigaa
end

section
namespace Go.Proofs.Ytalehbmgbjiigaa

/-- How two numbers stand. -/
def cmpI (x y : Int) : Int := if x < y then -1 else if y < x then 1 else 0
/-- How two paths stand. -/
def cmpL : List Int → List Int → Int
  | [], [] => 0
  | [], _ :: _ => -1
  | _ :: _, [] => 1
  | x :: a, y :: b => if x < y then -1 else if y < x then 1 else cmpL a b

theorem cmpL_drop (a b : List Int) (k : Nat) (h1 : k < a.length) (h2 : k < b.length) (h : a[k] = b[k]) : cmpL (a.drop k) (b.drop k) = cmpL (a.drop (k + 1)) (b.drop (k + 1)) := by
  rw [List.drop_eq_getElem_cons h1, List.drop_eq_getElem_cons h2, cmpL, h, if_neg (by omega), if_neg (by omega)]
theorem cmpL_apart (a b : List Int) (k : Nat) (h1 : k < a.length) (h2 : k < b.length) (h : a[k] ≠ b[k]) : cmpL (a.drop k) (b.drop k) = cmpI a[k] b[k] := by
  rw [List.drop_eq_getElem_cons h1, List.drop_eq_getElem_cons h2, cmpL, cmpI]
  split
  · rfl
  · rw [if_pos (by omega), if_pos (by omega)]
theorem cmpL_end (a b : List Int) (k : Nat) (h1 : k ≤ a.length) (h2 : k ≤ b.length) (h : k = a.length ∨ k = b.length) : cmpL (a.drop k) (b.drop k) = cmpI a.length b.length := by
  rcases h with rfl | rfl
  · rw [List.drop_length]
    by_cases h3 : b.length = a.length
    · rw [← h3, List.drop_length]; simp [cmpL, cmpI]
    · rw [List.drop_eq_getElem_cons (by omega), cmpL, cmpI, if_pos (by omega)]
  · rw [List.drop_length]
    by_cases h3 : b.length = a.length
    · rw [h3, List.drop_length]; simp [cmpL, cmpI]
    · rw [List.drop_eq_getElem_cons (by omega), cmpL, cmpI, if_neg (by omega), if_pos (by omega)]


/-- Down from the node at i. -/
def downV (l : List Nd) : Int → List Int → Int
  | i, [] => i
  | i, n :: r => if 0 ≤ n ∧ n.toNat < (kidsv l i).length then downV l ((kidsv l i).getD n.toNat 0) r else -1
/-- The node of a path; -1: none. -/
def findv (l : List Nd) (p : List Int) : Int := if endv l 0 = l.length then downV l 0 p else -1

theorem downV_in (l : List Nd) (i : Int) (n : Int) (r : List Int) (j : Nat) (hn : n = j) (hj : j < (kidsv l i).length) : downV l i (n :: r) = downV l (kidsv l i)[j] r := by
  subst hn
  rw [downV, if_pos ⟨by omega, by simpa using hj⟩]
  simp [hj]
theorem downV_out (l : List Nd) (i : Int) (n : Int) (r : List Int) (h : ¬ (0 ≤ n ∧ n.toNat < (kidsv l i).length)) : downV l i (n :: r) = -1 := by rw [downV, if_neg h]

/-- A node's path: the first one that one comes to. -/
def ofv (l : List Nd) (i : Int) : Option (List Int) := if endv l 0 = l.length then ((pathsV (l.length + 1) l 0 []).find? fun x => x.1 == i).map (·.2) else none

theorem ofv_no (l : List Nd) (i : Int) (h : endv l 0 ≠ l.length) : ofv l i = none := by rw [ofv, if_neg h]

theorem cmpL_swap : ∀ a b : List Int, cmpL b a = - cmpL a b
  | [], [] => rfl
  | [], _ :: _ => rfl
  | _ :: _, [] => rfl
  | x :: a, y :: b => by
    have := cmpL_swap a b
    simp only [cmpL]
    rcases Int.lt_trichotomy x y with h | h | h
    · rw [if_pos h, if_neg (by omega), if_pos h]; rfl
    · rw [if_neg (by omega), if_neg (by omega), if_neg (by omega), if_neg (by omega)]; exact this
    · rw [if_pos h, if_neg (by omega), if_pos h]
theorem cmpL_zero : ∀ a b : List Int, cmpL a b = 0 ↔ a = b
  | [], [] => by simp [cmpL]
  | [], _ :: _ => by simp [cmpL]
  | _ :: _, [] => by simp [cmpL]
  | x :: a, y :: b => by
    have := cmpL_zero a b
    simp only [cmpL, List.cons.injEq]
    rcases Int.lt_trichotomy x y with h | h | h
    · rw [if_pos h]; exact ⟨fun h' => by omega, fun h' => by omega⟩
    · rw [if_neg (by omega), if_neg (by omega), this]; exact ⟨fun h' => ⟨h, h'⟩, fun h' => h'.2⟩
    · rw [if_neg (by omega), if_pos h]; exact ⟨fun h' => by omega, fun h' => by omega⟩
theorem cmpL_trans : ∀ a b c : List Int, cmpL a b ≤ 0 → cmpL b c ≤ 0 → cmpL a c ≤ 0
  | [], _, [], _, _ => by simp [cmpL]
  | [], _, _ :: _, _, _ => by simp [cmpL]
  | _ :: _, [], _, h, _ => by simp [cmpL] at h
  | _ :: _, _ :: _, [], _, h => by simp [cmpL] at h
  | x :: a, y :: b, z :: c, h1, h2 => by
    have ih := cmpL_trans a b c
    simp only [cmpL] at h1 h2 ⊢
    repeat' split at h1
    all_goals repeat' split at h2
    all_goals repeat' split
    all_goals first | omega | exact ih h1 h2

theorem cmpL_bd : ∀ a b : List Int, -1 ≤ cmpL a b ∧ cmpL a b ≤ 1
  | [], [] => by simp [cmpL]
  | [], _ :: _ => by simp [cmpL]
  | _ :: _, [] => by simp [cmpL]
  | x :: a, y :: b => by
    have := cmpL_bd a b
    simp only [cmpL]
    repeat' split
    all_goals omega
end Go.Proofs.Ytalehbmgbjiigaa
end

section
namespace Go.Proofs.Ytalehbmgbjiigaa
open Go.RowKit

set_option maxHeartbeats 2000000 in
theorem Find_any (l : List Nd) (p : List Int) (v u : Value) (w : World) (hv : NodesAt w v l) (hu : IntsAt w u p) (hl : l.length ≤ 4000000) (hp : p.length ≤ 4000000) :
    Calls Try.prog 27 #[v, u] w fun e w' => e = .returned (.int .i64 (findv l p)) ∧ Below w.heap.size w w' := by
  obtain ⟨pu, cu, hus⟩ := hu.slice
  subst hus
  obtain ⟨pv, cv, hvs⟩ := hv.slice
  subst hvs
  by_cases hE : endv l 0 = l.length
  · have hE' : (endv l 0 != (l.length : Int)) = false := by simp [hE]
    have HF : Hid (findv l p = downV l 0 p) := Lib.hid (by rw [findv, if_pos hE])
    clear hE
    go_enter Try.func27, Try.ntmps27
    go_wp2
    go_step3
    go_wp2_with (go_at_call 28; refine (End_any l _ _ _ hv hl).mono ?_; rintro e w1 ⟨rfl, hb1⟩)
    go_step3
    go_wp2
    go_loopw [5, 16] (fun x i wr => ∃ (k : Nat) (z : Int), i = .int .i64 k ∧ x = .int .i64 z ∧ k ≤ p.length ∧ Hid (downV l 0 p = downV l z (p.drop k)) ∧ Below w.heap.size w wr) (fun _ i _ => p.length - (intOf i).toNat)
    case atStart => exact ⟨0, 0, rfl, rfl, Nat.zero_le _, Lib.hid rfl, hb1⟩
    case round =>
      obtain ⟨k, z, rfl, rfl, hk, ht, hB⟩ := hrel
      by_cases hlt : k < p.length
      · rcases hu.open with ⟨rfl, _⟩ | ⟨b1, o1, c1, hs1, hp1, hc1, hbb1, hx1⟩
        · simp at hlt
        obtain ⟨rfl, rfl⟩ : pu = some ⟨b1, o1, none⟩ ∧ cu = c1 := by simpa using hs1
        have g1 := (hB.cell (p := ⟨b1, o1 + k, none⟩) hbb1).trans (hx1 k hlt)
        clear hx1 hs1
        have hsz := hB.size
        have hvr := NodesIn.below hv hB
        have hpk := Lib.hid (List.drop_eq_getElem_cons hlt)
        have hkl := kidsv_len l z
        by_cases hn : 0 ≤ p[k] ∧ p[k].toNat < (kidsv l z).length
        · obtain ⟨j, hj⟩ := Int.eq_ofNat_of_zero_le hn.1
          have hjl : j < (kidsv l z).length := by omega
          have HJ := Lib.hid hj
          have hn1 : ¬ p[k] < 0 := by omega
          have hn2 : ¬ ((kidsv l z).length : Int) ≤ p[k] := by omega
          have hdn := Lib.hid (downV_in l z p[k] (p.drop (k + 1)) j hj hjl)
          clear hn
          rw [hj] at g1 hn1 hn2
          clear hj
          go_wp2_with (go_at_call 69; refine (Kids_any l _ _ _ hvr hl).mono ?_; rintro e w2 ⟨q, rfl, hq, hb2⟩; (rcases hq.open with ⟨h0, _⟩ | ⟨bq, oq, cq, hqs, hqp, hqc, hqb, hqx⟩; (exfalso; rw [h0] at hjl; simp at hjl)); have gq := hqx j hjl; clear hqx; subst hqs)
          go_roundw
          case rel => exact ⟨k + 1, (kidsv l z)[j], by go_num, rfl, by omega, Lib.hid (by rw [ht.out, hpk.out, hdn.out]), hB.trans (hb2.mono hsz)⟩
          case measure => simp [intOf]; omega
        · have hdn := Lib.hid (downV_out l z p[k] (p.drop (k + 1)) hn)
          by_cases hn1 : p[k] < 0
          · clear hn
            go_wp2_with (go_at_call 69; refine (Kids_any l _ _ _ hvr hl).mono ?_; rintro e w2 ⟨q, rfl, hq, hb2⟩; obtain ⟨pq, cq, hqs⟩ := hq.slice; subst hqs)
            rw [Exit.noGoto_ret]
            go_ret
            exact ⟨ret_int (by rw [HF.out, ht.out, hpk.out, hdn.out]), hB.trans (hb2.mono hsz)⟩
          · have hn2 : ((kidsv l z).length : Int) ≤ p[k] := by omega
            clear hn
            go_wp2_with (go_at_call 69; refine (Kids_any l _ _ _ hvr hl).mono ?_; rintro e w2 ⟨q, rfl, hq, hb2⟩; obtain ⟨pq, cq, hqs⟩ := hq.slice; subst hqs)
            rw [Exit.noGoto_ret]
            go_ret
            exact ⟨ret_int (by rw [HF.out, ht.out, hpk.out, hdn.out]), hB.trans (hb2.mono hsz)⟩
      · go_wp2
        rw [Exit.noGoto_ret]
        go_ret
        exact ⟨ret_int (by rw [HF.out, ht.out, List.drop_of_length_le (by omega)]; rfl), hB⟩
  · have hE' : (endv l 0 != (l.length : Int)) = true := by simp [hE]
    have HF : Hid (findv l p = -1) := Lib.hid (by rw [findv, if_neg hE])
    clear hE
    go_enter Try.func27, Try.ntmps27
    go_wp2
    go_step3
    go_wp2_with (go_at_call 28; refine (End_any l _ _ _ hv hl).mono ?_; rintro e w1 ⟨rfl, hb1⟩)
    rw [Exit.noGoto_ret]
    go_ret
    exact ⟨ret_int HF.out.symm, hb1⟩
end Go.Proofs.Ytalehbmgbjiigaa
end

section
namespace Go.Proofs.Ytalehbmgbjiigaa
open Go.RowKit

theorem isNaN_any (x : Int) (w : World) : Calls Try.prog 107 #[.int .i64 x] w fun e w' => e = .returned (.bool false) ∧ w = w' := by
  go_enter Try.func107, Try.ntmps107
  have h : (x != x) = false := by simp
  go_wp2
  go_ret
  exact ⟨rfl, rfl⟩
theorem cmpI_any (x y : Int) (w : World) : Calls Try.prog 73 #[.int .i64 x, .int .i64 y] w fun e w' => e = .returned (.int .i64 (cmpI x y)) ∧ w' = w := by
  go_enter Try.func73, Try.ntmps73
  go_wp2_with (fail)
  refine (isNaN_any x _).mono ?_
  rintro e w' ⟨rfl, rfl⟩
  go_wp2_with (fail)
  refine (isNaN_any y _).mono ?_
  rintro e w' ⟨rfl, rfl⟩
  go_wp2_with (fail)
  all_goals go_ret
  · exact ⟨ret_int (by rw [cmpI, if_pos (by assumption)]), rfl⟩
  · exact ⟨ret_int (by rw [cmpI, if_neg (by omega), if_pos (by assumption)]), rfl⟩
  · exact ⟨ret_int (by rw [cmpI, if_neg (by omega), if_neg (by omega)]), rfl⟩

set_option maxHeartbeats 1000000 in
theorem Compare_any (a b : List Int) (u v : Value) (w : World) (hu : IntsAt w u a) (hv : IntsAt w v b) (ha : a.length ≤ 4000000) (hb : b.length ≤ 4000000) :
    Calls Try.prog 72 #[u, v] w fun e w' => e = .returned (.int .i64 (cmpL a b)) ∧ Below w.heap.size w w' := by
  obtain ⟨pu, cu, hus⟩ := hu.slice
  obtain ⟨pv, cv, hvs⟩ := hv.slice
  subst hus
  subst hvs
  obtain ⟨m, hm⟩ : ∃ m, m = min a.length b.length := ⟨_, rfl⟩
  have hm1 : m ≤ a.length := by omega
  have hm2 : m ≤ b.length := by omega
  have hm3 : m = a.length ∨ m = b.length := by omega
  have Hm := Lib.hid hm
  clear hm
  go_enter Try.func72, Try.ntmps72
  go_wp2
  all_goals
    go_loopw [12] (fun i wr => ∃ k : Nat, i = .int .i64 k ∧ k ≤ m ∧ Hid (cmpL a b = cmpL (a.drop k) (b.drop k)) ∧ Below w.heap.size w wr) (fun i _ => m - (intOf i).toNat)
    case atStart => exact ⟨0, rfl, Nat.zero_le _, Lib.hid rfl, Below.refl _ _⟩
    case round =>
      obtain ⟨k, rfl, hk, ht, hB⟩ := hrel
      by_cases hkm : k < m
      · have hlt : k < a.length := by omega
        have hltb : k < b.length := by omega
        rcases hu.open with ⟨rfl, _⟩ | ⟨b1, o1, c1, hs1, hp1, hc1, hb1, hx1⟩
        · simp at hlt
        rcases hv.open with ⟨rfl, _⟩ | ⟨b2, o2, c2, hs2, hp2, hc2, hb2, hx2⟩
        · simp at hltb
        obtain ⟨rfl, rfl⟩ : pu = some ⟨b1, o1, none⟩ ∧ cu = c1 := by simpa using hs1
        obtain ⟨rfl, rfl⟩ : pv = some ⟨b2, o2, none⟩ ∧ cv = c2 := by simpa using hs2
        have g1 := (hB.cell (p := ⟨b1, o1 + k, none⟩) hb1).trans (hx1 k hlt)
        have g2 := (hB.cell (p := ⟨b2, o2 + k, none⟩) hb2).trans (hx2 k hltb)
        clear hx1 hx2 hs1 hs2
        have n1 : (k : Int) < (a.length : Int) := by omega
        have n2 : (k : Int) < (b.length : Int) := by omega
        by_cases he : a[k] = b[k]
        · have heb : (cmpI a[k] b[k] != 0) = false := by simp [cmpI, he]
          have HE := Lib.hid he
          clear he
          go_wp2
          go_quiet ((go_at_call 73; exact Calls.quiet_of_same (cmpI_any _ _ _)))
          go_wp2
          go_roundw
          case rel => exact ⟨k + 1, by go_num, by omega, Lib.hid (by rw [ht.out, cmpL_drop a b k hlt hltb HE.out]), below_drewN hB _⟩
          case measure => simp [intOf]; omega
        · have heb : (cmpI a[k] b[k] != 0) = true := by rw [bne_iff_ne]; unfold cmpI; split; omega; split <;> omega
          have HE := Lib.hid he
          clear he
          go_wp2
          go_quiet ((go_at_call 73; exact Calls.quiet_of_same (cmpI_any _ _ _)))
          go_wp2
          go_ret
          exact ⟨ret_int (by rw [ht.out, cmpL_apart a b k hlt hltb HE.out]), below_drewN hB _⟩
      · go_wp2_with (go_at_call 73; refine (cmpI_any _ _ _).mono ?_; rintro e w' ⟨rfl, rfl⟩)
        go_ret
        exact ⟨ret_int (by rw [ht.out, cmpL_end a b k (by omega) (by omega) (by omega)]), hB⟩
end Go.Proofs.Ytalehbmgbjiigaa
end

section
namespace Go.Proofs.Ytalehbmgbjiigaa
open Go.RowKit
set_option maxHeartbeats 2000000 in
theorem refFind_any (l : List Nd) (p : List Int) (v u : Value) (w : World) (hv : NodesAt w v l) (hu : IntsAt w u p) (hl : l.length ≤ 4000000) (hp : p.length ≤ 4000000) :
    Calls Try.prog 49 #[v, u] w fun e w' => e = .returned (.int .i64 (findv l p)) ∧ Below w.heap.size w w' := by
  obtain ⟨pu, cu, hus⟩ := hu.slice
  subst hus
  obtain ⟨pv, cv, hvs⟩ := hv.slice
  subst hvs
  by_cases hE : endv l 0 = l.length
  · have hE' : (endv l 0 != (l.length : Int)) = false := by simp [hE]
    have HF : Hid (findv l p = downV l 0 p) := Lib.hid (by rw [findv, if_pos hE])
    clear hE
    go_enter Try.func49, Try.ntmps49
    go_wp2_with (go_at_call 75; refine (refEnd_any l _ _ _ hv hl).mono ?_; rintro e w1 ⟨rfl, hb1⟩)
    go_loopw [5, 6] (fun x i wr => ∃ (k : Nat) (z : Int), i = .int .i64 k ∧ x = .int .i64 z ∧ k ≤ p.length ∧ Hid (downV l 0 p = downV l z (p.drop k)) ∧ Below w.heap.size w wr) (fun _ i _ => p.length - (intOf i).toNat)
    case atStart => exact ⟨0, 0, rfl, rfl, Nat.zero_le _, Lib.hid rfl, hb1⟩
    case round =>
      obtain ⟨k, z, rfl, rfl, hk, ht, hB⟩ := hrel
      by_cases hlt : k < p.length
      · rcases hu.open with ⟨rfl, _⟩ | ⟨b1, o1, c1, hs1, hp1, hc1, hbb1, hx1⟩
        · simp at hlt
        obtain ⟨rfl, rfl⟩ : pu = some ⟨b1, o1, none⟩ ∧ cu = c1 := by simpa using hs1
        have g1 := (hB.cell (p := ⟨b1, o1 + k, none⟩) hbb1).trans (hx1 k hlt)
        have hbb2 : b1 < wr.heap.size := Nat.lt_of_lt_of_le hbb1 hB.size
        clear hx1 hs1
        have hsz := hB.size
        have hvr := NodesIn.below hv hB
        have hpk := Lib.hid (List.drop_eq_getElem_cons hlt)
        have hkl := kidsv_len l z
        by_cases hn : 0 ≤ p[k] ∧ p[k].toNat < (kidsv l z).length
        · obtain ⟨j, hj⟩ := Int.eq_ofNat_of_zero_le hn.1
          have hjl : j < (kidsv l z).length := by omega
          have HJ := Lib.hid hj
          have hn1 : ¬ p[k] < 0 := by omega
          have hn2 : ¬ ((kidsv l z).length : Int) ≤ p[k] := by omega
          have hdn := Lib.hid (downV_in l z p[k] (p.drop (k + 1)) j hj hjl)
          clear hn
          rw [hj] at g1 hn1 hn2
          clear hj
          go_wp2_with (go_at_call 91; refine (refKids_any l _ _ _ hvr hl).mono ?_; rintro e w2 ⟨q, rfl, hq, hb2⟩; (rcases hq.open with ⟨h0, _⟩ | ⟨bq, oq, cq, hqs, hqp, hqc, hqb, hqx⟩; (exfalso; rw [h0] at hjl; simp at hjl)); have gq := hqx j hjl; clear hqx; subst hqs; have g2 := (hb2.cell (p := ⟨b1, o1 + k, none⟩) hbb2).trans g1)
          go_round
          case rel => exact ⟨k + 1, (kidsv l z)[j], by go_num, rfl, by omega, Lib.hid (by rw [ht.out, hpk.out, hdn.out]), hB.trans (hb2.mono hsz)⟩
          case measure => simp [intOf]; omega
        · have hdn := Lib.hid (downV_out l z p[k] (p.drop (k + 1)) hn)
          by_cases hn1 : p[k] < 0
          · clear hn
            go_wp2_with (go_at_call 91; refine (refKids_any l _ _ _ hvr hl).mono ?_; rintro e w2 ⟨q, rfl, hq, hb2⟩; obtain ⟨pq, cq, hqs⟩ := hq.slice; subst hqs; have g2 := (hb2.cell (p := ⟨b1, o1 + k, none⟩) hbb2).trans g1)
            go_ret
            exact ⟨ret_int (by rw [HF.out, ht.out, hpk.out, hdn.out]), hB.trans (hb2.mono hsz)⟩
          · have hn2 : ((kidsv l z).length : Int) ≤ p[k] := by omega
            clear hn
            go_wp2_with (go_at_call 91; refine (refKids_any l _ _ _ hvr hl).mono ?_; rintro e w2 ⟨q, rfl, hq, hb2⟩; obtain ⟨pq, cq, hqs⟩ := hq.slice; subst hqs; have g2 := (hb2.cell (p := ⟨b1, o1 + k, none⟩) hbb2).trans g1)
            go_ret
            exact ⟨ret_int (by rw [HF.out, ht.out, hpk.out, hdn.out]), hB.trans (hb2.mono hsz)⟩
      · go_wp2
        go_ret
        exact ⟨ret_int (by rw [HF.out, ht.out, List.drop_of_length_le (by omega)]; rfl), hB⟩
  · have hE' : (endv l 0 != (l.length : Int)) = true := by simp [hE]
    have HF : Hid (findv l p = -1) := Lib.hid (by rw [findv, if_neg hE])
    clear hE
    go_enter Try.func49, Try.ntmps49
    go_wp2_with (go_at_call 75; refine (refEnd_any l _ _ _ hv hl).mono ?_; rintro e w1 ⟨rfl, hb1⟩)
    go_ret
    exact ⟨ret_int HF.out.symm, hb1⟩
end Go.Proofs.Ytalehbmgbjiigaa
end

section
namespace Go.Proofs.Ytalehbmgbjiigaa
open Go.RowKit
set_option maxHeartbeats 2000000 in
theorem refCompare_any (a b : List Int) (u v : Value) (w : World) (hu : IntsAt w u a) (hv : IntsAt w v b) (ha : a.length ≤ 4000000) (hb : b.length ≤ 4000000) :
    Calls Try.prog 67 #[u, v] w fun e w' => e = .returned (.int .i64 (cmpL a b)) ∧ Below w.heap.size w w' := by
  obtain ⟨pu, cu, hus⟩ := hu.slice
  obtain ⟨pv, cv, hvs⟩ := hv.slice
  subst hus
  subst hvs
  go_enter Try.func67, Try.ntmps67
  go_wp2
  go_loopw [5] (fun i wr => ∃ k : Nat, i = .int .i64 k ∧ k ≤ a.length ∧ k ≤ b.length ∧ Hid (cmpL a b = cmpL (a.drop k) (b.drop k)) ∧ Below w.heap.size w wr) (fun i _ => a.length - (intOf i).toNat)
  case atStart => exact ⟨0, rfl, Nat.zero_le _, Nat.zero_le _, Lib.hid rfl, Below.refl _ _⟩
  case round =>
    obtain ⟨k, rfl, hk, hk2, ht, hB⟩ := hrel
    by_cases hkm : k < a.length ∧ k < b.length
    · obtain ⟨hlt, hltb⟩ := hkm
      rcases hu.open with ⟨rfl, _⟩ | ⟨b1, o1, c1, hs1, hp1, hc1, hb1, hx1⟩
      · simp at hlt
      rcases hv.open with ⟨rfl, _⟩ | ⟨b2, o2, c2, hs2, hp2, hc2, hb2, hx2⟩
      · simp at hltb
      obtain ⟨rfl, rfl⟩ : pu = some ⟨b1, o1, none⟩ ∧ cu = c1 := by simpa using hs1
      obtain ⟨rfl, rfl⟩ : pv = some ⟨b2, o2, none⟩ ∧ cv = c2 := by simpa using hs2
      have g1 := (hB.cell (p := ⟨b1, o1 + k, none⟩) hb1).trans (hx1 k hlt)
      have g2 := (hB.cell (p := ⟨b2, o2 + k, none⟩) hb2).trans (hx2 k hltb)
      clear hx1 hx2 hs1 hs2
      have n1 : (k : Int) < (a.length : Int) := by omega
      have n2 : (k : Int) < (b.length : Int) := by omega
      rcases Int.lt_trichotomy a[k] b[k] with he | he | he
      · go_wp2
        go_quiet (fail)
        go_wp2
        go_ret
        exact ⟨ret_int (by rw [ht.out, cmpL_apart a b k hlt hltb (by omega), cmpI, if_pos he]), below_drewN hB _⟩
      · have h1 : ¬ a[k] < b[k] := by omega
        have h2 : ¬ b[k] < a[k] := by omega
        have HE := Lib.hid he
        clear he
        go_wp2
        go_quiet (fail)
        go_wp2
        go_quiet (fail)
        go_wp2
        go_roundw
        case rel => exact ⟨k + 1, by go_num, by omega, by omega, Lib.hid (by rw [ht.out, cmpL_drop a b k hlt hltb HE.out]), by first | exact below_drewN hB _ | exact below_drewN (below_drewN hB _) _⟩
        case measure => simp [intOf]; omega
      · have h1 : ¬ a[k] < b[k] := by omega
        go_wp2
        go_quiet (fail)
        go_wp2
        go_quiet (fail)
        go_wp2
        go_ret
        exact ⟨ret_int (by rw [ht.out, cmpL_apart a b k hlt hltb (by omega), cmpI, if_neg (by omega), if_pos he]), below_drewN (below_drewN hB _) _⟩
    · have he : cmpL a b = cmpI a.length b.length := by rw [ht.out, cmpL_end a b k (by omega) (by omega) (by omega)]
      have HE := Lib.hid he
      clear he
      by_cases h3 : k < a.length
      all_goals
        go_wp2
        all_goals
          go_ret
          exact ⟨ret_int (by rw [HE.out, cmpI]; first | rw [if_pos (by omega)] | rw [if_neg (by omega), if_pos (by omega)] | rw [if_neg (by omega), if_neg (by omega)]), hB⟩
end Go.Proofs.Ytalehbmgbjiigaa
end

section
namespace Go.Proofs.Ytalehbmgbjiigaa
open Go.RowKit
set_option linter.unusedVariables false
set_option linter.unusedSimpArgs false

section
variable {P : Program}
/-- Elements of any size are copied into a row, from a place on. -/
theorem run_copy_rows (w : World) (t ty e : TypeId) (i : TypeInfo) (ht : P.underlying t = some (.slice e)) (hi : P.info? e = some i) (b o n dc : Nat) (cur : Array Value) (t' : TypeId) (hb : w.heap[b]? = some (.cells cur t' (0, 0)))
    (a : Addr) (m sc : Nat) (vs : List Value) (hl : vs.length = Nat.min m n * i.size) (hc : ∀ j v, vs[j]? = some v → w.cell? (a.add j) = some v) (h1 : ∀ v ∈ vs, v.oneCell' = true) (hfit : o + vs.length ≤ cur.size) :
    (Builtin.copy_ #[t, t] ty #[.slice (some ⟨b, o, none⟩) n dc, .slice (some a) m sc]).run P w = .ok (.int .i64 (Nat.min m n : Nat)) (w.setRow b (cur.toList.take o ++ vs ++ cur.toList.drop (o + vs.length)).toArray) := by
  have hf := run_firstCells_some (P := P) w i.size (Nat.min m n) a m sc vs hl hc
  have hst := run_storeCells_at P b o t' vs 0 cur w hb (by simpa using hfit) h1
  simp only [Nat.add_zero] at hst
  simp [Builtin.copy_, run_underlying ht, Builtin.lenOf, sizeOf, typeInfo, hi, _root_.Go.goInt, hf, hst]
end
theorem alloc_setRow (w : World) (A R : Array Value) (t : TypeId) : (w.alloc (.cells A t)).setRow w.heap.size R = w.alloc (.cells R t) := by
  unfold World.setRow World.alloc
  congr 1
  apply Array.ext
  · simp
  · intro k h1 h2
    simp only [Array.size_modify, Array.size_push] at h1
    rw [Array.getElem_modify]
    by_cases hk : k < w.heap.size
    · rw [if_neg (by omega), Array.getElem_push_lt hk, Array.getElem_push_lt hk]
    · have : k = w.heap.size := by omega
      subst this
      simp
/-- What a row is with some cells put in. -/
theorem ins_cells (arr : List Value) (n i : Nat) (v : List Value) (hv : v.length = 2) (hi : i < n) (hn : 2 * (n + 1) ≤ arr.length) :
    let r1 := arr.take (2 * (i + 1)) ++ (arr.drop (2 * i)).take (2 * (n - i)) ++ arr.drop (2 * (i + 1) + 2 * (n - i))
    (r1.take (2 * i) ++ v ++ r1.drop (2 * i + 2)).take (2 * (n + 1)) = arr.take (2 * i) ++ v ++ (arr.take (2 * n)).drop (2 * i) := by
  intro r1
  have e1 : r1.take (2 * i) = arr.take (2 * i) := by
    show (arr.take (2 * (i + 1)) ++ _ ++ _).take (2 * i) = _
    rw [List.append_assoc, List.take_append_of_le_length (by simp; omega), List.take_take]
    congr 1; omega
  have e2 : r1.drop (2 * i + 2) = (arr.drop (2 * i)).take (2 * (n - i)) ++ arr.drop (2 * (i + 1) + 2 * (n - i)) := by
    show (arr.take (2 * (i + 1)) ++ _ ++ _).drop (2 * i + 2) = _
    rw [List.append_assoc]
    exact List.drop_left' (by simp; omega)
  rw [e1, e2]
  have e3 : (arr.drop (2 * i)).take (2 * (n - i)) = (arr.take (2 * n)).drop (2 * i) := by
    rw [List.drop_take]; congr 1; omega
  rw [e3, ← List.append_assoc]
  exact List.take_left' (by simp; omega)

/-- One element is put into a row ahead of another one. -/
def insertH (t : TypeId) : List D → Heap → Option (D × Heap)
  | [.hs id n, .v (.int .i64 i), .hs id2 m], H =>
    match H[id]?, H[id2]? with
    | some (.cells t1 s1 cs), some (.cells t2 s2 new) =>
      if id ≠ id2 ∧ m = 1 ∧ t1 = t ∧ s1 = 2 ∧ s2 = 2 ∧ cs.length = n * 2 ∧ new.length = 2 ∧ 0 ≤ i ∧ i < n ∧ n ≤ 1000000 then
        some (.hs H.length (n + 1), H.set id .dead ++ [.cells t 2 (cs.take (2 * i.toNat) ++ new ++ cs.drop (2 * i.toNat))]) else none
    | _, _ => none
  | _, _ => none

/-- What a call of such a function does, for rows that have room and for those that have none. -/
structure InsCalls (P : Program) (f : FuncId) (t : TypeId) : Prop where
  body : ∃ fn, P.funcs[f]? = some fn ∧ fn.name ≠ "runtime.NumGoroutine" ∧ fn.body.isSome = true
  room : ∀ (b n c i vb vc : Nat) (arr arrv : Array Value) (tv : TypeId) (v0 v1 : Value) (w : World), i < n → n + 1 ≤ c → c ≤ maxLen → w.heap[b]? = some (.cells arr t (0, 0)) → arr.size = c * 2 → w.heap[vb]? = some (.cells arrv tv (0, 0)) → arrv[0]? = some v0 → arrv[1]? = some v1 →
    v0.oneCell' = true → v1.oneCell' = true → vb ≠ b → (∀ x ∈ arr.toList.take (2 * n), x.oneCell' = true) →
    Calls P f #[.slice (some ⟨b, 0, none⟩) n c, .int .i64 i, .slice (some ⟨vb, 0, none⟩) 1 vc] w fun e w' => ∃ A : Array Value, e = .returned (.slice (some ⟨b, 0, none⟩) (n + 1) c) ∧ w' = w.drew.setRow b A ∧ A.size = c * 2 ∧
      A.toList.take (2 * (n + 1)) = arr.toList.take (2 * i) ++ [v0, v1] ++ (arr.toList.take (2 * n)).drop (2 * i)
  grow : ∀ (b n c i vb vc : Nat) (arr arrv : Array Value) (tv : TypeId) (v0 v1 : Value) (w : World), i < n → n ≤ c → c < n + 1 → n ≤ 1000000 → w.heap[b]? = some (.cells arr t (0, 0)) → arr.size = c * 2 → w.heap[vb]? = some (.cells arrv tv (0, 0)) → arrv[0]? = some v0 → arrv[1]? = some v1 →
    v0.oneCell' = true → v1.oneCell' = true → vb ≠ b → (∀ x ∈ arr.toList.take (2 * n), x.oneCell' = true) →
    Calls P f #[.slice (some ⟨b, 0, none⟩) n c, .int .i64 i, .slice (some ⟨vb, 0, none⟩) 1 vc] w fun e w' => ∃ (A : Array Value) (c' : Nat), e = .returned (.slice (some ⟨w.heap.size, 0, none⟩) (n + 1) c') ∧ w' = w.drew.drew.alloc (.cells A t) ∧ n + 1 ≤ c' ∧ c' ≤ maxLen ∧ A.size = c' * 2 ∧
      A.toList.take (2 * (n + 1)) = arr.toList.take (2 * i) ++ [v0, v1] ++ (arr.toList.take (2 * n)).drop (2 * i)

set_option maxHeartbeats 1000000 in
theorem ins_hcall {P : Program} {f : FuncId} {t : TypeId} (h : InsCalls P f t) : HCallOk P f (insertH t) := by
  refine ⟨h.body, fun ds H d H' hG B S L vs w hr hv => ?_⟩
  unfold insertH at hG
  split at hG
  · rename_i id n i id2 m
    split at hG
    · rename_i t1 s1 cs t2 s2 new hid hid2
      split at hG
      · rename_i hc
        obtain ⟨hne, rfl, rfl, rfl, rfl, hcl, hnl, hi0, hin, hn⟩ := hc
        cases hG
        simp only [RepA, Rep] at hv
        obtain ⟨_, _, rfl, ⟨b, c, hL, hnc, rfl⟩, _, _, rfl, rfl, _, _, rfl, ⟨vb, vc, hL2, hmc, rfl⟩, rfl⟩ := hv
        obtain ⟨k, rfl⟩ := Int.eq_ofNat_of_zero_le hi0
        simp only [Int.toNat_natCast]
        have hkn : k < n := by omega
        obtain ⟨arr, g1, g2, g3, g4, g5⟩ := row_values hr hid hL
        obtain ⟨arrv, q1, q2, q3, q4, q5⟩ := row_values hr hid2 hL2
        have hone0 : ∀ (j : Nat) (d : D), cs[j]? = some d → ∃ x, arr[j]? = some x ∧ x.oneCell' = true ∧ Rep S L w x d := by
          obtain ⟨b', c', arr', k1, k2, k3, k4, k5, k6, k7, k8⟩ := hr.live id _ _ cs hid
          rw [hL] at k1; cases k1
          rw [g1] at k4; cases k4
          exact k8
        have hone2 : ∀ (j : Nat) (d : D), new[j]? = some d → ∃ x, arrv[j]? = some x ∧ x.oneCell' = true ∧ Rep S L w x d := by
          obtain ⟨b', c', arr', k1, k2, k3, k4, k5, k6, k7, k8⟩ := hr.live id2 _ _ new hid2
          rw [hL2] at k1; cases k1
          rw [q1] at k4; cases k4
          exact k8
        obtain ⟨d0, d1, rfl⟩ : ∃ d0 d1, new = [d0, d1] := by
          match new, hnl with
          | [d0, d1], _ => exact ⟨d0, d1, rfl⟩
        obtain ⟨v0, a1, a2, a3⟩ := hone2 0 d0 rfl
        obtain ⟨v1, b1, b2, b3⟩ := hone2 1 d1 rfl
        have hbl : vb ≠ b := fun e => hne (hr.inj id id2 _ _ _ _ hid (by intro e; cases e) hid2 (by intro e; cases e) hL hL2 e.symm)
        have h2n : arr.toList.take (2 * n) = arr.toList.take cs.length := by rw [hcl, Nat.mul_comm]
        have hone : ∀ x ∈ arr.toList.take (2 * n), x.oneCell' = true := by
          intro x hx
          obtain ⟨j, hj, rfl⟩ := List.getElem_of_mem hx
          have hjl : j < cs.length := by simp at hj; omega
          obtain ⟨y, y1, y2, _⟩ := hone0 j _ (List.getElem?_eq_getElem hjl)
          have : arr[j]? = some (arr.toList.take (2 * n))[j] := by simp at hj ⊢
          rw [this] at y1
          cases y1
          exact y2
        have hX : RepA S L w (arr.toList.take (2 * k) ++ [v0, v1] ++ (arr.toList.take (2 * n)).drop (2 * k)) (cs.take (2 * k) ++ [d0, d1] ++ cs.drop (2 * k)) := by
          rw [h2n]
          refine ((?_ : RepA S L w _ _).append (RepA.cons a3 (RepA.cons b3 RepA.nil))).append (g5.drop _)
          have := g5.take (2 * k)
          rwa [List.take_take, Nat.min_eq_left (by omega)] at this
        have hX1 : ∀ x ∈ arr.toList.take (2 * k) ++ [v0, v1] ++ (arr.toList.take (2 * n)).drop (2 * k), x.oneCell' = true := by
          intro x hx
          simp only [List.mem_append, List.mem_cons, List.not_mem_nil, or_false] at hx
          rcases hx with (hx | rfl | rfl) | hx
          · refine hone x ?_
            have : arr.toList.take (2 * k) = (arr.toList.take (2 * n)).take (2 * k) := by rw [List.take_take, Nat.min_eq_left (by omega)]
            rw [this] at hx
            exact List.mem_of_mem_take hx
          · exact a2
          · exact b2
          · exact hone x (List.mem_of_mem_drop hx)
        have hXl := hX.length
        have hrep : ∀ (A : Array Value), A.toList.take (2 * (n + 1)) = arr.toList.take (2 * k) ++ [v0, v1] ++ (arr.toList.take (2 * n)).drop (2 * k) →
            ∀ (j : Nat) (d : D), (cs.take (2 * k) ++ [d0, d1] ++ cs.drop (2 * k))[j]? = some d → ∃ x, A[j]? = some x ∧ x.oneCell' = true ∧ Rep S L w x d := by
          intro A hA j d hj
          obtain ⟨x, x1, x2⟩ := hX.get j d hj
          refine ⟨x, ?_, hX1 x (List.mem_of_getElem? x1), x2⟩
          rw [← hA] at x1
          have hlt := (List.getElem?_eq_some_iff.1 x1).1
          rw [List.getElem?_take_of_lt (by simp at hlt; omega)] at x1
          simpa using x1
        have hcl' : (cs.take (2 * k) ++ [d0, d1] ++ cs.drop (2 * k)).length = 2 * (n + 1) := by
          simp only [List.length_append, List.length_take, List.length_drop, List.length_cons, List.length_nil]; omega
        by_cases hroom : n + 1 ≤ c
        · refine (h.room b n c k vb vc arr arrv t2 v0 v1 w hkn hroom g3 g1 g2 q1 a1 b1 a2 b2 hbl hone).mono ?_
          rintro e w' ⟨A, rfl, rfl, hs, hA⟩
          obtain ⟨r1, r2⟩ := hr.drew
          have hrep' : ∀ (j : Nat) (d : D), (cs.take (2 * k) ++ [d0, d1] ++ cs.drop (2 * k))[j]? = some d → ∃ x, A[j]? = some x ∧ x.oneCell' = true ∧ Rep S L w.drew x d := fun j d hj => by
            obtain ⟨x, x1, x2, x3⟩ := hrep A hA j d hj
            exact ⟨x, x1, x2, r2.rep x3⟩
          have hw := r1.write hid hL A (cs.take (2 * k) ++ [d0, d1] ++ cs.drop (2 * k)) hs (by rw [hcl', hs]; omega) hrep'
          have hmv := hw.1.move (id := id) (o := .cells t1 2 (cs.take (2 * k) ++ [d0, d1] ++ cs.drop (2 * k))) (by
            have hlt := (List.getElem?_eq_some_iff.1 hid).1
            rw [List.getElem?_set_self hlt]) (by intro e; cases e) hL
          rw [List.set_set] at hmv
          refine ⟨_, _, _, rfl, ?_, hmv.1, r2.trans (hw.2.trans hmv.2)⟩
          simp only [Rep]
          exact ⟨b, c, by rw [← hr.len]; simp, hroom, rfl⟩
        · refine (h.grow b n c k vb vc arr arrv t2 v0 v1 w hkn hnc (by omega) hn g1 g2 q1 a1 b1 a2 b2 hbl hone).mono ?_
          rintro e w' ⟨A, c', rfl, rfl, hc1, hc2, hs, hA⟩
          have hn' := (hr.kill id).new w.drew.drew rfl ((Below.refl _ _).drew.drew) t1 2 c' (cs.take (2 * k) ++ [d0, d1] ++ cs.drop (2 * k)) A hs hc2 (by rw [hcl', hs]; omega) (hrep A hA)
          refine ⟨_, _, _, rfl, ?_, hn'.1, hn'.2⟩
          simp only [Rep]
          exact ⟨w.heap.size, c', by rw [← hr.len]; simp, hc1, rfl⟩
      · cases hG
    · cases hG
  · cases hG
end Go.Proofs.Ytalehbmgbjiigaa
end

section
namespace Go.Proofs.Ytalehbmgbjiigaa
open Go.RowKit Go.Lib Go.Shelf
set_option linter.unusedVariables false
set_option linter.unusedSimpArgs false

set_option maxHeartbeats 4000000 in
set_option maxRecDepth 100000 in
theorem insert_room (b n c i vb vc : Nat) (arr arrv : Array Value) (tv : TypeId) (v0 v1 : Value) (w : World) (hi : i < n) (hroom : n + 1 ≤ c) (hcm : c ≤ maxLen) (hb : w.heap[b]? = some (.cells arr 46 (0, 0))) (hsz : arr.size = c * 2)
    (hvb : w.heap[vb]? = some (.cells arrv tv (0, 0))) (h0 : arrv[0]? = some v0) (h1 : arrv[1]? = some v1) (o0 : v0.oneCell' = true) (o1 : v1.oneCell' = true) (hne : vb ≠ b) (hone : ∀ x ∈ arr.toList.take (2 * n), x.oneCell' = true) :
    Calls Try.prog 89 #[.slice (some ⟨b, 0, none⟩) n c, .int .i64 i, .slice (some ⟨vb, 0, none⟩) 1 vc] w fun e w' => ∃ A : Array Value, e = .returned (.slice (some ⟨b, 0, none⟩) (n + 1) c) ∧ w' = w.drew.setRow b A ∧ A.size = c * 2 ∧
      A.toList.take (2 * (n + 1)) = arr.toList.take (2 * i) ++ [v0, v1] ++ (arr.toList.take (2 * n)).drop (2 * i) := by
  obtain ⟨i0, hi0, hz0, hz1, hz2⟩ := info_parts infoNode
  have hzz : ∀ w, (Go.sizeOf 46).run Try.prog w = .ok 2 w := fun w => by simp [sizeOf, typeInfo, hi0, hz1]
  have hc63 : c ≤ 9223372036854775807 := by unfold maxLen at hcm; omega
  have hy2 : ¬ ((i : Int) = (n : Int)) := by omega
  have hov : ∀ lb cb, (callFunc 122 #[.slice (some ⟨vb, 0, none⟩) 1 vc, .slice (some ⟨b, (i + 1) * 2, none⟩) lb cb]).run Try.prog w = .ok (.value (.bool false)) w := fun lb cb => by
    rw [run_callFunc_extern Try.func122 (by kernel_rfl) (by kernel_rfl) (by kernel_rfl) (e := Extern.SlicesOverlaps.overlaps #[23, 23] #[4]) (by kernel_rfl),
      Lib.run_overlaps_apart w 23 4 46 Try.underlying23 2 hzz ⟨vb, 0, none⟩ ⟨b, (i + 1) * 2, none⟩ 1 vc lb cb hne tv 46 arrv.size arr.size (by simp [World.shape?, hvb]) (by simp [World.shape?, hb]) (by omega) (by simp [World.frozen?, hvb]) (by simp [World.frozen?, hvb])]
    rfl
  have hsl : arr.toList.length = c * 2 := by simp [hsz]
  have hw1 : IntKind.i64.wrap ((i : Int) + 1) = (i : Int) + 1 := by rw [IntKind.wrap_i64]; omega
  have hw2 : IntKind.i64.wrap ((n : Int) + 1) = (n : Int) + 1 := by rw [IntKind.wrap_i64]; omega
  have hb1 : (0 : Int) ≤ (i : Int) + 1 := by omega
  have hin : i ≤ n := by omega
  have htn : ((i : Int) + 1).toNat = i + 1 := by omega
  have hb2 : ¬ (c = i + 1) := by omega
  have hb3 : (i : Int) ≤ (n : Int) + 1 := by omega
  have hb4 : ¬ (c = i) := by omega
  obtain ⟨R1, hR1⟩ : ∃ R1 : List Value, R1 = arr.toList.take (2 * (i + 1)) ++ (arr.toList.drop (2 * i)).take (2 * (n - i)) ++ arr.toList.drop (2 * (i + 1) + 2 * (n - i)) := ⟨_, rfl⟩
  have hR1l : R1.length = c * 2 := by rw [hR1]; simp; omega
  have hml : ((arr.toList.drop (2 * i)).take (2 * (n - i))).length = 2 * (n - i) := by simp; omega
  have hcp1 : ∀ ty dc sc, (Builtin.copy_ #[23, 23] ty #[.slice (some ⟨b, (i + 1) * 2, none⟩) (n - i) dc, .slice (some ⟨b, i * 2, none⟩) (n + 1 - i) sc]).run Try.prog w.drew = .ok (.int .i64 ((n - i : Nat) : Int)) (w.drew.setRow b R1.toArray) := fun ty dc sc => by
    have hmin : Nat.min (n + 1 - i) (n - i) = n - i := by simp only [Nat.min_def]; split <;> omega
    have h := run_copy_rows (P := Try.prog) w.drew 23 ty 46 i0 Try.underlying23 hi0 b ((i + 1) * 2) (n - i) dc arr 46 hb ⟨b, i * 2, none⟩ (n + 1 - i) sc ((arr.toList.drop (2 * i)).take (2 * (n - i))) (by rw [hmin, hz1, hml]; omega) (fun j v hj => by
      rw [Addr.add_lit]
      have hlt := (List.getElem?_eq_some_iff.1 hj).1
      rw [List.getElem?_take_of_lt (by rw [hml] at hlt; exact hlt), List.getElem?_drop] at hj
      rw [show w.drew.cell? ⟨b, i * 2 + j, none⟩ = w.cell? ⟨b, i * 2 + j, none⟩ from rfl, cell_of_heap hb, Nat.mul_comm i 2]
      simpa using hj) (fun v hv => by
      have e : (arr.toList.drop (2 * i)).take (2 * (n - i)) = (arr.toList.take (2 * n)).drop (2 * i) := by rw [List.drop_take]; congr 1; omega
      rw [e] at hv
      exact hone v (List.mem_of_mem_drop hv)) (by rw [hml]; omega)
    rw [hmin, hml, Nat.mul_comm (i + 1) 2] at h
    rw [hR1]
    rw [Nat.mul_comm (i + 1) 2]
    exact h
  have hcp2 : ∀ (W : World), W.heap = (w.drew.setRow b R1.toArray).heap → ∀ ty dc, (Builtin.copy_ #[23, 23] ty #[.slice (some ⟨b, i * 2, none⟩) (n + 1 - i) dc, .slice (some ⟨vb, 0, none⟩) 1 vc]).run Try.prog W = .ok (.int .i64 1) (W.setRow b (R1.take (2 * i) ++ [v0, v1] ++ R1.drop (2 * i + 2)).toArray) := fun W hW ty dc => by
    have hmin : Nat.min 1 (n + 1 - i) = 1 := by simp only [Nat.min_def]; split <;> omega
    have hWb : W.heap[b]? = some (.cells R1.toArray 46 (0, 0)) := by rw [hW]; exact setRow_heap w.drew b arr _ _ _ hb
    have hWv : W.heap[vb]? = some (.cells arrv tv (0, 0)) := by rw [hW, setRow_other w.drew b vb _ hne]; exact hvb
    have h := run_copy_rows (P := Try.prog) W 23 ty 46 i0 Try.underlying23 hi0 b (i * 2) (n + 1 - i) dc R1.toArray 46 hWb ⟨vb, 0, none⟩ 1 vc [v0, v1] (by rw [hmin, hz1]; rfl) (fun j v hj => by
      rw [Addr.add_lit, cell_of_heap hWv]
      match j, hj with
      | 0, hj => rw [← hj]; exact h0
      | 1, hj => rw [← hj]; exact h1
      | j + 2, hj => simp at hj) (fun v hv => by
      simp only [List.mem_cons, List.not_mem_nil, or_false] at hv
      rcases hv with rfl | rfl
      · exact o0
      · exact o1) (by simp; omega)
    rw [hmin] at h
    rw [Nat.mul_comm 2 i]
    exact h
  have hfin : (R1.take (2 * i) ++ [v0, v1] ++ R1.drop (2 * i + 2)).toArray.size = c * 2 := by simp; omega
  have hend : (R1.take (2 * i) ++ [v0, v1] ++ R1.drop (2 * i + 2)).take (2 * (n + 1)) = arr.toList.take (2 * i) ++ [v0, v1] ++ (arr.toList.take (2 * n)).drop (2 * i) := by
    rw [hR1]
    exact ins_cells arr.toList n i [v0, v1] rfl hi (by omega)
  have hmix : Try.prog.follows .mixedOrders = true := by kernel_rfl
  go_enter Try.func89, Try.ntmps89
  go_wp2_with (simp only [hov])
  go_region_law_o (refine step_copy_runI rfl _ _ 23 23 rfl _ _ (by simp [Act.eval, Act.put]) (by simp [Act.eval, Act.put]) (hcp1 _ _ _) ?_)
  go_wp2_with (at_builtin; refine wpList_copy_runI _ rfl _ _ 23 23 rfl _ _ rfl rfl (hcp2 _ rfl _ _) ?_)
  go_ret
  refine ⟨_, rfl, ?_, hfin, hend⟩
  rw [setRow_setRow, hR1]
  simp only [List.append_assoc, List.cons_append, List.nil_append]


theorem grow_cells (arr z : List Value) (n i : Nat) (v : List Value) (hv : v.length = 2) (hi : i < n) (hn : 2 * n ≤ arr.length) (hz : 2 * (n + 1) ≤ 2 * i + z.length) :
    let r0 := arr.take (2 * i) ++ z
    let r1 := r0.take (2 * i) ++ v ++ r0.drop (2 * i + 2)
    (r1.take (2 * (i + 1)) ++ (arr.take (2 * n)).drop (2 * i) ++ r1.drop (2 * (i + 1) + 2 * (n - i))).take (2 * (n + 1)) = arr.take (2 * i) ++ v ++ (arr.take (2 * n)).drop (2 * i) ∧
    r1.length = r0.length ∧ (r1.take (2 * (i + 1)) ++ (arr.take (2 * n)).drop (2 * i) ++ r1.drop (2 * (i + 1) + 2 * (n - i))).length = r0.length := by
  intro r0 r1
  have hl0 : r0.length = 2 * i + z.length := by
    show (arr.take (2 * i) ++ z).length = _
    simp; omega
  have e0 : r0.take (2 * i) = arr.take (2 * i) := List.take_left' (by simp; omega)
  have hl1 : r1.length = r0.length := by
    show (r0.take (2 * i) ++ v ++ r0.drop (2 * i + 2)).length = _
    simp; omega
  have e1 : r1.take (2 * (i + 1)) = arr.take (2 * i) ++ v := by
    show (r0.take (2 * i) ++ v ++ _).take _ = _
    rw [e0]
    exact List.take_left' (by simp; omega)
  refine ⟨?_, hl1, by simp; omega⟩
  rw [e1]
  exact List.take_left' (by simp; omega)

set_option maxHeartbeats 4000000 in
set_option maxRecDepth 100000 in
theorem insert_grow (b n c i vb vc : Nat) (arr arrv : Array Value) (tv : TypeId) (v0 v1 : Value) (w : World) (hi : i < n) (hnc : n ≤ c) (hroom : c < n + 1) (hn : n ≤ 1000000) (hb : w.heap[b]? = some (.cells arr 46 (0, 0))) (hsz : arr.size = c * 2)
    (hvb : w.heap[vb]? = some (.cells arrv tv (0, 0))) (h0 : arrv[0]? = some v0) (h1 : arrv[1]? = some v1) (o0 : v0.oneCell' = true) (o1 : v1.oneCell' = true) (hne : vb ≠ b) (hone : ∀ x ∈ arr.toList.take (2 * n), x.oneCell' = true) :
    Calls Try.prog 89 #[.slice (some ⟨b, 0, none⟩) n c, .int .i64 i, .slice (some ⟨vb, 0, none⟩) 1 vc] w fun e w' => ∃ (A : Array Value) (c' : Nat), e = .returned (.slice (some ⟨w.heap.size, 0, none⟩) (n + 1) c') ∧ w' = w.drew.drew.alloc (.cells A 46) ∧ n + 1 ≤ c' ∧ c' ≤ maxLen ∧ A.size = c' * 2 ∧
      A.toList.take (2 * (n + 1)) = arr.toList.take (2 * i) ++ [v0, v1] ++ (arr.toList.take (2 * n)).drop (2 * i) := by
  obtain ⟨i0, hi0, hz0, hz1, hz2⟩ := info_parts infoNode
  have hy2 : ¬ ((i : Int) = (n : Int)) := by omega
  have hy3 : (c : Int) < (n : Int) + 1 := by omega
  have hsl : arr.toList.length = c * 2 := by simp [hsz]
  have hw1 : IntKind.i64.wrap ((i : Int) + 1) = (i : Int) + 1 := by rw [IntKind.wrap_i64]; omega
  have hw2 : IntKind.i64.wrap ((n : Int) + 1) = (n : Int) + 1 := by rw [IntKind.wrap_i64]; omega
  have hkk : (n : Int) + 1 - (i : Int) = ((n + 1 - i : Nat) : Int) := by omega
  have hik : i + (n + 1 - i) = n + 1 := by omega
  have hbw : b < w.heap.size := (Array.getElem?_eq_some_iff.1 hb).1
  have hvw : vb < w.heap.size := (Array.getElem?_eq_some_iff.1 hvb).1
  have hold : (Builtin.firstCells i0.size i (.slice (some ⟨b, 0, none⟩) i c)).run Try.prog w.drew = .ok (arr.toList.take (2 * i)).toArray w.drew :=
    run_firstCells_some w.drew i0.size i ⟨b, 0, none⟩ i c (arr.toList.take (2 * i)) (by rw [hz1]; simp; omega) (fun j v hj => by
      rw [Addr.add_lit, Nat.zero_add]
      have hlt := (List.getElem?_eq_some_iff.1 hj).1
      rw [List.getElem?_take_of_lt (by simp at hlt; omega)] at hj
      rw [show w.drew.cell? ⟨b, j, none⟩ = w.cell? ⟨b, j, none⟩ from rfl, cell_of_heap hb]
      simpa using hj)
  obtain ⟨G, hG⟩ : ∃ G, G = grownCap w (n + 1) c 46 := ⟨_, rfl⟩
  have hGn : n + 1 ≤ G := by rw [hG]; exact grownCap_ge w _ _ _
  have hGm : G ≤ maxLen := by rw [hG]; exact grownCap_le_maxLen w (n + 1) c 46 (by unfold maxLen; omega)
  have hG63 : G ≤ 9223372036854775807 := by unfold maxLen at hGm; omega
  obtain ⟨Z, hZ⟩ : ∃ Z : Array Value, Z = Builtin.zeroCells (Value.agg #[.int .i64 0, .int .i64 0]).cells (n + 1 - i) ++ Builtin.zeroCells (Value.agg #[.int .i64 0, .int .i64 0]).cells (G - (n + 1)) := ⟨_, rfl⟩
  have hZl : Z.size = 2 * (G - i) := by
    rw [hZ]
    simp only [Array.size_append, size_zeroCells, Value.cells]
    simp; omega
  have hrz : ∀ ty, (Builtin.append_ #[23, 3] ty #[.slice (some ⟨b, 0, none⟩) i c, .int .i64 ((n : Int) + 1 - (i : Int))]).run Try.prog w =
      .ok (.slice (some ⟨w.heap.size, 0, none⟩) (n + 1) G) (w.drew.alloc (.cells (arr.toList.take (2 * i) ++ Z.toList).toArray 46)) := fun ty => by
    have h := Lib.run_append_grow_zeros w 23 3 ty 46 i0 _ .i64 .i64 Try.underlying23 Try.underlying3 hi0 hz0 (some ⟨b, 0, none⟩) i c (arr.toList.take (2 * i)) hold (n + 1 - i) (by omega) (by omega) (by omega) (by omega) (by rw [hz2]; omega) (by rw [hz2, hik]; exact growslice_fits hroom (by omega))
    rw [hik, ← hG] at h
    rw [hkk, h, hZ]
    congr 3
    simp
  obtain ⟨R0, hR0⟩ : ∃ R0 : List Value, R0 = arr.toList.take (2 * i) ++ Z.toList := ⟨_, rfl⟩
  rw [← hR0] at hrz
  obtain ⟨R1, hR1⟩ : ∃ R1 : List Value, R1 = R0.take (2 * i) ++ [v0, v1] ++ R0.drop (2 * i + 2) := ⟨_, rfl⟩
  obtain ⟨R2, hR2⟩ : ∃ R2 : List Value, R2 = R1.take (2 * (i + 1)) ++ (arr.toList.take (2 * n)).drop (2 * i) ++ R1.drop (2 * (i + 1) + 2 * (n - i)) := ⟨_, rfl⟩
  have hall := grow_cells arr.toList Z.toList n i [v0, v1] rfl hi (by omega) (by simp [hZl]; omega)
  simp only at hall
  rw [← hR0, ← hR1, ← hR2] at hall
  obtain ⟨hend, hl1, hl2⟩ := hall
  have hl0 : R0.length = G * 2 := by rw [hR0]; simp [hZl]; omega
  have hcp1 : ∀ (W : World), W.heap = (w.drew.alloc (.cells R0.toArray 46)).heap → ∀ ty dc, (Builtin.copy_ #[23, 23] ty #[.slice (some ⟨w.heap.size, i * 2, none⟩) (n + 1 - i) dc, .slice (some ⟨vb, 0, none⟩) 1 vc]).run Try.prog W = .ok (.int .i64 1) (W.setRow w.heap.size R1.toArray) := fun W hW ty dc => by
    have hmin : Nat.min 1 (n + 1 - i) = 1 := by simp only [Nat.min_def]; split <;> omega
    have hWb : W.heap[w.heap.size]? = some (.cells R0.toArray 46 (0, 0)) := by rw [hW]; exact heap_alloc_new w.drew _
    have hWv : W.heap[vb]? = some (.cells arrv tv (0, 0)) := by rw [hW, heapAllocOld w.drew _ hvw]; exact hvb
    have h := run_copy_rows (P := Try.prog) W 23 ty 46 i0 Try.underlying23 hi0 w.heap.size (i * 2) (n + 1 - i) dc R0.toArray 46 hWb ⟨vb, 0, none⟩ 1 vc [v0, v1] (by rw [hmin, hz1]; rfl) (fun j v hj => by
      rw [Addr.add_lit, cell_of_heap hWv]
      match j, hj with
      | 0, hj => rw [← hj]; exact h0
      | 1, hj => rw [← hj]; exact h1
      | j + 2, hj => simp at hj) (fun v hv => by
      simp only [List.mem_cons, List.not_mem_nil, or_false] at hv
      rcases hv with rfl | rfl
      · exact o0
      · exact o1) (by simp; omega)
    rw [hmin] at h
    rw [hR1, Nat.mul_comm 2 i]
    exact h
  have hml : ((arr.toList.take (2 * n)).drop (2 * i)).length = 2 * (n - i) := by simp; omega
  have hcp2 : ∀ (W : World), W.heap = ((w.drew.alloc (.cells R0.toArray 46)).setRow w.heap.size R1.toArray).heap → ∀ ty dc sc, (Builtin.copy_ #[23, 23] ty #[.slice (some ⟨w.heap.size, (i + 1) * 2, none⟩) (n - i) dc, .slice (some ⟨b, i * 2, none⟩) (n - i) sc]).run Try.prog W = .ok (.int .i64 ((n - i : Nat) : Int)) (W.setRow w.heap.size R2.toArray) := fun W hW ty dc sc => by
    have hmin : Nat.min (n - i) (n - i) = n - i := Nat.min_self _
    have hWb : W.heap[w.heap.size]? = some (.cells R1.toArray 46 (0, 0)) := by rw [hW]; exact setRow_heap _ _ R0.toArray _ _ _ (heap_alloc_new w.drew _)
    have hWo : W.heap[b]? = some (.cells arr 46 (0, 0)) := by rw [hW, setRow_other _ _ b _ (by omega), heapAllocOld w.drew _ hbw]; exact hb
    have h := run_copy_rows (P := Try.prog) W 23 ty 46 i0 Try.underlying23 hi0 w.heap.size ((i + 1) * 2) (n - i) dc R1.toArray 46 hWb ⟨b, i * 2, none⟩ (n - i) sc ((arr.toList.take (2 * n)).drop (2 * i)) (by rw [hmin, hz1, hml]; omega) (fun j v hj => by
      rw [Addr.add_lit, cell_of_heap hWo, Nat.mul_comm i 2]
      have hlt := (List.getElem?_eq_some_iff.1 hj).1
      rw [List.getElem?_drop, List.getElem?_take_of_lt (by rw [hml] at hlt; omega)] at hj
      simpa using hj) (fun v hv => hone v (List.mem_of_mem_drop hv)) (by rw [hml]; simp; omega)
    rw [hmin, hml, Nat.mul_comm (i + 1) 2] at h
    rw [hR2]
    rw [Nat.mul_comm (i + 1) 2]
    exact h
  have hb1 : (0 : Int) ≤ (i : Int) + 1 := by omega
  have hin : i ≤ n := by omega
  have htn : ((i : Int) + 1).toNat = i + 1 := by omega
  have hGi : ¬ (G = i) := by omega
  have hGim : ¬ (G = i + 1) := by omega
  have hci : ¬ (c = i) := by omega
  have hb3 : (i : Int) ≤ (n : Int) := by omega
  have hfin : R2.toArray.size = G * 2 := by simp; omega
  have hmix : Try.prog.follows .mixedOrders = true := by kernel_rfl
  have hlast : ∀ X : World, X = ((w.drew.drew.alloc (.cells R0.toArray 46)).setRow w.heap.size R1.toArray).setRow w.heap.size R2.toArray → X = w.drew.drew.alloc (.cells R2.toArray 46) := fun X hX => by
    rw [hX, setRow_setRow]
    exact alloc_setRow w.drew.drew R0.toArray R2.toArray _
  have hA := hcp1 ((w.alloc (.cells R0.toArray 46)).drew) rfl
  have hB := hcp2 (((w.alloc (.cells R0.toArray 46)).drew.setRow w.heap.size R1.toArray).drew) rfl
  clear hkk hik hold hG hZ hZl hR0 hR1 hR2 hl0 hl1 hl2 hml
  go_enter Try.func89, Try.ntmps89
  go_wp2_with (first
    | (at_builtin; refine Lib.wpList_append_run _ rfl _ _ _ _ rfl _ _ rfl rfl _ _ (hrz _) ?_)
    | simp only [hA])
  go_region_law_o (refine step_copy_runI rfl _ _ 23 23 rfl (.slice (some ⟨w.heap.size, (i + 1) * 2, none⟩) (n - i) (G - (i + 1))) (.slice (some ⟨b, i * 2, none⟩) (n - i) (c - i)) (by simp [Act.eval, Act.put]) (by simp [Act.eval, Act.put]) (hB _ _ _) ?_)
  go_wp2
  go_ret
  exact ⟨_, _, rfl, hlast _ rfl, hGn, hGm, hfin, hend⟩
theorem insCalls : InsCalls Try.prog 89 46 := ⟨⟨_, Try.func89, by decide, rfl⟩, insert_room, insert_grow⟩
theorem C_Insert : HCallOk Try.prog 89 (insertH 46) := ins_hcall insCalls
end Go.Proofs.Ytalehbmgbjiigaa
end

section
namespace Go.Proofs.Ytalehbmgbjiigaa
open Go.RowKit
set_option linter.unusedVariables false
set_option linter.unusedSimpArgs false

def F_Find : List D → Option D
  | [x0, x1] => (asNodes x0).bind fun l => (asInts x1).bind fun p => if l.length ≤ 3000000 ∧ p.length ≤ 3000000 then some (iD (findv l p)) else none
  | _ => none

theorem C_Find : CallOk Try.prog 27 F_Find := by
  refine ⟨⟨_, Try.func27, by decide, rfl⟩, fun ds d hF S vs W hS hv => ?_⟩
  unfold F_Find at hF
  split at hF
  · rename_i x0 x1
    rcases hd0 : asNodes x0 with _ | l
    · rw [hd0] at hF; cases hF
    rw [hd0, Option.bind_some] at hF
    rcases hd1 : asInts x1 with _ | p
    · rw [hd1] at hF; cases hF
    rw [hd1, Option.bind_some] at hF
    split at hF
    rotate_left
    · cases hF
    rename_i G
    cases hF
    simp only [RepA] at hv
    obtain ⟨v_l, t0, rfl, r0, ⟨v_p, t1, rfl, r1, rfl⟩⟩ := hv
    have h_l := (asNodes_ok hd0 r0).mono hS
    have h_p := (asInts_ok hd1 r1).mono hS
    refine (Find_any l p v_l v_p W h_l h_p (by omega) (by omega)).mono ?_
    rintro e w1 ⟨rfl, hb⟩
    exact ⟨_, rfl, by simp only [Rep], hb⟩
  · cases hF

def F_RefFind : List D → Option D
  | [x0, x1] => (asNodes x0).bind fun l => (asInts x1).bind fun p => if l.length ≤ 3000000 ∧ p.length ≤ 3000000 then some (iD (findv l p)) else none
  | _ => none

theorem C_RefFind : CallOk Try.prog 49 F_RefFind := by
  refine ⟨⟨_, Try.func49, by decide, rfl⟩, fun ds d hF S vs W hS hv => ?_⟩
  unfold F_RefFind at hF
  split at hF
  · rename_i x0 x1
    rcases hd0 : asNodes x0 with _ | l
    · rw [hd0] at hF; cases hF
    rw [hd0, Option.bind_some] at hF
    rcases hd1 : asInts x1 with _ | p
    · rw [hd1] at hF; cases hF
    rw [hd1, Option.bind_some] at hF
    split at hF
    rotate_left
    · cases hF
    rename_i G
    cases hF
    simp only [RepA] at hv
    obtain ⟨v_l, t0, rfl, r0, ⟨v_p, t1, rfl, r1, rfl⟩⟩ := hv
    have h_l := (asNodes_ok hd0 r0).mono hS
    have h_p := (asInts_ok hd1 r1).mono hS
    refine (refFind_any l p v_l v_p W h_l h_p (by omega) (by omega)).mono ?_
    rintro e w1 ⟨rfl, hb⟩
    exact ⟨_, rfl, by simp only [Rep], hb⟩
  · cases hF

def F_Compare : List D → Option D
  | [x0, x1] => (asInts x0).bind fun a => (asInts x1).bind fun b => if a.length ≤ 3000000 ∧ b.length ≤ 3000000 then some (iD (cmpL a b)) else none
  | _ => none

theorem C_Compare : CallOk Try.prog 72 F_Compare := by
  refine ⟨⟨_, Try.func72, by decide, rfl⟩, fun ds d hF S vs W hS hv => ?_⟩
  unfold F_Compare at hF
  split at hF
  · rename_i x0 x1
    rcases hd0 : asInts x0 with _ | a
    · rw [hd0] at hF; cases hF
    rw [hd0, Option.bind_some] at hF
    rcases hd1 : asInts x1 with _ | b
    · rw [hd1] at hF; cases hF
    rw [hd1, Option.bind_some] at hF
    split at hF
    rotate_left
    · cases hF
    rename_i G
    cases hF
    simp only [RepA] at hv
    obtain ⟨v_a, t0, rfl, r0, ⟨v_b, t1, rfl, r1, rfl⟩⟩ := hv
    have h_a := (asInts_ok hd0 r0).mono hS
    have h_b := (asInts_ok hd1 r1).mono hS
    refine (Compare_any a b v_a v_b W h_a h_b (by omega) (by omega)).mono ?_
    rintro e w1 ⟨rfl, hb⟩
    exact ⟨_, rfl, by simp only [Rep], hb⟩
  · cases hF

def F_RefCompare : List D → Option D
  | [x0, x1] => (asInts x0).bind fun a => (asInts x1).bind fun b => if a.length ≤ 3000000 ∧ b.length ≤ 3000000 then some (iD (cmpL a b)) else none
  | _ => none

theorem C_RefCompare : CallOk Try.prog 67 F_RefCompare := by
  refine ⟨⟨_, Try.func67, by decide, rfl⟩, fun ds d hF S vs W hS hv => ?_⟩
  unfold F_RefCompare at hF
  split at hF
  · rename_i x0 x1
    rcases hd0 : asInts x0 with _ | a
    · rw [hd0] at hF; cases hF
    rw [hd0, Option.bind_some] at hF
    rcases hd1 : asInts x1 with _ | b
    · rw [hd1] at hF; cases hF
    rw [hd1, Option.bind_some] at hF
    split at hF
    rotate_left
    · cases hF
    rename_i G
    cases hF
    simp only [RepA] at hv
    obtain ⟨v_a, t0, rfl, r0, ⟨v_b, t1, rfl, r1, rfl⟩⟩ := hv
    have h_a := (asInts_ok hd0 r0).mono hS
    have h_b := (asInts_ok hd1 r1).mono hS
    refine (refCompare_any a b v_a v_b W h_a h_b (by omega) (by omega)).mono ?_
    rintro e w1 ⟨rfl, hb⟩
    exact ⟨_, rfl, by simp only [Rep], hb⟩
  · cases hF

def F_cmpI : List D → Option D
  | [x0, x1] => (asInt x0).bind fun x => (asInt x1).bind fun y => some (iD (cmpI x y))
  | _ => none

theorem C_cmpI : CallOk Try.prog 73 F_cmpI := by
  refine ⟨⟨_, Try.func73, by decide, rfl⟩, fun ds d hF S vs W hS hv => ?_⟩
  unfold F_cmpI at hF
  split at hF
  · rename_i x0 x1
    rcases hd0 : asInt x0 with _ | x
    · rw [hd0] at hF; cases hF
    rw [hd0, Option.bind_some] at hF
    rcases hd1 : asInt x1 with _ | y
    · rw [hd1] at hF; cases hF
    rw [hd1, Option.bind_some] at hF
    cases hF
    simp only [RepA] at hv
    obtain ⟨v_x, t0, rfl, r0, ⟨v_y, t1, rfl, r1, rfl⟩⟩ := hv
    obtain rfl := asInt_ok hd0 r0
    obtain rfl := asInt_ok hd1 r1
    refine ((cmpI_any x y W).mono (R' := fun e w' => e = .returned (.int .i64 (cmpI x y)) ∧ Below W.heap.size W w') (by rintro e w' ⟨rfl, rfl⟩; exact ⟨rfl, Below.refl _ _⟩)).mono ?_
    rintro e w1 ⟨rfl, hb⟩
    exact ⟨_, rfl, by simp only [Rep], hb⟩
  · cases hF

def F_CloneI : List D → Option D
  | [x0] => (asInts x0).bind fun l => if l.length ≤ 3000000 then some (intsD l) else none
  | _ => none
theorem N_CloneI : CallNew Try.prog 48 F_CloneI := by
  refine ⟨⟨_, Try.func48, by decide, rfl⟩, fun ds d hF S vs W hS hv => ?_⟩
  unfold F_CloneI at hF
  split at hF
  · rename_i x0
    rcases hd0 : asInts x0 with _ | l
    · rw [hd0] at hF; cases hF
    rw [hd0, Option.bind_some] at hF
    split at hF
    rotate_left
    · cases hF
    rename_i G
    cases hF
    simp only [RepA] at hv
    obtain ⟨v_l, t0, rfl, r0, rfl⟩ := hv
    have h_l := asInts_ok hd0 r0
    refine (Clone_any l v_l W S hS h_l (by omega)).mono ?_
    rintro e w1 ⟨u, rfl, hu, hb⟩
    exact ⟨u, rfl, intsD_rep (ownsRow_ints hu), hb⟩
  · cases hF
def fs12a : List Entry := (27, true, liftF F_Find) :: (49, true, liftF F_RefFind) :: (72, true, liftF F_Compare) :: (67, true, liftF F_RefCompare) :: (73, true, liftF F_cmpI) :: (48, true, liftN F_CloneI) :: (89, false, insertH 46) :: (88, true, liftN F_Replace) :: fs08
theorem fs12a_ok : ∀ p ∈ fs12a, EntryOk Try.prog p := entries_cons (entry_lift C_Find) <| entries_cons (entry_lift C_RefFind) <| entries_cons (entry_lift C_Compare) <| entries_cons (entry_lift C_RefCompare) <| entries_cons (entry_lift C_cmpI) <| entries_cons (entry_new N_CloneI) <| entries_cons (entry_obj C_Insert) <| entries_cons (entry_new N_Replace) <| fs08_ok
def T12a : Tab := ⟨fs12a, noYl⟩
theorem T12a_ok : TabOk Try.prog T12a := tabOk_of fs12a_ok
end Go.Proofs.Ytalehbmgbjiigaa
end
