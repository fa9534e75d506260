/-
  Parts joined into one text: NewRow, Mixed, T12b, Sh12b, CmpD, PathLaw, ApplyV. No condition.
-/
import Derived.Test.YtalehbmgbjiigaaProg
import Derived.WalkKit
import Derived.Test.YtalehbmgbjiigaaFi
import Derived.Test.YtalehbmgbjiigaaFk
import Derived.Test.YtalehbmgbjiigaaFl
import Derived.Test.YtalehbmgbjiigaaFm

section
namespace Go.Proofs.Ytalehbmgbjiigaa
open Go.RowKit
set_option linter.unusedVariables false
set_option linter.unusedSimpArgs false

theorem repA_nodesC {S S2 : Nat → Prop} {L L2 : List (Nat × Nat)} {w : World} : ∀ (l : List Nd) (xs : List Value), RepA S L w xs (nodesC l) → RepA S2 L2 w xs (nodesC l)
  | [], xs, h => by simpa only [nodesC, List.map_nil, List.flatten_nil, RepA] using h
  | x :: r, xs, h => by
    have e : nodesC (x :: r) = iD x.1 :: iD x.2 :: nodesC r := rfl
    rw [e] at h ⊢
    simp only [RepA, Rep] at h ⊢
    obtain ⟨a, t, h1, h2, b, u, h3, h4, h5⟩ := h
    exact ⟨a, t, h1, h2, b, u, h3, h4, repA_nodesC r u h5⟩
theorem rep_row {B : Nat} {S : Nat → Prop} {L : List (Nat × Nat)} {w : World} {H : Heap} (hr : HRel B S L w H) {e : TypeId} {d : D} {l : List Nd} (hb : Buf e 2 H 0 d l.length (nodesC l)) {v : Value} (hv : Rep S L w v d) : Rep (fun k => B ≤ k ∧ k < w.heap.size) [] w v (nodesD l) := by
  rcases hb with ⟨rfl, h1, _⟩ | ⟨r, h1, rfl, h3, h4⟩
  · have : l = [] := List.length_eq_zero_iff.1 h1
    subst this
    simp only [Rep] at hv
    subst hv
    simp only [nodesD, List.map_nil, Rep]
    exact .inl ⟨trivial, none, 0, rfl, fun _ => rfl⟩
  · simp only [Rep] at hv
    obtain ⟨b, c, hL, hnc, rfl⟩ := hv
    obtain ⟨arr, g1, g2, g3, g4, g5⟩ := row_values hr h3 hL
    obtain ⟨k1, k2, k3⟩ := hr.lt h3 hL
    by_cases hl : l = []
    · subst hl
      simp only [nodesD, List.map_nil, Rep]
      exact .inl ⟨trivial, _, c, rfl, fun e => by cases e⟩
    · have hpos : 0 < l.length := by
        cases l with
        | nil => exact absurd rfl hl
        | cons x r => simp
      simp only [nodesD, Rep]
      refine .inr ⟨b, 0, c, by simp, by simpa using hpos, by simpa using hnc, ⟨k1, k2⟩, ?_⟩
      refine RepR.of (fun e he => by obtain ⟨x, _, rfl⟩ := List.mem_map.1 he; rfl) ?_
      have h6 : RepA (fun k => B ≤ k ∧ k < w.heap.size) [] w (arr.toList.take (nodesC l).length) (nodesC l) := repA_nodesC l _ g5
      refine RepC.of h6 fun j x hj => ?_
      rw [Nat.zero_add, cell_of_heap g1]
      have hlt := (List.getElem?_eq_some_iff.1 hj).1
      rw [List.getElem?_take_of_lt (by simp at hlt; omega)] at hj
      simpa using hj
/-- A text that gives a row of nodes that it has made. -/
theorem new_nodes {P : Program} {f : FuncId} {G : List D → Heap → Option (D × Heap)} {F : List D → Option D} (hG : HCallOk P f G)
    (h : ∀ ds d, F ds = some d → ∃ (l : List Nd) (ds' : List D) (d' : D) (H' : Heap) (e : TypeId), d = nodesD l ∧ ImpL ds ds' ∧ G ds' [] = some (d', H') ∧ Buf e 2 H' 0 d' l.length (nodesC l)) : CallNew P f F := by
  refine ⟨hG.body, fun ds d hF S vs w hS hv => ?_⟩
  obtain ⟨l, ds', d', H', e, rfl, hi, hg, hb⟩ := h ds d hF
  refine (hG.calls ds' [] d' H' hg w.heap.size S [] vs w (hrel_none S w hS) (hi.rep hv)).mono ?_
  rintro e w' ⟨v, S', L', rfl, h1, h2, h3⟩
  exact ⟨v, rfl, rep_row h2 hb h1, h3.below⟩
/-- A node is put behind others. -/
theorem app_node {t : TypeId} {H : Heap} {B : Nat} {d : D} {l : List Nd} (x : Nd) (h : Buf t 2 H B d l.length (nodesC l)) (hB : B ≤ H.length) (hl : l.length ≤ 1000000) :
    ∃ d' H', appendH t 2 d (.hs H.length 1) (H ++ [.cells t 2 [iD x.1, iD x.2]]) = some (d', H') ∧ Buf t 2 H' B d' (l.length + 1) (nodesC (l ++ [x])) ∧ Kp B H H' ∧ H.length ≤ H'.length ∧ (∀ k, k < H.length → (∀ q, d ≠ .hs k q) → H'[k]? = H[k]?) := by
  obtain ⟨d', H', h1, h2, h3, h4, h5⟩ := app_buf (new := [iD x.1, iD x.2]) (h.app [.cells t 2 [iD x.1, iD x.2]]) (by omega) (m := 1) rfl rfl (by rw [nodesC_len]; simp; omega) (by simp; omega)
  refine ⟨d', H', ?_, ?_, (Kp.app B H _ hB).trans h3, ?_, fun k hk hd => ?_⟩
  · unfold appendH
    have : srcH 2 (H ++ [.cells t 2 [iD x.1, iD x.2]]) (.hs H.length 1) = some [iD x.1, iD x.2] := by simp [srcH]
    rw [this]
    exact h1
  · rw [nodesC_app]
    exact h2
  · have := h3.1; simp at this; omega
  · rw [h4 k (by simp; omega) hd, List.getElem?_append_left hk]
/-- k rounds that keep an invariant of the slots and the objects, and a last one. -/
theorem loopF_invS {P : Program} {T : Tab} {kp : List Nat} {fn : Func} {li : Nat} (Inv : Nat → List D → Heap → Prop) (Q : Lv × List D × Heap → Prop) (k n : Nat)
    (hstep : ∀ j s H, j < k → Inv j s H → ∃ s' H', stepF P T kp n fn li s H = some (.normal, s', H') ∧ Inv (j + 1) s' H') (hend : ∀ s H, Inv k s H → ∃ r, stepF P T kp n fn li s H = some r ∧ r.1 ≠ .normal ∧ Q r) (hn : k < n) {s : List D} {H : Heap} (h : Inv 0 s H) :
    ∃ r, loopF P T kp n fn li s H = some r ∧ Q r := by
  have key : ∀ (m i : Nat) (s : List D) (H : Heap), i + m = k → Inv i s H → ∀ q, m < q → ∃ r, iterS (stepF P T kp n fn li) q s H = some r ∧ Q r := by
    intro m
    induction m with
    | zero =>
      intro i s H hi hI q hq
      obtain ⟨q, rfl⟩ : ∃ x, q = x + 1 := ⟨q - 1, by omega⟩
      obtain rfl : i = k := by omega
      obtain ⟨⟨lv, s', H'⟩, h1, h2, h3⟩ := hend s H hI
      refine ⟨_, ?_, h3⟩
      simp only [iterS, h1]
      cases lv with
      | normal => exact absurd rfl h2
      | _ => rfl
    | succ m ih =>
      intro i s H hi hI q hq
      obtain ⟨q, rfl⟩ : ∃ x, q = x + 1 := ⟨q - 1, by omega⟩
      obtain ⟨s', H', h1, h2⟩ := hstep i s H (by omega) hI
      rw [iterS_go h1]
      exact ih (i + 1) s' H' (by omega) h2 q (by omega)
  exact key k 0 s H (by omega) h n hn
theorem row_node (t : TypeId) (x : Nd) (H : Heap) : rowH t 2 1 [iD 0, iD 0] [(0, .agg (nodeD x))] H = some (.hs H.length 1, H ++ [.cells t 2 [iD x.1, iD x.2]]) := rfl
theorem alloc_node (t : TypeId) (H : Heap) : allocH t [iD 0, iD 0] H = some (.hp H.length 0, H ++ [.cells t 2 [iD 0, iD 0]]) := rfl
theorem set_node (H : Heap) (i : Nat) (t : TypeId) (a b : D) (x : Nd) (h : H[i]? = some (.cells t 2 [a, b])) : setH 2 (.hp i 0) (.agg (nodeD x)) H = some (.v undef, H.set i (.cells t 2 (nodeD x))) := by
  simp [setH, storeH, h, nodeD, cellsD]
theorem build_node (a b : Int) : buildR [(0, 1), (1, 1)] [iD 0, iD 0] [(0, iD a), (1, iD b)] = some (.agg (nodeD (a, b))) := rfl
theorem build_tag (a : Int) : buildR [(0, 1), (1, 1)] [iD 0, iD 0] [(0, iD a)] = some (.agg (nodeD (a, 0))) := rfl
section
variable {α β γ δ : Type} {A : Dec α} {B : Dec β} {C : Dec γ} {E : Dec δ}
theorem callN4 {P : Program} {f : FuncId} {G : List D → Heap → Option (D × Heap)} {g : α → β → γ → δ → Option (List Nd)} (hG : HCallOk P f G)
    (h : ∀ a b c e l, g a b c e = some l → ∃ d' H' t, G [A.enc a, B.enc b, C.enc c, E.enc e] [] = some (d', H') ∧ Buf t 2 H' 0 d' l.length (nodesC l)) : CallNew P f (F4 A B C E fun a b c e => (g a b c e).map nodesD) :=
  new_nodes hG fun ds d hF => by
    unfold F4 at hF
    split at hF
    · obtain ⟨a, ha, hF⟩ := Option.bind_eq_some_iff.1 hF
      obtain ⟨b, hb, hF⟩ := Option.bind_eq_some_iff.1 hF
      obtain ⟨c, hc, hF⟩ := Option.bind_eq_some_iff.1 hF
      obtain ⟨e, he, hF⟩ := Option.bind_eq_some_iff.1 hF
      obtain ⟨l, hl, rfl⟩ := Option.map_eq_some_iff.1 hF
      obtain ⟨d', H', t, h1, h2⟩ := h a b c e l hl
      exact ⟨l, _, d', H', t, rfl, .cons (A.ok _ _ ha) (.cons (B.ok _ _ hb) (.cons (C.ok _ _ hc) (.cons (E.ok _ _ he) .nil))), h1, h2⟩
    · cases hF
end
end Go.Proofs.Ytalehbmgbjiigaa
end

section
namespace Go.Proofs.Ytalehbmgbjiigaa
open Go.RowKit
theorem mixed : Try.prog.follows .mixedOrders = true := by kernel_rfl
end Go.Proofs.Ytalehbmgbjiigaa
end

section
namespace Go.Proofs.Ytalehbmgbjiigaa
open Go.RowKit
set_option linter.unusedVariables false
set_option linter.unusedSimpArgs false

theorem find_pure (l : List Nd) (p : List Int) (H : Heap) (hl : l.length ≤ 3000000) (hp : p.length ≤ 3000000) : liftF F_Find [nodesD l, intsD p] H = some (iD (findv l p), H) := by
  rw [liftF_pure _ _ _ rfl]; simp [F_Find, hl, hp]
theorem refFind_pure (l : List Nd) (p : List Int) (H : Heap) (hl : l.length ≤ 3000000) (hp : p.length ≤ 3000000) : liftF F_RefFind [nodesD l, intsD p] H = some (iD (findv l p), H) := by
  rw [liftF_pure _ _ _ rfl]; simp [F_RefFind, hl, hp]
theorem compare_pure (a b : List Int) (H : Heap) (ha : a.length ≤ 3000000) (hb : b.length ≤ 3000000) : liftF F_Compare [intsD a, intsD b] H = some (iD (cmpL a b), H) := by
  rw [liftF_pure _ _ _ rfl]; simp [F_Compare, ha, hb]
theorem refCompare_pure (a b : List Int) (H : Heap) (ha : a.length ≤ 3000000) (hb : b.length ≤ 3000000) : liftF F_RefCompare [intsD a, intsD b] H = some (iD (cmpL a b), H) := by
  rw [liftF_pure _ _ _ rfl]; simp [F_RefCompare, ha, hb]
theorem cmpI_pure (x y : Int) (H : Heap) : liftF F_cmpI [iD x, iD y] H = some (iD (cmpI x y), H) := by
  rw [liftF_pure _ _ _ rfl]; simp [F_cmpI, asInt]
theorem cloneI_pure (l : List Int) (H : Heap) (hl : l.length ≤ 3000000) : liftN F_CloneI [intsD l] H = some (intsD l, H) := by
  rw [liftN_pure _ _ _ rfl]; simp [F_CloneI, hl]

/-- The first one that is not 0. -/
def orV : List Int → Int
  | [] => 0
  | x :: r => if x ≠ 0 then x else orV r
theorem orV_skip : ∀ (l : List Int) (i : Nat), (∀ j, j < i → l.getD j 0 = 0) → orV l = orV (l.drop i)
  | l, 0, _ => by simp
  | [], i + 1, _ => by simp
  | x :: r, i + 1, h => by
    have h0 : x = 0 := by simpa using h 0 (by omega)
    rw [orV, if_neg (by omega), List.drop_succ_cons]
    exact orV_skip r i fun j hj => by simpa using h (j + 1) (by omega)
def F_cmpOr : List D → Option D := F1 intsT fun l => if l.length ≤ 1000000 then some (iD (orV l)) else none
theorem C_cmpOr : CallOk Try.prog 71 F_cmpOr := call1 (kp := kp_cmp_Or_int_) T12a_ok mixed Try.func71 (by kernel_rfl) (by decide) fun l d h => by
  split at h
  case isFalse => cases h
  rename_i hl
  cases h
  refine ⟨l.length + 1, _, ?_, Imp.refl _⟩
  show outD (textK _ _ _ _ _ [intsD l] []) = _
  rw [sh_cmp_Or_int_]
  have hs := loopF_scan (P := Try.prog) (T := T12a) (kp := kp_cmp_Or_int_) (fn := Try.f71) (li := 0) (fun i => [iD 0, iD 0, intsD l, iD l.length, iD i]) [] l.length (fun i => decide (l.getD i 0 = 0))
    (fun i => (.ret, [iD (l.getD i 0), iD 0, intsD l, iD l.length, iD i], [])) (.exit 0, [iD 0, iD 0, intsD l, iD l.length, iD l.length], [])
    (fun i => by intro e; cases e) (by intro e; cases e) 0 (l.length + 1) (Nat.zero_le _) (by omega)
    (fun i _ hi hp => by
      have e1 := intD_add (i : Int) 1 (by omega) (by omega)
      have h4 : (i : Int) < l.length := by omega
      simp only [decide_eq_true_eq, getD_in _ i 0 hi] at hp
      rw [st_cmp_Or_int__0]
      simp [h4, idx_intsN _ _ hi, hp, e1])
    (fun i _ hi hp => by
      have h4 : (i : Int) < l.length := by omega
      simp only [decide_eq_false_iff_not, getD_in _ i 0 hi] at hp
      rw [st_cmp_Or_int__0]
      simp [h4, idx_intsN _ _ hi, hp]
      simp [hi])
    (by rw [st_cmp_Or_int__0]; simp)
  rcases hs with ⟨q1, q2⟩ | ⟨i, q0, q1, q2, q3, q4⟩
  · have hv : orV l = 0 := by
      rw [orV_skip l l.length fun j hj => by simpa using q1 j (Nat.zero_le _) hj, List.drop_length]; rfl
    simp only [cast0] at q2
    simp [q2, hv]
  · have hv : orV l = l.getD i 0 := by
      rw [decide_eq_false_iff_not, getD_in _ i 0 q1] at q2
      rw [orV_skip l i fun j hj => by simpa using q3 j (Nat.zero_le _) hj, List.drop_eq_getElem_cons q1, orV, if_pos q2, getD_in _ i 0 q1]
    simp only [cast0] at q4
    simp [q4, hv]
def F_less : List D → Option D := F2 intT intT fun a b => some (iD (cmpI a b))
theorem C_less : CallOk Try.prog 68 F_less := call2 (kp := kp_offshootref12_less) T12a_ok mixed Try.func68 (by kernel_rfl) (by decide) fun a b d h => by
  cases h
  refine ⟨0, _, ?_, Imp.refl _⟩
  show outD (textK _ _ _ _ _ [iD a, iD b] []) = _
  rw [sh_offshootref12_less]
  unfold cmpI
  by_cases h1 : a < b
  · simp [h1]
  · by_cases h2 : b < a <;> simp [h1, h2]
def F_between : List D → Option D := F3 intT intT intT fun n lo hi => some (bD (decide (lo ≤ n ∧ n ≤ hi)))
theorem C_between : CallOk Try.prog 92 F_between := call3 (kp := kp_offshootref12_between) T12a_ok mixed Try.func92 (by kernel_rfl) (by decide) fun n lo hi d h => by
  cases h
  refine ⟨0, _, ?_, Imp.refl _⟩
  show outD (textK _ _ _ _ _ [iD n, iD lo, iD hi] []) = _
  rw [sh_offshootref12_between]
  by_cases h1 : lo ≤ n <;> simp [h1]
theorem between_pure (n lo hi : Int) (H : Heap) : liftF F_between [iD n, iD lo, iD hi] H = some (bD (decide (lo ≤ n ∧ n ≤ hi)), H) := by
  rw [liftF_pure _ _ _ rfl]
  have : F_between [iD n, iD lo, iD hi] = _ := f3_enc (A := intT) (B := intT) (C := intT) _ n lo hi
  rw [this]; rfl
theorem less_pure (a b : Int) (H : Heap) : liftF F_less [iD a, iD b] H = some (iD (cmpI a b), H) := by
  rw [liftF_pure _ _ _ rfl]
  have : F_less [iD a, iD b] = _ := f2_enc (A := intT) (B := intT) _ a b
  rw [this]; rfl

/- What stands at the node; a copy of nodes. -/
def F_chNode : List D → Option D := F1 chT fun c => if 0 ≤ c.k ∧ c.k.toNat < c.p.body.length then some (.agg (nodeD (nodeAt c.p.body c.k))) else none
theorem C_chNode : CallOk Try.prog 86 F_chNode := call1 (kp := kp_delta_change__node) T12a_ok mixed Try.func86 (by kernel_rfl) (by decide) fun c d h => by
  split at h
  case isFalse => cases h
  rename_i hk
  cases h
  refine ⟨0, _, ?_, Imp.refl _⟩
  show outD (textK _ _ _ _ _ [chD c] []) = _
  rw [sh_delta_change__node]
  have hi := idx_nodes c.p.body c.k hk.1 hk.2
  have hn : nodeAt c.p.body c.k = c.p.body[c.k.toNat] := by unfold nodeAt; exact getD_in _ _ _ hk.2
  have hs := set_node [.cells 62 5 [iD c.p.params, intsD c.p.vars, nodesD c.p.body, iD c.k, iD c.n], .cells 46 2 [iD 0, iD 0]] 1 46 (iD 0) (iD 0) c.p.body[c.k.toNat] rfl
  simp [alloc_node, hi, hn, hs]
  rfl
def G_CloneN (P : Program) : List D → Heap → Option (D × Heap) := textG P T12a kp_api_Node_ 0 90
theorem G_CloneN_eq (ds : List D) (H : Heap) : G_CloneN Try.prog ds H = textK Try.prog T12a kp_api_Node_ 0 Try.f90 ds H := textG_eq Try.func90 ds H
theorem C_CloneN : HCallOk Try.prog 90 (G_CloneN Try.prog) := hcall_G T12a_ok mixed Try.func90 (by kernel_rfl) (by decide)
theorem cloneN_ok (l : List Nd) (H : Heap) (h0 : 0 < l.length) (hl : l.length ≤ 1000000) : G_CloneN Try.prog [nodesD l] H = some (.hs (H.length + 1) l.length, H ++ [.dead, .cells 46 2 (nodesC l)]) := by
  rw [G_CloneN_eq, sh_api_Node_]
  have hn : binK .sl .eql (nodesD l) (.v (.slice none 0 0)) = some (bD false) := by
    cases l with
    | nil => simp at h0
    | cons x r => rfl
  have hr : rowH 46 2 0 [iD 0, iD 0] [] H = some (.hs H.length 0, H ++ [.cells 46 2 []]) := rfl
  have ha : appendH 46 2 (.hs H.length 0) (nodesD l) (H ++ [.cells 46 2 []]) = some (.hs (H.length + 1) l.length, H ++ [.dead, .cells 46 2 (nodesC l)]) := by
    unfold appendH appH
    rw [src_nodes, Option.bind_some, nodesC_ok]
    have hd : (nodesC l).length / 2 = l.length := by rw [nodesC_len]; omega
    have h2 : (nodesC l).length ≤ 4000000 := by rw [nodesC_len]; omega
    simp [hd, h2]
  simp [hn, hr, ha]

/- Nodes with others instead of those between two places. -/
def F_swap : List D → Option D := F4 nodesT intT intT nodesT fun l k to r => (if 0 ≤ k ∧ k ≤ to ∧ to ≤ l.length ∧ l.length ≤ 300000 ∧ r.length ≤ 300000 then some (swapV l k.toNat to.toNat r) else none).map nodesD
def G_swap (P : Program) : List D → Heap → Option (D × Heap) := textG P T12a kp_offshootref12_swap 1000000 93
theorem G_swap_eq (ds : List D) (H : Heap) : G_swap Try.prog ds H = textK Try.prog T12a kp_offshootref12_swap 1000000 Try.f93 ds H := textG_eq Try.func93 ds H
theorem C_swap : HCallOk Try.prog 93 (G_swap Try.prog) := hcall_G T12a_ok mixed Try.func93 (by kernel_rfl) (by decide)
theorem N_swap : CallNew Try.prog 93 F_swap := callN4 C_swap fun l k to r o h => by
  split at h
  case isFalse => cases h
  rename_i hc
  cases h
  obtain ⟨h0, h1, h2, h3, h4⟩ := hc
  obtain ⟨k, rfl⟩ := Int.eq_ofNat_of_zero_le h0
  obtain ⟨to, rfl⟩ := Int.eq_ofNat_of_zero_le (show 0 ≤ to by omega)
  simp only [Int.toNat_natCast]
  show ∃ d' H' t, G_swap Try.prog [nodesD l, iD k, iD to, nodesD r] [] = some (d', H') ∧ _
  rw [G_swap_eq, sh_offshootref12_swap]
  obtain ⟨_, e0, d0, H0, rfl, b0⟩ := loopF_invS (P := Try.prog) (T := T12a) (kp := kp_offshootref12_swap) (fn := Try.f93) (li := 0)
    (fun j s H => ∃ d, s = [nodesD l, iD k, iD to, nodesD r, d, iD j, .undef, .undef] ∧ Buf 46 2 H 0 d (l.take j).length (nodesC (l.take j)))
    (fun x => ∃ d H', x = (.exit 0, [nodesD l, iD k, iD to, nodesD r, d, iD k, .undef, .undef], H') ∧ Buf 46 2 H' 0 d (l.take k).length (nodesC (l.take k))) k 1000000
    (fun j s H hj hI => by
      obtain ⟨d, rfl, hb⟩ := hI
      have hjl : j < l.length := by omega
      obtain ⟨d', H', a1, a2, _⟩ := app_node l[j] hb (Nat.zero_le _) (by simp; omega)
      refine ⟨[nodesD l, iD k, iD to, nodesD r, d', iD ((j + 1 : Nat) : Int), .undef, .undef], H', ?_, d', rfl, ?_⟩
      · have e1 := intD_add (j : Int) 1 (by omega) (by omega)
        have h4 : (j : Int) < k := by omega
        rw [st_offshootref12_swap_0]
        simp [h4, idx_nodesN _ _ hjl, row_node, a1, e1]
      · rw [List.take_succ_eq_append_getElem hjl, List.length_append]
        exact a2)
    (fun s H hI => by
      obtain ⟨d, rfl, hb⟩ := hI
      refine ⟨(.exit 0, [nodesD l, iD k, iD to, nodesD r, d, iD k, .undef, .undef], H), ?_, (by intro e; cases e), d, H, rfl, hb⟩
      rw [st_offshootref12_swap_0]
      simp) (by omega) (s := [nodesD l, iD k, iD to, nodesD r, .v (.slice none 0 0), iD 0, .undef, .undef]) (H := []) ⟨_, rfl, by simpa [nodesC] using Buf.nil 46 2 [] 0⟩
  rw [e0]
  simp only [leaveK_exit, condN_same, List.getD_cons_zero, List.getD_cons_succ]
  obtain ⟨_, e1, d1, H1, rfl, b1⟩ := loopF_invS (P := Try.prog) (T := T12a) (kp := kp_offshootref12_swap) (fn := Try.f93) (li := 1)
    (fun j s H => ∃ d, s = [nodesD l, iD k, iD to, nodesD r, d, iD k, iD j, .undef] ∧ Buf 46 2 H 0 d (l.take k ++ r.take j).length (nodesC (l.take k ++ r.take j)))
    (fun x => ∃ d H', x = (.exit 2, [nodesD l, iD k, iD to, nodesD r, d, iD k, iD r.length, .undef], H') ∧ Buf 46 2 H' 0 d (l.take k ++ r).length (nodesC (l.take k ++ r))) r.length 1000000
    (fun j s H hj hI => by
      obtain ⟨d, rfl, hb⟩ := hI
      obtain ⟨d', H', a1, a2, _⟩ := app_node r[j] hb (Nat.zero_le _) (by simp; omega)
      refine ⟨[nodesD l, iD k, iD to, nodesD r, d', iD k, iD ((j + 1 : Nat) : Int), .undef], H', ?_, d', rfl, ?_⟩
      · have e1 := intD_add (j : Int) 1 (by omega) (by omega)
        have h4 : (j : Int) < r.length := by omega
        rw [st_offshootref12_swap_1]
        simp [h4, idx_nodesN _ _ hj, row_node, a1, e1]
      · rw [List.take_succ_eq_append_getElem hj, ← List.append_assoc, List.length_append]
        exact a2)
    (fun s H hI => by
      obtain ⟨d, rfl, hb⟩ := hI
      rw [List.take_length] at hb
      refine ⟨(.exit 2, [nodesD l, iD k, iD to, nodesD r, d, iD k, iD r.length, .undef], H), ?_, (by intro e; cases e), d, H, rfl, hb⟩
      rw [st_offshootref12_swap_1]
      simp) (by omega) (s := [nodesD l, iD k, iD to, nodesD r, d0, iD k, iD 0, .undef]) (H := H0) ⟨_, rfl, by simpa using b0⟩
  rw [e1]
  simp only [leaveK_exit, condN_same, List.getD_cons_zero, List.getD_cons_succ]
  obtain ⟨_, e2, d2, H2, rfl, b2⟩ := loopF_invS (P := Try.prog) (T := T12a) (kp := kp_offshootref12_swap) (fn := Try.f93) (li := 2)
    (fun j s H => ∃ d, s = [nodesD l, iD k, iD to, nodesD r, d, iD k, iD r.length, iD ((to + j : Nat) : Int)] ∧ Buf 46 2 H 0 d (l.take k ++ r ++ (l.drop to).take j).length (nodesC (l.take k ++ r ++ (l.drop to).take j)))
    (fun x => ∃ d H', x = (.exit 4, [nodesD l, iD k, iD to, nodesD r, d, iD k, iD r.length, iD l.length], H') ∧ Buf 46 2 H' 0 d (l.take k ++ r ++ l.drop to).length (nodesC (l.take k ++ r ++ l.drop to))) (l.length - to) 1000000
    (fun j s H hj hI => by
      obtain ⟨d, rfl, hb⟩ := hI
      have hjl : to + j < l.length := by omega
      have hjd : j < (l.drop to).length := by simp; omega
      obtain ⟨d', H', a1, a2, _⟩ := app_node l[to + j] hb (Nat.zero_le _) (by simp; omega)
      refine ⟨[nodesD l, iD k, iD to, nodesD r, d', iD k, iD r.length, iD ((to + (j + 1) : Nat) : Int)], H', ?_, d', rfl, ?_⟩
      · have e1 := intD_add ((to + j : Nat) : Int) 1 (by omega) (by omega)
        have h4 : ((to + j : Nat) : Int) < l.length := by omega
        have e2 : ((to + j : Nat) : Int) + 1 = ((to + (j + 1) : Nat) : Int) := by omega
        rw [st_offshootref12_swap_2]
        simp only [lenH_nodes, thn_some, binK_lss, condK_bool, h4, decide_true, if_true, idx_nodesN _ _ hjl, load_node, row_node, thnH_some, a1, binK_int, e1, e2]
      · rw [List.take_succ_eq_append_getElem hjd, ← List.append_assoc, List.length_append]
        have : (l.drop to)[j] = l[to + j] := by simp
        rw [this]
        exact a2)
    (fun s H hI => by
      obtain ⟨d, rfl, hb⟩ := hI
      have e : to + (l.length - to) = l.length := by omega
      rw [List.take_of_length_le (show (l.drop to).length ≤ l.length - to by simp)] at hb
      refine ⟨(.exit 4, [nodesD l, iD k, iD to, nodesD r, d, iD k, iD r.length, iD l.length], H), ?_, (by intro e; cases e), d, H, rfl, hb⟩
      rw [st_offshootref12_swap_2, e]
      simp) (by omega) (s := [nodesD l, iD k, iD to, nodesD r, d1, iD k, iD r.length, iD to]) (H := H1) ⟨_, rfl, by simpa using b1⟩
  rw [e2]
  simp only [leaveK_exit, condN_same, List.getD_cons_zero, List.getD_cons_succ]
  exact ⟨d2, H2, _, rfl, b2⟩
theorem swap_new (l : List Nd) (k to : Nat) (x : Nd) (H : Heap) (h1 : k ≤ to) (h2 : to ≤ l.length) (h3 : l.length ≤ 300000) (t : TypeId) :
    liftN F_swap [nodesD l, iD k, iD to, .hs H.length 1] (H ++ [.cells t 2 [iD x.1, iD x.2]]) = some (nodesD (swapV l k to [x]), H ++ [.cells t 2 [iD x.1, iD x.2]]) := by
  have hd : [nodesD l, iD k, iD to, D.hs H.length 1].mapM (derefN (H ++ [.cells t 2 [iD x.1, iD x.2]]) 9) = some [nodesD l, iD k, iD to, nodesD [x]] := by
    have := deref_row (H ++ [.cells t 2 [iD x.1, iD x.2]]) 8 t H.length [x] (by simp [nodesC, nodeD])
    simp only [List.mapM_cons, List.mapM_nil, derefN_pure _ 9 (nodesD l) rfl, derefN_pure _ 9 (iD k) rfl, derefN_pure _ 9 (iD to) rfl]
    rw [show (D.hs H.length 1) = .hs H.length [x].length from rfl, this]
    rfl
  rw [liftN_obj _ _ _ _ rfl hd]
  have : F_swap [nodesD l, iD k, iD to, nodesD [x]] = _ := f4_enc (A := nodesT) (B := intT) (C := intT) (E := nodesT) _ l (k : Int) (to : Int) [x]
  rw [this, if_pos ⟨by omega, by omega, by omega, h3, by simp⟩]
  rfl
def fs12b (P : Program) : List Entry := (71, true, liftF F_cmpOr) :: (68, true, liftF F_less) :: (92, true, liftF F_between) :: (86, true, liftF F_chNode) :: (90, false, G_CloneN P) :: (93, true, liftN F_swap) :: fs12a
theorem fs12b_ok : ∀ p ∈ fs12b Try.prog, EntryOk Try.prog p := entries_cons (entry_lift C_cmpOr) <| entries_cons (entry_lift C_less) <| entries_cons (entry_lift C_between) <| entries_cons (entry_lift C_chNode) <| entries_cons (entry_obj C_CloneN) <| entries_cons (entry_new N_swap) <| fs12a_ok
def T12b (P : Program) : Tab := ⟨fs12b P, noYl⟩
theorem T12b_ok : TabOk Try.prog (T12b Try.prog) := tabOk_of fs12b_ok
end Go.Proofs.Ytalehbmgbjiigaa
end

section
namespace Go.Proofs.Ytalehbmgbjiigaa
open Go.RowKit
set_option linter.unusedVariables false
set_option maxRecDepth 100000

def kp_delta_Compare : List Nat := []
theorem sh_delta_Compare (n : Nat) (x0 x1 : D) (h : Heap) : textK Try.prog (T12b Try.prog) kp_delta_Compare n Try.f30 [x0, x1] h =
(thnH (boxH 27 x0 h) fun y0 h1 =>
thnH (boxH 27 x1 h1) fun y2 h3 =>
thn (fieldAtH 0 y0) fun y4 =>
thn (loadH none h3 y4) fun y5 =>
thn (fieldAtH 0 y2) fun y6 =>
thn (loadH none h3 y6) fun y7 =>
thnH (liftF F_Compare [y5, y7] h3) fun y8 h9 =>
thn (fieldAtH 1 y0) fun y10 =>
thn (loadH none h9 y10) fun y11 =>
thn (fieldAtH 1 y2) fun y12 =>
thn (loadH none h9 y12) fun y13 =>
thnH (liftF F_cmpI [y11, y13] h9) fun y14 h15 =>
thn (fieldAtH 2 y0) fun y16 =>
thn (loadH none h15 y16) fun y17 =>
thn (fieldAtH 2 y2) fun y18 =>
thn (loadH none h15 y18) fun y19 =>
thnH (liftF F_cmpI [y17, y19] h15) fun y20 h21 =>
thnH (rowH 3 1 3 [(iD 0)] [(0, y8), (1, y14), (2, y20)] h21) fun y22 h23 =>
thnH (liftF F_cmpOr [y22] h23) fun y24 h25 =>
some (y24, h25)) := by kernel_rfl

def kp_offshootref12_Compare : List Nat := []
theorem sh_offshootref12_Compare (n : Nat) (x0 x1 : D) (h : Heap) : textK Try.prog (T12b Try.prog) kp_offshootref12_Compare n Try.f25 [x0, x1] h =
(thnH (boxH 27 x0 h) fun y0 h1 =>
thnH (boxH 27 x1 h1) fun y2 h3 =>
thn (fieldAtH 0 y0) fun y4 =>
thn (loadH none h3 y4) fun y5 =>
thn (fieldAtH 0 y2) fun y6 =>
thn (loadH none h3 y6) fun y7 =>
thnH (liftF F_RefCompare [y5, y7] h3) fun y8 h9 =>
thn (binK .int .neq y8 (iD 0)) fun y10 =>
condK y10
(some (y8, h9))
(thn (fieldAtH 1 y0) fun y11 =>
thn (loadH none h9 y11) fun y12 =>
thn (fieldAtH 1 y2) fun y13 =>
thn (loadH none h9 y13) fun y14 =>
thn (binK .int .neq y12 y14) fun y15 =>
condK y15
(thn (fieldAtH 1 y0) fun y16 =>
thn (loadH none h9 y16) fun y17 =>
thn (fieldAtH 1 y2) fun y18 =>
thn (loadH none h9 y18) fun y19 =>
thnH (liftF F_less [y17, y19] h9) fun y20 h21 =>
some (y20, h21))
(thn (fieldAtH 2 y0) fun y22 =>
thn (loadH none h9 y22) fun y23 =>
thn (fieldAtH 2 y2) fun y24 =>
thn (loadH none h9 y24) fun y25 =>
thnH (liftF F_less [y23, y25] h9) fun y26 h27 =>
some (y26, h27)))) := by kernel_rfl

def kp_delta_change__put : List Nat := []
theorem sh_delta_change__put (n : Nat) (x0 x1 : D) (h : Heap) : textK Try.prog (T12b Try.prog) kp_delta_change__put n Try.f87 [x0, x1] h =
(thnH (boxH 62 x0 h) fun y0 h1 =>
thnH (boxH 46 x1 h1) fun y2 h3 =>
thn (fieldAtH 0 y0) fun y4 =>
thn (fieldAtH 2 y4) fun y5 =>
thn (loadH none h3 y5) fun y6 =>
thnH ((G_CloneN Try.prog) [y6] h3) fun y7 h8 =>
thn (fieldAtH 3 y0) fun y9 =>
thn (loadH none h8 y9) fun y10 =>
thn (loadH (some 2) h8 y2) fun y11 =>
thn (idxH 2 y7 y10) fun y12 =>
thnH (setH 2 y12 y11 h8) fun y13 h14 =>
some (y7, h14)) := by kernel_rfl

def kp_delta_change__both : List Nat := []
theorem sh_delta_change__both (n : Nat) (x0 x1 x2 : D) (h : Heap) : textK Try.prog (T12b Try.prog) kp_delta_change__both n Try.f121 [x0, x1, x2] h =
(thnH (boxH 62 x0 h) fun y0 h1 =>
thn (loadH (some 5) h1 y0) fun y2 =>
thnH (liftF F_chNode [y2] h1) fun y3 h4 =>
thn (fieldD none 0 y3) fun y5 =>
thn (binK .int .geq y5 x1) fun y6 =>
condK y6
(thn (binK .int .leq y5 x2) fun y7 =>
condK y7
(thn (fieldAtH 4 y0) fun y8 =>
thn (loadH none h4 y8) fun y9 =>
thn (binK .int .geq y9 x1) fun y10 =>
condK y10
(thn (fieldAtH 4 y0) fun y11 =>
thn (loadH none h4 y11) fun y12 =>
thn (binK .int .leq y12 x2) fun y13 =>
some (y13, h4))
(some ((bD false), h4)))
(some ((bD false), h4)))
(some ((bD false), h4))) := by kernel_rfl

def kp_offshootref12_changed : List Nat := []
theorem sh_offshootref12_changed (n : Nat) (x0 x1 x2 : D) (h : Heap) : textK Try.prog (T12b Try.prog) kp_offshootref12_changed n Try.f51 [x0, x1, x2] h =
(thnH (boxH 27 x2 h) fun y0 h1 =>
thn (idxH 2 x0 x1) fun y2 =>
thn (loadH (some 2) h1 y2) fun y3 =>
thnH (allocH 46 [(iD 0), (iD 0)] h1) fun y4 h5 =>
thnH (setH 2 y4 y3 h5) fun y6 h7 =>
thn (fieldAtH 1 y0) fun y8 =>
thn (loadH none h7 y8) fun y9 =>
thn (binK .int .eql y9 (iD 1)) fun y10 =>
condK y10
(thn (binK .int .add x1 (iD 1)) fun y11 =>
thn (fieldAtH 2 y0) fun y12 =>
thn (loadH none h7 y12) fun y13 =>
thn (fieldAtH 1 y4) fun y14 =>
thn (loadH none h7 y14) fun y15 =>
thn (buildR [(0, 1), (1, 1)] [(iD 0), (iD 0)] [(0, y13), (1, y15)]) fun y16 =>
thnH (rowH 46 2 1 [(iD 0), (iD 0)] [(0, y16)] h7) fun y17 h18 =>
thnH (liftN F_swap [x0, x1, y11, y17] h18) fun y19 h20 =>
some (y19, h20))
(thn (binK .int .eql y9 (iD 2)) fun y21 =>
condK y21
(thn (binK .int .add x1 (iD 1)) fun y22 =>
thn (fieldAtH 2 y0) fun y23 =>
thn (loadH none h7 y23) fun y24 =>
thn (fieldAtH 1 y4) fun y25 =>
thn (loadH none h7 y25) fun y26 =>
thn (buildR [(0, 1), (1, 1)] [(iD 0), (iD 0)] [(0, y24), (1, y26)]) fun y27 =>
thnH (rowH 46 2 1 [(iD 0), (iD 0)] [(0, y27)] h7) fun y28 h29 =>
thnH (liftN F_swap [x0, x1, y22, y28] h29) fun y30 h31 =>
some (y30, h31))
(thn (binK .int .eql y9 (iD 3)) fun y32 =>
condK y32
(thn (binK .int .add x1 (iD 1)) fun y33 =>
thn (fieldAtH 2 y0) fun y34 =>
thn (loadH none h7 y34) fun y35 =>
thn (fieldAtH 1 y4) fun y36 =>
thn (loadH none h7 y36) fun y37 =>
thn (buildR [(0, 1), (1, 1)] [(iD 0), (iD 0)] [(0, y35), (1, y37)]) fun y38 =>
thnH (rowH 46 2 1 [(iD 0), (iD 0)] [(0, y38)] h7) fun y39 h40 =>
thnH (liftN F_swap [x0, x1, y33, y39] h40) fun y41 h42 =>
some (y41, h42))
(thn (binK .int .eql y9 (iD 4)) fun y43 =>
condK y43
(thn (binK .int .add x1 (iD 1)) fun y44 =>
thn (fieldAtH 0 y4) fun y45 =>
thn (loadH none h7 y45) fun y46 =>
thn (fieldAtH 2 y0) fun y47 =>
thn (loadH none h7 y47) fun y48 =>
thn (buildR [(0, 1), (1, 1)] [(iD 0), (iD 0)] [(0, y46), (1, y48)]) fun y49 =>
thnH (rowH 46 2 1 [(iD 0), (iD 0)] [(0, y49)] h7) fun y50 h51 =>
thnH (liftN F_swap [x0, x1, y44, y50] h51) fun y52 h53 =>
some (y52, h53))
(thn (binK .int .eql y9 (iD 5)) fun y54 =>
condK y54
(thnH (liftF F_RefEnd [x0, x1] h7) fun y55 h56 =>
thn (buildR [(0, 1), (1, 1)] [(iD 0), (iD 0)] [(0, (iD 26))]) fun y57 =>
thnH (rowH 46 2 1 [(iD 0), (iD 0)] [(0, y57)] h56) fun y58 h59 =>
thnH (liftN F_swap [x0, x1, y55, y58] h59) fun y60 h61 =>
some (y60, h61))
(thn (binK .int .eql y9 (iD 6)) fun y62 =>
condK y62
(thn (binK .int .add x1 (iD 1)) fun y63 =>
thn (binK .int .add x1 (iD 1)) fun y64 =>
thn (buildR [(0, 1), (1, 1)] [(iD 0), (iD 0)] [(0, (iD 6))]) fun y65 =>
thnH (rowH 46 2 1 [(iD 0), (iD 0)] [(0, y65)] h7) fun y66 h67 =>
thnH (liftN F_swap [x0, y63, y64, y66] h67) fun y68 h69 =>
some (y68, h69))
(thn (binK .int .add x1 (iD 1)) fun y70 =>
thn (binK .int .add x1 (iD 1)) fun y71 =>
thnH (liftF F_RefEnd [x0, y71] h7) fun y72 h73 =>
thn (fieldAtH 2 y0) fun y74 =>
thn (loadH none h73 y74) fun y75 =>
thn (buildR [(0, 1), (1, 1)] [(iD 0), (iD 0)] [(0, (iD 1)), (1, y75)]) fun y76 =>
thnH (rowH 46 2 1 [(iD 0), (iD 0)] [(0, y76)] h73) fun y77 h78 =>
thnH (liftN F_swap [x0, y70, y72, y77] h78) fun y79 h80 =>
some (y79, h80)))))))) := by kernel_rfl

def kp_offshootref12_may : List Nat := []
theorem sh_offshootref12_may (n : Nat) (x0 x1 x2 : D) (h : Heap) : textK Try.prog (T12b Try.prog) kp_offshootref12_may n Try.f50 [x0, x1, x2] h =
(thnH (boxH 46 x0 h) fun y0 h1 =>
thn (fieldAtH 0 y0) fun y2 =>
thn (loadH none h1 y2) fun y3 =>
thn (binK .int .eql y3 (iD 21)) fun y4 =>
condK y4
(thn (binK .int .eql x1 (iD 1)) fun y5 =>
condK y5
(thnH (liftF F_between [y3, (iD 7), (iD 11)] h1) fun y6 h7 =>
condK y6
(thnH (liftF F_between [x2, (iD 7), (iD 11)] h7) fun y8 h9 =>
some (y8, h9))
(some ((bD false), h7)))
(thn (binK .int .eql x1 (iD 2)) fun y10 =>
condK y10
(thnH (liftF F_between [y3, (iD 12), (iD 17)] h1) fun y11 h12 =>
condK y11
(thnH (liftF F_between [x2, (iD 12), (iD 17)] h12) fun y13 h14 =>
some (y13, h14))
(some ((bD false), h12)))
(thn (binK .int .eql x1 (iD 3)) fun y15 =>
condK y15
(thnH (liftF F_between [y3, (iD 18), (iD 19)] h1) fun y16 h17 =>
condK y16
(thnH (liftF F_between [x2, (iD 18), (iD 19)] h17) fun y18 h19 =>
some (y18, h19))
(some ((bD false), h17)))
(thn (binK .int .eql x1 (iD 4)) fun y20 =>
condK y20
(thn (binK .int .eql y3 (iD 1)) fun y21 =>
condK y21
(some ((bD true), h1))
(thn (binK .int .eql y3 (iD 2)) fun y22 =>
condK y22
(thnH (liftF F_between [x2, (iD 0), (iD 1)] h1) fun y23 h24 =>
some (y23, h24))
(some ((bD false), h1))))
(thn (binK .int .eql x1 (iD 5)) fun y25 =>
condK y25
(thn (binK .int .eql x2 (iD 0)) fun y26 =>
some (y26, h1))
(thn (binK .int .eql x1 (iD 6)) fun y27 =>
condK y27
(thn (binK .int .eql y3 (iD 23)) fun y28 =>
condK y28
(thn (binK .int .eql x2 (iD 0)) fun y29 =>
some (y29, h1))
(thn (binK .int .eql y3 (iD 24)) fun y30 =>
condK y30
(thn (binK .int .eql x2 (iD 0)) fun y31 =>
some (y31, h1))
(some ((bD false), h1))))
(thn (binK .int .eql x1 (iD 7)) fun y32 =>
condK y32
(thn (binK .int .eql y3 (iD 25)) fun y33 =>
some (y33, h1))
(some ((bD false), h1)))))))))
(thn (binK .int .eql y3 (iD 22)) fun y34 =>
condK y34
(thn (binK .int .eql x1 (iD 1)) fun y35 =>
condK y35
(thnH (liftF F_between [y3, (iD 7), (iD 11)] h1) fun y36 h37 =>
condK y36
(thnH (liftF F_between [x2, (iD 7), (iD 11)] h37) fun y38 h39 =>
some (y38, h39))
(some ((bD false), h37)))
(thn (binK .int .eql x1 (iD 2)) fun y40 =>
condK y40
(thnH (liftF F_between [y3, (iD 12), (iD 17)] h1) fun y41 h42 =>
condK y41
(thnH (liftF F_between [x2, (iD 12), (iD 17)] h42) fun y43 h44 =>
some (y43, h44))
(some ((bD false), h42)))
(thn (binK .int .eql x1 (iD 3)) fun y45 =>
condK y45
(thnH (liftF F_between [y3, (iD 18), (iD 19)] h1) fun y46 h47 =>
condK y46
(thnH (liftF F_between [x2, (iD 18), (iD 19)] h47) fun y48 h49 =>
some (y48, h49))
(some ((bD false), h47)))
(thn (binK .int .eql x1 (iD 4)) fun y50 =>
condK y50
(thn (binK .int .eql y3 (iD 1)) fun y51 =>
condK y51
(some ((bD true), h1))
(thn (binK .int .eql y3 (iD 2)) fun y52 =>
condK y52
(thnH (liftF F_between [x2, (iD 0), (iD 1)] h1) fun y53 h54 =>
some (y53, h54))
(some ((bD false), h1))))
(thn (binK .int .eql x1 (iD 5)) fun y55 =>
condK y55
(thn (binK .int .eql x2 (iD 0)) fun y56 =>
some (y56, h1))
(thn (binK .int .eql x1 (iD 6)) fun y57 =>
condK y57
(thn (binK .int .eql y3 (iD 23)) fun y58 =>
condK y58
(thn (binK .int .eql x2 (iD 0)) fun y59 =>
some (y59, h1))
(thn (binK .int .eql y3 (iD 24)) fun y60 =>
condK y60
(thn (binK .int .eql x2 (iD 0)) fun y61 =>
some (y61, h1))
(some ((bD false), h1))))
(thn (binK .int .eql x1 (iD 7)) fun y62 =>
condK y62
(thn (binK .int .eql y3 (iD 25)) fun y63 =>
some (y63, h1))
(some ((bD false), h1)))))))))
(thn (binK .int .eql y3 (iD 23)) fun y64 =>
condK y64
(thn (binK .int .eql x1 (iD 1)) fun y65 =>
condK y65
(thnH (liftF F_between [y3, (iD 7), (iD 11)] h1) fun y66 h67 =>
condK y66
(thnH (liftF F_between [x2, (iD 7), (iD 11)] h67) fun y68 h69 =>
some (y68, h69))
(some ((bD false), h67)))
(thn (binK .int .eql x1 (iD 2)) fun y70 =>
condK y70
(thnH (liftF F_between [y3, (iD 12), (iD 17)] h1) fun y71 h72 =>
condK y71
(thnH (liftF F_between [x2, (iD 12), (iD 17)] h72) fun y73 h74 =>
some (y73, h74))
(some ((bD false), h72)))
(thn (binK .int .eql x1 (iD 3)) fun y75 =>
condK y75
(thnH (liftF F_between [y3, (iD 18), (iD 19)] h1) fun y76 h77 =>
condK y76
(thnH (liftF F_between [x2, (iD 18), (iD 19)] h77) fun y78 h79 =>
some (y78, h79))
(some ((bD false), h77)))
(thn (binK .int .eql x1 (iD 4)) fun y80 =>
condK y80
(thn (binK .int .eql y3 (iD 1)) fun y81 =>
condK y81
(some ((bD true), h1))
(thn (binK .int .eql y3 (iD 2)) fun y82 =>
condK y82
(thnH (liftF F_between [x2, (iD 0), (iD 1)] h1) fun y83 h84 =>
some (y83, h84))
(some ((bD false), h1))))
(thn (binK .int .eql x1 (iD 5)) fun y85 =>
condK y85
(thn (binK .int .eql x2 (iD 0)) fun y86 =>
some (y86, h1))
(thn (binK .int .eql x1 (iD 6)) fun y87 =>
condK y87
(thn (binK .int .eql y3 (iD 23)) fun y88 =>
condK y88
(thn (binK .int .eql x2 (iD 0)) fun y89 =>
some (y89, h1))
(thn (binK .int .eql y3 (iD 24)) fun y90 =>
condK y90
(thn (binK .int .eql x2 (iD 0)) fun y91 =>
some (y91, h1))
(some ((bD false), h1))))
(thn (binK .int .eql x1 (iD 7)) fun y92 =>
condK y92
(thn (binK .int .eql y3 (iD 25)) fun y93 =>
some (y93, h1))
(some ((bD false), h1)))))))))
(thn (binK .int .eql y3 (iD 24)) fun y94 =>
condK y94
(thn (binK .int .eql x1 (iD 1)) fun y95 =>
condK y95
(thnH (liftF F_between [y3, (iD 7), (iD 11)] h1) fun y96 h97 =>
condK y96
(thnH (liftF F_between [x2, (iD 7), (iD 11)] h97) fun y98 h99 =>
some (y98, h99))
(some ((bD false), h97)))
(thn (binK .int .eql x1 (iD 2)) fun y100 =>
condK y100
(thnH (liftF F_between [y3, (iD 12), (iD 17)] h1) fun y101 h102 =>
condK y101
(thnH (liftF F_between [x2, (iD 12), (iD 17)] h102) fun y103 h104 =>
some (y103, h104))
(some ((bD false), h102)))
(thn (binK .int .eql x1 (iD 3)) fun y105 =>
condK y105
(thnH (liftF F_between [y3, (iD 18), (iD 19)] h1) fun y106 h107 =>
condK y106
(thnH (liftF F_between [x2, (iD 18), (iD 19)] h107) fun y108 h109 =>
some (y108, h109))
(some ((bD false), h107)))
(thn (binK .int .eql x1 (iD 4)) fun y110 =>
condK y110
(thn (binK .int .eql y3 (iD 1)) fun y111 =>
condK y111
(some ((bD true), h1))
(thn (binK .int .eql y3 (iD 2)) fun y112 =>
condK y112
(thnH (liftF F_between [x2, (iD 0), (iD 1)] h1) fun y113 h114 =>
some (y113, h114))
(some ((bD false), h1))))
(thn (binK .int .eql x1 (iD 5)) fun y115 =>
condK y115
(thn (binK .int .eql x2 (iD 0)) fun y116 =>
some (y116, h1))
(thn (binK .int .eql x1 (iD 6)) fun y117 =>
condK y117
(thn (binK .int .eql y3 (iD 23)) fun y118 =>
condK y118
(thn (binK .int .eql x2 (iD 0)) fun y119 =>
some (y119, h1))
(thn (binK .int .eql y3 (iD 24)) fun y120 =>
condK y120
(thn (binK .int .eql x2 (iD 0)) fun y121 =>
some (y121, h1))
(some ((bD false), h1))))
(thn (binK .int .eql x1 (iD 7)) fun y122 =>
condK y122
(thn (binK .int .eql y3 (iD 25)) fun y123 =>
some (y123, h1))
(some ((bD false), h1)))))))))
(thn (binK .int .eql y3 (iD 25)) fun y124 =>
thn (binK .int .eql x1 (iD 1)) fun y125 =>
condK y125
(thnH (liftF F_between [y3, (iD 7), (iD 11)] h1) fun y126 h127 =>
condK y126
(thnH (liftF F_between [x2, (iD 7), (iD 11)] h127) fun y128 h129 =>
some (y128, h129))
(some ((bD false), h127)))
(thn (binK .int .eql x1 (iD 2)) fun y130 =>
condK y130
(thnH (liftF F_between [y3, (iD 12), (iD 17)] h1) fun y131 h132 =>
condK y131
(thnH (liftF F_between [x2, (iD 12), (iD 17)] h132) fun y133 h134 =>
some (y133, h134))
(some ((bD false), h132)))
(thn (binK .int .eql x1 (iD 3)) fun y135 =>
condK y135
(thnH (liftF F_between [y3, (iD 18), (iD 19)] h1) fun y136 h137 =>
condK y136
(thnH (liftF F_between [x2, (iD 18), (iD 19)] h137) fun y138 h139 =>
some (y138, h139))
(some ((bD false), h137)))
(thn (binK .int .eql x1 (iD 4)) fun y140 =>
condK y140
(thn (binK .int .eql y3 (iD 1)) fun y141 =>
condK y141
(some ((bD true), h1))
(thn (binK .int .eql y3 (iD 2)) fun y142 =>
condK y142
(thnH (liftF F_between [x2, (iD 0), (iD 1)] h1) fun y143 h144 =>
some (y143, h144))
(some ((bD false), h1))))
(thn (binK .int .eql x1 (iD 5)) fun y145 =>
condK y145
(condK y124
(thn (binK .int .eql x2 (iD 0)) fun y146 =>
some (y146, h1))
(some ((bD false), h1)))
(thn (binK .int .eql x1 (iD 6)) fun y147 =>
condK y147
(thn (binK .int .eql y3 (iD 23)) fun y148 =>
condK y148
(thn (binK .int .eql x2 (iD 0)) fun y149 =>
some (y149, h1))
(thn (binK .int .eql y3 (iD 24)) fun y150 =>
condK y150
(thn (binK .int .eql x2 (iD 0)) fun y151 =>
some (y151, h1))
(some ((bD false), h1))))
(thn (binK .int .eql x1 (iD 7)) fun y152 =>
condK y152
(thn (binK .int .eql y3 (iD 25)) fun y153 =>
some (y153, h1))
(some ((bD false), h1))))))))))))) := by kernel_rfl

end Go.Proofs.Ytalehbmgbjiigaa
end

section
namespace Go.Proofs.Ytalehbmgbjiigaa
open Go.RowKit
set_option linter.unusedVariables false
set_option linter.unusedSimpArgs false

theorem cmpI_zero (x y : Int) : cmpI x y = 0 ↔ x = y := by
  unfold cmpI
  split
  · omega
  · split <;> omega
theorem cmpI_swap (x y : Int) : cmpI y x = - cmpI x y := by
  unfold cmpI
  rcases Int.lt_trichotomy x y with h | h | h
  · rw [if_pos h, if_neg (by omega), if_pos h]; rfl
  · rw [if_neg (by omega), if_neg (by omega), if_neg (by omega), if_neg (by omega)]; rfl
  · rw [if_pos h, if_neg (by omega), if_pos h]
theorem cmpI_bd (x y : Int) : -1 ≤ cmpI x y ∧ cmpI x y ≤ 1 := by
  unfold cmpI
  split
  · omega
  · split <;> omega
theorem cmpI_lt (x y : Int) : cmpI x y < 0 ↔ x < y := by
  unfold cmpI
  split
  · omega
  · split <;> omega
theorem cmpI_gt (x y : Int) : 0 < cmpI x y ↔ y < x := by
  unfold cmpI
  split
  · omega
  · split <;> omega
/-- How two deltas stand. -/
def cmpDl (a b : Dl) : Int := if cmpL a.path b.path ≠ 0 then cmpL a.path b.path else if cmpI a.op b.op ≠ 0 then cmpI a.op b.op else cmpI a.n b.n
theorem cmpDl_zero (a b : Dl) : cmpDl a b = 0 ↔ a = b := by
  unfold cmpDl
  have h1 := cmpL_zero a.path b.path
  have h2 := cmpI_zero a.op b.op
  have h3 := cmpI_zero a.n b.n
  obtain ⟨p, o, n⟩ := a
  obtain ⟨q, u, m⟩ := b
  simp only [Dl.mk.injEq] at *
  split
  · rename_i h; exact ⟨fun e => absurd e h, fun e => absurd (h1.2 e.1) h⟩
  · rename_i h
    have h := Classical.not_not.1 h
    split
    · rename_i h'; exact ⟨fun e => absurd e h', fun e => absurd (h2.2 e.2.1) h'⟩
    · rename_i h'
      have h' := Classical.not_not.1 h'
      exact ⟨fun e => ⟨h1.1 h, h2.1 h', h3.1 e⟩, fun e => h3.2 e.2.2⟩
theorem cmpDl_swap (a b : Dl) : cmpDl b a = - cmpDl a b := by
  unfold cmpDl
  rw [cmpL_swap a.path b.path, cmpI_swap a.op b.op, cmpI_swap a.n b.n]
  generalize cmpL a.path b.path = x
  generalize cmpI a.op b.op = y
  generalize cmpI a.n b.n = z
  by_cases h : x = 0
  · subst h
    by_cases h' : y = 0
    · subst h'; simp
    · simp [h']
  · simp [h]
theorem cmpDl_bd (a b : Dl) : -1 ≤ cmpDl a b ∧ cmpDl a b ≤ 1 := by
  unfold cmpDl
  split
  · exact cmpL_bd _ _
  · split <;> exact cmpI_bd _ _
theorem cmpDl_trans (a b c : Dl) (h1 : cmpDl a b ≤ 0) (h2 : cmpDl b c ≤ 0) : cmpDl a c ≤ 0 := by
  have t1 := cmpL_trans a.path b.path c.path
  have t2 := cmpL_trans c.path a.path b.path
  have t3 := cmpL_trans b.path c.path a.path
  have s1 := cmpL_swap a.path b.path
  have s2 := cmpL_swap b.path c.path
  have s3 := cmpL_swap a.path c.path
  have z1 := cmpL_zero a.path b.path
  have z2 := cmpL_zero b.path c.path
  have z3 := cmpL_zero a.path c.path
  have i1 := cmpI_lt a.op b.op
  have i2 := cmpI_lt b.op c.op
  have i3 := cmpI_lt a.op c.op
  have j1 := cmpI_gt a.op b.op
  have j2 := cmpI_gt b.op c.op
  have j3 := cmpI_gt a.op c.op
  have k1 := cmpI_lt a.n b.n
  have k2 := cmpI_lt b.n c.n
  have k3 := cmpI_gt a.n c.n
  have k4 := cmpI_gt a.n b.n
  have k5 := cmpI_gt b.n c.n
  unfold cmpDl at *
  by_cases e3 : cmpL a.path c.path = 0
  · rw [if_neg (by omega)]
    have e := z3.1 e3
    rw [e] at h1 t2 s1
    rw [← e] at h2
    by_cases e1 : cmpL a.path b.path = 0
    · have e2 : cmpL b.path c.path = 0 := by rw [z2, ← z1.1 e1]; exact e
      rw [← e, if_neg (by omega)] at h1
      rw [e, if_neg (by omega)] at h2
      split at h1 <;> split at h2 <;> split <;> omega
    · exfalso
      rw [← e, if_pos e1] at h1
      have : cmpL b.path a.path ≠ 0 := by rw [e]; intro h; apply e1; rw [z1, e]; exact (z2.1 h).symm
      rw [if_pos this] at h2
      rw [e] at this h1 h2
      omega
  · rw [if_pos e3]
    apply t1
    · split at h1 <;> omega
    · split at h2 <;> omega
theorem cmpDl_lt_trans (a b c : Dl) (h1 : cmpDl a b < 0) (h2 : cmpDl b c < 0) : cmpDl a c < 0 := by
  have h := cmpDl_trans a b c (by omega) (by omega)
  rcases Int.lt_or_eq_of_le h with h | h
  · exact h
  · rw [cmpDl_zero] at h
    subst h
    rw [cmpDl_swap] at h2
    omega
theorem cmpDl_path {a b : Dl} (h : cmpL a.path b.path < 0) : cmpDl a b < 0 := by
  unfold cmpDl
  rw [if_pos (by omega)]
  exact h
end Go.Proofs.Ytalehbmgbjiigaa
end

section
namespace Go.Proofs.Ytalehbmgbjiigaa

/-- The numbers from a on, ahead of b. -/
def seg (a b : Int) : List Int := (List.range (b - a).toNat).map (fun j : Nat => a + (j : Int))
theorem seg_self (a : Int) : seg a a = [] := by simp [seg]
theorem mem_seg (a b x : Int) : x ∈ seg a b ↔ a ≤ x ∧ x < b := by
  simp only [seg, List.mem_map, List.mem_range]
  constructor
  · rintro ⟨j, hj, rfl⟩; omega
  · rintro ⟨h1, h2⟩; exact ⟨(x - a).toNat, by omega, by omega⟩
theorem seg_append (a b c : Int) (h1 : a ≤ b) (h2 : b ≤ c) : seg a b ++ seg b c = seg a c := by
  unfold seg
  rw [show (c - a).toNat = (b - a).toNat + (c - b).toNat from by omega, List.range_add, List.map_append, List.map_map]
  congr 1
  apply List.map_congr_left
  intro j _
  simp only [Function.comp]
  omega
theorem seg_cons (a b : Int) (h : a < b) : a :: seg (a + 1) b = seg a b := by
  rw [← seg_append a (a + 1) b (by omega) (by omega)]
  have : seg a (a + 1) = [a] := by
    unfold seg
    rw [show (a + 1 - a).toNat = 1 from by omega]
    simp
  rw [this]; rfl
theorem seg_sorted (a b : Int) : (seg a b).Pairwise (· < ·) := by
  unfold seg
  rw [List.pairwise_map]
  exact (List.pairwise_lt_range).imp (fun h => by omega)

theorem kidsv_get (l : List Nd) (k : Nat) (h : 0 ≤ endv l k) (c : Nat) (hc : c < (kidsv l k).length) : (kidsv l k)[c] = kth l (k + 1) c ∧ c < (arAt l k).toNat := by
  have e := kidsv_eq l k h
  have hl : (kidsv l k).length = (arAt l k).toNat := by rw [e, upto_length]
  refine ⟨?_, by omega⟩
  have : (kidsv l k)[c] = (upto (kth l (k + 1)) (arAt l k).toNat)[c]'(by rw [upto_length]; omega) := by
    congr 1
  rw [this]
  simp [upto]
theorem kidsv_length (l : List Nd) (k : Nat) (h : 0 ≤ endv l k) : (kidsv l k).length = (arAt l k).toNat := by rw [kidsv_eq l k h, upto_length]

/-- The nodes come in order. -/
theorem pathsV_places (l : List Nd) : ∀ (f : Nat) (i : Int) (own : List Int), 0 ≤ endv l i → (l.length : Int) < i + f → (pathsV f l i own).map (·.1) = seg i (endv l i)
  | 0, i, own, h, hf => by
    obtain ⟨h0, h1⟩ := endv_in l i h
    omega
  | f + 1, i, own, h, hf => by
    obtain ⟨h0, h1⟩ := endv_in l i h
    obtain ⟨k, rfl⟩ := Int.eq_ofNat_of_zero_le h0
    have key : ∀ c, c ≤ (kidsv l k).length → (pathsTo f l k own c).map (·.1) = seg (k + 1) (kth l (k + 1) c) := by
      intro c
      induction c with
      | zero => intro _; rw [pathsTo_zero]; show [] = seg _ (k + 1); rw [seg_self]
      | succ c ih =>
        intro hc
        have hc' : c < (kidsv l k).length := by omega
        obtain ⟨e, hca⟩ := kidsv_get l k h c hc'
        have hr := kth_range l k h c hca
        have he := kth_end l k h c hca
        rw [pathsTo_succ f l k own c hc', List.map_append, ih (by omega), e, pathsV_places l f _ _ hr.2.2.1 (by omega), he.2]
        exact seg_append _ _ _ (by have := kth_mono l k h 0 c (by omega); have h3 : kth l (k + 1) 0 = k + 1 := rfl; rw [Nat.zero_add] at this; omega) (by omega)
    rw [← pathsTo_all, List.map_cons, key _ (Nat.le_refl _), kidsv_length l k h, kth_last l k h]
    exact seg_cons _ _ (by have := endv_gt l k h; omega)

/-- Each path leads to its node. -/
theorem pathsV_down (l : List Nd) : ∀ (f : Nat) (i : Int) (own : List Int) (x : Int × List Int), x ∈ pathsV f l i own → ∃ q, x.2 = own ++ q ∧ downV l i q = x.1
  | 0, i, own, x, h => by
    obtain rfl : x = (i, own) := by simpa [pathsV] using h
    exact ⟨[], by simp, rfl⟩
  | f + 1, i, own, x, h => by
    rw [pathsV, List.mem_cons] at h
    rcases h with rfl | h
    · exact ⟨[], by simp, rfl⟩
    · obtain ⟨⟨y, c⟩, hy, hx⟩ := List.mem_flatMap.1 h
      rw [List.mem_zipIdx_iff_getElem?] at hy
      obtain ⟨hc, hyc⟩ := List.getElem?_eq_some_iff.1 hy
      obtain ⟨q, hq, hd⟩ := pathsV_down l f _ _ _ hx
      refine ⟨(c : Int) :: q, by rw [hq]; simp, ?_⟩
      rw [downV_in l i c q c rfl hc]
      simp only at hyc hd
      rw [hyc]; exact hd

/-- Where a path leads is one of the nodes. -/
theorem down_pathsV (l : List Nd) : ∀ (f : Nat) (q : List Int) (i : Int) (own : List Int), (l.length : Int) < i + f → 0 ≤ i → 0 ≤ downV l i q → (downV l i q, own ++ q) ∈ pathsV f l i own
  | f, [], i, own, _, _, _ => by
    rw [List.append_nil]
    show (i, own) ∈ _
    cases f with
    | zero => simp [pathsV]
    | succ f => rw [pathsV]; exact List.mem_cons_self ..
  | 0, n :: r, i, own, hf, hi, hd => by
    exfalso
    have : kidsv l i = [] := kidsv_no l i (by rcases endv_bound l i with h1 | h1; · omega
                                              · have := (endv_in l i h1).2; omega)
    rw [downV_out l i n r (by rw [this]; simp)] at hd
    omega
  | f + 1, n :: r, i, own, hf, hi, hd => by
    by_cases h : 0 ≤ n ∧ n.toNat < (kidsv l i).length
    · obtain ⟨j, rfl⟩ := Int.eq_ofNat_of_zero_le h.1
      have hj : j < (kidsv l i).length := by simpa using h.2
      have hk := kidsv_fact l i j hj
      rw [downV_in l i j r j rfl hj] at hd ⊢
      rw [pathsV, List.mem_cons]
      right
      refine List.mem_flatMap.2 ⟨((kidsv l i)[j], j), ?_, ?_⟩
      · rw [List.mem_zipIdx_iff_getElem?]; simp [hj]
      · have := down_pathsV l f r (kidsv l i)[j] (own ++ [(j : Int)]) (by omega) (by omega) hd
        rw [List.append_assoc] at this
        exact this
    · rw [downV_out l i n r h] at hd; omega

theorem downV_append (l : List Nd) : ∀ (p q : List Int) (i : Int), 0 ≤ i → 0 ≤ downV l i p → downV l i (p ++ q) = downV l (downV l i p) q
  | [], q, i, _, _ => rfl
  | n :: r, q, i, hi, hd => by
    by_cases h : 0 ≤ n ∧ n.toNat < (kidsv l i).length
    · obtain ⟨j, rfl⟩ := Int.eq_ofNat_of_zero_le h.1
      have hj : j < (kidsv l i).length := by simpa using h.2
      have hk := kidsv_fact l i j hj
      rw [List.cons_append, downV_in l i j _ j rfl hj] 
      rw [downV_in l i j _ j rfl hj] at hd ⊢
      exact downV_append l r q _ (by omega) hd
    · rw [downV_out l i n r h] at hd; omega
/-- Where a path leads from a node is below it. -/
theorem downV_range (l : List Nd) : ∀ (q : List Int) (i : Int), 0 ≤ endv l i → 0 ≤ downV l i q → i ≤ downV l i q ∧ downV l i q < endv l i ∧ 0 ≤ endv l (downV l i q)
  | [], i, h, _ => ⟨Int.le_refl _, endv_gt l i h, h⟩
  | n :: r, i, h, hd => by
    by_cases hn : 0 ≤ n ∧ n.toNat < (kidsv l i).length
    · obtain ⟨j, rfl⟩ := Int.eq_ofNat_of_zero_le hn.1
      have hj : j < (kidsv l i).length := by simpa using hn.2
      obtain ⟨h0, _⟩ := endv_in l i h
      obtain ⟨k, rfl⟩ := Int.eq_ofNat_of_zero_le h0
      obtain ⟨e, hja⟩ := kidsv_get l k h j hj
      have hr := kth_range l k h j hja
      rw [downV_in l k j r j rfl hj] at hd ⊢
      rw [e] at hd ⊢
      have := downV_range l r _ hr.2.2.1 hd
      omega
    · rw [downV_out l i n r hn] at hd; omega

theorem find_unique {L : List (Int × List Int)} (hL : (L.map (·.1)).Pairwise (· < ·)) {i : Int} {p : List Int} (h : (i, p) ∈ L) : L.find? (fun x => x.1 == i) = some (i, p) := by
  induction L with
  | nil => cases h
  | cons x r ih =>
    rw [List.map_cons, List.pairwise_cons] at hL
    rcases List.mem_cons.1 h with rfl | h
    · simp
    · have := hL.1 i (List.mem_map.2 ⟨_, h, rfl⟩)
      have hne : (x.1 == i) = false := by simp; omega
      rw [List.find?_cons, hne]
      exact ih hL.2 h

section whole
variable {l : List Nd} (hw : endv l 0 = l.length)
include hw
theorem ofv_iff (i : Int) (p : List Int) : ofv l i = some p ↔ (i, p) ∈ pathsV (l.length + 1) l 0 [] := by
  have hp := pathsV_places l (l.length + 1) 0 [] (by omega) (by omega)
  have hs : ((pathsV (l.length + 1) l 0 []).map (·.1)).Pairwise (· < ·) := by rw [hp]; exact seg_sorted _ _
  rw [ofv, if_pos hw]
  constructor
  · intro h
    obtain ⟨x, hx, rfl⟩ := Option.map_eq_some_iff.1 h
    have h1 := List.mem_of_find?_eq_some hx
    have h2 := List.find?_some hx
    have h3 : x.1 = i := by simpa using h2
    subst h3
    exact h1
  · intro h
    rw [find_unique hs h]; rfl
theorem ofv_down {i : Int} {p : List Int} (h : ofv l i = some p) : downV l 0 p = i := by
  obtain ⟨q, hq, hd⟩ := pathsV_down l _ _ _ _ ((ofv_iff hw i p).1 h)
  have : p = q := by simpa using hq
  rw [this]; exact hd
theorem down_ofv {i : Int} {p : List Int} (hi : 0 ≤ i) (h : downV l 0 p = i) : ofv l i = some p := by
  rw [ofv_iff hw]
  have := down_pathsV l (l.length + 1) p 0 [] (by omega) (by omega) (by omega)
  rwa [h, List.nil_append] at this
theorem ofv_some_iff (i : Int) : (ofv l i).isSome ↔ 0 ≤ i ∧ i < l.length := by
  have hp := pathsV_places l (l.length + 1) 0 [] (by omega) (by omega)
  rw [hw] at hp
  constructor
  · intro h
    obtain ⟨p, hp2⟩ := Option.isSome_iff_exists.1 h
    have hm := (ofv_iff hw i p).1 hp2
    have : i ∈ seg 0 l.length := by rw [← hp]; exact List.mem_map.2 ⟨_, hm, rfl⟩
    rw [mem_seg] at this
    omega
  · intro h
    have : i ∈ seg 0 l.length := by rw [mem_seg]; omega
    rw [← hp] at this
    obtain ⟨x, hx, rfl⟩ := List.mem_map.1 this
    rw [(ofv_iff hw x.1 x.2).2 hx]; rfl
theorem ofv_valid {i : Int} {p : List Int} (h : ofv l i = some p) : 0 ≤ endv l i := by
  have hd := ofv_down hw h
  have h0 := ((ofv_some_iff hw i).1 (by rw [h]; rfl)).1
  have := downV_range l p 0 (by omega) (by omega)
  rw [hd] at this
  exact this.2.2
/-- A kid's path. -/
theorem ofv_kid {i : Int} {p : List Int} (h : ofv l i = some p) (n : Nat) (hn : n < (kidsv l i).length) : ofv l (kidsv l i)[n] = some (p ++ [(n : Int)]) := by
  have hf := kidsv_fact l i n hn
  refine down_ofv hw (by omega) ?_
  have hd := ofv_down hw h
  rw [downV_append l p [(n : Int)] 0 (by omega) (by omega), hd, downV_in l i n [] n rfl hn]
  rfl
/-- Each node but the first one is a kid of one ahead of it. -/
theorem ofv_parent {i : Int} (h : 0 < i) (hi : i < l.length) : ∃ (j : Nat) (n : Nat), (j : Int) < i ∧ ∃ hn : n < (kidsv l j).length, (kidsv l j)[n] = i := by
  obtain ⟨p, hp⟩ := Option.isSome_iff_exists.1 ((ofv_some_iff hw i).2 ⟨by omega, hi⟩)
  have hd := ofv_down hw hp
  rcases List.eq_nil_or_concat p with rfl | ⟨q, n, rfl⟩
  · have : downV l 0 [] = 0 := rfl
    omega
  · have hd' : downV l 0 (q ++ [n]) = i := by simpa using hd
    have hq : 0 ≤ downV l 0 q := by
      rcases Int.lt_or_le (downV l 0 q) 0 with hlt | hle
      · exfalso
        have : ∀ (q : List Int) (k : Int), downV l k q < 0 → 0 ≤ k → downV l k (q ++ [n]) = -1 := by
          intro q
          induction q with
          | nil => intro k h1 h2; have : downV l k [] = k := rfl; omega
          | cons m r ih =>
            intro k h1 h2
            by_cases hm : 0 ≤ m ∧ m.toNat < (kidsv l k).length
            · obtain ⟨j, rfl⟩ := Int.eq_ofNat_of_zero_le hm.1
              have hj : j < (kidsv l k).length := by simpa using hm.2
              have hk := kidsv_fact l k j hj
              rw [List.cons_append, downV_in l k j _ j rfl hj]
              rw [downV_in l k j _ j rfl hj] at h1
              exact ih _ h1 (by omega)
            · rw [List.cons_append, downV_out l k m _ hm]
        have := this q 0 hlt (by omega)
        omega
      · exact hle
    rw [downV_append l q [n] 0 (by omega) hq] at hd'
    obtain ⟨j, hj⟩ := Int.eq_ofNat_of_zero_le hq
    rw [hj] at hd'
    by_cases hm : 0 ≤ n ∧ n.toNat < (kidsv l j).length
    · obtain ⟨c, rfl⟩ := Int.eq_ofNat_of_zero_le hm.1
      have hc : c < (kidsv l j).length := by simpa using hm.2
      have hk := kidsv_fact l j c hc
      rw [downV_in l j c [] c rfl hc] at hd'
      have hd2 : (kidsv l j)[c] = i := hd'
      exact ⟨j, c, by omega, hc, hd2⟩
    · rw [downV_out l j n [] hm] at hd'; omega
end whole

end Go.Proofs.Ytalehbmgbjiigaa
end

section
namespace Go.Proofs.Ytalehbmgbjiigaa
open Go.RowKit
set_option linter.unusedVariables false
set_option linter.unusedSimpArgs false

theorem nodeAt_get {l : List Nd} {k : Nat} {x : Nd} (h : l[k]? = some x) : nodeAt l k = x := by
  obtain ⟨hk, e⟩ := List.getElem?_eq_some_iff.1 h
  unfold nodeAt
  rw [Int.toNat_natCast, getD_in _ _ _ hk, e]
theorem nodeAt_in (l : List Nd) (k : Nat) (hk : k < l.length) : nodeAt l k = l[k] := nodeAt_get (List.getElem?_eq_getElem hk)
/-- A Return has one kid. -/
theorem ret_kid (l : List Nd) (k : Nat) (hE : 0 ≤ endv l k) (h : (nodeAt l k).1 = 25) : 0 ≤ endv l ((k + 1 : Nat) : Int) ∧ endv l ((k + 1 : Nat) : Int) = endv l k ∧ k + 1 < l.length := by
  obtain ⟨hk, h0, har⟩ := at_ar hE
  rw [nodeAt_in l k hk] at h
  have ha : arAt l k = 1 := by
    rw [har]
    generalize l[k] = x at *
    obtain ⟨t, m⟩ := x
    simp only at h h0
    subst h
    exact ar_ret h0
  obtain ⟨f1, f2, f3⟩ := first_kid hE (by omega)
  exact ⟨f1, kid_one hE ha, f3⟩
def refChV (l : List Nd) (k : Nat) (x : Nd) (op n : Int) : List Nd :=
  if op = 1 ∨ op = 2 ∨ op = 3 then swapV l k (k + 1) [(n, x.2)] else if op = 4 then swapV l k (k + 1) [(x.1, n)] else
  if op = 5 then swapV l k (endv l k).toNat [(26, 0)] else if op = 6 then swapV l (k + 1) (k + 1) [(6, 0)] else swapV l (k + 1) (endv l ((k + 1 : Nat) : Int)).toNat [(1, n)]
theorem swap_set (l : List Nd) (k : Nat) (y : Nd) (hk : k < l.length) : swapV l k (k + 1) [y] = l.set k y := by
  unfold swapV
  rw [List.set_eq_take_append_cons_drop, if_pos hk]
  simp
theorem refCh_eq {l : List Nd} {k : Nat} {x : Nd} {op n : Int} (hE : 0 ≤ endv l k) (hx : l[k]? = some x) (hm : mayV x op n) : refChV l k x op n = changedV l k x op n := by
  obtain ⟨hk, hxe⟩ := List.getElem?_eq_some_iff.1 hx
  unfold refChV changedV
  split
  · exact swap_set l k _ hk
  · split
    · exact swap_set l k _ hk
    · split
      · unfold swapV replV
        rw [if_neg (by omega)]
        rfl
      · split
        · unfold swapV
          simp
        · rename_i h1 h2 h3 h4
          have h7 : x.1 = 25 := by
            rcases hm with h | h | h | h | h | h | h
            · omega
            · omega
            · omega
            · omega
            · omega
            · omega
            · exact h.2
          obtain ⟨f1, _⟩ := ret_kid l k hE (by rw [nodeAt_in _ _ hk, hxe]; exact h7)
          unfold swapV replV
          rw [if_neg (by omega)]
          rfl
/-- A program, changed. -/
def applyV (p : Pg) (d : Dl) : Pg × Int :=
  if findv p.body d.path < 0 then (⟨0, [], []⟩, 16) else
  if mayV (nodeAt p.body (findv p.body d.path)) d.op d.n then (⟨p.params, p.vars, changedV p.body (findv p.body d.path).toNat (nodeAt p.body (findv p.body d.path)) d.op d.n⟩, 0) else (⟨0, [], []⟩, 17)
theorem findv_ok {l : List Nd} {p : List Int} (h : 0 ≤ findv l p) : ∃ k : Nat, findv l p = k ∧ k < l.length ∧ 0 ≤ endv l k ∧ l[k]? = some (nodeAt l k) ∧ endv l 0 = l.length := by
  unfold findv at h ⊢
  split at h
  · rename_i hl
    rw [if_pos hl]
    have := downV_range l p 0 (by omega) h
    obtain ⟨k, hk⟩ := Int.eq_ofNat_of_zero_le h
    rw [hk] at this ⊢
    have hk2 : k < l.length := by omega
    exact ⟨k, rfl, hk2, this.2.2, by rw [nodeAt_in _ _ hk2]; exact List.getElem?_eq_getElem hk2, hl⟩
  · omega
theorem changed_pos {l : List Nd} {k : Nat} {x : Nd} {op n : Int} (hl : endv l 0 = l.length) (hE : 0 ≤ endv l k) (hx : l[k]? = some x) (hm : mayV x op n) : 0 < (changedV l k x op n).length := by
  obtain ⟨c1, _⟩ := changed_else hl hE x hx hm
  refine Decidable.byContradiction fun hc => ?_
  have hn : changedV l k x op n = [] := List.length_eq_zero_iff.1 (by omega)
  rw [hn] at c1
  revert c1
  decide
/-- What an operator makes of a list at a node: none if it may not. -/
def opV (l : List Nd) (k : Nat) (op n : Int) : List Nd := if mayV (nodeAt l k) op n then changedV l k (nodeAt l k) op n else []
theorem apply_cases (p : Pg) (d : Dl) : (findv p.body d.path < 0 ∧ applyV p d = (⟨0, [], []⟩, 16)) ∨ ∃ k : Nat, findv p.body d.path = k ∧ k < p.body.length ∧ 0 ≤ endv p.body k ∧ p.body[k]? = some (nodeAt p.body k) ∧ endv p.body 0 = p.body.length ∧
    ((¬ mayV (nodeAt p.body k) d.op d.n ∧ applyV p d = (⟨0, [], []⟩, 17)) ∨ (mayV (nodeAt p.body k) d.op d.n ∧ applyV p d = (⟨p.params, p.vars, changedV p.body k (nodeAt p.body k) d.op d.n⟩, 0))) := by
  by_cases h : findv p.body d.path < 0
  · exact .inl ⟨h, by unfold applyV; rw [if_pos h]⟩
  · obtain ⟨k, h1, h2, h3, h4, h5⟩ := findv_ok (l := p.body) (p := d.path) (by omega)
    refine .inr ⟨k, h1, h2, h3, h4, h5, ?_⟩
    by_cases hm : mayV (nodeAt p.body k) d.op d.n
    · refine .inr ⟨hm, ?_⟩
      unfold applyV
      rw [h1, if_neg (by omega), if_pos hm]
      rfl
    · refine .inl ⟨hm, ?_⟩
      unfold applyV
      rw [h1, if_neg (by omega), if_neg hm]
end Go.Proofs.Ytalehbmgbjiigaa
end
