/-
  arena.joined, Part, Replace; the reference's Part, Replace.
-/
import Derived.Test.YtnmgfobpcengkaaJoin
import Derived.Test.YtnmgfobpcengkaaScan
namespace Go.Proofs.Ytnmgfobpcengkaa
set_option maxRecDepth 100000
open Go.RowKit
set_option linter.unusedVariables false

/-- A node, and all below it. -/
def partV (l : List Nd) (i : Int) : List Nd := if endv l i < 0 then [] else (l.take (endv l i).toNat).drop i.toNat
/-- Other nodes instead of a part. -/
def replV (l : List Nd) (i : Int) (r : List Nd) : List Nd := if endv l i < 0 then l else l.take i.toNat ++ r ++ l.drop (endv l i).toNat

theorem joined_any (ps : List (Value × List Nd)) (v : Value) (w : World) (hv : SliceIn (fun k => k < w.heap.size) w v ps.length (ps.map Prod.fst)) (hp : ∀ x ∈ ps, NodesAt w x.1 x.2) (hl : (catV ps).length ≤ 12000000) (hn : ps.length ≤ 1000) :
    Calls Try.prog 46 #[v] w fun e w' => ∃ u, e = .returned u ∧ w'.ownsRow w.heap.size 36 2 u (catV ps).length (nodeCells (catV ps)) ∧ Below w.heap.size w w' := by
  go_enter Try.func46, Try.ntmps46
  go_wp2_with (fail)
  refine (Concat_any ps v w hv hp hl hn).mono ?_
  rintro e w1 ⟨u, rfl, hr, hb⟩
  go_wp2_with (fail)
  go_ret
  exact ⟨_, rfl, hr, hb⟩

/-- A row of nodes that the call owns reads as the nodes. -/
theorem ownsRow_nodes {w : World} {base : Nat} {e : TypeId} {v : Value} {l : List Nd} (h : w.ownsRow base e 2 v l.length (nodeCells l)) : NodesIn (fun k => base ≤ k ∧ k < w.heap.size) w v l := by
  have hlc := nodeCells_length l
  by_cases hl : l.length = 0
  · refine .inl ?_
    rcases h.2 with ⟨rfl, _⟩ | ⟨g, cap, cur, rfl, _⟩
    · exact ⟨none, 0, rfl, hl, List.length_eq_zero_iff.1 (by omega), fun _ => rfl⟩
    · exact ⟨some ⟨g, 0, none⟩, cap, by rw [hl], hl, List.length_eq_zero_iff.1 (by omega), fun h => by cases h⟩
  · have hlt := h.lt
    rcases h.2 with ⟨_, h0⟩ | ⟨g, cap, cur, rfl, hb, hg, hc, _⟩
    · exact absurd h0 hl
    · refine .inr ⟨g, 0, cap, rfl, by omega, hc, ⟨hb, (hlt g rfl).2⟩, fun j hj => ?_⟩
      have := h.cellAt j (by omega)
      simpa using this

theorem nodesIn_of {S : Nat → Prop} {w : World} {b o cap : Nat} {l : List Nd} (hpos : 0 < l.length) (hcap : l.length ≤ cap) (hS : S b) (h : ∀ k (hk : k < l.length), w.cell? ⟨b, o + k * 2, none⟩ = some (.int .i64 l[k].1) ∧ w.cell? ⟨b, o + k * 2 + 1, none⟩ = some (.int .i64 l[k].2)) :
    NodesIn S w (.slice (some ⟨b, o, none⟩) l.length cap) l := .inr ⟨b, o, cap, rfl, hpos, hcap, hS, fun j hj => by
  rw [nodeCells_length] at hj
  obtain ⟨q, hq⟩ : ∃ q, j = 2 * q ∨ j = 2 * q + 1 := ⟨j / 2, by omega⟩
  rcases hq with rfl | rfl
  · rw [nodeCells_get0 l q (by omega), Nat.mul_comm]; exact (h q (by omega)).1
  · rw [nodeCells_get1 l q (by omega), Nat.mul_comm, ← Nat.add_assoc]; exact (h q (by omega)).2⟩
/-- A part of a list reads as a part of the nodes. -/
theorem NodesIn.sub {S : Nat → Prop} {w : World} {b o cap : Nat} {l : List Nd} (hcap : l.length ≤ cap) (hS : S b) (h : ∀ k (hk : k < l.length), w.cell? ⟨b, o + k * 2, none⟩ = some (.int .i64 l[k].1) ∧ w.cell? ⟨b, o + k * 2 + 1, none⟩ = some (.int .i64 l[k].2))
    (i j : Nat) (hij : i ≤ j) (hj : j ≤ l.length) : NodesIn S w (.slice (some ⟨b, o + i * 2, none⟩) (j - i) (cap - i)) ((l.take j).drop i) := by
  have hlen : ((l.take j).drop i).length = j - i := by simp; omega
  by_cases h0 : j = i
  · subst h0
    rw [Nat.sub_self, List.drop_eq_nil_of_le (by simp; omega)]
    exact .inl ⟨_, _, rfl, rfl, rfl, fun h => by cases h⟩
  · rw [← hlen]
    refine nodesIn_of (by omega) (by omega) hS fun k hk => ?_
    have := h (i + k) (by omega)
    rw [show o + i * 2 + k * 2 = o + (i + k) * 2 from by omega]
    simpa [List.getElem_drop, List.getElem_take] using this

set_option maxHeartbeats 2000000 in
theorem Part_any (l : List Nd) (i : Int) (v : Value) (w : World) (hv : NodesAt w v l) (hl : l.length ≤ 4000000) :
    Calls Try.prog 31 #[v, .int .i64 i] w fun e w' => ∃ u, e = .returned u ∧ NodesIn (fun k => w.heap.size ≤ k ∧ k < w'.heap.size) w' u (partV l i) ∧ Below w.heap.size w w' := by
  rcases endv_bound l i with hE | hE
  · have hlt : endv l i < 0 := by omega
    have HK : Hid (partV l i = []) := Lib.hid (by rw [partV, if_pos hlt])
    clear hE
    go_enter Try.func31, Try.ntmps31
    go_wp2_with (go_at_call 19; refine (End_any l _ _ _ hv hl).mono ?_; rintro e w1 ⟨rfl, hb⟩)
    go_ret
    exact ⟨_, rfl, by rw [HK.out]; exact .inl ⟨none, 0, rfl, rfl, rfl, fun _ => rfl⟩, hb⟩
  · obtain ⟨hi0, hil⟩ := endv_in l i hE
    obtain ⟨k, rfl⟩ := Int.eq_ofNat_of_zero_le hi0
    have hnlt : ¬ endv l k < 0 := by omega
    have hle := endv_le l k
    have hgt := endv_gt l k hE
    obtain ⟨m, hm⟩ := Int.eq_ofNat_of_zero_le hE
    have HK : Hid (partV l k = (l.take m).drop k) := Lib.hid (by rw [partV, if_neg hnlt, hm]; rfl)
    rw [hm] at hle hgt
    have hkl : k < l.length := by simpa using hil
    rcases hv.open with ⟨rfl, _⟩ | ⟨b, o, cap, rfl, hpos, hcap, hbs, hcell⟩
    · simp at hkl
    go_enter Try.func31, Try.ntmps31
    go_wp2_with (go_at_call 19; refine (End_any l _ _ _ hv hl).mono ?_; rintro e w1 ⟨rfl, hb⟩; rw [hm])
    have hv1 : NodesAt (w1.alloc (.cells #[.slice (some ⟨b, o + k * 2, none⟩) (m - k) (cap - k)] 22)) (.slice (some ⟨b, o + k * 2, none⟩) (m - k) (cap - k)) ((l.take m).drop k) :=
      ((NodesIn.sub hcap (S := (· < w.heap.size)) hbs hcell k m (by omega) (by omega)).below hb).below (below_alloc1 w1 _)
    have hcl := NodesIn.sub hcap (S := (· < w.heap.size)) hbs hcell k m (by omega) (by omega)
    refine (joined_any [(.slice (some ⟨b, o + k * 2, none⟩) (m - k) (cap - k), (l.take m).drop k)] _ _ (sliceIn_one w1 _ 22) (fun x hx => by obtain rfl := List.mem_singleton.1 hx; exact hv1) (by simp [catV]; omega) (by simp)).mono ?_
    rintro e w2 ⟨u, rfl, hr, hb2⟩
    have hB2 : Below w.heap.size w w2 := (hb.trans ((below_alloc1 w1 _).mono hb.size)).trans (hb2.mono (by simp; have := hb.size; omega))
    have hz := hb.size
    go_wp2_with (fail)
    go_ret
    refine ⟨_, rfl, ?_, hB2⟩
    rw [HK.out]
    exact (ownsRow_nodes (by simpa [catV] using hr)).mono (fun j hj => ⟨by omega, hj.2⟩)

/-- A literal slice of three elements. -/
theorem sliceIn_three (w : World) (a b c : Value) (t : TypeId) : SliceIn (fun k => k < (w.alloc (.cells #[a, b, c] t)).heap.size) (w.alloc (.cells #[a, b, c] t)) (.slice (some ⟨w.heap.size, 0, none⟩) 3 3) 3 [a, b, c] := by
  refine .inr ⟨w.heap.size, 0, 3, rfl, by omega, by omega, by simp, fun j hj => ?_⟩
  simp at hj
  have h := World.alloc_heap_new w (.cells #[a, b, c] t)
  rcases (by omega : j = 0 ∨ j = 1 ∨ j = 2) with rfl | rfl | rfl <;> (unfold World.cell?; simp only [h]; rfl)

theorem sliceIn_three_drew (w : World) (a b c : Value) (t : TypeId) : SliceIn (fun k => k < (w.alloc (.cells #[a, b, c] t)).drew.heap.size) (w.alloc (.cells #[a, b, c] t)).drew (.slice (some ⟨w.heap.size, 0, none⟩) 3 3) 3 [a, b, c] :=
  (sliceIn_three w a b c t).kept (kept_drew (Kept.refl _ _))

set_option maxHeartbeats 4000000 in
theorem Replace_any (l r : List Nd) (i : Int) (v u : Value) (w : World) (hv : NodesAt w v l) (hu : NodesAt w u r) (hl : l.length ≤ 4000000) (hr : r.length ≤ 4000000) :
    Calls Try.prog 33 #[v, .int .i64 i, u] w fun e w' => ∃ x, e = .returned x ∧ NodesIn (fun k => w.heap.size ≤ k ∧ k < w'.heap.size) w' x (replV l i r) ∧ Below w.heap.size w w' := by
  obtain ⟨pu, cu, hsu⟩ := hu.slice
  subst hsu
  refine callsIn_wide.1 (?_ : CallsIn Fence.wide 1 _ _ _ _ _)
  refine callsIn_of_wp Try.func33 rfl trivial ?_ rfl
  simp only [Try.ntmps33, List.size_toArray, List.length_cons, List.length_nil, Nat.reduceAdd, Nat.reduceSub, Array.replicate_succ, Array.replicate_zero, List.push_toArray, List.append_toArray, List.nil_append, List.cons_append]
  rcases endv_bound l i with hE | hE
  · have hlt : endv l i < 0 := by omega
    have HK : Hid (replV l i r = l) := Lib.hid (by rw [replV, if_pos hlt])
    clear hE
    obtain ⟨p, cap, hsl⟩ := hv.slice
    subst hsl
    gi_wp2_with (gi_at_call 19; refine (callsIn_wide.2 (End_any l _ _ _ hv hl)).mono ?_; rintro e w1 ⟨rfl, hb⟩)
    have hv1 := (hv.below hb).below (below_alloc1 w1 (.cells #[.slice p l.length cap] 22))
    refine (callsIn_wide.2 (joined_any [(.slice p l.length cap, l)] _ _ (sliceIn_one w1 _ 22) (fun x hx => by obtain rfl := List.mem_singleton.1 hx; exact hv1) (by simp [catV]; omega) (by simp))).mono ?_
    rintro e w2 ⟨x, rfl, hrow, hb2⟩
    have hB2 : Below w.heap.size w w2 := (hb.trans ((below_alloc1 w1 _).mono hb.size)).trans (hb2.mono (by simp; have := hb.size; omega))
    have hz := hb.size
    gi_wp2_with (fail)
    go_ret
    refine ⟨_, rfl, ?_, hB2⟩
    rw [HK.out]
    exact (ownsRow_nodes (by simpa [catV] using hrow)).mono (fun j hj => ⟨by omega, hj.2⟩)
  · obtain ⟨hi0, hil⟩ := endv_in l i hE
    obtain ⟨k, rfl⟩ := Int.eq_ofNat_of_zero_le hi0
    have hnlt : ¬ endv l k < 0 := by omega
    have hle := endv_le l k
    have hgt := endv_gt l k hE
    obtain ⟨m, hm⟩ := Int.eq_ofNat_of_zero_le hE
    have HK : Hid (replV l k r = l.take k ++ r ++ l.drop m) := Lib.hid (by rw [replV, if_neg hnlt, hm]; rfl)
    rw [hm] at hle hgt
    have hkl : k < l.length := by simpa using hil
    rcases hv.open with ⟨rfl, _⟩ | ⟨b, o, cap, rfl, hpos, hcap, hbs, hcell⟩
    · simp at hkl
    have hmx : Try.prog.follows .mixedOrders = true := by kernel_rfl
    gi_wp2_with (gi_at_call 19; refine (callsIn_wide.2 (End_any l _ _ _ hv hl)).mono ?_; rintro e w1 ⟨rfl, hb⟩; rw [hm])
    have b1 : (k : Int) ≤ (cap : Int) := by omega
    have b2 : (m : Int) ≤ (l.length : Int) := by omega
    have b3 : ¬ (cap : Int) < (k : Int) := by omega
    have b4 : ¬ (l.length : Int) < (m : Int) := by omega
    have b5 : ¬ (k : Int) < 0 := by omega
    have b6 : (k : Int) ≤ (l.length : Int) := by omega
    have b7 : k ≤ cap := by omega
    have b8 : m ≤ l.length := by omega
    have s1 : NodesAt w (.slice (some ⟨b, o, none⟩) k cap) (l.take k) := by simpa using NodesIn.sub hcap (S := (· < w.heap.size)) hbs hcell 0 k (by omega) (by omega)
    have s3 : NodesAt w (.slice (if cap = m then some ⟨b, o, none⟩ else some ⟨b, o + m * 2, none⟩) (l.length - m) (cap - m)) (l.drop m) := by
      by_cases hcm : cap = m
      · rw [if_pos hcm, List.drop_eq_nil_of_le (by omega), show l.length - m = 0 from by omega]
        exact .inl ⟨_, _, rfl, rfl, rfl, fun h => by cases h⟩
      · rw [if_neg hcm]
        simpa using NodesIn.sub hcap (S := (· < w.heap.size)) hbs hcell m l.length (by omega) (by omega)
    obtain ⟨q3, hq3⟩ : ∃ q : Option Addr, (if cap = m then some ⟨b, o, none⟩ else some ⟨b, o + m * 2, none⟩) = q := ⟨_, rfl⟩
    rw [hq3] at s3
    have hbd : Below w.heap.size w ((w1.alloc (.cells #[.slice (some ⟨b, o, none⟩) k cap, .slice pu r.length cu, .slice q3 (l.length - m) (cap - m)] 22)).drew) := hb.trans ((((Below.refl _ w1).alloc (Nat.le_refl _) _).drew).mono hb.size)
    have hps : ∀ x ∈ [(Value.slice (some ⟨b, o, none⟩) k cap, l.take k), (.slice pu r.length cu, r), (.slice q3 (l.length - m) (cap - m), l.drop m)], NodesAt ((w1.alloc (.cells #[.slice (some ⟨b, o, none⟩) k cap, .slice pu r.length cu, .slice q3 (l.length - m) (cap - m)] 22)).drew) x.1 x.2 := by
      intro x hx
      simp only [List.mem_cons, List.not_mem_nil, or_false] at hx
      rcases hx with rfl | rfl | rfl
      · exact s1.below hbd
      · exact hu.below hbd
      · exact s3.below hbd
    have hcl : (catV [(Value.slice (some ⟨b, o, none⟩) k cap, l.take k), (.slice pu r.length cu, r), (.slice q3 (l.length - m) (cap - m), l.drop m)]).length ≤ 12000000 := by simp [catV]; omega
    have h3 : SliceIn (fun jj => jj < ((w1.alloc (.cells #[.slice (some ⟨b, o, none⟩) k cap, .slice pu r.length cu, .slice q3 (l.length - m) (cap - m)] 22)).drew).heap.size) ((w1.alloc (.cells #[.slice (some ⟨b, o, none⟩) k cap, .slice pu r.length cu, .slice q3 (l.length - m) (cap - m)] 22)).drew) (.slice (some ⟨w1.heap.size, 0, none⟩) 3 3) 3 [.slice (some ⟨b, o, none⟩) k cap, .slice pu r.length cu, .slice q3 (l.length - m) (cap - m)] := sliceIn_three_drew w1 _ _ _ 22
    have hz := hbd.size
    gi_region_with_o (gi_at_call 46; go_loud (refine (callsIn_wide.2 (joined_any [(Value.slice (some ⟨b, o, none⟩) k cap, l.take k), (.slice pu r.length cu, r), (.slice q3 (l.length - m) (cap - m), l.drop m)] _ _ h3 hps hcl (by simp))).mono ?_; rintro e w2 ⟨x, rfl, hrow, hb2⟩))
    all_goals gi_wp2
    all_goals go_ret
    all_goals refine ⟨x, rfl, ?_, hbd.trans (hb2.mono hz)⟩
    all_goals rw [HK.out]
    all_goals exact (ownsRow_nodes (base := w1.heap.size + 1) (v := x) (by simpa [catV] using hrow)).mono (fun j hj => ⟨by have := hb.size; omega, hj.2⟩)
end Go.Proofs.Ytnmgfobpcengkaa
