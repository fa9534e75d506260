/-
  Objects of the call's own: a new one, one that is written, one that is no more; rows that grow. Nothing here names the program.
-/
import Derived.Test.YtnmgfobpcengkaaHDenOk
import Derived.Test.YtnmgfobpcengkaaAppend
namespace Go.Proofs.Ytnmgfobpcengkaa
open Go.RowKit
set_option linter.unusedVariables false
set_option linter.unusedSimpArgs false

theorem heapAllocOld (w : World) (o : Obj) {k : Nat} (hk : k < w.heap.size) : (w.alloc o).heap[k]? = w.heap[k]? := by
  show (w.heap.push o)[k]? = w.heap[k]?
  rw [Array.getElem?_push, if_neg (Nat.ne_of_lt hk)]

theorem oneCell_of {S : Nat → Prop} {L : List (Nat × Nat)} {w : World} {d : D} {x : Value} (h : cellOk d = true) (hr : Rep S L w x d) : x.oneCell' = true := by
  cases d with
  | undef => cases h
  | agg => cases h
  | tup => cases h
  | v y =>
    simp only [Rep] at hr
    subst hr
    cases x with
    | agg => cases h
    | tuple => cases h
    | _ => rfl
  | sl sz els =>
    simp only [Rep] at hr
    rcases hr with ⟨_, p, cap, rfl, _⟩ | ⟨b, o, cap, rfl, _⟩ <;> rfl
  | ptr cs => simp only [Rep] at hr; obtain ⟨b, o, rfl, _⟩ := hr; rfl
  | hp i o => simp only [Rep] at hr; obtain ⟨b, c, _, rfl⟩ := hr; rfl
  | hs i n => simp only [Rep] at hr; obtain ⟨b, c, _, _, rfl⟩ := hr; rfl
  | ifc t e => simp only [Rep] at hr; obtain ⟨y, rfl, _⟩ := hr; rfl
  | clo f a b => simp only [Rep] at hr; obtain ⟨y, z, rfl, _⟩ := hr; rfl
  | mp i => simp only [Rep] at hr; obtain ⟨b, c, _, rfl⟩ := hr; rfl
  | mv ks vs => simp only [Rep] at hr; obtain ⟨b, arr, clk, rfl, _⟩ := hr; rfl
  | ht i o n => simp only [Rep] at hr; obtain ⟨b, c, o, cap, _, rfl, _⟩ := hr; rfl
  | yld i => simp only [Rep] at hr; obtain ⟨b, c, _, rfl⟩ := hr; rfl
theorem repA_get {S : Nat → Prop} {L : List (Nat × Nat)} {w : World} {xs : List Value} {ds : List D} (h : RepA S L w xs ds) (j : Nat) (d : D) (hd : ds[j]? = some d) : ∃ x, xs[j]? = some x ∧ Rep S L w x d := h.get j d hd
theorem cells_one {S : Nat → Prop} {L : List (Nat × Nat)} {w : World} {xs : List Value} {ds : List D} (h : RepA S L w xs ds) (hok : ds.all cellOk = true) : ∀ x ∈ xs, x.oneCell' = true := by
  induction ds generalizing xs with
  | nil => simp only [RepA] at h; subst h; simp
  | cons d r ih =>
    simp only [RepA] at h
    obtain ⟨x, ys, rfl, h1, h2⟩ := h
    simp only [List.all_cons, Bool.and_eq_true] at hok
    intro y hy
    rcases List.mem_cons.1 hy with rfl | hy
    · exact oneCell_of hok.1 h1
    · exact ih h2 hok.2 y hy

section
variable {B : Nat} {S : Nat → Prop} {L : List (Nat × Nat)} {w : World} {H : Heap}

theorem HRel.lt' (h : HRel B S L w H) {id : Nat} {o : HO} (hid : H[id]? = some o) (ho : o ≠ .dead) {p : Nat × Nat} (hp : L[id]? = some p) : B ≤ p.1 ∧ p.1 < w.heap.size ∧ ¬ S p.1 := by
  obtain ⟨b, c, h1, h2, h3, h4⟩ := h.obj id o hid ho
  rw [hp] at h1
  cases h1
  exact ⟨h2, h4.lt ho, h3⟩
theorem HRel.lt (h : HRel B S L w H) {id : Nat} {t : TypeId} {sz : Nat} {cs : List D} (hid : H[id]? = some (HO.cells t sz cs)) {p : Nat × Nat} (hp : L[id]? = some p) : B ≤ p.1 ∧ p.1 < w.heap.size ∧ ¬ S p.1 := h.lt' hid (by intro e; cases e) hp

/-- A new object in a new block. -/
theorem HRel.newO (h : HRel B S L w H) (w1 : World) (hw1 : w1.heap = w.heap) (hb1 : Below B w w1) (ob : Obj) (c : Nat) (o : HO)
    (hok : ∀ w' L', (∀ x d, Rep S L w x d → Rep S L' w' x d) → (∀ xs ds, RepA S L w xs ds → RepA S L' w' xs ds) → w'.heap[w.heap.size]? = some ob → ObjOk S L' w' w.heap.size c o) :
    HRel B S (L ++ [(w.heap.size, c)]) (w1.alloc ob) (H ++ [o]) ∧ Later B S S L (L ++ [(w.heap.size, c)]) w (w1.alloc ob) := by
  have hsize : (w1.alloc ob).heap.size = w.heap.size + 1 := by simp [hw1]
  have hold : ∀ k, k < w.heap.size → (w1.alloc ob).heap[k]? = w.heap[k]? := fun k hk => by rw [heapAllocOld w1 _ (by rw [hw1]; exact hk), hw1]
  have hnew : (w1.alloc ob).heap[w.heap.size]? = some ob := by rw [← hw1]; exact heap_alloc_new w1 _
  have hl : Later B S S L (L ++ [(w.heap.size, c)]) w (w1.alloc ob) := by
    refine ⟨hb1.alloc (by rw [hw1]; exact h.base) _, ⟨by omega, fun k hk => hold k (h.small k hk)⟩, fun _ hk => hk, List.prefix_append _ _, fun _ h => .inl h, fun k hk => (hold k (Array.getElem?_eq_some_iff.1 hk).1).trans hk⟩
  refine ⟨⟨by simp [h.len], fun k hk => by have := h.small k hk; omega, by have := h.base; omega, ?_, ?_⟩, hl⟩
  · intro id o' hid ho'
    by_cases hlt : id < H.length
    · rw [List.getElem?_append_left hlt] at hid
      obtain ⟨b, c', h1, h2, h3, h4⟩ := h.obj id o' hid ho'
      exact ⟨b, c', prefix_get (List.prefix_append _ _) _ _ h1, h2, h3, h4.kept (hold b (h4.lt ho')) (fun _ _ => hl.rep) (fun _ _ => hl.repA)⟩
    · have hlt2 := (List.getElem?_eq_some_iff.1 hid).1
      simp only [List.length_append, List.length_cons, List.length_nil] at hlt2
      have hid' : id = H.length := by omega
      subst hid'
      rw [List.getElem?_append_right (Nat.le_refl _)] at hid
      simp only [Nat.sub_self, List.getElem?_cons_zero, Option.some.injEq] at hid
      subst hid
      exact ⟨w.heap.size, c, by rw [← h.len]; simp, h.base, fun hS => by have := h.small _ hS; omega, hok _ _ (fun _ _ => hl.rep) (fun _ _ => hl.repA) hnew⟩
  · intro id id' o1 o2 p p' hid ho1 hid' ho2 hp hp' hpp
    have old : ∀ {id : Nat} {o' : HO} {p : Nat × Nat}, (H ++ [o])[id]? = some o' → o' ≠ .dead → (L ++ [(w.heap.size, c)])[id]? = some p →
        (id < H.length ∧ H[id]? = some o' ∧ L[id]? = some p ∧ p.1 < w.heap.size) ∨ (id = H.length ∧ p.1 = w.heap.size) := by
      intro id o' p hid ho' hp
      have hlt : id < (H ++ [o]).length := (List.getElem?_eq_some_iff.1 hid).1
      simp only [List.length_append, List.length_cons, List.length_nil] at hlt
      by_cases hl : id < H.length
      · rw [List.getElem?_append_left hl] at hid
        rw [List.getElem?_append_left (by rw [h.len]; exact hl)] at hp
        exact .inl ⟨hl, hid, hp, (h.lt' hid ho' hp).2.1⟩
      · have he : id = H.length := by omega
        subst he
        rw [← h.len, List.getElem?_append_right (Nat.le_refl _)] at hp
        simp at hp
        exact .inr ⟨rfl, by rw [← hp]⟩
    rcases old hid ho1 hp with ⟨h1, h2, h3, h4⟩ | ⟨h1, h2⟩ <;> rcases old hid' ho2 hp' with ⟨k1, k2, k3, k4⟩ | ⟨k1, k2⟩
    · exact h.inj id id' _ _ p p' h2 ho1 k2 ho2 h3 k3 hpp
    · omega
    · omega
    · omega
theorem HRel.new (h : HRel B S L w H) (w1 : World) (hw1 : w1.heap = w.heap) (hb1 : Below B w w1) (t : TypeId) (sz c : Nat) (cs : List D) (arr : Array Value) (hsz : arr.size = c * sz) (hc : c ≤ maxLen) (hlen : cs.length ≤ arr.size)
    (hrep : ∀ (j : Nat) (d : D), cs[j]? = some d → ∃ x, arr[j]? = some x ∧ x.oneCell' = true ∧ Rep S L w x d) :
    HRel B S (L ++ [(w.heap.size, c)]) (w1.alloc (.cells arr t)) (H ++ [.cells t sz cs]) ∧ Later B S S L (L ++ [(w.heap.size, c)]) w (w1.alloc (.cells arr t)) :=
  h.newO w1 hw1 hb1 (.cells arr t) c (.cells t sz cs) fun w' L' hr _ hn => ⟨arr, hn, hsz, hc, hlen, fun j d hd => by
    obtain ⟨x, hx1, hx2, hx3⟩ := hrep j d hd
    exact ⟨x, hx1, hx2, hr _ _ hx3⟩⟩

theorem set_get (H : Heap) (id i : Nat) (o o' : HO) (h : (H.set id o)[i]? = some o') : (i = id ∧ o = o' ∧ id < H.length) ∨ (i ≠ id ∧ H[i]? = some o') := by
  by_cases e : i = id
  · subst e
    have hlt : i < H.length := by have := (List.getElem?_eq_some_iff.1 h).1; simpa using this
    rw [List.getElem?_set_self hlt] at h
    exact .inl ⟨rfl, Option.some.inj h, hlt⟩
  · rw [List.getElem?_set_ne (fun h => e h.symm)] at h
    exact .inr ⟨e, h⟩

/-- An object that is no more. -/
theorem HRel.kill (h : HRel B S L w H) (id : Nat) : HRel B S L w (H.set id .dead) := by
  refine ⟨by simp [h.len], h.small, h.base, ?_, ?_⟩
  · intro i o hi ho
    rcases set_get H id i _ o hi with ⟨_, e, _⟩ | ⟨_, e⟩
    · exact absurd e.symm ho
    · exact h.obj i o e ho
  · intro i j o o' p p' hi ho hj ho' hp hp' hpp
    rcases set_get H id i _ o hi with ⟨_, e, _⟩ | ⟨_, e⟩
    · exact absurd e.symm ho
    · rcases set_get H id j _ o' hj with ⟨_, e', _⟩ | ⟨_, e'⟩
      · exact absurd e'.symm ho'
      · exact h.inj i j o o' p p' e ho e' ho' hp hp' hpp

/-- An object that is written: its block alone changes. -/
theorem HRel.writeO (h : HRel B S L w H) {id : Nat} {o : HO} (hid : H[id]? = some o) (ho : o ≠ .dead) {b c : Nat} (hL : L[id]? = some (b, c)) (w' : World) (o' : HO) (ho' : o' ≠ .dead)
    (hos : w'.os = w.os) (hta : w'.tape = w.tape) (hou : w'.output = w.output) (hsize : w'.heap.size = w.heap.size) (hother : ∀ k, k ≠ b → w'.heap[k]? = w.heap[k]?)
    (hok : (∀ x d, Rep S L w x d → Rep S L w' x d) → (∀ xs ds, RepA S L w xs ds → RepA S L w' xs ds) → ObjOk S L w' b c o') :
    HRel B S L w' (H.set id o') ∧ Later B S S L L w w' := by
  obtain ⟨h2, hlt, h3⟩ := h.lt' hid ho hL
  simp only at h2 hlt h3
  have hmark : w.heap[b]? ≠ some (.deferred (some [])) := by
    obtain ⟨b', c', k1, _, _, k4⟩ := h.obj id o hid ho
    rw [hL] at k1
    cases k1
    exact k4.mark ho _
  have hl : Later B S S L L w w' := ⟨⟨hos, hta, hou, by omega, fun k hk => hother k (by omega)⟩, ⟨by omega, fun k hk => hother k (fun e => h3 (e ▸ hk))⟩, fun _ hk => hk, List.prefix_refl _, fun _ h => .inl h, fun k hk => (hother k (fun e => hmark (e ▸ hk))).trans hk⟩
  refine ⟨⟨by simp [h.len], fun k hk => by rw [hsize]; exact h.small k hk, by rw [hsize]; exact h.base, ?_, ?_⟩, hl⟩
  · intro i o2 hi ho2
    rcases set_get H id i _ o2 hi with ⟨e1, e, _⟩ | ⟨e1, e⟩
    · subst e1
      subst e
      exact ⟨b, c, hL, h2, h3, hok (fun _ _ => hl.rep) (fun _ _ => hl.repA)⟩
    · obtain ⟨b2, c2, k1, k2, k3, k4⟩ := h.obj i o2 e ho2
      have hne : b2 ≠ b := fun hb => e1 (h.inj i id _ _ _ _ e ho2 hid ho k1 hL hb)
      exact ⟨b2, c2, k1, k2, k3, k4.kept (hother b2 hne) (fun _ _ => hl.rep) (fun _ _ => hl.repA)⟩
  · intro i j o1 o2 p p' hi ho1 hj ho2 hp hp' hpp
    have back : ∀ {i : Nat} {o1 : HO}, (H.set id o')[i]? = some o1 → o1 ≠ .dead → ∃ o3, H[i]? = some o3 ∧ o3 ≠ .dead := by
      intro i o1 hi ho1
      rcases set_get H id i _ o1 hi with ⟨e1, _, _⟩ | ⟨_, e⟩
      · subst e1; exact ⟨o, hid, ho⟩
      · exact ⟨o1, e, ho1⟩
    obtain ⟨_, q1, q1'⟩ := back hi ho1
    obtain ⟨_, q2, q2'⟩ := back hj ho2
    exact h.inj i j _ _ p p' q1 q1' q2 q2' hp hp' hpp
theorem HRel.write (h : HRel B S L w H) {id : Nat} {t : TypeId} {sz : Nat} {cs : List D} (hid : H[id]? = some (HO.cells t sz cs)) {b c : Nat} (hL : L[id]? = some (b, c)) (arr' : Array Value) (cs' : List D) (hsz : arr'.size = c * sz) (hlen : cs'.length ≤ arr'.size)
    (hrep : ∀ (j : Nat) (d : D), cs'[j]? = some d → ∃ x, arr'[j]? = some x ∧ x.oneCell' = true ∧ Rep S L w x d) :
    HRel B S L (w.setRow b arr') (H.set id (.cells t sz cs')) ∧ Later B S S L L w (w.setRow b arr') := by
  obtain ⟨b', c', arr, h1, h2, h3, h4, h5, h6, h7, h8⟩ := h.live id t sz cs hid
  rw [hL] at h1
  cases h1
  exact h.writeO hid (by intro e; cases e) hL _ (.cells t sz cs') (by intro e; cases e) rfl rfl rfl (by simp) (fun k hk => setRow_other w b k arr' hk) fun hr _ =>
    ⟨arr', setRow_heap w b arr arr' t (0, 0) h4, hsz, h6, hlen, fun j d hd => by
      obtain ⟨x, hx1, hx2, hx3⟩ := hrep j d hd
      exact ⟨x, hx1, hx2, hr _ _ hx3⟩⟩

/-- A row goes on under another name. -/
theorem HRel.move (h : HRel B S L w H) {id : Nat} {o : HO} (hid : H[id]? = some o) (ho : o ≠ .dead) {b c : Nat} (hL : L[id]? = some (b, c)) :
    HRel B S (L ++ [(b, c)]) w (H.set id .dead ++ [o]) ∧ Later B S S L (L ++ [(b, c)]) w w := by
  have hl : Later B S S L (L ++ [(b, c)]) w w := ⟨Below.refl _ _, Kept.refl _ _, fun _ hk => hk, List.prefix_append _ _, fun _ h => .inl h, fun _ h => h⟩
  obtain ⟨b', c', h1, h2, h3, h4⟩ := h.obj id o hid ho
  rw [hL] at h1
  cases h1
  have hlenk : (H.set id .dead).length = H.length := by simp
  have cases2 : ∀ {i : Nat} {o' : HO}, (H.set id .dead ++ [o])[i]? = some o' → o' ≠ .dead → (i < H.length ∧ i ≠ id ∧ H[i]? = some o') ∨ (i = H.length ∧ o = o') := by
    intro i o' hi ho'
    have hlt : i < (H.set id .dead ++ [o]).length := (List.getElem?_eq_some_iff.1 hi).1
    simp only [List.length_append, List.length_set, List.length_cons, List.length_nil] at hlt
    by_cases hl : i < H.length
    · rw [List.getElem?_append_left (by rw [hlenk]; exact hl)] at hi
      rcases set_get H id i _ o' hi with ⟨_, e, _⟩ | ⟨e1, e⟩
      · exact absurd e.symm ho'
      · exact .inl ⟨hl, e1, e⟩
    · have he : i = H.length := by omega
      subst he
      rw [List.getElem?_append_right (by rw [hlenk]; exact Nat.le_refl _)] at hi
      simp only [hlenk, Nat.sub_self, List.getElem?_cons_zero, Option.some.injEq] at hi
      exact .inr ⟨rfl, hi⟩
  refine ⟨⟨by simp [h.len], h.small, h.base, ?_, ?_⟩, hl⟩
  · intro i o' hi ho'
    rcases cases2 hi ho' with ⟨i1, i2, i3⟩ | ⟨i1, i2⟩
    · obtain ⟨b2, c2, k1, k2, k3, k4⟩ := h.obj i o' i3 ho'
      exact ⟨b2, c2, prefix_get (List.prefix_append _ _) _ _ k1, k2, k3, k4.kept rfl (fun _ _ => hl.rep) (fun _ _ => hl.repA)⟩
    · subst i1
      subst i2
      exact ⟨b, c, by rw [← h.len]; simp, h2, h3, h4.kept rfl (fun _ _ => hl.rep) (fun _ _ => hl.repA)⟩
  · intro i j o1 o2 p p' hi ho1 hj ho2 hp hp' hpp
    have key : ∀ {i : Nat} {o' : HO} {p : Nat × Nat}, (H.set id .dead ++ [o])[i]? = some o' → o' ≠ .dead → (L ++ [(b, c)])[i]? = some p →
        (i < H.length ∧ i ≠ id ∧ H[i]? = some o' ∧ L[i]? = some p) ∨ (i = H.length ∧ p = (b, c)) := by
      intro i o' p hi ho' hp
      rcases cases2 hi ho' with ⟨i1, i2, i3⟩ | ⟨i1, i2⟩
      · rw [List.getElem?_append_left (by rw [h.len]; exact i1)] at hp
        exact .inl ⟨i1, i2, i3, hp⟩
      · subst i1
        rw [← h.len, List.getElem?_append_right (Nat.le_refl _)] at hp
        simp at hp
        exact .inr ⟨rfl, hp.symm⟩
    rcases key hi ho1 hp with ⟨a1, a2, a3, a4⟩ | ⟨a1, a2⟩ <;> rcases key hj ho2 hp' with ⟨c1, c2, c3, c4⟩ | ⟨c1, c2⟩
    · exact h.inj i j _ _ p p' a3 ho1 c3 ho2 a4 c4 hpp
    · exfalso
      rw [c2] at hpp
      exact a2 (h.inj i id _ _ p (b, c) a3 ho1 hid ho a4 hL hpp)
    · exfalso
      rw [a2] at hpp
      exact c2 (h.inj j id _ _ p' (b, c) c3 ho2 hid ho c4 hL hpp.symm)
    · omega
end
end Go.Proofs.Ytnmgfobpcengkaa
