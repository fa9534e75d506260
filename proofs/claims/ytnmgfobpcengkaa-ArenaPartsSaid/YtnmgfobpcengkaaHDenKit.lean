/-
  Lists of nodes, of ints and the like as values without addresses. Nothing here names the program.
-/
import Derived.Test.YtnmgfobpcengkaaHDenK
namespace Go.Proofs.Ytnmgfobpcengkaa
open Go.RowKit
set_option linter.unusedVariables false
set_option linter.unusedSimpArgs false

abbrev iD (n : Int) : D := .v (.int .i64 n)
abbrev bD (b : Bool) : D := .v (.bool b)
def nodeD (x : Nd) : List D := [iD x.1, iD x.2]
def oneI (n : Int) : List D := [iD n]
def nodesD (l : List Nd) : D := .sl 2 (l.map nodeD)
def intsD (l : List Int) : D := .sl 1 (l.map oneI)

def asInt : D → Option Int
  | .v (.int .i64 n) => some n
  | _ => none
def asNode : List D → Option Nd
  | [.v (.int .i64 a), .v (.int .i64 b)] => some (a, b)
  | _ => none
def asOne : List D → Option Int
  | [.v (.int .i64 a)] => some a
  | _ => none
def asNd : D → Option Nd
  | .agg cs => asNode cs
  | _ => none
def asNodes : D → Option (List Nd)
  | .sl _ els => els.mapM asNode
  | .v (.slice none 0 0) => some []
  | _ => none
def asInts : D → Option (List Int)
  | .sl _ els => els.mapM asOne
  | .v (.slice none 0 0) => some []
  | _ => none

theorem mapM_map {α β : Type} (f : α → β) (g : β → Option α) (h : ∀ x, g (f x) = some x) (l : List α) : (l.map f).mapM g = some l := by
  induction l with
  | nil => rfl
  | cons a r ih => simp [List.mapM_cons, h, ih]
@[simp] theorem asNodes_nodesD (l : List Nd) : asNodes (nodesD l) = some l := mapM_map nodeD asNode (fun _ => rfl) l
@[simp] theorem asInts_intsD (l : List Int) : asInts (intsD l) = some l := mapM_map oneI asOne (fun _ => rfl) l
@[simp] theorem asInt_iD (n : Int) : asInt (.v (.int .i64 n)) = some n := rfl
@[simp] theorem asNode_nodeD (x : Nd) : asNode (nodeD x) = some x := rfl
@[simp] theorem asNodes_nil : asNodes (.v (.slice none 0 0)) = some [] := rfl
@[simp] theorem asInts_nil : asInts (.v (.slice none 0 0)) = some [] := rfl

section
variable {S : Nat → Prop} {w : World}
theorem asInt_ok {L : List (Nat × Nat)} {d : D} {n : Int} {v : Value} (h : asInt d = some n) (hv : Rep S L w v d) : v = .int .i64 n := by
  unfold asInt at h
  split at h
  · cases h; simpa only [Rep] using hv
  · cases h
theorem asNode_ok {cs : List D} {x : Nd} (h : asNode cs = some x) : cs = nodeD x := by
  unfold asNode at h
  split at h
  · cases h; rfl
  · cases h
theorem asOne_ok {cs : List D} {x : Int} (h : asOne cs = some x) : cs = oneI x := by
  unfold asOne at h
  split at h
  · cases h; rfl
  · cases h
theorem mapM_ok {α : Type} (f : α → List D) (g : List D → Option α) (h : ∀ cs x, g cs = some x → cs = f x) : ∀ (els : List (List D)) (l : List α), els.mapM g = some l → els = l.map f
  | [], l, hm => by simp at hm; subst hm; rfl
  | e :: r, l, hm => by
    simp only [List.mapM_cons, Option.pure_def, Option.bind_eq_bind] at hm
    cases he : g e with
    | none => rw [he] at hm; cases hm
    | some x =>
      cases hr : r.mapM g with
      | none => rw [he, hr] at hm; cases hm
      | some t =>
        rw [he, hr] at hm
        cases hm
        rw [mapM_ok f g h r t hr, h e x he]; rfl
theorem asNd_ok {d : D} {x : Nd} {v : Value} (h : asNd d = some x) (hv : Rep S [] w v d) : v = .agg #[.int .i64 x.1, .int .i64 x.2] := by
  unfold asNd at h
  split at h
  · rw [asNode_ok h] at hv
    simp only [Rep, nodeD, RepA] at hv
    obtain ⟨xs, rfl, a, ys, rfl, rfl, b, zs, rfl, rfl, rfl⟩ := hv
    rfl
  · cases h

/-- Cells that read as elements of one size. -/
theorem flat_rows {α : Type} (f : α → List D) (g : α → List Value) (sz : Nat) (hl : ∀ x, (f x).length = sz) (hg : ∀ x, RepA S [] w (g x) (f x)) (l : List α) (b o : Nat) (h : ∀ j, j < (l.flatMap g).length → w.cell? ⟨b, o + j, none⟩ = (l.flatMap g)[j]?) : RepR S [] w b o sz (l.map f) := by
  induction l generalizing o with
  | nil => simp [RepR]
  | cons x r ih =>
    have hgx := (hg x).length
    simp only [List.map_cons, RepR]
    refine ⟨hl x, RepC.of (hg x) fun j y hj => ?_, ih (o + sz) fun j hj => ?_⟩
    · have hlt := (List.getElem?_eq_some_iff.1 hj).1
      rw [h j (by simp; omega), List.flatMap_cons, List.getElem?_append_left hlt, hj]
    · have := h (sz + j) (by rw [List.flatMap_cons, List.length_append, hgx, hl x]; omega)
      rw [List.flatMap_cons, List.getElem?_append_right (by rw [hgx, hl x]; omega), hgx, hl x, Nat.add_sub_cancel_left] at this
      rwa [Nat.add_assoc]
theorem rows_flat {α : Type} (f : α → List D) (g : α → List Value) (hg : ∀ x ys, RepA S [] w ys (f x) → ys = g x) (l : List α) (b o sz : Nat) (h : RepR S [] w b o sz (l.map f)) : ∀ j, j < (l.flatMap g).length → w.cell? ⟨b, o + j, none⟩ = (l.flatMap g)[j]? := by
  induction l generalizing o with
  | nil => intro j hj; simp at hj
  | cons x r ih =>
    simp only [List.map_cons, RepR] at h
    obtain ⟨h1, h2, h3⟩ := h
    obtain ⟨ys, h4, h5⟩ := h2.values
    have hy := hg x ys h4
    subst hy
    have hl := h4.length
    intro j hj
    rw [List.flatMap_cons]
    by_cases hlt : j < (g x).length
    · rw [List.getElem?_append_left hlt]
      exact (h5 j _ (List.getElem?_eq_getElem hlt)).trans (List.getElem?_eq_getElem hlt).symm
    · rw [List.getElem?_append_right (by omega), hl, h1]
      have := ih (o + sz) h3 (j - sz) (by rw [List.flatMap_cons, List.length_append] at hj; omega)
      rw [← this, show o + sz + (j - sz) = o + j from by omega]
theorem nodeRep (x : Nd) : RepA S [] w [.int .i64 x.1, .int .i64 x.2] (nodeD x) := RepA.cons (by simp only [Rep]) (RepA.cons (by simp only [Rep]) RepA.nil)
theorem nodeRep' (x : Nd) (ys : List Value) (h : RepA S [] w ys (nodeD x)) : ys = [.int .i64 x.1, .int .i64 x.2] := by
  simp only [nodeD, RepA, Rep] at h
  obtain ⟨a, t, rfl, rfl, b, u, rfl, rfl, rfl⟩ := h
  rfl
theorem oneRep (n : Int) : RepA S [] w [.int .i64 n] (oneI n) := RepA.cons (by simp only [Rep]) RepA.nil
theorem oneRep' (n : Int) (ys : List Value) (h : RepA S [] w ys (oneI n)) : ys = [.int .i64 n] := by
  simp only [oneI, RepA, Rep] at h
  obtain ⟨a, t, rfl, rfl, rfl⟩ := h
  rfl

theorem nodesD_rep {v : Value} {l : List Nd} (h : NodesIn S w v l) : Rep S [] w v (nodesD l) := by
  simp only [nodesD, Rep, List.length_map]
  rcases h with ⟨p, cap, h1, h2, _, h3⟩ | ⟨b, o, cap, h1, h2, h3, h4, h5⟩
  · have : l = [] := List.eq_nil_of_length_eq_zero h2
    subst this
    exact .inl ⟨rfl, p, cap, h1, h3⟩
  · exact .inr ⟨b, o, cap, h1, h2, h3, h4, flat_rows nodeD _ 2 (fun _ => rfl) nodeRep l b o h5⟩
theorem intsD_rep {v : Value} {l : List Int} (h : IntsIn S w v l) : Rep S [] w v (intsD l) := by
  simp only [intsD, Rep, List.length_map]
  have hm : l.map (Value.int .i64) = l.flatMap fun n => [Value.int .i64 n] := by
    clear h
    induction l with
    | nil => rfl
    | cons a r ih => simp [ih]
  unfold IntsIn at h
  rw [hm] at h
  rcases h with ⟨p, cap, h1, h2, _, h3⟩ | ⟨b, o, cap, h1, h2, h3, h4, h5⟩
  · have : l = [] := List.eq_nil_of_length_eq_zero h2
    subst this
    exact .inl ⟨rfl, p, cap, h1, h3⟩
  · exact .inr ⟨b, o, cap, h1, h2, h3, h4, flat_rows oneI _ 1 (fun _ => rfl) oneRep l b o h5⟩
theorem rep_slice {α : Type} (f : α → List D) (g : α → List Value) (hg : ∀ x ys, RepA S [] w ys (f x) → ys = g x) {v : Value} {l : List α} {sz : Nat} (h : Rep S [] w v (.sl sz (l.map f))) : SliceIn S w v l.length (l.flatMap g) := by
  simp only [Rep, List.length_map] at h
  rcases h with ⟨h1, p, cap, h2, h3⟩ | ⟨b, o, cap, h1, h2, h3, h4, h5⟩
  · have : l = [] := by simpa using h1
    subst this
    exact .inl ⟨p, cap, h2, rfl, rfl, h3⟩
  · exact .inr ⟨b, o, cap, h1, h2, h3, h4, rows_flat f g hg l b o sz h5⟩
theorem asNodes_ok {d : D} {l : List Nd} {v : Value} (h : asNodes d = some l) (hv : Rep S [] w v d) : NodesIn S w v l := by
  unfold asNodes at h
  split at h
  · rw [mapM_ok nodeD asNode (fun _ _ => asNode_ok) _ _ h] at hv
    exact rep_slice nodeD _ nodeRep' hv
  · cases h
    simp only [Rep] at hv
    exact .inl ⟨none, 0, hv, rfl, rfl, fun _ => rfl⟩
  · cases h
theorem asInts_ok {d : D} {l : List Int} {v : Value} (h : asInts d = some l) (hv : Rep S [] w v d) : IntsIn S w v l := by
  have hm : l.map (Value.int .i64) = l.flatMap fun n => [Value.int .i64 n] := by
    clear h
    induction l with
    | nil => rfl
    | cons a r ih => simp [ih]
  unfold IntsIn
  rw [hm]
  unfold asInts at h
  split at h
  · rw [mapM_ok oneI asOne (fun _ _ => asOne_ok) _ _ h] at hv
    exact rep_slice oneI _ oneRep' hv
  · cases h
    simp only [Rep] at hv
    exact .inl ⟨none, 0, hv, rfl, rfl, fun _ => rfl⟩
  · cases h
end

/- How the operations meet such lists. -/
@[simp] theorem elsD_nodesD (l : List Nd) : elsD 2 (nodesD l) = some (l.map nodeD) := by simp [elsD, nodesD]
@[simp] theorem elsD_intsD (l : List Int) : elsD 1 (intsD l) = some (l.map oneI) := by simp [elsD, intsD]
end Go.Proofs.Ytnmgfobpcengkaa
