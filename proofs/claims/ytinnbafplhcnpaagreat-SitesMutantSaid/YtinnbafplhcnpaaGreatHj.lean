import Derived.Test.YtinnbafplhcnpaaGreatProg
import Derived.WalkKit
import Derived.Test.YtinnbafplhcnpaaGreatHf
import Derived.Test.YtinnbafplhcnpaaGreatHg
import Derived.Test.YtinnbafplhcnpaaGreatHh
import Derived.Test.YtinnbafplhcnpaaGreatHi
section
namespace Go.Proofs.YtinnbafplhcnpaaGreat
open Go.RowKit
set_option linter.unusedVariables false
set_option linter.unusedSimpArgs false
def Buf (e : TypeId) (sz : Nat) (H : Heap) (B : Nat) (d : D) (n : Nat) (cs : List D) : Prop :=
  (d = .v (.slice none 0 0) /\ n = 0 /\ cs = []) \/ ∃ r, B <= r /\ d = .hs r n /\ H[r]? = some (.cells e sz cs) /\ cs.length = n * sz
def Kp (B : Nat) (H H' : Heap) : Prop := H.length <= H'.length /\ ∀ k, k < B -> H'[k]? = H[k]?
theorem Kp.refl (B : Nat) (H : Heap) : Kp B H H := ⟨Nat.le_refl _, fun _ _ => rfl⟩
theorem Kp.trans {B : Nat} {H H' H'' : Heap} (h : Kp B H H') (k : Kp B H' H'') : Kp B H H'' := ⟨Nat.le_trans h.1 k.1, fun i hi => (k.2 i hi).trans (h.2 i hi)⟩
theorem Kp.mono {B C : Nat} {H H' : Heap} (h : Kp B H H') (hc : C <= B) : Kp C H H' := ⟨h.1, fun i hi => h.2 i (by omega)⟩
theorem Kp.app (B : Nat) (H t : Heap) (h : B <= H.length) : Kp B H (H ++ t) := ⟨by simp, fun k hk => List.getElem?_append_left (by omega)⟩
theorem Kp.set {B : Nat} (H : Heap) (i : Nat) (o : HO) (h : B <= i) : Kp B H (H.set i o) := ⟨by simp, fun k hk => by rw [List.getElem?_set_ne (by omega)]⟩
theorem Buf.nil (e : TypeId) (sz : Nat) (H : Heap) (B : Nat) : Buf e sz H B (.v (.slice none 0 0)) 0 [] := .inl ⟨rfl, rfl, rfl⟩
theorem Buf.len {e : TypeId} {sz : Nat} {H : Heap} {B : Nat} {d : D} {n : Nat} {cs : List D} (h : Buf e sz H B d n cs) : cs.length = n * sz := by
  rcases h with ⟨_, rfl, rfl⟩ | ⟨_, _, _, _, h⟩
  · simp
  · exact h
theorem Buf.ok {e : TypeId} {sz : Nat} {H : Heap} {B : Nat} {d : D} {n : Nat} {cs : List D} (h : Buf e sz H B d n cs) : Jcc d = true := by
  rcases h with ⟨rfl, _, _⟩ | ⟨_, _, rfl, _, _⟩ <;> rfl
theorem Buf.keep {e : TypeId} {sz : Nat} {H H' : Heap} {B : Nat} {d : D} {n : Nat} {cs : List D} (h : Buf e sz H B d n cs) (k : ∀ r m, d = .hs r m -> H'[r]? = H[r]?) : Buf e sz H' B d n cs := by
  rcases h with h | ⟨r, h1, h2, h3, h4⟩
  · exact .inl h
  · exact .inr ⟨r, h1, h2, (k r n h2).trans h3, h4⟩
theorem Buf.app {e : TypeId} {sz : Nat} {H : Heap} {B : Nat} {d : D} {n : Nat} {cs : List D} (h : Buf e sz H B d n cs) (t : Heap) : Buf e sz (H ++ t) B d n cs := by
  rcases h with h | ⟨r, h1, h2, h3, h4⟩
  · exact .inl h
  · exact .inr ⟨r, h1, h2, by rw [List.getElem?_append_left (List.getElem?_eq_some_iff.1 h3).1]; exact h3, h4⟩
theorem Buf.set {e : TypeId} {sz : Nat} {H : Heap} {B : Nat} {d : D} {n : Nat} {cs : List D} (h : Buf e sz H B d n cs) (i : Nat) (o : HO) (hi : i < B) : Buf e sz (H.set i o) B d n cs := by
  rcases h with h | ⟨r, h1, h2, h3, h4⟩
  · exact .inl h
  · exact .inr ⟨r, h1, h2, by rw [List.getElem?_set_ne (by omega)]; exact h3, h4⟩
theorem Buf.lt {e : TypeId} {sz : Nat} {H : Heap} {B : Nat} {n r m : Nat} {cs : List D} (h : Buf e sz H B (.hs r m) n cs) : B <= r /\ r < H.length := by
  rcases h with ⟨h, _⟩ | ⟨r', h1, h2, h3, h4⟩
  · cases h
  · cases h2; exact ⟨h1, (List.getElem?_eq_some_iff.1 h3).1⟩
theorem Qdl     {e : TypeId} {sz : Nat} {H : Heap} {B : Nat} {d : D} {n m : Nat} {cs new : List D} (h : Buf e sz H B d n cs) (hsz : 0 < sz) (hn : new.length = m * sz) (hok : new.all Jcc    = true) (hb : cs.length + new.length ≤ 4000000) (hB : B ≤ H.length) :
    ∃ d' H', appH e sz d new H = some (d', H') /\ Buf e sz H' B d' (n + m) (cs ++ new) /\ Kp B H H' /\ (∀ k, k < H.length -> (∀ q, d ≠ .hs k q) -> H'[k]? = H[k]?) /\ (d' = d \/ ∃ q, d' = .hs H.length q) := by
  have hdiv : new.length / sz = m := by rw [hn]; exact Nat.mul_div_cancel _ hsz
  have hc : ¬ (sz = 0 \/ (!new.all Jcc) = true) := by rw [hok]; simp; omega
  rcases h with ⟨rfl, rfl, rfl⟩ | ⟨r, h1, rfl, h3, h4⟩
  · simp only [List.length_nil, Nat.zero_add] at hb
    by_cases h0 : new.length = 0
    · obtain rfl : new = [] := List.length_eq_zero_iff.1 h0
      have hm : m = 0 := by
        have : m * sz = 0 := by simpa using hn.symm
        rcases Nat.mul_eq_zero.1 this with h | h
        · exact h
        · omega
      subst hm
      exact ⟨_, H, by unfold appH; rw [if_neg hc]; simp, .inl ⟨rfl, rfl, rfl⟩, Kp.refl _ _, fun _ _ _ => rfl, .inl rfl⟩
    · refine ⟨.hs H.length m, H ++ [.cells e sz new], by unfold appH; rw [if_neg hc]; simp only; rw [if_neg h0, if_pos hb, hdiv], .inr ⟨H.length, hB, by simp, by simp, by simpa using hn⟩, Kp.app _ _ _ hB, fun k hk _ => List.getElem?_append_left hk, .inr ⟨_, rfl⟩⟩
  · refine ⟨.hs H.length (n + m), (H.set r .dead) ++ [.cells e sz (cs ++ new)], ?_, .inr ⟨H.length, hB, rfl, ?_, ?_⟩, ?_, ?_, .inr ⟨_, rfl⟩⟩
    · unfold appH
      rw [if_neg hc]
      simp only [h3]
      rw [if_pos ⟨trivial, trivial, h4, hb⟩, hdiv]
    · have : H.length = (H.set r .dead).length := by simp
      rw [this, List.getElem?_append_right (Nat.le_refl _)]; simp
    · rw [List.length_append, h4, hn, Nat.add_mul]
    · refine ⟨by simp, fun k hk => ?_⟩
      have hr := (List.getElem?_eq_some_iff.1 h3).1
      rw [List.getElem?_append_left (by simp; omega), List.getElem?_set_ne (by omega)]
    · intro k hk hq
      rw [List.getElem?_append_left (by simpa using hk), List.getElem?_set_ne (fun e => hq n (by rw [e]))]
theorem Jd7 (H : Heap) (w : Nat) (t : TypeId) (sz : Nat) (d : D) (r : List D) (h : H[w]? = some (.cells t sz (d :: r))) : Jad none H (.hp w 0) = some d := by simp [h]
theorem Jcr (H : Heap) (w i : Nat) (t : TypeId) (sz : Nat) (cs : List D) (d : D) (h : H[w]? = some (.cells t sz cs)) (hd : cs[i]? = some d) : Jad none H (.hp w i) = some d := by
  simp [h, List.getElem?_drop, hd]
theorem Jl5 (H : Heap) (w i : Nat) (t : TypeId) (sz : Nat) (cs : List D) (d : D) (h : H[w]? = some (.cells t sz cs)) (hi : i < cs.length) (hc : cellsD d = some [d]) (hd : Jcc d = true) : setH 1 (.hp w i) d H = some (.v undef, H.set w (.cells t sz (cs.set i d))) := by
  have e : cs.take i ++ [d] ++ cs.drop (i + 1) = cs.set i d := by rw [List.set_eq_take_append_cons_drop, if_pos hi]; simp
  simp only [setH, Jhz, hc, h, List.length_singleton]
  rw [if_pos ⟨trivial, by omega, by simp [hd]⟩, e]
  rfl
theorem Buf.cells {e : TypeId} {sz : Nat} {H : Heap} {B : Nat} {d : D} {n : Nat} {cs : List D} (h : Buf e sz H B d n cs) : cellsD d = some [d] := by
  rcases h with ⟨rfl, _, _⟩ | ⟨_, _, rfl, _, _⟩ <;> rfl
end Go.Proofs.YtinnbafplhcnpaaGreat
end
section
namespace Go.Proofs.YtinnbafplhcnpaaGreat
open Go.RowKit
set_option linter.unusedVariables false
set_option linter.unusedSimpArgs false
def Jbg (l : List Int) : List D := l.map fun n => iD n
def Jbo (l : List Nd) : List D := (l.map Jax).flatten
theorem Jgj (l : List Int) : (Jbg l).length = l.length := by simp [Jbg]
theorem Jg2 (l : List Nd) : (Jbo l).length = l.length * 2 := by
  induction l with
  | nil => rfl
  | cons x r ih => simp only [Jbo, List.map_cons, List.flatten_cons, List.length_append, List.length_cons, Jax] at ih ⊢; simp at ih ⊢; omega
theorem Jz0 (a b : List Int) : Jbg (a ++ b) = Jbg a ++ Jbg b := by simp [Jbg]
theorem Jqg (a b : List Nd) : Jbo (a ++ b) = Jbo a ++ Jbo b := by simp [Jbo]
theorem Qoa (l : List Int) : (Jbg l).all Jcc = true := by
  induction l with
  | nil => rfl
  | cons x r ih => simp only [Jbg, List.map_cons, List.all_cons] at ih ⊢; rw [ih]; rfl
theorem Qjo (l : List Nd) : (Jbo l).all Jcc = true := by
  induction l with
  | nil => rfl
  | cons x r ih => simp only [Jbo, List.map_cons, List.flatten_cons, List.all_append] at ih ⊢; rw [ih]; rfl
theorem Qhe (H : Heap) (n : Nat) (l : List Int) : (Jbg l).mapM (Jbs H n) = some (Jbg l) := by
  induction l with
  | nil => rfl
  | cons x r ih =>
    have e : Jbg (x :: r) = iD x :: Jbg r := rfl
    rw [e, List.mapM_cons, Jbt H n _ rfl, ih]; rfl
theorem Qcs (H : Heap) (n : Nat) (l : List Nd) : (Jbo l).mapM (Jbs H n) = some (Jbo l) := by
  induction l with
  | nil => rfl
  | cons x r ih =>
    have e : Jbo (x :: r) = iD x.1 :: iD x.2 :: Jbo r := rfl
    rw [e, List.mapM_cons, List.mapM_cons, Jbt H n _ rfl, Jbt H n _ rfl, ih]; rfl
theorem Qap (l : List Int) : chunks 1 l.length (Jbg l) = l.map oneI := by
  induction l with
  | nil => rfl
  | cons x r ih =>
    have e : Jbg (x :: r) = iD x :: Jbg r := rfl
    rw [e, List.length_cons, chunks, List.map_cons]
    simp only [List.take_succ_cons, List.take_zero, List.drop_succ_cons, List.drop_zero, ih, oneI]
theorem Jx3 (l : List Nd) : chunks 2 l.length (Jbo l) = l.map Jax := by
  induction l with
  | nil => rfl
  | cons x r ih =>
    have e : Jbo (x :: r) = iD x.1 :: iD x.2 :: Jbo r := rfl
    rw [e, List.length_cons, chunks, List.map_cons]
    simp only [List.take_succ_cons, List.take_zero, List.drop_succ_cons, List.drop_zero, ih, Jax]
theorem Buf.ints {e : TypeId} {H : Heap} {B : Nat} {d : D} {l : List Int} (h : Buf e 1 H B d l.length (Jbg l)) (n : Nat) : ∃ d', Jbs H (n + 1) d = some d' /\ Jdr d' = some l := by
  rcases h with ⟨rfl, h1, _⟩ | ⟨r, h1, rfl, h3, h4⟩
  · have : l = [] := List.length_eq_zero_iff.1 h1
    subst this
    exact ⟨_, Jbt H (n + 1) _ rfl, rfl⟩
  · refine ⟨Jag l, ?_, Jrk l⟩
    simp only [Jbs, h3]
    rw [if_pos (by rw [Jgj]; omega), List.take_of_length_le (by rw [Jgj]; omega), Qhe, Option.map_some, Qap]; rfl
end Go.Proofs.YtinnbafplhcnpaaGreat
end
section
namespace Go.Proofs.YtinnbafplhcnpaaGreat
open Go.RowKit
set_option linter.unusedVariables false
set_option linter.unusedSimpArgs false
def Alike (l l' : List Nd) : Prop := l.map ar = l'.map ar
theorem Alike.len {l l' : List Nd} (h : Alike l l') : l.length = l'.length := by
  have := congrArg List.length h
  simpa using this
theorem Alike.drop {l l' : List Nd} (h : Alike l l') (k : Nat) : Alike (l.drop k) (l'.drop k) := by
  unfold Alike at h ⊢
  rw [List.map_drop, List.map_drop, h]
theorem Ju8 : ∀ (l l' : List Nd) (a : Nat), Alike l l' -> scan a l = scan a l'
  | [], [], a, h => rfl
  | [], y :: s, a, h => by cases h
  | x :: r, [], a, h => by cases h
  | x :: r, y :: s, 0, h => by rw [Jd5, Jd5]
  | x :: r, y :: s, a + 1, h => by
    unfold Alike at h
    simp only [List.map_cons, List.cons.injEq] at h
    rw [Jc6, Jc6, h.1, Ju8 r s _ h.2]
theorem Jg5 {l l' : List Nd} (h : Alike l l') (i : Int) : endv l i = endv l' i := by
  unfold endv
  rw [Ju8 _ _ _ (h.drop i.toNat)]
theorem Qh4 {l l' : List Nd} (h : Alike l l') (i : Int) : arAt l i = arAt l' i := by
  have := congrArg (·[i.toNat]?) h
  simp only [List.getElem?_map] at this
  unfold arAt
  cases h1 : l[i.toNat]? with
  | none =>
    rw [h1] at this
    cases h2 : l'[i.toNat]? with
    | none => rfl
    | some y => rw [h2] at this; cases this
  | some x =>
    rw [h1] at this
    cases h2 : l'[i.toNat]? with
    | none => rw [h2] at this; cases this
    | some y => rw [h2] at this; simpa using this
theorem Jzq {l l' : List Nd} (h : Alike l l') (k : Int) : ∀ j, kth l k j = kth l' k j
  | 0 => rfl
  | j + 1 => by simp only [kth]; rw [Jzq h k j, Jg5 h]
theorem Jtd {l l' : List Nd} (h : Alike l l') (i : Int) : Jab l i = Jab l' i := by
  unfold Jab
  rw [Jg5 h, Qh4 h]
  split
  · rfl
  · exact List.map_congr_left fun j _ => Jzq h _ j
theorem Jvz {l l' : List Nd} (h : Alike l l') : ∀ (f : Nat) (i : Int), depV f l i = depV f l' i
  | 0, i => rfl
  | f + 1, i => by
    simp only [depV]
    rw [Jg5 h, Jtd h]
    have : depV f l = depV f l' := by funext j; exact Jvz h f j
    rw [this]
theorem Qlo (l : List Nd) (k : Nat) (y : Nd) (hk : k < l.length) (h : ar y = ar l[k]) : Alike l (l.set k y) := by
  unfold Alike
  rw [List.map_set, h]
  apply List.ext_getElem?
  intro j
  by_cases e : k = j
  · subst e
    rw [List.getElem?_set_self (by simpa using hk)]
    simp [hk]
  · rw [List.getElem?_set_ne e]
end Go.Proofs.YtinnbafplhcnpaaGreat
end
section
namespace Go.Proofs.YtinnbafplhcnpaaGreat
theorem Jsr (k : Nat) : ∀ (a : Nat) (l : List Nd) (t : Nat), scan a l = some t -> k < t -> ∃ w, 1 <= w /\ ∀ s, scan a (l.take k ++ s) = (scan w s).map (k + ·) := by
  induction k with
  | zero =>
    intro a l t h hk
    refine ⟨a, ?_, fun s => ?_⟩
    · cases a with
      | zero => rw [Jd5] at h; cases h; omega
      | succ a => omega
    · simp only [List.take_zero, List.nil_append, Nat.zero_add]
      cases scan a s <;> rfl
  | succ k ih =>
    intro a l t h hk
    cases a with
    | zero => rw [Jd5] at h; cases h; omega
    | succ a =>
      cases l with
      | nil => rw [Jky _ (by omega)] at h; cases h
      | cons x r =>
        rw [Jc6] at h
        by_cases hx : ar x < 0
        · rw [if_pos hx] at h; cases h
        · rw [if_neg hx] at h
          cases hs : scan (a + (ar x).toNat) r with
          | none => rw [hs] at h; cases h
          | some t' =>
            rw [hs] at h
            simp only [Option.map_some, Option.some.injEq] at h
            obtain ⟨w, hw, hall⟩ := ih _ _ _ hs (by omega)
            refine ⟨w, hw, fun s => ?_⟩
            rw [List.take_succ_cons, List.cons_append, Jc6, if_neg hx, hall]
            cases scan w s with
            | none => rfl
            | some c => simp only [Option.map_some, Option.some.injEq]; omega
section
variable {l r : List Nd} {k : Nat}
theorem Je7 (h : endv r 0 = r.length) : scan 1 r = some r.length := by
  obtain ⟨m, hs, he⟩ := Jdw r 0 (by show 0 <= endv r 0; rw [h]; omega)
  rw [List.drop_zero] at hs
  have : endv r 0 = ((0 + m : Nat) : Int) := he
  rw [hs]
  congr 1
  omega
theorem Qil (h : endv r 0 = r.length) : 0 < r.length := by
  have := Je7 h
  have := Qi0 _ _ _ this
  omega
theorem Jm2 (h : scan 1 r = some r.length) : endv r 0 = r.length := by
  have := Jki r 0 r.length (by rw [List.drop_zero]; exact h)
  have e : endv r 0 = ((0 + r.length : Nat) : Int) := this
  rw [e, Nat.zero_add]
theorem Jww (hE : 0 <= endv l k) (hr : endv r 0 = r.length) : endv (Jbx l k r) k = ((k + r.length : Nat) : Int) := by
  have hkl : k < l.length := by have := (Ja2 l k hE).2; simpa using this
  obtain ⟨m, hs, he⟩ := Jdw l k hE
  have hnlt : ¬ endv l k < 0 := by omega
  refine Jki _ k r.length ?_
  rw [Jbx, if_neg hnlt, he, List.append_assoc]
  rw [show ((k : Int)).toNat = k from rfl, List.drop_append_of_le_length (by simp; omega), List.drop_eq_nil_of_le (by simp; omega), List.nil_append]
  have := Jl6 1 r r.length (Je7 hr) (l.drop (((k + m : Nat) : Int)).toNat)
  rwa [List.take_length] at this
theorem Qni (hE : 0 <= endv l k) : (Jbx l k r).length + (Jcq l k).length = l.length + r.length := by
  have hkl : k < l.length := by have := (Ja2 l k hE).2; simpa using this
  have hnlt : ¬ endv l k < 0 := by omega
  have hle := Jgl l k
  have hgt := Jd2 l k hE
  rw [Jbx, if_neg hnlt, Jcq, if_neg hnlt]
  simp
  omega
theorem Qgl (hl : endv l 0 = l.length) (hE : 0 <= endv l k) (hr : endv r 0 = r.length) : endv (Jbx l k r) 0 = (Jbx l k r).length := by
  have hkl : k < l.length := by have := (Ja2 l k hE).2; simpa using this
  have hnlt : ¬ endv l k < 0 := by omega
  obtain ⟨m, hs, he⟩ := Jdw l k hE
  have hle := Jgl l k
  obtain ⟨w, hw, hall⟩ := Jsr k 1 l l.length (Je7 hl) hkl
  have h0 := hall (l.drop k)
  rw [List.take_append_drop, Je7 hl] at h0
  obtain ⟨v, rfl⟩ : ∃ v, w = 1 + v := ⟨w - 1, by omega⟩
  rw [Jm3, hs] at h0
  simp only [Option.bind_some, List.drop_drop] at h0
  have e1 : Jbx l k r = l.take k ++ (r ++ l.drop (k + m)) := by rw [Jbx, if_neg hnlt, he, List.append_assoc]; rfl
  have h1 := hall (r ++ l.drop (k + m))
  have h2 : scan 1 (r ++ l.drop (k + m)) = some r.length := by
    have := Jl6 1 r r.length (Je7 hr) (l.drop (k + m))
    rwa [List.take_length] at this
  rw [Jm3, h2] at h1
  simp only [Option.bind_some] at h1
  rw [List.drop_left' rfl] at h1
  refine Jm2 ?_
  rw [e1, h1]
  cases hv : scan v (l.drop (k + m)) with
  | none => rw [hv] at h0; cases h0
  | some c =>
    rw [hv] at h0
    simp only [Option.map_some, Option.some.injEq] at h0 ⊢
    simp
    omega
theorem Jk0 (hE : 0 <= endv l k) (j : Nat) (hj : j < k) : (Jbx l k r)[j]? = l[j]? := by
  have hkl : k < l.length := by have := (Ja2 l k hE).2; simpa using this
  rw [Jbx, if_neg (by omega), List.append_assoc, List.getElem?_append_left (by simp; omega)]
  simp [hj]
theorem Jsw (hE : 0 <= endv l k) (j : Nat) (hj : endv l k <= j) : (Jbx l k r)[j - (endv l k).toNat + k + r.length]? = l[j]? := by
  have hkl : k < l.length := by have := (Ja2 l k hE).2; simpa using this
  obtain ⟨m, hm⟩ := Int.eq_ofNat_of_zero_le hE
  rw [hm] at hj ⊢
  have hj' : m <= j := by omega
  rw [Jbx, if_neg (by omega), hm, show ((m : Int)).toNat = m from rfl, show ((k : Int)).toNat = k from rfl, List.getElem?_append_right (by simp; omega)]
  simp only [List.length_append, List.length_take, List.getElem?_drop]
  congr 1
  omega
end
end Go.Proofs.YtinnbafplhcnpaaGreat
end
section
namespace Go.Proofs.YtinnbafplhcnpaaGreat
open Go.RowKit
set_option linter.unusedVariables false
set_option linter.unusedSimpArgs false
structure Dl where
  path : List Int
  op : Int
  n : Int
  deriving DecidableEq, Inhabited
def mayV (x : Nd) (op n : Int) : Prop :=
  (op = 1 /\ 7 <= x.1 /\ x.1 <= 11 /\ 7 <= n /\ n <= 11) \/ (op = 2 /\ 12 <= x.1 /\ x.1 <= 17 /\ 12 <= n /\ n <= 17) \/ (op = 3 /\ 18 <= x.1 /\ x.1 <= 19 /\ 18 <= n /\ n <= 19) \/
  (op = 4 /\ (x.1 = 1 \/ (x.1 = 2 /\ 0 <= n /\ n <= 1))) \/ (op = 5 /\ (x.1 = 21 \/ x.1 = 22 \/ x.1 = 23 \/ x.1 = 24 \/ x.1 = 25) /\ n = 0) \/
  (op = 6 /\ (x.1 = 23 \/ x.1 = 24) /\ n = 0) \/ (op = 7 /\ x.1 = 25)
instance (x : Nd) (op n : Int) : Decidable (mayV x op n) := by unfold mayV; infer_instance
def Jaw (l : List Nd) (k : Nat) (x : Nd) (op n : Int) : List Nd :=
  if op = 1 \/ op = 2 \/ op = 3 then l.set k (n, x.2) else if op = 4 then l.set k (x.1, n) else
  if op = 5 then Jbx l k [(26, 0)] else if op = 6 then l.take (k + 1) ++ (6, 0) :: l.drop (k + 1) else Jbx l ((k + 1 : Nat) : Int) [(1, n)]
def Jp7 (l : List Nd) (k to : Nat) (r : List Nd) : List Nd := l.take k ++ r ++ l.drop to
theorem Qqo {t m : Int} (h1 : 7 <= t) (h2 : t <= 19) : (ar (t, m) = 2 /\ m = 0) \/ ar (t, m) = -1 := by
  have hl : lim t m = (0, 2) := by
    unfold lim
    rw [if_neg (by omega), if_neg (by omega), if_neg (by omega), if_neg (by omega), if_neg (by omega), if_neg (by omega), if_neg (by omega), if_neg (by omega), if_neg (by omega), if_pos ⟨h1, h2⟩]
  unfold ar
  simp only [hl]
  rw [if_neg (by omega)]
  split
  · exact .inr rfl
  · exact .inl ⟨rfl, by omega⟩
theorem Jt6 (n : Int) : ar (1, n) = 0 := rfl
theorem Qs1 {n : Int} (h0 : 0 <= n) (h1 : n <= 1) : ar (2, n) = 0 := by
  unfold ar
  rw [if_neg (show ¬ ((2 : Int) = 1) from by decide)]
  have : lim 2 n = (1, 0) := rfl
  simp only [this]
  rw [if_neg (by omega)]
theorem Qf0 {t n : Int} {a b : Int} (hl : lim t n = (a, b)) (ht : t ≠ 1) (h : 0 <= ar (t, n)) : ar (t, n) = b := by
  unfold ar at h ⊢
  rw [if_neg ht] at h ⊢
  simp only [hl] at h ⊢
  split at h
  · omega
  · rename_i hh; rw [if_neg hh]
theorem Jt5 : ar (26, 0) = 0 := by decide
theorem Qa1 : ar (6, 0) = 1 := by decide
theorem Qlk {n : Int} (h : 0 <= ar (25, n)) : ar (25, n) = 1 := Qf0 (a := 0) (b := 1) rfl (by decide) h
theorem Qs0 {n : Int} (h : 0 <= ar (23, n)) : ar (23, n) = 3 := Qf0 (a := 0) (b := 3) rfl (by decide) h
theorem Jyd {n : Int} (h : 0 <= ar (24, n)) : ar (24, n) = 2 := Qf0 (a := 0) (b := 2) rfl (by decide) h
theorem Jil {y : Nd} (hy : ar y = 0) : endv [y] 0 = ([y] : List Nd).length := by
  refine Jm2 ?_
  rw [show (1 : Nat) = 0 + 1 from rfl, Jc6, if_neg (by omega), hy]
  rfl
section
variable {l : List Nd} {k : Nat} {op n : Int}
theorem Jyc (hE : 0 <= endv l k) : ∃ hk : k < l.length, 0 <= ar l[k] /\ arAt l k = ar l[k] := by
  have hk : k < l.length := by have := (Ja2 l k hE).2; simpa using this
  have := Jck l k hE
  rw [Jb1 _ _ hk] at this
  exact ⟨hk, this, Jb1 _ _ hk⟩
theorem Jkh (hE : 0 <= endv l k) (h : 0 < arAt l k) : 0 <= endv l ((k + 1 : Nat) : Int) /\ endv l ((k + 1 : Nat) : Int) <= endv l k /\ k + 1 < l.length := by
  have := Jd8 l k hE 0 (by omega)
  have h3 : kth l (k + 1) 0 = ((k + 1 : Nat) : Int) := by simp [kth]
  rw [h3] at this
  obtain ⟨_, _, a, b⟩ := this
  have := (Ja2 l _ a).2
  exact ⟨a, b, by simpa using this⟩
theorem Qrv (hE : 0 <= endv l k) (h : arAt l k = 1) : endv l ((k + 1 : Nat) : Int) = endv l k := by
  have h1 := Jr3 l k hE
  rw [h, show (1 : Int).toNat = 0 + 1 from rfl] at h1
  have h2 : endv l (kth l (k + 1) 0) = endv l k := h1
  have h3 : kth l (k + 1) 0 = ((k + 1 : Nat) : Int) := by simp [kth]
  rw [<- h3]; exact h2
theorem Qe3 (hE : 0 <= endv l ((k + 1 : Nat) : Int)) : l.take (k + 1) ++ (6, 0) :: l.drop (k + 1) = Jbx l ((k + 1 : Nat) : Int) ((6, 0) :: Jcq l ((k + 1 : Nat) : Int)) := by
  have hgt := Jd2 l _ hE
  have hle := Jgl l ((k + 1 : Nat) : Int)
  obtain ⟨m, hm⟩ := Int.eq_ofNat_of_zero_le hE
  rw [hm] at hgt hle
  rw [Jbx, if_neg (by omega), Jcq, if_neg (by omega), hm]
  simp only [Int.toNat_natCast, List.append_assoc, List.cons_append]
  congr 2
  have e : l.drop (k + 1) = ((l.take m).drop (k + 1)) ++ l.drop m := by
    conv => lhs; rw [<- List.take_append_drop m l]
    rw [List.drop_append_of_le_length (by simp; omega)]
  exact e
theorem Jm7 {q : Nat} (h : 0 <= endv l q) : endv (Jcq l q) 0 = (Jcq l q).length := by
  obtain ⟨m, hs, he⟩ := Jdw l q h
  have hle := Qiz _ _ _ hs
  have e : Jcq l q = (l.drop q).take m := by
    rw [Jcq, if_neg (by omega), he]
    simp only [Int.toNat_natCast]
    rw [List.drop_take]
    congr 1
    omega
  have := Jl6 1 _ m hs []
  rw [List.append_nil] at this
  refine Jm2 ?_
  rw [e, this, List.length_take, Nat.min_eq_left hle]
theorem Jti (hE : 0 <= endv l ((k + 1 : Nat) : Int)) : endv ((6, 0) :: Jcq l ((k + 1 : Nat) : Int)) 0 = ((6, 0) :: Jcq l ((k + 1 : Nat) : Int)).length := by
  have hp : endv (Jcq l ((k + 1 : Nat) : Int)) 0 = (Jcq l ((k + 1 : Nat) : Int)).length := Jm7 hE
  refine Jm2 ?_
  rw [show (1 : Nat) = 0 + 1 from rfl, Jc6, if_neg (by rw [Qa1]; omega), Qa1]
  have := Je7 hp
  show (scan 1 _).map _ = _
  rw [this]
  simp
theorem Qro {x : Nd} (h : mayV x op n) (h4 : op <= 4) : (op = 1 \/ op = 2 \/ op = 3) /\ 7 <= x.1 /\ x.1 <= 19 /\ 7 <= n /\ n <= 19 \/ op = 4 /\ (x.1 = 1 \/ (x.1 = 2 /\ 0 <= n /\ n <= 1)) := by
  rcases h with h | h | h | h | h | h | h
  · exact .inl ⟨.inl h.1, by omega, by omega, by omega, by omega⟩
  · exact .inl ⟨.inr (.inl h.1), by omega, by omega, by omega, by omega⟩
  · exact .inl ⟨.inr (.inr h.1), by omega, by omega, by omega, by omega⟩
  · exact .inr h
  · omega
  · omega
  · omega
theorem Jg6 (hE : 0 <= endv l k) (x : Nd) (hx : l[k]? = some x) (h : mayV x op n) (h4 : op <= 4) : ∃ y, Jaw l k x op n = l.set k y /\ ar y = ar x /\ ((op <= 3 /\ y = (n, x.2)) \/ (op = 4 /\ y = (x.1, n))) := by
  obtain ⟨hk, h0, _⟩ := Jyc hE
  have hxe : l[k] = x := (List.getElem?_eq_some_iff.1 hx).2
  rw [hxe] at h0
  rcases Qro h h4 with ⟨ho, a, b, c, d⟩ | ⟨ho, h⟩
  · refine ⟨(n, x.2), by unfold Jaw; rw [if_pos ho], ?_, .inl ⟨by omega, rfl⟩⟩
    obtain ⟨t, m⟩ := x
    simp only at a b h0
    rcases Qqo (m := m) a b with ⟨e, rfl⟩ | e
    · rcases Qqo (m := 0) c d with ⟨e', _⟩ | e'
      · simp only; rw [e, e']
      · exfalso
        have : ar (n, 0) ≠ -1 := by
          have hl : lim n 0 = (0, 2) := by
            unfold lim
            rw [if_neg (by omega), if_neg (by omega), if_neg (by omega), if_neg (by omega), if_neg (by omega), if_neg (by omega), if_neg (by omega), if_neg (by omega), if_neg (by omega), if_pos ⟨c, d⟩]
          unfold ar
          simp only [hl]
          rw [if_neg (by omega), if_neg (by omega)]
          omega
        exact this e'
    · omega
  · refine ⟨(x.1, n), by unfold Jaw; rw [if_neg (by omega), if_pos ho], ?_, .inr ⟨ho, rfl⟩⟩
    obtain ⟨t, m⟩ := x
    simp only at h h0
    rcases h with rfl | ⟨rfl, h1, h2⟩
    · rw [Jt6, Jt6]
    · rw [Qs1 h1 h2]
      exact (Qf0 (a := 1) (b := 0) rfl (by decide) h0).symm
theorem Jpp (hE : 0 <= endv l k) (x : Nd) (hx : l[k]? = some x) (h : mayV x op n) (h4 : op <= 4) : Alike l (Jaw l k x op n) := by
  obtain ⟨y, h1, h2, _⟩ := Jg6 hE x hx h h4
  obtain ⟨hk, hxe⟩ := List.getElem?_eq_some_iff.1 hx
  rw [h1]
  exact Qlo l k y hk (by rw [h2, hxe])
theorem Jmr          (hl : endv l 0 = l.length) (hE : 0 ≤ endv l k) (x : Nd) (hx : l[k]? = some x) (h : mayV x op n) : endv (Jaw      l k x op n) 0 = (Jaw      l k x op n).length ∧ (Jaw      l k x op n).length ≤ l.length + 1 ∧
    (∀ j, j < k -> (Jaw l k x op n)[j]? = l[j]?) /\ ∀ j : Nat, endv l k <= j -> j < l.length -> l.length <= (Jaw l k x op n).length + j /\ (Jaw l k x op n)[(Jaw l k x op n).length + j - l.length]? = l[j]? := by
  obtain ⟨hk, h0, har⟩ := Jyc hE
  have hxe : l[k] = x := (List.getElem?_eq_some_iff.1 hx).2
  rw [hxe] at h0 har
  have hgt := Jd2 l k hE
  by_cases h4 : op <= 4
  · obtain ⟨y, h1, h2, h3⟩ := Jg6 hE x hx h h4
    have ha := Jpp hE x hx h h4
    refine ⟨by rw [<- Jg5 ha, hl, ha.len], by rw [h1, List.length_set]; omega, fun j hj => by rw [h1, List.getElem?_set_ne (by omega)], fun j hj hj2 => ⟨by rw [h1, List.length_set]; omega, ?_⟩⟩
    rw [h1, List.length_set, Nat.add_sub_cancel_left, List.getElem?_set_ne (by omega)]
  · have repl : ∀ (q : Nat) (r : List Nd), 0 ≤ endv l q → endv l q ≤ endv l k → k ≤ q → endv r 0 = r.length → r.length ≤ (Jcq   l q).length + 1 → Jaw      l k x op n = Jbx   l q r → endv (Jaw      l k x op n) 0 = (Jaw      l k x op n).length ∧ (Jaw      l k x op n).length ≤ l.length + 1 ∧
        (∀ j, j < k -> (Jaw l k x op n)[j]? = l[j]?) /\ ∀ j : Nat, endv l k <= j -> j < l.length -> l.length <= (Jaw l k x op n).length + j /\ (Jaw l k x op n)[(Jaw l k x op n).length + j - l.length]? = l[j]? := by
      intro q r hq hqk hkq hr hrl e
      have hlen := Qni (r := r) hq
      have hpl : (Jcq l q).length = (endv l q).toNat - q := by
        have h1 := Jgl l q
        have h2 := Jd2 l q hq
        rw [Jcq, if_neg (by omega)]
        simp
        omega
      have h2 := Jd2 l q hq
      rw [e]
      refine ⟨Qgl hl hq hr, by omega, fun j hj => Jk0 hq j (by omega), fun j hj hj2 => ⟨by omega, ?_⟩⟩
      have := Jsw (r := r) hq j (by omega)
      rw [<- this]
      congr 1
      omega
    have hpos : ∀ q : Nat, 0 <= endv l q -> 1 <= (Jcq l q).length := fun q hq => by
      have h1 := Jgl l q
      have h2 := Jd2 l q hq
      rw [Jcq, if_neg (by omega)]
      simp
      omega
    have ho : (op = 5 \/ (op = 6 /\ (x.1 = 23 \/ x.1 = 24)) \/ (op = 7 /\ x.1 = 25)) := by
      rcases h with h | h | h | h | h | h | h
      · omega
      · omega
      · omega
      · omega
      · exact .inl h.1
      · exact .inr (.inl ⟨h.1, h.2.1⟩)
      · exact .inr (.inr h)
    rcases ho with ho | ⟨ho, ht⟩ | ⟨ho, ht⟩
    · refine repl k [(26, 0)] hE (Int.le_refl _) (Nat.le_refl _) (Jil Jt5) (by have := hpos k hE; simp) ?_
      unfold Jaw
      rw [if_neg (by omega), if_neg (by omega), if_pos ho]
    · have ha : 0 < arAt l k := by
        rw [har]
        obtain ⟨t, m⟩ := x
        simp only at ht h0
        rcases ht with rfl | rfl
        · rw [Qs0 h0]; omega
        · rw [Jyd h0]; omega
      obtain ⟨f1, f2, f3⟩ := Jkh hE ha
      refine repl (k + 1) _ f1 f2 (by omega) (Jti f1) (by simp) ?_
      unfold Jaw
      rw [if_neg (by omega), if_neg (by omega), if_neg (by omega), if_pos ho]
      exact Qe3 f1
    · have ha : arAt l k = 1 := by
        rw [har]
        obtain ⟨t, m⟩ := x
        simp only at ht h0
        subst ht
        exact Qlk h0
      obtain ⟨f1, f2, f3⟩ := Jkh hE (by omega)
      refine repl (k + 1) [(1, n)] f1 f2 (by omega) (Jil (Jt6 n)) (by have := hpos _ f1; simp) ?_
      unfold Jaw
      rw [if_neg (by omega), if_neg (by omega), if_neg (by omega), if_neg (by omega)]
end
end Go.Proofs.YtinnbafplhcnpaaGreat
end
section
namespace Go.Proofs.YtinnbafplhcnpaaGreat
open Go.RowKit
set_option linter.unusedVariables false
set_option linter.unusedSimpArgs false
def dlC (d : Dl) : List D := [Jag d.path, iD d.op, iD d.n]
def dlD (d : Dl) : D := .agg (dlC d)
def Jt3 : List D -> Option Dl
  | [a, b, c] => (Jdr a).bind fun p => (asInt b).bind fun o => (asInt c).map fun n => ⟨p, o, n⟩
  | _ => none
def asDl : D -> Option Dl
  | .agg cs => Jt3 cs
  | _ => none
@[simp] theorem Qpd (d : Dl) : asDl (dlD d) = some d := by simp [asDl, dlD, dlC, Jt3]
theorem Qkg {cs : List D} {d : Dl} (h : Jt3 cs = some d) : ImpL cs (dlC d) := by
  unfold Jt3 at h
  split at h
  · rename_i a b c
    obtain ⟨p, h1, h⟩ := Option.bind_eq_some_iff.1 h
    obtain ⟨o, h2, h⟩ := Option.bind_eq_some_iff.1 h
    obtain ⟨n, h3, h⟩ := Option.map_eq_some_iff.1 h
    subst h
    exact .cons (Jid h1) (.cons (intT.ok _ _ h2) (.cons (intT.ok _ _ h3) .nil))
  · cases h
def dlT : Dec Dl := ⟨dlD, asDl, Qpd, fun d a h => by
  unfold asDl at h
  split at h
  · exact Imp.agg (Qkg h)
  · cases h⟩
@[simp] theorem pure_dl (d : Dl) : Jd6 (dlD d) = true := rfl
@[simp] theorem pureL_dlC (d : Dl) : Jfi (dlC d) = true := rfl
@[simp] theorem box_dl (t : TypeId) (d : Dl) (H : Heap) : boxH t (dlD d) H = some (.hp H.length 0, H ++ [.cells t 3 [Jag d.path, iD d.op, iD d.n]]) := rfl
theorem dl_agg (d : Dl) : D.agg [Jag d.path, iD d.op, iD d.n] = dlD d := rfl
theorem Qel (p : Pg) : D.agg [iD p.params, Jag p.vars, Jaf p.body] = Jak p := rfl
structure Chg where
  p : Pg
  k : Int
  n : Int
  deriving DecidableEq, Inhabited
def chC (c : Chg) : List D := [iD c.p.params, Jag c.p.vars, Jaf c.p.body, iD c.k, iD c.n]
def chD (c : Chg) : D := .agg (chC c)
def Qpf : List D -> Option Chg
  | [a, b, c, d, e] => (asInt a).bind fun m => (Jdr b).bind fun vs => (Jbw c).bind fun l => (asInt d).bind fun k => (asInt e).map fun n => ⟨⟨m, vs, l⟩, k, n⟩
  | _ => none
def asCh : D -> Option Chg
  | .agg cs => Qpf cs
  | _ => none
@[simp] theorem Qpe (c : Chg) : asCh (chD c) = some c := by simp [asCh, chD, chC, Qpf]
theorem Qrx {cs : List D} {c : Chg} (h : Qpf cs = some c) : ImpL cs (chC c) := by
  unfold Qpf at h
  split at h
  · rename_i a b x d e
    obtain ⟨m, h1, h⟩ := Option.bind_eq_some_iff.1 h
    obtain ⟨vs, h2, h⟩ := Option.bind_eq_some_iff.1 h
    obtain ⟨l, h3, h⟩ := Option.bind_eq_some_iff.1 h
    obtain ⟨k, h4, h⟩ := Option.bind_eq_some_iff.1 h
    obtain ⟨n, h5, h⟩ := Option.map_eq_some_iff.1 h
    subst h
    exact .cons (intT.ok _ _ h1) (.cons (Jid h2) (.cons (Jtk h3) (.cons (intT.ok _ _ h4) (.cons (intT.ok _ _ h5) .nil))))
  · cases h
def chT : Dec Chg := ⟨chD, asCh, Qpe, fun d a h => by
  unfold asCh at h
  split at h
  · exact Imp.agg (Qrx h)
  · cases h⟩
@[simp] theorem pure_ch (c : Chg) : Jd6 (chD c) = true := rfl
@[simp] theorem pureL_chC (c : Chg) : Jfi (chC c) = true := rfl
@[simp] theorem box_ch (t : TypeId) (c : Chg) (H : Heap) : boxH t (chD c) H = some (.hp H.length 0, H ++ [.cells t 5 [iD c.p.params, Jag c.p.vars, Jaf c.p.body, iD c.k, iD c.n]]) := rfl
theorem Jgn (c : Chg) : D.agg [iD c.p.params, Jag c.p.vars, Jaf c.p.body, iD c.k, iD c.n] = chD c := rfl
theorem Qg7 (l : List Nd) (k : Nat) (x : Nd) (hk : k < l.length) : Jbo (l.set k x) = (Jbo l).take (2 * k) ++ Jax x ++ (Jbo l).drop (2 * k + 2) := by
  have h0 : Jbo l = Jbo (l.take k) ++ (Jax l[k] ++ Jbo (l.drop (k + 1))) := by
    have e : l = l.take k ++ (l[k] :: l.drop (k + 1)) := by rw [<- List.drop_eq_getElem_cons hk, List.take_append_drop]
    have e2 : Jbo (l[k] :: l.drop (k + 1)) = Jax l[k] ++ Jbo (l.drop (k + 1)) := rfl
    conv => lhs; rw [e]
    rw [Jqg, e2]
  have hl : (Jbo (l.take k)).length = 2 * k := by rw [Jg2, List.length_take]; omega
  have h1 : (Jbo l).take (2 * k) = Jbo (l.take k) := by rw [h0]; exact List.take_left' hl
  have h2 : (Jbo l).drop (2 * k + 2) = Jbo (l.drop (k + 1)) := by
    rw [h0, <- List.append_assoc]
    exact List.drop_left' (by simp [hl, Jax])
  rw [h1, h2, List.set_eq_take_append_cons_drop, if_pos hk, Jqg]
  have e2 : Jbo (x :: l.drop (k + 1)) = Jax x ++ Jbo (l.drop (k + 1)) := rfl
  rw [e2, List.append_assoc]
theorem Jtt (H : Heap) (n : Nat) (t : TypeId) (id : Nat) (l : List Nd) (h : H[id]? = some (.cells t 2 (Jbo l))) : Jbs H (n + 1) (.hs id l.length) = some (Jaf l) := by
  simp only [Jbs, h]
  rw [if_pos (by rw [Jg2]; omega), List.take_of_length_le (by rw [Jg2]; omega), Qcs, Option.map_some, Jx3]; rfl
theorem Qjf (H : Heap) (t : TypeId) (id : Nat) (l : List Nd) (h : H[id]? = some (.cells t 2 (Jbo l))) : outD (some (.hs id l.length, H)) = some (Jaf l) := Jtt H 8 t id l h
theorem Qis (H : Heap) (l : List Nd) : srcH 2 H (Jaf l) = some (Jbo l) := by
  show (elsD 2 (.sl 2 (l.map Jax))).map List.flatten = _
  cases l <;> rfl
end Go.Proofs.YtinnbafplhcnpaaGreat
end
section
namespace Go.Proofs.YtinnbafplhcnpaaGreat
open Go.RowKit
set_option linter.unusedVariables false
set_option maxRecDepth 100000
def Jfl : List Nat := [2, 3, 6, 7, 8]
theorem Jus (n : Nat) (x0 : D) (h : Heap) : Jap Tryz.prog T12a Jfl n Tryz.f90 [x0] h =
(thn (lenH .sl x0) fun y0 =>
Jdl (Jds Tryz.prog T12a Jfl n Tryz.f90 0 [(iD 0), (iD 0), x0, y0, (iD 0)] h) (fun j1 s2 h3 =>
Jew j1 0
(some ((s2.getD 1 .undef), h3))
(none)) (fun s2 h3 =>
some ((s2.getD 0 .undef), h3))) := by kernel_rfl
theorem Jhw (n : Nat) (s0 s1 s2 s3 s4 : D) (h : Heap) : Jdu Tryz.prog T12a Jfl n Tryz.f90 0 [s0, s1, s2, s3, s4] h =
(thn (binK .int .lss s4 s3) fun y0 =>
Jah y0
(thn (idxH 1 s2 s4) fun y1 =>
thn (Jad none h y1) fun y2 =>
thn (binK .int .neq y2 s1) fun y3 =>
Jah y3
(some (.ret, [y2, s1, s2, s3, s4], h))
(thn (binK .int .add s4 (iD 1)) fun y4 =>
some (.normal, [s0, s1, s2, s3, y4], h)))
(some ((.exit 0), [s0, s1, s2, s3, s4], h))) := by kernel_rfl
def Jmj : List Nat := []
theorem Jyx (n : Nat) (x0 : D) (h : Heap) : Jap Tryz.prog T12a Jmj n Tryz.f110 [x0] h =
(thn (binK .sl .eql x0 (.v (.slice none 0 0))) fun y0 =>
Jah y0
(some ((.v (.slice none 0 0)), h))
(thnH (rowH 54 2 0 [(iD 0), (iD 0)] [] h) fun y1 h2 =>
thnH (Jd3 54 2 y1 x0 h2) fun y3 h4 =>
some (y3, h4))) := by kernel_rfl
def Jhp : List Nat := []
theorem Jl3 (n : Nat) (x0 : D) (h : Heap) : Jap Tryz.prog T12a Jhp n Tryz.f106 [x0] h =
(thnH (boxH 97 x0 h) fun y0 h1 =>
thnH (Jaz 54 [(iD 0), (iD 0)] h1) fun y2 h3 =>
thn (Jaa 0 y0) fun y4 =>
thn (Jaa 2 y4) fun y5 =>
thn (Jad none h3 y5) fun y6 =>
thn (Jaa 3 y0) fun y7 =>
thn (Jad none h3 y7) fun y8 =>
thn (idxH 2 y6 y8) fun y9 =>
thn (Jad (some 2) h3 y9) fun y10 =>
thnH (setH 2 y2 y10 h3) fun y11 h12 =>
thn (Jad (some 2) h12 y2) fun y13 =>
some (y13, h12)) := by kernel_rfl
def Jhk : List Nat := []
theorem Jlx (n : Nat) (x0 x1 : D) (h : Heap) : Jap Tryz.prog T12a Jhk n Tryz.f65 [x0, x1] h =
(thn (binK .int .lss x0 x1) fun y0 =>
Jah y0
(some ((iD (-1)), h))
(thn (binK .int .gtr x0 x1) fun y1 =>
Jah y1
(some ((iD 1), h))
(some ((iD 0), h)))) := by kernel_rfl
def Jfx : List Nat := []
theorem Jj5 (n : Nat) (x0 x1 x2 : D) (h : Heap) : Jap Tryz.prog T12a Jfx n Tryz.f111 [x0, x1, x2] h =
(thn (binK .int .geq x0 x1) fun y0 =>
Jah y0
(thn (binK .int .leq x0 x2) fun y1 =>
some (y1, h))
(some ((bD false), h))) := by kernel_rfl
def Ja6 : List Nat := [0, 1, 2, 3, 9, 10, 11, 12]
theorem Jlw (n : Nat) (x0 x1 x2 x3 : D) (h : Heap) : Jap Tryz.prog T12a Ja6 n Tryz.f112 [x0, x1, x2, x3] h =
(Jdl (Jds Tryz.prog T12a Ja6 n Tryz.f112 0 [x0, x1, x2, x3, (.v (.slice none 0 0)), (iD 0), .undef, .undef] h) (fun j0 s1 h2 =>
Jew j0 0
(Jdl (Jds Tryz.prog T12a Ja6 n Tryz.f112 1 [(s1.getD 0 .undef), (s1.getD 1 .undef), (s1.getD 2 .undef), (s1.getD 3 .undef), (s1.getD 4 .undef), (s1.getD 5 .undef), (iD 0), (s1.getD 7 .undef)] h2) (fun j3 s4 h5 =>
Jew j3 2
(Jdl (Jds Tryz.prog T12a Ja6 n Tryz.f112 2 [(s4.getD 0 .undef), (s4.getD 1 .undef), (s4.getD 2 .undef), (s4.getD 3 .undef), (s4.getD 4 .undef), (s4.getD 5 .undef), (s4.getD 6 .undef), (s4.getD 2 .undef)] h5) (fun j6 s7 h8 =>
Jew j6 4
(some ((s7.getD 4 .undef), h8))
(none)) (fun s7 h8 =>
some (.undef, h8)))
(none)) (fun s4 h5 =>
some (.undef, h5)))
(none)) (fun s1 h2 =>
some (.undef, h2))) := by kernel_rfl
theorem Jf8 (n : Nat) (s0 s1 s2 s3 s4 s5 s6 s7 : D) (h : Heap) : Jdu Tryz.prog T12a Ja6 n Tryz.f112 0 [s0, s1, s2, s3, s4, s5, s6, s7] h =
(thn (binK .int .lss s5 s1) fun y0 =>
Jah y0
(thn (idxH 2 s0 s5) fun y1 =>
thn (Jad (some 2) h y1) fun y2 =>
thnH (rowH 54 2 1 [(iD 0), (iD 0)] [(0, y2)] h) fun y3 h4 =>
thnH (Jd3 54 2 s4 y3 h4) fun y5 h6 =>
thn (binK .int .add s5 (iD 1)) fun y7 =>
some (.normal, [s0, s1, s2, s3, y5, y7, s6, s7], h6))
(some ((.exit 0), [s0, s1, s2, s3, s4, s5, s6, s7], h))) := by kernel_rfl
theorem Jf7 (n : Nat) (s0 s1 s2 s3 s4 s5 s6 s7 : D) (h : Heap) : Jdu Tryz.prog T12a Ja6 n Tryz.f112 1 [s0, s1, s2, s3, s4, s5, s6, s7] h =
(thn (lenH .sl s3) fun y0 =>
thn (binK .int .lss s6 y0) fun y1 =>
Jah y1
(thn (idxH 2 s3 s6) fun y2 =>
thn (Jad (some 2) h y2) fun y3 =>
thnH (rowH 54 2 1 [(iD 0), (iD 0)] [(0, y3)] h) fun y4 h5 =>
thnH (Jd3 54 2 s4 y4 h5) fun y6 h7 =>
thn (binK .int .add s6 (iD 1)) fun y8 =>
some (.normal, [s0, s1, s2, s3, y6, s5, y8, s7], h7))
(some ((.exit 2), [s0, s1, s2, s3, s4, s5, s6, s7], h))) := by kernel_rfl
theorem Jf6 (n : Nat) (s0 s1 s2 s3 s4 s5 s6 s7 : D) (h : Heap) : Jdu Tryz.prog T12a Ja6 n Tryz.f112 2 [s0, s1, s2, s3, s4, s5, s6, s7] h =
(thn (lenH .sl s0) fun y0 =>
thn (binK .int .lss s7 y0) fun y1 =>
Jah y1
(thn (idxH 2 s0 s7) fun y2 =>
thn (Jad (some 2) h y2) fun y3 =>
thnH (rowH 54 2 1 [(iD 0), (iD 0)] [(0, y3)] h) fun y4 h5 =>
thnH (Jd3 54 2 s4 y4 h5) fun y6 h7 =>
thn (binK .int .add s7 (iD 1)) fun y8 =>
some (.normal, [s0, s1, s2, s3, y6, s5, s6, y8], h7))
(some ((.exit 4), [s0, s1, s2, s3, s4, s5, s6, s7], h))) := by kernel_rfl
end Go.Proofs.YtinnbafplhcnpaaGreat
end
section
namespace Go.Proofs.YtinnbafplhcnpaaGreat
open Go.RowKit
set_option linter.unusedVariables false
def Jgr (P : Program) (T : Tab) (kp : List Nat) (n : Nat) (f : FuncId) : List D -> Heap -> Option (D × Heap) := fun ds H =>
  match P.funcs[f]? with
  | some fn => Jap P T kp n fn ds H
  | none => none
theorem Jct {P : Program} {T : Tab} {kp : List Nat} {n : Nat} {f : FuncId} {fn : Func} (h : P.funcs[f]? = some fn) (ds : List D) (H : Heap) : Jgr P T kp n f ds H = Jap P T kp n fn ds H := by unfold Jgr; rw [h]
theorem Jdf {P : Program} {T : Tab} {kp : List Nat} {n : Nat} (hT : TabOk P T) (hm : P.follows .mixedOrders = true) {f : FuncId} {fn : Func} (hf : P.funcs[f]? = some fn) (hb : fn.body.isSome = true) (hname : fn.name ≠ "runtime.NumGoroutine") : HCallOk P f (Jgr P T kp n f) :=
  Jvs (kp := kp) hT hm hf hb hname fun ds H d H' h => ⟨n, by rw [Jct hf] at h; exact h⟩
end Go.Proofs.YtinnbafplhcnpaaGreat
end
section
namespace Go.Proofs.YtinnbafplhcnpaaGreat
open Go.RowKit
set_option linter.unusedVariables false
set_option linter.unusedSimpArgs false
theorem Jsx {S S2 : Nat -> Prop} {L L2 : List (Nat × Nat)} {w : World} : ∀ (l : List Nd) (xs : List Value), RepA S L w xs (Jbo l) -> RepA S2 L2 w xs (Jbo l)
  | [], xs, h => by simpa only [Jbo, List.map_nil, List.flatten_nil, RepA] using h
  | x :: r, xs, h => by
    have e : Jbo (x :: r) = iD x.1 :: iD x.2 :: Jbo r := rfl
    rw [e] at h ⊢
    simp only [RepA, Rep] at h ⊢
    obtain ⟨a, t, h1, h2, b, u, h3, h4, h5⟩ := h
    exact ⟨a, t, h1, h2, b, u, h3, h4, Jsx r u h5⟩
theorem Qq5 {B : Nat} {S : Nat -> Prop} {L : List (Nat × Nat)} {w : World} {H : Heap} (hr : HRel B S L w H) {e : TypeId} {d : D} {l : List Nd} (hb : Buf e 2 H 0 d l.length (Jbo l)) {v : Value} (hv : Rep S L w v d) : Rep (fun k => B <= k /\ k < w.heap.size) [] w v (Jaf l) := by
  rcases hb with ⟨rfl, h1, _⟩ | ⟨r, h1, rfl, h3, h4⟩
  · have : l = [] := List.length_eq_zero_iff.1 h1
    subst this
    simp only [Rep] at hv
    subst hv
    simp only [Jaf, List.map_nil, Rep]
    exact .inl ⟨trivial, none, 0, rfl, fun _ => rfl⟩
  · simp only [Rep] at hv
    obtain ⟨b, c, hL, hnc, rfl⟩ := hv
    obtain ⟨arr, g1, g2, g3, g4, g5⟩ := Jdt hr h3 hL
    obtain ⟨k1, k2, k3⟩ := hr.lt h3 hL
    by_cases hl : l = []
    · subst hl
      simp only [Jaf, List.map_nil, Rep]
      exact .inl ⟨trivial, _, c, rfl, fun e => by cases e⟩
    · have hpos : 0 < l.length := by
        cases l with
        | nil => exact absurd rfl hl
        | cons x r => simp
      simp only [Jaf, Rep]
      refine .inr ⟨b, 0, c, by simp, by simpa using hpos, by simpa using hnc, ⟨k1, k2⟩, ?_⟩
      refine RepR.of (fun e he => by obtain ⟨x, _, rfl⟩ := List.mem_map.1 he; rfl) ?_
      have h6 : RepA (fun k => B <= k /\ k < w.heap.size) [] w (arr.toList.take (Jbo l).length) (Jbo l) := Jsx l _ g5
      refine RepC.of h6 fun j x hj => ?_
      rw [Nat.zero_add, cell_of_heap g1]
      have hlt := (List.getElem?_eq_some_iff.1 hj).1
      rw [List.getElem?_take_of_lt (by simp at hlt; omega)] at hj
      simpa using hj
theorem Qjq       {P : Program} {f : FuncId} {G : List D → Heap → Option (D × Heap)} {F : List D → Option D} (hG : HCallOk P f G)
    (h : ∀ ds d, F ds = some d -> ∃ (l : List Nd) (ds' : List D) (d' : D) (H' : Heap) (e : TypeId), d = Jaf l /\ ImpL ds ds' /\ G ds' [] = some (d', H') /\ Buf e 2 H' 0 d' l.length (Jbo l)) : CallNew P f F := by
  refine ⟨hG.body, fun ds d hF S vs w hS hv => ?_⟩
  obtain ⟨l, ds', d', H', e, rfl, hi, hg, hb⟩ := h ds d hF
  refine (hG.calls ds' [] d' H' hg w.heap.size S [] vs w (Jph S w hS) (hi.rep hv)).mono ?_
  rintro e w' ⟨v, S', L', rfl, h1, h2, h3⟩
  exact ⟨v, rfl, Qq5 h2 hb h1, h3.below⟩
theorem Jyf      {t : TypeId} {H : Heap} {B : Nat} {d : D} {l : List Nd} (x : Nd) (h : Buf t 2 H B d l.length (Jbo    l)) (hB : B ≤ H.length) (hl : l.length ≤ 1000000) :
    ∃ d' H', Jd3 t 2 d (.hs H.length 1) (H ++ [.cells t 2 [iD x.1, iD x.2]]) = some (d', H') /\ Buf t 2 H' B d' (l.length + 1) (Jbo (l ++ [x])) /\ Kp B H H' /\ H.length <= H'.length /\ (∀ k, k < H.length -> (∀ q, d ≠ .hs k q) -> H'[k]? = H[k]?) := by
  obtain ⟨d', H', h1, h2, h3, h4, h5⟩ := Qdl (new := [iD x.1, iD x.2]) (h.app [.cells t 2 [iD x.1, iD x.2]]) (by omega) (m := 1) rfl rfl (by rw [Jg2]; simp; omega) (by simp; omega)
  refine ⟨d', H', ?_, ?_, (Kp.app B H _ hB).trans h3, ?_, fun k hk hd => ?_⟩
  · unfold Jd3
    have : srcH 2 (H ++ [.cells t 2 [iD x.1, iD x.2]]) (.hs H.length 1) = some [iD x.1, iD x.2] := by simp [srcH]
    rw [this]
    exact h1
  · rw [Jqg]
    exact h2
  · have := h3.1; simp at this; omega
  · rw [h4 k (by simp; omega) hd, List.getElem?_append_left hk]
theorem Jif        {P : Program} {T : Tab} {kp : List Nat} {fn : Func} {li : Nat} (Inv : Nat → List D → Heap → Prop) (Q : Lv × List D × Heap → Prop) (k n : Nat)
    (hstep : ∀ j s H, j < k -> Inv j s H -> ∃ s' H', Jdu P T kp n fn li s H = some (.normal, s', H') /\ Inv (j + 1) s' H') (hend : ∀ s H, Inv k s H -> ∃ r, Jdu P T kp n fn li s H = some r /\ r.1 ≠ .normal /\ Q r) (hn : k < n) {s : List D} {H : Heap} (h : Inv 0 s H) :
    ∃ r, Jds P T kp n fn li s H = some r /\ Q r := by
  have key : ∀ (m i : Nat) (s : List D) (H : Heap), i + m = k -> Inv i s H -> ∀ q, m < q -> ∃ r, Jez (Jdu P T kp n fn li) q s H = some r /\ Q r := by
    intro m
    induction m with
    | zero =>
      intro i s H hi hI q hq
      obtain ⟨q, rfl⟩ : ∃ x, q = x + 1 := ⟨q - 1, by omega⟩
      obtain rfl : i = k := by omega
      obtain ⟨⟨lv, s', H'⟩, h1, h2, h3⟩ := hend s H hI
      refine ⟨_, ?_, h3⟩
      simp only [Jez, h1]
      cases lv with
      | normal => exact absurd rfl h2
      | _ => rfl
    | succ m ih =>
      intro i s H hi hI q hq
      obtain ⟨q, rfl⟩ : ∃ x, q = x + 1 := ⟨q - 1, by omega⟩
      obtain ⟨s', H', h1, h2⟩ := hstep i s H (by omega) hI
      rw [Jei h1]
      exact ih (i + 1) s' H' (by omega) h2 q (by omega)
  exact key k 0 s H (by omega) h n hn
theorem Jfo (t : TypeId) (x : Nd) (H : Heap) : rowH t 2 1 [iD 0, iD 0] [(0, .agg (Jax x))] H = some (.hs H.length 1, H ++ [.cells t 2 [iD x.1, iD x.2]]) := rfl
theorem Jco (t : TypeId) (H : Heap) : Jaz t [iD 0, iD 0] H = some (.hp H.length 0, H ++ [.cells t 2 [iD 0, iD 0]]) := rfl
theorem Jry (H : Heap) (i : Nat) (t : TypeId) (a b : D) (x : Nd) (h : H[i]? = some (.cells t 2 [a, b])) : setH 2 (.hp i 0) (.agg (Jax x)) H = some (.v undef, H.set i (.cells t 2 (Jax x))) := by
  simp [setH, Jhz, h, Jax, cellsD]
theorem Jen (a b : Int) : Jbv [(0, 1), (1, 1)] [iD 0, iD 0] [(0, iD a), (1, iD b)] = some (.agg (Jax (a, b))) := rfl
theorem Jt1 (a : Int) : Jbv [(0, 1), (1, 1)] [iD 0, iD 0] [(0, iD a)] = some (.agg (Jax (a, 0))) := rfl
section
variable {α β γ δ : Type} {A : Dec α} {B : Dec β} {C : Dec γ} {E : Dec δ}
theorem callN4 {P : Program} {f : FuncId} {G : List D → Heap → Option (D × Heap)} {g : α → β → γ → δ → Option (List Nd)} (hG : HCallOk P f G)
    (h : ∀ a b c e l, g a b c e = some l -> ∃ d' H' t, G [A.enc a, B.enc b, C.enc c, E.enc e] [] = some (d', H') /\ Buf t 2 H' 0 d' l.length (Jbo l)) : CallNew P f (F4 A B C E fun a b c e => (g a b c e).map Jaf) :=
  Qjq hG fun ds d hF => by
    unfold F4 at hF
    split at hF
    · obtain ⟨a, ha, hF⟩ := Option.bind_eq_some_iff.1 hF
      obtain ⟨b, hb, hF⟩ := Option.bind_eq_some_iff.1 hF
      obtain ⟨c, hc, hF⟩ := Option.bind_eq_some_iff.1 hF
      obtain ⟨e, he, hF⟩ := Option.bind_eq_some_iff.1 hF
      obtain ⟨l, hl, rfl⟩ := Option.map_eq_some_iff.1 hF
      obtain ⟨d', H', t, h1, h2⟩ := h a b c e l hl
      exact ⟨l, _, d', H', t, rfl, .cons (A.ok _ _ ha) (.cons (B.ok _ _ hb) (.cons (C.ok _ _ hc) (.cons (E.ok _ _ he) .nil))), h1, h2⟩
    · cases hF
end
end Go.Proofs.YtinnbafplhcnpaaGreat
end
section
namespace Go.Proofs.YtinnbafplhcnpaaGreat
open Go.RowKit
theorem mixed : Tryz.prog.follows .mixedOrders = true := by kernel_rfl
end Go.Proofs.YtinnbafplhcnpaaGreat
end
section
namespace Go.Proofs.YtinnbafplhcnpaaGreat
open Go.RowKit
set_option linter.unusedVariables false
set_option linter.unusedSimpArgs false
theorem Qks (l : List Nd) (p : List Int) (H : Heap) (hl : l.length <= 3000000) (hp : p.length <= 3000000) : Jae Jp2 [Jaf l, Jag p] H = some (iD (Je6 l p), H) := by
  rw [Jar _ _ _ rfl]; simp [Jp2, hl, hp]
theorem Jq9 (l : List Nd) (p : List Int) (H : Heap) (hl : l.length <= 3000000) (hp : p.length <= 3000000) : Jae Jhv [Jaf l, Jag p] H = some (iD (Je6 l p), H) := by
  rw [Jar _ _ _ rfl]; simp [Jhv, hl, hp]
theorem Qaj (a b : List Int) (H : Heap) (ha : a.length <= 3000000) (hb : b.length <= 3000000) : Jae Jkr [Jag a, Jag b] H = some (iD (cmpL a b), H) := by
  rw [Jar _ _ _ rfl]; simp [Jkr, ha, hb]
theorem Jiv (a b : List Int) (H : Heap) (ha : a.length <= 3000000) (hb : b.length <= 3000000) : Jae Jf2 [Jag a, Jag b] H = some (iD (cmpL a b), H) := by
  rw [Jar _ _ _ rfl]; simp [Jf2, ha, hb]
theorem Qk6 (x y : Int) (H : Heap) : Jae Jum [iD x, iD y] H = some (iD (cmpI x y), H) := by
  rw [Jar _ _ _ rfl]; simp [Jum, asInt]
theorem Qdb (l : List Int) (H : Heap) (hl : l.length <= 3000000) : Jc8 Jjo [Jag l] H = some (Jag l, H) := by
  rw [Jkb _ _ _ rfl]; simp [Jjo, hl]
def orV : List Int -> Int
  | [] => 0
  | x :: r => if x ≠ 0 then x else orV r
theorem Jw1 : ∀ (l : List Int) (i : Nat), (∀ j, j < i -> l.getD j 0 = 0) -> orV l = orV (l.drop i)
  | l, 0, _ => by simp
  | [], i + 1, _ => by simp
  | x :: r, i + 1, h => by
    have h0 : x = 0 := by simpa using h 0 (by omega)
    rw [orV, if_neg (by omega), List.drop_succ_cons]
    exact Jw1 r i fun j hj => by simpa using h (j + 1) (by omega)
def Jul : List D -> Option D := F1 intsT fun l => if l.length <= 1000000 then some (iD (orV l)) else none
theorem Qt1 : CallOk Tryz.prog 90 Jul := Jms (kp := Jfl) Jq1 mixed Tryz.func90 (by kernel_rfl) (by decide) fun l d h => by
  split at h
  case isFalse => cases h
  rename_i hl
  cases h
  refine ⟨l.length + 1, _, ?_, Imp.refl _⟩
  show outD (Jap _ _ _ _ _ [Jag l] []) = _
  rw [Jus]
  have hs := Jfv (P := Tryz.prog) (T := T12a) (kp := Jfl) (fn := Tryz.f90) (li := 0) (fun i => [iD 0, iD 0, Jag l, iD l.length, iD i]) [] l.length (fun i => decide (l.getD i 0 = 0))
    (fun i => (.ret, [iD (l.getD i 0), iD 0, Jag l, iD l.length, iD i], [])) (.exit 0, [iD 0, iD 0, Jag l, iD l.length, iD l.length], [])
    (fun i => by intro e; cases e) (by intro e; cases e) 0 (l.length + 1) (Nat.zero_le _) (by omega)
    (fun i _ hi hp => by
      have e1 := Jb0 (i : Int) 1 (by omega) (by omega)
      have h4 : (i : Int) < l.length := by omega
      simp only [decide_eq_true_eq, getD_in _ i 0 hi] at hp
      rw [Jhw]
      simp [h4, Jay       _ _ hi, hp, e1])
    (fun i _ hi hp => by
      have h4 : (i : Int) < l.length := by omega
      simp only [decide_eq_false_iff_not, getD_in _ i 0 hi] at hp
      rw [Jhw]
      simp [h4, Jay _ _ hi, hp]
      simp [hi])
    (by rw [Jhw]; simp)
  rcases hs with ⟨q1, q2⟩ | ⟨i, q0, q1, q2, q3, q4⟩
  · have hv : orV l = 0 := by
      rw [Jw1 l l.length fun j hj => by simpa using q1 j (Nat.zero_le _) hj, List.drop_length]; rfl
    simp only [Jld] at q2
    simp [q2, hv]
  · have hv : orV l = l.getD i 0 := by
      rw [decide_eq_false_iff_not, getD_in _ i 0 q1] at q2
      rw [Jw1 l i fun j hj => by simpa using q3 j (Nat.zero_le _) hj, List.drop_eq_getElem_cons q1, orV, if_pos q2, getD_in _ i 0 q1]
    simp only [Jld] at q4
    simp [q4, hv]
def Jwa : List D -> Option D := F2 intT intT fun a b => some (iD (cmpI a b))
theorem C_less : CallOk Tryz.prog 65 Jwa := Jlf (kp := Jhk) Jq1 mixed Tryz.func65 (by kernel_rfl) (by decide) fun a b d h => by
  cases h
  refine ⟨0, _, ?_, Imp.refl _⟩
  show outD (Jap _ _ _ _ _ [iD a, iD b] []) = _
  rw [Jlx]
  unfold cmpI
  by_cases h1 : a < b
  · simp [h1]
  · by_cases h2 : b < a <;> simp [h1, h2]
def Ja3 : List D -> Option D := F3 intT intT intT fun n lo hi => some (bD (decide (lo <= n /\ n <= hi)))
theorem Qmh : CallOk Tryz.prog 111 Ja3 := Qax (kp := Jfx) Jq1 mixed Tryz.func111 (by kernel_rfl) (by decide) fun n lo hi d h => by
  cases h
  refine ⟨0, _, ?_, Imp.refl _⟩
  show outD (Jap _ _ _ _ _ [iD n, iD lo, iD hi] []) = _
  rw [Jj5]
  by_cases h1 : lo <= n <;> simp [h1]
theorem Jed (n lo hi : Int) (H : Heap) : Jae Ja3 [iD n, iD lo, iD hi] H = some (bD (decide (lo <= n /\ n <= hi)), H) := by
  rw [Jar _ _ _ rfl]
  have : Ja3 [iD n, iD lo, iD hi] = _ := Jrf (A := intT) (B := intT) (C := intT) _ n lo hi
  rw [this]; rfl
theorem Jta (a b : Int) (H : Heap) : Jae Jwa [iD a, iD b] H = some (iD (cmpI a b), H) := by
  rw [Jar _ _ _ rfl]
  have : Jwa [iD a, iD b] = _ := Jht (A := intT) (B := intT) _ a b
  rw [this]; rfl
def Jd4 : List D -> Option D := F1 chT fun c => if 0 <= c.k /\ c.k.toNat < c.p.body.length then some (.agg (Jax (nodeAt c.p.body c.k))) else none
theorem C_chNode : CallOk Tryz.prog 106 Jd4 := Jms (kp := Jhp) Jq1 mixed Tryz.func106 (by kernel_rfl) (by decide) fun c d h => by
  split at h
  case isFalse => cases h
  rename_i hk
  cases h
  refine ⟨0, _, ?_, Imp.refl _⟩
  show outD (Jap _ _ _ _ _ [chD c] []) = _
  rw [Jl3]
  have hi := Jhr c.p.body c.k hk.1 hk.2
  have hn : nodeAt c.p.body c.k = c.p.body[c.k.toNat] := by unfold nodeAt; exact getD_in _ _ _ hk.2
  have hs := Jry [.cells 97 5 [iD c.p.params, Jag c.p.vars, Jaf c.p.body, iD c.k, iD c.n], .cells 54 2 [iD 0, iD 0]] 1 54 (iD 0) (iD 0) c.p.body[c.k.toNat] rfl
  simp [Jco, hi, hn, hs]
  rfl
def Jpy (P : Program) : List D -> Heap -> Option (D × Heap) := Jgr P T12a Jmj 0 110
theorem Qdt (ds : List D) (H : Heap) : Jpy Tryz.prog ds H = Jap Tryz.prog T12a Jmj 0 Tryz.f110 ds H := Jct Tryz.func110 ds H
theorem Qp3 : HCallOk Tryz.prog 110 (Jpy Tryz.prog) := Jdf Jq1 mixed Tryz.func110 (by kernel_rfl) (by decide)
theorem Qk8 (l : List Nd) (H : Heap) (h0 : 0 < l.length) (hl : l.length <= 1000000) : Jpy Tryz.prog [Jaf l] H = some (.hs (H.length + 1) l.length, H ++ [.dead, .cells 54 2 (Jbo l)]) := by
  rw [Qdt, Jyx]
  have hn : binK .sl .eql (Jaf l) (.v (.slice none 0 0)) = some (bD false) := by
    cases l with
    | nil => simp at h0
    | cons x r => rfl
  have hr : rowH 54 2 0 [iD 0, iD 0] [] H = some (.hs H.length 0, H ++ [.cells 54 2 []]) := rfl
  have ha : Jd3 54 2 (.hs H.length 0) (Jaf l) (H ++ [.cells 54 2 []]) = some (.hs (H.length + 1) l.length, H ++ [.dead, .cells 54 2 (Jbo l)]) := by
    unfold Jd3 appH
    rw [Qis, Option.bind_some, Qjo]
    have hd : (Jbo l).length / 2 = l.length := by rw [Jg2]; omega
    have h2 : (Jbo l).length <= 4000000 := by rw [Jg2]; omega
    simp [hd, h2]
  simp [hn, hr, ha]
def Jlo : List D -> Option D := F4 nodesT intT intT nodesT fun l k to r => (if 0 <= k /\ k <= to /\ to <= l.length /\ l.length <= 300000 /\ r.length <= 300000 then some (Jp7 l k.toNat to.toNat r) else none).map Jaf
def Ql0 (P : Program) : List D -> Heap -> Option (D × Heap) := Jgr P T12a Ja6 1000000 112
theorem Qlz (ds : List D) (H : Heap) : Ql0 Tryz.prog ds H = Jap Tryz.prog T12a Ja6 1000000 Tryz.f112 ds H := Jct Tryz.func112 ds H
theorem C_swap : HCallOk Tryz.prog 112 (Ql0 Tryz.prog) := Jdf Jq1 mixed Tryz.func112 (by kernel_rfl) (by decide)
theorem N_swap : CallNew Tryz.prog 112 Jlo := callN4 C_swap fun l k to r o h => by
  split at h
  case isFalse => cases h
  rename_i hc
  cases h
  obtain ⟨h0, h1, h2, h3, h4⟩ := hc
  obtain ⟨k, rfl⟩ := Int.eq_ofNat_of_zero_le h0
  obtain ⟨to, rfl⟩ := Int.eq_ofNat_of_zero_le (show 0 <= to by omega)
  simp only [Int.toNat_natCast]
  show ∃ d' H' t, Ql0 Tryz.prog [Jaf l, iD k, iD to, Jaf r] [] = some (d', H') /\ _
  rw [Qlz, Jlw]
  obtain ⟨_, e0, d0, H0, rfl, b0⟩ := Jif (P := Tryz.prog) (T := T12a) (kp := Ja6) (fn := Tryz.f112) (li := 0)
    (fun j s H => ∃ d, s = [Jaf l, iD k, iD to, Jaf r, d, iD j, .undef, .undef] /\ Buf 54 2 H 0 d (l.take j).length (Jbo (l.take j)))
    (fun x => ∃ d H', x = (.exit 0, [Jaf l, iD k, iD to, Jaf r, d, iD k, .undef, .undef], H') /\ Buf 54 2 H' 0 d (l.take k).length (Jbo (l.take k))) k 1000000
    (fun j s H hj hI => by
      obtain ⟨d, rfl, hb⟩ := hI
      have hjl : j < l.length := by omega
      obtain ⟨d', H', a1, a2, _⟩ := Jyf l[j] hb (Nat.zero_le _) (by simp; omega)
      refine ⟨[Jaf l, iD k, iD to, Jaf r, d', iD ((j + 1 : Nat) : Int), .undef, .undef], H', ?_, d', rfl, ?_⟩
      · have e1 := Jb0 (j : Int) 1 (by omega) (by omega)
        have h4 : (j : Int) < k := by omega
        rw [Jf8]
        simp [h4, Jav _ _ hjl, Jfo, a1, e1]
      · rw [List.take_succ_eq_append_getElem hjl, List.length_append]
        exact a2)
    (fun s H hI => by
      obtain ⟨d, rfl, hb⟩ := hI
      refine ⟨(.exit 0, [Jaf l, iD k, iD to, Jaf r, d, iD k, .undef, .undef], H), ?_, (by intro e; cases e), d, H, rfl, hb⟩
      rw [Jf8]
      simp) (by omega) (s := [Jaf    l, iD k, iD to, Jaf    r, .v (.slice none 0 0), iD 0, .undef, .undef]) (H := []) ⟨_, rfl, by simpa [Jbo   ] using Buf.nil 54 2 [] 0⟩
  rw [e0]
  simp only [Jcd, Jcz, List.getD_cons_zero, List.getD_cons_succ]
  obtain ⟨_, e1, d1, H1, rfl, b1⟩ := Jif (P := Tryz.prog) (T := T12a) (kp := Ja6) (fn := Tryz.f112) (li := 1)
    (fun j s H => ∃ d, s = [Jaf l, iD k, iD to, Jaf r, d, iD k, iD j, .undef] /\ Buf 54 2 H 0 d (l.take k ++ r.take j).length (Jbo (l.take k ++ r.take j)))
    (fun x => ∃ d H', x = (.exit 2, [Jaf l, iD k, iD to, Jaf r, d, iD k, iD r.length, .undef], H') /\ Buf 54 2 H' 0 d (l.take k ++ r).length (Jbo (l.take k ++ r))) r.length 1000000
    (fun j s H hj hI => by
      obtain ⟨d, rfl, hb⟩ := hI
      obtain ⟨d', H', a1, a2, _⟩ := Jyf r[j] hb (Nat.zero_le _) (by simp; omega)
      refine ⟨[Jaf l, iD k, iD to, Jaf r, d', iD k, iD ((j + 1 : Nat) : Int), .undef], H', ?_, d', rfl, ?_⟩
      · have e1 := Jb0 (j : Int) 1 (by omega) (by omega)
        have h4 : (j : Int) < r.length := by omega
        rw [Jf7]
        simp [h4, Jav _ _ hj, Jfo, a1, e1]
      · rw [List.take_succ_eq_append_getElem hj, <- List.append_assoc, List.length_append]
        exact a2)
    (fun s H hI => by
      obtain ⟨d, rfl, hb⟩ := hI
      rw [List.take_length] at hb
      refine ⟨(.exit 2, [Jaf l, iD k, iD to, Jaf r, d, iD k, iD r.length, .undef], H), ?_, (by intro e; cases e), d, H, rfl, hb⟩
      rw [Jf7]
      simp) (by omega) (s := [Jaf    l, iD k, iD to, Jaf    r, d0, iD k, iD 0, .undef]) (H := H0) ⟨_, rfl, by simpa using b0⟩
  rw [e1]
  simp only [Jcd, Jcz, List.getD_cons_zero, List.getD_cons_succ]
  obtain ⟨_, e2, d2, H2, rfl, b2⟩ := Jif (P := Tryz.prog) (T := T12a) (kp := Ja6) (fn := Tryz.f112) (li := 2)
    (fun j s H => ∃ d, s = [Jaf l, iD k, iD to, Jaf r, d, iD k, iD r.length, iD ((to + j : Nat) : Int)] /\ Buf 54 2 H 0 d (l.take k ++ r ++ (l.drop to).take j).length (Jbo (l.take k ++ r ++ (l.drop to).take j)))
    (fun x => ∃ d H', x = (.exit 4, [Jaf l, iD k, iD to, Jaf r, d, iD k, iD r.length, iD l.length], H') /\ Buf 54 2 H' 0 d (l.take k ++ r ++ l.drop to).length (Jbo (l.take k ++ r ++ l.drop to))) (l.length - to) 1000000
    (fun j s H hj hI => by
      obtain ⟨d, rfl, hb⟩ := hI
      have hjl : to + j < l.length := by omega
      have hjd : j < (l.drop to).length := by simp; omega
      obtain ⟨d', H', a1, a2, _⟩ := Jyf l[to + j] hb (Nat.zero_le _) (by simp; omega)
      refine ⟨[Jaf l, iD k, iD to, Jaf r, d', iD k, iD r.length, iD ((to + (j + 1) : Nat) : Int)], H', ?_, d', rfl, ?_⟩
      · have e1 := Jb0 ((to + j : Nat) : Int) 1 (by omega) (by omega)
        have h4 : ((to + j : Nat) : Int) < l.length := by omega
        have e2 : ((to + j : Nat) : Int) + 1 = ((to + (j + 1) : Nat) : Int) := by omega
        rw [Jf6]
        simp only [Jkc, Jaj, Jbd, Jai, h4, decide_true, if_true, Jav _ _ hjl, Qjv, Jfo, Jan, a1, Jcs, e1, e2]
      · rw [List.take_succ_eq_append_getElem hjd, <- List.append_assoc, List.length_append]
        have : (l.drop to)[j] = l[to + j] := by simp
        rw [this]
        exact a2)
    (fun s H hI => by
      obtain ⟨d, rfl, hb⟩ := hI
      have e : to + (l.length - to) = l.length := by omega
      rw [List.take_of_length_le (show (l.drop to).length <= l.length - to by simp)] at hb
      refine ⟨(.exit 4, [Jaf l, iD k, iD to, Jaf r, d, iD k, iD r.length, iD l.length], H), ?_, (by intro e; cases e), d, H, rfl, hb⟩
      rw [Jf6, e]
      simp) (by omega) (s := [Jaf    l, iD k, iD to, Jaf    r, d1, iD k, iD r.length, iD to]) (H := H1) ⟨_, rfl, by simpa using b1⟩
  rw [e2]
  simp only [Jcd, Jcz, List.getD_cons_zero, List.getD_cons_succ]
  exact ⟨d2, H2, _, rfl, b2⟩
theorem Qm2      (l : List Nd) (k to : Nat) (x : Nd) (H : Heap) (h1 : k ≤ to) (h2 : to ≤ l.length) (h3 : l.length ≤ 300000) (t : TypeId) :
    Jc8 Jlo [Jaf l, iD k, iD to, .hs H.length 1] (H ++ [.cells t 2 [iD x.1, iD x.2]]) = some (Jaf (Jp7 l k to [x]), H ++ [.cells t 2 [iD x.1, iD x.2]]) := by
  have hd : [Jaf l, iD k, iD to, D.hs H.length 1].mapM (Jbs (H ++ [.cells t 2 [iD x.1, iD x.2]]) 9) = some [Jaf l, iD k, iD to, Jaf [x]] := by
    have := Jtt (H ++ [.cells t 2 [iD x.1, iD x.2]]) 8 t H.length [x] (by simp [Jbo, Jax])
    simp only [List.mapM_cons, List.mapM_nil, Jbt _ 9 (Jaf l) rfl, Jbt _ 9 (iD k) rfl, Jbt _ 9 (iD to) rfl]
    rw [show (D.hs H.length 1) = .hs H.length [x].length from rfl, this]
    rfl
  rw [Jme _ _ _ _ rfl hd]
  have : Jlo [Jaf l, iD k, iD to, Jaf [x]] = _ := Qkw (A := nodesT) (B := intT) (C := intT) (E := nodesT) _ l (k : Int) (to : Int) [x]
  rw [this, if_pos ⟨by omega, by omega, by omega, h3, by simp⟩]
  rfl
def Qr8 (P : Program) : List Entry := (90, true, Jae Jul) :: (65, true, Jae Jwa) :: (111, true, Jae Ja3) :: (106, true, Jae Jd4) :: (110, false, Jpy P) :: (112, true, Jc8 Jlo) :: Qr9
theorem Qfd : ∀ p ∈ Qr8 Tryz.prog, Jbu Tryz.prog p := Jac (Jal Qt1) <| Jac (Jal C_less) <| Jac (Jal Qmh) <| Jac (Jal C_chNode) <| Jac (Jcg Qp3) <| Jac (Jgk N_swap) <| Qfe
def T12b (P : Program) : Tab := ⟨Qr8 P, noYl⟩
theorem Jq0 : TabOk Tryz.prog (T12b Tryz.prog) := Jb4 Qfd
end Go.Proofs.YtinnbafplhcnpaaGreat
end
section
namespace Go.Proofs.YtinnbafplhcnpaaGreat
open Go.RowKit
set_option linter.unusedVariables false
set_option maxRecDepth 100000
def Jlk : List Nat := []
theorem Jrs (n : Nat) (x0 x1 : D) (h : Heap) : Jap Tryz.prog (T12b Tryz.prog) Jlk n Tryz.f47 [x0, x1] h =
(thnH (boxH 34 x0 h) fun y0 h1 =>
thnH (boxH 34 x1 h1) fun y2 h3 =>
thn (Jaa 0 y0) fun y4 =>
thn (Jad none h3 y4) fun y5 =>
thn (Jaa 0 y2) fun y6 =>
thn (Jad none h3 y6) fun y7 =>
thnH (Jae Jkr [y5, y7] h3) fun y8 h9 =>
thn (Jaa 1 y0) fun y10 =>
thn (Jad none h9 y10) fun y11 =>
thn (Jaa 1 y2) fun y12 =>
thn (Jad none h9 y12) fun y13 =>
thnH (Jae Jum [y11, y13] h9) fun y14 h15 =>
thn (Jaa 2 y0) fun y16 =>
thn (Jad none h15 y16) fun y17 =>
thn (Jaa 2 y2) fun y18 =>
thn (Jad none h15 y18) fun y19 =>
thnH (Jae Jum [y17, y19] h15) fun y20 h21 =>
thnH (rowH 3 1 3 [(iD 0)] [(0, y8), (1, y14), (2, y20)] h21) fun y22 h23 =>
thnH (Jae Jul [y22] h23) fun y24 h25 =>
some (y24, h25)) := by kernel_rfl
def Jfy : List Nat := []
theorem Jj6 (n : Nat) (x0 x1 : D) (h : Heap) : Jap Tryz.prog (T12b Tryz.prog) Jfy n Tryz.f34 [x0, x1] h =
(thnH (boxH 34 x0 h) fun y0 h1 =>
thnH (boxH 34 x1 h1) fun y2 h3 =>
thn (Jaa 0 y0) fun y4 =>
thn (Jad none h3 y4) fun y5 =>
thn (Jaa 0 y2) fun y6 =>
thn (Jad none h3 y6) fun y7 =>
thnH (Jae Jf2 [y5, y7] h3) fun y8 h9 =>
thn (binK .int .neq y8 (iD 0)) fun y10 =>
Jah y10
(some (y8, h9))
(thn (Jaa 1 y0) fun y11 =>
thn (Jad none h9 y11) fun y12 =>
thn (Jaa 1 y2) fun y13 =>
thn (Jad none h9 y13) fun y14 =>
thn (binK .int .neq y12 y14) fun y15 =>
Jah y15
(thn (Jaa 1 y0) fun y16 =>
thn (Jad none h9 y16) fun y17 =>
thn (Jaa 1 y2) fun y18 =>
thn (Jad none h9 y18) fun y19 =>
thnH (Jae Jwa [y17, y19] h9) fun y20 h21 =>
some (y20, h21))
(thn (Jaa 2 y0) fun y22 =>
thn (Jad none h9 y22) fun y23 =>
thn (Jaa 2 y2) fun y24 =>
thn (Jad none h9 y24) fun y25 =>
thnH (Jae Jwa [y23, y25] h9) fun y26 h27 =>
some (y26, h27)))) := by kernel_rfl
def Jh7 : List Nat := []
theorem Jnr (n : Nat) (x0 x1 : D) (h : Heap) : Jap Tryz.prog (T12b Tryz.prog) Jh7 n Tryz.f107 [x0, x1] h =
(thnH (boxH 97 x0 h) fun y0 h1 =>
thnH (boxH 54 x1 h1) fun y2 h3 =>
thn (Jaa 0 y0) fun y4 =>
thn (Jaa 2 y4) fun y5 =>
thn (Jad none h3 y5) fun y6 =>
thnH ((Jpy Tryz.prog) [y6] h3) fun y7 h8 =>
thn (Jaa 3 y0) fun y9 =>
thn (Jad none h8 y9) fun y10 =>
thn (Jad (some 2) h8 y2) fun y11 =>
thn (idxH 2 y7 y10) fun y12 =>
thnH (setH 2 y12 y11 h8) fun y13 h14 =>
some (y7, h14)) := by kernel_rfl
def Jhq : List Nat := []
theorem Jl4 (n : Nat) (x0 x1 x2 : D) (h : Heap) : Jap Tryz.prog (T12b Tryz.prog) Jhq n Tryz.f127 [x0, x1, x2] h =
(thnH (boxH 97 x0 h) fun y0 h1 =>
thn (Jad (some 5) h1 y0) fun y2 =>
thnH (Jae Jd4 [y2] h1) fun y3 h4 =>
thn (Jln none 0 y3) fun y5 =>
thn (binK .int .geq y5 x1) fun y6 =>
Jah y6
(thn (binK .int .leq y5 x2) fun y7 =>
Jah y7
(thn (Jaa 4 y0) fun y8 =>
thn (Jad none h4 y8) fun y9 =>
thn (binK .int .geq y9 x1) fun y10 =>
Jah y10
(thn (Jaa 4 y0) fun y11 =>
thn (Jad none h4 y11) fun y12 =>
thn (binK .int .leq y12 x2) fun y13 =>
some (y13, h4))
(some ((bD false), h4)))
(some ((bD false), h4)))
(some ((bD false), h4))) := by kernel_rfl
def Jfw : List Nat := []
theorem Jj4 (n : Nat) (x0 x1 x2 : D) (h : Heap) : Jap Tryz.prog (T12b Tryz.prog) Jfw n Tryz.f76 [x0, x1, x2] h =
(thnH (boxH 34 x2 h) fun y0 h1 =>
thn (idxH 2 x0 x1) fun y2 =>
thn (Jad (some 2) h1 y2) fun y3 =>
thnH (Jaz 54 [(iD 0), (iD 0)] h1) fun y4 h5 =>
thnH (setH 2 y4 y3 h5) fun y6 h7 =>
thn (Jaa 1 y0) fun y8 =>
thn (Jad none h7 y8) fun y9 =>
thn (binK .int .eql y9 (iD 1)) fun y10 =>
Jah y10
(thn (binK .int .add x1 (iD 1)) fun y11 =>
thn (Jaa 2 y0) fun y12 =>
thn (Jad none h7 y12) fun y13 =>
thn (Jaa 1 y4) fun y14 =>
thn (Jad none h7 y14) fun y15 =>
thn (Jbv [(0, 1), (1, 1)] [(iD 0), (iD 0)] [(0, y13), (1, y15)]) fun y16 =>
thnH (rowH 54 2 1 [(iD 0), (iD 0)] [(0, y16)] h7) fun y17 h18 =>
thnH (Jc8 Jlo [x0, x1, y11, y17] h18) fun y19 h20 =>
some (y19, h20))
(thn (binK .int .eql y9 (iD 2)) fun y21 =>
Jah y21
(thn (binK .int .add x1 (iD 1)) fun y22 =>
thn (Jaa 2 y0) fun y23 =>
thn (Jad none h7 y23) fun y24 =>
thn (Jaa 1 y4) fun y25 =>
thn (Jad none h7 y25) fun y26 =>
thn (Jbv [(0, 1), (1, 1)] [(iD 0), (iD 0)] [(0, y24), (1, y26)]) fun y27 =>
thnH (rowH 54 2 1 [(iD 0), (iD 0)] [(0, y27)] h7) fun y28 h29 =>
thnH (Jc8 Jlo [x0, x1, y22, y28] h29) fun y30 h31 =>
some (y30, h31))
(thn (binK .int .eql y9 (iD 3)) fun y32 =>
Jah y32
(thn (binK .int .add x1 (iD 1)) fun y33 =>
thn (Jaa 2 y0) fun y34 =>
thn (Jad none h7 y34) fun y35 =>
thn (Jaa 1 y4) fun y36 =>
thn (Jad none h7 y36) fun y37 =>
thn (Jbv [(0, 1), (1, 1)] [(iD 0), (iD 0)] [(0, y35), (1, y37)]) fun y38 =>
thnH (rowH 54 2 1 [(iD 0), (iD 0)] [(0, y38)] h7) fun y39 h40 =>
thnH (Jc8 Jlo [x0, x1, y33, y39] h40) fun y41 h42 =>
some (y41, h42))
(thn (binK .int .eql y9 (iD 4)) fun y43 =>
Jah y43
(thn (binK .int .add x1 (iD 1)) fun y44 =>
thn (Jaa 0 y4) fun y45 =>
thn (Jad none h7 y45) fun y46 =>
thn (Jaa 2 y0) fun y47 =>
thn (Jad none h7 y47) fun y48 =>
thn (Jbv [(0, 1), (1, 1)] [(iD 0), (iD 0)] [(0, y46), (1, y48)]) fun y49 =>
thnH (rowH 54 2 1 [(iD 0), (iD 0)] [(0, y49)] h7) fun y50 h51 =>
thnH (Jc8 Jlo [x0, x1, y44, y50] h51) fun y52 h53 =>
some (y52, h53))
(thn (binK .int .eql y9 (iD 5)) fun y54 =>
Jah y54
(thnH (Jae Jgq [x0, x1] h7) fun y55 h56 =>
thn (Jbv [(0, 1), (1, 1)] [(iD 0), (iD 0)] [(0, (iD 26))]) fun y57 =>
thnH (rowH 54 2 1 [(iD 0), (iD 0)] [(0, y57)] h56) fun y58 h59 =>
thnH (Jc8 Jlo [x0, x1, y55, y58] h59) fun y60 h61 =>
some (y60, h61))
(thn (binK .int .eql y9 (iD 6)) fun y62 =>
Jah y62
(thn (binK .int .add x1 (iD 1)) fun y63 =>
thn (binK .int .add x1 (iD 1)) fun y64 =>
thn (Jbv [(0, 1), (1, 1)] [(iD 0), (iD 0)] [(0, (iD 6))]) fun y65 =>
thnH (rowH 54 2 1 [(iD 0), (iD 0)] [(0, y65)] h7) fun y66 h67 =>
thnH (Jc8 Jlo [x0, y63, y64, y66] h67) fun y68 h69 =>
some (y68, h69))
(thn (binK .int .add x1 (iD 1)) fun y70 =>
thn (binK .int .add x1 (iD 1)) fun y71 =>
thnH (Jae Jgq [x0, y71] h7) fun y72 h73 =>
thn (Jaa 2 y0) fun y74 =>
thn (Jad none h73 y74) fun y75 =>
thn (Jbv [(0, 1), (1, 1)] [(iD 0), (iD 0)] [(0, (iD 1)), (1, y75)]) fun y76 =>
thnH (rowH 54 2 1 [(iD 0), (iD 0)] [(0, y76)] h73) fun y77 h78 =>
thnH (Jc8 Jlo [x0, y70, y72, y77] h78) fun y79 h80 =>
some (y79, h80)))))))) := by kernel_rfl
def Jh1 : List Nat := []
theorem Jnk (n : Nat) (x0 x1 x2 : D) (h : Heap) : Jap Tryz.prog (T12b Tryz.prog) Jh1 n Tryz.f75 [x0, x1, x2] h =
(thnH (boxH 54 x0 h) fun y0 h1 =>
thn (Jaa 0 y0) fun y2 =>
thn (Jad none h1 y2) fun y3 =>
thn (binK .int .eql y3 (iD 21)) fun y4 =>
Jah y4
(thn (binK .int .eql x1 (iD 1)) fun y5 =>
Jah y5
(thnH (Jae Ja3 [y3, (iD 7), (iD 11)] h1) fun y6 h7 =>
Jah y6
(thnH (Jae Ja3 [x2, (iD 7), (iD 11)] h7) fun y8 h9 =>
some (y8, h9))
(some ((bD false), h7)))
(thn (binK .int .eql x1 (iD 2)) fun y10 =>
Jah y10
(thnH (Jae Ja3 [y3, (iD 12), (iD 17)] h1) fun y11 h12 =>
Jah y11
(thnH (Jae Ja3 [x2, (iD 12), (iD 17)] h12) fun y13 h14 =>
some (y13, h14))
(some ((bD false), h12)))
(thn (binK .int .eql x1 (iD 3)) fun y15 =>
Jah y15
(thnH (Jae Ja3 [y3, (iD 18), (iD 19)] h1) fun y16 h17 =>
Jah y16
(thnH (Jae Ja3 [x2, (iD 18), (iD 19)] h17) fun y18 h19 =>
some (y18, h19))
(some ((bD false), h17)))
(thn (binK .int .eql x1 (iD 4)) fun y20 =>
Jah y20
(thn (binK .int .eql y3 (iD 1)) fun y21 =>
Jah y21
(some ((bD true), h1))
(thn (binK .int .eql y3 (iD 2)) fun y22 =>
Jah y22
(thnH (Jae Ja3 [x2, (iD 0), (iD 1)] h1) fun y23 h24 =>
some (y23, h24))
(some ((bD false), h1))))
(thn (binK .int .eql x1 (iD 5)) fun y25 =>
Jah y25
(thn (binK .int .eql x2 (iD 0)) fun y26 =>
some (y26, h1))
(thn (binK .int .eql x1 (iD 6)) fun y27 =>
Jah y27
(thn (binK .int .eql y3 (iD 23)) fun y28 =>
Jah y28
(thn (binK .int .eql x2 (iD 0)) fun y29 =>
some (y29, h1))
(thn (binK .int .eql y3 (iD 24)) fun y30 =>
Jah y30
(thn (binK .int .eql x2 (iD 0)) fun y31 =>
some (y31, h1))
(some ((bD false), h1))))
(thn (binK .int .eql x1 (iD 7)) fun y32 =>
Jah y32
(thn (binK .int .eql y3 (iD 25)) fun y33 =>
some (y33, h1))
(some ((bD false), h1)))))))))
(thn (binK .int .eql y3 (iD 22)) fun y34 =>
Jah y34
(thn (binK .int .eql x1 (iD 1)) fun y35 =>
Jah y35
(thnH (Jae Ja3 [y3, (iD 7), (iD 11)] h1) fun y36 h37 =>
Jah y36
(thnH (Jae Ja3 [x2, (iD 7), (iD 11)] h37) fun y38 h39 =>
some (y38, h39))
(some ((bD false), h37)))
(thn (binK .int .eql x1 (iD 2)) fun y40 =>
Jah y40
(thnH (Jae Ja3 [y3, (iD 12), (iD 17)] h1) fun y41 h42 =>
Jah y41
(thnH (Jae Ja3 [x2, (iD 12), (iD 17)] h42) fun y43 h44 =>
some (y43, h44))
(some ((bD false), h42)))
(thn (binK .int .eql x1 (iD 3)) fun y45 =>
Jah y45
(thnH (Jae Ja3 [y3, (iD 18), (iD 19)] h1) fun y46 h47 =>
Jah y46
(thnH (Jae Ja3 [x2, (iD 18), (iD 19)] h47) fun y48 h49 =>
some (y48, h49))
(some ((bD false), h47)))
(thn (binK .int .eql x1 (iD 4)) fun y50 =>
Jah y50
(thn (binK .int .eql y3 (iD 1)) fun y51 =>
Jah y51
(some ((bD true), h1))
(thn (binK .int .eql y3 (iD 2)) fun y52 =>
Jah y52
(thnH (Jae Ja3 [x2, (iD 0), (iD 1)] h1) fun y53 h54 =>
some (y53, h54))
(some ((bD false), h1))))
(thn (binK .int .eql x1 (iD 5)) fun y55 =>
Jah y55
(thn (binK .int .eql x2 (iD 0)) fun y56 =>
some (y56, h1))
(thn (binK .int .eql x1 (iD 6)) fun y57 =>
Jah y57
(thn (binK .int .eql y3 (iD 23)) fun y58 =>
Jah y58
(thn (binK .int .eql x2 (iD 0)) fun y59 =>
some (y59, h1))
(thn (binK .int .eql y3 (iD 24)) fun y60 =>
Jah y60
(thn (binK .int .eql x2 (iD 0)) fun y61 =>
some (y61, h1))
(some ((bD false), h1))))
(thn (binK .int .eql x1 (iD 7)) fun y62 =>
Jah y62
(thn (binK .int .eql y3 (iD 25)) fun y63 =>
some (y63, h1))
(some ((bD false), h1)))))))))
(thn (binK .int .eql y3 (iD 23)) fun y64 =>
Jah y64
(thn (binK .int .eql x1 (iD 1)) fun y65 =>
Jah y65
(thnH (Jae Ja3 [y3, (iD 7), (iD 11)] h1) fun y66 h67 =>
Jah y66
(thnH (Jae Ja3 [x2, (iD 7), (iD 11)] h67) fun y68 h69 =>
some (y68, h69))
(some ((bD false), h67)))
(thn (binK .int .eql x1 (iD 2)) fun y70 =>
Jah y70
(thnH (Jae Ja3 [y3, (iD 12), (iD 17)] h1) fun y71 h72 =>
Jah y71
(thnH (Jae Ja3 [x2, (iD 12), (iD 17)] h72) fun y73 h74 =>
some (y73, h74))
(some ((bD false), h72)))
(thn (binK .int .eql x1 (iD 3)) fun y75 =>
Jah y75
(thnH (Jae Ja3 [y3, (iD 18), (iD 19)] h1) fun y76 h77 =>
Jah y76
(thnH (Jae Ja3 [x2, (iD 18), (iD 19)] h77) fun y78 h79 =>
some (y78, h79))
(some ((bD false), h77)))
(thn (binK .int .eql x1 (iD 4)) fun y80 =>
Jah y80
(thn (binK .int .eql y3 (iD 1)) fun y81 =>
Jah y81
(some ((bD true), h1))
(thn (binK .int .eql y3 (iD 2)) fun y82 =>
Jah y82
(thnH (Jae Ja3 [x2, (iD 0), (iD 1)] h1) fun y83 h84 =>
some (y83, h84))
(some ((bD false), h1))))
(thn (binK .int .eql x1 (iD 5)) fun y85 =>
Jah y85
(thn (binK .int .eql x2 (iD 0)) fun y86 =>
some (y86, h1))
(thn (binK .int .eql x1 (iD 6)) fun y87 =>
Jah y87
(thn (binK .int .eql y3 (iD 23)) fun y88 =>
Jah y88
(thn (binK .int .eql x2 (iD 0)) fun y89 =>
some (y89, h1))
(thn (binK .int .eql y3 (iD 24)) fun y90 =>
Jah y90
(thn (binK .int .eql x2 (iD 0)) fun y91 =>
some (y91, h1))
(some ((bD false), h1))))
(thn (binK .int .eql x1 (iD 7)) fun y92 =>
Jah y92
(thn (binK .int .eql y3 (iD 25)) fun y93 =>
some (y93, h1))
(some ((bD false), h1)))))))))
(thn (binK .int .eql y3 (iD 24)) fun y94 =>
Jah y94
(thn (binK .int .eql x1 (iD 1)) fun y95 =>
Jah y95
(thnH (Jae Ja3 [y3, (iD 7), (iD 11)] h1) fun y96 h97 =>
Jah y96
(thnH (Jae Ja3 [x2, (iD 7), (iD 11)] h97) fun y98 h99 =>
some (y98, h99))
(some ((bD false), h97)))
(thn (binK .int .eql x1 (iD 2)) fun y100 =>
Jah y100
(thnH (Jae Ja3 [y3, (iD 12), (iD 17)] h1) fun y101 h102 =>
Jah y101
(thnH (Jae Ja3 [x2, (iD 12), (iD 17)] h102) fun y103 h104 =>
some (y103, h104))
(some ((bD false), h102)))
(thn (binK .int .eql x1 (iD 3)) fun y105 =>
Jah y105
(thnH (Jae Ja3 [y3, (iD 18), (iD 19)] h1) fun y106 h107 =>
Jah y106
(thnH (Jae Ja3 [x2, (iD 18), (iD 19)] h107) fun y108 h109 =>
some (y108, h109))
(some ((bD false), h107)))
(thn (binK .int .eql x1 (iD 4)) fun y110 =>
Jah y110
(thn (binK .int .eql y3 (iD 1)) fun y111 =>
Jah y111
(some ((bD true), h1))
(thn (binK .int .eql y3 (iD 2)) fun y112 =>
Jah y112
(thnH (Jae Ja3 [x2, (iD 0), (iD 1)] h1) fun y113 h114 =>
some (y113, h114))
(some ((bD false), h1))))
(thn (binK .int .eql x1 (iD 5)) fun y115 =>
Jah y115
(thn (binK .int .eql x2 (iD 0)) fun y116 =>
some (y116, h1))
(thn (binK .int .eql x1 (iD 6)) fun y117 =>
Jah y117
(thn (binK .int .eql y3 (iD 23)) fun y118 =>
Jah y118
(thn (binK .int .eql x2 (iD 0)) fun y119 =>
some (y119, h1))
(thn (binK .int .eql y3 (iD 24)) fun y120 =>
Jah y120
(thn (binK .int .eql x2 (iD 0)) fun y121 =>
some (y121, h1))
(some ((bD false), h1))))
(thn (binK .int .eql x1 (iD 7)) fun y122 =>
Jah y122
(thn (binK .int .eql y3 (iD 25)) fun y123 =>
some (y123, h1))
(some ((bD false), h1)))))))))
(thn (binK .int .eql y3 (iD 25)) fun y124 =>
thn (binK .int .eql x1 (iD 1)) fun y125 =>
Jah y125
(thnH (Jae Ja3 [y3, (iD 7), (iD 11)] h1) fun y126 h127 =>
Jah y126
(thnH (Jae Ja3 [x2, (iD 7), (iD 11)] h127) fun y128 h129 =>
some (y128, h129))
(some ((bD false), h127)))
(thn (binK .int .eql x1 (iD 2)) fun y130 =>
Jah y130
(thnH (Jae Ja3 [y3, (iD 12), (iD 17)] h1) fun y131 h132 =>
Jah y131
(thnH (Jae Ja3 [x2, (iD 12), (iD 17)] h132) fun y133 h134 =>
some (y133, h134))
(some ((bD false), h132)))
(thn (binK .int .eql x1 (iD 3)) fun y135 =>
Jah y135
(thnH (Jae Ja3 [y3, (iD 18), (iD 19)] h1) fun y136 h137 =>
Jah y136
(thnH (Jae Ja3 [x2, (iD 18), (iD 19)] h137) fun y138 h139 =>
some (y138, h139))
(some ((bD false), h137)))
(thn (binK .int .eql x1 (iD 4)) fun y140 =>
Jah y140
(thn (binK .int .eql y3 (iD 1)) fun y141 =>
Jah y141
(some ((bD true), h1))
(thn (binK .int .eql y3 (iD 2)) fun y142 =>
Jah y142
(thnH (Jae Ja3 [x2, (iD 0), (iD 1)] h1) fun y143 h144 =>
some (y143, h144))
(some ((bD false), h1))))
(thn (binK .int .eql x1 (iD 5)) fun y145 =>
Jah y145
(Jah y124
(thn (binK .int .eql x2 (iD 0)) fun y146 =>
some (y146, h1))
(some ((bD false), h1)))
(thn (binK .int .eql x1 (iD 6)) fun y147 =>
Jah y147
(thn (binK .int .eql y3 (iD 23)) fun y148 =>
Jah y148
(thn (binK .int .eql x2 (iD 0)) fun y149 =>
some (y149, h1))
(thn (binK .int .eql y3 (iD 24)) fun y150 =>
Jah y150
(thn (binK .int .eql x2 (iD 0)) fun y151 =>
some (y151, h1))
(some ((bD false), h1))))
(thn (binK .int .eql x1 (iD 7)) fun y152 =>
Jah y152
(thn (binK .int .eql y3 (iD 25)) fun y153 =>
some (y153, h1))
(some ((bD false), h1))))))))))))) := by kernel_rfl
end Go.Proofs.YtinnbafplhcnpaaGreat
end
section
namespace Go.Proofs.YtinnbafplhcnpaaGreat
open Go.RowKit
set_option linter.unusedVariables false
set_option linter.unusedSimpArgs false
theorem Jmq (x y : Int) : cmpI x y = 0 ↔ x = y := by
  unfold cmpI
  split
  · omega
  · split <;> omega
theorem Qan (x y : Int) : cmpI y x = - cmpI x y := by
  unfold cmpI
  rcases Int.lt_trichotomy x y with h | h | h
  · rw [if_pos h, if_neg (by omega), if_pos h]; rfl
  · rw [if_neg (by omega), if_neg (by omega), if_neg (by omega), if_neg (by omega)]; rfl
  · rw [if_pos h, if_neg (by omega), if_pos h]
theorem Qk7 (x y : Int) : cmpI x y < 0 ↔ x < y := by
  unfold cmpI
  split
  · omega
  · split <;> omega
def Jgs (a b : Dl) : Int := if cmpL a.path b.path ≠ 0 then cmpL a.path b.path else if cmpI a.op b.op ≠ 0 then cmpI a.op b.op else cmpI a.n b.n
theorem Jnd (a b : Dl) : Jgs a b = 0 ↔ a = b := by
  unfold Jgs
  have h1 := Jtv a.path b.path
  have h2 := Jmq a.op b.op
  have h3 := Jmq a.n b.n
  obtain ⟨p, o, n⟩ := a
  obtain ⟨q, u, m⟩ := b
  simp only [Dl.mk.injEq] at *
  split
  · rename_i h; exact ⟨fun e => absurd e h, fun e => absurd (h1.2 e.1) h⟩
  · rename_i h
    have h := Classical.not_not.1 h
    split
    · rename_i h'; exact ⟨fun e => absurd e h', fun e => absurd (h2.2 e.2.1) h'⟩
    · rename_i h'
      have h' := Classical.not_not.1 h'
      exact ⟨fun e => ⟨h1.1 h, h2.1 h', h3.1 e⟩, fun e => h3.2 e.2.2⟩
theorem Qht (a b : Dl) : Jgs b a = - Jgs a b := by
  unfold Jgs
  rw [Qal a.path b.path, Qan a.op b.op, Qan a.n b.n]
  generalize cmpL a.path b.path = x
  generalize cmpI a.op b.op = y
  generalize cmpI a.n b.n = z
  by_cases h : x = 0
  · subst h
    by_cases h' : y = 0
    · subst h'; simp
    · simp [h']
  · simp [h]
theorem Qhv {a b : Dl} (h : cmpL a.path b.path < 0) : Jgs a b < 0 := by
  unfold Jgs
  rw [if_pos (by omega)]
  exact h
end Go.Proofs.YtinnbafplhcnpaaGreat
end
