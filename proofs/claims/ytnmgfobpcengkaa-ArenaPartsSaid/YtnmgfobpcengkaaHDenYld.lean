/-
  A round of a loop over a function, by the loop's object: and that it does so. Nothing here names the program.
-/
import Derived.Test.YtnmgfobpcengkaaHDenK
namespace Go.Proofs.Ytnmgfobpcengkaa
open Go.RowKit
set_option linter.unusedVariables false
set_option linter.unusedSimpArgs false

/-- The values that are handed to a round. -/
def putsE : List Nat → List D → En → En
  | t :: ps, d :: ds, e => putsE ps ds ((t, d) :: e)
  | _, _, e => e
/-- A round begins: its loop is busy. -/
def busyK {α : Type} (id : Nat) (H : Heap) (k : Heap → Option α) : Option α :=
  match H[id]? with
  | some (.loop .ready ps as bd sz kp s) => k (H.set id (.loop .busy ps as bd sz kp s))
  | _ => none
/-- It ends. -/
def endR (id : Nat) (lv : Lv) (H : Heap) : Option (D × Heap) :=
  match H[id]? with
  | some (.loop .busy ps as bd sz kp s) =>
    match lv with
    | .normal => some (.v (.bool true), H.set id (.loop .ready ps as bd sz kp s))
    | lv => some (.v (.bool false), H.set id (.loop (.done lv) ps as bd sz kp s))
  | _ => none
def onNormal {α : Type} (lv : Lv) (x : Option α) : Option α :=
  match lv with
  | .normal => x
  | _ => none
/-- A round over the values ds. -/
def roundB (P : Program) (T : Tab) (n : Nat) (id : Nat) (ps : List Nat) (as bd : Code) (sz : Nat) (kp : List Nat) (s : List D) (ds : List D) (H : Heap) : Option (D × Heap) :=
  runK P T kp n sz as (putsE ps ds (mkE kp s 0)) H fun lv e H1 => onNormal lv (busyK id H1 fun H2 => runK P T kp n sz bd e H2 fun lv2 _ H3 => endR id lv2 H3)
def roundK (P : Program) (T : Tab) (n : Nat) (id : Nat) (ds : List D) (H : Heap) : Option (D × Heap) :=
  match H[id]? with
  | some (.loop .ready ps as bd sz kp s) => if ds.length = ps.length ∧ noRange as = true ∧ noRange bd = true ∧ (ps.all fun t => decide (t < sz)) = true ∧ (kp.all fun t => decide (t < sz)) = true then roundB P T n id ps as bd sz kp s ds H else none
  | _ => none

theorem frU_get (sz : Nat) (kp : List Nat) (s : List D) (t : Nat) (ht : t < sz) : (frU sz kp s).getD t .undef = getU kp s t := by
  rw [List.getD_eq_getElem?_getD, frU, List.getElem?_map, List.getElem?_range ht]; rfl
theorem mkE_getU : ∀ (kp : List Nat) (s : List D) (l : List D) (i t : Nat), l.drop i = s → getE (mkE kp l i) t = getU kp s t
  | [], s, l, i, t, h => by simp [mkE, getE, getU]
  | k :: kp, s, l, i, t, h => by
    simp only [mkE]
    rw [getE_cons]
    cases s with
    | nil =>
      have hl : l.length ≤ i := by simpa using h
      simp only [getU]
      split
      · rw [List.getD_eq_getElem?_getD, List.getElem?_eq_none hl]; rfl
      · have := mkE_getU kp [] l (i + 1) t (by rw [List.drop_of_length_le]; omega)
        rw [this]
        cases kp <;> rfl
    | cons d r =>
      have hi : l[i]? = some d := by
        have := congrArg (·[0]?) h
        simpa using this
      have hr : l.drop (i + 1) = r := by
        have := congrArg List.tail h
        simpa using this
      simp only [getU]
      split
      · rw [List.getD_eq_getElem?_getD, hi]; rfl
      · exact mkE_getU kp r l (i + 1) t hr
theorem rl_frU (sz : Nat) (kp : List Nat) (s : List D) (h : ∀ t, sz ≤ t → getU kp s t = .undef) : Rl sz (mkE kp s 0) (frU sz kp s) := by
  refine ⟨by simp [frU], fun t => ?_⟩
  rw [mkE_getU kp s s 0 t (by simp)]
  by_cases ht : t < sz
  · rw [frU_get sz kp s t ht]
  · rw [h t (by omega), List.getD_eq_getElem?_getD, List.getElem?_eq_none (by simp [frU]; omega)]; rfl
theorem getU_none : ∀ (kp : List Nat) (s : List D) (t : Nat), t ∉ kp → getU kp s t = .undef
  | [], s, t, _ => by cases s <;> rfl
  | k :: kp, [], t, _ => rfl
  | k :: kp, d :: s, t, h => by
    simp only [List.mem_cons, not_or] at h
    simp only [getU]
    rw [if_neg (fun e => h.1 e.symm)]
    exact getU_none kp s t h.2
/-- Values are handed to a round: in the frame, and in the slots. -/
def setsL : List Nat → List D → List D → List D
  | t :: ps, d :: ds, l => setsL ps ds (l.set t d)
  | _, _, l => l
theorem rl_puts (sz : Nat) : ∀ (ps : List Nat) (ds : List D) (e : En) (fr : List D), (ps.all fun t => decide (t < sz)) = true → Rl sz e fr → Rl sz (putsE ps ds e) (setsL ps ds fr)
  | [], ds, e, fr, _, h => by cases ds <;> exact h
  | t :: ps, [], e, fr, _, h => h
  | t :: ps, d :: ds, e, fr, hp, h => by
    simp only [List.all_cons, Bool.and_eq_true, decide_eq_true_eq] at hp
    exact rl_puts sz ps ds _ _ hp.2 (h.set t hp.1 d)
theorem rep_puts {S : Nat → Prop} {L : List (Nat × Nat)} {w : World} : ∀ (ps : List Nat) (ds : List D) (vs : List Value) (tmps : Array Value) (fr : List D), RepA S L w vs ds → RepA S L w tmps.toList fr →
    RepA S L w ((ps.zip vs).foldl (fun tmps (t, a) => tmps.setIfInBounds t a) tmps).toList (setsL ps ds fr)
  | [], ds, vs, tmps, fr, _, h => by cases ds <;> exact h
  | t :: ps, [], vs, tmps, fr, hv, h => by
    simp only [RepA] at hv
    subst hv
    exact h
  | t :: ps, d :: ds, vs, tmps, fr, hv, h => by
    simp only [RepA] at hv
    obtain ⟨x, ys, rfl, h1, h2⟩ := hv
    refine rep_puts ps ds ys _ _ h2 ?_
    simp only [Array.toList_setIfInBounds]
    exact h.set t h1
theorem onNormal_some {α : Type} {lv : Lv} {x : Option α} {r : α} (h : onNormal lv x = some r) : lv = .normal ∧ x = some r := by
  cases lv with
  | normal => exact ⟨rfl, h⟩
  | _ => cases h
theorem busyK_some {α : Type} {id : Nat} {H : Heap} {k : Heap → Option α} {r : α} (h : busyK id H k = some r) : ∃ ps as bd sz kp s, H[id]? = some (.loop .ready ps as bd sz kp s) ∧ k (H.set id (.loop .busy ps as bd sz kp s)) = some r := by
  unfold busyK at h
  split at h
  · rename_i ps as bd sz kp s hid
    exact ⟨ps, as, bd, sz, kp, s, hid, h⟩
  · cases h
/-- The loop's object is written. -/
theorem HRel.loop {B : Nat} {S : Nat → Prop} {L : List (Nat × Nat)} {w : World} {H : Heap} (h : HRel B S L w H) {id : Nat} {st : LS} {ps : List Nat} {as bd : Code} {sz : Nat} {kp : List Nat} {s : List D} (hid : H[id]? = some (.loop st ps as bd sz kp s)) {b c : Nat} (hL : L[id]? = some (b, c)) :
    ∃ r : Loop, w.heap[b]? = some (.loop r) ∧ r.state = st.state ∧ r.pending = st.pend ∧ ∀ st' : LS, ∀ r' : Loop, r'.state = st'.state → r'.pending = st'.pend → r'.params = r.params → r'.assign = r.assign → r'.body = r.body → r'.tmps = r.tmps →
      HRel B S L (w.putObj b (.loop r')) (H.set id (.loop st' ps as bd sz kp s)) ∧ Later B S S L L w (w.putObj b (.loop r')) := by
  obtain ⟨b', c', h1, h2, h3, r, h4, h5, h6, h7, h8, h9, h10⟩ := h.obj id _ hid (by intro e; cases e)
  rw [hL] at h1
  cases h1
  refine ⟨r, h4, h5, h6, fun st' r' k1 k2 k3 k4 k5 k6 => ?_⟩
  refine h.writeO hid (by intro e; cases e) hL _ (.loop st' ps as bd sz kp s) (by intro e; cases e) rfl rfl rfl (by simp) (fun k hk => World.putObj_heap_other hk) fun hr1 hr2 => ?_
  exact ⟨r', World.putObj_heap_same (Array.getElem?_eq_some_iff.1 h4).1, k1, k2, by rw [k3]; exact h7, k4.trans h8, k5.trans h9, by rw [k6]; exact hr2 _ _ h10⟩

theorem roundK_ok {P : Program} {T : Tab} (hT : TabOk P T) (hm : P.follows .mixedOrders = true) (n : Nat) : YOk P (roundK P T n) := by
  intro id ds H d H' h B S L vs w hr hv
  unfold roundK at h
  split at h
  · rename_i ps as bd sz kp s hid
    split at h
    · rename_i hc
      obtain ⟨hlen, hn1, hn2, hps, hkp⟩ := hc
      unfold roundB at h
      obtain ⟨b, c, h1, h2, h3, r, h4, h5, h6, h7, h8, h9, h10⟩ := hr.obj id _ hid (by intro e; cases e)
      have hvl := hv.length
      have hsz : vs.toArray.size = r.params.size := by
        have : r.params.size = ps.length := by rw [← h7]; simp
        simp; omega
      have hrl := rl_puts sz ps ds _ _ hps (rl_frU sz kp s fun t ht => getU_none kp s t fun hm => by
        have := List.all_eq_true.1 hkp t hm
        simp at this; omega)
      obtain ⟨lv, fr1, e1, k1, k2, k3⟩ := runK_le _ _ _ _ _ _ hrl h
      obtain ⟨hlv, k3'⟩ := onNormal_some k3
      subst hlv
      clear k3
      obtain ⟨ps1, as1, bd1, sz1, kp1, s1, hid1, k3⟩ := busyK_some k3'
      obtain ⟨lv2, fr2, e2, k4, k5, k6⟩ := runK_le _ _ _ _ _ _ k2 k3
      refine ⟨b, c, r.fn, _, r.assign, r.body, h1, run_yield h4 hsz, fun n' => ?_⟩
      refine roundIn_of_wpIn trivial ?_
      rw [h8]
      have hrep : RepF B w.heap.size S L w { tmps := (r.params.zip vs.toArray).foldl (fun tmps (t, a) => tmps.setIfInBounds t a) r.tmps, defers := [] } (setsL ps ds (frU sz kp s), H) := by
        refine ⟨MarksOk.nil, ?_, hr⟩
        have := rep_puts ps ds vs r.tmps _ hv h10
        rw [← h7] at this
        rw [← Array.foldl_toList, Array.toList_zip]
        simpa [h7] using this
      refine runC_ok hT hm (.round b) hr.base as k1 (.inr hn1) (Nat.le_refl _) hrep fun a1 w1 S1 L1 q1 q2 => ?_
      have hL1 := prefix_get q2.pre _ _ h1
      obtain ⟨r1, p1, p2, p3, p4⟩ := q1.objs.loop hid1 hL1
      obtain ⟨p5, p6⟩ := p4 .busy { r1 with state := .busy } rfl p3 rfl rfl rfl rfl
      refine ⟨_, run_beginRound p1 p2, ?_⟩
      rw [h9]
      have hlat := q2.trans p6
      have hrep2 : RepF B w.heap.size S1 L1 (w1.putObj b (.loop { r1 with state := .busy })) a1 (fr1.1, fr1.2.set id (.loop .busy ps1 as1 bd1 sz1 kp1 s1)) := ⟨q1.defers.later p6, p6.repA q1.tmps, p5⟩
      refine runC_ok hT hm (.round b) hr.base bd k4 (.inr hn2) hlat.kept.size hrep2 fun a2 w2 S2 L2 u1 u2 => ?_
      have hL2 := prefix_get u2.pre _ _ hL1
      have hall := hlat.trans u2
      have fin : ∀ (jump : Option Code) (st' : LS) (bb : Bool) ps2 as2 bd2 sz2 kp2 s2, fr2.2[id]? = some (.loop .busy ps2 as2 bd2 sz2 kp2 s2) → (if jump.isNone then LoopState.ready else .done) = st'.state → jump = st'.pend → jump.isNone = bb → d = .v (.bool bb) → H' = fr2.2.set id (.loop st' ps2 as2 bd2 sz2 kp2 s2) →
          ∃ v w', (Instr.endRound b jump).run P w2 = .ok v w' ∧ ∃ v' S' L', Ending.returned v = .returned v' ∧ Rep S' L' w' v' d ∧ HRel B S' L' w' H' ∧ Later B S S' L L' w w' := by
        intro jump st' bb ps2 as2 bd2 sz2 kp2 s2 hid2 e1 e2 e3 e4 e5
        obtain ⟨r2, y1, y2, y3, y4⟩ := u1.objs.loop hid2 hL2
        obtain ⟨y5, y6⟩ := y4 st' { r2 with state := if jump.isNone then .ready else .done, pending := jump } e1 e2 rfl rfl rfl rfl
        refine ⟨_, _, run_endRound jump y1, _, S2, L2, rfl, ?_, by rw [e5]; exact y5, hall.trans y6⟩
        rw [e4, e3]
        simp only [Rep]
      unfold endR at k6
      split at k6
      · rename_i ps2 as2 bd2 sz2 kp2 s2 hid2
        cases lv2 with
        | normal =>
          cases k6
          exact fin none .ready true _ _ _ _ _ _ hid2 rfl rfl rfl rfl rfl
        | exit j =>
          cases k6
          exact fin (some (.exit j)) (.done (.exit j)) false _ _ _ _ _ _ hid2 rfl rfl rfl rfl rfl
        | ret =>
          cases k6
          exact fin (some .ret) (.done .ret) false _ _ _ _ _ _ hid2 rfl rfl rfl rfl rfl
      · cases k6
    · cases h
  · cases h

/-- What a round does, by how deep rounds lie within rounds; TT: what is known of functions, over it. -/
def Yn (P : Program) (TT : (Nat → List D → Heap → Option (D × Heap)) → Tab) (n : Nat) : Nat → Nat → List D → Heap → Option (D × Heap)
  | 0 => noYl
  | m + 1 => roundK P (TT (Yn P TT n m)) n
theorem Yn_ok {P : Program} {TT : (Nat → List D → Heap → Option (D × Heap)) → Tab} (hTT : ∀ Y, YOk P Y → TabOk P (TT Y)) (hm : P.follows .mixedOrders = true) (n : Nat) : ∀ m, YOk P (Yn P TT n m)
  | 0 => noYl_ok P
  | m + 1 => roundK_ok (hTT _ (Yn_ok hTT hm n m)) hm n
end Go.Proofs.Ytnmgfobpcengkaa
