/-
  The reference's up: the node that has one as a kid, and which kid it is.
-/
import Derived.Test.YtnmgfobpcengkaaRefKids
import Derived.Test.YtnmgfobpcengkaaScan
namespace Go.Proofs.Ytnmgfobpcengkaa
open Go.RowKit

/-- Among the kids of the nodes from i on, fewer than n of them looked at: which one is at? -/
def upV (l : List Nd) (t : Int) : Nat → Nat → Int × Int
  | 0, _ => (-1, 0)
  | n + 1, i => match (kidsv l i).findIdx? (· == t) with | some k => ((i : Int), (k : Int)) | none => upV l t n (i + 1)

theorem upV_hit (l : List Nd) (t : Int) (n i k : Nat) (hk : k < (kidsv l i).length) (h : (kidsv l i)[k] = t) (hn : ∀ j, (hj : j < k) → (kidsv l i)[j]'(by omega) ≠ t) : upV l t (n + 1) i = ((i : Int), (k : Int)) := by
  have : (kidsv l i).findIdx? (· == t) = some k := by
    rw [List.findIdx?_eq_some_iff_getElem]
    exact ⟨hk, by simpa using h, fun j hj => by simpa using hn j hj⟩
  rw [upV, this]
theorem upV_miss (l : List Nd) (t : Int) (n i : Nat) (hn : ∀ j, (hj : j < (kidsv l i).length) → (kidsv l i)[j] ≠ t) : upV l t (n + 1) i = upV l t n (i + 1) := by
  have : (kidsv l i).findIdx? (· == t) = none := by
    rw [List.findIdx?_eq_none_iff]
    intro x hx
    obtain ⟨j, hj, rfl⟩ := List.getElem_of_mem hx
    simpa using hn j hj
  rw [upV, this]

set_option maxHeartbeats 4000000 in
theorem up_any (l : List Nd) (t : Nat) (v : Value) (w : World) (hv : NodesAt w v l) (hl : l.length ≤ 4000000) (ht : t ≤ 4000000) :
    Calls Try.prog 39 #[v, .int .i64 t] w fun e w' => e = .returned (.tuple #[.int .i64 (upV l t t 0).1, .int .i64 (upV l t t 0).2]) ∧ Below w.heap.size w w' := by
  obtain ⟨pv, cv, hvs⟩ := hv.slice
  subst hvs
  go_enter Try.func39, Try.ntmps39
  go_wp2
  go_loopw [6] (fun i wr => ∃ k : Nat, i = .int .i64 k ∧ k ≤ t ∧ Hid (upV l t t 0 = upV l t (t - k) k) ∧ Below w.heap.size w wr) (fun i _ => t - (intOf i).toNat)
  case atStart => exact ⟨0, rfl, Nat.zero_le _, Lib.hid rfl, Below.refl _ _⟩
  case round =>
    obtain ⟨k, rfl, hk, hu, hB⟩ := hrel
    have hsz := hB.size
    by_cases hlt : k < t
    · have hvr := NodesIn.below hv hB
      have hkl := kidsv_len l k
      go_wp2_with (go_at_call 30; refine (refKids_any l _ _ _ hvr hl).mono ?_; rintro e w2 ⟨q, rfl, hq, hb2⟩; obtain ⟨pq, cq, hqs⟩ := hq.slice; subst hqs)
      obtain ⟨wo, rfl⟩ : ∃ wo : World, wo = wr := ⟨_, rfl⟩
      go_loopw [8] (fun c wi => ∃ j : Nat, c = .int .i64 j ∧ j ≤ (kidsv l k).length ∧ Hid (∀ i, (hi : i < j) → ∀ (h : i < (kidsv l k).length), (kidsv l k)[i] ≠ t) ∧ wi = w2) (fun c _ => (kidsv l k).length - (intOf c).toNat)
      case atStart => exact ⟨0, rfl, Nat.zero_le _, Lib.hid (fun i hi => by omega), rfl⟩
      case round =>
        obtain ⟨j, rfl, hj, hno, rfl⟩ := hrel
        by_cases hlj : j < (kidsv l k).length
        · rcases hq.open with ⟨h0, _⟩ | ⟨bq, oq, cq', hqs, hqp, hqc, hqb, hqx⟩
          · exfalso; rw [h0] at hlj; simp at hlj
          obtain ⟨rfl, rfl⟩ : pq = some ⟨bq, oq, none⟩ ∧ cq = cq' := by simpa using hqs
          have gq := hqx j hlj
          clear hqx hqs
          by_cases he : (kidsv l k)[j] = t
          · have heb : ((kidsv l k)[j] == (t : Int)) = true := by simp [he]
            have HE := Lib.hid he
            clear he
            go_wp2
            go_ret2
            exact ⟨pair_eq (by rw [hu.out, show t - k = (t - k - 1) + 1 from by omega, upV_hit l t (t - k - 1) k j hlj HE.out (fun i hi => hno.out i hi (by omega))]), hB.trans (hb2.mono hsz)⟩
          · have heb : ((kidsv l k)[j] == (t : Int)) = false := by simp [he]
            have HE := Lib.hid he
            clear he
            go_wp2
            go_round
            case rel =>
              refine ⟨j + 1, by go_num, by omega, Lib.hid (fun i hi h => ?_), trivial⟩
              by_cases hij : i = j
              · subst hij; exact HE.out
              · exact hno.out i (by omega) h
            case measure => simp [intOf]; omega
        · go_wp2
          go_round
          case rel => exact ⟨k + 1, by go_num, by omega, Lib.hid (by rw [hu.out, show t - k = (t - (k + 1)) + 1 from by omega, upV_miss l t (t - (k + 1)) k (fun i hi => hno.out i (by omega) hi)]), hB.trans (hb2.mono hsz)⟩
          case measure => simp [intOf]; omega
    · go_wp2
      go_ret2
      exact ⟨pair_eq (by rw [hu.out, show t - k = 0 from by omega]; rfl), hB⟩
end Go.Proofs.Ytnmgfobpcengkaa
