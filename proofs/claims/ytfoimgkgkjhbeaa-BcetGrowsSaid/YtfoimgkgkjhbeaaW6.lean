/- The walks of slices.IndexFunc and ContainsFunc with bcet.Shortest's closure. -/
import Derived.Test.YtfoimgkgkjhbeaaW3
namespace Go.Proofs.Ytfoimgkgkjhbeaa
open Go.RowKit

def idxF (p : Int → Bool) (xs : List Int) : Int := match xs.findIdx? p with | some i => (i : Int) | none => -1
theorem idxF_none {p : Int → Bool} {xs : List Int} (h : ∀ j, j < xs.length → p (xs[j]?.getD 0) = false) : idxF p xs = -1 := by
  have : xs.findIdx? p = none := by
    rw [List.findIdx?_eq_none_iff]
    intro x hx
    obtain ⟨i, hi, rfl⟩ := List.getElem_of_mem hx
    have := h i hi
    simpa [hi] using this
  unfold idxF; rw [this]
theorem idxF_some {p : Int → Bool} {xs : List Int} {k : Nat} (hk : k < xs.length) (hp : p (xs[k]?.getD 0) = true) (h : ∀ j, j < k → p (xs[j]?.getD 0) = false) : idxF p xs = (k : Int) := by
  have : xs.findIdx? p = some k := by
    rw [List.findIdx?_eq_some_iff_getElem]
    refine ⟨hk, by simpa [hk] using hp, ?_⟩
    intro j hj
    have := h j hj
    have hjl : j < xs.length := by omega
    simpa [hjl] using this
  unfold idxF; rw [this]

set_option maxRecDepth 100000 in
set_option maxHeartbeats 400000 in
theorem neg_any (w : World) (n : Int) : Calls Try.prog 20 #[.int .i64 n] w fun e w' => e = .returned (.bool (decide (n < 0))) ∧ w = w' := by
  go_enter Try.func20, Try.ntmps20
  go_wp2
  go_ret
  exact ⟨rfl, rfl⟩

set_option maxRecDepth 100000 in
set_option maxHeartbeats 400000 in
theorem indexNeg_any (w : World) (v : Value) (xs : List Int) (hx : IntsV w v xs) :
    Calls Try.prog 31 #[v, .func (.func 20) #[] #[]] w fun e w' => e = .returned (.int .i64 (idxF (fun n => decide (n < 0)) xs)) ∧ Below w.heap.size w w' := by
  obtain ⟨A, c, rfl, hx, hn⟩ := hx
  go_enter Try.func31, Try.ntmps31
  go_wp2
  go_loopw [8] (fun i wr => ∃ k : Nat, i = .int .i64 k ∧ k ≤ xs.length ∧ Below w.heap.size w wr ∧ (∀ j, j < k → decide (xs[j]?.getD 0 < 0) = false)) (fun i _ => xs.length - (intOf i).toNat)
  case atStart => exact ⟨0, rfl, by omega, Below.refl _ _, by omega⟩
  case round =>
    obtain ⟨k, rfl, hk, hb, heq⟩ := hrel
    have HE := Lib.hid heq; clear heq
    by_cases hlt : k < xs.length
    · obtain ⟨b1, o1, rfl, h1⟩ := hx k hlt
      have g1 := cell_old hb h1
      clear h1
      obtain ⟨t, ht⟩ : ∃ t, t = xs[k]?.getD 0 := ⟨_, rfl⟩
      rw [← ht] at g1
      have HT := Lib.hid ht; clear ht
      by_cases hneg : t < 0
      · have hd : decide (t < 0) = true := by simpa using hneg
        clear hneg
        go_wp2_with (go_at_call 20; refine (neg_any _ _).mono ?_; rintro e w' ⟨rfl, rfl⟩)
        go_ret
        exact ⟨ret_i (idxF_some hlt (by rw [← HT.out]; exact hd) HE.out).symm, hb⟩
      · have hd : decide (t < 0) = false := by simpa using hneg
        clear hneg
        go_wp2_with (go_at_call 20; refine (neg_any _ _).mono ?_; rintro e w' ⟨rfl, rfl⟩)
        go_roundw
        case rel =>
          refine ⟨k + 1, by go_num, by omega, hb, ?_⟩
          intro j hj
          by_cases e : j = k
          · subst e; rw [← HT.out]; exact hd
          · exact HE.out j (by omega)
        case measure => simp [intOf]; omega
    · go_wp2
      go_ret
      exact ⟨ret_i (idxF_none (fun j hj => HE.out j (by omega))).symm, hb⟩

def hasNeg (xs : List Int) : Bool := xs.any fun n => decide (n < 0)
theorem hasNeg_idx (xs : List Int) : decide (0 ≤ idxF (fun n => decide (n < 0)) xs) = hasNeg xs := by
  unfold idxF hasNeg
  cases h : xs.findIdx? fun n => decide (n < 0) with
  | none =>
    have := List.findIdx?_eq_none_iff.1 h
    simp only [decide_eq_false_iff_not] at this
    simp
    intro x hx; have := this x hx; omega
  | some i =>
    have := List.findIdx?_eq_some_iff_getElem.1 h
    obtain ⟨hi, hp, _⟩ := this
    simp
    exact ⟨xs[i], List.getElem_mem hi, by simpa using hp⟩

set_option maxRecDepth 100000 in
set_option maxHeartbeats 400000 in
theorem containsNeg_any (w : World) (v : Value) (xs : List Int) (hx : IntsV w v xs) :
    Calls Try.prog 19 #[v, .func (.func 20) #[] #[]] w fun e w' => e = .returned (.bool (hasNeg xs)) ∧ Below w.heap.size w w' := by
  have HI := Lib.hid (hasNeg_idx xs)
  go_enter Try.func19, Try.ntmps19
  go_wp2_with (go_at_call 31; refine (indexNeg_any _ _ _ hx).mono ?_; rintro e w' ⟨rfl, hb⟩)
  go_ret
  exact ⟨ret_b HI.out, hb⟩
end Go.Proofs.Ytfoimgkgkjhbeaa
