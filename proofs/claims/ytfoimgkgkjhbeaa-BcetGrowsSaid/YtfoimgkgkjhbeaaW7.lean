/- The walks of the reference's small functions: Edges, less. -/
import Derived.Test.YtfoimgkgkjhbeaaW3
namespace Go.Proofs.Ytfoimgkgkjhbeaa
open Go.RowKit

theorem OwnL.empty {P : Program} {α : Type} (E : Enc P α) (w : World) (base : Nat) (hb : base ≤ w.heap.size) : OwnL E (w.alloc (.cells #[] E.e)) base (.slice (some ⟨w.heap.size, 0, none⟩) 0 0) [] :=
  World.ownsRow_made w #[] 0 hb (Nat.zero_le _) (by simp)
/-- less, in plain words. -/
def lessF (a m b n : Int) : Bool := if a < 0 then false else decide (b < 0) || decide (a < b) || (decide (a = b) && decide (m < n))

set_option maxRecDepth 100000 in
set_option maxHeartbeats 400000 in
theorem less_same (w : World) (a m b n : Int) :
    Calls Try.prog 37 #[.int .i64 a, .int .i64 m, .int .i64 b, .int .i64 n] w fun e w' => e = .returned (.bool (lessF a m b n)) ∧ w' = w := by
  by_cases h1 : a < 0
  · have d1 : decide (a < 0) = true := by simpa using h1
    go_enter Try.func37, Try.ntmps37
    go_wp2
    go_ret
    exact ⟨ret_b (by simp [lessF, h1]), rfl⟩
  have d1 : decide (a < 0) = false := by simpa using h1
  by_cases h2 : b < 0
  · have d2 : decide (b < 0) = true := by simpa using h2
    go_enter Try.func37, Try.ntmps37
    go_wp2
    go_ret
    exact ⟨ret_b (by simp [lessF, h1, h2]), rfl⟩
  have d2 : decide (b < 0) = false := by simpa using h2
  by_cases h3 : a < b
  · have d3 : decide (a < b) = true := by simpa using h3
    go_enter Try.func37, Try.ntmps37
    go_wp2
    go_ret
    exact ⟨ret_b (by simp [lessF, h1, h3]), rfl⟩
  have d3 : decide (a < b) = false := by simpa using h3
  by_cases h4 : a = b
  · subst h4
    have e1 : lessF a m a n = decide (m < n) := by simp [lessF, h1]
    have HE1 := Lib.hid e1; clear e1
    go_enter Try.func37, Try.ntmps37
    go_wp2
    go_ret
    exact ⟨ret_b HE1.out.symm, rfl⟩
  · have d4 : (a == b) = false := by simpa using h4
    go_enter Try.func37, Try.ntmps37
    go_wp2
    go_ret
    exact ⟨ret_b (by simp [lessF, h1, h2, h3, h4]), rfl⟩

/-- The edges of lists of successors. -/
def edgesL : Nat → List (List Int) → List (Int × Int)
  | _, [] => []
  | k, l :: ls => edgesOf k l ++ edgesL (k + 1) ls
theorem edgesL_append (a b : List (List Int)) (k : Nat) : edgesL k (a ++ b) = edgesL k a ++ edgesL (k + a.length) b := by
  induction a generalizing k with
  | nil => simp [edgesL]
  | cons x a ih => simp only [List.cons_append, edgesL, ih, List.append_assoc, List.length_cons]; rw [show k + 1 + a.length = k + (a.length + 1) by omega]
theorem edgesL_step (ls : List (List Int)) (k : Nat) (h : k < ls.length) : edgesL 0 (ls.take (k + 1)) = edgesL 0 (ls.take k) ++ edgesOf k (ls[k]?.getD []) := by
  rw [take_snoc ls [] k h, edgesL_append]
  simp [edgesL, Nat.min_eq_left (Nat.le_of_lt h)]
theorem edgesL_pre (ls : List (List Int)) (k j : Nat) (h : k < ls.length) (hj : j ≤ (ls[k]?.getD []).length) :
    (edgesL 0 (ls.take k) ++ edgesOf k ((ls[k]?.getD []).take j)).length ≤ (edgesL 0 ls).length := by
  have e : ls = ls.take (k + 1) ++ ls.drop (k + 1) := (List.take_append_drop _ _).symm
  have : (edgesL 0 ls).length = (edgesL 0 (ls.take (k + 1))).length + (edgesL (0 + (ls.take (k+1)).length) (ls.drop (k + 1))).length := by
    rw [← List.length_append, ← edgesL_append, ← e]
  rw [this, edgesL_step ls k h]
  simp only [List.length_append, edgesOf, List.length_map, List.length_take]
  omega

set_option maxRecDepth 100000 in
set_option maxHeartbeats 400000 in
theorem redges_any (w : World) (v : Value) (ls : List (List Int)) (hv : RowsV w v ls) (hE : (edgesL 0 ls).length ≤ 1048576) :
    Calls Try.prog 24 #[v] w fun e w' => ∃ u, e = .returned u ∧ OwnL encPair w' w.heap.size u (edgesL 0 ls) ∧ Below w.heap.size w w' := by
  obtain ⟨A, c, rfl, hA, hl⟩ := hv
  go_enter Try.func24, Try.ntmps24
  go_wp2
  go_loopw [3, 4] (fun v i wr => ∃ k : Nat, i = .int .i64 k ∧ k ≤ ls.length ∧ Below w.heap.size w wr ∧ OwnL encPair wr w.heap.size v (edgesL 0 (ls.take k))) (fun _ i _ => ls.length - (intOf i).toNat)
  case atStart => exact ⟨0, rfl, by omega, (Below.refl _ _).alloc (Nat.le_refl _) _, OwnL.empty _ _ _ (Nat.le_refl _)⟩
  case round =>
    obtain ⟨k, rfl, hk, hb, hown⟩ := hrel
    by_cases hlt : k < ls.length
    · obtain ⟨b, off, nA, nc, rfl, h3, h4, h5⟩ := hA k hlt
      have hpre := edgesL_pre ls k
      obtain ⟨x, hx⟩ : ∃ x, x = ls[k]?.getD [] := ⟨_, rfl⟩
      rw [← hx] at h3 h4 h5 hpre
      have HP := Lib.hid hpre; clear hpre
      have HX := Lib.hid hx; clear hx
      have g3 := cell_old hb h3
      clear g3
      go_wp2
      obtain ⟨wo, hwo⟩ : ∃ wo : World, wo = wr := ⟨_, rfl⟩
      rw [← hwo] at hb hown ⊢
      clear hwo
      go_loopw [3, 5] (fun v j wi => ∃ jj : Nat, j = .int .i64 jj ∧ jj ≤ x.length ∧ Below w.heap.size w wi ∧ OwnL encPair wi w.heap.size v (edgesL 0 (ls.take k) ++ edgesOf k (x.take jj))) (fun _ j _ => x.length - (intOf j).toNat)
      case atStart => exact ⟨0, rfl, by omega, hb, by simpa [edgesOf] using hown⟩
      case round =>
        obtain ⟨j, rfl, hj, hbj, hownj⟩ := hrel
        have g3 := cell_old hbj h3
        by_cases hjl : j < x.length
        · obtain ⟨b1, o1, rfl, h6⟩ := h4 j hjl
          have g6 := cell_old hbj h6
          clear h6
          obtain ⟨t, ht⟩ : ∃ t, t = x[j]?.getD 0 := ⟨_, rfl⟩
          rw [← ht] at g6
          have hpj : (edgesL 0 (ls.take k) ++ edgesOf k (x.take j)).length ≤ 1048576 := Nat.le_trans (HP.out j hlt hj) hE
          obtain ⟨es, hes⟩ : ∃ es, es = edgesL 0 (ls.take k) ++ edgesOf k (x.take j) := ⟨_, rfl⟩
          rw [← hes] at hownj hpj
          have HS := Lib.hid hes; clear hes
          have HT := Lib.hid ht; clear ht
          go_wp2_with (at_builtin; refine wpl_app1 encPair rfl _ _ rfl rfl hownj ((k : Int), t) rfl rfl (by show _ * 16 ≤ _; omega) (by unfold maxLen; omega) (Nat.le_refl _) hbj.size hbj ?_; intro v' w1 hown' hb' _ _)
          go_roundw
          case rel => exact ⟨j + 1, by go_num, by omega, hb', by rw [edgesOf_step k x j hjl, ← HT.out, ← List.append_assoc, ← HS.out]; exact hown'⟩
          case measure => simp [intOf]; omega
        · go_wp2
          go_roundw
          case rel => exact ⟨k + 1, by go_num, by omega, hbj, by rw [edgesL_step ls k hlt, ← HX.out]; rw [List.take_of_length_le (l := x) (by omega)] at hownj; exact hownj⟩
          case measure => simp [intOf]; omega
    · go_wp2
      go_ret
      exact ⟨_, rfl, by rw [List.take_of_length_le (by omega)] at hown; exact hown, hb⟩
end Go.Proofs.Ytfoimgkgkjhbeaa
