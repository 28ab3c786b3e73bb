/- The walks of cfg.Valid and what it calls. -/
import Derived.Test.YtfoimgkgkjhbeaaW1
import Derived.Deep.OwnRows
namespace Go.Proofs.Ytfoimgkgkjhbeaa
open Go.RowKit

set_option maxRecDepth 100000 in
set_option maxHeartbeats 400000 in
theorem valid1_any (w : World) (v u : Value) (xs ys : List Int) (hx : IntsV w v xs) (hy : IntsV w u ys) :
    Calls Try.prog 29 #[v, u] w fun e w' => e = .returned (.bool (xs == ys)) ∧ Below w.heap.size w w' := by
  go_enter Try.func29, Try.ntmps29
  go_wp2_with (go_at_call 30; refine (equal_any _ _ _ _ _ hx hy).mono ?_; rintro e w' ⟨rfl, hb⟩)
  go_ret
  exact ⟨rfl, hb⟩

def RowsV (w : World) (v : Value) (ls : List (List Int)) : Prop := ∃ A c, v = .slice A ls.length c ∧ RowsAt w A ls ∧ ls.length * 24 ≤ 140737488351232

set_option maxRecDepth 100000 in
set_option maxHeartbeats 400000 in
theorem equalFunc_any (w : World) (v u : Value) (xs ys : List (List Int)) (hx : RowsV w v xs) (hy : RowsV w u ys) :
    Calls Try.prog 28 #[v, u, .func (.func 29) #[] #[]] w fun e w' => e = .returned (.bool (xs == ys)) ∧ Below w.heap.size w w' := by
  obtain ⟨A, ca, rfl, hx, hn⟩ := hx
  obtain ⟨B, cb, rfl, hy, hm⟩ := hy
  by_cases hl : xs.length = ys.length
  case neg =>
    have hl2 : (((xs.length : Int) == (ys.length : Int))) = false := by simp; omega
    have hl3 : (((xs.length : Int) != (ys.length : Int))) = true := by simp; omega
    have hxy : (xs == ys) = false := by rw [beq_eq_false_iff_ne]; intro h; exact hl (by rw [h])
    have HX := Lib.hid hxy; clear hxy
    go_enter Try.func28, Try.ntmps28
    go_wp2
    go_ret
    exact ⟨ret_b HX.out.symm, Below.refl _ _⟩
  case pos =>
    have hl2 : (((xs.length : Int) == (ys.length : Int))) = true := by simp; omega
    have hl3 : (((xs.length : Int) != (ys.length : Int))) = false := by simp; omega
    have hle : ys.length ≤ xs.length := by omega
    have hge : xs.length ≤ ys.length := by omega
    have HL := Lib.hid hl; clear hl
    go_enter Try.func28, Try.ntmps28
    go_wp2
    go_loopw [17] (fun i wr => ∃ k : Nat, i = .int .i64 k ∧ k ≤ xs.length ∧ Below w.heap.size w wr ∧ (∀ j, j < k → xs[j]?.getD [] = ys[j]?.getD [])) (fun i _ => xs.length - (intOf i).toNat)
    case atStart => exact ⟨0, rfl, by omega, Below.refl _ _, by omega⟩
    case round =>
      obtain ⟨k, rfl, hk, hb, heq⟩ := hrel
      have HE := Lib.hid heq; clear heq
      by_cases hlt : k < xs.length
      · have hly : k < ys.length := by omega
        obtain ⟨b1, o1, A1, c1, rfl, h1, r1, s1⟩ := hx k hlt
        obtain ⟨b2, o2, A2, c2, rfl, h2, r2, s2⟩ := hy k hly
        obtain ⟨x, hx'⟩ : ∃ x, x = xs[k]?.getD [] := ⟨_, rfl⟩
        obtain ⟨y, hy'⟩ : ∃ y, y = ys[k]?.getD [] := ⟨_, rfl⟩
        rw [← hx'] at h1 r1 s1
        rw [← hy'] at h2 r2 s2
        have HX := Lib.hid hx'; clear hx'
        have HY := Lib.hid hy'; clear hy'
        have g1 := cell_old hb h1
        have g2 := cell_old hb h2
        clear h1 h2
        have i1 : IntsV wr (.slice A1 x.length c1) x := ⟨_, _, rfl, (r1.old hb), s1⟩
        have i2 : IntsV wr (.slice A2 y.length c2) y := ⟨_, _, rfl, (r2.old hb), s2⟩
        by_cases hxy : x = y
        · have hbe : (x == y) = true := by simp [hxy]
          have HXY := Lib.hid hxy; clear hxy
          go_wp2_with (go_at_call 29; refine (valid1_any _ _ _ _ _ i1 i2).mono ?_; rintro e w' ⟨rfl, hb'⟩)
          go_roundw
          case rel =>
            refine ⟨k + 1, by go_num, by omega, hb.trans (hb'.mono hb.size), ?_⟩
            intro j hj
            by_cases e : j = k
            · subst e; rw [← HX.out, ← HY.out]; exact HXY.out
            · exact HE.out j (by omega)
          case measure => simp [intOf]; omega
        · have hbe : (x == y) = false := by simp [hxy]
          go_wp2_with (go_at_call 29; refine (valid1_any _ _ _ _ _ i1 i2).mono ?_; rintro e w' ⟨rfl, hb'⟩)
          go_ret
          refine ⟨ret_b ?_, hb.trans (hb'.mono hb.size)⟩
          symm; rw [beq_eq_false_iff_ne]; intro h; apply hxy; rw [HX.out, HY.out, h]
      · go_wp2
        go_ret
        refine ⟨ret_b ?_, hb⟩
        have : xs = ys := by
          apply List.ext_getElem HL.out
          intro i h1 h2
          have := HE.out i (by omega)
          simpa [h1, h2] using this
        simp [this]
end Go.Proofs.Ytfoimgkgkjhbeaa
