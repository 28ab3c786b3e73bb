/- The walks of small functions: what each call comes to. -/
import Derived.Test.YtfoimgkgkjhbeaaRows
import Derived.Test.YtfoimgkgkjhbeaaB
import Derived.Deep.QuietTactic
import Derived.BigQuiet
namespace Go.Proofs.Ytfoimgkgkjhbeaa
open Go.RowKit

set_option maxRecDepth 100000 in
set_option maxHeartbeats 400000 in
theorem ints_any (w : World) (v u : Value) (xs ys : List Int) (hx : IntsV w v xs) (hy : IntsV w u ys) :
    Calls Try.prog 13 #[v, u] w fun e w' => e = .returned (.bool (xs == ys)) ∧ Below w.heap.size w w' := by
  obtain ⟨A, ca, rfl, hx, hn⟩ := hx
  obtain ⟨B, cb, rfl, hy, hm⟩ := hy
  by_cases hl : xs.length = ys.length
  case neg =>
    have hl2 : (((xs.length : Int) == (ys.length : Int))) = false := by simp; omega
    have hl3 : (((xs.length : Int) != (ys.length : Int))) = true := by simp; omega
    have hxy : (xs == ys) = false := by rw [beq_eq_false_iff_ne]; intro h; exact hl (by rw [h])
    have HX := Lib.hid hxy; clear hxy
    go_enter Try.func13, Try.ntmps13
    go_wp2
    go_ret
    exact ⟨ret_b HX.out.symm, Below.refl _ _⟩
  case pos =>
    have hl2 : (((xs.length : Int) == (ys.length : Int))) = true := by simp; omega
    have hl3 : (((xs.length : Int) != (ys.length : Int))) = false := by simp; omega
    have hle : ys.length ≤ xs.length := by omega
    have hge : xs.length ≤ ys.length := by omega
    have HL := Lib.hid hl; clear hl
    go_enter Try.func13, Try.ntmps13
    go_wp2
    go_loopw [13, 5] (fun i _ wr => ∃ k : Nat, i = .int .i64 k ∧ k ≤ xs.length ∧ Below w.heap.size w wr ∧ (∀ j, j < k → xs[j]?.getD 0 = ys[j]?.getD 0)) (fun i _ _ => xs.length - (intOf i).toNat)
    case atStart => exact ⟨0, rfl, by omega, Below.refl _ _, by omega⟩
    case round =>
      obtain ⟨k, rfl, hk, hb, heq⟩ := hrel
      have HE := Lib.hid heq; clear heq
      by_cases hlt : k < xs.length
      · have hly : k < ys.length := by omega
        obtain ⟨b1, o1, rfl, h1⟩ := hx k hlt
        obtain ⟨b2, o2, rfl, h2⟩ := hy k hly
        have g1 := cell_old hb h1
        have g2 := cell_old hb h2
        clear h1 h2
        go_wp2
        go_quiet (fail)
        go_wp2
        · have hne : (xs[k] != ys[k]) = true := by assumption
          go_ret
          refine ⟨ret_b ?_, ?_⟩
          · symm; rw [beq_eq_false_iff_ne]; intro h; subst h; simp at hne
          · exact drewN_below hb _
        · have hne : (xs[k] != ys[k]) = false := by assumption
          go_roundw
          case rel =>
            refine ⟨k + 1, by go_num, by omega, drewN_below hb _, ?_⟩
            intro j hj
            by_cases e : j = k
            · subst e; simpa [hlt, hly] using hne
            · exact HE.out j (by omega)
          case measure => simp [intOf]; omega
      · go_wp2
        go_ret
        exact ⟨ret_b (by rw [eq_of_up HL.out (fun j hj => HE.out j (by have := HL.out; omega))]; simp), hb⟩

set_option maxRecDepth 100000 in
set_option maxHeartbeats 400000 in
theorem equal_any (w : World) (v u : Value) (xs ys : List Int) (hx : IntsV w v xs) (hy : IntsV w u ys) :
    Calls Try.prog 30 #[v, u] w fun e w' => e = .returned (.bool (xs == ys)) ∧ Below w.heap.size w w' := by
  obtain ⟨A, ca, rfl, hx, hn⟩ := hx
  obtain ⟨B, cb, rfl, hy, hm⟩ := hy
  by_cases hl : xs.length = ys.length
  case neg =>
    have hl2 : (((xs.length : Int) == (ys.length : Int))) = false := by simp; omega
    have hl3 : (((xs.length : Int) != (ys.length : Int))) = true := by simp; omega
    have hxy : (xs == ys) = false := by rw [beq_eq_false_iff_ne]; intro h; exact hl (by rw [h])
    have HX := Lib.hid hxy; clear hxy
    go_enter Try.func30, Try.ntmps30
    go_wp2
    go_ret
    exact ⟨ret_b HX.out.symm, Below.refl _ _⟩
  case pos =>
    have hl2 : (((xs.length : Int) == (ys.length : Int))) = true := by simp; omega
    have hl3 : (((xs.length : Int) != (ys.length : Int))) = false := by simp; omega
    have hle : ys.length ≤ xs.length := by omega
    have hge : xs.length ≤ ys.length := by omega
    have HL := Lib.hid hl; clear hl
    go_enter Try.func30, Try.ntmps30
    go_wp2
    go_loopw [13, 5] (fun i _ wr => ∃ k : Nat, i = .int .i64 k ∧ k ≤ xs.length ∧ Below w.heap.size w wr ∧ (∀ j, j < k → xs[j]?.getD 0 = ys[j]?.getD 0)) (fun i _ _ => xs.length - (intOf i).toNat)
    case atStart => exact ⟨0, rfl, by omega, Below.refl _ _, by omega⟩
    case round =>
      obtain ⟨k, rfl, hk, hb, heq⟩ := hrel
      have HE := Lib.hid heq; clear heq
      by_cases hlt : k < xs.length
      · have hly : k < ys.length := by omega
        obtain ⟨b1, o1, rfl, h1⟩ := hx k hlt
        obtain ⟨b2, o2, rfl, h2⟩ := hy k hly
        have g1 := cell_old hb h1
        have g2 := cell_old hb h2
        clear h1 h2
        go_wp2
        go_quiet (fail)
        go_wp2
        · have hne : (xs[k] != ys[k]) = true := by assumption
          go_ret
          refine ⟨ret_b ?_, ?_⟩
          · symm; rw [beq_eq_false_iff_ne]; intro h; subst h; simp at hne
          · exact drewN_below hb _
        · have hne : (xs[k] != ys[k]) = false := by assumption
          go_roundw
          case rel =>
            refine ⟨k + 1, by go_num, by omega, drewN_below hb _, ?_⟩
            intro j hj
            by_cases e : j = k
            · subst e; simpa [hlt, hly] using hne
            · exact HE.out j (by omega)
          case measure => simp [intOf]; omega
      · go_wp2
        go_ret
        exact ⟨ret_b (by rw [eq_of_up HL.out (fun j hj => HE.out j (by have := HL.out; omega))]; simp), hb⟩

def encPair : Enc Try.prog (Int × Int) where
  e := 41
  t := 39
  size := 2
  bytes := 16
  z := .agg #[.int .i64 0, .int .i64 0]
  enc := fun p => [.int .i64 p.1, .int .i64 p.2]
  ht := Try.underlying39
  hinfo := by kernel_rfl
  hlen := fun _ => rfl
  hone := by intro x u hu; simp at hu; rcases hu with rfl | rfl <;> rfl
  hz := rfl
  hpos := by decide


set_option maxRecDepth 100000 in
set_option maxHeartbeats 400000 in
theorem edges_any (w : World) (gv : Value) (g : Gr) (hg : GraphV w gv g) (hE : (edges g).length ≤ 1048576) :
    Calls Try.prog 14 #[gv] w fun e w' => ∃ v, e = .returned v ∧ OwnL encPair w' w.heap.size v (edges g) ∧ Below w.heap.size w w' := by
  obtain ⟨A, c, B, d, rfl, hA, hB, hl1, hl2⟩ := hg
  go_enter Try.func14, Try.ntmps14
  go_wp2
  go_loopw [3, 11] (fun v i wr => ∃ k : Nat, i = .int .i64 k ∧ k ≤ g.blocks.length ∧ Below w.heap.size w wr ∧ OwnL encPair wr w.heap.size v (edgesFrom 0 (g.blocks.take k))) (fun _ i _ => g.blocks.length - (intOf i).toNat)
  case atStart => exact ⟨0, rfl, by omega, (Below.refl _ _).alloc (Nat.le_refl _) _, OwnL.nil _ _ _⟩
  case round =>
    obtain ⟨k, rfl, hk, hb, hown⟩ := hrel
    by_cases hlt : k < g.blocks.length
    · obtain ⟨b, off, nA, nc, rfl, h1, h2, h3, h4, h5⟩ := hA k hlt
      have hpre := edges_pre g.blocks k
      obtain ⟨x, hx⟩ : ∃ x, x = (g.blocks[k]?.getD default) := ⟨_, rfl⟩
      rw [← hx] at h1 h2 h3 h4 h5 hpre
      have HP := Lib.hid hpre; clear hpre
      have HX := Lib.hid hx; clear hx
      have g1 := cell_old hb h1
      have g2 := cell_old hb h2
      have g3 := cell_old hb h3
      clear h1 h2 h3
      go_wp2
      obtain ⟨wo, hwo⟩ : ∃ wo : World, wo = wr.alloc (.cells #[.int .i64 x.fr, .int .i64 x.to, .slice nA x.next.length nc] 43) := ⟨_, rfl⟩
      have hb2 : Below w.heap.size w wo := hwo ▸ hb.alloc hb.size _
      have hown2 : OwnL encPair wo w.heap.size u3 (edgesFrom 0 (g.blocks.take k)) := hwo ▸ hown.alloc _
      rw [← hwo]
      clear hwo g1 g2 g3 hown hb
      go_loopw [3, 7, 19] (fun v _ j wi => ∃ jj : Nat, j = .int .i64 jj ∧ jj ≤ x.next.length ∧ Below w.heap.size w wi ∧ OwnL encPair wi w.heap.size v (edgesFrom 0 (g.blocks.take k) ++ edgesOf k (x.next.take jj))) (fun _ _ j _ => x.next.length - (intOf j).toNat)
      case atStart => exact ⟨0, rfl, by omega, hb2, by simpa [edgesOf] using hown2⟩
      case round =>
        obtain ⟨j, rfl, hj, hbj, hownj⟩ := hrel
        by_cases hjl : j < x.next.length
        · obtain ⟨b1, o1, rfl, h6⟩ := h4 j hjl
          have g6 := cell_old hbj h6
          clear h6
          obtain ⟨t, ht⟩ : ∃ t, t = x.next[j]?.getD 0 := ⟨_, rfl⟩
          rw [← ht] at g6
          have hpj : (edgesFrom 0 (g.blocks.take k) ++ edgesOf k (x.next.take j)).length ≤ 1048576 := Nat.le_trans (HP.out j hlt hj) hE
          obtain ⟨es, hes⟩ : ∃ es, es = edgesFrom 0 (g.blocks.take k) ++ edgesOf k (x.next.take j) := ⟨_, rfl⟩
          rw [← hes] at hownj hpj
          have HS := Lib.hid hes; clear hes
          have HT := Lib.hid ht; clear ht
          go_wp2_with (at_builtin; refine wpl_app1 encPair rfl _ _ rfl rfl hownj ((k : Int), t) rfl rfl (by show _ * 16 ≤ _; omega) (by unfold maxLen; omega) (Nat.le_refl _) hbj.size hbj ?_; intro v' w1 hown' hb' _ _)
          go_roundw
          case rel => exact ⟨j + 1, by go_num, by omega, hb', by rw [edgesOf_step k x.next j hjl, ← HT.out, ← List.append_assoc, ← HS.out]; exact hown'⟩
          case measure => simp [intOf]; omega
        · go_wp2
          go_roundw
          case rel => exact ⟨k + 1, by go_num, by omega, hbj, by rw [edges_step g.blocks k hlt, ← HX.out]; rw [List.take_of_length_le (l := x.next) (by omega)] at hownj; exact hownj⟩
          case measure => simp [intOf]; omega
    · go_wp2
      go_ret
      exact ⟨_, rfl, by rw [List.take_of_length_le (by omega)] at hown; exact hown, hb⟩
end Go.Proofs.Ytfoimgkgkjhbeaa
