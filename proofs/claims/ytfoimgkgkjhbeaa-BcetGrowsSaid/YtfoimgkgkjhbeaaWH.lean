/- The walk of the law BcetShortest. -/
import Derived.Test.YtfoimgkgkjhbeaaWG
namespace Go.Proofs.Ytfoimgkgkjhbeaa
open Go.RowKit

theorem RowsV.kept {w w1 : World} {v : Value} {ls : List (List Int)} (h : RowsV w v ls) (hb : Below w.heap.size w w1) : RowsV w1 v ls := by
  obtain ⟨A, c, h1, h2, h3⟩ := h
  exact ⟨A, c, h1, h2.old hb, h3⟩
theorem wo_box2 (w : World) (x0 x1 y0 y1 y2 : Value) : ∃ wo, wo = (w.alloc (.cells #[x0, x1] 25)).alloc (.cells #[y0, y1, y2] 28) ∧ Below w.heap.size w wo ∧ wo.cell? ⟨w.heap.size, 0, none⟩ = some x0 ∧ wo.cell? ⟨w.heap.size, 1, none⟩ = some x1 ∧
    wo.cell? ⟨w.heap.size + 1, 0, none⟩ = some y0 ∧ wo.cell? ⟨w.heap.size + 1, 1, none⟩ = some y1 ∧ wo.cell? ⟨w.heap.size + 1, 2, none⟩ = some y2 := by
  refine ⟨_, rfl, ((Below.refl _ _).alloc (Nat.le_refl _) _).alloc (by simp) _, ?_, ?_, ?_, ?_, ?_⟩ <;> simp

set_option maxRecDepth 100000 in
set_option maxHeartbeats 4000000 in
theorem bcetShortest_any (w : World) (gv cv : Value) (g : Gr) (c : Cst) (hg : GraphV w gv g) (hc : CostsV w cv c) (hE : (edges g).length ≤ 1048576) :
    Calls Try.prog 3 #[gv, cv] w fun e w' => e = .returned (.bool true) ∧ Below w.heap.size w w' := by
  have HG := Lib.hid hg
  have HC := Lib.hid hc
  obtain ⟨A, ca, B, cb, rfl, hA, hB, hl1, hl2⟩ := hg
  obtain ⟨C, cc, D, cd, rfl, hC, hD, hl3, hl4⟩ := hc
  clear hA hB
  obtain ⟨nb, hnb⟩ : ∃ nb, nb = nextB g c := ⟨_, rfl⟩
  have HNB := Lib.hid hnb; clear hnb
  go_enter Try.func3, Try.ntmps3
  go_upto_region 1 with fail
  obtain ⟨wo, hwo, hbo, q0, q1, q2, q3, q4⟩ := wo_box2 w (.slice A g.blocks.length ca) (.slice B g.prev.length cb) (.slice C c.block.length cc) (.slice D c.edge.length cd) (.int .i64 c.once)
  rw [← hwo]
  clear hwo
  have HBO := Lib.hid hbo; clear hbo
  go_upto_region 3 with (go_at_call 8; refine (awake_any _).mono ?_; rintro e w1 ⟨rfl, hb1⟩; have HB1 := Lib.hid (HBO.out.trans (hb1.mono HBO.out.size)); have a0 := cell_old hb1 q0; have a1 := cell_old hb1 q1; have a2 := cell_old hb1 q2; have a3 := cell_old hb1 q3; have a4 := cell_old hb1 q4; clear hb1)
  clear q0 q1 q2 q3 q4
  cases nb with
  | false =>
    go_wp2_with (go_at_call 9; refine (next_any _ _ _ g c (HG.out.old HB1.out) (HC.out.old HB1.out)).mono ?_; rintro e w2 ⟨u, rfl, _, hb2⟩; rw [← HNB.out]; have HB2 := Lib.hid (HB1.out.trans (hb2.mono HB1.out.size)); clear hb2)
    go_ret
    exact ⟨rfl, HB2.out⟩
  | true =>
    go_upto_region 6 with (go_at_call 9; refine (next_any _ _ _ g c (HG.out.old HB1.out) (HC.out.old HB1.out)).mono ?_; rintro e w2 ⟨u, rfl, hrow, hb2⟩; rw [← HNB.out]; have HROW := Lib.hid (hrow HNB.out.symm); have HB2 := Lib.hid (HB1.out.trans (hb2.mono HB1.out.size)); have b0 := cell_old hb2 a0; have b1 := cell_old hb2 a1; have b2 := cell_old hb2 a2; have b3 := cell_old hb2 a3; have b4 := cell_old hb2 a4; clear hb2 hrow)
    clear a0 a1 a2 a3 a4
    by_cases hu : usableB g c = true
    case neg =>
      have hu' : usableB g c = false := by simpa using hu
      have HU := Lib.hid hu'; clear hu hu'
      go_wp2_with (first
        | (go_at_call 10; refine (shortest_bad _ _ _ g c (HG.out.old HB2.out) (HC.out.old HB2.out) hE HU.out).mono ?_; rintro e w3 ⟨rfl, hb3⟩; have HB3 := Lib.hid (HB2.out.trans (hb3.mono HB2.out.size)); have c0 := cell_old hb3 b0; have c1 := cell_old hb3 b1; have c2 := cell_old hb3 b2; have c3 := cell_old hb3 b3; have c4 := cell_old hb3 b4; clear hb3)
        | (go_at_call 11; refine (usable_any _ _ _ g c (HG.out.old HB3.out) (HC.out.old HB3.out) (fun _ => hE)).mono ?_; rintro e w4 ⟨rfl, hb4⟩; rw [HU.out]; have HB4 := Lib.hid (HB3.out.trans (hb4.mono HB3.out.size)); clear hb4))
      go_ret
      exact ⟨rfl, HB4.out⟩
    case pos =>
      have hgood := goodIn hu HNB.out.symm
      have HU := Lib.hid hu; clear hu
      obtain ⟨rs, hF⟩ := found hgood
      obtain ⟨rc, hrc⟩ : ∃ x, x = resCost (rs[0]?.getD default) := ⟨_, rfl⟩
      obtain ⟨ro, hro⟩ : ∃ x, x = resOk (rs[0]?.getD default) := ⟨_, rfl⟩
      obtain ⟨rp, hrp⟩ : ∃ x, x = resPath (rs[0]?.getD default) (fullPath g c rs) := ⟨_, rfl⟩
      have HS : Hid (∀ (w : World) (gv cv : Value), GraphV w gv g → CostsV w cv c → Calls Try.prog 10 #[gv, cv] w fun e w' => ∃ u, e = .returned (.tuple #[.int .i64 rc, u, .bool ro]) ∧ OwnL encInt w' w.heap.size u rp ∧ Below w.heap.size w w') := by
        show ∀ (w : World) (gv cv : Value), GraphV w gv g → CostsV w cv c → Calls Try.prog 10 #[gv, cv] w fun e w' => ∃ u, e = .returned (.tuple #[.int .i64 rc, u, .bool ro]) ∧ OwnL encInt w' w.heap.size u rp ∧ Below w.heap.size w w'
        rw [hrc, hro, hrp]; exact fun w gv cv => shortest_is hgood hF w gv cv
      have HR : Hid (∀ (w : World) (v bv ev : Value), RowsV w v (nexts g) → IntsV w bv c.block → IntsV w ev c.edge → Calls Try.prog 12 #[v, bv, ev] w fun e w' => ∃ u, e = .returned (.tuple #[.int .i64 rc, u, .bool ro]) ∧ OwnL encInt w' w.heap.size u rp ∧ Below w.heap.size w w') := by
        show ∀ (w : World) (v bv ev : Value), RowsV w v (nexts g) → IntsV w bv c.block → IntsV w ev c.edge → Calls Try.prog 12 #[v, bv, ev] w fun e w' => ∃ u, e = .returned (.tuple #[.int .i64 rc, u, .bool ro]) ∧ OwnL encInt w' w.heap.size u rp ∧ Below w.heap.size w w'
        rw [hrc, hro, hrp]; exact fun w v bv ev => ref_is hgood hF w v bv ev
      clear hrc hro hrp hF hgood
      go_upto_region 10 with (first
        | (go_at_call 10; refine (HS.out _ _ _ (HG.out.old HB2.out) (HC.out.old HB2.out)).mono ?_; rintro e w3 ⟨u3, rfl, hown3, hb3⟩; have HO3 := Lib.hid hown3; have HB3 := Lib.hid (HB2.out.trans (hb3.mono HB2.out.size)); have HX3 := Lib.hid hb3; have c0 := cell_old hb3 b0; have c1 := cell_old hb3 b1; have c2 := cell_old hb3 b2; have c3 := cell_old hb3 b3; have c4 := cell_old hb3 b4; clear hb3 hown3)
        | (go_at_call 11; refine (usable_any _ _ _ g c (HG.out.old HB3.out) (HC.out.old HB3.out) (fun _ => hE)).mono ?_; rintro e w4 ⟨rfl, hb4⟩; rw [HU.out]; have HB4 := Lib.hid (HB3.out.trans (hb4.mono HB3.out.size)); have HX4 := Lib.hid hb4; have d0 := cell_old hb4 c0; have d1 := cell_old hb4 c1; have d2 := cell_old hb4 c2; have d3 := cell_old hb4 c3; have d4 := cell_old hb4 c4; clear hb4)
        | (go_at_call 12; go_must (refine (HR.out _ _ _ _ (RowsV.kept (RowsV.kept HROW.out HX3.out) HX4.out) ⟨C, cc, rfl, hC.old HB4.out, hl3⟩ ⟨D, cd, rfl, hD.old HB4.out, hl4⟩).mono ?_); rintro e w5 ⟨u5, rfl, hown5, hb5⟩; have HO5 := Lib.hid hown5; have HB5 := Lib.hid (HB4.out.trans (hb5.mono HB4.out.size)); have HX5 := Lib.hid hb5; clear hb5 hown5))
      have HI3 : Hid (IntsV w5 u3 rp) := ((HO3.out.old HX4.out).old HX5.out).intsV
      have HI5 : Hid (IntsV w5 u5 rp) := HO5.out.intsV
      have he : (rp == rp) = true := by simp
      have HE := Lib.hid he; clear he
      clear b0 b1 b2 b3 b4 c0 c1 c2 c3 c4 d0 d1 d2 d3 d4
      go_wp2_with (go_at_call 13; refine (ints_any _ _ _ rp rp HI3.out HI5.out).mono ?_; rintro e w6 ⟨rfl, hb6⟩; rw [HE.out]; have HB6 := Lib.hid (HB5.out.trans (hb6.mono HB5.out.size)); clear hb6)
      go_ret
      exact ⟨rfl, HB6.out⟩
end Go.Proofs.Ytfoimgkgkjhbeaa
