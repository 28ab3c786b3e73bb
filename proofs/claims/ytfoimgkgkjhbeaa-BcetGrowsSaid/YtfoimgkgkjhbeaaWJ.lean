/- The walk of the law BcetGrows. -/
import Derived.Test.YtfoimgkgkjhbeaaWH
import Derived.Test.YtfoimgkgkjhbeaaL7
import Derived.Test.YtfoimgkgkjhbeaaL8
import Derived.Test.YtfoimgkgkjhbeaaBN
import Derived.Deep.RegionLaw
namespace Go.Proofs.Ytfoimgkgkjhbeaa
open Go.RowKit

def plan5a : List (Nat × Bool) := [(0, true), (1, true), (2, true), (3, true), (4, true), (5, true), (6, true), (7, true), (8, true), (9, true), (10, true), (11, true), (12, true), (13, true), (14, false)]
def plan5b : List (Nat × Bool) := [(0, true), (1, true), (2, true), (3, true), (4, true), (5, true), (6, true), (7, true), (8, true), (9, true), (10, true), (11, true), (12, false)]

set_option maxRecDepth 100000 in
set_option maxHeartbeats 8000000 in
theorem bcetGrows_any (w : World) (gv cv : Value) (g : Gr) (c : Cst) (at1 by1 : Nat) (hat : at1 ≤ 255) (hby : by1 ≤ 255) (hg : GraphV w gv g) (hc : CostsV w cv c) :
    Calls Try.prog 5 #[gv, cv, .int .u8 at1, .int .u8 by1] w fun e w' => e = .returned (.bool true) ∧ Below w.heap.size w w' := by
  have HG := Lib.hid hg
  have HC := Lib.hid hc
  obtain ⟨A, ca, B, cb, rfl, hA, hB, hl1, hl2⟩ := hg
  obtain ⟨C, cc, D, cd, rfl, hC, hD, hl3, hl4⟩ := hc
  clear hB
  have HCI := Lib.hid hC; have HDI := Lib.hid hD
  clear hA hC hD
  obtain ⟨nb, hnb⟩ : ∃ nb, nb = nextB g c := ⟨_, rfl⟩
  have HNB := Lib.hid hnb; clear hnb
  go_enter Try.func5, Try.ntmps5
  go_upto_region 1 with fail
  obtain ⟨wo, hwo, hbo, q0, q1, q2, q3, q4⟩ := wo_box2 w (.slice A g.blocks.length ca) (.slice B g.prev.length cb) (.slice C c.block.length cc) (.slice D c.edge.length cd) (.int .i64 c.once)
  rw [← hwo]
  clear hwo
  have HBO := Lib.hid hbo; clear hbo
  go_upto_region 3 with (go_at_call 8; refine (awake_any _).mono ?_; rintro e w1 ⟨rfl, hb1⟩; have HB1 := Lib.hid (HBO.out.trans (hb1.mono HBO.out.size)); have a0 := cell_old hb1 q0; have a1 := cell_old hb1 q1; have a2 := cell_old hb1 q2; have a3 := cell_old hb1 q3; have a4 := cell_old hb1 q4; clear hb1)
  clear q0 q1 q2 q3 q4
  cases nb with
  | false =>
    go_wp2_with (go_at_call 9; refine (next_any _ _ _ g c (HG.out.old HB1.out) (HC.out.old HB1.out)).mono ?_; rintro e w2 ⟨u, rfl, _, hb2⟩; rw [← HNB.out]; have HB2 := Lib.hid (HB1.out.trans (hb2.mono HB1.out.size)); clear hb2)
    go_ret
    exact ⟨rfl, HB2.out⟩
  | true =>
    have HMX : Hid (c.edge.length ≤ 60 ∧ ∀ i : Nat, c.block[i]?.getD 0 ≤ 1073741824) := by
      show c.edge.length ≤ 60 ∧ ∀ i : Nat, c.block[i]?.getD 0 ≤ 1073741824
      have := HNB.out
      unfold nextB at this
      have h2 := this.symm
      simp only [Bool.and_eq_true, decide_eq_true_eq] at h2
      exact ⟨h2.1.1.2, fun i => leMost_get h2.1.2 i⟩
    have hsm : g.blocks.length ≤ 20 := by
      have := HNB.out
      unfold nextB at this
      have h2 := this.symm
      simp only [Bool.and_eq_true, decide_eq_true_eq] at h2
      exact h2.1.1.1.1
    have hE : validB g = true → (edges g).length ≤ 1048576 := fun h => by have := edges_len h; omega
    go_upto_region 4 with (go_at_call 9; refine (next_any _ _ _ g c (HG.out.old HB1.out) (HC.out.old HB1.out)).mono ?_; rintro e w2 ⟨u, rfl, _, hb2⟩; rw [← HNB.out]; have HB2 := Lib.hid (HB1.out.trans (hb2.mono HB1.out.size)); have b0 := cell_old hb2 a0; have b1 := cell_old hb2 a1; have b2 := cell_old hb2 a2; have b3 := cell_old hb2 a3; have b4 := cell_old hb2 a4; clear hb2)
    clear a0 a1 a2 a3 a4
    by_cases hu : usableB g c = true
    case neg =>
      have hu' : usableB g c = false := by simpa using hu
      have HU := Lib.hid hu'; clear hu hu'
      go_wp2_with (go_at_call 11; refine (usable_any _ _ _ g c (HG.out.old HB2.out) (HC.out.old HB2.out) hE).mono ?_; rintro e w4 ⟨rfl, hb4⟩; rw [HU.out]; have HB4 := Lib.hid (HB2.out.trans (hb4.mono HB2.out.size)); clear hb4)
      go_ret
      exact ⟨rfl, HB4.out⟩
    case pos =>
      have hgood := goodIn hu HNB.out.symm
      have HU := Lib.hid hu; clear hu
      have HGD := Lib.hid hgood; clear hgood
      obtain ⟨rs, hF⟩ := found HGD.out
      have HF := Lib.hid hF; clear hF
      go_upto_region 6 with (go_at_call 11; refine (usable_any _ _ _ g c (HG.out.old HB2.out) (HC.out.old HB2.out) hE).mono ?_; rintro e w3 ⟨rfl, hb4⟩; rw [HU.out]; have HB3 := Lib.hid (HB2.out.trans (hb4.mono HB2.out.size)); have c0 := cell_old hb4 b0; have c1 := cell_old hb4 b1; have c2 := cell_old hb4 b2; have c3 := cell_old hb4 b3; have c4 := cell_old hb4 b4; clear hb4)
      clear b0 b1 b2 b3 b4
      obtain ⟨rc, hrc⟩ : ∃ x, x = resCost (rs[0]?.getD default) := ⟨_, rfl⟩
      obtain ⟨ro, hro⟩ : ∃ x, x = resOk (rs[0]?.getD default) := ⟨_, rfl⟩
      have HRC := Lib.hid hrc; have HRO := Lib.hid hro
      have HS : Hid (∀ (w : World) (gv cv : Value), GraphV w gv g → CostsV w cv c → Calls Try.prog 10 #[gv, cv] w fun e w' => ∃ u, e = .returned (.tuple #[.int .i64 rc, u, .bool ro]) ∧ Below w.heap.size w w') := by
        show ∀ (w : World) (gv cv : Value), GraphV w gv g → CostsV w cv c → Calls Try.prog 10 #[gv, cv] w fun e w' => ∃ u, e = .returned (.tuple #[.int .i64 rc, u, .bool ro]) ∧ Below w.heap.size w w'
        rw [hrc, hro]
        exact fun w gv cv h1 h2 => (shortest_is HGD.out HF.out w gv cv h1 h2).mono fun e w' ⟨u, h, _, k⟩ => ⟨u, h, k⟩
      clear hrc hro
      go_upto_region 7 with (go_at_call 10; go_must (refine (HS.out _ _ _ (HG.out.old HB3.out) (HC.out.old HB3.out)).mono ?_); rintro e w4 ⟨u3, rfl, hb4⟩; have HB4 := Lib.hid (HB3.out.trans (hb4.mono HB3.out.size)); have d0 := cell_old hb4 c0; have d1 := cell_old hb4 c1; have d2 := cell_old hb4 c2; have d3 := cell_old hb4 c3; have d4 := cell_old hb4 c4; clear hb4)
      clear c0 c1 c2 c3 c4
      have lt0 := World.block_lt_of_cell? _ _ d0
      have lt1 := World.block_lt_of_cell? _ _ d2
      simp only at lt0 lt1
      have hcl : 0 < c.block.length := by rw [HGD.out.bl]; exact (valid_ok HGD.out.v).1
      have hcs : c.block.length ≤ 20 := by rw [HGD.out.bl]; exact HGD.out.small
      have HCI4 : Hid (IntsAt w4 C c.block) := HCI.out.old HB4.out
      have HDI4 : Hid (IntsAt w4 D c.edge) := HDI.out.old HB4.out
      have hsz4 := HB4.out.size
      go_cut [14] (fun x wx => ∃ (ab : Nat) (A' : Option Addr) (k' : Nat), x = .pointer (some ⟨ab, 0, none⟩) ∧ wx.heap[ab]? = some (.cells #[.slice A' c.block.length k', .slice D c.edge.length cd, .int .i64 0] 28 (0, 0)) ∧ OwnL encInt wx w4.heap.size (.slice A' c.block.length k') c.block ∧ w4.heap.size ≤ ab ∧ Below w4.heap.size w4 wx)
      case first =>
        have z1 : Below w4.heap.size w4 (w4.alloc (.cells #[] 3)).drew := ((Below.refl _ _).alloc (Nat.le_refl _) _).drew
        have z2 : Below w4.heap.size w4 ((w4.alloc (.cells #[] 3)).alloc (.cells #[.slice none 0 0, .slice none 0 0, .int .i64 0] 28)).drew := (((Below.refl _ _).alloc (Nat.le_refl _) _).alloc (by simp) _).drew
        have z3 : Below w4.heap.size w4 ((w4.alloc (.cells #[.slice none 0 0, .slice none 0 0, .int .i64 0] 28)).alloc (.cells #[] 3)).drew := (((Below.refl _ _).alloc (Nat.le_refl _) _).alloc (by simp) _).drew
        have o1 : OwnL encInt (w4.alloc (.cells #[] 3)).drew w4.heap.size (.slice (some ⟨w4.heap.size, 0, none⟩) 0 0) [] := (OwnL.empty encInt w4 w4.heap.size (Nat.le_refl _)).old (Below.refl _ _).drew
        have o2 : OwnL encInt ((w4.alloc (.cells #[] 3)).alloc (.cells #[.slice none 0 0, .slice none 0 0, .int .i64 0] 28)).drew w4.heap.size (.slice (some ⟨w4.heap.size, 0, none⟩) 0 0) [] := ((OwnL.empty encInt w4 w4.heap.size (Nat.le_refl _)).alloc _).old (Below.refl _ _).drew
        have o3 : OwnL encInt ((w4.alloc (.cells #[.slice none 0 0, .slice none 0 0, .int .i64 0] 28)).alloc (.cells #[] 3)).drew w4.heap.size (.slice (some ⟨w4.heap.size + 1, 0, none⟩) 0 0) [] := by
          have := (OwnL.empty encInt (w4.alloc (.cells #[.slice none 0 0, .slice none 0 0, .int .i64 0] 28)) w4.heap.size (by simp)).old (Below.refl _ _).drew
          rw [World.size_alloc] at this
          exact this
        have Z1 := Lib.hid z1; have Z2 := Lib.hid z2; have Z3 := Lib.hid z3; have O1 := Lib.hid o1; have O2 := Lib.hid o2; have O3 := Lib.hid o3
        clear z1 z2 z3 o1 o2 o3
        go_region_law (first
          | (refine step_appN rfl (.tmp 45) (.tmp 47) rfl (v := .slice (some ⟨w4.heap.size, 0, none⟩) 0 0) rfl O1.out c.block hcl rfl (HCI4.out.old Z1.out) (by omega) (by unfold maxLen; omega) (Nat.le_refl _) Z1.out.size Z1.out ?_; intro v' w1 hown1 hb1 hgr hloc; obtain ⟨A', k', rfl⟩ := hown1.shape; have x2 := (hb1.cell (p := ⟨w.heap.size + 1, 0, none⟩) lt1).trans d2; have x3 := (hb1.cell (p := ⟨w.heap.size + 1, 1, none⟩) lt1).trans d3; have hz1 := hb1.size; have lt2 : w.heap.size + 1 < w1.heap.size := (by omega); have HOW := Lib.hid hown1; have HB1 := Lib.hid hb1; clear hown1 hb1 hgr hloc)
          | (refine step_appN rfl (.tmp 45) (.tmp 47) rfl (v := .slice (some ⟨w4.heap.size + 1, 0, none⟩) 0 0) rfl O3.out c.block hcl rfl (HCI4.out.old Z3.out) (by omega) (by unfold maxLen; omega) (Nat.le_refl _) Z3.out.size Z3.out ?_; intro v' w1 hown1 hb1 hgr hloc; obtain ⟨A', k', rfl⟩ := hown1.shape; have x2 := (hb1.cell (p := ⟨w.heap.size + 1, 0, none⟩) lt1).trans d2; have x3 := (hb1.cell (p := ⟨w.heap.size + 1, 1, none⟩) lt1).trans d3; have hz1 := hb1.size; have lt2 : w.heap.size + 1 < w1.heap.size := (by omega); have hX : w1.heap[w4.heap.size]? = some (.cells #[.slice none 0 0, .slice none 0 0, .int .i64 0] 28 (0, 0)) := (hgr.block _ (by show _ < (World.alloc _ _).heap.size; rw [World.size_alloc, World.size_alloc]; omega) (by simp [Value.ownBlock])).trans ((Below.heap_alloc _ _ _ (by simp)).trans (heap_alloc_new w4 _)); obtain ⟨y0, y1, y2, y3, y4, y5, y6⟩ := cells3 hX; have HOW := Lib.hid hown1; have HB1 := Lib.hid hb1; have HX2 := Lib.hid hX; clear hown1 hb1 hgr hloc hX)
          | (refine step_appN rfl (.tmp 45) (.tmp 47) rfl (v := .slice (some ⟨w4.heap.size, 0, none⟩) 0 0) rfl O2.out c.block hcl rfl (HCI4.out.old Z2.out) (by omega) (by unfold maxLen; omega) (Nat.le_refl _) Z2.out.size Z2.out ?_; intro v' w1 hown1 hb1 hgr hloc; obtain ⟨A', k', rfl⟩ := hown1.shape; have x2 := (hb1.cell (p := ⟨w.heap.size + 1, 0, none⟩) lt1).trans d2; have x3 := (hb1.cell (p := ⟨w.heap.size + 1, 1, none⟩) lt1).trans d3; have hz1 := hb1.size; have lt2 : w.heap.size + 1 < w1.heap.size := (by omega); have hX : w1.heap[w4.heap.size + 1]? = some (.cells #[.slice none 0 0, .slice none 0 0, .int .i64 0] 28 (0, 0)) := (hgr.block _ (by show _ < (World.alloc _ _).heap.size; rw [World.size_alloc, World.size_alloc]; omega) (by simp [Value.ownBlock])).trans (heap_alloc_next w4 _ _); obtain ⟨y0, y1, y2, y3, y4, y5, y6⟩ := cells3 hX; have HOW := Lib.hid hown1; have HB1 := Lib.hid hb1; have HX2 := Lib.hid hX; clear hown1 hb1 hgr hloc hX))
        all_goals
          go_wp2
          go_meet
          first
            | exact ⟨_, A', k', rfl, heap_alloc_new w1 _, HOW.out.alloc _, hz1, HB1.out.alloc hz1 _⟩
            | (obtain ⟨t1, t2, t3⟩ := set3_cut (v0 := .slice A' c.block.length k') (v1 := .slice D c.edge.length cd) (v2 := .int .i64 0) HX2.out HOW.out HB1.out (by omega); exact ⟨_, A', k', rfl, t1, t2, by omega, t3⟩)
      case rest =>
        obtain ⟨ab, A1, k1, rfl, hX, hown, hab, hb5⟩ := hcut
        have HB5 := Lib.hid hb5; clear hb5
        obtain ⟨j, hj⟩ : ∃ j, j = at1 % c.block.length := ⟨_, rfl⟩
        have hjl : j < c.block.length := by rw [hj]; exact Nat.mod_lt _ hcl
        have hjm : (at1 : Int) % (c.block.length : Int) = (j : Int) := by rw [hj]; exact (Int.natCast_emod _ _).symm
        clear hj
        have hnl : ¬ c.block = [] := fun e => by rw [e] at hcl; exact absurd hcl (by simp)
        have hjt : (at1 : Int).tmod (c.block.length : Int) = (j : Int) := by rw [Int.tmod_eq_emod_of_nonneg (by omega)]; exact hjm
        have hn0 : ¬ (c.block.length : Int) = 0 := by omega
        have f0 : ((c.block.length : Int) == 0) = false := beq_eq_false_iff_ne.2 hn0
        have hw1 : IntKind.i64.wrap (at1 : Int) = (at1 : Int) := wrap_small (by omega) (by omega)
        have hw2 : IntKind.i64.wrap (by1 : Int) = (by1 : Int) := wrap_small (by omega) (by omega)
        obtain ⟨bv, hbv⟩ : ∃ bv, bv = c.block[j]?.getD 0 := ⟨_, rfl⟩
        have hbv0 : 0 ≤ bv := by rw [hbv]; exact hasNeg_get HGD.out.nn j
        have hbv1 : bv ≤ 1073741824 := by rw [hbv]; exact HMX.out.2 j
        have hy1 : IntKind.i64.wrap (bv + (by1 : Int)) = bv + (by1 : Int) := wrap_small (by omega) (by omega)
        have HBV := Lib.hid hbv; clear hbv
        obtain ⟨b1, cs1, eA1, hb1, hh1⟩ := hown.at hcl
        have hne : b1 ≠ ab := by
          intro e
          rw [e, hX] at hh1
          simp at hh1
        subst eA1
        obtain ⟨b1', e1', _, hc1, hf1, hown2⟩ := hown.set j hjl (bv + (by1 : Int))
        cases e1'
        rw [← HBV.out] at hc1
        have hc0 : wc.cell? ⟨b1, j, none⟩ = some (.int .i64 bv) := hc1
        obtain ⟨y0, y1, y2, _, _, _, ltab⟩ := cells3 hX
        have ltb1 := World.block_lt_of_cell? _ _ hc0
        simp only at ltb1
        have HOWN2 := Lib.hid (hown2.old (Below.refl _ _).drew)
        have HX := Lib.hid hX; have HNE := Lib.hid hne; have HHB1 := Lib.hid hb1; have HJL := Lib.hid hjl
        clear hown2 hown hh1 hX hne hb1
        go_upto_region 8 with fail
        refine wp_region_planL (fun W => Below wc.heap.size wc W) 14 plan5a (by kernel_rfl) (by kernel_rfl) (by kernel_rfl) rfl (Below.refl _ _).drew ?_
        unfold plan5a
        iterate 14 (refine wpPlanL_take rfl (fun K hK => ?_); go_simp; first | (refine hK _ _ ?_; clear hK K) | (refine ⟨_, fun _ _ => rfl, hK _ _ ?_⟩; clear hK K) | (apply Exists.intro; refine ⟨fun W hW => ?_, hK _ _ ?_⟩; (have k0 := cell_old hW y0; have k1 := cell_old hW y1; have k9 := cell_old hW hc0; go_simp; try rfl); clear hK K))
        refine wpPlanL_last rfl (fun K hK => ?_)
        go_simp
        refine hK _ _ ?_; clear hK K
        refine wpPlanL_nil ?_
        obtain ⟨w9, hw9⟩ : ∃ w9, w9 = (wc.setCell ⟨b1, j, none⟩ (.int .i64 (bv + (by1 : Int)))).drew := ⟨_, rfl⟩
        have hb49 : Below w4.heap.size w4 w9 := by rw [hw9]; exact (HB5.out.setCell (by exact HHB1.out) _).drew
        have hX9 : w9.heap[ab]? = some (.cells #[.slice (some ⟨b1, 0, none⟩) c.block.length k1, .slice D c.edge.length cd, .int .i64 0] 28 (0, 0)) := by rw [hw9]; show (wc.setCell _ _).heap[ab]? = _; rw [Below.heap_setCell _ _ _ _ (Ne.symm HNE.out)]; exact HX.out
        rw [← hw9] at HOWN2 ⊢
        clear hw9 y0 y1 y2 ltab ltb1 hc0 hc1 hf1
        obtain ⟨z0, z1, z2, _, _, _, ltz⟩ := cells3 hX9
        have HBW9 : Hid (Below w.heap.size w w9) := HB4.out.trans (hb49.mono HB4.out.size)
        have e0 := cell_old hb49 d0
        have e1 := cell_old hb49 d1
        have e2 := cell_old hb49 d2
        have e3 := cell_old hb49 d3
        have e4 := cell_old hb49 d4
        clear d0 d1 d2 d3 d4 hX9 hb49
        obtain ⟨ra, r1, r2, hcallA⟩ := dear_call HGD.out HMX.out.2 HJL.out (d := (by1 : Int)) (by omega) (by omega) HF.out
        rw [← HRC.out] at r1 r2
        rw [← HRO.out] at hcallA
        obtain ⟨hrc0, hrc1⟩ := resCost_bounds HGD.out HF.out
        rw [← HRC.out] at hrc0 hrc1
        have HCA := Lib.hid hcallA; clear hcallA
        have HC9 : Hid (CostsV w9 (.agg #[.slice (some ⟨b1, 0, none⟩) c.block.length k1, .slice D c.edge.length cd, .int .i64 0]) (dear0 c j (by1 : Int))) := by
          show CostsV w9 (.agg #[.slice (some ⟨b1, 0, none⟩) c.block.length k1, .slice D c.edge.length cd, .int .i64 0]) (dear0 c j (by1 : Int))
          have hi := HOWN2.out.ints.1
          rw [HBV.out] at hi
          refine ⟨_, k1, _, cd, ?_, hi, HDI.out.old HBW9.out, ?_, hl4⟩
          · show _ = Value.agg #[.slice _ (c.block.set _ _).length _, _, _]
            rw [List.length_set]; rfl
          · show (c.block.set _ _).length ≤ _
            rw [List.length_set]; exact hl3
        obtain ⟨q, hq⟩ : ∃ q : Int, q = (by1 : Int) * (g.blocks.length : Int) := ⟨_, rfl⟩
        rw [← hq] at r2
        have hqn : by1 * g.blocks.length ≤ 255 * 20 := Nat.mul_le_mul hby hsm
        have hq1 : q = ((by1 * g.blocks.length : Nat) : Int) := by rw [hq, Int.natCast_mul]
        have hm1 : IntKind.i64.wrap ((by1 : Int) * (g.blocks.length : Int)) = q := by rw [← hq]; exact wrap_small (by omega) (by omega)
        have hm2 : IntKind.i64.wrap (rc + q) = rc + q := wrap_small (by omega) (by omega)
        have g2 : decide (ra < rc) = false := by simpa using r1
        have g3 : decide (rc + q < ra) = false := by simpa using r2
        clear hq hqn hq1 hy1 hjm r1 r2 hrc0 hrc1 hbv0 hbv1
        by_cases hel : c.edge.length = 0
        case pos =>
          have f9 : ((c.edge.length : Int) == 0) = true := by rw [hel]; rfl
          clear hel
          go_wp2_with (go_at_call 10; go_must (refine (HCA.out _ _ _ (HG.out.old HBW9.out) HC9.out).mono ?_); rintro e wA ⟨uA, rfl, hbA⟩; have HBA := Lib.hid (HBW9.out.trans (hbA.mono HBW9.out.size)); have p0 := cell_old hbA e0; have p1 := cell_old hbA e1; have p2 := cell_old hbA e2; have p3 := cell_old hbA e3; have p4 := cell_old hbA e4; clear hbA)
          go_ret
          exact ⟨rfl, HBA.out⟩
        have f9 : ((c.edge.length : Int) == 0) = false := beq_eq_false_iff_ne.2 (by omega)
        have hel0 : 0 < c.edge.length := by omega
        have hes : c.edge.length ≤ 60 := HMX.out.1
        go_upto_region 14 with (go_at_call 10; go_must (refine (HCA.out _ _ _ (HG.out.old HBW9.out) HC9.out).mono ?_); rintro e wA ⟨uA, rfl, hbA⟩; have HBA := Lib.hid (HBW9.out.trans (hbA.mono HBW9.out.size)); have p0 := cell_old hbA e0; have p1 := cell_old hbA e1; have p2 := cell_old hbA e2; have p3 := cell_old hbA e3; have p4 := cell_old hbA e4; clear hbA)
        clear e0 e1 e2 e3 e4 z0 z1 z2
        have lp0 := World.block_lt_of_cell? _ _ p0
        have lp1 := World.block_lt_of_cell? _ _ p2
        simp only at lp0 lp1
        have HDIA : Hid (IntsAt wA D c.edge) := HDI.out.old HBA.out
        have hszA := HBA.out.size
        go_cut [18] (fun x wx => ∃ (ab : Nat) (A' : Option Addr) (k' : Nat), x = .pointer (some ⟨ab, 0, none⟩) ∧ wx.heap[ab]? = some (.cells #[.slice C c.block.length cc, .slice A' c.edge.length k', .int .i64 0] 28 (0, 0)) ∧ OwnL encInt wx wA.heap.size (.slice A' c.edge.length k') c.edge ∧ wA.heap.size ≤ ab ∧ Below wA.heap.size wA wx)
        case first =>
          have z1 : Below wA.heap.size wA (wA.alloc (.cells #[] 3)).drew := ((Below.refl _ _).alloc (Nat.le_refl _) _).drew
          have z2 : Below wA.heap.size wA ((wA.alloc (.cells #[] 3)).alloc (.cells #[.slice none 0 0, .slice none 0 0, .int .i64 0] 28)).drew := (((Below.refl _ _).alloc (Nat.le_refl _) _).alloc (by simp) _).drew
          have z3 : Below wA.heap.size wA ((wA.alloc (.cells #[.slice none 0 0, .slice none 0 0, .int .i64 0] 28)).alloc (.cells #[] 3)).drew := (((Below.refl _ _).alloc (Nat.le_refl _) _).alloc (by simp) _).drew
          have o1 : OwnL encInt (wA.alloc (.cells #[] 3)).drew wA.heap.size (.slice (some ⟨wA.heap.size, 0, none⟩) 0 0) [] := (OwnL.empty encInt wA wA.heap.size (Nat.le_refl _)).old (Below.refl _ _).drew
          have o2 : OwnL encInt ((wA.alloc (.cells #[] 3)).alloc (.cells #[.slice none 0 0, .slice none 0 0, .int .i64 0] 28)).drew wA.heap.size (.slice (some ⟨wA.heap.size, 0, none⟩) 0 0) [] := ((OwnL.empty encInt wA wA.heap.size (Nat.le_refl _)).alloc _).old (Below.refl _ _).drew
          have o3 : OwnL encInt ((wA.alloc (.cells #[.slice none 0 0, .slice none 0 0, .int .i64 0] 28)).alloc (.cells #[] 3)).drew wA.heap.size (.slice (some ⟨wA.heap.size + 1, 0, none⟩) 0 0) [] := by
            have := (OwnL.empty encInt (wA.alloc (.cells #[.slice none 0 0, .slice none 0 0, .int .i64 0] 28)) wA.heap.size (by simp)).old (Below.refl _ _).drew
            rw [World.size_alloc] at this
            exact this
          have Z1 := Lib.hid z1; have Z2 := Lib.hid z2; have Z3 := Lib.hid z3; have O1 := Lib.hid o1; have O2 := Lib.hid o2; have O3 := Lib.hid o3
          clear z1 z2 z3 o1 o2 o3
          go_region_law (first
            | (refine step_appN rfl (.tmp 99) (.tmp 101) rfl (v := .slice (some ⟨wA.heap.size, 0, none⟩) 0 0) rfl O1.out c.edge hel0 rfl (HDIA.out.old Z1.out) (by omega) (by unfold maxLen; omega) (Nat.le_refl _) Z1.out.size Z1.out ?_; intro v' w1 hown1 hb1 hgr hloc; obtain ⟨A', k', rfl⟩ := hown1.shape; have x2 := (hb1.cell (p := ⟨w.heap.size + 1, 0, none⟩) lp1).trans p2; have x3 := (hb1.cell (p := ⟨w.heap.size + 1, 1, none⟩) lp1).trans p3; have hz1 := hb1.size; have lt2 : w.heap.size + 1 < w1.heap.size := (by omega); have HOW := Lib.hid hown1; have HB1 := Lib.hid hb1; clear hown1 hb1 hgr hloc)
            | (refine step_appN rfl (.tmp 99) (.tmp 101) rfl (v := .slice (some ⟨wA.heap.size + 1, 0, none⟩) 0 0) rfl O3.out c.edge hel0 rfl (HDIA.out.old Z3.out) (by omega) (by unfold maxLen; omega) (Nat.le_refl _) Z3.out.size Z3.out ?_; intro v' w1 hown1 hb1 hgr hloc; obtain ⟨A', k', rfl⟩ := hown1.shape; have x2 := (hb1.cell (p := ⟨w.heap.size + 1, 0, none⟩) lp1).trans p2; have x3 := (hb1.cell (p := ⟨w.heap.size + 1, 1, none⟩) lp1).trans p3; have hz1 := hb1.size; have lt2 : w.heap.size + 1 < w1.heap.size := (by omega); have hX : w1.heap[wA.heap.size]? = some (.cells #[.slice none 0 0, .slice none 0 0, .int .i64 0] 28 (0, 0)) := (hgr.block _ (by show _ < (World.alloc _ _).heap.size; rw [World.size_alloc, World.size_alloc]; omega) (by simp [Value.ownBlock])).trans ((Below.heap_alloc _ _ _ (by simp)).trans (heap_alloc_new wA _)); obtain ⟨y0, y1, y2, y3, y4, y5, y6⟩ := cells3 hX; have HOW := Lib.hid hown1; have HB1 := Lib.hid hb1; have HX2 := Lib.hid hX; clear hown1 hb1 hgr hloc hX)
            | (refine step_appN rfl (.tmp 99) (.tmp 101) rfl (v := .slice (some ⟨wA.heap.size, 0, none⟩) 0 0) rfl O2.out c.edge hel0 rfl (HDIA.out.old Z2.out) (by omega) (by unfold maxLen; omega) (Nat.le_refl _) Z2.out.size Z2.out ?_; intro v' w1 hown1 hb1 hgr hloc; obtain ⟨A', k', rfl⟩ := hown1.shape; have x2 := (hb1.cell (p := ⟨w.heap.size + 1, 0, none⟩) lp1).trans p2; have x3 := (hb1.cell (p := ⟨w.heap.size + 1, 1, none⟩) lp1).trans p3; have hz1 := hb1.size; have lt2 : w.heap.size + 1 < w1.heap.size := (by omega); have hX : w1.heap[wA.heap.size + 1]? = some (.cells #[.slice none 0 0, .slice none 0 0, .int .i64 0] 28 (0, 0)) := (hgr.block _ (by show _ < (World.alloc _ _).heap.size; rw [World.size_alloc, World.size_alloc]; omega) (by simp [Value.ownBlock])).trans (heap_alloc_next wA _ _); obtain ⟨y0, y1, y2, y3, y4, y5, y6⟩ := cells3 hX; have HOW := Lib.hid hown1; have HB1 := Lib.hid hb1; have HX2 := Lib.hid hX; clear hown1 hb1 hgr hloc hX))
          all_goals
            go_wp2
            go_meet
            first
              | exact ⟨_, A', k', rfl, heap_alloc_new w1 _, HOW.out.alloc _, hz1, HB1.out.alloc hz1 _⟩
              | (obtain ⟨t1, t2, t3⟩ := set3_cut (v0 := .slice C c.block.length cc) (v1 := .slice A' c.edge.length k') (v2 := .int .i64 0) HX2.out HOW.out HB1.out (by omega); exact ⟨_, A', k', rfl, t1, t2, by omega, t3⟩)
        case rest =>
          obtain ⟨ab2, A2, k2, rfl, hX, hown, hab2, hb5⟩ := hcut
          have HB6 := Lib.hid hb5; clear hb5
          obtain ⟨j2, hj⟩ : ∃ j2, j2 = at1 % c.edge.length := ⟨_, rfl⟩
          have hjl : j2 < c.edge.length := by rw [hj]; exact Nat.mod_lt _ hel0
          have hjm : (at1 : Int) % (c.edge.length : Int) = (j2 : Int) := by rw [hj]; exact (Int.natCast_emod _ _).symm
          clear hj
          have hnl2 : ¬ c.edge = [] := fun e => by rw [e] at hel0; exact absurd hel0 (by simp)
          have hjt2 : (at1 : Int).tmod (c.edge.length : Int) = (j2 : Int) := by rw [Int.tmod_eq_emod_of_nonneg (by omega)]; exact hjm
          have hn1 : ¬ (c.edge.length : Int) = 0 := by omega
          have hy2 : IntKind.i64.wrap (-1 - (by1 : Int)) = -1 - (by1 : Int) := wrap_small (by omega) (by omega)
          obtain ⟨b2, cs2, eA2, hb2, hh2⟩ := hown.at hel0
          have hne : b2 ≠ ab2 := by
            intro e
            rw [e, hX] at hh2
            simp at hh2
          subst eA2
          obtain ⟨b2', e2', _, hc1, hf1, hown2⟩ := hown.set j2 hjl (-1 - (by1 : Int))
          cases e2'
          have hc0 : wc.cell? ⟨b2, j2, none⟩ = some (.int .i64 (c.edge[j2]?.getD 0)) := hc1
          obtain ⟨y0, y1, y2, _, _, _, ltab2⟩ := cells3 hX
          have ltb2 := World.block_lt_of_cell? _ _ hc0
          simp only at ltb2
          have HOWN3 := Lib.hid (hown2.old (Below.refl _ _).drew)
          have HX2 := Lib.hid hX; have HNE2 := Lib.hid hne; have HHB2 := Lib.hid hb2; have HJL2 := Lib.hid hjl
          clear hown2 hown hh2 hX hne hb2
          go_upto_region 15 with fail
          refine wp_region_planL (fun W => Below wc.heap.size wc W) 12 plan5b (by kernel_rfl) (by kernel_rfl) (by kernel_rfl) rfl (Below.refl _ _).drew ?_
          unfold plan5b
          iterate 12 (refine wpPlanL_take rfl (fun K hK => ?_); go_simp; first | (refine hK _ _ ?_; clear hK K) | (refine ⟨_, fun _ _ => rfl, hK _ _ ?_⟩; clear hK K) | (apply Exists.intro; refine ⟨fun W hW => ?_, hK _ _ ?_⟩; (have k0 := cell_old hW y0; have k1 := cell_old hW y1; have k9 := cell_old hW hc0; go_simp; try rfl); clear hK K))
          refine wpPlanL_last rfl (fun K hK => ?_)
          go_simp
          refine hK _ _ ?_; clear hK K
          refine wpPlanL_nil ?_
          obtain ⟨wB, hwB⟩ : ∃ wB, wB = (wc.setCell ⟨b2, j2, none⟩ (.int .i64 (-1 - (by1 : Int)))).drew := ⟨_, rfl⟩
          have hbAB : Below wA.heap.size wA wB := by rw [hwB]; exact (HB6.out.setCell (by exact HHB2.out) _).drew
          have hXB : wB.heap[ab2]? = some (.cells #[.slice C c.block.length cc, .slice (some ⟨b2, 0, none⟩) c.edge.length k2, .int .i64 0] 28 (0, 0)) := by rw [hwB]; show (wc.setCell _ _).heap[ab2]? = _; rw [Below.heap_setCell _ _ _ _ (Ne.symm HNE2.out)]; exact HX2.out
          rw [← hwB] at HOWN3 ⊢
          clear hwB y0 y1 y2 ltab2 ltb2 hc0 hc1 hf1
          obtain ⟨z0, z1, z2, _, _, _, ltz2⟩ := cells3 hXB
          have HBWB : Hid (Below w.heap.size w wB) := HBA.out.trans (hbAB.mono HBA.out.size)
          have e0 := cell_old hbAB p0
          have e1 := cell_old hbAB p1
          have e2 := cell_old hbAB p2
          have e3 := cell_old hbAB p3
          have e4 := cell_old hbAB p4
          clear p0 p1 p2 p3 p4 hXB hbAB
          obtain ⟨rb, ob, hob, hcallB⟩ := barr_call HGD.out HJL2.out (v := -1 - (by1 : Int)) (by omega) HF.out
          rw [← HRC.out, ← HRO.out] at hob
          have HCB := Lib.hid hcallB; clear hcallB
          have HCc : Hid (CostsV wB (.agg #[.slice C c.block.length cc, .slice (some ⟨b2, 0, none⟩) c.edge.length k2, .int .i64 0]) (barr0 c j2 (-1 - (by1 : Int)))) := by
            show CostsV wB (.agg #[.slice C c.block.length cc, .slice (some ⟨b2, 0, none⟩) c.edge.length k2, .int .i64 0]) (barr0 c j2 (-1 - (by1 : Int)))
            refine ⟨_, cc, _, k2, ?_, HCI.out.old HBWB.out, HOWN3.out.ints.1, hl3, ?_⟩
            · show _ = Value.agg #[_, .slice _ (c.edge.set _ _).length _, _]
              rw [List.length_set]; rfl
            · show (c.edge.set _ _).length ≤ _
              rw [List.length_set]; exact hl4
          clear hy2 hjm g2 g3 f9 hm1 hm2
          cases ob with
          | false =>
            go_wp2_with (go_at_call 10; go_must (refine (HCB.out _ _ _ (HG.out.old HBWB.out) HCc.out).mono ?_); rintro e wC ⟨uC, rfl, hbC⟩; have HBC := Lib.hid (HBWB.out.trans (hbC.mono HBWB.out.size)); clear hbC)
            go_ret
            exact ⟨rfl, HBC.out⟩
          | true =>
            obtain ⟨hro1, hle⟩ := hob rfl
            have g5 : decide (rc ≤ rb) = true := by simpa using hle
            subst hro1
            go_wp2_with (go_at_call 10; go_must (refine (HCB.out _ _ _ (HG.out.old HBWB.out) HCc.out).mono ?_); rintro e wC ⟨uC, rfl, hbC⟩; have HBC := Lib.hid (HBWB.out.trans (hbC.mono HBWB.out.size)); clear hbC)
            go_ret
            exact ⟨rfl, HBC.out⟩
end Go.Proofs.Ytfoimgkgkjhbeaa
