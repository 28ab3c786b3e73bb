/- The walk of blockcost.Path. -/
import Derived.Test.YtfoimgkgkjhbeaaWL
namespace Go.Proofs.Ytfoimgkgkjhbeaa
open Go.RowKit

set_option maxRecDepth 100000 in
set_option maxHeartbeats 8000000 in
theorem path15_any (w : World) (gv cv pv : Value) (g : Gr) (c : Cst) (ps : List Int) (hg : GraphV w gv g) (hc : CostsV w cv c) (hp : IntsV w pv ps) (hE : (edges g).length ≤ 1048576)
    (hkey : ∀ k, k < (edges g).length → i64ok ((edges g)[k]?.getD (0, 0)).1 ∧ i64ok ((edges g)[k]?.getD (0, 0)).2) :
    Calls Try.prog 15 #[gv, cv, pv] w fun e w' => e = .returned (.tuple #[.int .i64 (pcost g c ps).1, .bool (pcost g c ps).2]) ∧ Below w.heap.size w w' := by
  have HG := Lib.hid hg
  obtain ⟨A, ca, B, cb, rfl, hA, hB, hl1, hl2⟩ := hg
  obtain ⟨C, cc, D, cd, rfl, hC, hD, hl3, hl4⟩ := hc
  obtain ⟨X, cx, rfl, hX, hlx⟩ := hp
  clear hA hB
  have HCI := Lib.hid hC; have HDI := Lib.hid hD; have HX := Lib.hid hX
  clear hC hD hX
  have HKEY := Lib.hid hkey; clear hkey
  have hmm := @run_makeMap Try.prog
  obtain ⟨es, hes⟩ : ∃ es, es = edges g := ⟨_, rfl⟩
  have HES := Lib.hid hes
  have hle40 : es.length ≤ 1048576 := by rw [hes]; exact hE
  clear hes hE
  go_enter Try.func15, Try.ntmps15
  go_upto_region 1 with fail
  obtain ⟨w4, hwo, hbo, c0, c1, c2, c3, c4⟩ := wo_box2 w (.slice A g.blocks.length ca) (.slice B g.prev.length cb) (.slice C c.block.length cc) (.slice D c.edge.length cd) (.int .i64 c.once)
  rw [← hwo]
  clear hwo c4
  have HB4 := Lib.hid hbo; clear hbo
  have hbm : Below w4.heap.size w4 (w4.alloc (.map #[] 0)) := (Below.refl _ _).alloc (Nat.le_refl _) _
  have HBM := Lib.hid hbm; clear hbm
  have HM0 : Hid (MapIs encPI (w4.alloc (.map #[] 0)) w4.heap.size []) := MapIs.made encPI w4
  obtain ⟨mb, hmb⟩ : ∃ mb, mb = w4.heap.size := ⟨_, rfl⟩
  have HMB := Lib.hid hmb
  have lt0 := World.block_lt_of_cell? _ _ c0
  have lt1 := World.block_lt_of_cell? _ _ c2
  simp only at lt0 lt1
  go_wp2_with (go_at_call 14; go_must (refine (edges_any _ _ g (HG.out.old (HB4.out.trans (HBM.out.mono HB4.out.size))) (by rw [← HES.out]; exact hle40)).mono ?_); go_must (rintro e w5 ⟨v, rfl, hown, hb5⟩; rw [← HES.out] at hown; obtain ⟨EA, ec, rfl, hPA⟩ := hown.pairs; have hm5 := MapIs.old HM0.out hb5; have hb45 := HBM.out.trans (hb5.mono HBM.out.size); have HPA := Lib.hid hPA; have HM5 := Lib.hid hm5; have HB45 := Lib.hid hb45; clear hown hb5 hPA hm5 hb45))
  rw [← hmb] at HM5 ⊢
  clear hmb HM0 HBM hmm
  go_loopw [20] (fun i wr => ∃ (k : Nat) (l : List ((Int × Int) × Int)), i = .int .i64 k ∧ k ≤ es.length ∧ MapIs encPI wr mb l ∧ Uniq l ∧ (c.edge.length = es.length → l = cmapN c.edge (es.take k) 0 []) ∧ PairsAt wr EA es ∧ Below w4.heap.size w4 wr) (fun i _ => es.length - (intOf i).toNat)
  case atStart => exact ⟨0, [], rfl, Nat.zero_le _, HM5.out, List.nodup_nil, fun _ => rfl, HPA.out, HB45.out⟩
  case round =>
    obtain ⟨k, l, rfl, hk, hM, hU, hL, hP, hb⟩ := hrel
    clear HM5 HPA HB45
    have HM := Lib.hid hM; have HUQ := Lib.hid hU; have HP := Lib.hid hP; have HL := Lib.hid hL
    clear hM hU hP hL
    by_cases hlt : k < es.length
    · obtain ⟨db, e1, d1, d2⟩ := HP.out k hlt
      obtain ⟨x, y, hxy⟩ : ∃ x y, es[k]?.getD (0, 0) = (x, y) := ⟨_, _, rfl⟩
      have hkk := HKEY.out k (by rw [← HES.out]; exact hlt)
      rw [← HES.out, hxy] at hkk
      rw [hxy] at d1 d2
      have HXY := Lib.hid hxy; clear hxy
      have HKK := Lib.hid hkk; clear hkk
      have hbw : Below w.heap.size w wr := HB4.out.trans (hb.mono HB4.out.size)
      have a3 := cell_old hb c3
      have lt3 := World.block_lt_of_cell? _ _ a3
      simp only at lt3
      have HBW := Lib.hid hbw; have HB := Lib.hid hb; clear hbw hb
      have hlmb : mb < wr.heap.size := HM.out.lt
      subst e1
      clear c0 c1 c2 c3
      by_cases hke : k < c.edge.length
      · have fke : decide ((k : Int) < (c.edge.length : Int)) = true := by simp; omega
        obtain ⟨b5, o5, eD, k5⟩ := HDI.out k hke
        have a5 := cell_old HBW.out k5
        obtain ⟨ce, hce⟩ : ∃ ce, ce = c.edge[k]?.getD 0 := ⟨_, rfl⟩
        rw [← hce] at a5
        have HCE := Lib.hid hce; clear hce k5
        rw [eD] at a3
        have HED := Lib.hid eD; clear eD
        go_upto_region 6 with fail
        obtain ⟨w7, hw7⟩ : ∃ w7, w7 = wr.alloc (.cells #[.int .i64 x, .int .i64 y] 41) := ⟨_, rfl⟩
        have hb7 : Below wr.heap.size wr w7 := hw7 ▸ (Below.refl _ _).alloc (Nat.le_refl _) _
        have n0 : w7.cell? ⟨wr.heap.size, 0, none⟩ = some (.int .i64 x) := by rw [hw7]; exact cell_box _ _ 41 0 rfl
        have n1 : w7.cell? ⟨wr.heap.size, 1, none⟩ = some (.int .i64 y) := by rw [hw7]; exact cell_box _ _ 41 1 rfl
        have n3 := cell_old hb7 a3
        have n5 := cell_old hb7 a5
        have HM7 := HM.out.old hb7.drew
        obtain ⟨o, hrun, hmi, hun⟩ := run_put encPI HM7 HUQ.out (x := (x, y)) HKK.out ce
        have hrun' : (Instr.mapUpdate 38 (.map (some mb)) (.agg #[.int .i64 x, .int .i64 y]) (.int .i64 ce)).run Try.prog w7.drew = .ok () (setMap w7.drew mb o) := hrun
        have HMI := Lib.hid hmi; have HUN := Lib.hid hun; have HMX := Lib.hid HM7
        clear hrun hmi hun HM7
        rw [← hw7]
        have HW7 := Lib.hid hw7; clear hw7
        refine wp_region_planL (fun W => Below w7.heap.size w7 W) 7 plan4a (by kernel_rfl) (by kernel_rfl) (by kernel_rfl) rfl (Below.refl _ _).drew ?_
        unfold plan4a
        iterate 7 (refine wpPlanL_take rfl (fun K hK => ?_); go_simp; first | (refine hK _ _ ?_; clear hK K) | (refine ⟨_, fun _ _ => rfl, hK _ _ ?_⟩; clear hK K) | (apply Exists.intro; refine ⟨fun W hW => ?_, hK _ _ ?_⟩; (have k0 := cell_old hW n0; have k1 := cell_old hW n1; have k3 := cell_old hW n3; have k5 := cell_old hW n5; go_simp; try rfl); clear hK K))
        refine wpPlanL_last rfl (fun K hK => ?_)
        go_simp
        refine hK _ _ ?_; clear hK K
        refine wpPlanL_nil ?_
        have HR : Hid (MapIs encPI (setMap w7.drew mb o) mb (aput l (x, y) ce) ∧ Uniq (aput l (x, y) ce) ∧ (c.edge.length = es.length → aput l (x, y) ce = cmapN c.edge (es.take (k + 1)) 0 []) ∧ PairsAt (setMap w7.drew mb o) (some ⟨db, 0, none⟩) es ∧ Below w4.heap.size w4 (setMap w7.drew mb o)) := by
          show _ ∧ _ ∧ _ ∧ _ ∧ _
          refine ⟨HMI.out, HUN.out, fun h => ?_, (HP.out.old hb7.drew).setMap HMX.out o, setMap_below ((HB.out.trans (hb7.mono HB.out.size)).drew) (by rw [HMB.out]; exact Nat.le_refl _) o⟩
          rw [take_snoc es (0, 0) k hlt, HXY.out, cmapN_snoc, ← HL.out h, HCE.out]
          simp [Nat.min_eq_left (Nat.le_of_lt hlt)]
        clear hrun' n0 n1 n3 n5 hb7 a3 a5 d1 d2
        go_wp2
        go_roundw
        case rel => exact ⟨k + 1, _, by go_num, by omega, HR.out.1, HR.out.2.1, HR.out.2.2.1, HR.out.2.2.2.1, HR.out.2.2.2.2⟩
        case measure => simp [intOf]; omega
      · have fke : decide ((k : Int) < (c.edge.length : Int)) = false := by simp; omega
        have hba : Below wr.heap.size wr (wr.alloc (.cells #[.int .i64 x, .int .i64 y] 41)) := (Below.refl _ _).alloc (Nat.le_refl _) _
        have HBA := Lib.hid hba; clear hba
        go_wp2
        go_roundw
        case rel => exact ⟨k + 1, l, by go_num, by omega, HM.out.old HBA.out, HUQ.out, fun h => by omega, HP.out.old HBA.out, HB.out.trans (HBA.out.mono HB.out.size)⟩
        case measure => simp [intOf]; omega
    · rw [List.take_of_length_le (by omega)] at HL
      have hbw : Below w.heap.size w wr := HB4.out.trans (hb.mono HB4.out.size)
      have q0 := cell_old hb c0; have q1 := cell_old hb c1; have q2 := cell_old hb c2; have q3 := cell_old hb c3
      have HBW := Lib.hid hbw; clear hbw hb
      clear c0 c1 c2 c3
      have hsz : w.heap.size + 1 < wr.heap.size := by have := World.block_lt_of_cell? _ _ q2; exact this
      obtain ⟨wo, hwo⟩ : ∃ wo, wo = wr := ⟨_, rfl⟩
      rw [← hwo] at HBW HM q0 q1 q2 q3 hsz ⊢
      clear hwo HP
      go_upto_region 8 with fail
      by_cases hv : validB g = true
      case neg =>
        have hv' : validB g = false := by simpa using hv
        have HV := Lib.hid hv'; clear hv hv'
        have HU : Hid (pcost g c ps = (0, false)) := by show pcost g c ps = (0, false); unfold pcost fitB; rw [HV.out]; rfl
        refine wp_region_plan (fun W => Below wo.heap.size wo W) plan11 (by kernel_rfl) (by kernel_rfl) (by kernel_rfl) rfl (Below.refl _ _).drew ?_
        unfold plan11
        refine wpPlan_take rfl (fun K hK => ?_)
        go_simp
        apply Exists.intro
        refine ⟨fun W hW => ?_, hK _ _ ?_⟩
        · have k0 := cell_old hW q0; have k1 := cell_old hW q1; go_simp; try rfl
        clear hK K
        refine wpPlan_sole rfl (fun K hK => ?_)
        go_simp
        refine (valid_any _ _ g ((HG.out.old HBW.out).old (Below.refl _ _).drew)).mono ?_
        rintro e w1 ⟨rfl, hb1⟩; rw [HV.out]
        have hb1' : Below wo.heap.size wo w1 := ((Below.refl _ _).drew).trans hb1
        refine ⟨hb1', hK _ _ ?_⟩; clear hK K
        iterate 15 (refine wpPlan_take rfl (fun K hK => ?_); go_simp; first | (refine hK _ _ ?_; clear hK K) | (refine ⟨_, fun _ _ => rfl, hK _ _ ?_⟩; clear hK K) | (apply Exists.intro; refine ⟨fun W hW => ?_, hK _ _ ?_⟩; (have k0 := cell_old hW q0; have k1 := cell_old hW q1; have k2 := cell_old hW q2; have k3 := cell_old hW q3; go_simp; try rfl); clear hK K))
        refine wpPlan_sole rfl (fun K hK => ?_); go_simp; refine hK _ _ ?_; clear hK K
        iterate 3 (refine wpPlan_take rfl (fun K hK => ?_); go_simp; first | (refine hK _ _ ?_; clear hK K) | (refine ⟨_, fun _ _ => rfl, hK _ _ ?_⟩; clear hK K) | (apply Exists.intro; refine ⟨fun W hW => ?_, hK _ _ ?_⟩; (have k0 := cell_old hW q0; have k1 := cell_old hW q1; have k2 := cell_old hW q2; have k3 := cell_old hW q3; go_simp; try rfl); clear hK K))
        refine wpPlan_nil ?_
        go_wp2
        go_ret2
        exact ⟨by rw [HU.out]; rfl, HBW.out.trans (hb1'.mono HBW.out.size)⟩
      have HV := Lib.hid hv
      by_cases hbl : c.block.length = g.blocks.length
      case neg =>
        have hd : ((c.block.length : Int) != (g.blocks.length : Int)) = true := by simp; omega
        have HU : Hid (pcost g c ps = (0, false)) := by show pcost g c ps = (0, false); unfold pcost fitB; rw [HV.out]; simp [hbl]
        clear hv hbl
        refine wp_region_plan (fun W => Below wo.heap.size wo W) plan11 (by kernel_rfl) (by kernel_rfl) (by kernel_rfl) rfl (Below.refl _ _).drew ?_
        unfold plan11
        refine wpPlan_take rfl (fun K hK => ?_)
        go_simp
        apply Exists.intro
        refine ⟨fun W hW => ?_, hK _ _ ?_⟩
        · have k0 := cell_old hW q0; have k1 := cell_old hW q1; go_simp; try rfl
        clear hK K
        refine wpPlan_sole rfl (fun K hK => ?_)
        go_simp
        refine (valid_any _ _ g ((HG.out.old HBW.out).old (Below.refl _ _).drew)).mono ?_
        rintro e w1 ⟨rfl, hb1⟩; rw [HV.out]
        have hb1' : Below wo.heap.size wo w1 := ((Below.refl _ _).drew).trans hb1
        refine ⟨hb1', hK _ _ ?_⟩; clear hK K
        iterate 15 (refine wpPlan_take rfl (fun K hK => ?_); go_simp; first | (refine hK _ _ ?_; clear hK K) | (refine ⟨_, fun _ _ => rfl, hK _ _ ?_⟩; clear hK K) | (apply Exists.intro; refine ⟨fun W hW => ?_, hK _ _ ?_⟩; (have k0 := cell_old hW q0; have k1 := cell_old hW q1; have k2 := cell_old hW q2; have k3 := cell_old hW q3; go_simp; try rfl); clear hK K))
        refine wpPlan_sole rfl (fun K hK => ?_); go_simp; refine hK _ _ ?_; clear hK K
        iterate 3 (refine wpPlan_take rfl (fun K hK => ?_); go_simp; first | (refine hK _ _ ?_; clear hK K) | (refine ⟨_, fun _ _ => rfl, hK _ _ ?_⟩; clear hK K) | (apply Exists.intro; refine ⟨fun W hW => ?_, hK _ _ ?_⟩; (have k0 := cell_old hW q0; have k1 := cell_old hW q1; have k2 := cell_old hW q2; have k3 := cell_old hW q3; go_simp; try rfl); clear hK K))
        refine wpPlan_nil ?_
        go_wp2
        go_ret2
        exact ⟨by rw [HU.out]; rfl, HBW.out.trans (hb1'.mono HBW.out.size)⟩
      case pos =>
        have hd : ((c.block.length : Int) != (g.blocks.length : Int)) = false := by simp; omega
        have HBL := Lib.hid hbl
        clear hv hbl
        refine wp_region_plan (fun W => Below wo.heap.size wo W) plan11 (by kernel_rfl) (by kernel_rfl) (by kernel_rfl) rfl (Below.refl _ _).drew ?_
        unfold plan11
        refine wpPlan_take rfl (fun K hK => ?_)
        go_simp
        apply Exists.intro
        refine ⟨fun W hW => ?_, hK _ _ ?_⟩
        · have k0 := cell_old hW q0; have k1 := cell_old hW q1; go_simp; try rfl
        clear hK K
        refine wpPlan_sole rfl (fun K hK => ?_)
        go_simp
        refine (valid_any _ _ g ((HG.out.old HBW.out).old (Below.refl _ _).drew)).mono ?_
        rintro e w1 ⟨rfl, hb1⟩; rw [HV.out]
        have hb1' : Below wo.heap.size wo w1 := ((Below.refl _ _).drew).trans hb1
        refine ⟨hb1', hK _ _ ?_⟩; clear hK K
        iterate 15 (refine wpPlan_take rfl (fun K hK => ?_); go_simp; first | (refine hK _ _ ?_; clear hK K) | (refine ⟨_, fun _ _ => rfl, hK _ _ ?_⟩; clear hK K) | (apply Exists.intro; refine ⟨fun W hW => ?_, hK _ _ ?_⟩; (have k0 := cell_old hW q0; have k1 := cell_old hW q1; have k2 := cell_old hW q2; have k3 := cell_old hW q3; go_simp; try rfl); clear hK K))
        refine wpPlan_sole rfl (fun K hK => ?_)
        go_simp
        refine (edges_any _ _ g ((HG.out.old HBW.out).old hb1') (by rw [← HES.out]; exact hle40)).mono ?_
        rintro e w2 ⟨v, rfl, hown, hb2⟩
        obtain ⟨EA2, ec2, rfl⟩ := hown.shape
        have hb2' : Below wo.heap.size wo w2 := hb1'.trans (hb2.mono hb1'.size)
        refine ⟨hb2', hK _ _ ?_⟩; clear hK K
        iterate 3 (refine wpPlan_take rfl (fun K hK => ?_); go_simp; first | (refine hK _ _ ?_; clear hK K) | (refine ⟨_, fun _ _ => rfl, hK _ _ ?_⟩; clear hK K) | (apply Exists.intro; refine ⟨fun W hW => ?_, hK _ _ ?_⟩; (have k0 := cell_old hW q0; have k1 := cell_old hW q1; have k2 := cell_old hW q2; have k3 := cell_old hW q3; go_simp; try rfl); clear hK K))
        refine wpPlan_nil ?_
        have hbw : Below w.heap.size w w2 := HBW.out.trans (hb2'.mono HBW.out.size)
        have k2 := cell_old hb2' q2
        have HM2 := Lib.hid (HM.out.old hb2')
        have HBW2 := Lib.hid hbw
        clear hb1 hb1' hb2 hb2' q0 q1 q2 q3 hown hd hsz hbw
        by_cases hel : c.edge.length = (edges g).length
        case neg =>
          have hd : ((c.edge.length : Int) != ((edges g).length : Int)) = true := by simp; omega
          have HU : Hid (pcost g c ps = (0, false)) := by show pcost g c ps = (0, false); unfold pcost fitB; rw [HV.out]; simp [hel]
          clear hel
          go_wp2
          go_ret2
          exact ⟨by rw [HU.out]; rfl, HBW2.out⟩
        have hd : ((c.edge.length : Int) != ((edges g).length : Int)) = false := by simp; omega
        have hlE : l = cmapN c.edge es 0 [] := HL.out (by rw [hel, HES.out])
        have HU : Hid (pathF g.blocks.length c.block l none ps 0 = pcost g c ps) := by
          show pathF g.blocks.length c.block l none ps 0 = pcost g c ps
          unfold pcost; rw [if_pos (fit_iff.2 ⟨HV.out, HBL.out, hel⟩), hlE, HES.out]
        clear hel hlE
        obtain ⟨R, hR⟩ : ∃ R, R = pcost g c ps := ⟨_, rfl⟩
        have HRR := Lib.hid hR; clear hR
        rw [← HRR.out] at HU
        go_wp2
        go_loopw [11, 61] (fun sv i wy => ∃ (k : Nat) (s : Int), i = .int .i64 k ∧ sv = .int .i64 s ∧ k ≤ ps.length ∧ Below w2.heap.size w2 wy ∧ Hid (pathF g.blocks.length c.block l (prevOf ps k) (ps.drop k) s = R) ∧ Hid (∀ k1, k = k1 + 1 → ∃ an : Nat, ps[k1]?.getD 0 = (an : Int) ∧ an < g.blocks.length)) (fun _ i _ => ps.length - (intOf i).toNat)
        case atStart => exact ⟨0, 0, rfl, rfl, Nat.zero_le _, Below.refl _ _, HU.out, fun k1 h => by omega⟩
        case round =>
          obtain ⟨k, s, rfl, rfl, hk, hb, HPF, HPR⟩ := hrel
          have hbw : Below w.heap.size w wr := HBW2.out.trans (hb.mono HBW2.out.size)
          have m2 := cell_old hb k2
          by_cases hlt : k < ps.length
          · obtain ⟨b1, o1, eX, x1⟩ := HX.out k hlt
            have g1 := cell_old hbw x1
            obtain ⟨bv, hbv⟩ : ∃ bv, bv = ps[k]?.getD 0 := ⟨_, rfl⟩
            rw [← hbv] at g1
            rw [drop_at ps 0 k hlt, ← hbv, pathF_cons] at HPF
            have HBV := Lib.hid hbv; clear hbv x1
            subst eX
            by_cases hr : bv < 0 ∨ (g.blocks.length : Int) ≤ bv
            · rw [if_pos hr] at HPF
              rcases hr with hr | hr
              · have f1 : decide (bv < 0) = true := by simpa using hr
                clear hr
                go_wp2
                go_ret2
                exact ⟨by rw [← HRR.out, ← HPF.out]; rfl, hbw⟩
              · have f1 : decide (bv < 0) = false := by simp; omega
                have f2 : decide ((c.block.length : Int) ≤ bv) = true := by rw [HBL.out]; simpa using hr
                clear hr
                go_wp2
                go_ret2
                exact ⟨by rw [← HRR.out, ← HPF.out]; rfl, hbw⟩
            · rw [if_neg hr] at HPF
              obtain ⟨bn, rfl⟩ := Int.eq_ofNat_of_zero_le (show 0 ≤ bv by omega)
              have hbn : bn < g.blocks.length := by omega
              have hbc : bn < c.block.length := by rw [HBL.out]; exact hbn
              clear hr
              have f1 : decide ((bn : Int) < 0) = false := by simp
              have f2 : decide ((c.block.length : Int) ≤ (bn : Int)) = false := by simp; omega
              rw [Int.toNat_natCast] at HPF
              obtain ⟨b5, o5, eC, x5⟩ := HCI.out bn hbc
              have g5 := cell_old hbw x5
              obtain ⟨bk, hbk⟩ : ∃ bk, bk = c.block[bn]?.getD 0 := ⟨_, rfl⟩
              rw [← hbk] at g5 HPF
              rw [eC] at m2
              clear hbk x5
              have HEC := Lib.hid eC; clear eC
              obtain ⟨s1, hs1⟩ : ∃ s1, IntKind.i64.wrap (s + bk) = s1 := ⟨_, rfl⟩
              rw [hs1] at HPF
              have HNX : Hid (∀ k1, k + 1 = k1 + 1 → ∃ an : Nat, ps[k1]?.getD 0 = (an : Int) ∧ an < g.blocks.length) := fun k1 h => by
                obtain rfl : k = k1 := by omega
                exact ⟨bn, HBV.out.symm, hbn⟩
              have HPV : Hid (prevOf ps (k + 1) = some (bn : Int)) := by show some (ps[k]?.getD 0) = _; rw [← HBV.out]
              cases k with
              | zero =>
                have HPF2 : Hid (pathF g.blocks.length c.block l (some (bn : Int)) (ps.drop 1) s1 = R) := HPF.out
                rw [← HPV.out] at HPF2
                clear HPF
                have f3 : (((0 : Nat) : Int) == 0) = true := rfl
                try rw [Nat.add_zero] at g1
                go_wp2
                go_roundw
                case rel => exact ⟨1, s1, by go_num, rfl, by omega, hb, HPF2.out, HNX.out⟩
                case measure => simp [intOf]; omega
              | succ k1 =>
                obtain ⟨an, ha1, han⟩ := HPR.out k1 rfl
                obtain ⟨b6, o6, e6, x6⟩ := HX.out k1 (by omega)
                cases e6
                have g6 := cell_old hbw x6
                rw [ha1] at g6
                clear x6
                have hlk := run_look encPI (HM2.out.old hb) HUQ.out (x := ((an : Int), (bn : Int))) ⟨i64ok_mk (by omega) (by omega), i64ok_mk (by omega) (by omega)⟩ true
                have HPF2 : Hid ((match alook l ((an : Int), (bn : Int)) with
                    | none => ((0 : Int), false)
                    | some e => pathF g.blocks.length c.block l (some (bn : Int)) (ps.drop (k1 + 1 + 1)) (IntKind.i64.wrap (s1 + e))) = R) := by
                  have := HPF.out
                  have hpv : prevOf ps (k1 + 1) = some (an : Int) := by show some (ps[k1]?.getD 0) = _; rw [ha1]
                  rw [hpv] at this
                  exact this
                clear HPF
                have HA1 := Lib.hid ha1; clear ha1
                cases hal : alook l ((an : Int), (bn : Int)) with
                | none =>
                  rw [hal] at hlk HPF2
                  have hlk' : (Instr.lookup 38 (.map (some mb)) (.agg #[.int .i64 (an : Int), .int .i64 (bn : Int)]) true).run Try.prog wr = .ok (.tuple #[.int .i64 0, .bool false]) wr := hlk
                  have HAL := Lib.hid hal
                  clear hlk hal
                  go_wp2
                  go_ret2
                  exact ⟨by rw [← HRR.out, ← HPF2.out]; rfl, hbw⟩
                | some ev =>
                  rw [hal] at hlk HPF2
                  have hlk' : (Instr.lookup 38 (.map (some mb)) (.agg #[.int .i64 (an : Int), .int .i64 (bn : Int)]) true).run Try.prog wr = .ok (.tuple #[.int .i64 ev, .bool true]) wr := hlk
                  have HAL := Lib.hid hal
                  clear hlk hal
                  obtain ⟨s2, hs2⟩ : ∃ s2, IntKind.i64.wrap (s1 + ev) = s2 := ⟨_, rfl⟩
                  have HPF3 : Hid (pathF g.blocks.length c.block l (some (bn : Int)) (ps.drop (k1 + 1 + 1)) (IntKind.i64.wrap (s1 + ev)) = R) := HPF2.out
                  rw [hs2, ← HPV.out] at HPF3
                  clear HPF2
                  go_wp2
                  go_roundw
                  case rel => exact ⟨k1 + 1 + 1, s2, by go_num, rfl, by omega, hb, HPF3.out, HNX.out⟩
                  case measure => simp [intOf]; omega
          · have hdr : ps.drop k = [] := List.drop_of_length_le (by omega)
            rw [hdr] at HPF
            have HE : Hid ((s, true) = R) := by
              have := HPF.out
              cases hpo : prevOf ps k <;> rw [hpo] at this <;> exact this
            clear hdr HPF
            go_wp2
            go_ret2
            exact ⟨by rw [← HRR.out, ← HE.out]; rfl, hbw⟩
end Go.Proofs.Ytfoimgkgkjhbeaa
