/- The walk of the law BcetPath. -/
import Derived.Test.YtfoimgkgkjhbeaaWK
import Derived.Test.YtfoimgkgkjhbeaaL7
namespace Go.Proofs.Ytfoimgkgkjhbeaa
open Go.RowKit Go.WideMaps

def encPB : MEnc Try.prog (Int × Int) Bool where
  t := 46
  k := 41
  e := 4
  ht := Try.underlying46
  law := Try.law41
  K := fun p => .agg #[.int .i64 p.1, .int .i64 p.2]
  V := fun n => .bool n
  ok := fun p => i64ok p.1 ∧ i64ok p.2
  hkey := fun p h => ⟨_, keyOf_pair Try.arr41 Try.underlying3 Try.tsz h.1 h.2⟩
  inj := by intro x y h; simp at h; exact Prod.ext h.1 h.2
  z := .bool false
  hz := fun w => by kernel_rfl
/-- The forbidden edges. -/
def fmapN (edge : List Int) (es : List (Int × Int)) (k : Nat) (l : List ((Int × Int) × Bool)) : List ((Int × Int) × Bool) := gmapN (fun i => decide (edge[i]?.getD 0 < 0)) es k l
theorem fmapN_snoc (edge : List Int) (es : List (Int × Int)) (e : Int × Int) (k : Nat) (l : List ((Int × Int) × Bool)) : fmapN edge (es ++ [e]) k l = aput (fmapN edge es k l) e (decide (edge[k + es.length]?.getD 0 < 0)) := gmapN_snoc _ es e k l
theorem fmap_ec {g : Gr} {c : Cst} (h : validB g = true) {b s : Nat} (hs : (s : Int) ∈ nextOf g b) : alook (fmapN c.edge (edges g) 0 []) ((b : Int), (s : Int)) = some (decide ((netOf g c).ec b s < 0)) := by
  obtain ⟨i, hi, _, _⟩ := idx_of h hs
  have := alook_gmap (f := fun i => decide (c.edge[i]?.getD 0 < 0)) (k := 0) (l := []) (nodup_edgesFrom (k := 0) (fun x hx => ((valid_ok h).2 x hx).nod)) hi
  rw [Nat.zero_add] at this
  rw [ec_at h hi]
  exact this

def plan6a : List (Nat × Bool) := [(0, true), (1, true), (2, true), (3, true), (4, true), (5, true), (6, true), (7, true), (8, false)]
def plan6b : List (Nat × Bool) := [(0, true), (1, true), (2, true), (3, true), (4, true), (5, true), (6, true), (7, true), (8, true), (9, true), (10, true), (11, true)]

set_option maxRecDepth 100000 in
set_option maxHeartbeats 8000000 in
theorem bcetPath_any (w : World) (gv cv : Value) (g : Gr) (c : Cst) (hg : GraphV w gv g) (hc : CostsV w cv c) :
    Calls Try.prog 6 #[gv, cv] w fun e w' => e = .returned (.bool true) ∧ Below w.heap.size w w' := by
  have HG := Lib.hid hg
  have HC := Lib.hid hc
  obtain ⟨A, ca, B, cb, rfl, hA, hB, hl1, hl2⟩ := hg
  obtain ⟨C, cc, D, cd, rfl, hC, hD, hl3, hl4⟩ := hc
  clear hB
  have HA := Lib.hid hA; have HDI := Lib.hid hD
  clear hA hC hD
  obtain ⟨nb, hnb⟩ : ∃ nb, nb = nextB g c := ⟨_, rfl⟩
  have HNB := Lib.hid hnb; clear hnb
  go_enter Try.func6, Try.ntmps6
  go_upto_region 1 with fail
  obtain ⟨wo, hwo, hbo, q0, q1, q2, q3, q4⟩ := wo_box2 w (.slice A g.blocks.length ca) (.slice B g.prev.length cb) (.slice C c.block.length cc) (.slice D c.edge.length cd) (.int .i64 c.once)
  rw [← hwo]
  clear hwo
  have HBO := Lib.hid hbo; clear hbo
  go_upto_region 3 with (go_at_call 8; refine (awake_any _).mono ?_; rintro e w1 ⟨rfl, hb1⟩; have HB1 := Lib.hid (HBO.out.trans (hb1.mono HBO.out.size)); have a0 := cell_old hb1 q0; have a1 := cell_old hb1 q1; have a2 := cell_old hb1 q2; have a3 := cell_old hb1 q3; have a4 := cell_old hb1 q4; clear hb1)
  clear q0 q1 q2 q3 q4
  cases nb with
  | false =>
    go_wp2_with (go_at_call 9; refine (next_any _ _ _ g c (HG.out.old HB1.out) (HC.out.old HB1.out)).mono ?_; rintro e w2 ⟨u, rfl, _, hb2⟩; rw [← HNB.out]; have HB2 := Lib.hid (HB1.out.trans (hb2.mono HB1.out.size)); clear hb2)
    go_ret
    exact ⟨rfl, HB2.out⟩
  | true =>
    have hsm : g.blocks.length ≤ 20 := by
      have := HNB.out
      unfold nextB at this
      have h2 := this.symm
      simp only [Bool.and_eq_true, decide_eq_true_eq] at h2
      exact h2.1.1.1.1
    have hE : validB g = true → (edges g).length ≤ 1048576 := fun h => by have := edges_len h; omega
    go_upto_region 4 with (go_at_call 9; refine (next_any _ _ _ g c (HG.out.old HB1.out) (HC.out.old HB1.out)).mono ?_; rintro e w2 ⟨u, rfl, _, hb2⟩; rw [← HNB.out]; have HB2 := Lib.hid (HB1.out.trans (hb2.mono HB1.out.size)); have b0 := cell_old hb2 a0; have b1 := cell_old hb2 a1; have b2 := cell_old hb2 a2; have b3 := cell_old hb2 a3; have b4 := cell_old hb2 a4; clear hb2)
    clear a0 a1 a2 a3 a4
    by_cases hu : usableB g c = true
    case neg =>
      have hu' : usableB g c = false := by simpa using hu
      have HU := Lib.hid hu'; clear hu hu'
      go_wp2_with (go_at_call 11; refine (usable_any _ _ _ g c (HG.out.old HB2.out) (HC.out.old HB2.out) hE).mono ?_; rintro e w4 ⟨rfl, hb4⟩; rw [HU.out]; have HB4 := Lib.hid (HB2.out.trans (hb4.mono HB2.out.size)); clear hb4)
      go_ret
      exact ⟨rfl, HB4.out⟩
    case pos =>
      have hgood := goodIn hu HNB.out.symm
      have HU := Lib.hid hu; clear hu
      have HGD := Lib.hid hgood; clear hgood
      obtain ⟨rs, hF⟩ := found HGD.out
      have HF := Lib.hid hF; clear hF
      go_upto_region 6 with (go_at_call 11; refine (usable_any _ _ _ g c (HG.out.old HB2.out) (HC.out.old HB2.out) hE).mono ?_; rintro e w3 ⟨rfl, hb4⟩; rw [HU.out]; have HB3 := Lib.hid (HB2.out.trans (hb4.mono HB2.out.size)); have c0 := cell_old hb4 b0; have c1 := cell_old hb4 b1; have c2 := cell_old hb4 b2; have c3 := cell_old hb4 b3; have c4 := cell_old hb4 b4; clear hb4)
      clear b0 b1 b2 b3 b4
      by_cases hro : (rs[0]?.getD default).ok = true
      case neg =>
        have hro' : (rs[0]?.getD default).ok = false := by simpa using hro
        obtain ⟨z1, z2, z3⟩ := res_no hro' (fullPath g c rs)
        have HS : Hid (∀ (w : World) (gv cv : Value), GraphV w gv g → CostsV w cv c → Calls Try.prog 10 #[gv, cv] w fun e w' => ∃ u, e = .returned (.tuple #[.int .i64 0, u, .bool false]) ∧ OwnL encInt w' w.heap.size u [] ∧ Below w.heap.size w w') := by
          show ∀ (w : World) (gv cv : Value), GraphV w gv g → CostsV w cv c → Calls Try.prog 10 #[gv, cv] w fun e w' => ∃ u, e = .returned (.tuple #[.int .i64 0, u, .bool false]) ∧ OwnL encInt w' w.heap.size u [] ∧ Below w.heap.size w w'
          intro w gv cv h1 h2
          have := shortest_is HGD.out HF.out w gv cv h1 h2
          rw [z1, z2, z3] at this
          exact this
        clear z1 z2 z3 hro hro'
        go_wp2_with (go_at_call 10; go_must (refine (HS.out _ _ _ (HG.out.old HB3.out) (HC.out.old HB3.out)).mono ?_); rintro e w4 ⟨u3, rfl, hown, hb4⟩; obtain ⟨A6, c6, rfl⟩ := hown.shape; have HB4 := Lib.hid (HB3.out.trans (hb4.mono HB3.out.size)); clear hown hb4)
        go_ret
        exact ⟨rfl, HB4.out⟩
      case pos =>
        obtain ⟨z1, z2, z3⟩ := res_yes hro (fullPath g c rs)
        obtain ⟨L, hfp, hwalk, hval, hlen⟩ := full_walk HGD.out HF.out hro
        obtain ⟨rc, hrc⟩ : ∃ rc, rc = (rs[0]?.getD default).cost := ⟨_, rfl⟩
        rw [← hrc] at hval
        have HS : Hid (∀ (w : World) (gv cv : Value), GraphV w gv g → CostsV w cv c → Calls Try.prog 10 #[gv, cv] w fun e w' => ∃ u, e = .returned (.tuple #[.int .i64 rc, u, .bool true]) ∧ OwnL encInt w' w.heap.size u ((0 :: L).map fun x : Nat => (x : Int)) ∧ Below w.heap.size w w') := by
          show ∀ (w : World) (gv cv : Value), GraphV w gv g → CostsV w cv c → Calls Try.prog 10 #[gv, cv] w fun e w' => ∃ u, e = .returned (.tuple #[.int .i64 rc, u, .bool true]) ∧ OwnL encInt w' w.heap.size u ((0 :: L).map fun x : Nat => (x : Int)) ∧ Below w.heap.size w w'
          intro w gv cv h1 h2
          have := shortest_is HGD.out HF.out w gv cv h1 h2
          rw [z1, z2, z3, hfp, ← hrc] at this
          exact this
        clear z1 z2 z3 hro hrc hfp
        have HWK := Lib.hid hwalk; have HVL := Lib.hid hval; clear hwalk hval
        have HP15 : Hid (pcost g c ((0 :: L).map fun x : Nat => (x : Int)) = (rc, true)) := by
          show pcost g c ((0 :: L).map fun x : Nat => (x : Int)) = (rc, true)
          rw [pcost_walk HGD.out HWK.out (by simp at hlen; omega), HVL.out]
        obtain ⟨P, hP⟩ : ∃ P, P = (0 :: L).map fun x : Nat => (x : Int) := ⟨_, rfl⟩
        obtain ⟨ml, hml⟩ : ∃ ml, ml = L.length + 1 := ⟨_, rfl⟩
        have hPl : P.length = ml := by rw [hP, hml]; simp
        have HPat : Hid (∀ i, i < ml → P[i]?.getD 0 = (((0 :: L)[i]?.getD 0 : Nat) : Int)) := by
          show ∀ i, i < ml → P[i]?.getD 0 = (((0 :: L)[i]?.getD 0 : Nat) : Int)
          intro i hi
          rw [hP, List.getElem?_map]
          have : i < (0 :: L).length := by simpa [hml] using hi
          rw [List.getElem?_eq_getElem this]; rfl
        rw [← hP] at HS HP15
        have hmn : ml ≤ g.blocks.length := by rw [hml]; simpa using hlen
        have hml0 : 0 < ml := by omega
        have HML : Hid ((0 :: L).length = ml) := by show (0 :: L).length = ml; rw [hml]; rfl
        have HPL := Lib.hid hPl
        clear hml hP hlen hPl
        go_upto_region 9 with (go_at_call 10; go_must (refine (HS.out _ _ _ (HG.out.old HB3.out) (HC.out.old HB3.out)).mono ?_); go_must (rintro e w4 ⟨u3, rfl, hown, hb4⟩; obtain ⟨A6, c6, rfl⟩ := hown.shape; rw [HPL.out]; have HB4 := Lib.hid (HB3.out.trans (hb4.mono HB3.out.size)); have HPI := Lib.hid hown.ints; have d0 := cell_old hb4 c0; have d1 := cell_old hb4 c1; have d2 := cell_old hb4 c2; have d3 := cell_old hb4 c3; have d4 := cell_old hb4 c4; clear hown hb4))
        clear c0 c1 c2 c3 c4
        have hgv := HGD.out.v
        have f1 : ((ml : Int) == 0) = false := by simp; omega
        have f2 : decide ((g.blocks.length : Int) < (ml : Int)) = false := by simp; omega
        obtain ⟨b6, o6, eA6, p0⟩ := HPI.out.1 0 (by rw [HPL.out]; exact hml0)
        rw [HPat.out 0 hml0, Nat.add_zero] at p0
        have hp00 : (((0 :: L)[0]?.getD 0 : Nat) : Int) = 0 := rfl
        rw [hp00] at p0
        clear hp00
        subst eA6
        have hmm := @run_makeMap Try.prog
        obtain ⟨es, hes⟩ : ∃ es, es = edges g := ⟨_, rfl⟩
        have HES := Lib.hid hes
        have hel : c.edge.length = es.length := by rw [hes]; exact HGD.out.el
        have hle40 : es.length ≤ 1048576 := by rw [hes]; exact edges_small HGD.out
        have HEL := Lib.hid hel
        clear hes hel
        have hbm : Below w4.heap.size w4 (w4.alloc (.map #[] 0)) := (Below.refl _ _).alloc (Nat.le_refl _) _
        have HBM := Lib.hid hbm; clear hbm
        have HM0 : Hid (MapIs encPB (w4.alloc (.map #[] 0)) w4.heap.size []) := MapIs.made encPB w4
        obtain ⟨mb, hmb⟩ : ∃ mb, mb = w4.heap.size := ⟨_, rfl⟩
        have HMB := Lib.hid hmb
        have lt0 := World.block_lt_of_cell? _ _ d0
        have lt1 := World.block_lt_of_cell? _ _ d2
        simp only at lt0 lt1
        go_wp2_with (go_at_call 14; go_must (refine (edges_any _ _ g (HG.out.old (HB4.out.trans (HBM.out.mono HB4.out.size))) (by rw [← HES.out]; exact hle40)).mono ?_); go_must (rintro e w5 ⟨v, rfl, hown, hb5⟩; rw [← HES.out] at hown; obtain ⟨EA, ec, rfl, hPA⟩ := hown.pairs; have hm5 := MapIs.old HM0.out hb5; have hb45 := HBM.out.trans (hb5.mono HBM.out.size); have HPA := Lib.hid hPA; have HM5 := Lib.hid hm5; have HB45 := Lib.hid hb45; clear hown hb5 hPA hm5 hb45))
        rw [← hmb] at HM5 ⊢
        clear hmb HM0 HBM hmm p0
        go_loopw [70] (fun i wr => ∃ k : Nat, i = .int .i64 k ∧ k ≤ es.length ∧ MapIs encPB wr mb (fmapN c.edge (es.take k) 0 []) ∧ Uniq (fmapN c.edge (es.take k) 0 []) ∧ PairsAt wr EA es ∧ Below w4.heap.size w4 wr) (fun i _ => es.length - (intOf i).toNat)
        case atStart => exact ⟨0, rfl, Nat.zero_le _, HM5.out, List.nodup_nil, HPA.out, HB45.out⟩
        case round =>
          obtain ⟨k, rfl, hk, hM, hU, hP, hb⟩ := hrel
          clear HM5 HPA HB45
          have HM := Lib.hid hM; have HUQ := Lib.hid hU; have HP := Lib.hid hP
          clear hM hU hP
          by_cases hlt : k < es.length
          · obtain ⟨db, e1, x1, x2⟩ := HP.out k hlt
            obtain ⟨x, y, hxy, hx, hy, _⟩ := edge_at hgv (k := k) (by rw [← HES.out]; exact hlt)
            rw [← HES.out] at hxy
            rw [hxy] at x1 x2
            have HXY := Lib.hid hxy; clear hxy
            have hbw : Below w.heap.size w wr := HB4.out.trans (hb.mono HB4.out.size)
            obtain ⟨b5, o5, eD, k5⟩ := HDI.out k (by rw [HEL.out]; exact hlt)
            have a5 := cell_old hbw k5
            have a3 := cell_old hb d3
            obtain ⟨ce, hce⟩ : ∃ ce, ce = c.edge[k]?.getD 0 := ⟨_, rfl⟩
            rw [← hce] at a5
            obtain ⟨fb, hfb⟩ : ∃ fb, decide (ce < 0) = fb := ⟨_, rfl⟩
            have HCE : Hid (decide (c.edge[k]?.getD 0 < 0) = fb) := by show decide (c.edge[k]?.getD 0 < 0) = fb; rw [← hce]; exact hfb
            clear hce k5
            have HBW := Lib.hid hbw; have HB := Lib.hid hb; clear hbw hb
            have hlmb : mb < wr.heap.size := HM.out.lt
            have hke : k < c.edge.length := by rw [HEL.out]; exact hlt
            subst e1
            rw [eD] at a3
            have HED := Lib.hid eD; clear eD
            clear d0 d1 d2 d3 d4
            go_wp2
            obtain ⟨w7, hw7⟩ : ∃ w7, w7 = wr.alloc (.cells #[.int .i64 (x : Int), .int .i64 (y : Int)] 41) := ⟨_, rfl⟩
            have hb7 : Below wr.heap.size wr w7 := hw7 ▸ (Below.refl _ _).alloc (Nat.le_refl _) _
            have n0 : w7.cell? ⟨wr.heap.size, 0, none⟩ = some (.int .i64 (x : Int)) := by rw [hw7]; exact cell_box _ _ 41 0 rfl
            have n1 : w7.cell? ⟨wr.heap.size, 1, none⟩ = some (.int .i64 (y : Int)) := by rw [hw7]; exact cell_box _ _ 41 1 rfl
            have n3 := cell_old hb7 a3
            have n5 := cell_old hb7 a5
            have HM7 := HM.out.old hb7.drew
            obtain ⟨o, hrun, hmi, hun⟩ := run_put encPB HM7 HUQ.out (x := ((x : Int), (y : Int))) ⟨i64ok_mk (by omega) (by omega), i64ok_mk (by omega) (by omega)⟩ fb
            have hrun' : (Instr.mapUpdate 46 (.map (some mb)) (.agg #[.int .i64 (x : Int), .int .i64 (y : Int)]) (.bool fb)).run Try.prog w7.drew = .ok () (setMap w7.drew mb o) := hrun
            have HMI := Lib.hid hmi; have HUN := Lib.hid hun; have HMX := Lib.hid HM7
            clear hrun hmi hun HM7
            rw [← hw7]
            have HW7 := Lib.hid hw7; clear hw7
            refine wp_region_planL (fun W => Below w7.heap.size w7 W) 8 plan6a (by kernel_rfl) (by kernel_rfl) (by kernel_rfl) rfl (Below.refl _ _).drew ?_
            unfold plan6a
            iterate 8 (refine wpPlanL_take rfl (fun K hK => ?_); go_simp; first | (refine hK _ _ ?_; clear hK K) | (refine ⟨_, fun _ _ => rfl, hK _ _ ?_⟩; clear hK K) | (apply Exists.intro; refine ⟨fun W hW => ?_, hK _ _ ?_⟩; (have k0 := cell_old hW n0; have k1 := cell_old hW n1; have k3 := cell_old hW n3; have k5 := cell_old hW n5; go_simp; try rfl); clear hK K))
            refine wpPlanL_last rfl (fun K hK => ?_)
            go_simp
            refine hK _ _ ?_; clear hK K
            refine wpPlanL_nil ?_
            have hput : fmapN c.edge (es.take (k + 1)) 0 [] = aput (fmapN c.edge (es.take k) 0 []) ((x : Int), (y : Int)) fb := by
              rw [take_snoc es (0, 0) k hlt, HXY.out, fmapN_snoc, ← HCE.out]
              simp [Nat.min_eq_left (Nat.le_of_lt hlt)]
            have HR : Hid (MapIs encPB (setMap w7.drew mb o) mb (fmapN c.edge (es.take (k + 1)) 0 []) ∧ Uniq (fmapN c.edge (es.take (k + 1)) 0 []) ∧ PairsAt (setMap w7.drew mb o) (some ⟨db, 0, none⟩) es ∧ Below w4.heap.size w4 (setMap w7.drew mb o)) := by
              show _ ∧ _ ∧ _ ∧ _
              rw [hput]
              refine ⟨HMI.out, HUN.out, (HP.out.old hb7.drew).setMap HMX.out o, setMap_below ((HB.out.trans (hb7.mono HB.out.size)).drew) (by rw [HMB.out]; exact Nat.le_refl _) o⟩
            clear hrun' n0 n1 n3 n5 hb7 hput a3 a5 x1 x2
            go_wp2
            go_roundw
            case rel => exact ⟨k + 1, by go_num, by omega, HR.out.1, HR.out.2.1, HR.out.2.2.1, HR.out.2.2.2⟩
            case measure => simp [intOf]; omega
          · rw [List.take_of_length_le (by omega)] at HM HUQ
            have hbw : Below w.heap.size w wr := HB4.out.trans (hb.mono HB4.out.size)
            have HPI2 := Lib.hid (IntsAt.old HPI.out.1 hb)
            have c0 := cell_old hb d0
            have c1 := cell_old hb d1
            have c2 := cell_old hb d2
            have c3 := cell_old hb d3
            have c4 := cell_old hb d4
            clear d0 d1 d2 d3 d4
            have HLK : Hid (∀ W, Below wr.heap.size wr W → ∀ b s : Nat, (s : Int) ∈ nextOf g b → b < g.blocks.length → s < g.blocks.length → 0 ≤ (netOf g c).ec b s → (Instr.lookup 46 (.map (some mb)) (.agg #[.int .i64 (b : Int), .int .i64 (s : Int)]) false).run Try.prog W = .ok (.bool false) W) := by
              show ∀ W, Below wr.heap.size wr W → ∀ b s : Nat, (s : Int) ∈ nextOf g b → b < g.blocks.length → s < g.blocks.length → 0 ≤ (netOf g c).ec b s → (Instr.lookup 46 (.map (some mb)) (.agg #[.int .i64 (b : Int), .int .i64 (s : Int)]) false).run Try.prog W = .ok (.bool false) W
              intro W hW b s hs hbn hsn he0
              have := run_look encPB (HM.out.old hW) HUQ.out (x := ((b : Int), (s : Int))) ⟨i64ok_mk (by omega) (by omega), i64ok_mk (by omega) (by omega)⟩ false
              rw [HES.out, fmap_ec hgv hs, show decide ((netOf g c).ec b s < 0) = false by simpa using he0] at this
              exact this
            have HBW := Lib.hid hbw; have HBR := Lib.hid hb; clear hbw hb
            obtain ⟨wM, hwM⟩ : ∃ wM, wM = wr := ⟨_, rfl⟩
            rw [← hwM] at HM HBW HBR HLK HPI2 c0 c1 c2 c3 c4 ⊢
            clear hwM HP
            go_wp2
            go_loopw [13] (fun i wy => ∃ k : Nat, i = .int .i64 k ∧ 1 ≤ k ∧ k ≤ ml ∧ Below wM.heap.size wM wy) (fun i _ => ml - (intOf i).toNat)
            case atStart => exact ⟨1, rfl, Nat.le_refl _, by omega, Below.refl _ _⟩
            case round =>
              obtain ⟨k2, rfl, hk1, hk2, hb⟩ := hrel
              have HB2' := Lib.hid hb
              by_cases hk3 : k2 < ml
              · cases k2 with
                | zero => omega
                | succ k1 =>
                  obtain ⟨b7, o7, e7, r7⟩ := HPI2.out k1 (by rw [HPL.out]; omega)
                  obtain ⟨b8, o8, e8, r8⟩ := HPI2.out (k1 + 1) (by rw [HPL.out]; omega)
                  cases e7; cases e8
                  obtain ⟨wl1, wl2⟩ := walk_at k1 HWK.out (by rw [HML.out]; omega)
                  rw [HPat.out k1 (by omega)] at r7
                  rw [HPat.out (k1 + 1) hk3] at r8
                  obtain ⟨an, han⟩ : ∃ an, an = (0 :: L)[k1]?.getD 0 := ⟨_, rfl⟩
                  obtain ⟨bn, hbn⟩ : ∃ bn, bn = (0 :: L)[k1 + 1]?.getD 0 := ⟨_, rfl⟩
                  have ha1 : an < g.blocks.length := by
                    rw [han, List.getElem?_eq_getElem (by rw [HML.out]; omega)]
                    exact HWK.out.lt _ (List.getElem_mem _)
                  have hb1 : bn < g.blocks.length := by
                    rw [hbn, List.getElem?_eq_getElem (by rw [HML.out]; omega)]
                    exact HWK.out.lt _ (List.getElem_mem _)
                  rw [← han] at r7 wl1 wl2
                  rw [← hbn] at r8 wl1 wl2
                  have HLW : Hid (∀ W, Below wr.heap.size wr W → (Instr.lookup 46 (.map (some mb)) (.agg #[.int .i64 (an : Int), .int .i64 (bn : Int)]) false).run Try.prog W = .ok (.bool false) W) := fun W hW => HLK.out W (hb.trans (hW.mono hb.size)) an bn ((mem_nx hgv).1 wl1) ha1 hb1 wl2
                  have s7 := cell_old hb r7
                  have s8 := cell_old hb r8
                  clear r7 r8 wl1 wl2 han hbn hb
                  have hml20 : ml ≤ 20 := by omega
                  have hw1 : IntKind.i64.wrap (k1 : Int) = (k1 : Int) := wrap_small (by omega) (by omega)
                  have hw2 : (k1 : Int) < (ml : Int) := by omega
                  have hw3 : (k1 : Int) + 1 < (ml : Int) := by omega
                  go_upto_region 20 with fail
                  refine wp_region_plan (fun W => Below wr.heap.size wr W) plan6b (by kernel_rfl) (by kernel_rfl) (by kernel_rfl) rfl (Below.refl _ _).drew ?_
                  unfold plan6b
                  iterate 12 (refine wpPlan_take rfl (fun K hK => ?_); go_simp; first | (refine hK _ _ ?_; clear hK K) | (refine ⟨_, fun _ _ => rfl, hK _ _ ?_⟩; clear hK K) | (apply Exists.intro; refine ⟨fun W hW => ?_, hK _ _ ?_⟩; (have k7 := cell_old hW s7; have k8 := cell_old hW s8; have k9 := HLW.out W hW; go_simp; try rfl); clear hK K))
                  refine wpPlan_nil ?_
                  have hbD : Below wr.heap.size wr wr.drew := (Below.refl _ _).drew
                  have HBD := Lib.hid (HB2'.out.trans (hbD.mono HB2'.out.size)); clear hbD s7 s8
                  go_wp2
                  go_roundw
                  case rel => exact ⟨k1 + 2, by go_num, by omega, by omega, HBD.out⟩
                  case measure => simp [intOf]; omega
              · cases ml with
                | zero => omega
                | succ m =>
                  obtain rfl : k2 = m + 1 := by omega
                  obtain ⟨wl1, wl2⟩ := walk_last HWK.out
                  rw [HML.out, Nat.add_sub_cancel] at wl1 wl2
                  obtain ⟨b7, o7, e7, r7⟩ := HPI2.out m (by rw [HPL.out]; omega)
                  cases e7
                  rw [HPat.out m (by omega)] at r7
                  obtain ⟨ln, hln⟩ : ∃ ln, ln = (0 :: L)[m]?.getD 0 := ⟨_, rfl⟩
                  rw [← hln] at wl1 wl2 r7
                  have hln1 : ln < g.blocks.length := wl1
                  have hnil : (g.blocks[ln]?.getD default).next = [] := List.length_eq_zero_iff.1 (nx_nil.1 wl2)
                  obtain ⟨bb, off, nA, nc, eA, h1, h2, h3, h4, h5⟩ := HA.out ln hln1
                  rw [hnil] at h3
                  simp only [List.length_nil] at h3
                  clear h1 h2 h4 h5 wl1 wl2 hln hnil
                  have hbw : Below w.heap.size w wr := HBW.out.trans (hb.mono HBW.out.size)
                  have a3 := cell_old hbw h3
                  have s7 := cell_old hb r7
                  have e0 := cell_old hb c0
                  have e1 := cell_old hb c1
                  have e2 := cell_old hb c2
                  have e3 := cell_old hb c3
                  have e4 := cell_old hb c4
                  rw [eA] at e0
                  clear h3 r7 c0 c1 c2 c3 c4
                  have HG2 := Lib.hid (HG.out.old hbw); have HC2 := Lib.hid (HC.out.old hbw)
                  rw [eA] at HG2
                  have HIP : Hid (IntsV wr (.slice (some ⟨b6, o6, none⟩) (m + 1) c6) P) := by
                    show IntsV wr (.slice (some ⟨b6, o6, none⟩) (m + 1) c6) P
                    exact ⟨_, _, by rw [HPL.out], HPI2.out.old hb, HPI.out.2⟩
                  have HEA := Lib.hid eA; clear eA
                  have HKEY : Hid (∀ k, k < (edges g).length → i64ok ((edges g)[k]?.getD (0, 0)).1 ∧ i64ok ((edges g)[k]?.getD (0, 0)).2) := by
                    show ∀ k, k < (edges g).length → i64ok ((edges g)[k]?.getD (0, 0)).1 ∧ i64ok ((edges g)[k]?.getD (0, 0)).2
                    intro k hk
                    obtain ⟨x, y, hxy, hx, hy, _⟩ := edge_at hgv hk
                    rw [hxy]
                    exact ⟨i64ok_mk (by dsimp only; omega) (by dsimp only; omega), i64ok_mk (by dsimp only; omega) (by dsimp only; omega)⟩
                  have hw1 : IntKind.i64.wrap (m : Int) = (m : Int) := wrap_small (by omega) (by omega)
                  have g1 : decide ((0 : Int) ≤ (ln : Int)) = true := by simp
                  have g2 : decide ((ln : Int) < (g.blocks.length : Int)) = true := by simp; omega
                  have HBW2 := Lib.hid hbw; clear hbw hb
                  go_wp2_with (go_at_call 15; go_must (refine (path15_any _ _ _ _ g c P HG2.out HC2.out HIP.out (by rw [← HES.out]; exact hle40) HKEY.out).mono ?_); rintro e w8 ⟨rfl, hb8⟩; rw [HP15.out]; have HB8 := Lib.hid (HBW2.out.trans (hb8.mono HBW2.out.size)); have v0 := cell_old hb8 e0; have v3 := cell_old hb8 a3; clear hb8)
                  go_ret
                  exact ⟨rfl, HB8.out⟩
end Go.Proofs.Ytfoimgkgkjhbeaa
