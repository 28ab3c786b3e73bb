/- The walk of the law BcetLeast. -/
import Derived.Test.YtfoimgkgkjhbeaaWH
import Derived.Test.YtfoimgkgkjhbeaaL6
namespace Go.Proofs.Ytfoimgkgkjhbeaa
open Go.RowKit

def U8sV (w : World) (v : Value) (ys : List Nat) : Prop :=
  ∃ A c, v = .slice A ys.length c ∧ (∀ i, i < ys.length → ∃ b off, A = some ⟨b, off, none⟩ ∧ w.cell? ⟨b, off + i, none⟩ = some (.int .u8 ((ys[i]?.getD 0 : Nat) : Int))) ∧ ys.length ≤ 9223372036854775807 ∧ ∀ i : Nat, ys[i]?.getD 0 ≤ 255

/-- A map that is filled edge by edge. -/
def gmapN {ν : Type} (f : Nat → ν) : List (Int × Int) → Nat → List ((Int × Int) × ν) → List ((Int × Int) × ν)
  | [], _, l => l
  | e :: es, k, l => gmapN f es (k + 1) (aput l e (f k))
theorem gmapN_snoc {ν : Type} (f : Nat → ν) (es : List (Int × Int)) (e : Int × Int) (k : Nat) (l : List ((Int × Int) × ν)) : gmapN f (es ++ [e]) k l = aput (gmapN f es k l) e (f (k + es.length)) := by
  induction es generalizing k l with
  | nil => simp [gmapN]
  | cons x es ih => simp only [List.cons_append, gmapN, ih, List.length_cons]; rw [show k + 1 + es.length = k + (es.length + 1) by omega]
theorem alook_gmap_out {ν : Type} {f : Nat → ν} {e : Int × Int} : ∀ {es : List (Int × Int)} {k : Nat} {l : List ((Int × Int) × ν)}, e ∉ es → alook (gmapN f es k l) e = alook l e := by
  intro es
  induction es with
  | nil => intro k l _; rfl
  | cons x es ih =>
    intro k l h
    rw [gmapN, ih (fun hh => h (List.mem_cons_of_mem _ hh)), alook_aput_ne _ _ (show e ≠ x from fun hh => h (by rw [hh]; exact List.mem_cons_self))]
theorem alook_gmap {ν : Type} {f : Nat → ν} {e : Int × Int} : ∀ {es : List (Int × Int)} {k : Nat} {l : List ((Int × Int) × ν)} {i : Nat}, es.Nodup → es[i]? = some e → alook (gmapN f es k l) e = some (f (k + i)) := by
  intro es
  induction es with
  | nil => intro k l i _ h; simp at h
  | cons x es ih =>
    intro k l i hn h
    obtain ⟨h1, h2⟩ := List.nodup_cons.1 hn
    rw [gmapN]
    cases i with
    | zero =>
      simp only [List.getElem?_cons_zero, Option.some.injEq] at h
      subst h
      rw [alook_gmap_out h1, alook_aput_self]; simp
    | succ i =>
      rw [List.getElem?_cons_succ] at h
      rw [ih h2 h, show k + 1 + i = k + (i + 1) by omega]
/-- The costs of the edges, by edge. -/
def cmapN (edge : List Int) (es : List (Int × Int)) (k : Nat) (l : List ((Int × Int) × Int)) : List ((Int × Int) × Int) := gmapN (fun i => edge[i]?.getD 0) es k l
theorem cmapN_snoc (edge : List Int) (es : List (Int × Int)) (e : Int × Int) (k : Nat) (l : List ((Int × Int) × Int)) : cmapN edge (es ++ [e]) k l = aput (cmapN edge es k l) e (edge[k + es.length]?.getD 0) := gmapN_snoc _ es e k l
theorem alook_cmap {edge : List Int} {e : Int × Int} {es : List (Int × Int)} {k : Nat} {l : List ((Int × Int) × Int)} {i : Nat} (hn : es.Nodup) (h : es[i]? = some e) : alook (cmapN edge es k l) e = some (edge[k + i]?.getD 0) := alook_gmap hn h
/-- What the map of costs says of a successor. -/
theorem cmap_ec {g : Gr} {c : Cst} (h : validB g = true) {b s : Nat} (hs : (s : Int) ∈ nextOf g b) : alook (cmapN c.edge (edges g) 0 []) ((b : Int), (s : Int)) = some ((netOf g c).ec b s) := by
  obtain ⟨i, hi, _, _⟩ := idx_of h hs
  have := alook_cmap (edge := c.edge) (k := 0) (l := []) (nodup_edgesFrom (k := 0) (fun x hx => ((valid_ok h).2 x hx).nod)) hi
  rw [Nat.zero_add] at this
  rw [ec_at h hi]
  exact this

theorem cell_setMap {P : Program} {κ ν : Type} {M : MEnc P κ ν} {w : World} {b : Nat} {l : List (κ × ν)} (h : MapIs M w b l) (o : Obj) {p : Addr} {v : Value} (hp : w.cell? p = some v) : (setMap w b o).cell? p = some v := by
  have hne : p.block ≠ b := by
    intro e
    obtain ⟨es, c, h1, _⟩ := h
    unfold World.cell? at hp
    rw [e, h1] at hp
    cases hp
  unfold World.cell? at hp ⊢
  rw [setMap_heap _ _ _ _ hne]
  exact hp
theorem PairsAt.setMap {P : Program} {κ ν : Type} {M : MEnc P κ ν} {w : World} {b : Nat} {l : List (κ × ν)} {A : Option Addr} {es : List (Int × Int)} (hP : PairsAt w A es) (h : MapIs M w b l) (o : Obj) : PairsAt (setMap w b o) A es := fun i hi =>
  let ⟨d, h1, h2, h3⟩ := hP i hi
  ⟨d, h1, cell_setMap h o h2, cell_setMap h o h3⟩
/-- A way from block 0 to b of cost s. -/
def Reach (N : Net) (b : Nat) (s : Int) : Prop := ∀ l, Walk N (b :: l) → ∃ l', Walk N (0 :: l') ∧ (val N (0 :: l')).1 = s - N.bk b + (val N (b :: l)).1
theorem reach_start (N : Net) : Reach N 0 (N.bk 0) := fun l h => ⟨l, h, by omega⟩
theorem reach_step {N : Net} {b t : Nat} {s : Int} (h : Reach N b s) (hb : b < N.n) (ht : t ∈ N.nx b) (he : 0 ≤ N.ec b t) : Reach N t (s + (N.ec b t + N.bk t)) := by
  intro l hl
  obtain ⟨l', h1, h2⟩ := h (t :: l) ⟨hb, ht, he, hl⟩
  refine ⟨l', h1, ?_⟩
  rw [h2]
  show s - N.bk b + (N.bk b + N.ec b t + (val N (t :: l)).1) = _
  omega
theorem reach_end {N : Net} {f : Nat → Option (Int × Int)} (hf : Fix N f) {b : Nat} {s : Int} (h : Reach N b s) (hb : b < N.n) (hn : N.nx b = []) : ∃ u, f 0 = some u ∧ u.1 ≤ s := by
  obtain ⟨l', h1, h2⟩ := h [] ⟨hb, hn⟩
  obtain ⟨u, hu, hle⟩ := fix_opt hf h1
  refine ⟨u, hu, ?_⟩
  have e : (val N [b]).1 = N.bk b := rfl
  rw [e] at h2
  unfold lexLe at hle
  omega

def plan4a : List (Nat × Bool) := [(0, true), (1, true), (2, true), (3, true), (4, true), (5, true), (6, true), (7, false)]
def plan4b : List (Nat × Bool) := [(0, true), (1, true), (2, true), (3, true), (4, true), (5, true)]
def plan4c : List (Nat × Bool) := [(0, true), (1, true), (2, true), (3, true), (4, true), (5, true), (6, true), (7, true), (8, true), (9, true), (10, true), (11, true), (12, true), (13, true)]

set_option maxRecDepth 100000 in
set_option maxHeartbeats 8000000 in
theorem bcetLeast_any (w : World) (gv cv xv : Value) (g : Gr) (c : Cst) (ys : List Nat) (hg : GraphV w gv g) (hc : CostsV w cv c) (hx : U8sV w xv ys) :
    Calls Try.prog 4 #[gv, cv, xv] w fun e w' => e = .returned (.bool true) ∧ Below w.heap.size w w' := by
  have HG := Lib.hid hg
  have HC := Lib.hid hc
  obtain ⟨A, ca, B, cb, rfl, hA, hB, hl1, hl2⟩ := hg
  obtain ⟨C, cc, D, cd, rfl, hC, hD, hl3, hl4⟩ := hc
  obtain ⟨X, cx, rfl, hX, hlx, hy255⟩ := hx
  clear hB
  have HA := Lib.hid hA; have HCI := Lib.hid hC; have HDI := Lib.hid hD; have HX := Lib.hid hX
  clear hA hC hD hX
  obtain ⟨nb, hnb⟩ : ∃ nb, nb = nextB g c := ⟨_, rfl⟩
  have HNB := Lib.hid hnb; clear hnb
  go_enter Try.func4, Try.ntmps4
  go_upto_region 1 with fail
  obtain ⟨wo, hwo, hbo, q0, q1, q2, q3, q4⟩ := wo_box2 w (.slice A g.blocks.length ca) (.slice B g.prev.length cb) (.slice C c.block.length cc) (.slice D c.edge.length cd) (.int .i64 c.once)
  rw [← hwo]
  clear hwo
  have HBO := Lib.hid hbo; clear hbo
  go_upto_region 3 with (go_at_call 8; refine (awake_any _).mono ?_; rintro e w1 ⟨rfl, hb1⟩; have HB1 := Lib.hid (HBO.out.trans (hb1.mono HBO.out.size)); have a0 := cell_old hb1 q0; have a1 := cell_old hb1 q1; have a2 := cell_old hb1 q2; have a3 := cell_old hb1 q3; have a4 := cell_old hb1 q4; clear hb1)
  clear q0 q1 q2 q3 q4
  cases nb with
  | false =>
    go_wp2_with (go_at_call 9; refine (next_any _ _ _ g c (HG.out.old HB1.out) (HC.out.old HB1.out)).mono ?_; rintro e w2 ⟨u, rfl, _, hb2⟩; rw [← HNB.out]; have HB2 := Lib.hid (HB1.out.trans (hb2.mono HB1.out.size)); clear hb2)
    go_ret
    exact ⟨rfl, HB2.out⟩
  | true =>
    have hsm : g.blocks.length ≤ 20 := by
      have := HNB.out
      unfold nextB at this
      have h2 := this.symm
      simp only [Bool.and_eq_true, decide_eq_true_eq] at h2
      exact h2.1.1.1.1
    have hE : validB g = true → (edges g).length ≤ 1048576 := fun h => by have := edges_len h; omega
    go_upto_region 4 with (go_at_call 9; refine (next_any _ _ _ g c (HG.out.old HB1.out) (HC.out.old HB1.out)).mono ?_; rintro e w2 ⟨u, rfl, _, hb2⟩; rw [← HNB.out]; have HB2 := Lib.hid (HB1.out.trans (hb2.mono HB1.out.size)); have b0 := cell_old hb2 a0; have b1 := cell_old hb2 a1; have b2 := cell_old hb2 a2; have b3 := cell_old hb2 a3; have b4 := cell_old hb2 a4; clear hb2)
    clear a0 a1 a2 a3 a4
    by_cases hu : usableB g c = true
    case neg =>
      have hu' : usableB g c = false := by simpa using hu
      have HU := Lib.hid hu'; clear hu hu'
      go_wp2_with (go_at_call 11; refine (usable_any _ _ _ g c (HG.out.old HB2.out) (HC.out.old HB2.out) hE).mono ?_; rintro e w4 ⟨rfl, hb4⟩; rw [HU.out]; have HB4 := Lib.hid (HB2.out.trans (hb4.mono HB2.out.size)); clear hb4)
      go_ret
      exact ⟨rfl, HB4.out⟩
    case pos =>
      have hgood := goodIn hu HNB.out.symm
      have HU := Lib.hid hu; clear hu
      have HGD := Lib.hid hgood; clear hgood
      by_cases h60 : ys.length ≤ 60
      case neg =>
        have hd60 : decide ((60 : Int) < (ys.length : Int)) = true := by simp; omega
        clear h60
        go_wp2_with (go_at_call 11; refine (usable_any _ _ _ g c (HG.out.old HB2.out) (HC.out.old HB2.out) hE).mono ?_; rintro e w4 ⟨rfl, hb4⟩; rw [HU.out]; have HB4 := Lib.hid (HB2.out.trans (hb4.mono HB2.out.size)); clear hb4)
        go_ret
        exact ⟨rfl, HB4.out⟩
      case pos =>
        have hd60 : decide ((60 : Int) < (ys.length : Int)) = false := by simp; omega
        go_upto_region 6 with (go_at_call 11; refine (usable_any _ _ _ g c (HG.out.old HB2.out) (HC.out.old HB2.out) hE).mono ?_; rintro e w4 ⟨rfl, hb4⟩; rw [HU.out]; have HB4 := Lib.hid (HB2.out.trans (hb4.mono HB2.out.size)); have c0 := cell_old hb4 b0; have c1 := cell_old hb4 b1; have c2 := cell_old hb4 b2; have c3 := cell_old hb4 b3; have c4 := cell_old hb4 b4; clear hb4)
        clear b0 b1 b2 b3 b4
        have hmm := @run_makeMap Try.prog
        have hgv := HGD.out.v
        obtain ⟨es, hes⟩ : ∃ es, es = edges g := ⟨_, rfl⟩
        have HES := Lib.hid hes
        have hel : c.edge.length = es.length := by rw [hes]; exact HGD.out.el
        have hle40 : es.length ≤ 1048576 := by rw [hes]; exact edges_small HGD.out
        have HEL := Lib.hid hel
        clear hes hel
        have hbm : Below w4.heap.size w4 (w4.alloc (.map #[] 0)) := (Below.refl _ _).alloc (Nat.le_refl _) _
        have HBM := Lib.hid hbm; clear hbm
        have HM0 : Hid (MapIs encPI (w4.alloc (.map #[] 0)) w4.heap.size []) := MapIs.made encPI w4
        obtain ⟨mb, hmb⟩ : ∃ mb, mb = w4.heap.size := ⟨_, rfl⟩
        have HMB := Lib.hid hmb
        have lt0 := World.block_lt_of_cell? _ _ c0
        have lt1 := World.block_lt_of_cell? _ _ c2
        simp only at lt0 lt1
        go_wp2_with (go_at_call 14; go_must (refine (edges_any _ _ g (HG.out.old (HB4.out.trans (HBM.out.mono HB4.out.size))) (by rw [← HES.out]; exact hle40)).mono ?_); go_must (rintro e w5 ⟨v, rfl, hown, hb5⟩; rw [← HES.out] at hown; obtain ⟨EA, ec, rfl, hPA⟩ := hown.pairs; have hm5 := MapIs.old HM0.out hb5; have hb45 := HBM.out.trans (hb5.mono HBM.out.size); have HPA := Lib.hid hPA; have HM5 := Lib.hid hm5; have HB45 := Lib.hid hb45; clear hown hb5 hPA hm5 hb45))
        rw [← hmb] at HM5 ⊢
        clear hmb HM0 HBM hmm
        go_loopw [46] (fun i wr => ∃ k : Nat, i = .int .i64 k ∧ k ≤ es.length ∧ MapIs encPI wr mb (cmapN c.edge (es.take k) 0 []) ∧ Uniq (cmapN c.edge (es.take k) 0 []) ∧ PairsAt wr EA es ∧ Below w4.heap.size w4 wr) (fun i _ => es.length - (intOf i).toNat)
        case atStart => exact ⟨0, rfl, Nat.zero_le _, HM5.out, List.nodup_nil, HPA.out, HB45.out⟩
        case round =>
          obtain ⟨k, rfl, hk, hM, hU, hP, hb⟩ := hrel
          clear HM5 HPA HB45
          have HM := Lib.hid hM; have HUQ := Lib.hid hU; have HP := Lib.hid hP
          clear hM hU hP
          by_cases hlt : k < es.length
          · obtain ⟨db, e1, d1, d2⟩ := HP.out k hlt
            obtain ⟨x, y, hxy, hx, hy, _⟩ := edge_at hgv (k := k) (by rw [← HES.out]; exact hlt)
            rw [← HES.out] at hxy
            rw [hxy] at d1 d2
            have HXY := Lib.hid hxy; clear hxy
            have hbw : Below w.heap.size w wr := HB4.out.trans (hb.mono HB4.out.size)
            obtain ⟨b5, o5, eD, k5⟩ := HDI.out k (by rw [HEL.out]; exact hlt)
            have a5 := cell_old hbw k5
            have a3 := cell_old hb c3
            obtain ⟨ce, hce⟩ : ∃ ce, ce = c.edge[k]?.getD 0 := ⟨_, rfl⟩
            rw [← hce] at a5
            have HCE := Lib.hid hce; clear hce k5
            have HBW := Lib.hid hbw; have HB := Lib.hid hb; clear hbw hb
            have hlmb : mb < wr.heap.size := HM.out.lt
            have hke : k < c.edge.length := by rw [HEL.out]; exact hlt
            subst e1
            rw [eD] at a3
            have HED := Lib.hid eD; clear eD
            clear c0 c1 c2 c3 c4
            go_wp2
            obtain ⟨w7, hw7⟩ : ∃ w7, w7 = wr.alloc (.cells #[.int .i64 (x : Int), .int .i64 (y : Int)] 41) := ⟨_, rfl⟩
            have hb7 : Below wr.heap.size wr w7 := hw7 ▸ (Below.refl _ _).alloc (Nat.le_refl _) _
            have n0 : w7.cell? ⟨wr.heap.size, 0, none⟩ = some (.int .i64 (x : Int)) := by rw [hw7]; exact cell_box _ _ 41 0 rfl
            have n1 : w7.cell? ⟨wr.heap.size, 1, none⟩ = some (.int .i64 (y : Int)) := by rw [hw7]; exact cell_box _ _ 41 1 rfl
            have n3 := cell_old hb7 a3
            have n5 := cell_old hb7 a5
            have HM7 := HM.out.old hb7.drew
            obtain ⟨o, hrun, hmi, hun⟩ := run_put encPI HM7 HUQ.out (x := ((x : Int), (y : Int))) ⟨i64ok_mk (by omega) (by omega), i64ok_mk (by omega) (by omega)⟩ ce
            have hrun' : (Instr.mapUpdate 38 (.map (some mb)) (.agg #[.int .i64 (x : Int), .int .i64 (y : Int)]) (.int .i64 ce)).run Try.prog w7.drew = .ok () (setMap w7.drew mb o) := hrun
            have HMI := Lib.hid hmi; have HUN := Lib.hid hun; have HMX := Lib.hid HM7
            clear hrun hmi hun HM7
            rw [← hw7]
            have HW7 := Lib.hid hw7; clear hw7
            refine wp_region_planL (fun W => Below w7.heap.size w7 W) 7 plan4a (by kernel_rfl) (by kernel_rfl) (by kernel_rfl) rfl (Below.refl _ _).drew ?_
            unfold plan4a
            iterate 7 (refine wpPlanL_take rfl (fun K hK => ?_); go_simp; first | (refine hK _ _ ?_; clear hK K) | (refine ⟨_, fun _ _ => rfl, hK _ _ ?_⟩; clear hK K) | (apply Exists.intro; refine ⟨fun W hW => ?_, hK _ _ ?_⟩; (have k0 := cell_old hW n0; have k1 := cell_old hW n1; have k3 := cell_old hW n3; have k5 := cell_old hW n5; go_simp; try rfl); clear hK K))
            refine wpPlanL_last rfl (fun K hK => ?_)
            go_simp
            refine hK _ _ ?_; clear hK K
            refine wpPlanL_nil ?_
            have hput : cmapN c.edge (es.take (k + 1)) 0 [] = aput (cmapN c.edge (es.take k) 0 []) ((x : Int), (y : Int)) ce := by
              rw [take_snoc es (0, 0) k hlt, HXY.out, cmapN_snoc, HCE.out]
              simp [Nat.min_eq_left (Nat.le_of_lt hlt)]
            have HR : Hid (MapIs encPI (setMap w7.drew mb o) mb (cmapN c.edge (es.take (k + 1)) 0 []) ∧ Uniq (cmapN c.edge (es.take (k + 1)) 0 []) ∧ PairsAt (setMap w7.drew mb o) (some ⟨db, 0, none⟩) es ∧ Below w4.heap.size w4 (setMap w7.drew mb o)) := by
              show _ ∧ _ ∧ _ ∧ _
              rw [hput]
              refine ⟨HMI.out, HUN.out, (HP.out.old hb7.drew).setMap HMX.out o, setMap_below ((HB.out.trans (hb7.mono HB.out.size)).drew) (by rw [HMB.out]; exact Nat.le_refl _) o⟩
            clear hrun' n0 n1 n3 n5 hb7 hput a3 a5 d1 d2
            go_wp2
            go_roundw
            case rel => exact ⟨k + 1, by go_num, by omega, HR.out.1, HR.out.2.1, HR.out.2.2.1, HR.out.2.2.2⟩
            case measure => simp [intOf]; omega
          · rw [List.take_of_length_le (by omega)] at HM HUQ
            have hbw : Below w.heap.size w wr := HB4.out.trans (hb.mono HB4.out.size)
            have d0 := cell_old hb c0
            have d1 := cell_old hb c1
            have d2 := cell_old hb c2
            have d3 := cell_old hb c3
            have d4 := cell_old hb c4
            clear c0 c1 c2 c3 c4
            obtain ⟨b6, o6, eC, k6⟩ := HCI.out 0 (by rw [HGD.out.bl]; exact (valid_ok hgv).1)
            have a6 := cell_old hbw k6
            rw [Nat.add_zero] at a6
            rw [eC] at d2
            have HEC := Lib.hid eC; clear eC
            have hcl : 0 < c.block.length := by rw [HGD.out.bl]; exact (valid_ok hgv).1
            have HLK : Hid (∀ W, Below wr.heap.size wr W → ∀ b s : Nat, (s : Int) ∈ nextOf g b → b < g.blocks.length → s < g.blocks.length → (Instr.lookup 38 (.map (some mb)) (.agg #[.int .i64 (b : Int), .int .i64 (s : Int)]) false).run Try.prog W = .ok (.int .i64 ((netOf g c).ec b s)) W) := by
              show ∀ W, Below wr.heap.size wr W → ∀ b s : Nat, (s : Int) ∈ nextOf g b → b < g.blocks.length → s < g.blocks.length → (Instr.lookup 38 (.map (some mb)) (.agg #[.int .i64 (b : Int), .int .i64 (s : Int)]) false).run Try.prog W = .ok (.int .i64 ((netOf g c).ec b s)) W
              intro W hW b s hs hbn hsn
              have := run_look encPI (HM.out.old hW) HUQ.out (x := ((b : Int), (s : Int))) ⟨i64ok_mk (by omega) (by omega), i64ok_mk (by omega) (by omega)⟩ false
              rw [HES.out, cmap_ec hgv hs] at this
              exact this
            have HBW := Lib.hid hbw; have HBR := Lib.hid hb; clear hbw hb k6
            go_wp2
            have hgb := HGD.out
            have HST : Hid (Reach (netOf g c) 0 (c.block[0]?.getD 0)) := reach_start (netOf g c)
            have hb00 := hasNeg_get hgb.nn 0
            have hb01 := hgb.mb 0
            obtain ⟨s0, hs0⟩ : ∃ s0, s0 = c.block[0]?.getD 0 := ⟨_, rfl⟩
            rw [← hs0] at HST hb00 hb01 a6
            clear hs0 hgb
            refine wp_region_plan (fun W => Below wr.heap.size wr W) plan4b (by kernel_rfl) (by kernel_rfl) (by kernel_rfl) rfl (Below.refl _ _).drew ?_
            unfold plan4b
            iterate 6 (refine wpPlan_take rfl (fun K hK => ?_); go_simp; first | (refine hK _ _ ?_; clear hK K) | (refine ⟨_, fun _ _ => rfl, hK _ _ ?_⟩; clear hK K) | (apply Exists.intro; refine ⟨fun W hW => ?_, hK _ _ ?_⟩; (have k2 := cell_old hW d2; have k6 := cell_old hW a6; go_simp; try rfl); clear hK K))
            refine wpPlan_nil ?_
            clear a6
            have hn0 := (valid_ok hgv).1
            obtain ⟨rs, hF⟩ := found HGD.out
            have HF := Lib.hid hF; clear hF
            obtain ⟨wM, hwM⟩ : ∃ wM, wM = wr := ⟨_, rfl⟩
            rw [← hwM] at HM HBW HBR HLK d0 d1 d2 d3 d4 ⊢
            clear hwM HP
            have hbD : Below wM.heap.size wM wM.drew := (Below.refl _ _).drew
            have HBD := Lib.hid hbD; clear hbD
            go_wp2
            go_loopw [12, 13, 65] (fun bv sv i wy => ∃ (k b : Nat) (s : Int), bv = .int .i64 b ∧ sv = .int .i64 s ∧ i = .int .i64 k ∧ k ≤ ys.length ∧ b < g.blocks.length ∧ 0 ≤ s ∧ s ≤ 2147483904 * ((k : Int) + 1) ∧ Hid (Reach (netOf g c) b s) ∧ Below wM.heap.size wM wy) (fun _ _ i _ => ys.length - (intOf i).toNat)
            case atStart => exact ⟨0, 0, s0, rfl, rfl, rfl, Nat.zero_le _, hn0, hb00, by omega, HST, HBD.out⟩
            case round =>
              obtain ⟨k2, b, s, rfl, rfl, rfl, hk2, hbn, hs0, hs1, HRE, hb⟩ := hrel
              clear hb00 hb01 HST
              obtain ⟨bb, off, nA, nc, eA, h1, h2, h3, h4, h5⟩ := HA.out b hbn
              obtain ⟨x, hx⟩ : ∃ x, x = nextOf g b := ⟨_, rfl⟩
              have hx' : (g.blocks[b]?.getD default).next = x := hx.symm
              rw [hx'] at h3 h4 h5
              clear hx' h1 h2
              have hbw : Below w.heap.size w wr := HBW.out.trans (hb.mono HBW.out.size)
              have a3 := cell_old hbw h3
              have e0 := cell_old hb d0
              have e1 := cell_old hb d1
              have e2 := cell_old hb d2
              have e3 := cell_old hb d3
              have e4 := cell_old hb d4
              rw [eA] at e0
              have HX3 := Lib.hid hx; clear hx h3
              have HEA := Lib.hid eA; clear eA
              have hxl : x.length ≤ 2 := by rw [HX3.out]; exact (nextOf_ok hgv b).two
              obtain ⟨xl, hxle⟩ : ∃ xl, xl = x.length := ⟨_, rfl⟩
              rw [← hxle] at a3 hxl
              have HXLE := Lib.hid hxle; clear hxle
              by_cases hk3 : k2 < ys.length
              · obtain ⟨b7, o7, eX, k7⟩ := HX.out k2 hk3
                have a7 := cell_old hbw k7
                have hy := hy255 k2
                obtain ⟨y, hye⟩ : ∃ y, y = ys[k2]?.getD 0 := ⟨_, rfl⟩
                rw [← hye] at a7 hy
                have HYE := Lib.hid hye; clear hye k7
                subst eX
                by_cases hz : xl = 0
                · subst hz
                  obtain ⟨u0, hu0, hle0⟩ := reach_end HF.out.fix HRE.out hbn (nx_nil.2 (by rw [← HX3.out, ← HXLE.out]))
                  obtain ⟨rc, hrc⟩ : ∃ rc, rc = resCost (rs[0]?.getD default) := ⟨_, rfl⟩
                  have hcase : resOk (rs[0]?.getD default) = true ∧ rc ≤ s := by
                    rcases res0 rs with ⟨r1, u', r2, r3⟩ | ⟨_, r2, _⟩
                    · rw [hu0] at r2; cases r2; exact ⟨r1, by omega⟩
                    · rw [hu0] at r2; cases r2
                  obtain ⟨hr1, hr2⟩ := hcase
                  have HS : Hid (∀ (w : World) (gv cv : Value), GraphV w gv g → CostsV w cv c → Calls Try.prog 10 #[gv, cv] w fun e w' => ∃ u, e = .returned (.tuple #[.int .i64 rc, u, .bool true]) ∧ OwnL encInt w' w.heap.size u (resPath (rs[0]?.getD default) (fullPath g c rs)) ∧ Below w.heap.size w w') := by
                    show ∀ (w : World) (gv cv : Value), GraphV w gv g → CostsV w cv c → Calls Try.prog 10 #[gv, cv] w fun e w' => ∃ u, e = .returned (.tuple #[.int .i64 rc, u, .bool true]) ∧ OwnL encInt w' w.heap.size u (resPath (rs[0]?.getD default) (fullPath g c rs)) ∧ Below w.heap.size w w'
                    rw [hrc, ← hr1]; exact fun w gv cv => shortest_is HGD.out HF.out w gv cv
                  have fle : decide (rc ≤ s) = true := by simpa using hr2
                  clear hrc hr1 hr2 hu0 hle0
                  have HG2 := Lib.hid (HG.out.old hbw); have HC2 := Lib.hid (HC.out.old hbw)
                  rw [HEA.out] at HG2
                  rw [HEC.out] at HC2
                  have HBW2 := Lib.hid hbw; clear hbw
                  go_wp2_with (go_at_call 10; go_must (refine (HS.out _ _ _ HG2.out HC2.out).mono ?_); rintro e w8 ⟨u8, rfl, _, hb8⟩; have HB8 := Lib.hid (HBW2.out.trans (hb8.mono HBW2.out.size)); clear hb8)
                  go_ret
                  exact ⟨rfl, HB8.out⟩
                · have f0 : ((xl : Int) == 0) = false := by simp; omega
                  have hw1 : IntKind.i64.wrap (y : Int) = (y : Int) := IntWalk.i64_in _ (by omega)
                  have hxl0 : ¬ (xl : Int) = 0 := by omega
                  obtain ⟨j, hj⟩ : ∃ j, j = y % xl := ⟨_, rfl⟩
                  have hjl : j < xl := by rw [hj]; exact Nat.mod_lt _ (by omega)
                  have hjm : (y : Int) % (xl : Int) = (j : Int) := by rw [hj]; exact (Int.natCast_emod y xl).symm
                  clear hj
                  obtain ⟨b8, o8, e8, k8⟩ := h4 j (by rw [← HXLE.out]; exact hjl)
                  have a8 := cell_old hbw k8
                  have hmem : x[j]?.getD 0 ∈ nextOf g b := by
                    have hjx : j < x.length := by rw [← HXLE.out]; exact hjl
                    rw [← HX3.out, List.getElem?_eq_getElem hjx]; exact List.getElem_mem hjx
                  obtain ⟨tv, htv⟩ : ∃ tv, tv = x[j]?.getD 0 := ⟨_, rfl⟩
                  rw [← htv] at a8 hmem
                  clear htv k8
                  obtain ⟨ht0, ht1⟩ := (nextOf_ok hgv b).rng tv hmem
                  obtain ⟨t, rfl⟩ := Int.eq_ofNat_of_zero_le ht0
                  have htn : t < g.blocks.length := by omega
                  have htc : t < c.block.length := by rw [HGD.out.bl]; exact htn
                  subst e8
                  have HLW : Hid (∀ W, Below wr.heap.size wr W → (Instr.lookup 38 (.map (some mb)) (.agg #[.int .i64 (b : Int), .int .i64 (t : Int)]) false).run Try.prog W = .ok (.int .i64 ((netOf g c).ec b t)) W) := fun W hW => HLK.out W (hb.trans (hW.mono hb.size)) b t hmem hbn htn
                  have hec1 := (netOk HGD.out).ec1 b t
                  have hbk0 := (netOk HGD.out).bk0 t
                  have hbk1 := (netOk HGD.out).bk1 t
                  obtain ⟨b9, o9, e9, k9⟩ := HCI.out t htc
                  rw [HEC.out] at e9
                  cases e9
                  have a9 := cell_old hbw k9
                  clear k9
                  have HRS : Hid (0 ≤ (netOf g c).ec b t → Reach (netOf g c) t (s + ((netOf g c).ec b t + (netOf g c).bk t))) := fun h => reach_step HRE.out hbn ((mem_nx hgv).2 hmem) h
                  have hbke : (netOf g c).bk t = c.block[t]?.getD 0 := rfl
                  rw [← hbke] at a9
                  clear hbke
                  obtain ⟨ec1, hec⟩ : ∃ e, e = (netOf g c).ec b t := ⟨_, rfl⟩
                  obtain ⟨bk1, hbk⟩ : ∃ e, e = (netOf g c).bk t := ⟨_, rfl⟩
                  rw [← hec] at HLW HRS hec1
                  rw [← hbk] at a9 HRS hbk0 hbk1
                  have HMEM := Lib.hid hmem
                  clear hec hbk hmem ht0 ht1
                  have hl0 := HLW.out wr (Below.refl _ _)
                  by_cases hneg : ec1 < 0
                  · have fn : decide (ec1 < 0) = true := by simpa using hneg
                    clear hneg
                    go_wp2
                    go_ret
                    exact ⟨rfl, hbw⟩
                  · have fn : decide (ec1 < 0) = false := by simpa using hneg
                    have hy1 : IntKind.i64.wrap (ec1 + bk1) = ec1 + bk1 := IntWalk.i64_in _ (by omega)
                    have hy2 : IntKind.i64.wrap (s + (ec1 + bk1)) = s + (ec1 + bk1) := IntWalk.i64_in _ (by omega)
                    go_upto_region 21 with fail
                    refine wp_region_plan (fun W => Below wr.heap.size wr W) plan4c (by kernel_rfl) (by kernel_rfl) (by kernel_rfl) rfl (Below.refl _ _).drew ?_
                    unfold plan4c
                    iterate 14 (refine wpPlan_take rfl (fun K hK => ?_); go_simp; first | (refine hK _ _ ?_; clear hK K) | (refine ⟨_, fun _ _ => rfl, hK _ _ ?_⟩; clear hK K) | (apply Exists.intro; refine ⟨fun W hW => ?_, hK _ _ ?_⟩; (have k2 := cell_old hW e2; have k9 := cell_old hW a9; have kl := HLW.out W hW; go_simp; try rfl); clear hK K))
                    refine wpPlan_nil ?_
                    have HBR2 := Lib.hid hb; clear hb
                    clear hl0
                    go_wp2
                    go_roundw
                    case rel => exact ⟨k2 + 1, t, _, rfl, rfl, by go_num, by omega, htn, by omega, by omega, HRS.out (by omega), HBR2.out.drew⟩
                    case measure => simp [intOf]; omega
              · by_cases hz : xl = 0
                · subst hz
                  obtain ⟨u0, hu0, hle0⟩ := reach_end HF.out.fix HRE.out hbn (nx_nil.2 (by rw [← HX3.out, ← HXLE.out]))
                  obtain ⟨rc, hrc⟩ : ∃ rc, rc = resCost (rs[0]?.getD default) := ⟨_, rfl⟩
                  have hcase : resOk (rs[0]?.getD default) = true ∧ rc ≤ s := by
                    rcases res0 rs with ⟨r1, u', r2, r3⟩ | ⟨_, r2, _⟩
                    · rw [hu0] at r2; cases r2; exact ⟨r1, by omega⟩
                    · rw [hu0] at r2; cases r2
                  obtain ⟨hr1, hr2⟩ := hcase
                  have HS : Hid (∀ (w : World) (gv cv : Value), GraphV w gv g → CostsV w cv c → Calls Try.prog 10 #[gv, cv] w fun e w' => ∃ u, e = .returned (.tuple #[.int .i64 rc, u, .bool true]) ∧ OwnL encInt w' w.heap.size u (resPath (rs[0]?.getD default) (fullPath g c rs)) ∧ Below w.heap.size w w') := by
                    show ∀ (w : World) (gv cv : Value), GraphV w gv g → CostsV w cv c → Calls Try.prog 10 #[gv, cv] w fun e w' => ∃ u, e = .returned (.tuple #[.int .i64 rc, u, .bool true]) ∧ OwnL encInt w' w.heap.size u (resPath (rs[0]?.getD default) (fullPath g c rs)) ∧ Below w.heap.size w w'
                    rw [hrc, ← hr1]; exact fun w gv cv => shortest_is HGD.out HF.out w gv cv
                  have fle : decide (rc ≤ s) = true := by simpa using hr2
                  clear hrc hr1 hr2 hu0 hle0
                  have HG2 := Lib.hid (HG.out.old hbw); have HC2 := Lib.hid (HC.out.old hbw)
                  rw [HEA.out] at HG2
                  rw [HEC.out] at HC2
                  have HBW2 := Lib.hid hbw; clear hbw
                  go_wp2_with (go_at_call 10; go_must (refine (HS.out _ _ _ HG2.out HC2.out).mono ?_); rintro e w8 ⟨u8, rfl, _, hb8⟩; have HB8 := Lib.hid (HBW2.out.trans (hb8.mono HBW2.out.size)); clear hb8)
                  go_ret
                  exact ⟨rfl, HB8.out⟩
                · have fz : decide ((0 : Int) < (xl : Int)) = true := by simp; omega
                  go_wp2
                  go_ret
                  exact ⟨rfl, hbw⟩
end Go.Proofs.Ytfoimgkgkjhbeaa
