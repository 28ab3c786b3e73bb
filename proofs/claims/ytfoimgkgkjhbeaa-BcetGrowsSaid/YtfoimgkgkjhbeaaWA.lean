/- The walks of next and usable, the guards of the laws. -/
import Derived.Test.YtfoimgkgkjhbeaaW3
import Derived.Test.YtfoimgkgkjhbeaaW6
import Derived.Test.YtfoimgkgkjhbeaaBR
import Derived.Deep.RegionWith
import Derived.Deep.RegionHeld3
import Derived.Deep.DeepCutAuto
namespace Go.Proofs.Ytfoimgkgkjhbeaa
open Go.RowKit

/-- Costs in memory. -/
structure Cst where
  block : List Int
  edge : List Int
  once : Int
def CostsV (w : World) (v : Value) (c : Cst) : Prop :=
  ∃ B b E e, v = .agg #[.slice B c.block.length b, .slice E c.edge.length e, .int .i64 c.once] ∧ IntsAt w B c.block ∧ IntsAt w E c.edge ∧ c.block.length ≤ 9223372036854775807 ∧ c.edge.length ≤ 9223372036854775807
theorem CostsV.old {w w1 : World} {v : Value} {c : Cst} (h : CostsV w v c) (hb : Below w.heap.size w w1) : CostsV w1 v c :=
  let ⟨B, b, E, e, h1, h2, h3, h4⟩ := h
  ⟨B, b, E, e, h1, h2.old hb, h3.old hb, h4⟩

def usableB (g : Gr) (c : Cst) : Bool := validB g && decide (c.block.length = g.blocks.length) && decide (c.edge.length = (edges g).length) && !hasNeg c.block

theorem drewN_below2 (w : World) (o o2 : Obj) : Below w.heap.size w ((w.alloc o).alloc o2).drew := (((Below.refl _ _).alloc (Nat.le_refl _) _).alloc (by simp) _).drew
theorem hasNeg_upto {xs : List Int} (h : ∀ j, j < xs.length → decide (xs[j]?.getD 0 < 0) = false) : hasNeg xs = false := by
  unfold hasNeg
  rw [List.any_eq_false]
  intro x hx
  obtain ⟨i, hi, rfl⟩ := List.getElem_of_mem hx
  have := h i hi
  simpa [hi] using this
theorem hasNeg_at {xs : List Int} {k : Nat} (hk : k < xs.length) (h : xs[k]?.getD 0 < 0) : hasNeg xs = true := by
  unfold hasNeg
  rw [List.any_eq_true]
  exact ⟨xs[k], List.getElem_mem hk, by simpa [hk] using h⟩

def plan11 : List (Nat × Bool) := [(0, true), (1, false), (2, true), (3, true), (4, true), (5, true), (6, true), (7, true), (8, true), (9, true), (10, true), (11, true), (12, true), (13, true), (14, true), (15, true), (16, true), (17, false), (18, true), (19, true), (20, true)]

set_option maxRecDepth 100000 in
set_option maxHeartbeats 8000000 in
theorem usable_any (w : World) (gv cv : Value) (g : Gr) (c : Cst) (hg : GraphV w gv g) (hc : CostsV w cv c) (hE : validB g = true → (edges g).length ≤ 1048576) :
    Calls Try.prog 11 #[gv, cv] w fun e w' => e = .returned (.bool (usableB g c)) ∧ Below w.heap.size w w' := by
  have HG := Lib.hid hg
  have HC := Lib.hid hc
  obtain ⟨A, ca, B, cb, rfl, hA, hB, hl1, hl2⟩ := hg
  obtain ⟨C, cc, D, cd, rfl, hC, hD, hl3, hl4⟩ := hc
  go_enter Try.func11, Try.ntmps11
  go_wp2
  obtain ⟨wo, hwo⟩ : ∃ wo, wo = (w.alloc (.cells #[.slice A g.blocks.length ca, .slice B g.prev.length cb] 25)).alloc (.cells #[.slice C c.block.length cc, .slice D c.edge.length cd, .int .i64 c.once] 28) := ⟨_, rfl⟩
  have HBO : Hid (Below w.heap.size w wo) := hwo ▸ ((Below.refl _ _).alloc (Nat.le_refl _) _).alloc (by simp) _
  have q0 : wo.cell? ⟨w.heap.size, 0, none⟩ = some (.slice A g.blocks.length ca) := by rw [hwo]; simp
  have q1 : wo.cell? ⟨w.heap.size, 1, none⟩ = some (.slice B g.prev.length cb) := by rw [hwo]; simp
  have q2 : wo.cell? ⟨w.heap.size + 1, 0, none⟩ = some (.slice C c.block.length cc) := by rw [hwo]; simp
  have q3 : wo.cell? ⟨w.heap.size + 1, 1, none⟩ = some (.slice D c.edge.length cd) := by rw [hwo]; simp
  have hsz : w.heap.size + 1 < wo.heap.size := by rw [hwo]; simp
  rw [← hwo]
  have HWO := Lib.hid hwo; clear hwo
  by_cases hv : validB g = true
  case neg =>
    have hv' : validB g = false := by simpa using hv
    have HV := Lib.hid hv'; clear hv hv' hE
    have HU : Hid (usableB g c = false) := by show usableB g c = false; unfold usableB; rw [HV.out]; rfl
    refine wp_region_plan (fun W => Below wo.heap.size wo W) plan11 (by kernel_rfl) (by kernel_rfl) (by kernel_rfl) rfl (Below.refl _ _).drew ?_
    unfold plan11
    refine wpPlan_take rfl (fun K hK => ?_)
    go_simp
    apply Exists.intro
    refine ⟨fun W hW => ?_, hK _ _ ?_⟩
    · have k0 := cell_old hW q0; have k1 := cell_old hW q1; go_simp; try rfl
    clear hK K
    refine wpPlan_sole rfl (fun K hK => ?_)
    go_simp
    refine (valid_any _ _ g ((HG.out.old HBO.out).old (Below.refl _ _).drew)).mono ?_
    rintro e w1 ⟨rfl, hb1⟩; rw [HV.out]
    have hb1' : Below wo.heap.size wo w1 := ((Below.refl _ _).drew).trans hb1
    refine ⟨hb1', hK _ _ ?_⟩; clear hK K
    iterate 15 (refine wpPlan_take rfl (fun K hK => ?_); go_simp; first | (refine hK _ _ ?_; clear hK K) | (refine ⟨_, fun _ _ => rfl, hK _ _ ?_⟩; clear hK K) | (apply Exists.intro; refine ⟨fun W hW => ?_, hK _ _ ?_⟩; (have k0 := cell_old hW q0; have k1 := cell_old hW q1; have k2 := cell_old hW q2; have k3 := cell_old hW q3; go_simp; try rfl); clear hK K))
    refine wpPlan_sole rfl (fun K hK => ?_); go_simp; refine hK _ _ ?_; clear hK K
    iterate 3 (refine wpPlan_take rfl (fun K hK => ?_); go_simp; first | (refine hK _ _ ?_; clear hK K) | (refine ⟨_, fun _ _ => rfl, hK _ _ ?_⟩; clear hK K))
    refine wpPlan_nil ?_
    go_wp2
    go_ret
    exact ⟨ret_b HU.out.symm, HBO.out.trans (hb1'.mono HBO.out.size)⟩
  have HV := Lib.hid hv
  by_cases hbl : c.block.length = g.blocks.length
  case neg =>
    have hd : ((c.block.length : Int) != (g.blocks.length : Int)) = true := by simp; omega
    have HU : Hid (usableB g c = false) := by show usableB g c = false; unfold usableB; rw [HV.out]; simp [hbl]
    clear hv hE hbl
    refine wp_region_plan (fun W => Below wo.heap.size wo W) plan11 (by kernel_rfl) (by kernel_rfl) (by kernel_rfl) rfl (Below.refl _ _).drew ?_
    unfold plan11
    refine wpPlan_take rfl (fun K hK => ?_)
    go_simp
    apply Exists.intro
    refine ⟨fun W hW => ?_, hK _ _ ?_⟩
    · have k0 := cell_old hW q0; have k1 := cell_old hW q1; go_simp; try rfl
    clear hK K
    refine wpPlan_sole rfl (fun K hK => ?_)
    go_simp
    refine (valid_any _ _ g ((HG.out.old HBO.out).old (Below.refl _ _).drew)).mono ?_
    rintro e w1 ⟨rfl, hb1⟩; rw [HV.out]
    have hb1' : Below wo.heap.size wo w1 := ((Below.refl _ _).drew).trans hb1
    refine ⟨hb1', hK _ _ ?_⟩; clear hK K
    iterate 15 (refine wpPlan_take rfl (fun K hK => ?_); go_simp; first | (refine hK _ _ ?_; clear hK K) | (refine ⟨_, fun _ _ => rfl, hK _ _ ?_⟩; clear hK K) | (apply Exists.intro; refine ⟨fun W hW => ?_, hK _ _ ?_⟩; (have k0 := cell_old hW q0; have k1 := cell_old hW q1; have k2 := cell_old hW q2; have k3 := cell_old hW q3; go_simp; try rfl); clear hK K))
    refine wpPlan_sole rfl (fun K hK => ?_); go_simp; refine hK _ _ ?_; clear hK K
    iterate 3 (refine wpPlan_take rfl (fun K hK => ?_); go_simp; first | (refine hK _ _ ?_; clear hK K) | (refine ⟨_, fun _ _ => rfl, hK _ _ ?_⟩; clear hK K) | (apply Exists.intro; refine ⟨fun W hW => ?_, hK _ _ ?_⟩; (have k0 := cell_old hW q0; have k1 := cell_old hW q1; have k2 := cell_old hW q2; have k3 := cell_old hW q3; go_simp; try rfl); clear hK K))
    refine wpPlan_nil ?_
    go_wp2
    go_ret
    exact ⟨ret_b HU.out.symm, HBO.out.trans (hb1'.mono HBO.out.size)⟩
  case pos =>
    have hd : ((c.block.length : Int) != (g.blocks.length : Int)) = false := by simp; omega
    have HBL := Lib.hid hbl
    have hE' := hE hv
    clear hv hE hbl
    refine wp_region_plan (fun W => Below wo.heap.size wo W) plan11 (by kernel_rfl) (by kernel_rfl) (by kernel_rfl) rfl (Below.refl _ _).drew ?_
    unfold plan11
    refine wpPlan_take rfl (fun K hK => ?_)
    go_simp
    apply Exists.intro
    refine ⟨fun W hW => ?_, hK _ _ ?_⟩
    · have k0 := cell_old hW q0; have k1 := cell_old hW q1; go_simp; try rfl
    clear hK K
    refine wpPlan_sole rfl (fun K hK => ?_)
    go_simp
    refine (valid_any _ _ g ((HG.out.old HBO.out).old (Below.refl _ _).drew)).mono ?_
    rintro e w1 ⟨rfl, hb1⟩; rw [HV.out]
    have hb1' : Below wo.heap.size wo w1 := ((Below.refl _ _).drew).trans hb1
    refine ⟨hb1', hK _ _ ?_⟩; clear hK K
    iterate 15 (refine wpPlan_take rfl (fun K hK => ?_); go_simp; first | (refine hK _ _ ?_; clear hK K) | (refine ⟨_, fun _ _ => rfl, hK _ _ ?_⟩; clear hK K) | (apply Exists.intro; refine ⟨fun W hW => ?_, hK _ _ ?_⟩; (have k0 := cell_old hW q0; have k1 := cell_old hW q1; have k2 := cell_old hW q2; have k3 := cell_old hW q3; go_simp; try rfl); clear hK K))
    refine wpPlan_sole rfl (fun K hK => ?_)
    go_simp
    refine (edges_any _ _ g ((HG.out.old HBO.out).old hb1') hE').mono ?_
    rintro e w2 ⟨v, rfl, hown, hb2⟩
    obtain ⟨EA, ec, rfl⟩ := hown.shape
    have hb2' : Below wo.heap.size wo w2 := hb1'.trans (hb2.mono hb1'.size)
    refine ⟨hb2', hK _ _ ?_⟩; clear hK K
    iterate 3 (refine wpPlan_take rfl (fun K hK => ?_); go_simp; first | (refine hK _ _ ?_; clear hK K) | (refine ⟨_, fun _ _ => rfl, hK _ _ ?_⟩; clear hK K) | (apply Exists.intro; refine ⟨fun W hW => ?_, hK _ _ ?_⟩; (have k0 := cell_old hW q0; have k1 := cell_old hW q1; have k2 := cell_old hW q2; have k3 := cell_old hW q3; go_simp; try rfl); clear hK K))
    refine wpPlan_nil ?_
    have hbw : Below w.heap.size w w2 := HBO.out.trans (hb2'.mono HBO.out.size)
    have k2 := cell_old hb2' q2
    have hC2 := hC.old hbw
    clear hb1 hb1' hb2 hb2' q0 q1 q2 q3 hown hA hB hC hD hd hsz
    by_cases hel : c.edge.length = (edges g).length
    case neg =>
      have hd : ((c.edge.length : Int) != ((edges g).length : Int)) = true := by simp; omega
      have HU : Hid (usableB g c = false) := by show usableB g c = false; unfold usableB; rw [HV.out]; simp [hel]
      clear hel
      go_wp2
      go_ret
      exact ⟨ret_b HU.out.symm, hbw⟩
    have hd : ((c.edge.length : Int) != ((edges g).length : Int)) = false := by simp; omega
    have HU : Hid (usableB g c = !hasNeg c.block) := by show usableB g c = _; unfold usableB; rw [HV.out]; simp [hel, HBL.out]
    clear hel
    go_wp2
    go_loopw [31] (fun i wr => ∃ k : Nat, i = .int .i64 k ∧ k ≤ c.block.length ∧ Below w2.heap.size w2 wr ∧ (∀ j, j < k → decide (c.block[j]?.getD 0 < 0) = false)) (fun i _ => c.block.length - (intOf i).toNat)
    case atStart => exact ⟨0, rfl, by omega, Below.refl _ _, by omega⟩
    case round =>
      obtain ⟨k, rfl, hk, hb, heq⟩ := hrel
      have HE := Lib.hid heq; clear heq
      by_cases hlt : k < c.block.length
      · obtain ⟨b1, o1, rfl, h1⟩ := hC2 k hlt
        have g1 := cell_old hb h1
        clear h1
        obtain ⟨t, ht⟩ : ∃ t, t = c.block[k]?.getD 0 := ⟨_, rfl⟩
        rw [← ht] at g1
        have HT := Lib.hid ht; clear ht
        by_cases hneg : t < 0
        · have hdn : decide (t < 0) = true := by simpa using hneg
          have hh : hasNeg c.block = true := hasNeg_at hlt (by rw [← HT.out]; exact hneg)
          have HH := Lib.hid hh
          clear hneg hh
          go_wp2
          go_ret
          exact ⟨ret_b (by rw [HU.out, HH.out]; rfl), hbw.trans (hb.mono hbw.size)⟩
        · have hdn : decide (t < 0) = false := by simpa using hneg
          clear hneg
          go_wp2
          go_roundw
          case rel =>
            refine ⟨k + 1, by go_num, by omega, hb, ?_⟩
            intro j hj
            by_cases e : j = k
            · subst e; rw [← HT.out]; exact hdn
            · exact HE.out j (by omega)
          case measure => simp [intOf]; omega
      · have hh : hasNeg c.block = false := hasNeg_upto (fun j hj => HE.out j (by omega))
        have HH := Lib.hid hh; clear hh
        go_wp2
        go_ret
        exact ⟨ret_b (by rw [HU.out, HH.out]; rfl), hbw.trans (hb.mono hbw.size)⟩
end Go.Proofs.Ytfoimgkgkjhbeaa
