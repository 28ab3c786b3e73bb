/- The walk of bcet's path. -/
import Derived.Test.YtfoimgkgkjhbeaaWC
import Derived.Test.YtfoimgkgkjhbeaaS2
namespace Go.Proofs.Ytfoimgkgkjhbeaa
open Go.RowKit

def srt (l : List Int) : List Int := l.mergeSort fun x y => decide (x ≤ y)
def pathN (S : Srch) (rs : List Rest) : Nat → List Int → Nat → Option (List Int)
  | 0, _, _ => none
  | f + 1, p, b =>
    if (S.g.blocks[b]?.getD default).next.length = 0 then some p else
    match (srt (S.g.blocks[b]?.getD default).next).findIdx? (tightF S rs b) with
    | none => none
    | some k => pathN S rs f (p ++ [(srt (S.g.blocks[b]?.getD default).next)[k]?.getD 0]) ((srt (S.g.blocks[b]?.getD default).next)[k]?.getD 0).toNat

theorem srt_len (l : List Int) : (srt l).length = l.length := List.length_mergeSort l
theorem srt_mem (l : List Int) {j : Nat} (hj : j < (srt l).length) : ∃ i, i < l.length ∧ l[i]?.getD 0 = (srt l)[j]?.getD 0 := by
  have h1 : (srt l)[j] ∈ l := (List.mergeSort_perm l _).mem_iff.1 (List.getElem_mem hj)
  obtain ⟨i, hi, e⟩ := List.getElem_of_mem h1
  exact ⟨i, hi, by simp [hi, hj, e]⟩
theorem OwnL.of_sorted {w : World} {base : Nat} {v : Value} {zs : List Int} (h : w.ownsRow base 3 1 v zs.length ((zs.mergeSort fun x y => decide (x ≤ y)).map (Value.int .i64))) : OwnL encInt w base v (srt zs) := by
  show w.ownsRow base 3 1 v (srt zs).length (encInt.cells (srt zs))
  rw [srt_len, show encInt.cells (srt zs) = (srt zs).map (Value.int .i64) from flatMap_one _ _]
  exact h
theorem OwnL.setOther {P : Program} {α : Type} {E : Enc P α} {w : World} {base : Nat} {v : Value} {l : List α} (h : OwnL E w base v l) {b : Nat} (hb : v.ownBlock ≠ some b) (u : Value) : OwnL E (w.setCell ⟨b, 0, none⟩ u) base v l :=
  World.ownsRow.kept h (grownBy_setCell' w b u) (.inr hb)

theorem boxed_old {W W' : World} {B : Nat} {t : TypeId} {v : Value} (h : Boxed W B t v) (hb : Below W.heap.size W W') : Boxed W' B t v := (hb.block B h.lt).trans h
/-- Where the loop stands. -/
structure PRel (S : Srch) (w : World) (rs : List Rest) (out : List Int) (n f : Nat) (pv : Value) (cb : Nat) (p : List Int) (b : Nat) (wx : World) : Prop where
  own : OwnL encInt wx (w.heap.size + 1) pv p
  box : Boxed wx cb 3 (.int .i64 (b : Int))
  ne : pv.ownBlock ≠ some cb
  hcb : w.heap.size + 1 ≤ cb
  below : Below (w.heap.size + 1) (w.alloc (.cells #[.pointer (some ⟨S.sb, 0, none⟩)] 54)) wx
  hb : b < S.g.blocks.length
  run : pathN S rs f p b = some out
  len : p.length + f ≤ n

def plan22a : List (Nat × Bool) := [(0, true), (1, true), (2, true), (3, true), (4, true), (5, true), (6, true), (7, true), (8, true), (9, true), (10, true)]
def plan22b : List (Nat × Bool) := [(0, true), (1, true), (2, true), (3, true), (4, true), (5, true), (6, true), (7, true), (8, true), (9, false), (10, false), (11, true)]

set_option maxRecDepth 100000 in
set_option maxHeartbeats 4000000 in
theorem path_any (S : Srch) (w0 w : World) (rs : List Rest) (h : SAt S w0 w rs) (ok : ∀ b j, b < S.g.blocks.length → j < (S.g.blocks[b]?.getD default).next.length → ∃ s : Nat, (S.g.blocks[b]?.getD default).next[j]?.getD 0 = (s : Int) ∧ s < S.g.blocks.length ∧ ViaOk S rs b s)
    (hn2 : ∀ b : Nat, (S.g.blocks[b]?.getD default).next.length ≤ 1048576) (hbl : S.g.blocks.length ≤ 1152921504606846976) (h0 : 0 < S.g.blocks.length) (f : Nat) (out : List Int) (hf : pathN S rs f [0] 0 = some out) (hbf : f ≤ 1048576) :
    Calls Try.prog 22 #[.pointer (some ⟨S.sb, 0, none⟩)] w fun e w' => ∃ u, e = .returned u ∧ OwnL encInt w' w.heap.size u out ∧ Below w.heap.size w w' := by
  have HOK := Lib.hid ok; clear ok
  have HN2 := Lib.hid hn2; clear hn2
  have HH := Lib.hid h; clear h
  go_enter Try.func22, Try.ntmps22
  go_wp2
  have hst : PRel S w rs out 1048577 f (.slice (some ⟨w.heap.size + 1, 0, none⟩) 1 1) (w.heap.size + 2) [0] 0 (((w.alloc (.cells #[.pointer (some ⟨S.sb, 0, none⟩)] 54)).alloc (.cells #[.int .i64 0] 3)).alloc (.cells #[.int .i64 0] 3)) := by
    refine ⟨?_, ?_, by simp [Value.ownBlock], by omega, ?_, h0, hf, by simp; omega⟩
    · have := (OwnL.lit1 encInt (w.alloc (.cells #[.pointer (some ⟨S.sb, 0, none⟩)] 54)) (w.heap.size + 1) (0 : Int) (by simp)).alloc (.cells #[.int .i64 0] 3)
      rw [World.size_alloc] at this
      exact this
    · have := Boxed.new ((w.alloc (.cells #[.pointer (some ⟨S.sb, 0, none⟩)] 54)).alloc (.cells #[.int .i64 0] 3)) 3 (.int .i64 0)
      simpa using this
    · exact ((Below.refl _ _).alloc (by simp) _).alloc (by simp) _
  have HST := Lib.hid hst; clear hst
  go_loopg [3, 4] f (fun fu pv cv wx => ∃ (p : List Int) (b cb : Nat), cv = .pointer (some ⟨cb, 0, none⟩) ∧ PRel S w rs out 1048577 fu pv cb p b wx)
  case atStart => exact ⟨[0], 0, w.heap.size + 2, rfl, HST.out⟩
  case round =>
    obtain ⟨p, b, cb, rfl, hR⟩ := hrel
    cases gk with
    | zero => exact absurd hR.run (by simp [pathN])
    | succ fu =>
      have hrun := hR.run
      rw [pathN] at hrun
      have hb := hR.hb
      have hbw : Below w.heap.size w wr := ((Below.refl _ _).alloc (Nat.le_refl _) _).trans (hR.below.mono (by omega))
      have hS := HH.out.old hbw
      obtain ⟨g0, _, _, _, _, _⟩ := hS.cell
      obtain ⟨bb, off, nA, nc, e1, h1, h2, h3, h4, h5⟩ := hS.blks b hb
      have a3 := cell_old hS.below h3
      have hbox := (hR.below.cell (p := ⟨w.heap.size, 0, none⟩) (by simp)).trans (cell_box w _ 54 0 rfl)
      have hcb := hR.box.cell
      have hcf := hR.box.frozen
      have hcl := hR.box.lt
      rw [e1] at g0
      clear h1 h2 h3
      obtain ⟨x, hx⟩ : ∃ x, x = (S.g.blocks[b]?.getD default).next := ⟨_, rfl⟩
      rw [← hx] at a3 h4 h5 hrun
      have HX := Lib.hid hx; clear hx
      have HRUN := Lib.hid hrun; clear hrun
      have HR := Lib.hid hR; clear hR
      have HS := Lib.hid hS; clear hS
      have HE1 := Lib.hid e1; clear e1
      have HBW := Lib.hid hbw; clear hbw
      obtain ⟨xl, hxl⟩ : ∃ xl, xl = x.length := ⟨_, rfl⟩
      rw [← hxl] at a3
      have HXL := Lib.hid hxl; clear hxl
      have lt1 := World.block_lt_of_cell? _ _ a3
      have lt2 := World.block_lt_of_cell? _ _ g0
      simp only at lt1 lt2
      by_cases hnx : xl = 0
      · subst hnx
        rw [if_pos HXL.out.symm] at HRUN
        have hpo : p = out := by simpa using HRUN.out
        subst hpo
        go_wp2
        go_quiet (fail)
        go_wp2
        go_ret
        exact ⟨_, rfl, (HR.out.own.old (drewN_below (Below.refl _ _) _)).base (by omega), drewN_below HBW.out _⟩
      · have hz : decide ((0 : Int) < (xl : Int)) = true := by simp; omega
        rw [if_neg (fun e => hnx (HXL.out.trans e))] at HRUN
        go_wp2
        go_quiet (fail)
        obtain ⟨wd, hwd⟩ : ∃ wd, wd = wr.drewN nq := ⟨_, rfl⟩
        have hbd : Below wr.heap.size wr wd := hwd ▸ drewN_below (Below.refl _ _) _
        rw [← hwd]
        have HBD := Lib.hid hbd; clear hwd
        have b0 := cell_old hbd hbox
        have b1 := cell_old hbd g0
        have b2 := cell_old hbd hcb
        have b3 := cell_old hbd a3
        clear hbd hbox g0 hcb a3 hcf
        go_wp2
        refine wp_region_plan (fun W => Below wd.heap.size wd W) plan22b (by kernel_rfl) (by kernel_rfl) (by kernel_rfl) rfl (Below.refl _ _).drew ?_
        unfold plan22b
        iterate 9 (refine wpPlan_take rfl (fun K hK => ?_); go_simp; first | (refine hK _ _ ?_; clear hK K) | (refine ⟨_, fun _ _ => rfl, hK _ _ ?_⟩; clear hK K) | (apply Exists.intro; refine ⟨fun W hW => ?_, hK _ _ ?_⟩; (have k0 := cell_old hW b0; have k1 := cell_old hW b1; have k2 := cell_old hW b2; have k3 := cell_old hW b3; go_simp; try rfl); clear hK K))
        refine wpPlan_sole rfl (fun K hK => ?_)
        go_simp
        rw [HXL.out]
        refine (values_any _ _ _ _).mono ?_
        rintro e w1 ⟨rfl, hw1⟩
        have hb1 : Below wd.heap.size wd w1 := hw1 ▸ ((Below.refl _ _).drew.alloc (Nat.le_refl _) _)
        have hBs : wd.heap.size < w1.heap.size := by rw [hw1]; simp
        have hbc : w1.cell? ⟨wd.heap.size, 0, none⟩ = some (.slice nA x.length nc) := by rw [hw1]; exact cell_box _ _ 26 0 rfl
        clear hw1
        refine ⟨hb1, hK _ _ ?_⟩; clear hK K
        refine wpPlan_sole rfl (fun K hK => ?_)
        go_simp
        have hw01 : Below w0.heap.size w0 w1 := HS.out.below.trans ((HBD.out.trans (hb1.mono HBD.out.size)).mono HS.out.below.size)
        refine (sorted_in wd.heap.size nc nA x (by have := HN2.out b; rw [← HX.out] at this; exact this) w1 hBs hbc (fun j hj => by obtain ⟨b', o', e', k'⟩ := h4.old hw01 j hj; exact ⟨b', o', e', World.block_lt_of_cell? _ _ k', k'⟩)).mono ?_
        rintro e w2 ⟨v, rfl, hv, hb2⟩
        have hb2' : Below wd.heap.size wd w2 := hb1.trans (hb2.mono hb1.size)
        refine ⟨hb2', hK _ _ ?_⟩; clear hK K
        have hvo : OwnL encInt w2 w1.heap.size v (srt x) := OwnL.of_sorted hv
        obtain ⟨A', c', rfl⟩ := hvo.shape
        iterate 1 (refine wpPlan_take rfl (fun K hK => ?_); go_simp; first | (refine hK _ _ ?_; clear hK K) | (refine ⟨_, fun _ _ => rfl, hK _ _ ?_⟩; clear hK K))
        refine wpPlan_nil ?_
        have hwr2 : Below wr.heap.size wr w2 := HBD.out.trans (hb2'.mono HBD.out.size)
        have hsok : ∀ j, j < (srt x).length → ∃ s : Nat, (srt x)[j]?.getD 0 = (s : Int) ∧ ViaOk S rs b s := fun j hj => by
          obtain ⟨i, hi, e⟩ := srt_mem x hj
          have := HOK.out b i HR.out.hb (by rw [← HX.out]; exact hi)
          rw [← HX.out, e] at this
          obtain ⟨s, h1, _, h2⟩ := this
          exact ⟨s, h1, h2⟩
        have d0 := cell_old hb2' b0
        have d2 := cell_old hb2' b2
        have cI := indexPick_any S w0 w2 rs (HS.out.old hwr2) b w.heap.size cb d0 d2 A' c' (srt x) hvo.ints.1 hvo.ints.2 hsok
        have HCI := Lib.hid cI; clear cI
        have HV := Lib.hid hvo; clear hvo
        have HSOK := Lib.hid hsok; clear hsok
        have HWR2 := Lib.hid hwr2; clear hwr2
        clear hbc hv hb1 hb2 hb2' hw01 b0 b1 b2 b3 hBs
        cases hk : (srt x).findIdx? (tightF S rs b) with
        | none => rw [hk] at HRUN; exact absurd HRUN.out (by simp)
        | some k =>
          have hrn := HRUN.out
          rw [hk] at hrn
          have hkl : k < (srt x).length := (List.findIdx?_eq_some_iff_getElem.1 hk).1
          have hidx : idxF (tightF S rs b) (srt x) = (k : Int) := by unfold idxF; rw [hk]
          rw [hidx] at HCI
          have hst := HSOK.out k hkl
          obtain ⟨s, hs, _⟩ := hst
          have hs2 : s < S.g.blocks.length := by
            obtain ⟨i, hi, e⟩ := srt_mem x hkl
            have := HOK.out b i HR.out.hb (by rw [← HX.out]; exact hi)
            rw [← HX.out, e, hs] at this
            obtain ⟨s', h1, h2, _⟩ := this
            have : s = s' := by omega
            omega
          have hrn' : pathN S rs fu (p ++ [(s : Int)]) s = some out := by
            have : pathN S rs fu (p ++ [(srt x)[k]?.getD 0]) ((srt x)[k]?.getD 0).toNat = some out := hrn
            rw [hs, Int.toNat_natCast] at this; exact this
          have HRN := Lib.hid hrn'; clear hrn hrn'
          obtain ⟨b5, o5, e5, k5⟩ := HV.out.ints.1 k hkl
          rw [hs] at k5
          have HHS := Lib.hid hs; clear hs hidx hk
          subst e5
          have hpl : p.length ≤ 1048576 := by have := HR.out.len; omega
          have d2' := d2
          go_wp2_with (first
            | (go_at_call 31; refine HCI.out.mono ?_; rintro e w3 ⟨rfl, hb3⟩; have m5 := cell_old hb3 k5; have hr3 := HWR2.out.trans (hb3.mono HWR2.out.size); have HR3 := Lib.hid hr3; have hwl : w.heap.size + 1 ≤ wr.heap.size := (by have := HR.out.below.size; simpa using this); have hbe := HR.out.below.trans (hr3.mono hwl); have hwl3 : w.heap.size + 1 ≤ w3.heap.size := (by have := hbe.size; simpa using this); have HBE := Lib.hid hbe; clear hbe; have HB3 := Lib.hid hb3; clear hr3 hb3)
            | (at_builtin; go_must (refine wpl_app1 encInt rfl _ _ rfl rfl (HR.out.own.old HR3.out) (s : Int) rfl rfl (by show _ * 8 ≤ _; omega) (by unfold maxLen; omega) (Nat.le_refl _) hwl3 HBE.out ?_); intro v' w4 hown1 hb4 hgr hloc; obtain ⟨A6, c6, hv'⟩ := hown1.shape; rw [List.length_append, List.length_singleton] at hv'; subst hv'; obtain ⟨b9, o9, e9, l9⟩ := hown1.ints.1 p.length (by simp); rw [show ((p ++ [(s : Int)])[p.length]?.getD 0) = (s : Int) by simp] at l9; subst e9; have lt9 := World.block_lt_of_cell? _ _ l9; simp only at lt9; have hbx4 : Boxed w4 cb 3 (.int .i64 (b : Int)) := (boxed_old HR.out.box HR3.out).kept hgr HR.out.ne.symm; have n2 := hbx4.cell; have HO1 := Lib.hid hown1; have HB4 := Lib.hid hb4; have HG := Lib.hid hgr; have HL := Lib.hid hloc; have HX4 := Lib.hid hbx4; clear hown1 hb4 hgr hloc hbx4))
          go_roundg fu
          case measure => omega
          case rel =>
            refine ⟨p ++ [(s : Int)], s, w4.heap.size, rfl, ?_, ?_, ?_, ?_, ?_, hs2, HRN.out, by simp; have := HR.out.len; omega⟩
            · exact HO1.out.alloc _
            · exact Boxed.new w4 3 (.int .i64 (s : Int))
            · simp [Value.ownBlock]; omega
            · have := HB4.out.size; simpa using this
            · have hz4 : w.heap.size + 1 ≤ w4.heap.size := by have := HB4.out.size; simpa using this
              exact HB4.out.alloc hz4 _
end Go.Proofs.Ytfoimgkgkjhbeaa
