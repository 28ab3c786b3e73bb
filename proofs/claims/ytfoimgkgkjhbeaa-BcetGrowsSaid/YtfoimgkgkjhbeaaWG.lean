/- The walk of the laws' awake: the chapter's example. -/
import Derived.Test.YtfoimgkgkjhbeaaM1
import Derived.Test.YtfoimgkgkjhbeaaWF
namespace Go.Proofs.Ytfoimgkgkjhbeaa
open Go.RowKit

def ex4 : List (List Int) := [[1, 2], [3], [3], []]
def g4 : Gr := ⟨[⟨0, 1, [1, 2]⟩, ⟨1, 2, [3]⟩, ⟨2, 3, [3]⟩, ⟨3, 4, []⟩], [[], [0], [0], [1, 2]]⟩
theorem g4_is : graphOf ex4 = g4 := by
  unfold graphOf g4
  congr 1
def ca4 : Cst := ⟨[1, 5, 2, 1], [0, 4, 0, 0], 0⟩
def cb4 : Cst := ⟨[1, 5, 2, 1], [-1, 4, 0, 0], 0⟩
theorem blocks4 (i : Nat) : ([1, 5, 2, 1] : List Int)[i]?.getD 0 ≤ 1073742079 := by
  have := leMost_get (xs := [1, 5, 2, 1]) (by decide) i
  omega
theorem good_a : GoodIn g4 ca4 := ⟨by decide, rfl, rfl, by decide, by decide, blocks4, by decide⟩
theorem good_b : GoodIn g4 cb4 := ⟨by decide, rfl, rfl, by decide, by decide, blocks4, by decide⟩
theorem found_a {rs : List Rest} (h : Found g4 ca4 rs) : rs = [⟨7, 3, true⟩, ⟨6, 2, true⟩, ⟨3, 2, true⟩, ⟨1, 1, true⟩] := by
  obtain ⟨f, hf⟩ := h.run
  exact relaxN_det hf (k := 5) (by decide)
theorem found_b {rs : List Rest} (h : Found g4 cb4 rs) : rs = [⟨8, 3, true⟩, ⟨6, 2, true⟩, ⟨3, 2, true⟩, ⟨1, 1, true⟩] := by
  obtain ⟨f, hf⟩ := h.run
  exact relaxN_det hf (k := 5) (by decide)
theorem srt_of_sorted {l : List Int} (h : l.Pairwise fun a b => a ≤ b) : srt l = l := List.mergeSort_of_pairwise (h.imp (fun h => by simpa using h))
theorem path_a : fullPath g4 ca4 [⟨7, 3, true⟩, ⟨6, 2, true⟩, ⟨3, 2, true⟩, ⟨1, 1, true⟩] = [0, 1, 3] := by
  have e0 : srt (nextOf g4 0) = [1, 2] := srt_of_sorted (by decide)
  have e1 : srt (nextOf g4 1) = [3] := srt_of_sorted (by decide)
  have f0 : ([1, 2] : List Int).findIdx? (tightG g4 ca4 [⟨7, 3, true⟩, ⟨6, 2, true⟩, ⟨3, 2, true⟩, ⟨1, 1, true⟩] 0) = some 0 := by decide
  have f1 : ([3] : List Int).findIdx? (tightG g4 ca4 [⟨7, 3, true⟩, ⟨6, 2, true⟩, ⟨3, 2, true⟩, ⟨1, 1, true⟩] 1) = some 0 := by decide
  show 0 :: pathP g4 ca4 [⟨7, 3, true⟩, ⟨6, 2, true⟩, ⟨3, 2, true⟩, ⟨1, 1, true⟩] (0 + 1 + 1 + 1) 0 = _
  rw [pathP, if_neg (by decide), e0, f0]
  show 0 :: 1 :: pathP g4 ca4 [⟨7, 3, true⟩, ⟨6, 2, true⟩, ⟨3, 2, true⟩, ⟨1, 1, true⟩] (0 + 1 + 1) 1 = _
  rw [pathP, if_neg (by decide), e1, f1]
  show 0 :: 1 :: 3 :: pathP g4 ca4 [⟨7, 3, true⟩, ⟨6, 2, true⟩, ⟨3, 2, true⟩, ⟨1, 1, true⟩] (0 + 1) 3 = _
  rw [pathP, if_pos (by decide)]
theorem path_b : fullPath g4 cb4 [⟨8, 3, true⟩, ⟨6, 2, true⟩, ⟨3, 2, true⟩, ⟨1, 1, true⟩] = [0, 2, 3] := by
  have e0 : srt (nextOf g4 0) = [1, 2] := srt_of_sorted (by decide)
  have e1 : srt (nextOf g4 2) = [3] := srt_of_sorted (by decide)
  have f0 : ([1, 2] : List Int).findIdx? (tightG g4 cb4 [⟨8, 3, true⟩, ⟨6, 2, true⟩, ⟨3, 2, true⟩, ⟨1, 1, true⟩] 0) = some 1 := by decide
  have f1 : ([3] : List Int).findIdx? (tightG g4 cb4 [⟨8, 3, true⟩, ⟨6, 2, true⟩, ⟨3, 2, true⟩, ⟨1, 1, true⟩] 2) = some 0 := by decide
  show 0 :: pathP g4 cb4 [⟨8, 3, true⟩, ⟨6, 2, true⟩, ⟨3, 2, true⟩, ⟨1, 1, true⟩] (0 + 1 + 1 + 1) 0 = _
  rw [pathP, if_neg (by decide), e0, f0]
  show 0 :: 2 :: pathP g4 cb4 [⟨8, 3, true⟩, ⟨6, 2, true⟩, ⟨3, 2, true⟩, ⟨1, 1, true⟩] (0 + 1 + 1) 2 = _
  rw [pathP, if_neg (by decide), e1, f1]
  show 0 :: 2 :: 3 :: pathP g4 cb4 [⟨8, 3, true⟩, ⟨6, 2, true⟩, ⟨3, 2, true⟩, ⟨1, 1, true⟩] (0 + 1) 3 = _
  rw [pathP, if_pos (by decide)]

theorem IntsAt.lit (w : World) (xs : List Int) {cs : Array Value} (h : cs = (intVals xs).toArray) : IntsAt (w.alloc (.cells cs 3)) (some ⟨w.heap.size, 0, none⟩) xs := by
  subst h
  have hr : IntRow (w.alloc (.cells (intVals xs).toArray 3)) w.heap.size xs := heap_alloc_new w _
  intro i hi
  exact ⟨_, 0, rfl, by rw [Nat.zero_add]; exact (hr.cell i hi).1⟩
theorem ex4_rows (w : World) : RowsV ((((w.alloc (.cells #[.int .i64 1, .int .i64 2] 3)).alloc (.cells #[.int .i64 3] 3)).alloc (.cells #[.int .i64 3] 3)).alloc (.cells #[.slice (some ⟨w.heap.size, 0, none⟩) 2 2, .slice (some ⟨w.heap.size + 1, 0, none⟩) 1 1, .slice (some ⟨w.heap.size + 1 + 1, 0, none⟩) 1 1, .slice none 0 0] 26)) (.slice (some ⟨w.heap.size + 1 + 1 + 1, 0, none⟩) 4 4) ex4 := by
  have i0 := ((((IntsAt.lit w [1, 2] (cs := #[.int .i64 1, .int .i64 2]) rfl).old ((Below.refl _ _).alloc (Nat.le_refl _) (.cells #[.int .i64 3] 3))).old ((Below.refl _ _).alloc (Nat.le_refl _) (.cells #[.int .i64 3] 3))).old ((Below.refl _ _).alloc (Nat.le_refl _) (.cells #[.slice (some ⟨w.heap.size, 0, none⟩) 2 2, .slice (some ⟨w.heap.size + 1, 0, none⟩) 1 1, .slice (some ⟨w.heap.size + 1 + 1, 0, none⟩) 1 1, .slice none 0 0] 26)))
  have i1 := (((IntsAt.lit (w.alloc (.cells #[.int .i64 1, .int .i64 2] 3)) [3] (cs := #[.int .i64 3]) rfl).old ((Below.refl _ _).alloc (Nat.le_refl _) (.cells #[.int .i64 3] 3))).old ((Below.refl _ _).alloc (Nat.le_refl _) (.cells #[.slice (some ⟨w.heap.size, 0, none⟩) 2 2, .slice (some ⟨w.heap.size + 1, 0, none⟩) 1 1, .slice (some ⟨w.heap.size + 1 + 1, 0, none⟩) 1 1, .slice none 0 0] 26)))
  have i2 := ((IntsAt.lit ((w.alloc (.cells #[.int .i64 1, .int .i64 2] 3)).alloc (.cells #[.int .i64 3] 3)) [3] (cs := #[.int .i64 3]) rfl).old ((Below.refl _ _).alloc (Nat.le_refl _) (.cells #[.slice (some ⟨w.heap.size, 0, none⟩) 2 2, .slice (some ⟨w.heap.size + 1, 0, none⟩) 1 1, .slice (some ⟨w.heap.size + 1 + 1, 0, none⟩) 1 1, .slice none 0 0] 26)))
  rw [World.size_alloc] at i1
  rw [World.size_alloc, World.size_alloc] at i2
  obtain ⟨cs, hcs⟩ : ∃ cs : Array Value, cs = #[.slice (some ⟨w.heap.size, 0, none⟩) 2 2, .slice (some ⟨w.heap.size + 1, 0, none⟩) 1 1, .slice (some ⟨w.heap.size + 1 + 1, 0, none⟩) 1 1, .slice none 0 0] := ⟨_, rfl⟩
  rw [← hcs] at i0 i1 i2 ⊢
  obtain ⟨w3, hw3⟩ : ∃ w3, w3 = ((w.alloc (.cells #[.int .i64 1, .int .i64 2] 3)).alloc (.cells #[.int .i64 3] 3)).alloc (.cells #[.int .i64 3] 3) := ⟨_, rfl⟩
  have hs : w3.heap.size = w.heap.size + 1 + 1 + 1 := by rw [hw3]; simp
  rw [← hw3] at i0 i1 i2 ⊢
  have hc : ∀ i v, cs[i]? = some v → (w3.alloc (.cells cs 26)).cell? ⟨w.heap.size + 1 + 1 + 1, i, none⟩ = some v := by
    intro i v h
    have := cell_box w3 cs 26 i h
    rw [hs] at this
    exact this
  refine ⟨_, _, rfl, ?_, by decide⟩
  intro i hi
  have hi4 : i < 4 := hi
  match i, hi4 with
  | 0, _ => exact ⟨_, 0, _, _, rfl, by rw [Nat.zero_add]; exact hc 0 _ (by rw [hcs]; rfl), i0, by decide⟩
  | 1, _ => exact ⟨_, 0, _, _, rfl, by rw [Nat.zero_add]; exact hc 1 _ (by rw [hcs]; rfl), i1, by decide⟩
  | 2, _ => exact ⟨_, 0, _, _, rfl, by rw [Nat.zero_add]; exact hc 2 _ (by rw [hcs]; rfl), i2, by decide⟩
  | 3, _ => exact ⟨_, 0, none, 0, rfl, by rw [Nat.zero_add]; exact hc 3 _ (by rw [hcs]; rfl), fun j hj => absurd hj (by show ¬ j < 0; omega), by decide⟩
theorem ex4_len (i : Nat) : (ex4[i]?.getD []).length ≤ 1000 := by
  match i with
  | 0 => decide
  | 1 => decide
  | 2 => decide
  | 3 => decide
  | n + 4 => simp [ex4]
theorem below_lits4 (w : World) (a b c d : Obj) : Below w.heap.size w ((((w.alloc a).alloc b).alloc c).alloc d) := ((((Below.refl _ _).alloc (Nat.le_refl _) _).alloc (by simp) _).alloc (by simp; omega) _).alloc (by simp; omega) _
theorem costs_lit (w : World) (x0 x1 x2 x3 y0 y1 y2 y3 : Int) : CostsV ((w.alloc (.cells #[.int .i64 x0, .int .i64 x1, .int .i64 x2, .int .i64 x3] 3)).alloc (.cells #[.int .i64 y0, .int .i64 y1, .int .i64 y2, .int .i64 y3] 3))
    (.agg #[.slice (some ⟨w.heap.size, 0, none⟩) 4 4, .slice (some ⟨w.heap.size + 1, 0, none⟩) 4 4, .int .i64 0]) ⟨[x0, x1, x2, x3], [y0, y1, y2, y3], 0⟩ := by
  have i0 := (IntsAt.lit w [x0, x1, x2, x3] (cs := #[.int .i64 x0, .int .i64 x1, .int .i64 x2, .int .i64 x3]) rfl).old ((Below.refl _ _).alloc (Nat.le_refl _) (.cells #[.int .i64 y0, .int .i64 y1, .int .i64 y2, .int .i64 y3] 3))
  have i1 := IntsAt.lit (w.alloc (.cells #[.int .i64 x0, .int .i64 x1, .int .i64 x2, .int .i64 x3] 3)) [y0, y1, y2, y3] (cs := #[.int .i64 y0, .int .i64 y1, .int .i64 y2, .int .i64 y3]) rfl
  rw [World.size_alloc] at i1
  exact ⟨_, 4, _, 4, rfl, i0, i1, by simp, by simp⟩
theorem below_lits2 (w : World) (a b : Obj) : Below w.heap.size w ((w.alloc a).alloc b) := ((Below.refl _ _).alloc (Nat.le_refl _) _).alloc (by simp) _
theorem OwnL.intsV {w : World} {base : Nat} {v : Value} {xs : List Int} (h : OwnL encInt w base v xs) : IntsV w v xs := by
  obtain ⟨A, c, rfl⟩ := h.shape
  exact ⟨A, c, rfl, h.ints.1, h.ints.2⟩
theorem ints3 (w : World) (x0 x1 x2 : Int) : IntsV (w.alloc (.cells #[.int .i64 x0, .int .i64 x1, .int .i64 x2] 3)) (.slice (some ⟨w.heap.size, 0, none⟩) 3 3) [x0, x1, x2] :=
  ⟨_, 3, rfl, IntsAt.lit w [x0, x1, x2] (cs := #[.int .i64 x0, .int .i64 x1, .int .i64 x2]) rfl, by simp⟩

set_option maxRecDepth 100000 in
set_option maxHeartbeats 4000000 in
theorem awake_any (w : World) : Calls Try.prog 8 #[] w fun e w' => e = .returned (.bool true) ∧ Below w.heap.size w w' := by
  obtain ⟨ra, hfa⟩ := found good_a
  obtain ⟨rb, hfb⟩ := found good_b
  have HFA : Hid (∀ (w : World) (gv cv : Value), GraphV w gv g4 → CostsV w cv ca4 → Calls Try.prog 10 #[gv, cv] w fun e w' => ∃ u, e = .returned (.tuple #[.int .i64 7, u, .bool true]) ∧ OwnL encInt w' w.heap.size u [0, 1, 3] ∧ Below w.heap.size w w') := by
    show ∀ (w : World) (gv cv : Value), GraphV w gv g4 → CostsV w cv ca4 → Calls Try.prog 10 #[gv, cv] w fun e w' => ∃ u, e = .returned (.tuple #[.int .i64 7, u, .bool true]) ∧ OwnL encInt w' w.heap.size u [0, 1, 3] ∧ Below w.heap.size w w'
    intro w gv cv h1 h2
    have := shortest_is good_a hfa w gv cv h1 h2
    rw [found_a hfa, path_a] at this
    exact this
  have HFB : Hid (∀ (w : World) (gv cv : Value), GraphV w gv g4 → CostsV w cv cb4 → Calls Try.prog 10 #[gv, cv] w fun e w' => ∃ u, e = .returned (.tuple #[.int .i64 8, u, .bool true]) ∧ OwnL encInt w' w.heap.size u [0, 2, 3] ∧ Below w.heap.size w w') := by
    show ∀ (w : World) (gv cv : Value), GraphV w gv g4 → CostsV w cv cb4 → Calls Try.prog 10 #[gv, cv] w fun e w' => ∃ u, e = .returned (.tuple #[.int .i64 8, u, .bool true]) ∧ OwnL encInt w' w.heap.size u [0, 2, 3] ∧ Below w.heap.size w w'
    intro w gv cv h1 h2
    have := shortest_is good_b hfb w gv cv h1 h2
    rw [found_b hfb, path_b] at this
    exact this
  clear hfa hfb
  go_enter Try.func8, Try.ntmps8
  go_upto_region 2 with (go_at_call 18; refine (graph_any _ _ ex4 (ex4_rows _) (by decide) ex4_len).mono ?_; rintro e w1 ⟨u, rfl, hg, hb1⟩; rw [g4_is] at hg; have HG := Lib.hid hg; obtain ⟨A, ca, B, cb, rfl, _, _, _, _⟩ := hg; have HB1 := Lib.hid ((below_lits4 w _ _ _ _).trans (hb1.mono (below_lits4 w _ _ _ _).size)); clear hb1)
  obtain ⟨wA, hwA⟩ : ∃ wA, wA = w1.alloc (.cells #[.slice A g4.blocks.length ca, .slice B g4.prev.length cb] 25) := ⟨_, rfl⟩
  have hbA : Below w1.heap.size w1 wA := hwA ▸ (Below.refl _ _).alloc (Nat.le_refl _) _
  have HGA := Lib.hid (HG.out.old hbA)
  have HBA := Lib.hid (HB1.out.trans (hbA.mono HB1.out.size))
  have q0 : wA.cell? ⟨w1.heap.size, 0, none⟩ = some (.slice A g4.blocks.length ca) := by rw [hwA]; exact cell_box _ _ 25 0 rfl
  have q1 : wA.cell? ⟨w1.heap.size, 1, none⟩ = some (.slice B g4.prev.length cb) := by rw [hwA]; exact cell_box _ _ 25 1 rfl
  have hl1 : w1.heap.size < wA.heap.size := by rw [hwA]; simp
  rw [← hwA]
  clear hwA hbA
  go_upto_region 3 with (go_at_call 10; refine (HFA.out _ _ _ (HGA.out.old (below_lits2 _ _ _)) (costs_lit _ 1 5 2 1 0 4 0 0)).mono ?_; rintro e w2 ⟨ua, rfl, howna, hb2⟩; have hb2' := (below_lits2 wA _ _).trans (hb2.mono (below_lits2 wA _ _).size); have HOA := Lib.hid howna; have HB2 := Lib.hid hb2'; clear howna hb2 hb2')
  have r0 := cell_old HB2.out q0
  have r1 := cell_old HB2.out q1
  have HG2 := Lib.hid (HGA.out.old HB2.out)
  have HBB := Lib.hid (HBA.out.trans (HB2.out.mono HBA.out.size))
  clear q0 q1
  go_upto_region 4 with (go_at_call 10; refine (HFB.out _ _ _ (HG2.out.old (below_lits2 _ _ _)) (costs_lit _ 1 5 2 1 (-1) 4 0 0)).mono ?_; rintro e w3 ⟨ub, rfl, hownb, hb3⟩; have hb3' := (below_lits2 w2 _ _).trans (hb3.mono (below_lits2 w2 _ _).size); have HOB := Lib.hid hownb; have HB3 := Lib.hid hb3'; clear hownb hb3 hb3')
  have HBC := Lib.hid (HBB.out.trans (HB3.out.mono HBB.out.size))
  have HIA : Hid (IntsV w3 ua [0, 1, 3]) := (HOA.out.old HB3.out).intsV
  have HIB : Hid (IntsV w3 ub [0, 2, 3]) := HOB.out.intsV
  clear r0 r1
  have cI1 : Calls Try.prog 13 #[ua, .slice (some ⟨w3.heap.size, 0, none⟩) 3 3] (w3.alloc (.cells #[.int .i64 0, .int .i64 1, .int .i64 3] 3)) fun e w' => e = .returned (.bool true) ∧ Below w3.heap.size w3 w' :=
    (ints_any _ _ _ [0, 1, 3] [0, 1, 3] (HIA.out.old ((Below.refl _ _).alloc (Nat.le_refl _) _)) (ints3 _ 0 1 3)).mono fun e w' h => ⟨h.1, ((Below.refl _ _).alloc (Nat.le_refl _) _).trans (h.2.mono (by simp))⟩
  have cI2 : Hid (∀ w4, Below w3.heap.size w3 w4 → Calls Try.prog 13 #[ub, .slice (some ⟨w4.heap.size, 0, none⟩) 3 3] (w4.alloc (.cells #[.int .i64 0, .int .i64 2, .int .i64 3] 3)) fun e w' => e = .returned (.bool true) ∧ Below w4.heap.size w4 w') := by
    show ∀ w4, Below w3.heap.size w3 w4 → Calls Try.prog 13 #[ub, .slice (some ⟨w4.heap.size, 0, none⟩) 3 3] (w4.alloc (.cells #[.int .i64 0, .int .i64 2, .int .i64 3] 3)) fun e w' => e = .returned (.bool true) ∧ Below w4.heap.size w4 w'
    intro w4 hb4
    exact (ints_any _ _ _ [0, 2, 3] [0, 2, 3] ((HIB.out.old hb4).old ((Below.refl _ _).alloc (Nat.le_refl _) _)) (ints3 _ 0 2 3)).mono fun e w' h => ⟨h.1, ((Below.refl _ _).alloc (Nat.le_refl _) _).trans (h.2.mono (by simp))⟩
  have HI1 := Lib.hid cI1; clear cI1 HIA HIB
  go_wp2_with (go_at_call 13; first
    | (refine HI1.out.mono ?_; clear HI1; rintro e w4 ⟨rfl, hb4⟩; have HB4 := Lib.hid hb4; have cI3 := cI2.out _ hb4; have HI3 := Lib.hid cI3; clear cI3 hb4)
    | (go_must (refine HI3.out.mono ?_); clear HI3; rintro e w5 ⟨rfl, hb5⟩; have HB5 := Lib.hid hb5; clear hb5))
  go_ret
  exact ⟨rfl, HBC.out.trans ((HB4.out.trans (HB5.out.mono HB4.out.size)).mono HBC.out.size)⟩
end Go.Proofs.Ytfoimgkgkjhbeaa
