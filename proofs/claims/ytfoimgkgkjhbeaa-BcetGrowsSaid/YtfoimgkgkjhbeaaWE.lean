/- The walk of bcet.Shortest. -/
import Derived.Test.YtfoimgkgkjhbeaaWA
import Derived.Test.YtfoimgkgkjhbeaaWD
import Derived.Test.YtfoimgkgkjhbeaaB4
namespace Go.Proofs.Ytfoimgkgkjhbeaa
open Go.RowKit

set_option maxRecDepth 100000 in
set_option maxHeartbeats 4000000 in
theorem shortest_bad (w : World) (gv cv : Value) (g : Gr) (c : Cst) (hg : GraphV w gv g) (hc : CostsV w cv c) (hE : (edges g).length ≤ 1048576) (hu : usableB g c = false) :
    Calls Try.prog 10 #[gv, cv] w fun e w' => e = .returned (.tuple #[.int .i64 0, .slice none 0 0, .bool false]) ∧ Below w.heap.size w w' := by
  have HG := Lib.hid hg
  obtain ⟨A, ca, B, cb, rfl, hA, hB, hl1, hl2⟩ := hg
  obtain ⟨C, cc, D, cd, rfl, hC, hD, hl3, hl4⟩ := hc
  have HA := Lib.hid hA; have HB := Lib.hid hB; have HC := Lib.hid hC; have HD := Lib.hid hD
  clear hA hB hC hD
  obtain ⟨vb, hvb⟩ : ∃ vb, vb = validB g := ⟨_, rfl⟩
  have HVB := Lib.hid hvb; clear hvb
  obtain ⟨nb, hnb⟩ : ∃ nb, nb = hasNeg c.block := ⟨_, rfl⟩
  have HNB := Lib.hid hnb; clear hnb
  have HU := Lib.hid hu; clear hu
  go_enter Try.func10, Try.ntmps10
  go_upto_region 1 with fail
  obtain ⟨wo, hwo⟩ : ∃ wo, wo = (w.alloc (.cells #[.slice A g.blocks.length ca, .slice B g.prev.length cb] 25)).alloc (.cells #[.slice C c.block.length cc, .slice D c.edge.length cd, .int .i64 c.once] 28) := ⟨_, rfl⟩
  have HBO : Hid (Below w.heap.size w wo) := hwo ▸ ((Below.refl _ _).alloc (Nat.le_refl _) _).alloc (by simp) _
  have q0 : wo.cell? ⟨w.heap.size, 0, none⟩ = some (.slice A g.blocks.length ca) := by rw [hwo]; simp
  have q1 : wo.cell? ⟨w.heap.size, 1, none⟩ = some (.slice B g.prev.length cb) := by rw [hwo]; simp
  have q2 : wo.cell? ⟨w.heap.size + 1, 0, none⟩ = some (.slice C c.block.length cc) := by rw [hwo]; simp
  have q3 : wo.cell? ⟨w.heap.size + 1, 1, none⟩ = some (.slice D c.edge.length cd) := by rw [hwo]; simp
  rw [← hwo]
  have HWO := Lib.hid hwo; clear hwo
  cases vb with
  | false =>
    go_wp2_with (first
      | (go_at_call 14; refine (edges_any _ _ g (HG.out.old HBO.out) hE).mono ?_; rintro e w2 ⟨v, rfl, hown, hb2⟩; have hbw := HBO.out.trans (hb2.mono HBO.out.size); have c0 := cell_old hb2 q0; have c1 := cell_old hb2 q1; have c2 := cell_old hb2 q2; have c3 := cell_old hb2 q3; have HBW := Lib.hid hbw; clear hbw hown hb2)
      | (go_at_call 17; go_must (refine (valid_any _ _ g (HG.out.old HBW.out)).mono ?_); rintro e w3 ⟨rfl, hb3⟩; rw [← HVB.out]; have d0 := cell_old hb3 c0; have d1 := cell_old hb3 c1; have d2 := cell_old hb3 c2; have d3 := cell_old hb3 c3; have HBX := Lib.hid (HBW.out.trans (hb3.mono HBW.out.size)); clear hb3))
    go_ret3
    exact ⟨rfl, HBX.out⟩
  | true =>
    obtain ⟨bb, hbb⟩ : ∃ bb, bb = ((c.block.length : Int) != (g.blocks.length : Int)) := ⟨_, rfl⟩
    obtain ⟨eb, heb⟩ : ∃ eb, eb = ((c.edge.length : Int) != ((edges g).length : Int)) := ⟨_, rfl⟩
    have hor : bb = true ∨ (bb = false ∧ eb = true) ∨ (bb = false ∧ eb = false ∧ nb = true) := by
      have h := HU.out
      unfold usableB at h
      rw [← HVB.out, ← HNB.out] at h
      by_cases e1 : c.block.length = g.blocks.length
      · right
        by_cases e2 : c.edge.length = (edges g).length
        · right; refine ⟨by rw [hbb, e1]; simp, by rw [heb, e2]; simp, ?_⟩
          simpa [e1, e2] using h
        · left; refine ⟨by rw [hbb, e1]; simp, by rw [heb]; simp; omega⟩
      · left; rw [hbb]; simp; omega
    rcases hor with rfl | ⟨rfl, rfl⟩ | ⟨rfl, rfl, rfl⟩
    · have hd := hbb.symm
      clear hbb heb
      go_wp2_with (first
        | (go_at_call 14; refine (edges_any _ _ g (HG.out.old HBO.out) hE).mono ?_; rintro e w2 ⟨v, rfl, hown, hb2⟩; have hbw := HBO.out.trans (hb2.mono HBO.out.size); have c0 := cell_old hb2 q0; have c1 := cell_old hb2 q1; have c2 := cell_old hb2 q2; have c3 := cell_old hb2 q3; have HBW := Lib.hid hbw; clear hbw hown hb2)
        | (go_at_call 17; go_must (refine (valid_any _ _ g (HG.out.old HBW.out)).mono ?_); rintro e w3 ⟨rfl, hb3⟩; rw [← HVB.out]; have d0 := cell_old hb3 c0; have d1 := cell_old hb3 c1; have d2 := cell_old hb3 c2; have d3 := cell_old hb3 c3; have HBX := Lib.hid (HBW.out.trans (hb3.mono HBW.out.size)); clear hb3))
      go_ret3
      exact ⟨rfl, HBX.out⟩
    · have hd := hbb.symm
      have hd2 := heb.symm
      clear hbb heb
      go_wp2_with (first
        | (go_at_call 14; refine (edges_any _ _ g (HG.out.old HBO.out) hE).mono ?_; rintro e w2 ⟨v, rfl, hown, hb2⟩; obtain ⟨EA, ec, rfl⟩ := hown.shape; have hbw := HBO.out.trans (hb2.mono HBO.out.size); have c0 := cell_old hb2 q0; have c1 := cell_old hb2 q1; have c2 := cell_old hb2 q2; have c3 := cell_old hb2 q3; have HBW := Lib.hid hbw; clear hbw hown hb2)
        | (go_at_call 17; go_must (refine (valid_any _ _ g (HG.out.old HBW.out)).mono ?_); rintro e w3 ⟨rfl, hb3⟩; rw [← HVB.out]; have d0 := cell_old hb3 c0; have d1 := cell_old hb3 c1; have d2 := cell_old hb3 c2; have d3 := cell_old hb3 c3; have HBX := Lib.hid (HBW.out.trans (hb3.mono HBW.out.size)); clear hb3))
      go_ret3
      exact ⟨rfl, HBX.out⟩
    · have hd := hbb.symm
      have hd2 := heb.symm
      clear hbb heb
      go_wp2_with (first
        | (go_at_call 14; refine (edges_any _ _ g (HG.out.old HBO.out) hE).mono ?_; rintro e w2 ⟨v, rfl, hown, hb2⟩; obtain ⟨EA, ec, rfl⟩ := hown.shape; have hbw := HBO.out.trans (hb2.mono HBO.out.size); have c0 := cell_old hb2 q0; have c1 := cell_old hb2 q1; have c2 := cell_old hb2 q2; have c3 := cell_old hb2 q3; have HBW := Lib.hid hbw; clear hbw hown hb2)
        | (go_at_call 17; go_must (refine (valid_any _ _ g (HG.out.old HBW.out)).mono ?_); rintro e w3 ⟨rfl, hb3⟩; rw [← HVB.out]; have d0 := cell_old hb3 c0; have d1 := cell_old hb3 c1; have d2 := cell_old hb3 c2; have d3 := cell_old hb3 c3; have HBX := Lib.hid (HBW.out.trans (hb3.mono HBW.out.size)); clear hb3)
        | (go_at_call 19; go_must (refine (containsNeg_any _ _ c.block ⟨C, cc, rfl, HC.out.old HBX.out, hl3⟩).mono ?_); rintro e w4 ⟨rfl, hb4⟩; rw [← HNB.out]; have HBY := Lib.hid (HBX.out.trans (hb4.mono HBX.out.size)); clear hb4))
      go_ret3
      exact ⟨rfl, HBY.out⟩

def putAll : List (Int × Int) → Nat → List ((Int × Int) × Int) → List ((Int × Int) × Int)
  | [], _, l => l
  | e :: es, k, l => putAll es (k + 1) (aput l e (k : Int))
theorem putAll_snoc (es : List (Int × Int)) (e : Int × Int) (k : Nat) (l : List ((Int × Int) × Int)) : putAll (es ++ [e]) k l = aput (putAll es k l) e ((k + es.length : Nat) : Int) := by
  induction es generalizing k l with
  | nil => simp [putAll]
  | cons x es ih => simp only [List.cons_append, putAll, ih, List.length_cons]; rw [show k + 1 + es.length = k + (es.length + 1) by omega]
theorem Try.info59 : (Try.prog.info? 59).map (fun i => (i.zero, i.size, i.bytes)) = some (some (.agg #[.int .i64 0, .int .i64 0, .bool false]), 3, 24) := by kernel_rfl
theorem restCells_made (n : Nat) : madeCells #[.int .i64 0, .int .i64 0, .bool false] (n * 3) = (restCells (List.replicate n default)).toArray := by
  apply Array.ext
  · simp [madeCells, restCells_len]
  · intro i h1 h2
    have hi : i < n * 3 := by simpa [madeCells] using h1
    have hk : i / 3 < (List.replicate n (default : Rest)).length := by simp; omega
    obtain ⟨e0, e1, e2⟩ := restCells_at (List.replicate n default) (i / 3) hk
    have hr : (List.replicate n (default : Rest))[i / 3]?.getD default = default := by simp at hk; simp [hk]
    rw [hr] at e0 e1 e2
    have hm : i % 3 = 0 ∨ i % 3 = 1 ∨ i % 3 = 2 := by omega
    have hx : (restCells (List.replicate n default))[i]? = some ((#[Value.int .i64 0, .int .i64 0, .bool false])[i % 3]?.getD undef) := by
      rcases hm with hm | hm | hm
      · rw [show i / 3 * 3 = i by omega] at e0; rw [e0, hm]; rfl
      · rw [show i / 3 * 3 + 1 = i by omega] at e1; rw [e1, hm]; rfl
      · rw [show i / 3 * 3 + 2 = i by omega] at e2; rw [e2, hm]; rfl
    have hy : (restCells (List.replicate n default)).toArray[i]? = some ((#[Value.int .i64 0, .int .i64 0, .bool false])[i % 3]?.getD undef) := by simpa using hx
    rw [Array.getElem?_eq_getElem h2] at hy
    have hz := Option.some.inj hy
    rw [hz]
    rcases hm with hm | hm | hm <;> simp [madeCells, hm]
def mkS (w : World) (sb mb rb : Nat) (A : Option Addr) (ca : Nat) (B : Option Addr) (cb : Nat) (C : Option Addr) (cc : Nat) (D : Option Addr) (cd : Nat) (g : Gr) (c : Cst) (idx : List ((Int × Int) × Int)) : Srch :=
  { sb := sb, mb := mb, rb := rb, A1 := A, c1 := ca, A2 := B, c2 := cb, A3 := C, c3 := cc, A4 := D, c4 := cd, once := c.once, g := g, cb := c.block, ce := c.edge, idx := idx }
theorem SAt.made1 {w w4 : World} {A : Option Addr} {ca : Nat} {B : Option Addr} {cb : Nat} {C : Option Addr} {cc : Nat} {D : Option Addr} {cd : Nat} {g : Gr} {c : Cst} (hb : Below w.heap.size w w4) (hA : BlksAt w A g.blocks) (hC : IntsAt w C c.block) (hD : IntsAt w D c.edge) :
    SAt (mkS w (w4.heap.size + 1 + 1) w4.heap.size (w4.heap.size + 1) A ca B cb C cc D cd g c []) w
      (((w4.alloc (.map #[] 0)).alloc (.cells (restCells (List.replicate g.blocks.length default)).toArray 59)).alloc (.cells #[.slice A g.blocks.length ca, .slice B g.prev.length cb, .slice C c.block.length cc, .slice D c.edge.length cd, .int .i64 c.once, .map (some w4.heap.size), .slice (some ⟨w4.heap.size + 1, 0, none⟩) g.blocks.length g.blocks.length] 57)).drew
      (List.replicate g.blocks.length default) := by
  have hsz := hb.size
  refine ⟨?_, ?_, ?_, ?_, hA, hC, hD, (((hb.alloc hsz _).alloc (by simp; omega) _).alloc (by simp; omega) _).drew, by show _ ≤ w4.heap.size + 1 + 1; omega, hsz, by show _ ≤ w4.heap.size + 1; omega, by show w4.heap.size + 1 + 1 ≠ w4.heap.size + 1; omega⟩
  · show (World.alloc _ _).heap[w4.heap.size + 1 + 1]? = _
    have := heap_alloc_new ((w4.alloc (.map #[] 0)).alloc (.cells (restCells (List.replicate g.blocks.length default)).toArray 59)) (.cells #[.slice A g.blocks.length ca, .slice B g.prev.length cb, .slice C c.block.length cc, .slice D c.edge.length cd, .int .i64 c.once, .map (some w4.heap.size), .slice (some ⟨w4.heap.size + 1, 0, none⟩) g.blocks.length g.blocks.length] 57)
    rw [World.size_alloc, World.size_alloc] at this
    rw [this]
    simp [mkS]
  · refine (((MapIs.made encPI w4).old ((Below.refl _ _).alloc (Nat.le_refl _) _)).old ((Below.refl _ _).alloc (Nat.le_refl _) _)).old (Below.refl _ _).drew
  · exact List.nodup_nil
  · show (World.alloc _ _).heap[w4.heap.size + 1]? = _
    rw [Below.heap_alloc _ _ _ (by simp)]
    have := heap_alloc_new (w4.alloc (.map #[] 0)) (.cells (restCells (List.replicate g.blocks.length default)).toArray 59)
    rw [World.size_alloc] at this
    exact this
theorem SAt.made2 {w w4 : World} {A : Option Addr} {ca : Nat} {B : Option Addr} {cb : Nat} {C : Option Addr} {cc : Nat} {D : Option Addr} {cd : Nat} {g : Gr} {c : Cst} (hb : Below w.heap.size w w4) (hA : BlksAt w A g.blocks) (hC : IntsAt w C c.block) (hD : IntsAt w D c.edge) :
    SAt (mkS w (w4.heap.size + 1 + 1) (w4.heap.size + 1) w4.heap.size A ca B cb C cc D cd g c []) w
      (((w4.alloc (.cells (restCells (List.replicate g.blocks.length default)).toArray 59)).alloc (.map #[] 0)).alloc (.cells #[.slice A g.blocks.length ca, .slice B g.prev.length cb, .slice C c.block.length cc, .slice D c.edge.length cd, .int .i64 c.once, .map (some (w4.heap.size + 1)), .slice (some ⟨w4.heap.size, 0, none⟩) g.blocks.length g.blocks.length] 57)).drew
      (List.replicate g.blocks.length default) := by
  have hsz := hb.size
  refine ⟨?_, ?_, ?_, ?_, hA, hC, hD, (((hb.alloc hsz _).alloc (by simp; omega) _).alloc (by simp; omega) _).drew, by show _ ≤ w4.heap.size + 1 + 1; omega, by show _ ≤ w4.heap.size + 1; omega, hsz, by show w4.heap.size + 1 + 1 ≠ w4.heap.size; omega⟩
  · show (World.alloc _ _).heap[w4.heap.size + 1 + 1]? = _
    have := heap_alloc_new ((w4.alloc (.cells (restCells (List.replicate g.blocks.length default)).toArray 59)).alloc (.map #[] 0)) (.cells #[.slice A g.blocks.length ca, .slice B g.prev.length cb, .slice C c.block.length cc, .slice D c.edge.length cd, .int .i64 c.once, .map (some (w4.heap.size + 1)), .slice (some ⟨w4.heap.size, 0, none⟩) g.blocks.length g.blocks.length] 57)
    rw [World.size_alloc, World.size_alloc] at this
    rw [this]
    simp [mkS]
  · have := ((MapIs.made encPI (w4.alloc (.cells (restCells (List.replicate g.blocks.length default)).toArray 59))).old ((Below.refl _ _).alloc (Nat.le_refl _) (.cells #[.slice A g.blocks.length ca, .slice B g.prev.length cb, .slice C c.block.length cc, .slice D c.edge.length cd, .int .i64 c.once, .map (some (w4.heap.size + 1)), .slice (some ⟨w4.heap.size, 0, none⟩) g.blocks.length g.blocks.length] 57))).old (Below.refl _ _).drew
    rw [World.size_alloc] at this
    exact this
  · exact List.nodup_nil
  · show (World.alloc _ _).heap[w4.heap.size]? = _
    rw [Below.heap_alloc _ _ _ (by simp; omega), Below.heap_alloc _ _ _ (by simp)]
    exact heap_alloc_new w4 _
theorem run_make_rests (n : Nat) (hn : n * 24 ≤ 140737488351232) (w : World) :
    (Instr.makeSlice 55 (.int .i64 (n : Int)) (.int .i64 (n : Int))).run Try.prog w = .ok (.slice (some ⟨w.heap.size, 0, none⟩) n n) (w.alloc (.cells (restCells (List.replicate n default)).toArray 59)) := by
  obtain ⟨i, hi, hzz⟩ := Option.map_eq_some_iff.1 Try.info59
  simp only [Prod.mk.injEq] at hzz
  obtain ⟨hz, hs, hb⟩ := hzz
  have hr := run_make (P := Try.prog) w 55 59 i _ Try.underlying55 hi hz .i64 .i64 n n (by omega) (Int.le_refl _) (by rw [hb]; omega) (by omega)
  simp only [Int.toNat_natCast, hs] at hr
  rw [show (Value.agg #[.int .i64 0, .int .i64 0, .bool false]).cells = #[.int .i64 0, .int .i64 0, .bool false] from rfl, restCells_made] at hr
  exact hr
def resOk (r : Rest) : Bool := r.ok
def resCost (r : Rest) : Int := if r.ok then r.cost else 0
def resPath (r : Rest) (p : List Int) : List Int := if r.ok then p else []
theorem res_no {r : Rest} (h : r.ok = false) (p : List Int) : resOk r = false ∧ resCost r = 0 ∧ resPath r p = [] := by simp [resOk, resCost, resPath, h]
theorem res_yes {r : Rest} (h : r.ok = true) (p : List Int) : resOk r = true ∧ resCost r = r.cost ∧ resPath r p = p := by simp [resOk, resCost, resPath, h]
def plan10c : List (Nat × Bool) := [(0, true), (1, true), (2, true), (3, true), (4, true), (5, true), (6, true), (7, true), (8, false), (9, true), (10, true), (11, true)]
def plan10b : List (Nat × Bool) := [(0, true), (1, true), (2, true), (3, true), (4, true), (5, true), (6, false)]

set_option maxRecDepth 100000 in
set_option maxHeartbeats 4000000 in
theorem shortest_good (w : World) (gv cv : Value) (g : Gr) (c : Cst) (hg : GraphV w gv g) (hc : CostsV w cv c) (hE : (edges g).length ≤ 1048576) (hu : usableB g c = true)
    (hrange : ∀ k, k < (edges g).length → ∃ a b : Nat, (edges g)[k]?.getD (0, 0) = ((a : Int), (b : Int)) ∧ a < g.blocks.length ∧ b < g.blocks.length) (h0 : 0 < g.blocks.length)
    (I : List Rest → Prop) (hSI : ∀ S : Srch, S.g = g → S.cb = c.block → S.ce = c.edge → S.idx = putAll (edges g) 0 [] → SOk S ∧ RInv S I) (hI0 : I (List.replicate g.blocks.length default))
    (f : Nat) (out : List Rest) (hf : relaxN c.block c.edge (putAll (edges g) 0 []) g.blocks f (List.replicate g.blocks.length default) = some out) (path : List Int)
    (hP : (out[0]?.getD default).ok = true → ∀ S : Srch, S.g = g → S.cb = c.block → S.ce = c.edge → S.idx = putAll (edges g) 0 [] → (∀ b j, b < S.g.blocks.length → j < (S.g.blocks[b]?.getD default).next.length → ∃ s : Nat, (S.g.blocks[b]?.getD default).next[j]?.getD 0 = (s : Int) ∧ s < S.g.blocks.length ∧ ViaOk S out b s) ∧
      (∀ b : Nat, (S.g.blocks[b]?.getD default).next.length ≤ 1048576) ∧ ∃ f2, f2 ≤ 1048576 ∧ pathN S out f2 [0] 0 = some path) :
    Calls Try.prog 10 #[gv, cv] w fun e w' => ∃ u, e = .returned (.tuple #[.int .i64 (resCost (out[0]?.getD default)), u, .bool (resOk (out[0]?.getD default))]) ∧ OwnL encInt w' w.heap.size u (resPath (out[0]?.getD default) path) ∧ Below w.heap.size w w' := by
  have HRG := Lib.hid hrange; clear hrange
  have HSI := Lib.hid hSI; clear hSI
  have HP := Lib.hid hP; clear hP
  have HF := Lib.hid hf; clear hf
  have HG := Lib.hid hg
  obtain ⟨A, ca, B, cb, rfl, hA, hB, hl1, hl2⟩ := hg
  obtain ⟨C, cc, D, cd, rfl, hC, hD, hl3, hl4⟩ := hc
  have HA := Lib.hid hA; have HB := Lib.hid hB; have HC := Lib.hid hC; have HD := Lib.hid hD
  clear hA hB hC hD
  have hu2 := hu
  unfold usableB at hu2
  simp only [Bool.and_eq_true, decide_eq_true_eq, Bool.not_eq_true'] at hu2
  obtain ⟨⟨⟨hv, hbl⟩, hel⟩, hnn⟩ := hu2
  have HV := Lib.hid hv; clear hv
  have HNB := Lib.hid hnn; clear hnn
  have hd : ((c.block.length : Int) != (g.blocks.length : Int)) = false := by rw [hbl]; simp
  have hd2 : ((c.edge.length : Int) != ((edges g).length : Int)) = false := by rw [hel]; simp
  have HBL := Lib.hid hbl; clear hbl
  have HEL := Lib.hid hel; clear hel hu
  have hmk := run_make_rests g.blocks.length (by omega)
  have hmm := @run_makeMap Try.prog
  go_enter Try.func10, Try.ntmps10
  go_upto_region 1 with fail
  obtain ⟨wo, hwo⟩ : ∃ wo, wo = (w.alloc (.cells #[.slice A g.blocks.length ca, .slice B g.prev.length cb] 25)).alloc (.cells #[.slice C c.block.length cc, .slice D c.edge.length cd, .int .i64 c.once] 28) := ⟨_, rfl⟩
  have HBO : Hid (Below w.heap.size w wo) := hwo ▸ ((Below.refl _ _).alloc (Nat.le_refl _) _).alloc (by simp) _
  have q0 : wo.cell? ⟨w.heap.size, 0, none⟩ = some (.slice A g.blocks.length ca) := by rw [hwo]; simp
  have q1 : wo.cell? ⟨w.heap.size, 1, none⟩ = some (.slice B g.prev.length cb) := by rw [hwo]; simp
  have q2 : wo.cell? ⟨w.heap.size + 1, 0, none⟩ = some (.slice C c.block.length cc) := by rw [hwo]; simp
  have q3 : wo.cell? ⟨w.heap.size + 1, 1, none⟩ = some (.slice D c.edge.length cd) := by rw [hwo]; simp
  have q4 : wo.cell? ⟨w.heap.size + 1, 2, none⟩ = some (.int .i64 c.once) := by rw [hwo]; simp
  have hsz : wo.heap.size = w.heap.size + 2 := by rw [hwo]; simp
  rw [← hwo]
  have HSZ := Lib.hid hsz; clear hsz
  have HWO := Lib.hid hwo; clear hwo
  go_upto_region 4 with (first
        | (go_at_call 14; refine (edges_any _ _ g (HG.out.old HBO.out) hE).mono ?_; rintro e w2 ⟨v, rfl, hown, hb2⟩; obtain ⟨EA, ec, rfl⟩ := hown.shape; have hbw := HBO.out.trans (hb2.mono HBO.out.size); have c0 := cell_old hb2 q0; have c1 := cell_old hb2 q1; have c2 := cell_old hb2 q2; have c3 := cell_old hb2 q3; have HBW := Lib.hid hbw; have HOWN := Lib.hid hown; have HB2 := Lib.hid hb2; clear hbw hown hb2)
        | (go_at_call 17; go_must (refine (valid_any _ _ g (HG.out.old HBW.out)).mono ?_); rintro e w3 ⟨rfl, hb3⟩; rw [HV.out]; have d0 := cell_old hb3 c0; have d1 := cell_old hb3 c1; have d2 := cell_old hb3 c2; have d3 := cell_old hb3 c3; have HBX := Lib.hid (HBW.out.trans (hb3.mono HBW.out.size)); have HB3 := Lib.hid hb3; clear hb3)
        | (go_at_call 19; go_must (refine (containsNeg_any _ _ c.block ⟨C, cc, rfl, HC.out.old HBX.out, hl3⟩).mono ?_); rintro e w4 ⟨rfl, hb4⟩; rw [HNB.out]; have HBY := Lib.hid (HBX.out.trans (hb4.mono HBX.out.size)); have HB4 := Lib.hid hb4; clear hb4))
  have hb24 : Below wo.heap.size wo w4 := (HB2.out.trans (HB3.out.mono HB2.out.size)).trans (HB4.out.mono (Nat.le_trans HB2.out.size HB3.out.size))
  have k0 := cell_old hb24 q0; have k1 := cell_old hb24 q1; have k2 := cell_old hb24 q2; have k3 := cell_old hb24 q3; have k4 := cell_old hb24 q4
  have hown4 : OwnL encPair w4 wo.heap.size (.slice EA (edges g).length ec) (edges g) := (HOWN.out.old HB3.out).old HB4.out
  clear c0 c1 c2 c3 d0 d1 d2 d3 q0 q1 q2 q3 q4 hd hd2
  have HOWN4 := Lib.hid hown4; clear hown4
  have lt0 := World.block_lt_of_cell? _ _ k0
  have lt1 := World.block_lt_of_cell? _ _ k2
  simp only at lt0 lt1
  have HB24 := Lib.hid hb24; clear hb24
  go_cut [8] (fun x wx => ∃ sb mb rb, x = .pointer (some ⟨sb, 0, none⟩) ∧ SAt (mkS w sb mb rb A ca B cb C cc D cd g c []) w wx (List.replicate g.blocks.length default) ∧ Below w4.heap.size w4 wx ∧ w4.heap.size ≤ sb ∧ w4.heap.size ≤ mb)
  case first =>
    go_region
    all_goals
      go_wp2
      go_meet
      first
        | exact ⟨_, _, _, rfl, SAt.made1 HBY.out HA.out HC.out HD.out, ((((Below.refl _ _).alloc (Nat.le_refl _) _).alloc (by simp) _).alloc (by simp; omega) _).drew, by omega, by omega⟩
        | exact ⟨_, _, _, rfl, SAt.made2 HBY.out HA.out HC.out HD.out, ((((Below.refl _ _).alloc (Nat.le_refl _) _).alloc (by simp) _).alloc (by simp; omega) _).drew, by omega, by omega⟩
  case rest =>
    obtain ⟨sb, mb, rb, rfl, hS0, hb5, hsb, hmb⟩ := hcut
    have HS0 := Lib.hid hS0; clear hS0
    have HB5 := Lib.hid hb5; clear hb5
    have HSB := Lib.hid hsb; have HMB := Lib.hid hmb; clear hsb hmb
    obtain ⟨es, hes⟩ : ∃ es, es = edges g := ⟨_, rfl⟩
    rw [← hes] at HOWN4 HRG HSI HP HF hE ⊢
    have HES := Lib.hid hes; clear hes
    go_wp2
    go_loopw [49] (fun i wr => ∃ k : Nat, i = .int .i64 k ∧ k ≤ es.length ∧ SAt (mkS w sb mb rb A ca B cb C cc D cd g c (putAll (es.take k) 0 [])) w wr (List.replicate g.blocks.length default) ∧ Below w4.heap.size w4 wr) (fun i _ => es.length - (intOf i).toNat)
    case atStart => exact ⟨0, rfl, Nat.zero_le _, HS0.out, HB5.out⟩
    case round =>
      obtain ⟨k, rfl, hk, hS, hb⟩ := hrel
      by_cases hlt : k < es.length
      · obtain ⟨EA', ec', hEe, hPA⟩ := HOWN4.out.pairs
        cases hEe
        obtain ⟨db, e1, d1, d2⟩ := hPA k hlt
        obtain ⟨x, y, hxy, hx, hy⟩ := HRG.out k hlt
        rw [hxy] at d1 d2
        have m1 := cell_old hb d1
        have m2 := cell_old hb d2
        have m5 : wr.cell? ⟨sb, 5, none⟩ = some (.map (some mb)) := hS.cell.2.2.2.2.1
        obtain ⟨ltsb, ltmb, _⟩ := hS.lts
        have ltsb' : sb < wr.heap.size := ltsb
        have ltmb' : mb < wr.heap.size := ltmb
        have HXY := Lib.hid hxy; clear hxy d1 d2 ltsb ltmb hPA
        subst e1
        have HS := Lib.hid hS; clear hS
        have HB := Lib.hid hb; clear hb
        go_wp2
        obtain ⟨w7, hw7⟩ : ∃ w7, w7 = wr.alloc (.cells #[.int .i64 (x : Int), .int .i64 (y : Int)] 41) := ⟨_, rfl⟩
        have hb7 : Below wr.heap.size wr w7 := hw7 ▸ (Below.refl _ _).alloc (Nat.le_refl _) _
        have n5 := cell_old hb7 m5
        have n0 : w7.cell? ⟨wr.heap.size, 0, none⟩ = some (.int .i64 (x : Int)) := by rw [hw7]; exact cell_box _ _ 41 0 rfl
        have n1 : w7.cell? ⟨wr.heap.size, 1, none⟩ = some (.int .i64 (y : Int)) := by rw [hw7]; exact cell_box _ _ 41 1 rfl
        have hlt7 : wr.heap.size < w7.heap.size := by rw [hw7]; simp
        have HS7 := HS.out.old (hb7.drew)
        obtain ⟨o, hrun, hmi, hun⟩ := run_put encPI HS7.m HS7.u (x := ((x : Int), (y : Int))) ⟨i64ok_mk (by omega) (by omega), i64ok_mk (by omega) (by omega)⟩ (k : Int)
        have hrun' : (Instr.mapUpdate 38 (.map (some mb)) (.agg #[.int .i64 (x : Int), .int .i64 (y : Int)]) (.int .i64 (k : Int))).run Try.prog w7.drew = .ok () (setMap w7.drew mb o) := hrun
        have HM := Lib.hid hmi; have HU := Lib.hid hun; have HH7 := Lib.hid HS7
        clear hrun hmi hun HS7
        rw [← hw7]
        have HW7 := Lib.hid hw7; clear hw7
        have hsm : sb ≠ mb := by
          intro e
          obtain ⟨es', c', h1, _⟩ := HH7.out.m
          have h2 := HH7.out.s
          have h1' : w7.drew.heap[mb]? = _ := h1
          have h2' : w7.drew.heap[sb]? = _ := h2
          rw [e, h1'] at h2'; cases h2'
        refine wp_region_plan (fun W => W.cell? ⟨sb, 5, none⟩ = some (.map (some mb)) ∧ W.cell? ⟨wr.heap.size, 0, none⟩ = some (.int .i64 (x : Int)) ∧ W.cell? ⟨wr.heap.size, 1, none⟩ = some (.int .i64 (y : Int))) plan10b (by kernel_rfl) (by kernel_rfl) (by kernel_rfl) rfl ⟨n5, n0, n1⟩ ?_
        unfold plan10b
        iterate 6 (refine wpPlan_take rfl (fun K hK => ?_); go_simp; first | (refine hK _ _ ?_; clear hK K) | (refine ⟨_, fun _ _ => rfl, hK _ _ ?_⟩; clear hK K) | (apply Exists.intro; refine ⟨fun W hW => ?_, hK _ _ ?_⟩; (intro k1 k2; go_simp; try rfl); clear hK K))
        refine wpPlan_sole rfl (fun K hK => ?_)
        go_simp
        have hsc : ∀ (p : Addr), p.block ≠ mb → (setMap w7.drew mb o).cell? p = w7.cell? p := by
          intro p hp
          show (match (setMap w7.drew mb o).heap[p.block]? with | _ => _) = _
          simp only [World.cell?, setMap_heap _ _ _ _ hp]
          rfl
        refine ⟨⟨(hsc _ hsm).trans n5, (hsc _ (by show wr.heap.size ≠ mb; omega)).trans n0, (hsc _ (by show wr.heap.size ≠ mb; omega)).trans n1⟩, hK _ _ ?_⟩; clear hK K
        refine wpPlan_nil ?_
        have hbM : Below w4.heap.size w4 (setMap w7.drew mb o) := setMap_below ((HB.out.trans (hb7.mono HB.out.size)).drew) HMB.out o
        have hSM : SAt (mkS w sb mb rb A ca B cb C cc D cd g c (putAll (es.take (k + 1)) 0 [])) w (setMap w7.drew mb o) (List.replicate g.blocks.length default) := by
          have hput : putAll (es.take (k + 1)) 0 [] = aput (putAll (es.take k) 0 []) ((x : Int), (y : Int)) (k : Int) := by
            rw [take_snoc es (0, 0) k hlt, HXY.out, putAll_snoc]
            simp [Nat.min_eq_left (Nat.le_of_lt hlt)]
          rw [hput]
          have hrm : rb ≠ mb := by
            intro e
            obtain ⟨es', c', h1, _⟩ := HH7.out.m
            have h2 := HH7.out.r
            have h1' : w7.drew.heap[mb]? = _ := h1
            have h2' : w7.drew.heap[rb]? = _ := h2
            rw [e, h1'] at h2'; cases h2'
          exact { s := (setMap_heap _ _ _ _ hsm).trans HH7.out.s, m := HM.out, u := HU.out, r := (setMap_heap _ _ _ _ hrm).trans HH7.out.r, blks := HH7.out.blks, ib := HH7.out.ib, ie := HH7.out.ie, below := setMap_below HH7.out.below HH7.out.hmb o, hsb := HH7.out.hsb, hmb := HH7.out.hmb, hrb := HH7.out.hrb, hne := HH7.out.hne }
        have HSM := Lib.hid hSM; clear hSM
        have HBM := Lib.hid hbM; clear hbM
        clear hrun' hsc n0 n1 n5 hb7
        go_wp2
        go_roundw
        case rel => exact ⟨k + 1, by go_num, by omega, HSM.out, HBM.out⟩
        case measure => simp [intOf]; omega
      · rw [List.take_of_length_le (by omega)] at hS
        obtain ⟨hSo, hRI⟩ := HSI.out (mkS w sb mb rb A ca B cb C cc D cd g c (putAll es 0 [])) rfl rfl rfl rfl
        have cR := relax_any _ w wr I hSo hRI _ hS hI0 f out HF.out
        have HCR := Lib.hid cR; clear cR hSo
        have HRI := Lib.hid hRI; clear hRI
        clear hS hb
        by_cases hro : (out[0]?.getD default).ok = true
        case neg =>
          have hro' : (out[0]?.getD default).ok = false := by simpa using hro
          have HRO := Lib.hid hro'; clear hro hro'
          go_wp2_with (go_at_call 21; refine HCR.out.mono ?_; rintro e w6 ⟨rfl, h6, hI6⟩; obtain ⟨_, _, _, _, _, x6⟩ := h6.cell; have hlen6 : out.length = g.blocks.length := HRI.out.len _ hI6; have r6 := (h6.rest 0 (by rw [hlen6]; exact h0)).2.2; rw [HRO.out] at r6; have hl0 : 0 < out.length := (by rw [hlen6]; exact h0); have HB6 := Lib.hid h6.below; clear h6 hI6 hlen6; unfold mkS at x6 r6)
          go_ret3
          obtain ⟨z1, z2, z3⟩ := res_no HRO.out path
          exact ⟨.slice none 0 0, by rw [z1, z2]; rfl, by rw [z3]; exact OwnL.nil _ _ _, HB6.out⟩
        case pos =>
          have HRO := Lib.hid hro; clear hro
          go_wp2_with (go_at_call 21; refine HCR.out.mono ?_; rintro e w6 ⟨rfl, h6, hI6⟩; obtain ⟨_, _, _, _, _, x6⟩ := h6.cell; have hlen6 : out.length = g.blocks.length := HRI.out.len _ hI6; have r6 := (h6.rest 0 (by rw [hlen6]; exact h0)).2.2; have r7 := (h6.rest 0 (by rw [hlen6]; exact h0)).1; obtain ⟨rcst, hrc⟩ : ∃ x, x = (out[0]?.getD default).cost := ⟨_, rfl⟩; rw [← hrc] at r7; have HRC := Lib.hid hrc; clear hrc; rw [HRO.out] at r6; have hl0 : 0 < out.length := (by rw [hlen6]; exact h0); have H6 := Lib.hid h6; clear h6 hI6 hlen6; unfold mkS at x6 r6 r7)
          have HRO2 := HRO
          obtain ⟨hvo, hn2, f2, hbf2, hpn⟩ := HP.out HRO.out (mkS w sb mb rb A ca B cb C cc D cd g c (putAll es 0 [])) rfl rfl rfl rfl
          have cPth := path_any (mkS w sb mb rb A ca B cb C cc D cd g c (putAll es 0 [])) w w6.drew out (H6.out.old (Below.refl _ _).drew) hvo hn2 (by show g.blocks.length ≤ _; omega) h0 f2 path hpn hbf2
          have HPth := Lib.hid cPth; clear cPth hvo hn2 hpn
          refine wp_region_plan (fun W => Below w6.heap.size w6 W) plan10c (by kernel_rfl) (by kernel_rfl) (by kernel_rfl) rfl (Below.refl _ _).drew ?_
          unfold plan10c
          iterate 8 (refine wpPlan_take rfl (fun K hK => ?_); go_simp; first | (refine hK _ _ ?_; clear hK K) | (refine ⟨_, fun _ _ => rfl, hK _ _ ?_⟩; clear hK K) | (apply Exists.intro; refine ⟨fun W hW => ?_, hK _ _ ?_⟩; (have k0 := cell_old hW x6; have k1 := cell_old hW r7; go_simp; try rfl); clear hK K))
          refine wpPlan_sole rfl (fun K hK => ?_)
          go_simp
          refine HPth.out.mono ?_
          rintro e w7 ⟨u, rfl, hown7, hb7⟩
          have hb67 : Below w6.heap.size w6 w7 := (Below.refl _ _).drew.trans hb7
          refine ⟨hb67, hK _ _ ?_⟩; clear hK K
          iterate 3 (refine wpPlan_take rfl (fun K hK => ?_); go_simp; first | (refine hK _ _ ?_; clear hK K) | (refine ⟨_, fun _ _ => rfl, hK _ _ ?_⟩; clear hK K))
          refine wpPlan_nil ?_
          obtain ⟨z1, z2, z3⟩ := res_yes HRO.out path
          have Z1 := Lib.hid z1; have Z2 := Lib.hid z2; have Z3 := Lib.hid z3
          clear z1 z2 z3
          go_wp2
          go_ret3
          exact ⟨u, by rw [Z1.out, Z2.out, ← HRC.out]; rfl, by rw [Z3.out]; exact hown7.base H6.out.below.size, H6.out.below.trans (hb67.mono H6.out.below.size)⟩
end Go.Proofs.Ytfoimgkgkjhbeaa
