/- The walk of ontimelaw25.Graph. -/
import Derived.Test.YtfoimgkgkjhbeaaWB
import Derived.Test.YtfoimgkgkjhbeaaBL
import Derived.Test.YtfoimgkgkjhbeaaW5
namespace Go.Proofs.Ytfoimgkgkjhbeaa
open Go.RowKit

def encB : Enc Try.prog (Int × Int × Sl) where
  e := 43
  t := 22
  size := 3
  bytes := 40
  z := .agg #[.int .i64 0, .int .i64 0, .slice none 0 0]
  enc := fun p => [.int .i64 p.1, .int .i64 p.2.1, p.2.2.v]
  ht := Try.underlying22
  hinfo := by kernel_rfl
  hlen := fun _ => rfl
  hone := by intro x u hu; simp [Sl.v] at hu; rcases hu with rfl | rfl | rfl <;> rfl
  hz := rfl
  hpos := by decide

def prevRow (n i : Nat) : List Int → List (List Int) → List (List Int)
  | [], p => p
  | t :: ts, p => prevRow n i ts (if 0 ≤ t ∧ t < n then p.set t.toNat (p[t.toNat]?.getD [] ++ [(i : Int)]) else p)
def prevN (n : Nat) : Nat → List (List Int) → List (List Int) → List (List Int)
  | _, [], p => p
  | i, l :: ls, p => prevN n (i + 1) ls (prevRow n i l p)
def blkOf (ls : List (List Int)) (i : Nat) : Blk := ⟨i, (i : Int) + 1, ls[i]?.getD []⟩
def graphOf (ls : List (List Int)) : Gr := ⟨(List.range ls.length).map (blkOf ls), prevN ls.length 0 ls (List.replicate ls.length [])⟩

/-- The blocks that have been made. -/
def BlksOf (w : World) (ls : List (List Int)) (xs : List (Int × Int × Sl)) : Prop :=
  ∀ i, i < xs.length → ∃ A c, xs[i]? = some ((i : Int), (i : Int) + 1, (A, (ls[i]?.getD []).length, c)) ∧ IntsAt w A (ls[i]?.getD []) ∧ (ls[i]?.getD []).length ≤ 9223372036854775807
theorem BlksOf.snoc {w : World} {ls : List (List Int)} {xs : List (Int × Int × Sl)} (h : BlksOf w ls xs) {A : Option Addr} {c : Nat} (hA : IntsAt w A (ls[xs.length]?.getD [])) (hn : (ls[xs.length]?.getD []).length ≤ 9223372036854775807) :
    BlksOf w ls (xs ++ ([((xs.length : Int), (xs.length : Int) + 1, (A, (ls[xs.length]?.getD []).length, c))] : List (Int × Int × Sl))) := by
  intro i hi
  rw [List.length_append, List.length_singleton] at hi
  by_cases e : i = xs.length
  · subst e
    refine ⟨A, c, ?_, hA, hn⟩
    rw [List.getElem?_append_right (Nat.le_refl _), Nat.sub_self]; rfl
  · obtain ⟨A', c', k1, k2⟩ := h i (by omega)
    exact ⟨A', c', by rw [List.getElem?_append_left (by omega)]; exact k1, k2⟩

theorem OwnL.apart {P : Program} {α β : Type} {E : Enc P α} {F : Enc P β} {w : World} {b1 b2 : Nat} {v u : Value} {l : List α} {m : List β} (h : OwnL E w b1 v l) (k : OwnL F w b2 u m) (hne : E.e ≠ F.e) : v.ownBlock = none ∨ v.ownBlock ≠ u.ownBlock := by
  rcases h.2 with ⟨rfl, _⟩ | ⟨g, cap, cur, rfl, _, hh, _⟩
  · left; rfl
  · right
    rcases k.2 with ⟨rfl, _⟩ | ⟨g', cap', cur', rfl, _, hh', _⟩
    · simp [Value.ownBlock]
    · intro e
      simp only [Value.ownBlock, Option.some.injEq] at e
      subst e
      rw [hh] at hh'
      simp only [Option.some.injEq, Obj.cells.injEq] at hh'
      exact hne hh'.2.1
theorem OwnL.notIn {P : Program} {α : Type} {E : Enc P α} {w : World} {b1 : Nat} {v : Value} {l : List α} (h : OwnL E w b1 v l) {b : Nat} {cs : Array Value} {e : TypeId} {fr : Nat × Nat} (hb : w.heap[b]? = some (.cells cs e fr)) (hne : E.e ≠ e) : v.ownBlock ≠ some b := by
  rcases h.2 with ⟨rfl, _⟩ | ⟨g, cap, cur, rfl, _, hh, _⟩
  · simp [Value.ownBlock]
  · intro e'
    simp only [Value.ownBlock, Option.some.injEq] at e'
    subst e'
    rw [hh] at hb
    simp only [Option.some.injEq, Obj.cells.injEq] at hb
    exact hne hb.2.1
theorem OwnL.setAt {P : Program} {α : Type} {E : Enc P α} {w : World} {base : Nat} {v : Value} {l : List α} (h : OwnL E w base v l) {p : Addr} (hb : v.ownBlock ≠ some p.block) (u : Value) : OwnL E (w.setCell p u) base v l := by
  refine ⟨h.1, ?_⟩
  rcases h.2 with h2 | ⟨g, cap, cur, rfl, hg, hh, r⟩
  · exact .inl h2
  · exact .inr ⟨g, cap, cur, rfl, hg, by rw [Below.heap_setCell _ _ _ _ (by intro e; apply hb; simp [Value.ownBlock, e])]; exact hh, r⟩
theorem OwnRows.setAt {P : Program} {E : Enc P Int} {w : World} {base g : Nat} {e : TypeId} {ls : List (List Int)} (h : OwnRows E w base g e ls) {p : Addr} {cs : Array Value} {t : TypeId} {fr : Nat × Nat} (hp : w.heap[p.block]? = some (.cells cs t fr)) (h1 : E.e ≠ t) (h2 : g ≠ p.block) (u : Value) : OwnRows E (w.setCell p u) base g e ls := by
  obtain ⟨vs, k1, k2, k3, k4, k5⟩ := h
  exact ⟨vs, k1, k2, by rw [Below.heap_setCell _ _ _ _ h2]; exact k3, fun i hi => ⟨(k4 i hi).1.setAt ((k4 i hi).1.notIn hp h1) u, (k4 i hi).2⟩, k5⟩

theorem OwnRows.grown {P : Program} {α : Type} {E : Enc P Int} {F : Enc P α} {w w1 : World} {base b2 g : Nat} {e : TypeId} {ls : List (List Int)} (h : OwnRows E w base g e ls) {u : Value} {m : List α} (hu : OwnL F w b2 u m) (hne : E.e ≠ F.e) (hgr : w.grownBy w1 u.ownBlock) (hg : some g ≠ u.ownBlock) : OwnRows E w1 base g e ls := by
  obtain ⟨vs, k1, k2, k3, k4, k5⟩ := h
  exact ⟨vs, k1, k2, by rw [hgr.block g (Array.getElem?_eq_some_iff.1 k3).1 hg]; exact k3, fun i hi => ⟨World.ownsRow.kept (k4 i hi).1 hgr ((k4 i hi).1.apart hu hne), (k4 i hi).2⟩, k5⟩
theorem Enc.cells_at {P : Program} {α : Type} (E : Enc P α) (l : List α) (i j : Nat) (hj : j < E.size) {x : α} (hx : l[i]? = some x) : (E.cells l)[i * E.size + j]? = (E.enc x)[j]? := by
  induction l generalizing i with
  | nil => simp at hx
  | cons y l ih =>
    have e : E.cells (y :: l) = E.enc y ++ E.cells l := rfl
    rw [e]
    cases i with
    | zero =>
      simp only [List.getElem?_cons_zero, Option.some.injEq] at hx
      subst hx
      rw [Nat.zero_mul, Nat.zero_add, List.getElem?_append_left (by rw [E.hlen]; exact hj)]
    | succ i =>
      rw [List.getElem?_cons_succ] at hx
      rw [List.getElem?_append_right (by rw [E.hlen, Nat.succ_mul]; omega), E.hlen, Nat.succ_mul]
      rw [show i * E.size + E.size + j - E.size = i * E.size + j by omega]
      exact ih i hx
theorem OwnL.cell_at {P : Program} {α : Type} {E : Enc P α} {w : World} {base : Nat} {v : Value} {l : List α} (h : OwnL E w base v l) {i : Nat} {x : α} (hx : l[i]? = some x) : ∃ g cap, v = .slice (some ⟨g, 0, none⟩) l.length cap ∧ ∀ j, j < E.size → w.cell? ⟨g, i * E.size + j, none⟩ = (E.enc x)[j]? := by
  have hi : i < l.length := (List.getElem?_eq_some_iff.1 hx).1
  rcases h.2 with ⟨_, h0⟩ | ⟨g, cap, cur, rfl, _, hh, hn, hcap, hsz, htake⟩
  · omega
  · refine ⟨g, cap, rfl, fun j hj => ?_⟩
    rw [← E.cells_at l i j hj hx, ← htake]
    have hlt : i * E.size + j < l.length * E.size := by
      have : (i + 1) * E.size ≤ l.length * E.size := Nat.mul_le_mul_right _ hi
      rw [Nat.succ_mul] at this
      omega
    rw [List.getElem?_take, if_pos hlt]
    simp [World.cell?, hh]
theorem OwnL.blks {w w0 : World} {base : Nat} {v : Value} {xs : List (Int × Int × Sl)} {ls : List (List Int)} (h : OwnL encB w base v xs) (hb : BlksOf w0 ls xs) (hw : Below w0.heap.size w0 w) (hl : xs.length = ls.length) : ∃ A c, v = .slice A ls.length c ∧ BlksAt w A ((List.range ls.length).map (blkOf ls)) := by
  obtain ⟨A, c, rfl⟩ := h.shape
  refine ⟨A, c, by rw [hl], ?_⟩
  intro i hi
  have hi' : i < ls.length := by simpa using hi
  obtain ⟨B, d, hx, hB, hn⟩ := hb i (by omega)
  obtain ⟨g, cap, hv, hcells⟩ := h.cell_at hx
  cases hv
  have hblk : ((List.range ls.length).map (blkOf ls))[i]?.getD default = blkOf ls i := by simp [hi']
  rw [hblk]
  have c0 := hcells 0 (by decide)
  have c1 := hcells 1 (by decide)
  have c2 := hcells 2 (by decide)
  refine ⟨g, 0, B, d, rfl, ?_, ?_, ?_, hB.old hw, hn⟩
  · rw [show 0 + i * 3 = i * 3 + 0 by omega]; exact c0
  · rw [show 0 + i * 3 + 1 = i * 3 + 1 by omega]; exact c1
  · rw [show 0 + i * 3 + 2 = i * 3 + 2 by omega]; exact c2
/-- Where Graph stands between two statements. -/
structure GS (w : World) (n : Nat) (bv : Value) (xs : List (Int × Int × Sl)) (p : List (List Int)) (wr : World) : Prop where
  res : ∃ u v, wr.heap[w.heap.size]? = some (.cells #[u, v] 25 (0, 0))
  g : wr.heap[w.heap.size + 1 + 1]? = some (.cells #[bv, .slice (some ⟨w.heap.size + 1, 0, none⟩) n n] 25 (0, 0))
  bs : OwnL encB wr w.heap.size bv xs
  ps : OwnRows encInt wr w.heap.size (w.heap.size + 1) 26 p
  pl : p.length = n
  below : Below w.heap.size w wr

def plan18a : List (Nat × Bool) := [(0, true), (1, true), (2, true), (3, true), (4, true), (5, true), (6, true), (7, true), (8, true), (9, true), (10, false), (11, false), (12, true), (13, false)]
def plan18b : List (Nat × Bool) := [(0, true), (1, true), (2, true), (3, true), (4, true), (5, true), (6, true), (7, true), (8, true), (9, false), (10, false), (11, true), (12, false)]
theorem Try.size25 : (Try.prog.info? 25).map (·.size) = some 2 := by kernel_rfl

set_option maxRecDepth 100000 in
set_option maxHeartbeats 4000000 in
theorem graph_any (w : World) (v : Value) (ls : List (List Int)) (hv : RowsV w v ls) (hn : ls.length ≤ 1000) (hl : ∀ i : Nat, (ls[i]?.getD []).length ≤ 1000) :
    Calls Try.prog 18 #[v] w fun e w' => ∃ u, e = .returned u ∧ GraphV w' u (graphOf ls) ∧ Below w.heap.size w w' := by
  obtain ⟨A, c, rfl, hA, hlr⟩ := hv
  have hmk := run_make_row' (P := Try.prog) 23 26 (.slice none 0 0) 24 Try.underlying23 Try.info26 rfl .i64 .i64 ls.length (by omega) (by omega)
  go_enter Try.func18, Try.ntmps18
  go_wp2
  obtain ⟨P, hP⟩ : ∃ P, P = prevN ls.length 0 ls (List.replicate ls.length []) := ⟨_, rfl⟩
  have hst : GS w ls.length (.slice none 0 0) [] (List.replicate ls.length []) (((w.alloc (.cells #[.slice none 0 0, .slice none 0 0] 25)).alloc (.cells (madeCells #[.slice none 0 0] ls.length) 26)).alloc (.cells #[.slice none 0 0, .slice (some ⟨w.heap.size + 1, 0, none⟩) ls.length ls.length] 25)) := by
    refine ⟨⟨.slice none 0 0, .slice none 0 0, ?_⟩, ?_, OwnL.nil _ _ _, ?_, by simp, ((((Below.refl _ _).alloc (Nat.le_refl _) _).alloc (by simp) _).alloc (by simp; omega) _)⟩
    · rw [Below.heap_alloc _ _ _ (by simp; omega), Below.heap_alloc _ _ _ (by simp)]; exact heap_alloc_new w _
    · have := heap_alloc_new ((w.alloc (.cells #[.slice none 0 0, .slice none 0 0] 25)).alloc (.cells (madeCells #[.slice none 0 0] ls.length) 26)) (.cells #[.slice none 0 0, .slice (some ⟨w.heap.size + 1, 0, none⟩) ls.length ls.length] 25)
      rw [World.size_alloc, World.size_alloc] at this
      exact this
    · have := (OwnRows.made encInt (w.alloc (.cells #[.slice none 0 0, .slice none 0 0] 25)) w.heap.size 26 ls.length (by simp)).alloc (.cells #[.slice none 0 0, .slice (some ⟨w.heap.size + 1, 0, none⟩) ls.length ls.length] 25)
      rw [World.size_alloc] at this
      exact this
  have HST := Lib.hid hst; clear hst
  go_loopw [4] (fun i wr => ∃ (k : Nat) (bv : Value) (xs : List (Int × Int × Sl)) (p : List (List Int)), i = .int .i64 k ∧ k ≤ ls.length ∧ xs.length = k ∧ GS w ls.length bv xs p wr ∧ BlksOf w ls xs ∧ RowsLe p (1000 * k) ∧ prevN ls.length k (ls.drop k) p = P) (fun i _ => ls.length - (intOf i).toNat)
  case atStart => exact ⟨0, _, [], _, rfl, by omega, rfl, HST.out, by intro i hi; simp at hi, by intro i; rw [List.getElem?_replicate]; split <;> simp, hP.symm⟩
  case round =>
    obtain ⟨k, bv, xs, p, rfl, hk, hxl, hG, hB, hle, hp⟩ := hrel
    have HG := Lib.hid hG; clear hG
    have HB := Lib.hid hB; clear hB
    have HLE := Lib.hid hle; clear hle
    have HP := Lib.hid hp; clear hp
    have HP0 := Lib.hid hP; clear hP
    have HXL' := Lib.hid hxl
    by_cases hlt : k < ls.length
    · obtain ⟨b, off, nA, nc, rfl, h3, h4, h5⟩ := hA k hlt
      obtain ⟨x, hx⟩ : ∃ x, x = ls[k]?.getD [] := ⟨_, rfl⟩
      have hxlen := hl k
      rw [← hx] at h3 h4 h5 hxlen
      have HX := Lib.hid hx; clear hx
      have a3 := cell_old HG.out.below h3
      have g0 : wr.cell? ⟨w.heap.size + 1 + 1, 0, none⟩ = some bv := by simp [World.cell?, HG.out.g]
      have lt3 := World.block_lt_of_cell? _ _ h3
      simp only at lt3
      have HXL := Lib.hid hxl; clear hxl
      have hsz := HG.out.below.size
      go_wp2
      have hy : IntKind.i64.wrap ((k : Int) + 1) = (k : Int) + 1 := IntWalk.i64_in _ (by omega)
      refine wp_region_planL (fun W => W.cell? ⟨w.heap.size + 1 + 1, 0, none⟩ = some bv ∧ W.cell? ⟨b, off + k, none⟩ = some (.slice nA x.length nc)) 13 plan18a (by kernel_rfl) (by kernel_rfl) (by kernel_rfl) rfl ⟨g0, a3⟩ ?_
      unfold plan18a
      iterate 10 (refine wpPlanL_take rfl (fun K hK => ?_); go_simp; first | (refine hK _ _ ?_; clear hK K) | (refine ⟨_, fun _ _ => rfl, hK _ _ ?_⟩; clear hK K) | (apply Exists.intro; refine ⟨fun W hW => ?_, hK _ _ ?_⟩; (intro k1; go_simp; try rfl); clear hK K))
      refine wpPlanL_sole rfl (by decide) (fun K hK => ?_)
      go_simp
      have hba : Below wr.heap.size wr (wr.alloc (.cells #[.int .i64 (k : Int), .int .i64 ((k : Int) + 1), .slice nA x.length nc] 43)) := (Below.refl _ _).alloc (Nat.le_refl _) _
      refine ⟨⟨cell_old hba g0, cell_old hba a3⟩, hK _ _ ?_⟩; clear hK K hba
      change wpPlanL _ _ _ _ _ _ _ (wr.drew.alloc _)
      refine wpPlanL_sole rfl (by decide) (fun K hK => ?_)
      have hxl20 : xs.length ≤ 1000 := by have := HXL.out; omega
      refine step_app1 encB rfl _ _ rfl rfl (HG.out.bs.old (Below.refl _ _).drew) ((k : Int), (k : Int) + 1, ((nA, x.length, nc) : Sl)) rfl rfl (by show _ * 40 ≤ _; omega) (by unfold maxLen; omega) (Nat.le_refl _) hsz HG.out.below.drew ?_
      intro v' w1 hown1 hb1 hgr hloc
      have hgne : some (w.heap.size + 1 + 1) ≠ bv.ownBlock := (HG.out.bs.notIn HG.out.g (by decide)).symm
      have hpne : some (w.heap.size + 1) ≠ bv.ownBlock := by
        obtain ⟨vs, _, _, hh, _⟩ := HG.out.ps
        exact (HG.out.bs.notIn hh (by decide)).symm
      have hrne : some w.heap.size ≠ bv.ownBlock := by
        obtain ⟨u1, u2, hh⟩ := HG.out.res
        exact (HG.out.bs.notIn hh (by decide)).symm
      have hgl : w.heap.size + 1 + 1 < wr.drew.heap.size := (Array.getElem?_eq_some_iff.1 HG.out.g).1
      have gg : w1.heap[w.heap.size + 1 + 1]? = some (.cells #[bv, .slice (some ⟨w.heap.size + 1, 0, none⟩) ls.length ls.length] 25 (0, 0)) := (hgr.block _ hgl hgne).trans HG.out.g
      have g0' : w1.cell? ⟨w.heap.size + 1 + 1, 0, none⟩ = some bv := by simp [World.cell?, gg]
      have g0f : w1.frozen? ⟨w.heap.size + 1 + 1, 0, none⟩ = false := by simp [World.frozen?, gg]
      have a3' : w1.cell? ⟨b, off + k, none⟩ = some (.slice nA x.length nc) := (hb1.cell (p := ⟨b, off + k, none⟩) lt3).trans h3
      refine ⟨⟨g0', a3'⟩, hK _ _ ?_⟩; clear hK K
      iterate 1 (refine wpPlanL_take rfl (fun K hK => ?_); go_simp; first | (refine hK _ _ ?_; clear hK K) | (refine ⟨_, fun _ _ => rfl, hK _ _ ?_⟩; clear hK K) | (refine ⟨_, fun _ _ _ => rfl, hK _ _ ?_⟩; clear hK K))
      obtain ⟨A6, c6, rfl⟩ := hown1.shape
      rw [List.length_append, List.length_singleton]
      have hG2 : GS w ls.length (.slice A6 (xs.length + 1) c6) (xs ++ ([((k : Int), (k : Int) + 1, (nA, x.length, nc))] : List (Int × Int × Sl))) p (w1.setCell ⟨w.heap.size + 1 + 1, 0, none⟩ (.slice A6 (xs.length + 1) c6)) := by
        refine ⟨?_, ?_, ?_, ?_, HG.out.pl, hb1.setCell (by show w.heap.size ≤ w.heap.size + 1 + 1; omega) _⟩
        · obtain ⟨u1, u2, hh⟩ := HG.out.res
          refine ⟨u1, u2, ?_⟩
          rw [Below.heap_setCell _ _ _ _ (by show w.heap.size ≠ w.heap.size + 1 + 1; omega)]
          exact (hgr.block _ (Array.getElem?_eq_some_iff.1 hh).1 hrne).trans hh
        · rw [heap_setCell_row gg]; rfl
        · have hl : OwnL encB w1 w.heap.size (.slice A6 (xs.length + 1) c6) (xs ++ ([((k : Int), (k : Int) + 1, (nA, x.length, nc))] : List (Int × Int × Sl))) := by
            have := hown1
            rw [List.length_append, List.length_singleton] at this
            exact this
          exact hl.setAt (hl.notIn gg (by decide)) _
        · exact ((HG.out.ps.old (Below.refl _ _).drew).grown (HG.out.bs.old (Below.refl _ _).drew) (by decide) hgr hpne).setAt gg (by decide) (by show w.heap.size + 1 ≠ w.heap.size + 1 + 1; omega) _
      have hB2 : BlksOf w ls (xs ++ ([((k : Int), (k : Int) + 1, (nA, x.length, nc))] : List (Int × Int × Sl))) := by
        have e := HXL.out
        subst e
        have e2 := HX.out
        subst e2
        exact HB.out.snoc h4 h5
      have HG2 := Lib.hid hG2; have HB2 := Lib.hid hB2
      clear hG2 hB2 hown1 hb1 hgr hloc gg hgne hpne hrne
      refine wpPlanL_last rfl (fun K hK => ?_)
      go_simp
      refine hK _ _ ?_; clear hK K
      refine wpPlanL_nil ?_
      have hxs2 : (xs ++ ([((k : Int), (k : Int) + 1, (nA, x.length, nc))] : List (Int × Int × Sl))).length = k + 1 := by rw [List.length_append, HXL.out]; rfl
      obtain ⟨w2, hw2⟩ : ∃ w2, w2 = w1.setCell ⟨w.heap.size + 1 + 1, 0, none⟩ (.slice A6 (xs.length + 1) c6) := ⟨_, rfl⟩
      obtain ⟨bv2, hbv2⟩ : ∃ bv2, bv2 = Value.slice A6 (xs.length + 1) c6 := ⟨_, rfl⟩
      obtain ⟨xs2, hxs⟩ : ∃ xs2, xs2 = xs ++ ([((k : Int), (k : Int) + 1, (nA, x.length, nc))] : List (Int × Int × Sl)) := ⟨_, rfl⟩
      rw [← hw2, ← hbv2, ← hxs] at HG2
      rw [← hxs] at hxs2 HB2
      rw [← hw2]
      have HXS2 := Lib.hid hxs2
      clear hw2 hbv2 hxs hxs2 g0 g0' g0f a3 a3' hy
      rw [drop_at ls [] k hlt, ← HX.out, prevN] at HP
      go_wp2
      go_loopw [5] (fun j wi => ∃ (jj : Nat) (p' : List (List Int)), j = .int .i64 jj ∧ jj ≤ x.length ∧ GS w ls.length bv2 xs2 p' wi ∧ RowsLe p' (1000 * k + jj) ∧ prevN ls.length (k + 1) (ls.drop (k + 1)) (prevRow ls.length k (x.drop jj) p') = P) (fun j _ => x.length - (intOf j).toNat)
      case atStart => exact ⟨0, p, rfl, Nat.zero_le _, HG2.out, HLE.out, HP.out⟩
      case round =>
        obtain ⟨jj, p', rfl, hj, hGi, hle', hp'⟩ := hrel
        have HGi := Lib.hid hGi; clear hGi
        have HLi := Lib.hid hle'; clear hle'
        have HPi := Lib.hid hp'; clear hp'
        have a3 := (HGi.out.below.cell (p := ⟨b, off + k, none⟩) lt3).trans h3
        by_cases hjl : jj < x.length
        · obtain ⟨b5, o5, e5, h6⟩ := h4 jj hjl
          have lt6 := World.block_lt_of_cell? _ _ h6
          simp only at lt6
          have a6 := cell_old HGi.out.below h6
          obtain ⟨t, ht⟩ : ∃ t, t = x[jj]?.getD 0 := ⟨_, rfl⟩
          rw [← ht] at h6 a6
          rw [drop_at x 0 jj hjl, ← ht, prevRow] at HPi
          have HT := Lib.hid ht; clear ht
          subst e5
          by_cases hr : 0 ≤ t ∧ t < (ls.length : Int)
          case neg =>
            rw [if_neg hr] at HPi
            by_cases ht0 : 0 ≤ t
            · have f1 : decide ((0 : Int) ≤ t) = true := by simpa using ht0
              have f2 : decide (t < (ls.length : Int)) = false := by simp; omega
              clear hr ht0
              go_wp2
              go_roundw
              case rel => exact ⟨jj + 1, p', by go_num, by omega, HGi.out, fun i => Nat.le_trans (HLi.out i) (by omega), HPi.out⟩
              case measure => simp [intOf]; omega
            · have f1 : decide ((0 : Int) ≤ t) = false := by simpa using ht0
              clear hr ht0
              go_wp2
              go_roundw
              case rel => exact ⟨jj + 1, p', by go_num, by omega, HGi.out, fun i => Nat.le_trans (HLi.out i) (by omega), HPi.out⟩
              case measure => simp [intOf]; omega
          case pos =>
            rw [if_pos hr] at HPi
            obtain ⟨tn, rfl⟩ := Int.eq_ofNat_of_zero_le hr.1
            have htn : tn < ls.length := by omega
            have f1 : decide ((0 : Int) ≤ (tn : Int)) = true := by simp
            have f2 : decide ((tn : Int) < (ls.length : Int)) = true := by simp; omega
            rw [Int.toNat_natCast] at HPi
            obtain ⟨v0, hc0, how0, hne0, hgs, hfr0⟩ := HGi.out.ps.cell tn (by rw [HGi.out.pl]; exact htn)
            have g1 : wr.cell? ⟨w.heap.size + 1 + 1, 1, none⟩ = some (.slice (some ⟨w.heap.size + 1, 0, none⟩) ls.length ls.length) := by simp [World.cell?, HGi.out.g]
            have hrow := HLi.out tn
            have HOW0 := Lib.hid how0
            clear hr how0
            go_wp2
            refine wp_region_planL (fun W => W.cell? ⟨w.heap.size + 1 + 1, 1, none⟩ = some (.slice (some ⟨w.heap.size + 1, 0, none⟩) ls.length ls.length) ∧ W.cell? ⟨w.heap.size + 1, tn, none⟩ = some v0) 12 plan18b (by kernel_rfl) (by kernel_rfl) (by kernel_rfl) rfl ⟨g1, hc0⟩ ?_
            unfold plan18b
            iterate 9 (refine wpPlanL_take rfl (fun K hK => ?_); go_simp; first | (refine hK _ _ ?_; clear hK K) | (refine ⟨_, fun _ _ => rfl, hK _ _ ?_⟩; clear hK K) | (refine ⟨_, fun _ _ _ => rfl, hK _ _ ?_⟩; clear hK K) | (apply Exists.intro; refine ⟨fun W hW => ?_, hK _ _ ?_⟩; (intro k1; go_simp; try rfl); clear hK K))
            refine wpPlanL_sole rfl (by decide) (fun K hK => ?_)
            go_simp
            have hba : Below wr.heap.size wr (wr.alloc (.cells #[.int .i64 (k : Int)] 3)) := (Below.refl _ _).alloc (Nat.le_refl _) _
            refine ⟨(by first | exact ⟨cell_old hba g1, cell_old hba hc0⟩ | exact cell_old hba hc0 | exact cell_old hba g1), hK _ _ ?_⟩; clear hK K hba
            change wpPlanL _ _ _ _ _ _ _ (wr.drew.alloc _)
            have hszi := HGi.out.below.size
            refine wpPlanL_sole rfl (by decide) (fun K hK => ?_)
            refine step_app1 encInt rfl _ _ rfl rfl (HOW0.out.old (Below.refl _ _).drew) (k : Int) rfl rfl (by show _ * 8 ≤ _; omega) (by unfold maxLen; omega) (Nat.le_refl _) hszi HGi.out.below.drew ?_
            intro v' w1' hown1 hb1 hgr hloc
            obtain ⟨hput, hcw, hfw⟩ := (HGi.out.ps.old (Below.refl _ _).drew).put tn (by rw [HGi.out.pl]; exact htn) (v := v0) hc0 hown1 hgr hloc
            have hgne : some (w.heap.size + 1 + 1) ≠ v0.ownBlock := (HOW0.out.notIn HGi.out.g (by decide)).symm
            have hrne : some w.heap.size ≠ v0.ownBlock := by
              obtain ⟨u1, u2, hh⟩ := HGi.out.res
              exact (HOW0.out.notIn hh (by decide)).symm
            have hgl : w.heap.size + 1 + 1 < wr.drew.heap.size := (Array.getElem?_eq_some_iff.1 HGi.out.g).1
            have gg : w1'.heap[w.heap.size + 1 + 1]? = some (.cells #[bv2, .slice (some ⟨w.heap.size + 1, 0, none⟩) ls.length ls.length] 25 (0, 0)) := (hgr.block _ hgl hgne).trans HGi.out.g
            have g1' : w1'.cell? ⟨w.heap.size + 1 + 1, 1, none⟩ = some (.slice (some ⟨w.heap.size + 1, 0, none⟩) ls.length ls.length) := by simp [World.cell?, gg]
            have hG3 : GS w ls.length bv2 xs2 (p'.set tn (p'[tn]?.getD [] ++ [(k : Int)])) (w1'.setCell ⟨w.heap.size + 1, tn, none⟩ v') := by
              refine ⟨?_, ?_, ?_, hput, by rw [List.length_set]; exact HGi.out.pl, hb1.setCell (by show w.heap.size ≤ w.heap.size + 1; omega) _⟩
              · obtain ⟨u1, u2, hh⟩ := HGi.out.res
                refine ⟨u1, u2, ?_⟩
                rw [Below.heap_setCell _ _ _ _ (by show w.heap.size ≠ w.heap.size + 1; omega)]
                exact (hgr.block _ (Array.getElem?_eq_some_iff.1 hh).1 hrne).trans hh
              · rw [Below.heap_setCell _ _ _ _ (by show w.heap.size + 1 + 1 ≠ w.heap.size + 1; omega)]; exact gg
              · have hbs : OwnL encB w1' w.heap.size bv2 xs2 := World.ownsRow.kept (HGi.out.bs.old (Below.refl _ _).drew) hgr ((HGi.out.bs).apart HOW0.out (by decide))
                refine hbs.setAt ?_ _
                have hpb : ∃ cs, w1'.heap[w.heap.size + 1]? = some (.cells cs 26 (0, 0)) := by
                  obtain ⟨vs, _, _, hh, h4', _⟩ := HGi.out.ps
                  refine ⟨vs.toArray, (hgr.block _ (Array.getElem?_eq_some_iff.1 hh).1 ?_).trans hh⟩
                  exact (HOW0.out.notIn hh (by decide)).symm
                obtain ⟨cs, hh⟩ := hpb
                exact hbs.notIn hh (by decide)
            refine ⟨⟨g1', hcw⟩, hK _ _ ?_⟩; clear hK K
            iterate 1 (refine wpPlanL_take rfl (fun K hK => ?_); go_simp; first | (refine hK _ _ ?_; clear hK K) | (refine ⟨_, fun _ _ => rfl, hK _ _ ?_⟩; clear hK K) | (refine ⟨_, fun _ _ _ => rfl, hK _ _ ?_⟩; clear hK K))
            obtain ⟨A7, c7, hv7⟩ := hown1.shape
            rw [List.length_append, List.length_singleton] at hv7
            subst hv7
            have HG3 := Lib.hid hG3
            clear hown1 hb1 hgr hloc gg hgne hrne hput hG3
            refine wpPlanL_last rfl (fun K hK => ?_)
            go_simp
            refine hK _ _ ?_; clear hK K
            refine wpPlanL_nil ?_
            obtain ⟨w3, hw3⟩ : ∃ w3, w3 = w1'.setCell ⟨w.heap.size + 1, tn, none⟩ (.slice A7 ((p'[tn]?.getD []).length + 1) c7) := ⟨_, rfl⟩
            rw [← hw3] at HG3
            rw [← hw3]
            clear hw3 g1 g1' hcw hfw hc0 hfr0
            go_wp2
            go_roundw
            case rel => exact ⟨jj + 1, _, by go_num, by omega, HG3.out, HLi.out.put tn (k : Int), HPi.out⟩
            case measure => simp [intOf]; omega
        · have hdr : x.drop jj = [] := List.drop_of_length_le (by omega)
          rw [hdr, prevRow] at HPi
          clear hdr
          go_wp2
          go_roundw
          case rel => exact ⟨k + 1, bv2, xs2, p', by go_num, by omega, HXS2.out, HGi.out, HB2.out, fun i => Nat.le_trans (HLi.out i) (by omega), HPi.out⟩
          case measure => simp [intOf]; omega
    · have hdr : ls.drop k = [] := List.drop_of_length_le (by omega)
      rw [hdr, prevN] at HP
      have hxn : xs.length = ls.length := by have := HXL'.out; omega
      have g0 : wr.cell? ⟨w.heap.size + 1 + 1, 0, none⟩ = some bv := by simp [World.cell?, HG.out.g]
      have g1 : wr.cell? ⟨w.heap.size + 1 + 1, 1, none⟩ = some (.slice (some ⟨w.heap.size + 1, 0, none⟩) ls.length ls.length) := by simp [World.cell?, HG.out.g]
      obtain ⟨u1, u2, hres⟩ := HG.out.res
      have r0 : wr.cell? ⟨w.heap.size, 0, none⟩ = some u1 := by simp [World.cell?, hres]
      have r1 : wr.cell? ⟨w.heap.size, 1, none⟩ = some u2 := by simp [World.cell?, hres]
      have r2 : wr.frozen? ⟨w.heap.size, 0, none⟩ = false := by simp [World.frozen?, hres]
      have r3 : wr.frozen? ⟨w.heap.size, 1, none⟩ = false := by simp [World.frozen?, hres]
      obtain ⟨A6, c6, hbv, hblks⟩ := HG.out.bs.blks HB.out HG.out.below hxn
      have HRES := Lib.hid hres; clear hres hdr
      clear hblks
      subst hbv
      go_wp2
      have h1 := heap_setCell_row HRES.out 0 (.slice A6 ls.length c6)
      have h2 := heap_setCell_row h1 1 (.slice (some ⟨w.heap.size + 1, 0, none⟩) ls.length ls.length)
      obtain ⟨wf, hwf⟩ : ∃ wf, wf = (wr.setCell ⟨w.heap.size, 0, none⟩ (.slice A6 ls.length c6)).setCell ⟨w.heap.size, 1, none⟩ (.slice (some ⟨w.heap.size + 1, 0, none⟩) ls.length ls.length) := ⟨_, rfl⟩
      have hbf : Below w.heap.size w wf := hwf ▸ (HG.out.below.setCell (Nat.le_refl _) _).setCell (Nat.le_refl _) _
      have n1 : w.heap.size + 1 ≠ w.heap.size := by omega
      have hbs : OwnL encB wf w.heap.size (.slice A6 ls.length c6) xs := by
        rw [hwf]
        have q1 := HG.out.bs.setAt (p := ⟨w.heap.size, 0, none⟩) (HG.out.bs.notIn HRES.out (by decide)) (.slice A6 ls.length c6)
        exact q1.setAt (p := ⟨w.heap.size, 1, none⟩) (q1.notIn h1 (by decide)) _
      have hps : OwnRows encInt wf w.heap.size (w.heap.size + 1) 26 p := by
        rw [hwf]
        exact (HG.out.ps.setAt (p := ⟨w.heap.size, 0, none⟩) HRES.out (by decide) n1 _).setAt (p := ⟨w.heap.size, 1, none⟩) h1 (by decide) n1 _
      obtain ⟨A7, c7, hv7, hblk7⟩ := hbs.blks HB.out hbf hxn
      cases hv7
      have hrw := hps.rows HG.out.pl (by omega)
      obtain ⟨A8, c8, hv8, hrw8, _⟩ := hrw
      have hpP : p = P := HP.out
      refine bodyPost_cell (g := w.heap.size) rfl rfl h2 Try.underlying25 rfl Try.size25 rfl ⟨_, rfl, ?_, by rw [← hwf]; exact hbf⟩
      rw [← hwf]
      refine ⟨A6, c6, some ⟨w.heap.size + 1, 0, none⟩, ls.length, ?_, ?_, ?_, ?_, ?_⟩
      · have e1 : (graphOf ls).blocks.length = ls.length := by simp [graphOf]
        have e2 : (graphOf ls).prev.length = ls.length := by show (prevN ls.length 0 ls (List.replicate ls.length [])).length = _; rw [← HP0.out, ← hpP]; exact HG.out.pl
        rw [e1, e2]; rfl
      · exact hblk7
      · have : (graphOf ls).prev = p := by show prevN ls.length 0 ls (List.replicate ls.length []) = _; rw [← HP0.out, ← hpP]
        rw [this]
        injection hv8 with a8 _ _
        rw [a8]
        exact hrw8
      · simp [graphOf]; omega
      · have e2 : (graphOf ls).prev.length = ls.length := by show (prevN ls.length 0 ls (List.replicate ls.length [])).length = _; rw [← HP0.out, ← hpP]; exact HG.out.pl
        rw [e2]; omega
end Go.Proofs.Ytfoimgkgkjhbeaa
