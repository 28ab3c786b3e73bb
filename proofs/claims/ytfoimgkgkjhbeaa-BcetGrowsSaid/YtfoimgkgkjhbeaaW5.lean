/- The walk of bcet's relax. -/
import Derived.Test.YtfoimgkgkjhbeaaB3
import Derived.Deep.LoopGhost
namespace Go.Proofs.Ytfoimgkgkjhbeaa
open Go.RowKit

def RelaxRel (S : Srch) (w0 w : World) (I : List Rest → Prop) (out : List Rest) (f : Nat) (ch : Bool) (wr : World) : Prop :=
  ∃ rs, SAt S w0 wr rs ∧ Below w0.heap.size w0 wr ∧ I rs ∧ (if ch then relaxN S.cb S.ce S.idx S.g.blocks f rs = some out else rs = out)
def SweepRel (S : Srch) (w0 : World) (I : List Rest → Prop) (fin : List Rest × Bool) (k : Nat) (ch : Bool) (wr : World) : Prop :=
  ∃ rs, SAt S w0 wr rs ∧ I rs ∧ sweepF S.cb S.ce S.idx (S.g.blocks.drop k) k rs ch = fin

def BestRel (S : Srch) (w0 : World) (rs : List Rest) (k : Nat) (l : List Int) (bst : Rest) (bb j : Nat) (wi : World) : Prop :=
  ∃ best : Rest, SAt S w0 wi rs ∧ wi.heap[bb]? = some (.cells #[.int .i64 best.cost, .int .i64 best.blocks, .bool best.ok] 59 (0, 0)) ∧ (l.drop j).foldl (pickF S.cb S.ce S.idx rs k) best = bst
theorem cells3 {w : World} {b : Nat} {v0 v1 v2 : Value} {t : TypeId} (h : w.heap[b]? = some (.cells #[v0, v1, v2] t (0, 0))) :
    w.cell? ⟨b, 0, none⟩ = some v0 ∧ w.cell? ⟨b, 1, none⟩ = some v1 ∧ w.cell? ⟨b, 2, none⟩ = some v2 ∧ w.frozen? ⟨b, 0, none⟩ = false ∧ w.frozen? ⟨b, 1, none⟩ = false ∧ w.frozen? ⟨b, 2, none⟩ = false ∧ b < w.heap.size := by
  refine ⟨?_, ?_, ?_, ?_, ?_, ?_, (Array.getElem?_eq_some_iff.1 h).1⟩ <;> simp [World.cell?, World.frozen?, h]
theorem heap_alloc_next (w : World) (o o' : Obj) : ((w.alloc o).alloc o').heap[w.heap.size + 1]? = some o' := by
  have := heap_alloc_new (w.alloc o) o'
  have hs : (w.alloc o).heap.size = w.heap.size + 1 := by simp
  rwa [hs] at this
theorem heap_old {w w1 : World} (hb : Below w.heap.size w w1) {b : Nat} {o : Obj} (h : w.heap[b]? = some o) : w1.heap[b]? = some o :=
  (hb.block b (Array.getElem?_eq_some_iff.1 h).1).trans h

set_option maxRecDepth 100000 in
set_option maxHeartbeats 1000000 in
theorem relax_any (S : Srch) (w0 w : World) (I : List Rest → Prop) (hS : SOk S) (hI : RInv S I) (rs : List Rest) (h : SAt S w0 w rs) (hi : I rs) (f : Nat) (out : List Rest) (hf : relaxN S.cb S.ce S.idx S.g.blocks f rs = some out) :
    Calls Try.prog 21 #[.pointer (some ⟨S.sb, 0, none⟩)] w fun e w' => e = .returned (.tuple #[]) ∧ SAt S w0 w' out ∧ I out := by
  have HS := Lib.hid hS; clear hS
  have HI := Lib.hid hI; clear hI
  go_enter Try.func21, Try.ntmps21
  go_wp2
  go_loopg [2] f (fun fu c wr => ∃ ch, c = .bool ch ∧ RelaxRel S w0 w I out fu ch wr)
  case atStart => exact ⟨true, rfl, rs, h, h.below, hi, hf⟩
  case round =>
    obtain ⟨ch, rfl, rs, h, hbw, hi, hf⟩ := hrel
    cases ch with
    | false =>
      simp only [Bool.false_eq_true, if_false] at hf
      subst hf
      have H := Lib.hid h; clear h
      go_wp2
      go_end0
      exact ⟨rfl, H.out, hi⟩
    | true =>
      simp only [if_true] at hf
      cases gk with
      | zero => exact absurd hf (by simp [relaxN])
      | succ fu =>
        rw [relaxN] at hf
        obtain ⟨fin, hfin⟩ : ∃ fin, fin = sweepF S.cb S.ce S.idx S.g.blocks 0 rs false := ⟨_, rfl⟩
        rw [← hfin] at hf
        have HF := Lib.hid hf; clear hf
        have HFIN := Lib.hid hfin; clear hfin
        obtain ⟨g0, g1, g2, g3, g5, g6⟩ := h.cell
        have H := Lib.hid h; clear h
        go_wp2
        go_loopw [16, 2] (fun i c wi => ∃ (k : Nat) (ch : Bool), i = .int .i64 k ∧ c = .bool ch ∧ k ≤ S.g.blocks.length ∧ SweepRel S w0 I fin k ch wi) (fun i _ _ => S.g.blocks.length - (intOf i).toNat)
        case atStart => exact ⟨0, false, rfl, rfl, Nat.zero_le _, rs, H.out, hi, HFIN.out.symm⟩
        case round =>
          obtain ⟨k, ch, rfl, rfl, hk, rs2, h2, hi2, hsw⟩ := hrel
          clear g0 g1 g2 g3 g5 g6
          have hsm : S.g.blocks.length ≤ 1152921504606846976 := HS.out.small
          by_cases hlt : k < S.g.blocks.length
          · obtain ⟨b, off, nA, nc, e1, d1, d2, d3, d4, d5⟩ := h2.blks k hlt
            obtain ⟨x, hx⟩ : ∃ x, x = S.g.blocks[k]?.getD default := ⟨_, rfl⟩
            rw [drop_at S.g.blocks default k hlt, ← hx, sweepF] at hsw
            rw [← hx] at d1 d2 d3 d4 d5
            have HX := Lib.hid hx; clear hx
            have a1 := cell_old h2.below d1
            have a2 := cell_old h2.below d2
            have a3 := cell_old h2.below d3
            have a4 := d4.old h2.below
            clear d1 d2 d3 d4
            have hrl := HI.out.len rs2 hi2
            obtain ⟨r1, r2, r3⟩ := h2.rest k (by omega)
            have hkr : k < rs2.length := by omega
            have HRL := Lib.hid hrl; clear hrl
            obtain ⟨r, hr⟩ : ∃ r, r = rs2[k]?.getD default := ⟨_, rfl⟩
            rw [← hr] at r1 r2 r3 hsw
            obtain ⟨bst, hbst⟩ : ∃ bst, bst = bestF S.cb S.ce S.idx rs2 k x.next := ⟨_, rfl⟩
            rw [← hbst] at hsw
            have HSW := Lib.hid hsw; clear hsw
            have HR := Lib.hid hr; clear hr
            obtain ⟨g0, g1, g2, g3, g5, g6⟩ := h2.cell
            obtain ⟨lt1, lt2, lt3⟩ := h2.lts
            have lt4 := World.block_lt_of_cell? _ _ a1
            simp only at lt4
            have HBST := Lib.hid hbst; clear hbst
            have H2 := Lib.hid h2; clear h2
            have hkb : k < S.cb.length := by rw [HS.out.n]; exact hlt
            obtain ⟨b4, o4, e4, k4⟩ := H2.out.ib k hkb
            have a6 := cell_old H2.out.below k4
            clear k4
            obtain ⟨cost, hcost⟩ : ∃ c, c = S.cb[k]?.getD 0 := ⟨_, rfl⟩
            rw [← hcost] at a6
            have HCO := Lib.hid hcost; clear hcost
            have lt5 := World.block_lt_of_cell? _ _ a6
            simp only at lt5
            rw [e1] at g0
            rw [e4] at g2
            have hnx : (x.next.length = 0 ∧ ((x.next.length : Int) == 0) = true) ∨ (¬ x.next.length = 0 ∧ ((x.next.length : Int) == 0) = false) := by
              by_cases h0 : x.next.length = 0
              · left; exact ⟨h0, by rw [h0]; rfl⟩
              · right; exact ⟨h0, by simpa using h0⟩
            have hbest : bst = x.next.foldl (pickF S.cb S.ce S.idx rs2 k) (if x.next.length = 0 then ⟨cost, 1, true⟩ else r) := by rw [HBST.out]; unfold bestF; rw [HCO.out, HR.out]
            have HB0 := Lib.hid hbest; clear hbest
            rcases hnx with ⟨hnx, hz⟩ | ⟨hnx, hz⟩
            all_goals
              have HNX := Lib.hid hnx; clear hnx
              go_wp2
              obtain ⟨wo, hwo⟩ : ∃ wo : World, wo = wr := ⟨_, rfl⟩
              rw [← hwo] at H2 a1 a2 a3 a4 a6 g0 g1 g2 g3 g5 g6 r1 r2 r3 lt1 lt2 lt3 lt4 lt5 ⊢
              have a5 : IntsAt wo nA x.next := a4
              clear hwo a1 a2 a3 a4 a6 g0 g1 g2 g3 g5 g6 r1 r2 r3 e1 e4
              go_loopw [44] (fun j wi => ∃ jj : Nat, j = .int .i64 jj ∧ jj ≤ x.next.length ∧ Below wo.heap.size wo wi ∧ BestRel S w0 rs2 k x.next bst (wo.heap.size + 1) jj wi) (fun j _ => x.next.length - (intOf j).toNat)
              case atStart =>
                have hbel : ∀ o1 o2 : Obj, Below wo.heap.size wo ((wo.alloc o1).alloc o2) := fun o1 o2 => ((Below.refl _ _).alloc (Nat.le_refl _) _).alloc (by simp) _
                first
                  | exact ⟨0, rfl, Nat.zero_le _, hbel _ _, r, H2.out.old (hbel _ _), heap_alloc_next wo _ _, by rw [HB0.out, if_neg HNX.out]; rfl⟩
                  | exact ⟨0, rfl, Nat.zero_le _, hbel _ _, ⟨cost, 1, true⟩, H2.out.old (hbel _ _), heap_alloc_next wo _ _, by rw [HB0.out, if_pos HNX.out]; rfl⟩
              case round =>
                obtain ⟨jj, rfl, hjj, hbo, best, h3, hbb, hbs⟩ := hrel
                by_cases hjl : jj < x.next.length
                · obtain ⟨b3, o3, e3, h8⟩ := a5 jj hjl
                  have g8 := cell_old hbo h8
                  clear h8
                  obtain ⟨sn, i, es, hsn, hal, hil, hce⟩ := HS.out.edge k jj hlt (by rw [← HX.out]; exact hjl)
                  rw [← HX.out] at es
                  rw [es] at g8
                  rw [drop_at x.next 0 jj hjl, es, List.foldl_cons] at hbs
                  obtain ⟨rv, hrv⟩ : ∃ rv, rv = viaF S.cb S.ce S.idx rs2 k sn := ⟨_, rfl⟩
                  have hpick : pickF S.cb S.ce S.idx rs2 k best (sn : Int) = if rv.better best then rv else best := by unfold pickF; rw [Int.toNat_natCast, ← hrv]
                  rw [hpick] at hbs
                  have HBS := Lib.hid hbs; clear hbs hpick
                  have hvia := via_any S w0 wr rs2 h3 k sn (by rw [HS.out.n]; exact hlt) (by rw [HRL.out]; exact hsn) i hal hil (HI.out.small rs2 hi2 sn).1 (HI.out.small rs2 hi2 sn).2 (HS.out.cost k) hce (by have := HS.out.small; omega) (by have := HS.out.small; omega)
                  rw [← hrv] at hvia
                  have HRV := Lib.hid hrv; clear hrv
                  have HVIA := Lib.hid hvia; clear hvia
                  have H3 := Lib.hid h3; clear h3
                  have HBB := Lib.hid hbb; clear hbb
                  have ES := Lib.hid es; clear es
                  have HAL := Lib.hid hal; clear hal
                  have lt7 : wo.heap.size + 1 < wr.heap.size := (Array.getElem?_eq_some_iff.1 HBB.out).1
                  cases e3
                  by_cases hbt : rv.better best = true
                  · have HBT := Lib.hid hbt; clear hbt
                    go_wp2_with (first
                      | (go_at_call 32; refine HVIA.out.mono ?_; rintro e w1 ⟨rfl, hb1⟩; obtain ⟨q0, q1, q2, q3, q4, q5, q6⟩ := cells3 (heap_old hb1 HBB.out); unfold Rest.V)
                      | (go_at_call 33; refine (better_any _ _ _).mono ?_; rintro e w2 ⟨rfl, hb2⟩; rw [HBT.out]; have HB1 : Hid (Below wr.heap.size wr w1) := hb1; have hn1 := heap_old hb2 (heap_alloc_new w1 (.cells #[.int .i64 rv.cost, .int .i64 rv.blocks, .bool rv.ok] 59)); have hn2 := heap_old hb2 (heap_old ((Below.refl w1.heap.size w1).alloc (Nat.le_refl _) (.cells #[.int .i64 rv.cost, .int .i64 rv.blocks, .bool rv.ok] 59)) (heap_old hb1 HBB.out)); obtain ⟨t0, t1, t2, t3, t4, t5, t6⟩ := cells3 hn1; obtain ⟨s0, s1, s2, s3, s4, s5, s6⟩ := cells3 hn2; have HN2 := Lib.hid hn2; clear hn1 hn2; have HB12 : Hid (Below wr.heap.size wr w2) := (hb1.trans (((Below.refl w1.heap.size w1).alloc (Nat.le_refl _) (.cells #[.int .i64 rv.cost, .int .i64 rv.blocks, .bool rv.ok] 59)).mono hb1.size)).trans (hb2.mono (Nat.le_trans hb1.size (by simp)))))
                    go_roundw
                    case rel =>
                      have h4 := H3.out.old HB12.out
                      have hsz := HB12.out.size
                      have l1 := H3.out.hsb
                      have l2 := H3.out.hmb
                      have l3 := H3.out.hrb
                      have l4 := H3.out.below.size
                      have l5 := H2.out.below.size
                      refine ⟨jj + 1, by go_num, by omega, ?_, rv, ?_, ?_, by rw [← HBS.out, if_pos HBT.out]⟩
                      · exact (((hbo.trans (HB12.out.mono hbo.size)).setCell (by simp) _).setCell (by simp) _).setCell (by simp) _
                      · exact ((h4.far (by simp; omega) (by simp; omega) (by simp; omega) (by simp; omega) _).far (by simp; omega) (by simp; omega) (by simp; omega) (by simp; omega) _).far (by simp; omega) (by simp; omega) (by simp; omega) (by simp; omega) _
                      · exact heap_setCell_row (heap_setCell_row (heap_setCell_row HN2.out 0 _) 1 _) 2 _
                    case measure => simp [intOf]; omega
                  · have hbt' : rv.better best = false := by simpa using hbt
                    have HBT := Lib.hid hbt'; clear hbt hbt'
                    go_wp2_with (first
                      | (go_at_call 32; refine HVIA.out.mono ?_; rintro e w1 ⟨rfl, hb1⟩; obtain ⟨q0, q1, q2, q3, q4, q5, q6⟩ := cells3 (heap_old hb1 HBB.out); unfold Rest.V)
                      | (go_at_call 33; refine (better_any _ _ _).mono ?_; rintro e w2 ⟨rfl, hb2⟩; rw [HBT.out]; have HB1 : Hid (Below wr.heap.size wr w1) := hb1; have hn1 := heap_old hb2 (heap_alloc_new w1 (.cells #[.int .i64 rv.cost, .int .i64 rv.blocks, .bool rv.ok] 59)); have hn2 := heap_old hb2 (heap_old ((Below.refl w1.heap.size w1).alloc (Nat.le_refl _) (.cells #[.int .i64 rv.cost, .int .i64 rv.blocks, .bool rv.ok] 59)) (heap_old hb1 HBB.out)); obtain ⟨t0, t1, t2, t3, t4, t5, t6⟩ := cells3 hn1; obtain ⟨s0, s1, s2, s3, s4, s5, s6⟩ := cells3 hn2; have HN2 := Lib.hid hn2; clear hn1 hn2; have HB12 : Hid (Below wr.heap.size wr w2) := (hb1.trans (((Below.refl w1.heap.size w1).alloc (Nat.le_refl _) (.cells #[.int .i64 rv.cost, .int .i64 rv.blocks, .bool rv.ok] 59)).mono hb1.size)).trans (hb2.mono (Nat.le_trans hb1.size (by simp)))))
                    go_roundw
                    case rel =>
                      have h4 := H3.out.old HB12.out
                      refine ⟨jj + 1, by go_num, by omega, hbo.trans (HB12.out.mono hbo.size), best, h4, HN2.out, by rw [← HBS.out, if_neg (by rw [HBT.out]; simp)]⟩
                    case measure => simp [intOf]; omega
                · rw [List.drop_of_length_le (by omega), List.foldl_nil] at hbs
                  subst hbs
                  obtain ⟨q0, q1, q2, q3, q4, q5, q6⟩ := cells3 hbb
                  obtain ⟨r1, r2, r3⟩ := h3.rest k hkr
                  rw [← HR.out] at r1 r2 r3
                  obtain ⟨g0, g1, g2, g3, g5, g6⟩ := h3.cell
                  have H3 := Lib.hid h3; clear h3
                  have HBB := Lib.hid hbb; clear hbb
                  by_cases hch : best = r
                  · have heq : ∀ wx, (Op.equalIn 10000 59 (.agg #[.int .i64 best.cost, .int .i64 best.blocks, .bool best.ok]) (.agg #[.int .i64 r.cost, .int .i64 r.blocks, .bool r.ok])).run Try.prog wx = .ok true wx := fun wx => by rw [run_eq_rest]; simp [hch]
                    have HCH := Lib.hid hch; clear hch
                    go_wp2
                    go_quiet (fail)
                    go_wp2
                    go_roundw
                    case rel => exact ⟨k + 1, ch, by go_num, rfl, by omega, rs2, H3.out.old (drewN_below (Below.refl _ _) _), hi2, by rw [← HSW.out, if_pos HCH.out]⟩
                    case measure => simp [intOf]; omega
                  · have heq : ∀ wx, (Op.equalIn 10000 59 (.agg #[.int .i64 best.cost, .int .i64 best.blocks, .bool best.ok]) (.agg #[.int .i64 r.cost, .int .i64 r.blocks, .bool r.ok])).run Try.prog wx = .ok false wx := fun wx => by rw [run_eq_rest]; simp [hch]
                    have HCH := Lib.hid hch; clear hch
                    go_wp2
                    go_quiet (fail)
                    have hbd : Below wr.heap.size wr (wr.drewN nq) := drewN_below (Below.refl _ _) _
                    generalize wr.drewN nq = w5 at hbd ⊢
                    have j0 := cell_old hbd g6
                    obtain ⟨t0, t1, t2, _, _, _, t6⟩ := cells3 (heap_old hbd HBB.out)
                    have h5 := H3.out.old hbd
                    obtain ⟨u1, u2, u3⟩ := h5.rest k hkr
                    obtain ⟨f1, f2, f3⟩ := h5.frz k
                    have H5 := Lib.hid h5; clear h5
                    clear q0 q1 q2 q3 q4 q5 q6 r1 r2 r3 g0 g1 g2 g3 g5 g6
                    go_wp2
                    go_still_tail 7, (by kernel_rfl)
                    change wpList _ _ _ _ _ w5.drew
                    go_wp2
                    go_roundw
                    case rel =>
                      refine ⟨k + 1, true, by go_num, rfl, by omega, rs2.set k best, ?_, ?_, by rw [← HSW.out, if_neg HCH.out]⟩
                      · exact ((H5.out.old ((Below.refl _ _).drew)).put k hkr best)
                      · have := HI.out.step rs2 k hi2 hlt
                        rw [← HX.out, ← HBST.out] at this
                        exact this
                    case measure => simp [intOf]; omega
          · rw [List.drop_of_length_le (by omega), sweepF] at hsw
            have hfo := HF.out
            rw [← hsw] at hfo
            have HFO := Lib.hid hfo; clear hfo hsw
            have H2 := Lib.hid h2; clear h2
            go_wp2
            go_roundg fu
            case measure => omega
            case rel =>
              refine ⟨ch, rfl, rs2, H2.out, H2.out.below, hi2, ?_⟩
              have := HFO.out
              cases ch with
              | true => simpa using this
              | false => simpa using this
end Go.Proofs.Ytfoimgkgkjhbeaa
