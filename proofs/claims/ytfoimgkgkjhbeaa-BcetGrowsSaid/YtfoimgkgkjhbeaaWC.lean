/- The walks of path's closure and of slices.IndexFunc with it. -/
import Derived.Test.YtfoimgkgkjhbeaaW5
import Derived.Test.YtfoimgkgkjhbeaaW6
import Derived.Test.YtfoimgkgkjhbeaaBR
namespace Go.Proofs.Ytfoimgkgkjhbeaa
open Go.RowKit

/-- What via asks of a block and its successor. -/
structure ViaOk (S : Srch) (rs : List Rest) (b s : Nat) : Prop where
  hb : b < S.cb.length
  hs : s < rs.length
  hbr : b < rs.length
  ex : ∃ i : Nat, alook S.idx ((b : Int), (s : Int)) = some (i : Int) ∧ i < S.ce.length ∧ S.ce[i]?.getD 0 ≤ 1152921504606846976
  q1 : Small (rs[s]?.getD default).cost
  q2 : Small (rs[s]?.getD default).blocks
  q3 : Small (S.cb[b]?.getD 0)
  hbn : b ≤ 9223372036854775807
  hsn : s ≤ 9223372036854775807

def plan36 : List (Nat × Bool) := [(0, true), (1, true), (2, true), (4, true), (5, true), (6, true), (7, true), (8, true), (9, true), (10, true), (3, false), (11, true), (12, true)]

set_option maxRecDepth 100000 in
set_option maxHeartbeats 4000000 in
theorem pick_any (S : Srch) (w0 w : World) (rs : List Rest) (h : SAt S w0 w rs) (b s : Nat) (ok : ViaOk S rs b s) (c1 c2 : Nat) (h1 : w.cell? ⟨c1, 0, none⟩ = some (.pointer (some ⟨S.sb, 0, none⟩))) (h2 : w.cell? ⟨c2, 0, none⟩ = some (.int .i64 (b : Int))) :
    Calls Try.prog 36 #[.int .i64 s, .pointer (some ⟨c1, 0, none⟩), .pointer (some ⟨c2, 0, none⟩)] w fun e w' => e = .returned (.bool (decide (viaF S.cb S.ce S.idx rs b s = rs[b]?.getD default))) ∧ Below w.heap.size w w' := by
  have hvia : ∀ W, Below w.heap.size w W → Calls Try.prog 32 #[.pointer (some ⟨S.sb, 0, none⟩), .int .i64 b, .int .i64 s] W fun e w' => e = .returned (viaF S.cb S.ce S.idx rs b s).V ∧ Below W.heap.size W w' := fun W hW => by
    obtain ⟨i, hi, hie, q4⟩ := ok.ex
    exact via_any S w0 W rs (h.old hW) b s ok.hb ok.hs i hi hie ok.q1 ok.q2 ok.q3 q4 ok.hbn ok.hsn
  have HVIA := Lib.hid hvia; clear hvia
  obtain ⟨x, hx⟩ : ∃ x, x = viaF S.cb S.ce S.idx rs b s := ⟨_, rfl⟩
  obtain ⟨r, hr⟩ : ∃ r, r = rs[b]?.getD default := ⟨_, rfl⟩
  rw [← hx, ← hr]
  obtain ⟨g0, g1, g2, g3, g5, g6⟩ := h.cell
  obtain ⟨r1, r2, r3⟩ := h.rest b ok.hbr
  rw [← hr] at r1 r2 r3
  have hbr := ok.hbr
  have HX := Lib.hid hx; clear hx
  have HR := Lib.hid hr; clear hr
  have HO := Lib.hid ok; clear ok
  have HH := Lib.hid h; clear h
  have heq : ∀ wx, (Op.equalIn 10000 59 (.agg #[.int .i64 x.cost, .int .i64 x.blocks, .bool x.ok]) (.agg #[.int .i64 r.cost, .int .i64 r.blocks, .bool r.ok])).run Try.prog wx = .ok (decide (x = r)) wx := fun wx => run_eq_rest wx x r
  go_enter Try.func36, Try.ntmps36
  go_wp2
  refine wp_region_plan (fun W => Below w.heap.size w W) plan36 (by kernel_rfl) (by kernel_rfl) (by kernel_rfl) rfl (Below.refl _ _).drew ?_
  unfold plan36
  iterate 10 (refine wpPlan_take rfl (fun K hK => ?_); go_simp; first | (refine hK _ _ ?_; clear hK K) | (refine ⟨_, fun _ _ => rfl, hK _ _ ?_⟩; clear hK K) | (apply Exists.intro; refine ⟨fun W hW => ?_, hK _ _ ?_⟩; (have k0 := cell_old hW h1; have k1 := cell_old hW h2; have k2 := cell_old hW g6; have k3 := cell_old hW r1; have k4 := cell_old hW r2; have k5 := cell_old hW r3; go_simp; try rfl); clear hK K))
  refine wpPlan_sole rfl (fun K hK => ?_)
  go_simp
  refine (HVIA.out _ (Below.refl _ _).drew).mono ?_
  rintro e w1 ⟨rfl, hb1⟩; rw [← HX.out]
  have hb1' : Below w.heap.size w w1 := ((Below.refl _ _).drew).trans hb1
  refine ⟨hb1', hK _ _ ?_⟩; clear hK K
  unfold Rest.V
  iterate 2 (refine wpPlan_take rfl (fun K hK => ?_); go_simp; first | (refine hK _ _ ?_; clear hK K) | (refine ⟨_, fun _ _ => rfl, hK _ _ ?_⟩; clear hK K) | (apply Exists.intro; refine ⟨fun W hW => ?_, hK _ _ ?_⟩; (go_simp; try rfl); clear hK K))
  refine wpPlan_nil ?_
  go_wp2
  go_ret
  exact ⟨rfl, hb1'⟩

/-- The first successor at which the closure says yes. -/
def tightF (S : Srch) (rs : List Rest) (b : Nat) (t : Int) : Bool := decide (viaF S.cb S.ce S.idx rs b t.toNat = rs[b]?.getD default)

set_option maxRecDepth 100000 in
set_option maxHeartbeats 1000000 in
theorem indexPick_any (S : Srch) (w0 w : World) (rs : List Rest) (h : SAt S w0 w rs) (b : Nat) (c1 c2 : Nat) (h1 : w.cell? ⟨c1, 0, none⟩ = some (.pointer (some ⟨S.sb, 0, none⟩))) (h2 : w.cell? ⟨c2, 0, none⟩ = some (.int .i64 (b : Int)))
    (A : Option Addr) (c : Nat) (xs : List Int) (hx : IntsAt w A xs) (hn : xs.length ≤ 9223372036854775807) (ok : ∀ j, j < xs.length → ∃ s : Nat, xs[j]?.getD 0 = (s : Int) ∧ ViaOk S rs b s) :
    Calls Try.prog 31 #[.slice A xs.length c, .func (.func 36) #[] #[.pointer (some ⟨c1, 0, none⟩), .pointer (some ⟨c2, 0, none⟩)]] w fun e w' => e = .returned (.int .i64 (idxF (tightF S rs b) xs)) ∧ Below w.heap.size w w' := by
  have HOK := Lib.hid ok; clear ok
  have HS := Lib.hid h; clear h
  have H1 := Lib.hid h1; clear h1
  have H2 := Lib.hid h2; clear h2
  go_enter Try.func31, Try.ntmps31
  go_wp2
  go_loopw [8] (fun i wr => ∃ k : Nat, i = .int .i64 k ∧ k ≤ xs.length ∧ Below w.heap.size w wr ∧ (∀ j, j < k → tightF S rs b (xs[j]?.getD 0) = false)) (fun i _ => xs.length - (intOf i).toNat)
  case atStart => exact ⟨0, rfl, by omega, Below.refl _ _, by omega⟩
  case round =>
    obtain ⟨k, rfl, hk, hb, heq⟩ := hrel
    have HE := Lib.hid heq; clear heq
    by_cases hlt : k < xs.length
    · obtain ⟨b1, o1, rfl, h1⟩ := hx k hlt
      have g1 := cell_old hb h1
      clear h1
      obtain ⟨s, hs, hok⟩ := HOK.out k hlt
      rw [hs] at g1
      have HT := Lib.hid hs; clear hs
      have cP := pick_any S w0 wr rs (HS.out.old hb) b s hok c1 c2 (cell_old hb H1.out) (cell_old hb H2.out)
      have HP := Lib.hid cP; clear cP
      have HOk := Lib.hid hok; clear hok
      obtain ⟨tt, htt⟩ : ∃ tt, tt = decide (viaF S.cb S.ce S.idx rs b s = rs[b]?.getD default) := ⟨_, rfl⟩
      have HTT : Hid (tightF S rs b (xs[k]?.getD 0) = tt) := by show tightF S rs b (xs[k]?.getD 0) = tt; rw [HT.out, htt]; rfl
      have HQ := Lib.hid htt; clear htt
      cases tt with
      | true =>
        go_wp2_with (go_at_call 36; refine HP.out.mono ?_; rintro e w' ⟨rfl, hb'⟩; rw [← HQ.out])
        go_ret
        exact ⟨ret_i (idxF_some hlt HTT.out HE.out).symm, hb.trans (hb'.mono hb.size)⟩
      | false =>
        go_wp2_with (go_at_call 36; refine HP.out.mono ?_; rintro e w' ⟨rfl, hb'⟩; rw [← HQ.out])
        go_roundw
        case rel =>
          refine ⟨k + 1, by go_num, by omega, hb.trans (hb'.mono hb.size), ?_⟩
          intro j hj
          by_cases e : j = k
          · subst e; exact HTT.out
          · exact HE.out j (by omega)
        case measure => simp [intOf]; omega
    · go_wp2
      go_ret
      exact ⟨ret_i (idxF_none (fun j hj => HE.out j (by omega))).symm, hb⟩
end Go.Proofs.Ytfoimgkgkjhbeaa
