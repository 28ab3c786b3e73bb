/- The costs that the law BcetGrows makes, and what a call of Shortest gives with them. -/
import Derived.Test.YtfoimgkgkjhbeaaL6
namespace Go.Proofs.Ytfoimgkgkjhbeaa
open Go.RowKit

def dear0 (c : Cst) (j : Nat) (d : Int) : Cst := { block := c.block.set j (c.block[j]?.getD 0 + d), edge := c.edge, once := 0 }
def barr0 (c : Cst) (j : Nat) (v : Int) : Cst := { block := c.block, edge := c.edge.set j v, once := 0 }
theorem good_dear0 {g : Gr} {c : Cst} {j : Nat} {d : Int} (h : GoodIn g (dearer c j d)) : GoodIn g (dear0 c j d) := ⟨h.v, h.bl, h.el, h.nn, h.small, h.mb, h.me⟩
theorem good_barr0 {g : Gr} {c : Cst} {j : Nat} {d : Int} (h : GoodIn g (barred c j d)) : GoodIn g (barr0 c j d) := ⟨h.v, h.bl, h.el, h.nn, h.small, h.mb, h.me⟩
theorem found_dear0 {g : Gr} {c : Cst} {j : Nat} {d : Int} {rs : List Rest} (h : Found g (dear0 c j d) rs) : Found g (dearer c j d) rs := ⟨⟨h.ip.len, h.ip.no, h.ip.inv⟩, h.fix, h.run⟩
theorem found_barr0 {g : Gr} {c : Cst} {j : Nat} {d : Int} {rs : List Rest} (h : Found g (barr0 c j d) rs) : Found g (barred c j d) rs := ⟨⟨h.ip.len, h.ip.no, h.ip.inv⟩, h.fix, h.run⟩
theorem resCost_bounds {g : Gr} {c : Cst} (hg : GoodIn g c) {rs : List Rest} (hF : Found g c rs) : 0 ≤ resCost (rs[0]?.getD default) ∧ resCost (rs[0]?.getD default) ≤ 42949678080 := by
  cases h : (rs[0]?.getD default).ok with
  | true =>
    obtain ⟨z1, z2, _⟩ := res_yes h []
    obtain ⟨b1, b2, _⟩ := absP_bounds hg hF.ip 0 h
    rw [z2]; exact ⟨b1, b2⟩
  | false =>
    obtain ⟨z1, z2, _⟩ := res_no h []
    rw [z2]; omega
theorem dear_call {g : Gr} {c : Cst} (hg : GoodIn g c) (hm : ∀ i : Nat, c.block[i]?.getD 0 ≤ 1073741824) {j : Nat} (hj : j < c.block.length) {d : Int} (h0 : 0 ≤ d) (h1 : d ≤ 255) {rs : List Rest} (hF : Found g c rs) :
    ∃ ra : Int, resCost (rs[0]?.getD default) ≤ ra ∧ ra ≤ resCost (rs[0]?.getD default) + d * (g.blocks.length : Int) ∧ ∀ (w : World) (gv cv : Value), GraphV w gv g → CostsV w cv (dear0 c j d) →
      Calls Try.prog 10 #[gv, cv] w fun e w' => ∃ u, e = .returned (.tuple #[.int .i64 ra, u, .bool (resOk (rs[0]?.getD default))]) ∧ Below w.heap.size w w' := by
  have hd := good_dearer hg hm hj h0 h1
  obtain ⟨rs2, hF2⟩ := found (good_dear0 hd)
  obtain ⟨k1, k2, k3⟩ := grows_a hg hj h0 hd hF (found_dear0 hF2)
  refine ⟨_, k2, k3, fun w gv cv h1 h2 => ?_⟩
  rw [← k1]
  exact (shortest_is (good_dear0 hd) hF2 w gv cv h1 h2).mono fun e w' ⟨u, h, _, k⟩ => ⟨u, h, k⟩
theorem barr_call {g : Gr} {c : Cst} (hg : GoodIn g c) {j : Nat} (hj : j < c.edge.length) {v : Int} (h0 : v < 0) {rs : List Rest} (hF : Found g c rs) :
    ∃ (rb : Int) (ob : Bool), (ob = true → resOk (rs[0]?.getD default) = true ∧ resCost (rs[0]?.getD default) ≤ rb) ∧ ∀ (w : World) (gv cv : Value), GraphV w gv g → CostsV w cv (barr0 c j v) →
      Calls Try.prog 10 #[gv, cv] w fun e w' => ∃ u, e = .returned (.tuple #[.int .i64 rb, u, .bool ob]) ∧ Below w.heap.size w w' := by
  have hd := good_barred hg hj h0
  obtain ⟨rs2, hF2⟩ := found (good_barr0 hd)
  refine ⟨_, _, grows_b hg hj h0 hF (found_barr0 hF2), fun w gv cv h1 h2 => ?_⟩
  exact (shortest_is (good_barr0 hd) hF2 w gv cv h1 h2).mono fun e w' ⟨u, h, _, k⟩ => ⟨u, h, k⟩
/-- A slice of ints of the call's own lies in a block of ints. -/
theorem OwnL.at {w : World} {base : Nat} {A : Option Addr} {n c : Nat} {xs : List Int} (h : OwnL encInt w base (.slice A n c) xs) (h0 : 0 < xs.length) :
    ∃ b cs, A = some ⟨b, 0, none⟩ ∧ base ≤ b ∧ w.heap[b]? = some (.cells cs 3 (0, 0)) := by
  obtain ⟨h1, h2⟩ := h
  rcases h2 with ⟨_, h3⟩ | ⟨g, cap, cur, hv, hg, hh, hn, hcap, hsz, htake⟩
  · have : xs.length = 0 := h3
    omega
  · injection hv with e1 e2 e3
    exact ⟨g, cur, e1, hg, hh⟩
end Go.Proofs.Ytfoimgkgkjhbeaa
