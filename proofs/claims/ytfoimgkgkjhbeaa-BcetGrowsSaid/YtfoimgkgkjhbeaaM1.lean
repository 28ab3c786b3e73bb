/- What bcet.Shortest and the reference's Shortest give back, in plain words. -/
import Derived.Test.YtfoimgkgkjhbeaaL5
namespace Go.Proofs.Ytfoimgkgkjhbeaa
open Go.RowKit

theorem edgesFrom_len {n : Nat} : ∀ {bs : List Blk} {k : Nat}, (∀ x ∈ bs, BlkOk n x) → (edgesFrom k bs).length ≤ 2 * bs.length := by
  intro bs
  induction bs with
  | nil => intro k _; exact Nat.le_refl _
  | cons b bs ih =>
    intro k h
    have h1 := (h b List.mem_cons_self).two
    have h2 := ih (k := k + 1) (fun x hx => h x (List.mem_cons_of_mem _ hx))
    rw [edgesFrom, List.length_append, List.length_cons]
    unfold edgesOf
    rw [List.length_map]; omega
theorem edges_len {g : Gr} (h : validB g = true) : (edges g).length ≤ 2 * g.blocks.length := edgesFrom_len (valid_ok h).2
theorem edges_small {g : Gr} {c : Cst} (h : GoodIn g c) : (edges g).length ≤ 1048576 := by have := edges_len h.v; have := h.small; omega

theorem relaxN_det {cb ce : List Int} {idx : List ((Int × Int) × Int)} {bs : List Blk} : ∀ {f k : Nat} {rs a b : List Rest}, relaxN cb ce idx bs f rs = some a → relaxN cb ce idx bs k rs = some b → a = b := by
  intro f
  induction f with
  | zero => intro k rs a b h _; cases h
  | succ f ih =>
    intro k rs a b h h'
    cases k with
    | zero => cases h'
    | succ k =>
      rw [relaxN] at h h'
      cases hs : (sweepF cb ce idx bs 0 rs false).2 with
      | true => rw [hs, if_pos rfl] at h h'; exact ih h h'
      | false =>
        rw [hs] at h h'
        have e1 : some (sweepF cb ce idx bs 0 rs false).1 = some a := h
        have e2 : some (sweepF cb ce idx bs 0 rs false).1 = some b := h'
        rw [e1] at e2
        exact Option.some.inj e2

/-- A path as it is given back. -/
def fullPath (g : Gr) (c : Cst) (rs : List Rest) : List Int := 0 :: pathP g c rs (rs[0]?.getD default).blocks.toNat 0

/-- What the search finds. -/
structure Found (g : Gr) (c : Cst) (rs : List Rest) : Prop where
  ip : IP g c rs
  fix : Fix (netOf g c) (absP rs)
  run : ∃ f, relaxN c.block c.edge (putAll (edges g) 0 []) g.blocks f (List.replicate g.blocks.length default) = some rs
theorem found {g : Gr} {c : Cst} (hg : GoodIn g c) : ∃ rs, Found g c rs := by
  obtain ⟨f, rs, h1, h2, h3⟩ := relax_ends hg _ _ (Nat.le_refl _) (ip_start g c)
  exact ⟨rs, h2, fix_of_best hg h2 h3, f, h1⟩

theorem shortest_is {g : Gr} {c : Cst} (hg : GoodIn g c) {rs : List Rest} (hF : Found g c rs) (w : World) (gv cv : Value) (hgv : GraphV w gv g) (hcv : CostsV w cv c) :
    Calls Try.prog 10 #[gv, cv] w fun e w' => ∃ u, e = .returned (.tuple #[.int .i64 (resCost (rs[0]?.getD default)), u, .bool (resOk (rs[0]?.getD default))]) ∧ OwnL encInt w' w.heap.size u (resPath (rs[0]?.getD default) (fullPath g c rs)) ∧ Below w.heap.size w w' := by
  obtain ⟨f, hf⟩ := hF.run
  refine shortest_good w gv cv g c hgv hcv (edges_small hg) (usable_iff.2 ⟨hg.v, hg.bl, hg.el, hg.nn⟩) (fun k hk => ?_) (valid_ok hg.v).1 (IP g c) (search_ok hg) (ip_start g c) f rs hf (fullPath g c rs) ?_
  · obtain ⟨a, b, h1, h2, h3, _⟩ := edge_at hg.v hk
    exact ⟨a, b, h1, h2, h3⟩
  · intro ho S h1 h2 h3 h4
    obtain ⟨k1, k2⟩ := via_ok hg hF.ip S h1 h2 h3 h4
    obtain ⟨b1, b2, b3, b4⟩ := absP_bounds hg hF.ip 0 ho
    refine ⟨k1, k2, (rs[0]?.getD default).blocks.toNat, by omega, ?_⟩
    exact pathN_ok hg hF.ip hF.fix S h1 h2 h3 h4 _ 0 [0] ho (by omega)

theorem ref_is {g : Gr} {c : Cst} (hg : GoodIn g c) {rs : List Rest} (hF : Found g c rs) (w : World) (v bv ev : Value) (hv : RowsV w v (nexts g)) (hbv : IntsV w bv c.block) (hev : IntsV w ev c.edge) :
    Calls Try.prog 12 #[v, bv, ev] w fun e w' => ∃ u, e = .returned (.tuple #[.int .i64 (resCost (rs[0]?.getD default)), u, .bool (resOk (rs[0]?.getD default))]) ∧ OwnL encInt w' w.heap.size u (resPath (rs[0]?.getD default) (fullPath g c rs)) ∧ Below w.heap.size w w' := by
  obtain ⟨f, st, hf, hir, hfix⟩ := ends_end hg _ _ (Nat.le_refl _) (ir_start hg)
  have heq : ∀ b, absR g st b = absP rs b := fun b => fix_unique hir.inv hF.ip.inv hfix hF.fix b
  have hn := (valid_ok hg.v).1
  have hf' : endsN c.block c.edge (edgesL 0 (nexts g)) f (endsC0 (nexts g) c.block (nexts g).length, endsS0 (nexts g) (nexts g).length) = some st := by rw [edgesL_nexts]; exact hf
  have h0 := heq 0
  by_cases hneg : st.1[0]?.getD 0 < 0
  · have hno : (rs[0]?.getD default).ok = false := by
      have : absR g st 0 = none := by unfold absR; rw [if_neg (by omega)]
      rw [this] at h0
      unfold absP at h0
      split at h0
      · cases h0
      · rename_i h; simpa using h
    obtain ⟨z1, z2, z3⟩ := res_no hno (fullPath g c rs)
    rw [z1, z2, z3]
    refine (rshortest_none w v bv ev (nexts g) c.block c.edge hv hbv hev (IR g c) (ends_ok hg (edges_small hg)) f st hf' (by rw [nexts_len]; exact hn) hneg).mono ?_
    rintro e w' ⟨rfl, hb⟩
    exact ⟨_, rfl, OwnL.nil _ _ _, hb⟩
  · have h0s : absR g st 0 = some (st.1[0]?.getD 0, st.2[0]?.getD 0) := absR_some.2 ⟨⟨hn, by omega⟩, rfl⟩
    rw [h0s] at h0
    obtain ⟨ho, hc⟩ := absP_some.1 h0.symm
    obtain ⟨b1, b2, b3, b4⟩ := absP_bounds hg hF.ip 0 ho
    obtain ⟨z1, z2, z3⟩ := res_yes ho (fullPath g c rs)
    rw [z1, z2, z3]
    have hc1 : st.1[0]?.getD 0 = (rs[0]?.getD default).cost := congrArg Prod.fst hc
    have hp := rpath_ok hg hF.ip hF.fix hir heq (rs[0]?.getD default).blocks.toNat 0 [0] ho (by omega)
    have cR := rshortest_some w v bv ev (nexts g) c.block c.edge hv hbv hev (IR g c) (ends_ok hg (edges_small hg)) f st hf' (by rw [nexts_len]; exact hn) hneg (rs[0]?.getD default).blocks.toNat _ hp (by omega)
    rw [hc1] at cR
    exact cR
end Go.Proofs.Ytfoimgkgkjhbeaa
