/- The search of bcet in plain words: what one step, one sweep and all sweeps do to the rests. -/
import Derived.Test.YtfoimgkgkjhbeaaW4
namespace Go.Proofs.Ytfoimgkgkjhbeaa
open Go.RowKit

/-- One successor. -/
def pickF (cb ce : List Int) (idx : List ((Int × Int) × Int)) (rs : List Rest) (b : Nat) (best : Rest) (s : Int) : Rest :=
  if (viaF cb ce idx rs b s.toNat).better best then viaF cb ce idx rs b s.toNat else best
/-- The best of block b. -/
def bestF (cb ce : List Int) (idx : List ((Int × Int) × Int)) (rs : List Rest) (b : Nat) (l : List Int) : Rest :=
  l.foldl (pickF cb ce idx rs b) (if l.length = 0 then ⟨cb[b]?.getD 0, 1, true⟩ else rs[b]?.getD default)
def sweepF (cb ce : List Int) (idx : List ((Int × Int) × Int)) : List Blk → Nat → List Rest → Bool → List Rest × Bool
  | [], _, rs, ch => (rs, ch)
  | x :: xs, k, rs, ch => if bestF cb ce idx rs k x.next = rs[k]?.getD default then sweepF cb ce idx xs (k + 1) rs ch else sweepF cb ce idx xs (k + 1) (rs.set k (bestF cb ce idx rs k x.next)) true
def relaxN (cb ce : List Int) (idx : List ((Int × Int) × Int)) (bs : List Blk) : Nat → List Rest → Option (List Rest)
  | 0, _ => none
  | f + 1, rs => if (sweepF cb ce idx bs 0 rs false).2 then relaxN cb ce idx bs f (sweepF cb ce idx bs 0 rs false).1 else some (sweepF cb ce idx bs 0 rs false).1

/-- What a search must be made of. -/
structure SOk (S : Srch) : Prop where
  n : S.cb.length = S.g.blocks.length
  small : S.g.blocks.length ≤ 1152921504606846976
  cost : ∀ b : Nat, Small (S.cb[b]?.getD 0)
  edge : ∀ (b j : Nat), b < S.g.blocks.length → j < (S.g.blocks[b]?.getD default).next.length → ∃ s i : Nat, (S.g.blocks[b]?.getD default).next[j]?.getD 0 = (s : Int) ∧ s < S.g.blocks.length ∧ alook S.idx ((b : Int), (s : Int)) = some (i : Int) ∧ i < S.ce.length ∧ S.ce[i]?.getD 0 ≤ 1152921504606846976

/-- An invariant of the rests under which nothing grows too great. -/
structure RInv (S : Srch) (I : List Rest → Prop) : Prop where
  len : ∀ rs, I rs → rs.length = S.g.blocks.length
  small : ∀ rs, I rs → ∀ b : Nat, Small (rs[b]?.getD default).cost ∧ Small (rs[b]?.getD default).blocks
  step : ∀ rs b, I rs → b < S.g.blocks.length → I (rs.set b (bestF S.cb S.ce S.idx rs b (S.g.blocks[b]?.getD default).next))

theorem restCells_set (rs : List Rest) (i : Nat) (hi : i < rs.length) (r : Rest) : (((restCells rs).toArray.setIfInBounds (i * 3) (.int .i64 r.cost)).setIfInBounds (i * 3 + 1) (.int .i64 r.blocks)).setIfInBounds (i * 3 + 2) (.bool r.ok) = (restCells (rs.set i r)).toArray := by
  induction rs generalizing i with
  | nil => simp at hi
  | cons x rs ih =>
    have e : ∀ y : Rest, ∀ l, restCells (y :: l) = [.int .i64 y.cost, .int .i64 y.blocks, .bool y.ok] ++ restCells l := fun _ _ => rfl
    cases i with
    | zero => simp [e]
    | succ i =>
      have := ih i (by simpa using hi)
      simp only [List.setIfInBounds_toArray, Array.mk.injEq] at this ⊢
      rw [List.set_cons_succ, e, e, ← this]
      have h3 : ∀ (j : Nat) (l : List Value) (v : Value), ([Value.int .i64 x.cost, .int .i64 x.blocks, .bool x.ok] ++ l).set ((i + 1) * 3 + j) v = [Value.int .i64 x.cost, .int .i64 x.blocks, .bool x.ok] ++ l.set (i * 3 + j) v := by
        intro j l v
        rw [List.set_append_right _ _ (by simp; omega)]
        congr 2; simp; omega
      have h0 := h3 0
      simp only [Nat.add_zero] at h0
      rw [h0, h3 1, h3 2]

theorem SAt.frz {S : Srch} {w0 w : World} {rs : List Rest} (h : SAt S w0 w rs) (i : Nat) : w.frozen? ⟨S.rb, i * 3, none⟩ = false ∧ w.frozen? ⟨S.rb, i * 3 + 1, none⟩ = false ∧ w.frozen? ⟨S.rb, i * 3 + 2, none⟩ = false := by
  simp [World.frozen?, h.r]
/-- A store into a row of the search's rests. -/
theorem SAt.put {S : Srch} {w0 w : World} {rs : List Rest} (h : SAt S w0 w rs) (i : Nat) (hi : i < rs.length) (r : Rest) :
    SAt S w0 (((w.setCell ⟨S.rb, i * 3, none⟩ (.int .i64 r.cost)).setCell ⟨S.rb, i * 3 + 1, none⟩ (.int .i64 r.blocks)).setCell ⟨S.rb, i * 3 + 2, none⟩ (.bool r.ok)) (rs.set i r) where
  s := by
    have hn := h.hne
    rw [Below.heap_setCell _ _ _ _ hn, Below.heap_setCell _ _ _ _ hn, Below.heap_setCell _ _ _ _ hn, List.length_set]; exact h.s
  m := by
    have hn : S.mb ≠ S.rb := by
      intro e
      obtain ⟨es, c, h1, _⟩ := h.m
      rw [e, h.r] at h1; cases h1
    refine h.m.of_heap ?_
    rw [Below.heap_setCell _ _ _ _ hn, Below.heap_setCell _ _ _ _ hn, Below.heap_setCell _ _ _ _ hn]
  u := h.u
  r := by
    rw [heap_setCell_row (heap_setCell_row (heap_setCell_row h.r _ _) _ _) _ _, restCells_set rs i hi r]
  blks := h.blks
  ib := h.ib
  ie := h.ie
  below := ((h.below.setCell h.hrb _).setCell h.hrb _).setCell h.hrb _
  hsb := h.hsb
  hmb := h.hmb
  hrb := h.hrb
  hne := h.hne
/-- A store elsewhere, into a block of the call's own. -/
theorem SAt.far {S : Srch} {w0 w : World} {rs : List Rest} (h : SAt S w0 w rs) {p : Addr} (h0 : w0.heap.size ≤ p.block) (h1 : S.sb ≠ p.block) (h2 : S.mb ≠ p.block) (h3 : S.rb ≠ p.block) (u : Value) : SAt S w0 (w.setCell p u) rs where
  s := by rw [Below.heap_setCell _ _ _ _ h1]; exact h.s
  m := h.m.of_heap (by rw [Below.heap_setCell _ _ _ _ h2])
  u := h.u
  r := by rw [Below.heap_setCell _ _ _ _ h3]; exact h.r
  blks := h.blks
  ib := h.ib
  ie := h.ie
  below := h.below.setCell h0 _
  hsb := h.hsb
  hmb := h.hmb
  hrb := h.hrb
  hne := h.hne

theorem Try.fields59 : Try.prog.underlying 59 = some (.struct (Try.prog.fieldsOf 59)) := by kernel_rfl
theorem Try.held59 : Try.prog.stoodInHeld 59 = false := by kernel_rfl
theorem run_eq_rest (w : World) (x y : Rest) :
    (Op.equalIn 10000 59 (.agg #[.int .i64 x.cost, .int .i64 x.blocks, .bool x.ok]) (.agg #[.int .i64 y.cost, .int .i64 y.blocks, .bool y.ok])).run Try.prog w = .ok (decide (x = y)) w := by
  rw [run_equalIn_struct w 9999 59 _ _ Try.fields59 Try.held59]
  obtain ⟨a, b, o⟩ := x
  obtain ⟨a', b', o'⟩ := y
  simp [Program.fieldsOf, Try.underlying59, go_sem, Try.underlying3, Try.underlying4]
  by_cases h1 : a = a' <;> by_cases h2 : b = b' <;> by_cases h3 : o = o' <;> simp [h1, h2, h3]
end Go.Proofs.Ytfoimgkgkjhbeaa
