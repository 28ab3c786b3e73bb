/- What comes in, read: slices of ints, blocks, graphs, costs. -/
import Derived.Test.YtfoimgkgkjhbeaaRows
import Derived.ProofKit
import Derived.OpenShut
import Derived.JoinedCond
import Derived.Deep.Slices
import Derived.Deep.Strs
import Derived.Deep.CondSized
import Derived.Carry
import Derived.Test.YtfoimgkgkjhbeaaWB
namespace Go.Proofs.Ytfoimgkgkjhbeaa
open Go.ChangeShapes Go.WideShapes Go.ChangeAt Go.RowKit Go.Deep

section
variable {H : Type} {enc : TypeId × Value → H} {W : World}

theorem one_le (d : DataW H) : 1 ≤ Rows.uptoBulk d := by
  cases d with
  | lit l => cases l <;> simp [Rows.uptoBulk]
  | nil => simp [Rows.uptoBulk]
  | ptr d => simp [Rows.uptoBulk]
  | slice elems spare => simp [Rows.uptoBulk]
  | agg parts => simp [Rows.uptoBulk]
  | iface t d => simp [Rows.uptoBulk]
  | map entries => simp [Rows.uptoBulk]
  | held h => simp [Rows.uptoBulk]
theorem length_le (l : List (DataW H)) : l.length ≤ Rows.uptoBulkAll l := by
  induction l with
  | nil => simp [Rows.uptoBulkAll]
  | cons x r ih => have := one_le x; simp only [Rows.uptoBulkAll, List.length_cons]; omega

theorem cellsOf3 : Try.prog.cellsOf 3 = 1 := by kernel_rfl
theorem cellsOf26 : Try.prog.cellsOf 26 = 1 := by kernel_rfl
theorem cellsOf22 : Try.prog.cellsOf 22 = 1 := by kernel_rfl
theorem cellsOf23 : Try.prog.cellsOf 23 = 1 := by kernel_rfl
theorem cellsOf43 : Try.prog.cellsOf 43 = 3 := by kernel_rfl
theorem cellsOf25 : Try.prog.cellsOf 25 = 2 := by kernel_rfl
theorem cellsOf28 : Try.prog.cellsOf 28 = 3 := by kernel_rfl

theorem addr_at {a : Addr} {n : Nat} {f : Nat → Value} (h : ∀ i, i < n → W.cell? (a.add i) = some (f i)) : ∀ i, i < n → ∃ b off, some a = some ⟨b, off, none⟩ ∧ W.cell? ⟨b, off + i, none⟩ = some (f i) := by
  intro i hi
  have h0 := h 0 (by omega)
  obtain ⟨b, off, spot⟩ := a
  have hs : spot = none := by
    cases spot with
    | none => rfl
    | some s =>
      rw [show (⟨b, off, some s⟩ : Addr).add 0 = ⟨b, off, some s⟩ from rfl] at h0
      unfold World.cell? at h0
      dsimp only at h0
      split at h0
      · simp at h0
      · cases h0
  subst hs
  refine ⟨b, off, rfl, ?_⟩
  have := h i hi
  by_cases e : i = 0
  · subst e; exact this
  · rw [show (⟨b, off, none⟩ : Addr).add i = ⟨b, off + i, none⟩ by unfold Addr.add; rw [if_neg e]] at this
    exact this

set_option maxRecDepth 100000 in
theorem ints_read {fuel : Nat} {cs : List Value} {x : DataW H × List MemPlace} (h : DataW.trod enc Try.prog W 0 (fun _ => true) true fuel 26 cs = some x) :
    ∃ A c xs, cs = [.slice A xs.length c] ∧ IntsAt W A xs ∧ xs.length ≤ 9223372036854775807 ∧ xs.length ≤ Rows.uptoBulk x.1 := by
  rcases open_ints Try.underlying26 Try.underlying3 cellsOf3 h with ⟨rfl, rfl⟩ | ⟨a, len, cap, zs, rfl, _, hl, hm, hz, rfl, hc, _⟩
  · exact ⟨none, 0, [], rfl, fun i hi => absurd hi (by simp), by simp, by simp⟩
  · simp only [if_true] at hz
    unfold maxLen at hm
    have hlen : (zs.take len).length = len := by rw [List.length_take, hz]; omega
    refine ⟨some a, cap, zs.take len, by rw [hlen], ?_, by rw [hlen]; omega, ?_⟩
    · intro i hi
      rw [hlen] at hi
      obtain ⟨b, off, e, hcell⟩ := addr_at (n := zs.length) (f := fun i => .int .i64 (zs.getD i 0)) hc i (by omega)
      refine ⟨b, off, e, ?_⟩
      rw [hcell, List.getElem?_take, if_pos hi]; rfl
    · rw [hlen]
      have := length_le (lits (H := H) .i64 (zs.take len))
      have e : (lits (H := H) .i64 (zs.take len)).length = len := by unfold lits; rw [List.length_map, hlen]
      show len ≤ Rows.uptoBulk (DataW.slice (lits .i64 (zs.take len)) (lits .i64 (zs.drop len)))
      simp only [Rows.uptoBulk]
      omega
set_option maxRecDepth 100000 in
theorem int_read {fuel : Nat} {cs : List Value} {x : DataW H × List MemPlace} (h : DataW.trod enc Try.prog W 0 (fun _ => true) true fuel 3 cs = some x) : ∃ n, cs = [.int .i64 n] := by
  obtain ⟨n, h1, _⟩ := DataW.trod_int Try.underlying3 h
  exact ⟨n, h1⟩
set_option maxRecDepth 100000 in
theorem blk_read {fuel : Nat} {cs : List Value} {x : DataW H × List MemPlace} (h : DataW.trod enc Try.prog W 0 (fun _ => true) true fuel 43 cs = some x) :
    ∃ (b : Blk) (A : Option Addr) (c : Nat), cs = [.int .i64 b.fr, .int .i64 b.to, .slice A b.next.length c] ∧ IntsAt W A b.next ∧ b.next.length ≤ 9223372036854775807 ∧ b.next.length + 1 ≤ Rows.uptoBulk x.1 := by
  obtain ⟨y0, y1, y2, n, rfl, hl, h0, h1, h2⟩ := trod_struct3 Try.underlying43 h
  rw [cellsOf43] at hl
  match cs, hl with
  | [c0, c1, c2], _ =>
    simp only [cellsOf3, cellsOf26] at h0 h1 h2
    obtain ⟨fr, e0⟩ := int_read h0
    obtain ⟨t1, e1⟩ := int_read h1
    obtain ⟨A, c, xs, e2, hA, hm, hb⟩ := ints_read h2
    simp only [List.drop_zero, List.take_succ_cons, List.take_zero, List.cons.injEq, and_true, List.drop_succ_cons] at e0 e1 e2
    subst e0 e1 e2
    refine ⟨⟨fr, t1, xs⟩, A, c, rfl, hA, hm, ?_⟩
    simp only [Rows.uptoBulk, Rows.uptoBulkAll]
    omega
/-- What a slice's reading says of its size. -/
def SizeIs (d : DataW H) (n : Nat) : Prop := (d = .nil ∧ n = 0) ∨ ∃ elems spare, d = .slice elems spare ∧ elems.length = n
theorem bulk_range {n : Nat} {D : Nat → DataW H} {k : Nat → Nat} (h : ∀ i, i < n → k i ≤ Rows.uptoBulk (D i)) : ((List.range n).map k).sum ≤ Rows.uptoBulkAll ((List.range n).map D) := by
  have gen : ∀ l : List Nat, (∀ i ∈ l, k i ≤ Rows.uptoBulk (D i)) → (l.map k).sum ≤ Rows.uptoBulkAll (l.map D) := by
    intro l
    induction l with
    | nil => intro _; exact Nat.le_refl _
    | cons y l ih =>
      intro hl
      have h1 := hl y List.mem_cons_self
      have h2 := ih (fun i hi => hl i (List.mem_cons_of_mem _ hi))
      simp only [List.map_cons, List.sum_cons, Rows.uptoBulkAll]
      omega
  exact gen _ (fun i hi => h i (List.mem_range.1 hi))
theorem edgesFrom_sum : ∀ (bs : List Blk) (k : Nat), (edgesFrom k bs).length = (bs.map fun b => b.next.length).sum
  | [], _ => rfl
  | b :: bs, k => by
    rw [edgesFrom, List.length_append, edgesFrom_sum bs (k + 1)]
    unfold edgesOf
    rw [List.length_map]; rfl
theorem cells_at3 {a : Addr} {n : Nat} {V : Nat → List Value} (h : ∀ i, i < n → W.cells? 0 (a.add (i * 3)) 3 = some (V i)) (hv : ∀ i, i < n → (V i).length = 3) : ∀ i, i < n → ∃ b off, some a = some ⟨b, off, none⟩ ∧ ∀ j, j < 3 → W.cell? ⟨b, off + i * 3 + j, none⟩ = (V i)[j]? := by
  intro i hi
  have h0 := h 0 (by omega)
  obtain ⟨b, off, spot⟩ := a
  have hs : spot = none := by
    cases spot with
    | none => rfl
    | some s =>
      obtain ⟨_, hlen, hc⟩ := World.cells?_some h0
      have h00 := hc 0 (by omega)
      rw [show ((⟨b, off, some s⟩ : Addr).add (0 * 3)).add 0 = ⟨b, off, some s⟩ from rfl] at h00
      have h3 := hv 0 (by omega)
      rw [List.getElem?_eq_getElem (by omega)] at h00
      unfold World.cell? at h00
      dsimp only at h00
      split at h00
      · simp at h00
      · cases h00
  subst hs
  refine ⟨b, off, rfl, fun j hj => ?_⟩
  obtain ⟨_, _, hc⟩ := World.cells?_some (h i hi)
  rw [← hc j hj]
  congr 1
  unfold Addr.add
  split <;> split <;> simp_all
theorem blks_read {fuel : Nat} {cs : List Value} {x : DataW H × List MemPlace} (h : DataW.trod enc Try.prog W 0 (fun _ => true) true fuel 22 cs = some x) :
    ∃ A c bs, cs = [.slice A bs.length c] ∧ BlksAt W A bs ∧ (edgesFrom 0 bs).length ≤ Rows.uptoBulk x.1 ∧ bs.length ≤ Rows.uptoBulk x.1 ∧ SizeIs x.1 bs.length := by
  rcases open_slice Try.underlying22 h with ⟨rfl, rfl⟩ | ⟨a, len, cap, m, n, D, Pl, rfl, _, hl, hm, hmm, rfl, hel⟩
  · exact ⟨none, 0, [], rfl, fun i hi => absurd hi (by simp), by simp [edgesFrom], by simp, .inl ⟨rfl, rfl⟩⟩
  · simp only [if_true] at hmm
    subst hmm
    rw [cellsOf43] at hel
    obtain ⟨V, hV⟩ := choose_lt (α := List Value) (p := fun i v => W.cells? 0 (a.add (i * 3)) 3 = some v ∧ DataW.trod enc Try.prog W 0 (fun _ => true) true n 43 v = some (D i, Pl i)) hel
    obtain ⟨B, hB⟩ := choose_lt (α := Blk) (p := fun i b => ∃ (A : Option Addr) (c : Nat), V i = [.int .i64 b.fr, .int .i64 b.to, .slice A b.next.length c] ∧ IntsAt W A b.next ∧ b.next.length ≤ 9223372036854775807 ∧ b.next.length + 1 ≤ Rows.uptoBulk (D i)) (fun i hi => blk_read (hV i hi).2)
    have hlen : ((List.range len).map B).length = len := by simp
    have hsum := bulk_range (D := D) (k := fun i => (B i).next.length + 1) (n := len) (fun i hi => by obtain ⟨_, _, _, _, _, h5⟩ := hB i (by omega); exact h5)
    refine ⟨some a, m, (List.range len).map B, by rw [hlen], ?_, ?_, ?_, .inr ⟨_, _, rfl, by simp⟩⟩
    · intro i hi
      rw [hlen] at hi
      have hBi : ((List.range len).map B)[i]?.getD default = B i := by simp [hi]
      rw [hBi]
      obtain ⟨A, c, e, hA, hn, _⟩ := hB i (by omega)
      obtain ⟨b, off, ea, hc⟩ := cells_at3 (fun i hi => (hV i hi).1) (fun i hi => (World.cells?_some (hV i hi).1).2.1) i (show i < m by omega)
      have c0 := hc 0 (by omega)
      have c1 := hc 1 (by omega)
      have c2 := hc 2 (by omega)
      rw [e] at c0 c1 c2
      exact ⟨b, off, A, c, ea, c0, c1, c2, hA, hn⟩
    · rw [edgesFrom_sum, List.map_map]
      show ((List.range len).map fun i => (B i).next.length).sum ≤ _
      have e : ∀ l : List Nat, (l.map fun i => (B i).next.length).sum ≤ (l.map fun i => (B i).next.length + 1).sum := by
        intro l
        induction l with
        | nil => exact Nat.le_refl _
        | cons y l ih => simp only [List.map_cons, List.sum_cons]; omega
      have e1 := e (List.range len)
      simp only [Rows.uptoBulk]
      omega
    · have := length_le ((List.range len).map D)
      simp only [List.length_map, List.length_range] at this
      rw [hlen]
      simp only [Rows.uptoBulk]
      omega
theorem rows_read {fuel : Nat} {cs : List Value} {x : DataW H × List MemPlace} (h : DataW.trod enc Try.prog W 0 (fun _ => true) true fuel 23 cs = some x) :
    ∃ A c ls, cs = [.slice A ls.length c] ∧ RowsAt W A ls ∧ ls.length ≤ Rows.uptoBulk x.1 ∧ SizeIs x.1 ls.length := by
  rcases open_slice1 Try.underlying23 cellsOf26 h with ⟨rfl, rfl⟩ | ⟨a, len, cap, m, n, V, D, Pl, rfl, _, hl, hm, hmm, rfl, hel⟩
  · exact ⟨none, 0, [], rfl, fun i hi => absurd hi (by simp), by simp, .inl ⟨rfl, rfl⟩⟩
  · simp only [if_true] at hmm
    subst hmm
    obtain ⟨B, hB⟩ := choose_lt (α := List Int) (p := fun i xs => ∃ (A : Option Addr) (c : Nat), [V i] = [.slice A xs.length c] ∧ IntsAt W A xs ∧ xs.length ≤ 9223372036854775807) (fun i hi => by
      obtain ⟨A, c, xs, h1, h2, h3, _⟩ := ints_read (hel i hi).2
      exact ⟨xs, A, c, h1, h2, h3⟩)
    have hlen : ((List.range len).map B).length = len := by simp
    refine ⟨some a, m, (List.range len).map B, by rw [hlen], ?_, ?_, .inr ⟨_, _, rfl, by simp⟩⟩
    · intro i hi
      rw [hlen] at hi
      have hBi : ((List.range len).map B)[i]?.getD [] = B i := by simp [hi]
      rw [hBi]
      obtain ⟨A, c, e, hA, hn⟩ := hB i (by omega)
      obtain ⟨b, off, ea, hc⟩ := addr_at (f := V) (fun i hi => (hel i hi).1) i (show i < m by omega)
      simp only [List.cons.injEq, and_true] at e
      rw [e] at hc
      exact ⟨b, off, A, c, ea, hc, hA, hn⟩
    · have := length_le ((List.range len).map D)
      simp only [List.length_map, List.length_range] at this
      rw [hlen]
      simp only [Rows.uptoBulk]
      omega
theorem agg_of_cells {v : Value} {cs : List Value} (h : v.cells.toList = cs) (hl : 2 ≤ cs.length) : v = .agg cs.toArray := by
  cases v with
  | agg a => simp only [Value.cells] at h; rw [← h]
  | _ => simp only [Value.cells] at h; rw [← h] at hl; simp at hl

set_option maxRecDepth 100000 in
/-- A graph that comes in. -/
theorem graph_read {v : Value} {d : DataW H} {p : List MemPlace} (h : DataW.Trod enc Try.prog W 0 (fun _ => true) true 25 v d p) :
    ∃ (g : Gr) (A : Option Addr) (c : Nat) (B : Option Addr) (k : Nat) (d1 d2 : DataW H), v = .agg #[.slice A g.blocks.length c, .slice B g.prev.length k] ∧ BlksAt W A g.blocks ∧ RowsAt W B g.prev ∧ d = .agg [d1, d2] ∧ SizeIs d1 g.blocks.length ∧ SizeIs d2 g.prev.length ∧
      (edges g).length ≤ Rows.uptoBulk d ∧ g.blocks.length ≤ Rows.uptoBulk d ∧ g.prev.length ≤ Rows.uptoBulk d := by
  obtain ⟨fuel, hf⟩ := h
  obtain ⟨y0, y1, n, hx, hl, h0, h1⟩ := trod_struct2 Try.underlying25 hf
  rw [cellsOf25] at hl
  obtain ⟨cs, hcs⟩ : ∃ cs, v.cells.toList = cs := ⟨_, rfl⟩
  rw [hcs] at h0 h1 hl
  match cs, hl with
  | [c0, c1], _ =>
    have hv := agg_of_cells hcs (Nat.le_refl _)
    simp only [cellsOf22, cellsOf23] at h0 h1
    obtain ⟨A, c, bs, e0, hA, b1, b2, b3⟩ := blks_read h0
    obtain ⟨B, k, ls, e1, hB, r1, r2⟩ := rows_read h1
    simp only [List.drop_zero, List.take_succ_cons, List.take_zero, List.cons.injEq, and_true, List.drop_succ_cons] at e0 e1
    subst e0 e1
    simp only [Prod.mk.injEq] at hx
    obtain ⟨rfl, _⟩ := hx
    refine ⟨⟨bs, ls⟩, A, c, B, k, _, _, hv, hA, hB, rfl, b3, r2, ?_, ?_, ?_⟩ <;> simp only [Rows.uptoBulk, Rows.uptoBulkAll, edges] <;> omega
set_option maxRecDepth 100000 in
/-- Costs that come in. -/
theorem costs_read {v : Value} {d : DataW H} {p : List MemPlace} (h : DataW.Trod enc Try.prog W 0 (fun _ => true) true 28 v d p) : ∃ c : Cst, CostsV W v c := by
  obtain ⟨fuel, hf⟩ := h
  obtain ⟨y0, y1, y2, n, hx, hl, h0, h1, h2⟩ := trod_struct3 Try.underlying28 hf
  rw [cellsOf28] at hl
  obtain ⟨cs, hcs⟩ : ∃ cs, v.cells.toList = cs := ⟨_, rfl⟩
  rw [hcs] at h0 h1 h2 hl
  match cs, hl with
  | [c0, c1, c2], _ =>
    have hv := agg_of_cells hcs (by simp)
    simp only [cellsOf26, cellsOf3] at h0 h1 h2
    obtain ⟨A, c, xs, e0, hA, a1, _⟩ := ints_read h0
    obtain ⟨B, k, ys, e1, hB, b1, _⟩ := ints_read h1
    obtain ⟨z, e2⟩ := int_read h2
    simp only [List.drop_zero, List.take_succ_cons, List.take_zero, List.cons.injEq, and_true, List.drop_succ_cons] at e0 e1 e2
    subst e0 e1 e2
    exact ⟨⟨xs, ys, z⟩, A, c, B, k, hv, hA, hB, a1, b1⟩
end
end Go.Proofs.Ytfoimgkgkjhbeaa
