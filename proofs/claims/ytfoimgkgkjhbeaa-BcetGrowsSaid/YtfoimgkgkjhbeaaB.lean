/- Readings of slices and structs in memory, and the pure words for graphs. -/
import Derived.WalkKit
import Derived.WalkSpells
import Derived.WalkLawsBesides
import Derived.Lib.Hide
import Derived.Maps.Range
import Derived.Maps.AppendAt
import Derived.Deep.Draws
namespace Go.Proofs.Ytfoimgkgkjhbeaa
open Go.RowKit

theorem ret_b {a b : Bool} (h : a = b) : Ending.returned (.bool a) = .returned (.bool b) := by rw [h]
theorem ret_i {k : IntKind} {a b : Int} (h : a = b) : Ending.returned (.int k a) = .returned (.int k b) := by rw [h]

theorem drewN_below {B : Nat} {w W : World} (h : Below B w W) (n : Nat) : Below B w (W.drewN n) := ⟨h.os, h.tape, h.output, h.size, h.block⟩
theorem cell_old {w w1 : World} (hb : Below w.heap.size w w1) {p : Addr} {v : Value} (h : w.cell? p = some v) : w1.cell? p = some v :=
  (hb.cell (World.block_lt_of_cell? w p h)).trans h

theorem cell_box (w : World) (cs : Array Value) (e : TypeId) (i : Nat) {v : Value} (h : cs[i]? = some v) : (w.alloc (.cells cs e)).cell? ⟨w.heap.size, i, none⟩ = some v := by
  simp only [World.cell?, heap_alloc_new]; simpa using h
/-- The memory from A on reads as these ints. -/
def IntsAt (w : World) (A : Option Addr) (xs : List Int) : Prop :=
  ∀ i, i < xs.length → ∃ b off, A = some ⟨b, off, none⟩ ∧ w.cell? ⟨b, off + i, none⟩ = some (.int .i64 (xs[i]?.getD 0))
theorem IntsAt.old {w w1 : World} {A : Option Addr} {xs : List Int} (h : IntsAt w A xs) (hb : Below w.heap.size w w1) : IntsAt w1 A xs := fun i hi =>
  let ⟨b, off, h1, h2⟩ := h i hi
  ⟨b, off, h1, cell_old hb h2⟩
def IntsV (w : World) (v : Value) (xs : List Int) : Prop := ∃ A c, v = .slice A xs.length c ∧ IntsAt w A xs ∧ xs.length ≤ 9223372036854775807
theorem IntsV.old {w w1 : World} {v : Value} {xs : List Int} (h : IntsV w v xs) (hb : Below w.heap.size w w1) : IntsV w1 v xs :=
  let ⟨A, c, h1, h2, h3⟩ := h
  ⟨A, c, h1, h2.old hb, h3⟩

theorem eq_of_up {xs ys : List Int} (hl : xs.length = ys.length) (h : ∀ j, j < xs.length → xs[j]?.getD 0 = ys[j]?.getD 0) : xs = ys := by
  apply List.ext_getElem hl
  intro i h1 h2
  have := h i h1
  simpa [h1, h2] using this
/-- A block of a graph. -/
structure Blk where
  fr : Int
  to : Int
  next : List Int
  deriving Inhabited, DecidableEq, BEq
structure Gr where
  blocks : List Blk
  prev : List (List Int)

def BlkAt (w : World) (A : Option Addr) (i : Nat) (x : Blk) : Prop :=
  ∃ b off nA nc, A = some ⟨b, off, none⟩ ∧ w.cell? ⟨b, off + i * 3, none⟩ = some (.int .i64 x.fr) ∧ w.cell? ⟨b, off + i * 3 + 1, none⟩ = some (.int .i64 x.to) ∧
    w.cell? ⟨b, off + i * 3 + 2, none⟩ = some (.slice nA x.next.length nc) ∧ IntsAt w nA x.next ∧ x.next.length ≤ 9223372036854775807
def BlksAt (w : World) (A : Option Addr) (bs : List Blk) : Prop := ∀ i, i < bs.length → BlkAt w A i (bs[i]?.getD default)
theorem BlkAt.old {w w1 : World} {A : Option Addr} {i : Nat} {x : Blk} (h : BlkAt w A i x) (hb : Below w.heap.size w w1) : BlkAt w1 A i x :=
  let ⟨b, off, nA, nc, h1, h2, h3, h4, h5, h6⟩ := h
  ⟨b, off, nA, nc, h1, cell_old hb h2, cell_old hb h3, cell_old hb h4, h5.old hb, h6⟩
theorem BlksAt.old {w w1 : World} {A : Option Addr} {bs : List Blk} (h : BlksAt w A bs) (hb : Below w.heap.size w w1) : BlksAt w1 A bs := fun i hi => (h i hi).old hb

def RowAt (w : World) (A : Option Addr) (i : Nat) (x : List Int) : Prop :=
  ∃ b off nA nc, A = some ⟨b, off, none⟩ ∧ w.cell? ⟨b, off + i, none⟩ = some (.slice nA x.length nc) ∧ IntsAt w nA x ∧ x.length ≤ 9223372036854775807
def RowsAt (w : World) (A : Option Addr) (ls : List (List Int)) : Prop := ∀ i, i < ls.length → RowAt w A i (ls[i]?.getD [])
theorem RowAt.old {w w1 : World} {A : Option Addr} {i : Nat} {x : List Int} (h : RowAt w A i x) (hb : Below w.heap.size w w1) : RowAt w1 A i x :=
  let ⟨b, off, nA, nc, h1, h2, h3, h4⟩ := h
  ⟨b, off, nA, nc, h1, cell_old hb h2, h3.old hb, h4⟩
theorem RowsAt.old {w w1 : World} {A : Option Addr} {ls : List (List Int)} (h : RowsAt w A ls) (hb : Below w.heap.size w w1) : RowsAt w1 A ls := fun i hi => (h i hi).old hb

def GraphV (w : World) (v : Value) (g : Gr) : Prop :=
  ∃ A c B d, v = .agg #[.slice A g.blocks.length c, .slice B g.prev.length d] ∧ BlksAt w A g.blocks ∧ RowsAt w B g.prev ∧ g.blocks.length * 40 ≤ 140737488351232 ∧ g.prev.length * 24 ≤ 140737488351232
theorem GraphV.old {w w1 : World} {v : Value} {g : Gr} (h : GraphV w v g) (hb : Below w.heap.size w w1) : GraphV w1 v g :=
  let ⟨A, c, B, d, h1, h2, h3, h4⟩ := h
  ⟨A, c, B, d, h1, h2.old hb, h3.old hb, h4⟩

/-- The edges out of block k. -/
def edgesOf (k : Nat) (l : List Int) : List (Int × Int) := l.map fun t => ((k : Int), t)
def edgesFrom : Nat → List Blk → List (Int × Int)
  | _, [] => []
  | k, b :: bs => edgesOf k b.next ++ edgesFrom (k + 1) bs
def edges (g : Gr) : List (Int × Int) := edgesFrom 0 g.blocks
def pairCells (es : List (Int × Int)) : List Value := es.flatMap fun e => [.int .i64 e.1, .int .i64 e.2]

theorem pairCells_append (a b : List (Int × Int)) : pairCells (a ++ b) = pairCells a ++ pairCells b := by simp [pairCells]
theorem edgesFrom_append (a b : List Blk) (k : Nat) : edgesFrom k (a ++ b) = edgesFrom k a ++ edgesFrom (k + a.length) b := by
  induction a generalizing k with
  | nil => simp [edgesFrom]
  | cons x a ih => simp only [List.cons_append, edgesFrom, ih, List.append_assoc, List.length_cons]; rw [show k + 1 + a.length = k + (a.length + 1) by omega]
theorem take_snoc {α : Type} [Inhabited α] (l : List α) (d : α) (k : Nat) (h : k < l.length) : l.take (k + 1) = l.take k ++ [l[k]?.getD d] := by
  rw [List.take_succ_eq_append_getElem h]; simp [h]
theorem edges_step (bs : List Blk) (k : Nat) (h : k < bs.length) : edgesFrom 0 (bs.take (k + 1)) = edgesFrom 0 (bs.take k) ++ edgesOf k (bs[k]?.getD default).next := by
  rw [take_snoc bs default k h, edgesFrom_append]
  simp [edgesFrom, Nat.min_eq_left (Nat.le_of_lt h)]
theorem edgesOf_step (k : Nat) (l : List Int) (j : Nat) (h : j < l.length) : edgesOf k (l.take (j + 1)) = edgesOf k (l.take j) ++ [((k : Int), l[j]?.getD 0)] := by
  rw [take_snoc l 0 j h]; simp [edgesOf]
theorem edges_pre (bs : List Blk) (k j : Nat) (h : k < bs.length) (hj : j ≤ ((bs[k]?.getD default).next).length) :
    (edgesFrom 0 (bs.take k) ++ edgesOf k ((bs[k]?.getD default).next.take j)).length ≤ (edgesFrom 0 bs).length := by
  have e : bs = bs.take (k + 1) ++ bs.drop (k + 1) := (List.take_append_drop _ _).symm
  have : (edgesFrom 0 bs).length = (edgesFrom 0 (bs.take (k + 1))).length + (edgesFrom (0 + (bs.take (k+1)).length) (bs.drop (k + 1))).length := by
    rw [← List.length_append, ← edgesFrom_append, ← e]
  rw [this, edges_step bs k h]
  simp only [List.length_append, edgesOf, List.length_map, List.length_take]
  omega

/-- How an element type lies in memory: its slice type, its cells. -/
structure Enc (P : Program) (α : Type) where
  e : TypeId
  t : TypeId
  size : Nat
  bytes : Nat
  z : Value
  enc : α → List Value
  ht : P.underlying t = some (.slice e)
  hinfo : (P.info? e).map (fun i => (i.zero, i.size, i.bytes)) = some (some z, size, bytes)
  hlen : ∀ x, (enc x).length = size
  hone : ∀ x u, u ∈ enc x → u.oneCell' = true
  hz : z.cells.size = size
  hpos : 0 < size

def Enc.cells {P : Program} {α : Type} (E : Enc P α) (l : List α) : List Value := l.flatMap E.enc
theorem Enc.cells_length {P : Program} {α : Type} (E : Enc P α) (l : List α) : (E.cells l).length = l.length * E.size := by
  unfold Enc.cells
  induction l with
  | nil => simp
  | cons x l ih => simp only [List.flatMap_cons, List.length_append, E.hlen, ih, List.length_cons]; rw [Nat.add_mul]; omega
theorem Enc.cells_append {P : Program} {α : Type} (E : Enc P α) (a b : List α) : E.cells (a ++ b) = E.cells a ++ E.cells b := by simp [Enc.cells]

/-- A slice that the call itself has made (from block 'base' on) and that reads as l. -/
def OwnL {P : Program} {α : Type} (E : Enc P α) (w : World) (base : Nat) (v : Value) (l : List α) : Prop := w.ownsRow base E.e E.size v l.length (E.cells l)
theorem OwnL.nil {P : Program} {α : Type} (E : Enc P α) (w : World) (base : Nat) : OwnL E w base (.slice none 0 0) [] := by
  unfold OwnL; simpa [Enc.cells] using World.ownsRow_nil w base E.e E.size
theorem OwnL.alloc {P : Program} {α : Type} {E : Enc P α} {w : World} {base : Nat} {v : Value} {l : List α} (h : OwnL E w base v l) (o : Obj) : OwnL E (w.alloc o) base v l := World.ownsRow.alloc h o
theorem OwnL.old {P : Program} {α : Type} {E : Enc P α} {w w1 : World} {base : Nat} {v : Value} {l : List α} (h : OwnL E w base v l) (hb : Below w.heap.size w w1) : OwnL E w1 base v l := by
  obtain ⟨h1, h2⟩ := h
  refine ⟨h1, ?_⟩
  rcases h2 with h2 | ⟨g, cap, cur, hv, hg, hh, r⟩
  · exact Or.inl h2
  · exact Or.inr ⟨g, cap, cur, hv, hg, by rw [hb.block g (Array.getElem?_eq_some_iff.1 hh).1]; exact hh, r⟩
theorem OwnL.shape {P : Program} {α : Type} {E : Enc P α} {w : World} {base : Nat} {v : Value} {l : List α} (h : OwnL E w base v l) : ∃ A c, v = .slice A l.length c := by
  obtain ⟨h1, h2⟩ := h
  rcases h2 with ⟨h2, h3⟩ | ⟨g, cap, cur, hv, hg, hh, r⟩
  · exact ⟨none, 0, by rw [h2, h3]⟩
  · exact ⟨_, cap, hv⟩

theorem OwnL.base {P : Program} {α : Type} {E : Enc P α} {w : World} {B B' : Nat} {v : Value} {l : List α} (h : OwnL E w B v l) (hB : B' ≤ B) : OwnL E w B' v l := by
  obtain ⟨h1, h2⟩ := h
  refine ⟨h1, ?_⟩
  rcases h2 with h2 | ⟨g, cap, cur, hv, hg, r⟩
  · exact Or.inl h2
  · exact Or.inr ⟨g, cap, cur, hv, Nat.le_trans hB hg, r⟩
theorem OwnL.lit {P : Program} {α : Type} (E : Enc P α) (w : World) (base : Nat) (l : List α) (hb : base ≤ w.heap.size) (hm : l.length ≤ maxLen) : OwnL E (w.alloc (.cells (E.cells l).toArray E.e)) base (.slice (some ⟨w.heap.size, 0, none⟩) l.length l.length) l :=
  ⟨E.cells_length l, .inr ⟨w.heap.size, l.length, (E.cells l).toArray, rfl, hb, heap_alloc_new w _, Nat.le_refl _, hm, by simp [E.cells_length], by simp [← E.cells_length l]⟩⟩
theorem OwnL.lit1 {P : Program} {α : Type} (E : Enc P α) (w : World) (base : Nat) (x : α) (hb : base ≤ w.heap.size) : OwnL E (w.alloc (.cells (E.enc x).toArray E.e)) base (.slice (some ⟨w.heap.size, 0, none⟩) 1 1) [x] := by
  have := OwnL.lit E w base [x] hb (by simp [maxLen])
  simpa [Enc.cells] using this
section
variable {P : Program} {α : Type} (E : Enc P α) {ops : Array Oper} {rest : List Oper} {o : Oper} {a : Act} {Q : Exit → Act → World → Prop} {W w0 : World}
/-- 'out = append(out, x)'. -/
theorem wpl_app1 (hgd : o.guard = none) (s x : Operand) (ho : o.op = .call { callee := .builtin .append, args := #[s, x], argTypes := #[E.t, E.t] })
    {base : Nat} {v : Value} {l : List α} (hs : a.eval s = v) (hown : OwnL E W base v l) (y : α) {cs : Array Value} {e' : TypeId} (hcs : cs = (E.enc y).toArray)
    (hx : a.eval x = .slice (some ⟨W.heap.size, 0, none⟩) 1 1) (hn : (l.length + 1) * E.bytes ≤ 140737488355328) (hm : l.length + 1 ≤ maxLen) {B : Nat} (hBb : B ≤ base) (hbase : base ≤ W.heap.size) (hb : Below B w0 W)
    (h : ∀ v' w', OwnL E w' base v' (l ++ [y]) → Below B w0 w' → W.grownBy w' v.ownBlock → (v'.ownBlock = v.ownBlock ∨ ∃ k, v'.ownBlock = some k ∧ W.heap.size ≤ k) → wpList P ops Q rest (a.put o.dst v') w') : wpList P ops Q (o :: rest) a (W.alloc (.cells cs e')) := by
  obtain ⟨i0, hi, hz0, hz1, hz2⟩ := info_parts E.hinfo
  subst hcs
  have hown' : (W.alloc (.cells (E.enc y).toArray e')).ownsRow base E.e E.size v l.length (E.cells l) := World.ownsRow.alloc hown _
  refine wpList_append_own_at _ hgd s x E.t ho base E.e i0 E.z E.size E.bytes E.ht hi hz0 hz1 hz2 E.hz E.hpos v l.length (E.cells l) hs hown' ⟨W.heap.size, 0, none⟩ 1 1 (E.enc y) hx (by rw [E.hlen, Nat.one_mul]) ?_ (E.hone y) hm hn (by simp; omega) ?_
  · intro j u hj
    have hadd : (⟨W.heap.size, 0, none⟩ : Addr).add j = ⟨W.heap.size, j, none⟩ := by unfold Addr.add; split <;> simp_all
    rw [hadd]
    have hh : (W.alloc (.cells (E.enc y).toArray e')).heap[W.heap.size]? = some (.cells (E.enc y).toArray e') := heap_alloc_new W _
    simp only [World.cell?, hh]; simpa using hj
  · intro v' w' h1 h2 h3 h4
    refine h v' w' ?_ ?_ ?_ (h4.imp id fun e => ⟨_, e, by simp⟩)
    · unfold OwnL
      rw [List.length_append, E.cells_append]
      simpa [Enc.cells] using h1
    · refine (hb.alloc (Nat.le_trans hBb hbase) _).grown h2 (by simp; omega) ?_
      intro k hk
      exact Nat.le_trans hBb (World.ownsRow.lt hown k hk).1
    · exact (World.grownBy_alloc W _ _).andThen h2 (fun j hj => Or.inr hj)
end

/-- Valid, in plain words. -/
def chkNext (n : Nat) (k : Nat) : List Int → List (List Int) → Option (List (List Int))
  | [], p => some p
  | t :: ts, p => if t < 0 ∨ (n : Int) ≤ t then none else chkNext n k ts (p.set t.toNat (p.getD t.toNat [] ++ [(k : Int)]))
def chkBlks (n : Nat) : List Blk → Nat → Int → List (List Int) → Option (List (List Int))
  | [], _, _, p => some p
  | b :: bs, k, e, p => if b.fr < e ∨ b.to ≤ b.fr ∨ 2 < b.next.length ∨ (b.next.length = 2 ∧ b.next[0]?.getD 0 = b.next[1]?.getD 0) then none else (chkNext n k b.next p).bind fun p' => chkBlks n bs (k + 1) b.to p'
def validB (g : Gr) : Bool :=
  if g.blocks.length = 0 ∨ g.prev.length ≠ g.blocks.length then false else
  match chkBlks g.blocks.length g.blocks 0 0 (List.replicate g.blocks.length []) with
  | none => false
  | some p => p == g.prev
theorem drop_at {α : Type} (l : List α) (d : α) (k : Nat) (h : k < l.length) : l.drop k = l[k]?.getD d :: l.drop (k + 1) := by
  rw [List.drop_eq_getElem_cons h]; simp [h]

/-- A slice of slices that the call itself has made by make([][]int, n): block g. -/
def OwnRows {P : Program} (E : Enc P Int) (w : World) (base g : Nat) (e : TypeId) (ls : List (List Int)) : Prop :=
  ∃ vs : List Value, vs.length = ls.length ∧ base ≤ g ∧ w.heap[g]? = some (.cells vs.toArray e (0, 0)) ∧
    (∀ i, i < ls.length → OwnL E w base (vs[i]?.getD undef) (ls[i]?.getD []) ∧ (vs[i]?.getD undef).ownBlock ≠ some g) ∧
    (∀ i j, i < ls.length → j < ls.length → i ≠ j → (vs[i]?.getD undef).ownBlock = none ∨ (vs[i]?.getD undef).ownBlock ≠ (vs[j]?.getD undef).ownBlock)
theorem OwnRows.old {P : Program} {E : Enc P Int} {w w1 : World} {base g : Nat} {e : TypeId} {ls : List (List Int)} (h : OwnRows E w base g e ls) (hb : Below w.heap.size w w1) : OwnRows E w1 base g e ls := by
  obtain ⟨vs, h1, h2, h3, h4, h5⟩ := h
  exact ⟨vs, h1, h2, by rw [hb.block g (Array.getElem?_eq_some_iff.1 h3).1]; exact h3, fun i hi => ⟨(h4 i hi).1.old hb, (h4 i hi).2⟩, h5⟩
theorem OwnRows.alloc {P : Program} {E : Enc P Int} {w : World} {base g : Nat} {e : TypeId} {ls : List (List Int)} (h : OwnRows E w base g e ls) (o : Obj) : OwnRows E (w.alloc o) base g e ls :=
  h.old ((Below.refl _ _).alloc (Nat.le_refl _) _)
theorem OwnRows.cell {P : Program} {E : Enc P Int} {w : World} {base g : Nat} {e : TypeId} {ls : List (List Int)} (h : OwnRows E w base g e ls) (i : Nat) (hi : i < ls.length) :
    ∃ v, w.cell? ⟨g, i, none⟩ = some v ∧ OwnL E w base v (ls[i]?.getD []) ∧ v.ownBlock ≠ some g ∧ g < w.heap.size ∧ w.frozen? ⟨g, i, none⟩ = false := by
  obtain ⟨vs, h1, h2, h3, h4, h5⟩ := h
  have hvi : i < vs.length := by omega
  refine ⟨vs[i]?.getD undef, ?_, (h4 i hi).1, (h4 i hi).2, (Array.getElem?_eq_some_iff.1 h3).1, ?_⟩
  · simp [World.cell?, h3, hvi]
  · simp [World.frozen?, h3]
theorem OwnRows.made {P : Program} (E : Enc P Int) (w : World) (base : Nat) (e : TypeId) (n : Nat) (hb : base ≤ w.heap.size) :
    OwnRows E (w.alloc (.cells (madeCells #[.slice none 0 0] n) e)) base w.heap.size e (List.replicate n []) := by
  refine ⟨List.replicate n (.slice none 0 0), by simp, hb, ?_, ?_, ?_⟩
  · rw [heap_alloc_new]; congr 2; apply Array.ext (by simp [madeCells]); intro i h1 h2; simp [madeCells, Nat.mod_one]
  · intro i hi
    simp only [List.length_replicate] at hi
    simp only [List.getElem?_replicate, hi, if_true, Option.getD_some]
    exact ⟨OwnL.nil _ _ _, by simp [Value.ownBlock]⟩
  · intro i j hi hj hne
    simp only [List.length_replicate] at hi
    left
    simp [hi, Value.ownBlock]
theorem OwnRows.len {P : Program} {E : Enc P Int} {w : World} {base g : Nat} {e : TypeId} {ls : List (List Int)} (h : OwnRows E w base g e ls) : base ≤ g ∧ g < w.heap.size := by
  obtain ⟨vs, h1, h2, h3, h4, h5⟩ := h
  exact ⟨h2, (Array.getElem?_eq_some_iff.1 h3).1⟩

theorem heap_setCell_row {w : World} {g : Nat} {cs : Array Value} {e : TypeId} (h : w.heap[g]? = some (.cells cs e (0, 0))) (i : Nat) (u : Value) :
    (w.setCell ⟨g, i, none⟩ u).heap[g]? = some (.cells (cs.setIfInBounds i u) e (0, 0)) := by
  simp [World.setCell, Array.getElem?_modify, h]
/-- 'rows[t] = append(rows[t], x)': what the append and the store leave. -/
theorem OwnRows.put {P : Program} {E : Enc P Int} {w w1 : World} {base g : Nat} {e : TypeId} {ls : List (List Int)} (h : OwnRows E w base g e ls) (t : Nat) (ht : t < ls.length) {v : Value} (hv : w.cell? ⟨g, t, none⟩ = some v)
    {v' : Value} {l' : List Int} (hown : OwnL E w1 base v' l') (hgr : w.grownBy w1 v.ownBlock) (hloc : v'.ownBlock = v.ownBlock ∨ ∃ k, v'.ownBlock = some k ∧ w.heap.size ≤ k) :
    OwnRows E (w1.setCell ⟨g, t, none⟩ v') base g e (ls.set t l') ∧ w1.cell? ⟨g, t, none⟩ = some v ∧ w1.frozen? ⟨g, t, none⟩ = false := by
  obtain ⟨vs, h1, h2, h3, h4, h5⟩ := h
  have htv : t < vs.length := by omega
  have hgs : g < w.heap.size := (Array.getElem?_eq_some_iff.1 h3).1
  have hvt : vs[t]?.getD undef = v := by simpa [World.cell?, h3, htv] using hv
  have h3' : w1.heap[g]? = some (.cells vs.toArray e (0, 0)) := by
    rw [hgr.block g hgs (by have := (h4 t ht).2; rw [hvt] at this; exact fun e => this e.symm)]; exact h3
  have hg' : v'.ownBlock ≠ some g := by
    rcases hloc with hl | ⟨k, hk, hks⟩
    · rw [hl, ← hvt]; exact (h4 t ht).2
    · rw [hk]; intro e; cases e; omega
  have keep : ∀ {x : Value} {l : List Int}, x.ownBlock ≠ some g → OwnL E w1 base x l → OwnL E (w1.setCell ⟨g, t, none⟩ v') base x l := by
    intro x l hne hx
    refine ⟨hx.1, ?_⟩
    rcases hx.2 with hn | ⟨b, cap, cur, rfl, hb, hh, r⟩
    · exact .inl hn
    · refine .inr ⟨b, cap, cur, rfl, hb, ?_, r⟩
      rw [Below.heap_setCell _ _ _ _ (by intro e; apply hne; simp [Value.ownBlock, e])]; exact hh
  refine ⟨⟨vs.set t v', by simp [h1], h2, ?_, ?_, ?_⟩, ?_, ?_⟩
  · rw [heap_setCell_row h3']; simp
  · intro i hi
    rw [List.length_set] at hi
    by_cases hit : i = t
    · subst hit
      simp only [List.getElem?_set, htv, ht, if_true, Option.getD_some]
      exact ⟨keep hg' hown, hg'⟩
    · simp only [List.getElem?_set_ne (Ne.symm hit)]
      refine ⟨keep (h4 i hi).2 ?_, (h4 i hi).2⟩
      refine World.ownsRow.kept (h4 i hi).1 hgr ?_
      rw [← hvt]; exact h5 i t hi ht hit
  · intro i j hi hj hne
    rw [List.length_set] at hi hj
    by_cases hit : i = t
    · subst hit
      have hjt : j ≠ i := Ne.symm hne
      simp only [List.getElem?_set, htv, ht, if_true, Option.getD_some]
      rw [if_neg (Ne.symm hjt)]
      rcases hloc with hl | ⟨k, hk, hks⟩
      · rw [hl, ← hvt]; exact h5 i j hi hj hne
      · right; rw [hk]; intro e; have := ((h4 j hj).1.lt k e.symm).2; omega
    · rw [List.getElem?_set_ne (Ne.symm hit)]
      by_cases hjt : j = t
      · subst hjt
        simp only [List.getElem?_set, htv, ht, if_true, Option.getD_some]
        rcases hloc with hl | ⟨k, hk, hks⟩
        · rw [hl, ← hvt]; exact h5 i j hi hj hne
        · right; rw [hk]; intro e; have := ((h4 i hi).1.lt k e).2; omega
      · rw [List.getElem?_set_ne (Ne.symm hjt)]; exact h5 i j hi hj hne
  · simp [World.cell?, h3', htv, ← hvt]
  · simp [World.frozen?, h3']

/-- A struct result that lies in a block of the call's own. -/
theorem bodyPost_cell {P : Program} {fn : Func} {R : Ending → World → Prop} {a : Act} {w : World} {pt : Tmp} {ty : TypeId} (h : fn.results = #[.cell pt ty]) {g t : Nat} {cs : Array Value} {fr : Nat × Nat} {d : TypeDesc}
    (hp : a.tmps.getD pt undef = .pointer (some ⟨g, 0, none⟩)) (hg : w.heap[g]? = some (.cells cs t fr)) (hu : P.underlying ty = some d) (hd : (match d with | .struct _ | .array _ _ => true | _ => false) = true)
    (hi : (P.info? ty).map (·.size) = some cs.size) (hdef : a.defers = []) (hR : R (.returned (.agg cs)) w) : bodyPost P fn R .ret a w := by
  refine bodyPost_ret (v := .agg cs) ?_ hdef hR
  have hl := run_loadVar_row (P := P) w g t ty cs fr d hg hu hd hi
  simp only [Array.getD_eq_getD_getElem?] at hp
  simp [results, h, Sem.run_bind, hp, hl, asAddr, Result.andThen]
end Go.Proofs.Ytfoimgkgkjhbeaa
