/- Rows of ints that the call itself writes, and the reference in plain words. -/
import Derived.Test.YtfoimgkgkjhbeaaW7
import Derived.Deep.OwnRows
namespace Go.Proofs.Ytfoimgkgkjhbeaa
open Go.RowKit

def intVals (xs : List Int) : List Value := xs.map fun x => .int .i64 x
/-- Block b is a row of these ints, to be written. -/
def IntRow (w : World) (b : Nat) (xs : List Int) : Prop := w.heap[b]? = some (.cells (intVals xs).toArray 3 (0, 0))
theorem IntRow.old {w w1 : World} {b : Nat} {xs : List Int} (h : IntRow w b xs) (hb : Below w.heap.size w w1) : IntRow w1 b xs := (hb.block b (Array.getElem?_eq_some_iff.1 h).1).trans h
theorem IntRow.lt {w : World} {b : Nat} {xs : List Int} (h : IntRow w b xs) : b < w.heap.size := (Array.getElem?_eq_some_iff.1 h).1
theorem IntRow.cell {w : World} {b : Nat} {xs : List Int} (h : IntRow w b xs) (i : Nat) (hi : i < xs.length) : w.cell? ⟨b, i, none⟩ = some (.int .i64 (xs[i]?.getD 0)) ∧ w.frozen? ⟨b, i, none⟩ = false := by
  unfold IntRow at h
  simp [World.cell?, World.frozen?, h, intVals, hi]
theorem IntRow.put {w : World} {b : Nat} {xs : List Int} (h : IntRow w b xs) (i : Nat) (x : Int) : IntRow (w.setCell ⟨b, i, none⟩ (.int .i64 x)) b (xs.set i x) := by
  unfold IntRow at *
  rw [heap_setCell_row h]
  simp [intVals, List.map_set]
theorem IntRow.far {w : World} {b : Nat} {xs : List Int} (h : IntRow w b xs) {p : Addr} (hp : b ≠ p.block) (u : Value) : IntRow (w.setCell p u) b xs := (Below.heap_setCell _ _ _ _ hp).trans h
theorem IntRow.made {w : World} (n : Nat) : IntRow (w.alloc (.cells (madeCells #[.int .i64 0] n) 3)) w.heap.size (List.replicate n 0) := by
  unfold IntRow
  rw [heap_alloc_new]; congr 2; apply Array.ext (by simp [madeCells, intVals]); intro i h1 h2; simp [madeCells, intVals, Nat.mod_one]
theorem IntRow.v {w : World} {b : Nat} {xs : List Int} (h : IntRow w b xs) {n : Nat} (hn : xs.length = n) (hb : n ≤ 9223372036854775807) : IntsV w (.slice (some ⟨b, 0, none⟩) n n) xs := by
  subst hn
  exact ⟨_, _, rfl, fun i hi => ⟨b, 0, rfl, by simpa using (h.cell i hi).1⟩, hb⟩

/-- Ends, in plain words: the start. -/
def endsC0 (ls : List (List Int)) (block : List Int) (k : Nat) : List Int := (List.range ls.length).map fun a => if a < k then (if (ls[a]?.getD []).length = 0 then block[a]?.getD 0 else -1) else 0
def endsS0 (ls : List (List Int)) (k : Nat) : List Int := (List.range ls.length).map fun a => if a < k then (if (ls[a]?.getD []).length = 0 then 1 else 0) else 0
/-- One edge. -/
def endStep (block : List Int) (e : Int × Int) (c : Int) (st : List Int × List Int × Bool) : List Int × List Int × Bool :=
  let cost := st.1
  let size := st.2.1
  if c < 0 ∨ cost[e.2.toNat]?.getD 0 < 0 then st else
  let x := block[e.1.toNat]?.getD 0 + c + cost[e.2.toNat]?.getD 0
  let s := size[e.2.toNat]?.getD 0 + 1
  if lessF x s (cost[e.1.toNat]?.getD 0) (size[e.1.toNat]?.getD 0) then (cost.set e.1.toNat x, size.set e.1.toNat s, true) else st
def endSweep (block edge : List Int) : List (Int × Int) → Nat → List Int × List Int × Bool → List Int × List Int × Bool
  | [], _, st => st
  | e :: es, i, st => endSweep block edge es (i + 1) (endStep block e (edge[i]?.getD 0) st)
def endsN (block edge : List Int) (es : List (Int × Int)) : Nat → List Int × List Int → Option (List Int × List Int)
  | 0, _ => none
  | f + 1, st => let r := endSweep block edge es 0 (st.1, st.2, false)
                 if r.2.2 then endsN block edge es f (r.1, r.2.1) else some (r.1, r.2.1)

theorem endStep_eq (block : List Int) (a b : Nat) (ce : Int) (c1 s1 : List Int) (ch : Bool) : endStep block ((a : Int), (b : Int)) ce (c1, s1, ch) =
    if ce < 0 ∨ c1[b]?.getD 0 < 0 then (c1, s1, ch) else if lessF (block[a]?.getD 0 + ce + c1[b]?.getD 0) (s1[b]?.getD 0 + 1) (c1[a]?.getD 0) (s1[a]?.getD 0) then (c1.set a (block[a]?.getD 0 + ce + c1[b]?.getD 0), s1.set a (s1[b]?.getD 0 + 1), true) else (c1, s1, ch) := by
  simp [endStep]
theorem endsC0_len (ls : List (List Int)) (block : List Int) (k : Nat) : (endsC0 ls block k).length = ls.length := by simp [endsC0]
theorem endsS0_len (ls : List (List Int)) (k : Nat) : (endsS0 ls k).length = ls.length := by simp [endsS0]
theorem endsC0_zero (ls : List (List Int)) (block : List Int) : endsC0 ls block 0 = List.replicate ls.length 0 := by
  apply List.ext_getElem <;> simp [endsC0]
theorem endsS0_zero (ls : List (List Int)) : endsS0 ls 0 = List.replicate ls.length 0 := by
  apply List.ext_getElem <;> simp [endsS0]
theorem endsC0_full (ls : List (List Int)) (block : List Int) (k : Nat) (hk : k < ls.length) (h : ¬ (ls[k]?.getD []).length = 0) : (endsC0 ls block k).set k (-1) = endsC0 ls block (k + 1) := by
  apply List.ext_getElem
  · simp [endsC0]
  · intro i h1 h2
    simp only [endsC0, List.length_set, List.length_map, List.length_range] at h1
    simp only [endsC0, List.getElem_set, List.getElem_map, List.getElem_range]
    by_cases e : k = i
    · subst e; rw [if_pos rfl, if_pos (show k < k + 1 by omega), if_neg h]
    · rw [if_neg e]
      by_cases hi : i < k
      · rw [if_pos hi, if_pos (show i < k + 1 by omega)]
      · rw [if_neg hi, if_neg (show ¬ i < k + 1 by omega)]
theorem endsC0_empty (ls : List (List Int)) (block : List Int) (k : Nat) (hk : k < ls.length) (h : (ls[k]?.getD []).length = 0) : ((endsC0 ls block k).set k (-1)).set k (block[k]?.getD 0) = endsC0 ls block (k + 1) := by
  apply List.ext_getElem
  · simp [endsC0]
  · intro i h1 h2
    simp only [endsC0, List.length_set, List.length_map, List.length_range] at h1
    simp only [endsC0, List.getElem_set, List.getElem_map, List.getElem_range]
    by_cases e : k = i
    · subst e; rw [if_pos rfl, if_pos (show k < k + 1 by omega), if_pos h]
    · rw [if_neg e, if_neg e]
      by_cases hi : i < k
      · rw [if_pos hi, if_pos (show i < k + 1 by omega)]
      · rw [if_neg hi, if_neg (show ¬ i < k + 1 by omega)]
theorem endsS0_full (ls : List (List Int)) (k : Nat) (hk : k < ls.length) (h : ¬ (ls[k]?.getD []).length = 0) : endsS0 ls k = endsS0 ls (k + 1) := by
  apply List.ext_getElem
  · simp [endsS0]
  · intro i h1 h2
    simp only [endsS0, List.getElem_map, List.getElem_range]
    by_cases e : k = i
    · subst e; rw [if_neg (show ¬ k < k by omega), if_pos (show k < k + 1 by omega), if_neg h]
    · by_cases hi : i < k
      · rw [if_pos hi, if_pos (show i < k + 1 by omega)]
      · rw [if_neg hi, if_neg (show ¬ i < k + 1 by omega)]
theorem endsS0_empty (ls : List (List Int)) (k : Nat) (hk : k < ls.length) (h : (ls[k]?.getD []).length = 0) : (endsS0 ls k).set k 1 = endsS0 ls (k + 1) := by
  apply List.ext_getElem
  · simp [endsS0]
  · intro i h1 h2
    simp only [endsS0, List.getElem_set, List.getElem_map, List.getElem_range]
    by_cases e : k = i
    · subst e; rw [if_pos rfl, if_pos (show k < k + 1 by omega), if_pos h]
    · rw [if_neg e]
      by_cases hi : i < k
      · rw [if_pos hi, if_pos (show i < k + 1 by omega)]
      · rw [if_neg hi, if_neg (show ¬ i < k + 1 by omega)]

/-- What owns pairs reads as pairs. -/
def PairsAt (w : World) (A : Option Addr) (es : List (Int × Int)) : Prop :=
  ∀ i, i < es.length → ∃ b, A = some ⟨b, 0, none⟩ ∧ w.cell? ⟨b, i * 2, none⟩ = some (.int .i64 (es[i]?.getD (0, 0)).1) ∧ w.cell? ⟨b, i * 2 + 1, none⟩ = some (.int .i64 (es[i]?.getD (0, 0)).2)
theorem pairCells_at (es : List (Int × Int)) (i : Nat) (hi : i < es.length) : (encPair.cells es)[i * 2]? = some (.int .i64 (es[i]?.getD (0, 0)).1) ∧ (encPair.cells es)[i * 2 + 1]? = some (.int .i64 (es[i]?.getD (0, 0)).2) := by
  induction es generalizing i with
  | nil => simp at hi
  | cons r rs ih =>
    have e : encPair.cells (r :: rs) = [.int .i64 r.1, .int .i64 r.2] ++ encPair.cells rs := rfl
    rw [e]
    cases i with
    | zero => simp
    | succ i =>
      have := ih i (by simpa using hi)
      have h3 : ∀ j, ([Value.int .i64 r.1, .int .i64 r.2] ++ encPair.cells rs)[(i + 1) * 2 + j]? = (encPair.cells rs)[i * 2 + j]? := by
        intro j
        rw [List.getElem?_append_right (by simp; omega)]
        congr 1; simp; omega
      have h0 := h3 0; have h1 := h3 1
      simp only [Nat.add_zero] at h0
      rw [h0, h1]
      simpa using this
theorem OwnL.pairs {w : World} {base : Nat} {v : Value} {es : List (Int × Int)} (h : OwnL encPair w base v es) : ∃ A c, v = .slice A es.length c ∧ PairsAt w A es := by
  obtain ⟨h1, h2⟩ := h
  rcases h2 with ⟨h2, h3⟩ | ⟨g, cap, cur, hv, hg, hh, hn, hcap, hsz, htake⟩
  · exact ⟨none, 0, by rw [h2, h3], fun i hi => by omega⟩
  · refine ⟨_, cap, hv, fun i hi => ⟨g, rfl, ?_⟩⟩
    have hs : cur.toList.take (es.length * 2) = encPair.cells es := htake
    obtain ⟨p1, p2⟩ := pairCells_at es i hi
    rw [← hs, List.getElem?_take, if_pos (by omega)] at p1 p2
    simp only [World.cell?, hh]
    exact ⟨by simpa using p1, by simpa using p2⟩
theorem PairsAt.old {w w1 : World} {A : Option Addr} {es : List (Int × Int)} (h : PairsAt w A es) (hb : Below w.heap.size w w1) : PairsAt w1 A es := fun i hi =>
  let ⟨b, h1, h2, h3⟩ := h i hi
  ⟨b, h1, cell_old hb h2, cell_old hb h3⟩

/-- The reference's choice of the next block. -/
def candB (block _edge cost size : List Int) (e : Int × Int) (c : Int) (a best : Int) : Int :=
  if e.1 ≠ a ∨ c < 0 ∨ cost[e.2.toNat]?.getD 0 < 0 then best else
  if block[a.toNat]?.getD 0 + c + cost[e.2.toNat]?.getD 0 = cost[a.toNat]?.getD 0 ∧ size[e.2.toNat]?.getD 0 + 1 = size[a.toNat]?.getD 0 ∧ (best < 0 ∨ e.2 < best) then e.2 else best
theorem candB_eq (block cost size : List Int) (x b a : Nat) (c best : Int) : candB block [] cost size ((x : Int), (b : Int)) c (a : Int) best =
    if (x : Int) ≠ (a : Int) ∨ c < 0 ∨ cost[b]?.getD 0 < 0 then best else
    if block[a]?.getD 0 + c + cost[b]?.getD 0 = cost[a]?.getD 0 ∧ size[b]?.getD 0 + 1 = size[a]?.getD 0 ∧ (best < 0 ∨ (b : Int) < best) then (b : Int) else best := by
  simp [candB]
def bestB (block edge cost size : List Int) (a : Int) : List (Int × Int) → Nat → Int → Int
  | [], _, best => best
  | e :: es, i, best => bestB block edge cost size a es (i + 1) (candB block [] cost size e (edge[i]?.getD 0) a best)
def rpathN (ls : List (List Int)) (block edge cost size : List Int) (es : List (Int × Int)) : Nat → List Int → Int → Option (List Int)
  | 0, _, _ => none
  | f + 1, path, a => if a < 0 ∨ (ls.length : Int) ≤ a then none else if (ls[a.toNat]?.getD []).length = 0 then some path else
      rpathN ls block edge cost size es f (path ++ [bestB block edge cost size a es 0 (-1)]) (bestB block edge cost size a es 0 (-1))
end Go.Proofs.Ytfoimgkgkjhbeaa
