/- blockcost.Path, in plain words. -/
import Derived.Test.YtfoimgkgkjhbeaaWI
namespace Go.Proofs.Ytfoimgkgkjhbeaa
open Go.RowKit

/-- Path, in plain words. -/
def pathF (n : Nat) (block : List Int) (em : List ((Int × Int) × Int)) : Option Int → List Int → Int → Int × Bool
  | _, [], s => (s, true)
  | pv, b :: bs, s => if b < 0 ∨ (n : Int) ≤ b then (0, false) else
    match pv with
    | none => pathF n block em (some b) bs (IntKind.i64.wrap (s + block[b.toNat]?.getD 0))
    | some a => match alook em (a, b) with
      | none => (0, false)
      | some e => pathF n block em (some b) bs (IntKind.i64.wrap (IntKind.i64.wrap (s + block[b.toNat]?.getD 0) + e))
theorem pathF_cons (n : Nat) (block : List Int) (em : List ((Int × Int) × Int)) (pv : Option Int) (b : Int) (bs : List Int) (s : Int) : pathF n block em pv (b :: bs) s = if b < 0 ∨ (n : Int) ≤ b then (0, false) else
    match pv with
    | none => pathF n block em (some b) bs (IntKind.i64.wrap (s + block[b.toNat]?.getD 0))
    | some a => match alook em (a, b) with
      | none => (0, false)
      | some e => pathF n block em (some b) bs (IntKind.i64.wrap (IntKind.i64.wrap (s + block[b.toNat]?.getD 0) + e)) := by
  cases pv <;> rfl
theorem pathF_nil (n : Nat) (block : List Int) (em : List ((Int × Int) × Int)) (pv : Option Int) (s : Int) : pathF n block em pv [] s = (s, true) := by
  cases pv <;> rfl
def prevOf (ps : List Int) : Nat → Option Int
  | 0 => none
  | k + 1 => some (ps[k]?.getD 0)
def fitB (g : Gr) (c : Cst) : Bool := validB g && decide (c.block.length = g.blocks.length) && decide (c.edge.length = (edges g).length)
def pcost (g : Gr) (c : Cst) (ps : List Int) : Int × Bool := if fitB g c = true then pathF g.blocks.length c.block (cmapN c.edge (edges g) 0 []) none ps 0 else (0, false)
theorem fit_iff {g : Gr} {c : Cst} : fitB g c = true ↔ validB g = true ∧ c.block.length = g.blocks.length ∧ c.edge.length = (edges g).length := by
  unfold fitB; simp only [Bool.and_eq_true, decide_eq_true_eq, and_assoc]

end Go.Proofs.Ytfoimgkgkjhbeaa
