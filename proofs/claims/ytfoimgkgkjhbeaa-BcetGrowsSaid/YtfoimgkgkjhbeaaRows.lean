/-
  No cell of these rows narrows 'for every input' (looked for: loops, veiled, ifaces, maps, wideKeys, modest, calm, conditions, laid).
  DERIVED. THE GIVEN ROWS OF THIS SEAT. 5 by the template 'for every input the law returns true; each argument reads behind the call as it read before'; 0 by the template 'total and deterministic' (their statements: YtfoimgkgkjhbeaaTotals.lean).
  GIVEN WITH THE SEED: the statements are not yours to turn. If you find one false, say at which input.
  Laid BY PROGRAM, IN A SANDBOX (cutbox-rows.mjs): the forced cells as the released guide's own fill.sh prints them over the translation 4d4bd5668b8bb0f7… (all of the seat's roots in one cut). By AI agents, Wed Nov 11 2026. No macro, syntax, notation, axiom, sorry.
-/
import Derived.Test.YtfoimgkgkjhbeaaChecked
import GoSem.Claim
import GoSem.ClaimJoined
import GoSem.ClaimMapViews
import Derived.JoinedTies
import Derived.KernelRfl
namespace Go.Proofs.Ytfoimgkgkjhbeaa
/- THE CELL 'sum', in the pinned program and in every row, IS THE sha256 OF THE DUMP (.gsa) THAT YtfoimgkgkjhbeaaProg.lean LOADS. Nothing in Lean hashes anything: it is a label: what it is worth is what the hold of that sum in a sandbox is worth. -/
noncomputable def Try.pinned : Pinned := { name := "ytfoimgkgkjhbeaa", sum := "4d4bd5668b8bb0f798fbc2dd00ebe7272f9a84deb905d716e38a3679e881012d", checked := Try.checked }
namespace Rows
def none {H : Type} : Left H := { results := [], args := [] }

/-- 'ontimelaw40.BcetShortest': WHATEVER THE INPUT: true; the input reads as it did. -/
def bcetShortestSpec : ChangeSpec := { name := "bcetShortest", fn := fun _ => fun
  | [d1, d2] => { results := [.lit (.bool true)], args := [d1, d2] }
  | _ => none }
def bcetShortestRow : OpenClaim := { program := "ytfoimgkgkjhbeaa", sum := "4d4bd5668b8bb0f798fbc2dd00ebe7272f9a84deb905d716e38a3679e881012d", func := "ontime/ontimelaw40.BcetShortest", spec := "bcetShortest", unfollowed := true, recurses := true, plainKeys := false, apart := false }
def BcetShortestSaid : Prop := bcetShortestRow.holds Try.pinned (OpenSpec.ofChange bcetShortestSpec)

/-- ITS FALSE NEIGHBOUR: 'it returns false'. Refute it at one input. -/
def bcetShortestWrong : ChangeSpec := { name := "bcetShortest", fn := fun _ => fun
  | [d1, d2] => { results := [.lit (.bool false)], args := [d1, d2] }
  | _ => none }
def BcetShortestWrongFalsely : Prop := bcetShortestRow.holds Try.pinned (OpenSpec.ofChange bcetShortestWrong)

/-- 'ontimelaw40.BcetLeast': WHATEVER THE INPUT: true; the input reads as it did. -/
def bcetLeastSpec : ChangeSpec := { name := "bcetLeast", fn := fun _ => fun
  | [d1, d2, d3] => { results := [.lit (.bool true)], args := [d1, d2, d3] }
  | _ => none }
def bcetLeastRow : OpenClaim := { program := "ytfoimgkgkjhbeaa", sum := "4d4bd5668b8bb0f798fbc2dd00ebe7272f9a84deb905d716e38a3679e881012d", func := "ontime/ontimelaw40.BcetLeast", spec := "bcetLeast", unfollowed := true, recurses := true, plainKeys := false, apart := false }
def BcetLeastSaid : Prop := bcetLeastRow.holds Try.pinned (OpenSpec.ofChange bcetLeastSpec)

/-- ITS FALSE NEIGHBOUR: 'it returns false'. Refute it at one input. -/
def bcetLeastWrong : ChangeSpec := { name := "bcetLeast", fn := fun _ => fun
  | [d1, d2, d3] => { results := [.lit (.bool false)], args := [d1, d2, d3] }
  | _ => none }
def BcetLeastWrongFalsely : Prop := bcetLeastRow.holds Try.pinned (OpenSpec.ofChange bcetLeastWrong)

/-- 'ontimelaw40.BcetGrows': WHATEVER THE INPUT: true; the input reads as it did. -/
def bcetGrowsSpec : ChangeSpec := { name := "bcetGrows", fn := fun _ => fun
  | [d1, d2, d3, d4] => { results := [.lit (.bool true)], args := [d1, d2, d3, d4] }
  | _ => none }
def bcetGrowsRow : OpenClaim := { program := "ytfoimgkgkjhbeaa", sum := "4d4bd5668b8bb0f798fbc2dd00ebe7272f9a84deb905d716e38a3679e881012d", func := "ontime/ontimelaw40.BcetGrows", spec := "bcetGrows", unfollowed := true, recurses := true, plainKeys := false, apart := false }
def BcetGrowsSaid : Prop := bcetGrowsRow.holds Try.pinned (OpenSpec.ofChange bcetGrowsSpec)

/-- ITS FALSE NEIGHBOUR: 'it returns false'. Refute it at one input. -/
def bcetGrowsWrong : ChangeSpec := { name := "bcetGrows", fn := fun _ => fun
  | [d1, d2, d3, d4] => { results := [.lit (.bool false)], args := [d1, d2, d3, d4] }
  | _ => none }
def BcetGrowsWrongFalsely : Prop := bcetGrowsRow.holds Try.pinned (OpenSpec.ofChange bcetGrowsWrong)

/-- 'ontimelaw40.BcetPath': WHATEVER THE INPUT: true; the input reads as it did. -/
def bcetPathSpec : ChangeSpec := { name := "bcetPath", fn := fun _ => fun
  | [d1, d2] => { results := [.lit (.bool true)], args := [d1, d2] }
  | _ => none }
def bcetPathRow : OpenClaim := { program := "ytfoimgkgkjhbeaa", sum := "4d4bd5668b8bb0f798fbc2dd00ebe7272f9a84deb905d716e38a3679e881012d", func := "ontime/ontimelaw40.BcetPath", spec := "bcetPath", unfollowed := true, recurses := true, plainKeys := false, apart := false }
def BcetPathSaid : Prop := bcetPathRow.holds Try.pinned (OpenSpec.ofChange bcetPathSpec)

/-- ITS FALSE NEIGHBOUR: 'it returns false'. Refute it at one input. -/
def bcetPathWrong : ChangeSpec := { name := "bcetPath", fn := fun _ => fun
  | [d1, d2] => { results := [.lit (.bool false)], args := [d1, d2] }
  | _ => none }
def BcetPathWrongFalsely : Prop := bcetPathRow.holds Try.pinned (OpenSpec.ofChange bcetPathWrong)

/-- 'ontimelaw34.BlockcostPaths': WHATEVER THE INPUT: true; the input reads as it did. -/
def blockcostPathsSpec : ChangeSpec := { name := "blockcostPaths", fn := fun _ => fun
  | [d1, d2, d3, d4] => { results := [.lit (.bool true)], args := [d1, d2, d3, d4] }
  | _ => none }
def blockcostPathsRow : OpenClaim := { program := "ytfoimgkgkjhbeaa", sum := "4d4bd5668b8bb0f798fbc2dd00ebe7272f9a84deb905d716e38a3679e881012d", func := "ontime/ontimelaw34.BlockcostPaths", spec := "blockcostPaths", unfollowed := true, recurses := true, plainKeys := false, apart := false }
def BlockcostPathsSaid : Prop := blockcostPathsRow.holds Try.pinned (OpenSpec.ofChange blockcostPathsSpec)

/-- ITS FALSE NEIGHBOUR: 'it returns false'. Refute it at one input. -/
def blockcostPathsWrong : ChangeSpec := { name := "blockcostPaths", fn := fun _ => fun
  | [d1, d2, d3, d4] => { results := [.lit (.bool false)], args := [d1, d2, d3, d4] }
  | _ => none }
def BlockcostPathsWrongFalsely : Prop := blockcostPathsRow.holds Try.pinned (OpenSpec.ofChange blockcostPathsWrong)

/- THE SECOND FORM. 'bulk': how many values and letters a reading holds, each counted each time it is reached (what is shared counts as often as it is met; a slice's spare places count too). A statement '..UptoSaid' is the law's where the arguments, and the package variables that the reading takes, are together of bulk at most 1048576: NARROWER than '..Said'. Prove '..Said' where nothing that the law and all that it calls make is longer than what came in: it says more and counts as full. Else prove '..UptoSaid'. A law counts once. -/
mutual
def uptoBulk {H : Type} : DataW H → Nat
  | .lit (.string bytes) => bytes.length + 1
  | .lit _ => 1
  | .nil => 1
  | .ptr d => uptoBulk d + 1
  | .slice elems spare => uptoBulkAll elems + uptoBulkAll spare + 1
  | .agg parts => uptoBulkAll parts + 1
  | .iface _ d => uptoBulk d + 1
  | .map entries => uptoBulkEntries entries + 1
  | .held _ => 1
def uptoBulkAll {H : Type} : List (DataW H) → Nat
  | [] => 0
  | d :: r => uptoBulk d + uptoBulkAll r
def uptoBulkEntries {H : Type} : List (Lit × DataW H) → Nat
  | [] => 0
  | x :: r => uptoBulkEntry x + uptoBulkEntries r
def uptoBulkEntry {H : Type} : Lit × DataW H → Nat
  | (.string bytes, d) => bytes.length + uptoBulk d + 1
  | (_, d) => uptoBulk d + 1
 end
def uptoSmall : (H : Type) → List (DataW H) → Bool := fun _ ds => decide (uptoBulkAll ds ≤ 1048576)
def OpenSpec.upto (s : _root_.Go.ChangeSpec) : _root_.Go.OpenSpec := { _root_.Go.OpenSpec.ofChange s with cond := some uptoSmall }

/-- 'ontimelaw40.BcetShortest', WHERE WHAT IT READS IS OF BULK AT MOST 1048576: true; the input reads as it did. -/
def bcetShortestUptoRow : OpenClaim := { program := "ytfoimgkgkjhbeaa", sum := "4d4bd5668b8bb0f798fbc2dd00ebe7272f9a84deb905d716e38a3679e881012d", func := "ontime/ontimelaw40.BcetShortest", spec := "bcetShortest", unfollowed := true, recurses := true, plainKeys := false, apart := false, narrowed := true }
def BcetShortestUptoSaid : Prop := bcetShortestUptoRow.holds Try.pinned (OpenSpec.upto bcetShortestSpec)

/-- 'ontimelaw40.BcetLeast', WHERE WHAT IT READS IS OF BULK AT MOST 1048576: true; the input reads as it did. -/
def bcetLeastUptoRow : OpenClaim := { program := "ytfoimgkgkjhbeaa", sum := "4d4bd5668b8bb0f798fbc2dd00ebe7272f9a84deb905d716e38a3679e881012d", func := "ontime/ontimelaw40.BcetLeast", spec := "bcetLeast", unfollowed := true, recurses := true, plainKeys := false, apart := false, narrowed := true }
def BcetLeastUptoSaid : Prop := bcetLeastUptoRow.holds Try.pinned (OpenSpec.upto bcetLeastSpec)

/-- 'ontimelaw40.BcetGrows', WHERE WHAT IT READS IS OF BULK AT MOST 1048576: true; the input reads as it did. -/
def bcetGrowsUptoRow : OpenClaim := { program := "ytfoimgkgkjhbeaa", sum := "4d4bd5668b8bb0f798fbc2dd00ebe7272f9a84deb905d716e38a3679e881012d", func := "ontime/ontimelaw40.BcetGrows", spec := "bcetGrows", unfollowed := true, recurses := true, plainKeys := false, apart := false, narrowed := true }
def BcetGrowsUptoSaid : Prop := bcetGrowsUptoRow.holds Try.pinned (OpenSpec.upto bcetGrowsSpec)

/-- 'ontimelaw40.BcetPath', WHERE WHAT IT READS IS OF BULK AT MOST 1048576: true; the input reads as it did. -/
def bcetPathUptoRow : OpenClaim := { program := "ytfoimgkgkjhbeaa", sum := "4d4bd5668b8bb0f798fbc2dd00ebe7272f9a84deb905d716e38a3679e881012d", func := "ontime/ontimelaw40.BcetPath", spec := "bcetPath", unfollowed := true, recurses := true, plainKeys := false, apart := false, narrowed := true }
def BcetPathUptoSaid : Prop := bcetPathUptoRow.holds Try.pinned (OpenSpec.upto bcetPathSpec)

/-- 'ontimelaw34.BlockcostPaths', WHERE WHAT IT READS IS OF BULK AT MOST 1048576: true; the input reads as it did. -/
def blockcostPathsUptoRow : OpenClaim := { program := "ytfoimgkgkjhbeaa", sum := "4d4bd5668b8bb0f798fbc2dd00ebe7272f9a84deb905d716e38a3679e881012d", func := "ontime/ontimelaw34.BlockcostPaths", spec := "blockcostPaths", unfollowed := true, recurses := true, plainKeys := false, apart := false, narrowed := true }
def BlockcostPathsUptoSaid : Prop := blockcostPathsUptoRow.holds Try.pinned (OpenSpec.upto blockcostPathsSpec)

end Rows
end Go.Proofs.Ytfoimgkgkjhbeaa
