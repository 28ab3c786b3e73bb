/- What the rows' forms say of what comes in: the reach, small numbers. -/
import Derived.Test.YtfoimgkgkjhbeaaX0
namespace Go.Proofs.Ytfoimgkgkjhbeaa
open Go.ChangeShapes Go.WideShapes Go.ChangeAt Go.RowKit Go.Deep

theorem ownTry2 : ownKnob Try.prog.godebug = none := by kernel_rfl
theorem laidTry2 : laidOutB Try.prog = true := by kernel_rfl
theorem cellsOf5 : Try.prog.cellsOf 5 = 1 := by kernel_rfl
theorem bytes43 : Try.prog.bytesOf 43 = 40 := by kernel_rfl
theorem bytes26 : Try.prog.bytesOf 26 = 24 := by kernel_rfl

section
variable {H : Type} {enc : TypeId × Value → H} {W : World}
set_option maxRecDepth 100000 in
/-- What the reach says of a graph. -/
theorem graph_sized {d1 d2 : DataW H} {n m : Nat} (h1 : SizeIs d1 n) (h2 : SizeIs d2 m) (hw : (DataW.weights Try.prog 25 (.agg [d1, d2])).all (· ≤ reachBytes) = true) : n * 40 ≤ 140737488351232 ∧ m * 24 ≤ 140737488351232 := by
  have hw' : (DataW.weightsEach Try.prog [22, 23] [d1, d2]).all (· ≤ reachBytes) = true := by
    unfold DataW.weights at hw
    rw [Try.underlying25] at hw
    exact hw
  have hr : reachBytes = 140737488351232 := by decide
  constructor
  · rcases h1 with ⟨_, rfl⟩ | ⟨el, sp, rfl, rfl⟩
    · omega
    · have := sized_slice hw' (j := 0) rfl rfl Try.underlying22
      rw [bytes43, hr] at this
      omega
  · rcases h2 with ⟨_, rfl⟩ | ⟨el, sp, rfl, rfl⟩
    · omega
    · have := sized_slice hw' (j := 1) rfl rfl Try.underlying23
      rw [bytes26, hr] at this
      omega
end

end Go.Proofs.Ytfoimgkgkjhbeaa
