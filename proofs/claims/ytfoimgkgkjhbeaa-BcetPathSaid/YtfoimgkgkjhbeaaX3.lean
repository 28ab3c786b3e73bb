/- BcetPath: for every graph and all costs the law returns true, and the arguments read as they did. -/
import Derived.Test.YtfoimgkgkjhbeaaXH
import Derived.Test.YtfoimgkgkjhbeaaWM
namespace Go.Proofs.Ytfoimgkgkjhbeaa
open Go.ChangeShapes Go.WideShapes Go.ChangeAt Go.RowKit Go.Deep

set_option maxRecDepth 100000 in
theorem path_contract (H : Type) (enc : TypeId × Value → H) (W : World) (base : Nat) (args : Array Value) (ds gs : List (DataW H)) (before : List MemPlace)
    (hval : ∀ (j : Nat) t v, Try.f6.params[j]? = some t → args[j]? = some v → Value.okWide Try.prog W .any base t v)
    (hW : DataW.Whole enc Try.prog Try.f6.params.toList Rows.bcetPathSpec.vars false W args.toList ds gs before)
    (hz : (DataW.weightsEach Try.prog (Try.f6.params.toList ++ Rows.bcetPathSpec.plain.varTypes Try.prog) (ds ++ gs)).all (· ≤ reachBytes) = true) :
    Calls Try.prog 6 args W fun e W' => ∃ v, e = .returned v ∧ Rows.bcetPathSpec.post enc Try.prog Try.f6 false true false false W args v W' := by
  have hW' := hW
  obtain ⟨p, q, hA0, hV, rfl, hfz, hnd⟩ := hW
  have hA : DataW.TrodAll enc Try.prog W 0 (fun _ => true) true Try.f6.params.toList args.toList ds p := hA0
  rw [Try.params6] at hA hval hz
  obtain ⟨v0, vs0, d0, ds0, p0, q0, hargs, rfl, rfl, h0, r0⟩ := trodAll_cons hA
  obtain ⟨v1, vs1, d1, ds1, p1, q1, rfl, rfl, rfl, h1, r1⟩ := trodAll_cons r0
  obtain ⟨rfl, rfl, rfl⟩ := trodAll_nil r1
  obtain rfl : args = #[v0, v1] := by cases args; simp_all
  obtain ⟨rfl, rfl⟩ := trodVars_none hV
  clear hA0
  simp only [List.append_nil] at hW' hz
  have hlt : ∀ x ∈ p0 ++ p1, x.block < W.heap.size := fun x hx => by simpa using hW'.lt x hx
  obtain ⟨g, A, c, B, k, e1, e2, hv0, gA, gB, hd0, hs1, hs2, _, _, _⟩ := graph_read h0
  have hz0 : (DataW.weights Try.prog 25 d0).all (· ≤ reachBytes) = true := by
    rw [List.all_eq_true] at hz ⊢
    intro x hx
    exact hz x (DataW.weights_mem_each (j := 0) rfl rfl x hx)
  subst hd0
  obtain ⟨hg1, hg2⟩ := graph_sized hs1 hs2 hz0
  obtain ⟨cs, hc⟩ := costs_read h1
  have hg : GraphV W v0 g := ⟨A, c, B, k, hv0, gA, gB, hg1, hg2⟩
  refine (bcetPath_any W v0 v1 g cs hg hc).mono fun e W' ⟨he, hbl⟩ => ?_
  subst he
  have k0 := Below.trod laidTry2 (by kernel_rfl) (of_decide_eq_true (by kernel_rfl)) h0 hbl (fun x hx => hlt x (List.mem_append_left _ hx))
  have k1 := Below.trod laidTry2 (by kernel_rfl) (of_decide_eq_true (by kernel_rfl)) h1 hbl (fun x hx => hlt x (List.mem_append_right _ hx))
  exact ⟨_, rfl, _, _, _, [], _, [], hW', trodAll_cons_mk (shut_bool Try.underlying4 _) trodAll_mk0, by
    have := trodAll_cons_mk k0 (trodAll_cons_mk k1 trodAll_mk0)
    rw [List.append_nil] at this
    exact this, rfl, hbl.frame _, fun h => by cases h⟩

set_option maxRecDepth 100000 in
theorem path_lifted (os : Os) (started : os.Started) (H : Type) (enc : TypeId × Value → H) :
    ReturnsInHanded {} Try.checked os 6 .any (Rows.bcetPathSpec.pre6 enc Try.prog Try.f6 Rows.bcetPathRow.domain false) (Rows.bcetPathSpec.post enc Try.prog Try.f6 false true false false) := by
  refine returnsInHanded_of_change_sized (C := Try.checked) (s := Rows.bcetPathSpec) ownTry2 started (by kernel_rfl) Try.func6
    (ChangeSpec.witness6 (enc := enc) (C := Try.checked) false ⟨#[], #[.agg #[.slice none 0 0, .slice none 0 0], .agg #[.slice none 0 0, .slice none 0 0, .int .i64 0]], []⟩ 8 (by kernel_rfl) (by kernel_rfl) (by kernel_rfl) (by kernel_rfl)) ?_
  intro W base args ds gs before hval hW _ hz _
  exact path_contract H enc W base args ds gs before hval hW hz

theorem bcetPath_holds : Rows.BcetPathSaid :=
  OpenClaim.holds_of_wide 6 Try.f6 rfl rfl rfl rfl rfl rfl rfl ⟨rfl, rfl, rfl, rfl, rfl⟩ rfl rfl rfl rfl rfl (by kernel_rfl) Try.func6 (by kernel_rfl)
    (of_decide_eq_true (by kernel_rfl)) (by unfold Func.isWrapper; first | (rw [if_pos (by decide +kernel)]; kernel_rfl) | (rw [if_neg (by decide +kernel)]; exact ⟨rfl, rfl⟩))
    (fun os started H enc _ => path_lifted os started H enc)
end Go.Proofs.Ytfoimgkgkjhbeaa
