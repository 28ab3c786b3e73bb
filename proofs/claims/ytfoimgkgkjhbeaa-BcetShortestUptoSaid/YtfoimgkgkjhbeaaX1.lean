/- BcetShortest: for every graph and all costs that are together of bulk at most 1048576, the law returns true, and both arguments read as they did. -/
import Derived.Test.YtfoimgkgkjhbeaaX0
import Derived.Test.YtfoimgkgkjhbeaaWH
namespace Go.Proofs.Ytfoimgkgkjhbeaa
open Go.ChangeShapes Go.WideShapes Go.ChangeAt Go.RowKit

theorem ownTry : ownKnob Try.prog.godebug = none := by kernel_rfl
theorem laidTry : laidOutB Try.prog = true := by kernel_rfl

theorem shortest_contract (H : Type) (enc : TypeId × Value → H) (W : World) (base : Nat) (args : Array Value) (ds gs : List (DataW H)) (before : List MemPlace)
    (hval : ∀ (j : Nat) t v, Try.f3.params[j]? = some t → args[j]? = some v → Value.okWide Try.prog W .any base t v)
    (hW : DataW.Whole enc Try.prog Try.f3.params.toList Rows.bcetShortestSpec.vars false W args.toList ds gs before) (hk : Rows.uptoSmall H (ds ++ gs) = true) :
    Calls Try.prog 3 args W fun e W' => ∃ v, e = .returned v ∧ Rows.bcetShortestSpec.post enc Try.prog Try.f3 false true false false W args v W' := by
  have hW' := hW
  obtain ⟨p, q, hA0, hV, rfl, hfz, hnd⟩ := hW
  have hA : DataW.TrodAll enc Try.prog W 0 (fun _ => true) true Try.f3.params.toList args.toList ds p := hA0
  rw [Try.params3] at hA hval
  obtain ⟨v0, vs0, d0, ds0, p0, q0, hargs, rfl, rfl, h0, r0⟩ := trodAll_cons hA
  obtain ⟨v1, vs1, d1, ds1, p1, q1, rfl, rfl, rfl, h1, r1⟩ := trodAll_cons r0
  obtain ⟨rfl, rfl, rfl⟩ := trodAll_nil r1
  obtain rfl : args = #[v0, v1] := by cases args; simp_all
  obtain ⟨rfl, rfl⟩ := trodVars_none hV
  clear hA0
  simp only [List.append_nil] at hW' hk
  have hlt : ∀ x ∈ p0 ++ p1, x.block < W.heap.size := fun x hx => by simpa using hW'.lt x hx
  have hb : Rows.uptoBulkAll [d0, d1] ≤ 1048576 := of_decide_eq_true hk
  simp only [Rows.uptoBulkAll] at hb
  obtain ⟨g, A, c, B, k, e1, e2, hv0, gA, gB, _, _, _, hE, hg1, hg2⟩ := graph_read h0
  obtain ⟨cs, hc⟩ := costs_read h1
  have hg : GraphV W v0 g := ⟨A, c, B, k, hv0, gA, gB, by omega, by omega⟩
  refine (bcetShortest_any W v0 v1 g cs hg hc (by omega)).mono fun e W' ⟨he, hbl⟩ => ?_
  subst he
  have k0 := Below.trod laidTry (by kernel_rfl) (of_decide_eq_true (by kernel_rfl)) h0 hbl (fun x hx => hlt x (List.mem_append_left _ hx))
  have k1 := Below.trod laidTry (by kernel_rfl) (of_decide_eq_true (by kernel_rfl)) h1 hbl (fun x hx => hlt x (List.mem_append_right _ hx))
  exact ⟨_, rfl, _, _, _, [], _, [], hW', trodAll_cons_mk (shut_bool Try.underlying4 _) trodAll_mk0, by
    have := trodAll_cons_mk k0 (trodAll_cons_mk k1 trodAll_mk0)
    rw [List.append_nil] at this
    exact this, rfl, hbl.frame _, fun h => by cases h⟩

set_option maxRecDepth 100000 in
theorem shortest_lifted (os : Os) (started : os.Started) (H : Type) (enc : TypeId × Value → H) (F : Stop.Interp) :
    ReturnsInHanded {} Try.checked os 3 .any ((Rows.OpenSpec.upto Rows.bcetShortestSpec).pre6 enc Try.prog Try.f3 Rows.bcetShortestUptoRow.domain false) (((Rows.OpenSpec.upto Rows.bcetShortestSpec).at F).post enc Try.prog Try.f3 false true false false) := by
  refine returnsInHanded_of_cond (C := Try.checked) (s := Rows.OpenSpec.upto Rows.bcetShortestSpec) (k := Rows.uptoSmall) rfl ownTry started (by kernel_rfl) Try.func3
    (OpenSpec.witness (enc := enc) (C := Try.checked) (s := Rows.OpenSpec.upto Rows.bcetShortestSpec) (k := Rows.uptoSmall) rfl false ⟨#[], #[.agg #[.slice none 0 0, .slice none 0 0], .agg #[.slice none 0 0, .slice none 0 0, .int .i64 0]], []⟩ 8 (by kernel_rfl) (by kernel_rfl) (by kernel_rfl)
      (x := ([.agg [.nil, .nil], .agg [.nil, .nil, .lit (.int .i64 0)]], [], [])) (by kernel_rfl) rfl (by kernel_rfl)) ?_
  intro W base args ds gs before hval hW _ hk _
  exact shortest_contract H enc W base args ds gs before hval hW hk

theorem bcetShortest_upto : Rows.BcetShortestUptoSaid :=
  OpenClaim.holds_of_cond 3 Try.f3 rfl rfl rfl rfl rfl rfl rfl ⟨rfl, rfl, rfl, rfl, rfl⟩ rfl rfl rfl rfl rfl (by kernel_rfl) Try.func3 (by kernel_rfl)
    (of_decide_eq_true (by kernel_rfl)) (by unfold Func.isWrapper; first | (rw [if_pos (by decide +kernel)]; kernel_rfl) | (rw [if_neg (by decide +kernel)]; exact ⟨rfl, rfl⟩))
    (fun os started H enc _ F => shortest_lifted os started H enc F)
end Go.Proofs.Ytfoimgkgkjhbeaa
