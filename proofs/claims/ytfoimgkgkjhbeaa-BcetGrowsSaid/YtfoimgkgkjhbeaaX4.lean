/- BcetGrows: for every graph, all costs and two bytes the law returns true, and the arguments read as they did. -/
import Derived.Test.YtfoimgkgkjhbeaaXH
import Derived.Test.YtfoimgkgkjhbeaaWJ
namespace Go.Proofs.Ytfoimgkgkjhbeaa
open Go.ChangeShapes Go.WideShapes Go.ChangeAt Go.RowKit Go.Deep

set_option maxRecDepth 100000 in
theorem grows_contract (H : Type) (enc : TypeId × Value → H) (W : World) (base : Nat) (args : Array Value) (ds gs : List (DataW H)) (before : List MemPlace)
    (hval : ∀ (j : Nat) t v, Try.f5.params[j]? = some t → args[j]? = some v → Value.okWide Try.prog W .any base t v)
    (hW : DataW.Whole enc Try.prog Try.f5.params.toList Rows.bcetGrowsSpec.vars false W args.toList ds gs before)
    (hz : (DataW.weightsEach Try.prog (Try.f5.params.toList ++ Rows.bcetGrowsSpec.plain.varTypes Try.prog) (ds ++ gs)).all (· ≤ reachBytes) = true) :
    Calls Try.prog 5 args W fun e W' => ∃ v, e = .returned v ∧ Rows.bcetGrowsSpec.post enc Try.prog Try.f5 false true false false W args v W' := by
  have hW' := hW
  obtain ⟨p, q, hA0, hV, rfl, hfz, hnd⟩ := hW
  have hA : DataW.TrodAll enc Try.prog W 0 (fun _ => true) true Try.f5.params.toList args.toList ds p := hA0
  rw [Try.params5] at hA hval hz
  obtain ⟨v0, vs0, d0, ds0, p0, q0, hargs, rfl, rfl, h0, r0⟩ := trodAll_cons hA
  obtain ⟨v1, vs1, d1, ds1, p1, q1, rfl, rfl, rfl, h1, r1⟩ := trodAll_cons r0
  obtain ⟨v2, vs2, d2, ds2, p2, q2, rfl, rfl, rfl, h2, r2⟩ := trodAll_cons r1
  obtain ⟨v3, vs3, d3, ds3, p3, q3, rfl, rfl, rfl, h3, r3⟩ := trodAll_cons r2
  obtain ⟨rfl, rfl, rfl⟩ := trodAll_nil r3
  obtain rfl : args = #[v0, v1, v2, v3] := by cases args; simp_all
  obtain ⟨x, rfl, rfl, rfl, wx⟩ := open_int Try.underlying5 (hval 2 5 v2 rfl rfl) h2
  obtain ⟨y, rfl, rfl, rfl, wy⟩ := open_int Try.underlying5 (hval 3 5 v3 rfl rfl) h3
  have hx : 0 ≤ x ∧ x ≤ 255 := by simpa [Lit.wf, IntKind.min, IntKind.max, IntKind.signed, IntKind.bits] using wx
  have hy : 0 ≤ y ∧ y ≤ 255 := by simpa [Lit.wf, IntKind.min, IntKind.max, IntKind.signed, IntKind.bits] using wy
  obtain ⟨rfl, rfl⟩ := trodVars_none hV
  clear hA0
  simp only [List.append_nil] at hW' hz
  have hlt : ∀ x ∈ p0 ++ p1, x.block < W.heap.size := fun x hx => by simpa using hW'.lt x hx
  obtain ⟨g, A, c, B, k, e1, e2, hv0, gA, gB, hd0, hs1, hs2, _, _, _⟩ := graph_read h0
  have hz0 : (DataW.weights Try.prog 25 d0).all (· ≤ reachBytes) = true := by
    rw [List.all_eq_true] at hz ⊢
    intro x hx
    exact hz x (DataW.weights_mem_each (j := 0) rfl rfl x hx)
  subst hd0
  obtain ⟨hg1, hg2⟩ := graph_sized hs1 hs2 hz0
  obtain ⟨cs, hc⟩ := costs_read h1
  have hg : GraphV W v0 g := ⟨A, c, B, k, hv0, gA, gB, hg1, hg2⟩
  obtain ⟨x, rfl⟩ := Int.eq_ofNat_of_zero_le hx.1
  obtain ⟨y, rfl⟩ := Int.eq_ofNat_of_zero_le hy.1
  have hx1 : x ≤ 255 := by omega
  have hy1 : y ≤ 255 := by omega
  refine (bcetGrows_any W v0 v1 g cs _ _ hx1 hy1 hg hc).mono fun e W' ⟨he, hbl⟩ => ?_
  subst he
  have k0 := Below.trod laidTry2 (by kernel_rfl) (of_decide_eq_true (by kernel_rfl)) h0 hbl (fun x hx => hlt x (List.mem_append_left _ hx))
  have k1 := Below.trod laidTry2 (by kernel_rfl) (of_decide_eq_true (by kernel_rfl)) h1 hbl (fun x hx => hlt x (List.mem_append_right _ hx))
  have k2 := Below.trod laidTry2 (by kernel_rfl) (of_decide_eq_true (by kernel_rfl)) h2 hbl (fun x hx => by simp at hx)
  have k3 := Below.trod laidTry2 (by kernel_rfl) (of_decide_eq_true (by kernel_rfl)) h3 hbl (fun x hx => by simp at hx)
  exact ⟨_, rfl, _, _, _, [], _, [], hW', trodAll_cons_mk (shut_bool Try.underlying4 _) trodAll_mk0, by
    have := trodAll_cons_mk k0 (trodAll_cons_mk k1 (trodAll_cons_mk k2 (trodAll_cons_mk k3 trodAll_mk0)))
    simp only [List.append_nil, List.nil_append] at this
    exact this, rfl, hbl.frame _, fun h => by cases h⟩

set_option maxRecDepth 100000 in
theorem grows_lifted (os : Os) (started : os.Started) (H : Type) (enc : TypeId × Value → H) :
    ReturnsInHanded {} Try.checked os 5 .any (Rows.bcetGrowsSpec.pre6 enc Try.prog Try.f5 Rows.bcetGrowsRow.domain false) (Rows.bcetGrowsSpec.post enc Try.prog Try.f5 false true false false) := by
  refine returnsInHanded_of_change_sized (C := Try.checked) (s := Rows.bcetGrowsSpec) ownTry2 started (by kernel_rfl) Try.func5
    (ChangeSpec.witness6 (enc := enc) (C := Try.checked) false ⟨#[], #[.agg #[.slice none 0 0, .slice none 0 0], .agg #[.slice none 0 0, .slice none 0 0, .int .i64 0], .int .u8 0, .int .u8 0], []⟩ 8 (by kernel_rfl) (by kernel_rfl) (by kernel_rfl) (by kernel_rfl)) ?_
  intro W base args ds gs before hval hW _ hz _
  exact grows_contract H enc W base args ds gs before hval hW hz

theorem bcetGrows_holds : Rows.BcetGrowsSaid :=
  OpenClaim.holds_of_wide 5 Try.f5 rfl rfl rfl rfl rfl rfl rfl ⟨rfl, rfl, rfl, rfl, rfl⟩ rfl rfl rfl rfl rfl (by kernel_rfl) Try.func5 (by kernel_rfl)
    (of_decide_eq_true (by kernel_rfl)) (by unfold Func.isWrapper; first | (rw [if_pos (by decide +kernel)]; kernel_rfl) | (rw [if_neg (by decide +kernel)]; exact ⟨rfl, rfl⟩))
    (fun os started H enc _ => grows_lifted os started H enc)
end Go.Proofs.Ytfoimgkgkjhbeaa
