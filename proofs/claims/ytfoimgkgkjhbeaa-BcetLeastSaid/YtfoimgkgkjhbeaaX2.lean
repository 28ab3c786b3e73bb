/- BcetLeast: for every graph, all costs and all choices the law returns true, and the arguments read as they did. -/
import Derived.Test.YtfoimgkgkjhbeaaX0
import Derived.Test.YtfoimgkgkjhbeaaWI
namespace Go.Proofs.Ytfoimgkgkjhbeaa
open Go.ChangeShapes Go.WideShapes Go.ChangeAt Go.RowKit Go.Deep

theorem ownTry2 : ownKnob Try.prog.godebug = none := by kernel_rfl
theorem laidTry2 : laidOutB Try.prog = true := by kernel_rfl
theorem cellsOf5 : Try.prog.cellsOf 5 = 1 := by kernel_rfl
theorem bytes43 : Try.prog.bytesOf 43 = 40 := by kernel_rfl
theorem bytes26 : Try.prog.bytesOf 26 = 24 := by kernel_rfl

section
variable {H : Type} {enc : TypeId × Value → H} {W : World}
set_option maxRecDepth 100000 in
theorem u8s_read {v : Value} {d : DataW H} {p : List MemPlace} (hs : ∃ a len cap, v = .slice a len cap) (h : DataW.Trod enc Try.prog W 0 (fun _ => true) true 37 v d p) : ∃ ys, U8sV W v ys := by
  obtain ⟨a0, l0, c0, rfl⟩ := hs
  obtain ⟨fuel, h⟩ := h
  rcases open_ints Try.underlying37 Try.underlying5 cellsOf5 h with ⟨hcs, _⟩ | ⟨a, len, cap, zs, hcs, _, hl, hm, hz, _, hc, hw⟩
  · simp [Value.cells] at hcs
    obtain ⟨rfl, rfl, rfl⟩ := hcs
    exact ⟨[], none, 0, rfl, fun i hi => absurd hi (by simp), by simp, fun i => by simp⟩
  · simp [Value.cells] at hcs
    obtain ⟨rfl, rfl, rfl⟩ := hcs
    simp only [if_true] at hz
    unfold maxLen at hm
    have hb : ∀ z ∈ zs, 0 ≤ z ∧ z ≤ 255 := fun z hz' => by
      have := hw z hz'
      simpa [Lit.wf, IntKind.min, IntKind.max, IntKind.signed, IntKind.bits] using this
    have hlen : ((zs.take l0).map Int.toNat).length = l0 := by rw [List.length_map, List.length_take, hz]; omega
    refine ⟨(zs.take l0).map Int.toNat, some a, c0, by rw [hlen], ?_, by rw [hlen]; omega, ?_⟩
    · intro i hi
      rw [hlen] at hi
      obtain ⟨b, off, e, hcell⟩ := addr_at (n := zs.length) (f := fun i => .int .u8 (zs.getD i 0)) hc i (by omega)
      refine ⟨b, off, e, ?_⟩
      have hiz : i < zs.length := by omega
      have := (hb zs[i] (List.getElem_mem hiz)).1
      rw [hcell]
      simp [List.getElem?_take, hi, hiz]
      omega
    · intro i
      by_cases hi : i < l0
      · have hiz : i < zs.length := by omega
        have := (hb zs[i] (List.getElem_mem hiz)).2
        simp [List.getElem?_take, hi, hiz]
        omega
      · simp [List.getElem?_take, hi]
set_option maxRecDepth 100000 in
/-- What the reach says of a graph. -/
theorem graph_sized {d1 d2 : DataW H} {n m : Nat} (h1 : SizeIs d1 n) (h2 : SizeIs d2 m) (hw : (DataW.weights Try.prog 25 (.agg [d1, d2])).all (· ≤ reachBytes) = true) : n * 40 ≤ 140737488351232 ∧ m * 24 ≤ 140737488351232 := by
  have hw' : (DataW.weightsEach Try.prog [22, 23] [d1, d2]).all (· ≤ reachBytes) = true := by
    unfold DataW.weights at hw
    rw [Try.underlying25] at hw
    exact hw
  have hr : reachBytes = 140737488351232 := by decide
  constructor
  · rcases h1 with ⟨_, rfl⟩ | ⟨el, sp, rfl, rfl⟩
    · omega
    · have := sized_slice hw' (j := 0) rfl rfl Try.underlying22
      rw [bytes43, hr] at this
      omega
  · rcases h2 with ⟨_, rfl⟩ | ⟨el, sp, rfl, rfl⟩
    · omega
    · have := sized_slice hw' (j := 1) rfl rfl Try.underlying23
      rw [bytes26, hr] at this
      omega
end

set_option maxRecDepth 100000 in
theorem least_contract (H : Type) (enc : TypeId × Value → H) (W : World) (base : Nat) (args : Array Value) (ds gs : List (DataW H)) (before : List MemPlace)
    (hval : ∀ (j : Nat) t v, Try.f4.params[j]? = some t → args[j]? = some v → Value.okWide Try.prog W .any base t v)
    (hW : DataW.Whole enc Try.prog Try.f4.params.toList Rows.bcetLeastSpec.vars false W args.toList ds gs before)
    (hz : (DataW.weightsEach Try.prog (Try.f4.params.toList ++ Rows.bcetLeastSpec.plain.varTypes Try.prog) (ds ++ gs)).all (· ≤ reachBytes) = true) :
    Calls Try.prog 4 args W fun e W' => ∃ v, e = .returned v ∧ Rows.bcetLeastSpec.post enc Try.prog Try.f4 false true false false W args v W' := by
  have hW' := hW
  obtain ⟨p, q, hA0, hV, rfl, hfz, hnd⟩ := hW
  have hA : DataW.TrodAll enc Try.prog W 0 (fun _ => true) true Try.f4.params.toList args.toList ds p := hA0
  rw [Try.params4] at hA hval hz
  obtain ⟨v0, vs0, d0, ds0, p0, q0, hargs, rfl, rfl, h0, r0⟩ := trodAll_cons hA
  obtain ⟨v1, vs1, d1, ds1, p1, q1, rfl, rfl, rfl, h1, r1⟩ := trodAll_cons r0
  obtain ⟨v2, vs2, d2, ds2, p2, q2, rfl, rfl, rfl, h2, r2⟩ := trodAll_cons r1
  obtain ⟨rfl, rfl, rfl⟩ := trodAll_nil r2
  obtain rfl : args = #[v0, v1, v2] := by cases args; simp_all
  obtain ⟨rfl, rfl⟩ := trodVars_none hV
  clear hA0
  simp only [List.append_nil] at hW' hz
  have hlt : ∀ x ∈ p0 ++ (p1 ++ p2), x.block < W.heap.size := fun x hx => by simpa using hW'.lt x hx
  obtain ⟨g, A, c, B, k, e1, e2, hv0, gA, gB, hd0, hs1, hs2, _, _, _⟩ := graph_read h0
  have hz0 : (DataW.weights Try.prog 25 d0).all (· ≤ reachBytes) = true := by
    rw [List.all_eq_true] at hz ⊢
    intro x hx
    exact hz x (DataW.weights_mem_each (j := 0) rfl rfl x hx)
  subst hd0
  obtain ⟨hg1, hg2⟩ := graph_sized hs1 hs2 hz0
  obtain ⟨cs, hc⟩ := costs_read h1
  obtain ⟨ys, hy⟩ := u8s_read (okWide_slice Try.underlying37 (hval 2 37 v2 rfl rfl)) h2
  have hg : GraphV W v0 g := ⟨A, c, B, k, hv0, gA, gB, hg1, hg2⟩
  refine (bcetLeast_any W v0 v1 v2 g cs ys hg hc hy).mono fun e W' ⟨he, hbl⟩ => ?_
  subst he
  have k0 := Below.trod laidTry2 (by kernel_rfl) (of_decide_eq_true (by kernel_rfl)) h0 hbl (fun x hx => hlt x (List.mem_append_left _ hx))
  have k1 := Below.trod laidTry2 (by kernel_rfl) (of_decide_eq_true (by kernel_rfl)) h1 hbl (fun x hx => hlt x (List.mem_append_right _ (List.mem_append_left _ hx)))
  have k2 := Below.trod laidTry2 (by kernel_rfl) (of_decide_eq_true (by kernel_rfl)) h2 hbl (fun x hx => hlt x (List.mem_append_right _ (List.mem_append_right _ hx)))
  exact ⟨_, rfl, _, _, _, [], _, [], hW', trodAll_cons_mk (shut_bool Try.underlying4 _) trodAll_mk0, by
    have := trodAll_cons_mk k0 (trodAll_cons_mk k1 (trodAll_cons_mk k2 trodAll_mk0))
    rw [List.append_nil] at this
    exact this, rfl, hbl.frame _, fun h => by cases h⟩

set_option maxRecDepth 100000 in
theorem least_lifted (os : Os) (started : os.Started) (H : Type) (enc : TypeId × Value → H) :
    ReturnsInHanded {} Try.checked os 4 .any (Rows.bcetLeastSpec.pre6 enc Try.prog Try.f4 Rows.bcetLeastRow.domain false) (Rows.bcetLeastSpec.post enc Try.prog Try.f4 false true false false) := by
  refine returnsInHanded_of_change_sized (C := Try.checked) (s := Rows.bcetLeastSpec) ownTry2 started (by kernel_rfl) Try.func4
    (ChangeSpec.witness6 (enc := enc) (C := Try.checked) false ⟨#[], #[.agg #[.slice none 0 0, .slice none 0 0], .agg #[.slice none 0 0, .slice none 0 0, .int .i64 0], .slice none 0 0], []⟩ 8 (by kernel_rfl) (by kernel_rfl) (by kernel_rfl) (by kernel_rfl)) ?_
  intro W base args ds gs before hval hW _ hz _
  exact least_contract H enc W base args ds gs before hval hW hz

theorem bcetLeast_holds : Rows.BcetLeastSaid :=
  OpenClaim.holds_of_wide 4 Try.f4 rfl rfl rfl rfl rfl rfl rfl ⟨rfl, rfl, rfl, rfl, rfl⟩ rfl rfl rfl rfl rfl (by kernel_rfl) Try.func4 (by kernel_rfl)
    (of_decide_eq_true (by kernel_rfl)) (by unfold Func.isWrapper; first | (rw [if_pos (by decide +kernel)]; kernel_rfl) | (rw [if_neg (by decide +kernel)]; exact ⟨rfl, rfl⟩))
    (fun os started H enc _ => least_lifted os started H enc)
end Go.Proofs.Ytfoimgkgkjhbeaa
