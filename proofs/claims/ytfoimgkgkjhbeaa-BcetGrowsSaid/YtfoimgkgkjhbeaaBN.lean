/- 'append(s, xs...)' of ints that came in to an empty slice of the call's own, as one step of a region. -/
import Derived.Test.YtfoimgkgkjhbeaaBL
import Derived.Test.YtfoimgkgkjhbeaaW3
namespace Go.Proofs.Ytfoimgkgkjhbeaa
open Go.RowKit
section
variable {ops : Array Oper} {o : Oper} {a : Act} {Q : Exit → Act → World → Prop} {W w0 : World} {K : Act → World → Prop} {E' : Prop}
theorem step_appN (hgd : o.guard = none) (s x : Operand) (ho : o.op = .call { callee := .builtin .append, args := #[s, x], argTypes := #[26, 26] })
    {base : Nat} {v : Value} (hs : a.eval s = v) (hown : OwnL encInt W base v []) {A : Option Addr} {cc : Nat} (ys : List Int) (hne : 0 < ys.length) (hx : a.eval x = .slice A ys.length cc) (hA : IntsAt W A ys)
    (hn : ys.length * 8 ≤ 140737488355328) (hm : ys.length ≤ maxLen) {B : Nat} (hBb : B ≤ base) (hbase : base ≤ W.heap.size) (hb : Below B w0 W)
    (h : ∀ v' w', OwnL encInt w' base v' ys → Below B w0 w' → W.grownBy w' v.ownBlock → (v'.ownBlock = v.ownBlock ∨ ∃ k, v'.ownBlock = some k ∧ W.heap.size ≤ k) → K (a.put o.dst v') w') :
    if Region.wanted o (yielded ops a.tmps) = true then Oper.wp Try.prog o a W K Q else E' := by
  have hw : Region.wanted o (yielded ops a.tmps) = true := by simp [Region.wanted, hgd]
  rw [if_pos hw]
  obtain ⟨i0, hi, hz0, hz1, hz2⟩ := info_parts encInt.hinfo
  obtain ⟨b, off, rfl, _⟩ := hA 0 hne
  have hcl : encInt.cells ys = ys.map (Value.int .i64) := flatMap_one _ _
  obtain ⟨v', w', hr, h1, h2, h3, h4⟩ := run_append_own_at (P := Try.prog) W base 26 o.type 3 i0 encInt.z 1 8 Try.underlying26 hi hz0 hz1 hz2 encInt.hz encInt.hpos v 0 [] hown ⟨b, off, none⟩ ys.length cc (ys.map (Value.int .i64)) (by rw [List.length_map, Nat.mul_one]) (by
    intro j u hj
    have hadd : (⟨b, off, none⟩ : Addr).add j = ⟨b, off + j, none⟩ := by unfold Addr.add; split <;> simp_all
    rw [hadd]
    have hjl : j < ys.length := by
      have := (List.getElem?_eq_some_iff.1 hj).1
      simpa using this
    obtain ⟨b', off', e, hc⟩ := hA j hjl
    cases e
    rw [hc]
    simp [hjl] at hj ⊢
    exact hj) (by intro u hu; obtain ⟨z, _, rfl⟩ := List.mem_map.1 hu; rfl) (by rw [Nat.zero_add]; exact hm) (by rw [Nat.zero_add]; exact hn) hbase
  unfold Oper.wp execOp
  simp only [ho, resolve, invoke, builtin, Sem.run_bind, Sem.run_pure, Result.andThen_ok, List.map_toArray, List.map_cons, List.map_nil, hs, hx, hr]
  refine h v' w' ?_ ?_ h2 (h4.imp id fun e => ⟨_, e, Nat.le_refl _⟩)
  · show w'.ownsRow base 3 1 v' ys.length (encInt.cells ys)
    rw [hcl]
    have := h1
    rw [Nat.zero_add, List.nil_append] at this
    exact this
  · refine hb.grown h2 (Nat.le_trans hBb hbase) ?_
    intro k hk
    exact Nat.le_trans hBb (World.ownsRow.lt hown k hk).1
end
/-- A store into a slice of ints of the call's own. -/
theorem OwnL.set {w : World} {base : Nat} {A : Option Addr} {n c : Nat} {xs : List Int} (h : OwnL encInt w base (.slice A n c) xs) (i : Nat) (hi : i < xs.length) (x : Int) :
    ∃ b, A = some ⟨b, 0, none⟩ ∧ base ≤ b ∧ w.cell? ⟨b, i, none⟩ = some (.int .i64 (xs[i]?.getD 0)) ∧ w.frozen? ⟨b, i, none⟩ = false ∧ OwnL encInt (w.setCell ⟨b, i, none⟩ (.int .i64 x)) base (.slice A n c) (xs.set i x) := by
  obtain ⟨h1, h2⟩ := h
  rcases h2 with ⟨_, h3⟩ | ⟨g, cap, cur, hv, hg, hh, hn, hcap, hsz, htake⟩
  · have : xs.length = 0 := h3
    omega
  · have hv' := hv
    injection hv with e1 e2 e3
    subst e1
    have hcl : ∀ l : List Int, encInt.cells l = l.map (Value.int .i64) := fun l => flatMap_one _ _
    have hs : cur.toList.take (xs.length * 1) = encInt.cells xs := htake
    rw [hcl, Nat.mul_one] at hs
    have hic : i < cur.size := by rw [hsz]; show i < cap * 1; omega
    have hat : cur[i]? = some (.int .i64 (xs[i]?.getD 0)) := by
      have : (cur.toList.take xs.length)[i]? = (xs.map (Value.int .i64))[i]? := by rw [hs]
      rw [List.getElem?_take, if_pos hi] at this
      simpa [hi] using this
    refine ⟨g, rfl, hg, by simp [World.cell?, hh, hat], by simp [World.frozen?, hh], ?_⟩
    refine ⟨by rw [List.length_set]; show (encInt.cells _).length = _; rw [hcl, List.length_map, List.length_set]; show xs.length = xs.length * 1; omega, .inr ⟨g, cap, cur.setIfInBounds i (.int .i64 x), by rw [List.length_set]; exact hv', hg, heap_setCell_row hh i _, by rw [List.length_set]; exact hn, hcap, by simpa using hsz, ?_⟩⟩
    rw [List.length_set, hcl]
    show (cur.setIfInBounds i (.int .i64 x)).toList.take (xs.length * 1) = _
    rw [Nat.mul_one, Array.toList_setIfInBounds, List.map_set, ← hs]
    rw [List.take_set]
/-- A struct of three fields is stored into a block of the call's own; the slice of ints beside it stays. -/
theorem set3_cut {w0 w1 : World} {b base B : Nat} {s v0 v1 v2 u0 u1 u2 : Value} {xs : List Int} (hX : w1.heap[b]? = some (.cells #[u0, u1, u2] 28 (0, 0))) (hown : OwnL encInt w1 base s xs) (hb : Below B w0 w1) (hB : B ≤ b) :
    (((w1.setCell ⟨b, 0, none⟩ v0).setCell ⟨b, 1, none⟩ v1).setCell ⟨b, 2, none⟩ v2).heap[b]? = some (.cells #[v0, v1, v2] 28 (0, 0)) ∧
    OwnL encInt (((w1.setCell ⟨b, 0, none⟩ v0).setCell ⟨b, 1, none⟩ v1).setCell ⟨b, 2, none⟩ v2) base s xs ∧
    Below B w0 (((w1.setCell ⟨b, 0, none⟩ v0).setCell ⟨b, 1, none⟩ v1).setCell ⟨b, 2, none⟩ v2) := by
  refine ⟨?_, ?_, ((hb.setCell hB _).setCell hB _).setCell hB _⟩
  · rw [heap_setCell_row (heap_setCell_row (heap_setCell_row hX 0 v0) 1 v1) 2 v2]; rfl
  · obtain ⟨h1, h2⟩ := hown
    refine ⟨h1, ?_⟩
    rcases h2 with h2 | ⟨g, cap, cur, hv, hg, hh, r⟩
    · exact .inl h2
    · refine .inr ⟨g, cap, cur, hv, hg, ?_, r⟩
      have hne : g ≠ b := by
        intro e
        rw [e, hX] at hh
        have h3 := Option.some.inj hh
        injection h3 with _ e2 _
        exact absurd e2 (by decide)
      rw [Below.heap_setCell _ _ _ _ hne, Below.heap_setCell _ _ _ _ hne, Below.heap_setCell _ _ _ _ hne]; exact hh
end Go.Proofs.Ytfoimgkgkjhbeaa
