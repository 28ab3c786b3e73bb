/- A region that draws its order, walked by a plan, where the last operation waits for all others: behind it S need not hold. With a step law for 'append' to a slice of the call's own. -/
import Derived.Test.YtfoimgkgkjhbeaaBR
import Derived.Test.YtfoimgkgkjhbeaaB
namespace Go.Proofs.Ytfoimgkgkjhbeaa
open Go.RowKit
section
variable {P : Program} {ops : Array Oper} {Q : Exit → Act → World → Prop} {md : Region.Mode} {S : World → Prop} {L : Nat}

/-- Whatever order comes, S holds behind every operation but L. -/
def wpAnyL (P : Program) (md : Region.Mode) (ops : Array Oper) (Q : Exit → Act → World → Prop) (S : World → Prop) (L : Nat) : Nat → Array Bool → Act → World → Prop
  | 0, listed, a, w => Region.ready md ops listed = [] ∧ Q .normal a w
  | n + 1, listed, a, w => (Region.ready md ops listed = [] → Q .normal a w) ∧
    ∀ i ∈ Region.ready md ops listed, wpOp P ops Q i (fun a' w' => (i ≠ L → S w') ∧ wpAnyL P md ops Q S L n (listed.setIfInBounds i true) a' w') a w

theorem wpAny_of_L : ∀ (n : Nat) (listed : Array Bool) (a : Act) (w : World), wpAnyL P md ops Q S L n listed a w → wpAny P md ops Q n listed a w
  | 0, _, _, _, h => h
  | n + 1, _, _, _, h => ⟨h.1, fun i hi => wpOp_mono (fun a' w' h' => wpAny_of_L n _ a' w' h'.2) (h.2 i hi)⟩

/-- L waits for i. -/
def waits (md : Region.Mode) (ops : Array Oper) (L i : Nat) : Bool := match ops[L]? with | some o => o.after.any fun e => Region.binds md e && e.on == i | none => true

theorem not_ready_of_waits {i : Nat} {listed : Array Bool} (hw : waits md ops L i = true) (hi : i ∈ Region.ready md ops listed) : L ∉ Region.ready md ops listed := by
  intro hL
  obtain ⟨_, o, ho, hall⟩ := mem_ready.1 hL
  simp only [waits, ho] at hw
  obtain ⟨e, he, hb⟩ := Array.any_eq_true'.1 hw
  simp only [Bool.and_eq_true, beq_iff_eq] at hb
  have h1 := hall e he hb.1
  have h0 := (mem_ready.1 hi).1
  rw [hb.2] at h1
  rcases Nat.lt_or_ge i listed.size with h' | h'
  · simp [h'] at h0 h1; rw [h0] at h1; cases h1
  · simp [Array.getElem?_eq_none h'] at h1

theorem wpAnyL_take {i : Nat} {oi : Oper} {v : Value} (hi : ops[i]? = some oi) (hs : Region.noSelect ops = true) (hQ : ∀ c a w, Q (.panic c) (a.put oi.dst v) w → Q (.panic c) a w) (hiL : i ≠ L) (hw : waits md ops L i = true) :
    ∀ (n : Nat) (listed : Array Bool) (a : Act) (w : World), Region.free md ops listed i = true → i ∈ Region.ready md ops listed → YieldsIf P ops S oi v a → S w →
      wpAnyL P md ops Q S L n (listed.setIfInBounds i true) (a.put oi.dst v) w → wpAnyL P md ops Q S L (n + 1) listed a w := by
  have hsel := Region.noSelect_spec hs
  suffices main : ∀ (n : Nat) (listed : Array Bool) (a : Act) (w : World),
      (∀ j oj, ops[j]? = some oj → j ≠ i → listed.getD j true = false → (∀ e ∈ oj.after, Region.binds md e = true → e.on ≠ i) → oi.apart ops oj = true) → i ∈ Region.ready md ops listed → YieldsIf P ops S oi v a → S w →
      wpAnyL P md ops Q S L n (listed.setIfInBounds i true) (a.put oi.dst v) w → wpAnyL P md ops Q S L (n + 1) listed a w from
    fun n listed a w hf => main n listed a w (Region.free_spec hi hf)
  intro n
  induction n with
  | zero =>
    intro listed a w _ hr hy hS H
    refine ⟨fun h => (by rw [h] at hr; cases hr), fun j hj => ?_⟩
    by_cases e : j = i
    · subst e; exact hy.wpOp hi hS ⟨fun _ => hS, H⟩
    · have := ready_mono hj e
      rw [H.1] at this; cases this
  | succ n ih =>
    intro listed a w hf hr hy hS H
    refine ⟨fun h => (by rw [h] at hr; cases hr), fun j hj => ?_⟩
    by_cases e : j = i
    · subst e; exact hy.wpOp hi hS ⟨fun _ => hS, H⟩
    · have hjL : j ≠ L := fun h => not_ready_of_waits hw hr (h ▸ hj)
      obtain ⟨hj0, oj, hoj, hall⟩ := mem_ready.1 hj
      have hno : ∀ e ∈ oj.after, Region.binds md e = true → e.on ≠ i := by
        intro e he hb heq
        have h1 := hall e he hb
        have h0 := (mem_ready.1 hr).1
        rw [heq] at h1
        rcases Nat.lt_or_ge i listed.size with h' | h'
        · simp [h'] at h0 h1; rw [h0] at h1; cases h1
        · simp [Array.getElem?_eq_none h'] at h1
      have h2 := wpOp_putIf hoj (hf j oj hoj e hj0 hno) (fun cs b => hsel i oi cs b hi) (fun cs b => hsel j oj cs b hoj) hQ hy (H.2 j (ready_mono hj e))
      refine wpOp_mono (fun a' w' h3 => ⟨fun _ => h3.2.1 hjL, ?_⟩) h2
      refine ih _ a' w' ?_ (ready_mono hr (Ne.symm e)) h3.1 (h3.2.1 hjL) ?_
      · intro k ok hk hki hk0 hkno
        by_cases hjk : j = k
        · subst hjk; exact hf j ok hk hki hj0 hkno
        · rw [getD_set_ne true hjk] at hk0; exact hf k ok hk hki hk0 hkno
      · rw [Array.setIfInBounds_comm _ _ e]; exact h3.2.2

def wpPlanL (P : Program) (ops : Array Oper) (Q : Exit → Act → World → Prop) (S : World → Prop) (L : Nat) : List (Nat × Bool) → Act → World → Prop
  | [], a, w => Q .normal a w
  | (i, t) :: rest, a, w =>
    match ops[i]? with
    | none => False
    | some o =>
      if Region.wanted o (yielded ops a.tmps) then
        (if t then ∃ v, (∀ W, S W → (execOp a.eval o).run P W = .ok (.value v) W) ∧ wpPlanL P ops Q S L rest (a.put o.dst v) w
         else o.wp P a w (fun a' w' => (i ≠ L → S w') ∧ wpPlanL P ops Q S L rest a' w') Q)
      else wpPlanL P ops Q S L rest (a.put o.dst undef) w

def planOkL (md : Region.Mode) (ops : Array Oper) (L : Nat) : List (Nat × Bool) → Array Bool → Bool
  | [], listed => (Region.ready md ops listed).isEmpty
  | (i, t) :: rest, listed =>
    (if t then (Region.ready md ops listed).contains i && Region.free md ops listed i && waits md ops L i && (i != L) else Region.ready md ops listed == [i] && (i != L || rest.isEmpty)) && planOkL md ops L rest (listed.setIfInBounds i true)

theorem wpAnyL_of_plan (hs : Region.noSelect ops = true) (hQ : ∀ c a a' w, Q (.panic c) a' w → Q (.panic c) a w) : ∀ (pl : List (Nat × Bool)) (listed : Array Bool) (a : Act) (w : World),
    planOkL md ops L pl listed = true → S w → wpPlanL P ops Q S L pl a w → wpAnyL P md ops Q S L pl.length listed a w := by
  intro pl
  induction pl with
  | nil =>
    intro listed a w hok _ h
    exact ⟨by simpa [planOkL] using hok, h⟩
  | cons x rest ih =>
    obtain ⟨i, t⟩ := x
    intro listed a w hok hS h
    simp only [planOkL, Bool.and_eq_true] at hok
    obtain ⟨h1, h2⟩ := hok
    simp only [wpPlanL] at h
    cases ho : ops[i]? with
    | none => simp only [ho] at h
    | some o =>
      simp only [ho] at h
      cases t with
      | true =>
        simp only [if_true, Bool.and_eq_true, bne_iff_ne, ne_eq] at h1
        obtain ⟨⟨⟨r1, r2⟩, r3⟩, r4⟩ := h1
        have r1' : i ∈ Region.ready md ops listed := by simpa using r1
        by_cases hw : Region.wanted o (yielded ops a.tmps) = true
        · simp only [hw, if_true] at h
          obtain ⟨v, hv, hn⟩ := h
          exact wpAnyL_take ho hs (fun c a w => hQ c a _ w) r4 r3 _ _ _ _ r2 r1' (.inl ⟨hw, hv⟩) hS (ih _ _ _ h2 hS hn)
        · simp only [hw, Bool.false_eq_true, if_false] at h
          exact wpAnyL_take ho hs (fun c a w => hQ c a _ w) r4 r3 _ _ _ _ r2 r1' (.inr ⟨by simpa using hw, rfl⟩) hS (ih _ _ _ h2 hS h)
      | false =>
        simp only [Bool.false_eq_true, if_false, Bool.and_eq_true, beq_iff_eq, Bool.or_eq_true, bne_iff_ne, ne_eq] at h1
        obtain ⟨r1, r2⟩ := h1
        refine ⟨fun h0 => (by rw [r1] at h0; cases h0), fun j hj => ?_⟩
        rw [r1] at hj
        simp only [List.mem_singleton] at hj
        subst hj
        have next : ∀ a' w', ((j ≠ L → S w') ∧ wpPlanL P ops Q S L rest a' w') → (j ≠ L → S w') ∧ wpAnyL P md ops Q S L rest.length (listed.setIfInBounds j true) a' w' := by
          rintro a' w' ⟨hS', hn⟩
          refine ⟨hS', ?_⟩
          by_cases hjL : j = L
          · have hre : rest = [] := by
              rcases r2 with r2 | r2
              · exact absurd hjL r2
              · simpa using r2
            subst hre
            exact ⟨by simpa [planOkL] using h2, hn⟩
          · exact ih _ _ _ h2 (hS' hjL) hn
        unfold wpOp
        simp only [ho]
        by_cases hw : Region.wanted o (yielded ops a.tmps) = true
        · simp only [hw, if_true, Bool.false_eq_true, if_false] at h ⊢
          exact .inl (Oper.wp_mono next h)
        · simp only [hw, Bool.false_eq_true, if_false] at h ⊢
          exact next _ _ ⟨fun _ => hS, h⟩

theorem wp_region_planL {id : Nat} {a : Act} {w : World} {l : List Oper} (S : World → Prop) (L : Nat) (pl : List (Nat × Bool)) (hm : P.follows .mixedOrders = true) (hs : Region.noSelect l.toArray = true)
    (hok : planOkL .any l.toArray L pl (Array.replicate l.toArray.size false) = true) (hlen : pl.length = l.toArray.size) (hS : S w.drew) (h : wpPlanL P l.toArray (NoPan Q) S L pl a w.drew) : (Code.region id l.toArray true).wp P Q a w := by
  refine Code.wp_mono NoPan.imp (wp_region_any hm ?_)
  have := wpAny_of_L _ _ _ _ (wpAnyL_of_plan hs (fun c a a' w h => h) pl _ a _ hok hS h)
  rw [hlen] at this
  exact this

theorem wpPlanL_nil {a : Act} {w : World} (h : Q .normal a w) : wpPlanL P ops (NoPan Q) S L [] a w := h
theorem wpPlanL_take {i : Nat} {rest : List (Nat × Bool)} {a : Act} {w : World} {o : Oper} (ho : ops[i]? = some o)
    (h : ∀ K : Act → World → Prop, (∀ a w, wpPlanL P ops Q S L rest a w → K a w) → if Region.wanted o (yielded ops a.tmps) then ∃ v, (∀ W, S W → (execOp a.eval o).run P W = .ok (.value v) W) ∧ K (a.put o.dst v) w else K (a.put o.dst undef) w) :
    wpPlanL P ops Q S L ((i, true) :: rest) a w := by
  have := h _ (fun _ _ h => h)
  simp only [wpPlanL, ho]
  exact this
theorem wpPlanL_sole {i : Nat} {rest : List (Nat × Bool)} {a : Act} {w : World} {o : Oper} (ho : ops[i]? = some o) (hiL : i ≠ L)
    (h : ∀ K : Act → World → Prop, (∀ a w, wpPlanL P ops Q S L rest a w → K a w) → if Region.wanted o (yielded ops a.tmps) then o.wp P a w (fun a' w' => S w' ∧ K a' w') Q else K (a.put o.dst undef) w) :
    wpPlanL P ops Q S L ((i, false) :: rest) a w := by
  have := h _ (fun _ _ h => h)
  simp only [wpPlanL, ho, Bool.false_eq_true, if_false]
  split at this
  · rename_i hw
    rw [if_pos hw]
    exact Oper.wp_mono (fun a' w' h => ⟨fun _ => h.1, h.2⟩) this
  · rename_i hw
    rw [if_neg hw]; exact this
theorem wpPlanL_last {rest : List (Nat × Bool)} {a : Act} {w : World} {o : Oper} (ho : ops[L]? = some o)
    (h : ∀ K : Act → World → Prop, (∀ a w, wpPlanL P ops Q S L rest a w → K a w) → if Region.wanted o (yielded ops a.tmps) then o.wp P a w K Q else K (a.put o.dst undef) w) :
    wpPlanL P ops Q S L ((L, false) :: rest) a w := by
  have := h _ (fun _ _ h => h)
  simp only [wpPlanL, ho, Bool.false_eq_true, if_false]
  split at this
  · rename_i hw
    rw [if_pos hw]
    exact Oper.wp_mono (fun a' w' h => ⟨fun h0 => absurd rfl h0, h⟩) this
  · rename_i hw
    rw [if_neg hw]; exact this
end

section
variable {P : Program} {α : Type} (E : Enc P α) {ops : Array Oper} {o : Oper} {a : Act} {Q : Exit → Act → World → Prop} {W w0 : World} {K : Act → World → Prop} {E' : Prop}
/-- 'out = append(out, x)' as one step of a region. -/
theorem step_app1 (hgd : o.guard = none) (s x : Operand) (ho : o.op = .call { callee := .builtin .append, args := #[s, x], argTypes := #[E.t, E.t] })
    {base : Nat} {v : Value} {l : List α} (hs : a.eval s = v) (hown : OwnL E W base v l) (y : α) {cs : Array Value} {e' : TypeId} (hcs : cs = (E.enc y).toArray)
    (hx : a.eval x = .slice (some ⟨W.heap.size, 0, none⟩) 1 1) (hn : (l.length + 1) * E.bytes ≤ 140737488355328) (hm : l.length + 1 ≤ maxLen) {B : Nat} (hBb : B ≤ base) (hbase : base ≤ W.heap.size) (hb : Below B w0 W)
    (h : ∀ v' w', OwnL E w' base v' (l ++ [y]) → Below B w0 w' → W.grownBy w' v.ownBlock → (v'.ownBlock = v.ownBlock ∨ ∃ k, v'.ownBlock = some k ∧ W.heap.size ≤ k) → K (a.put o.dst v') w') :
    if Region.wanted o (yielded ops a.tmps) = true then Oper.wp P o a (W.alloc (.cells cs e')) K Q else E' := by
  have hw : Region.wanted o (yielded ops a.tmps) = true := by simp [Region.wanted, hgd]
  rw [if_pos hw]
  obtain ⟨i0, hi, hz0, hz1, hz2⟩ := info_parts E.hinfo
  subst hcs
  have hown' : (W.alloc (.cells (E.enc y).toArray e')).ownsRow base E.e E.size v l.length (E.cells l) := World.ownsRow.alloc hown _
  obtain ⟨v', w', hr, h1, h2, h3, h4⟩ := run_append_own_at (P := P) (W.alloc (.cells (E.enc y).toArray e')) base E.t o.type E.e i0 E.z E.size E.bytes E.ht hi hz0 hz1 hz2 E.hz E.hpos v l.length (E.cells l) hown' ⟨W.heap.size, 0, none⟩ 1 1 (E.enc y) (by rw [E.hlen, Nat.one_mul]) (by
    intro j u hj
    have hadd : (⟨W.heap.size, 0, none⟩ : Addr).add j = ⟨W.heap.size, j, none⟩ := by unfold Addr.add; split <;> simp_all
    rw [hadd]
    have hh : (W.alloc (.cells (E.enc y).toArray e')).heap[W.heap.size]? = some (.cells (E.enc y).toArray e') := heap_alloc_new W _
    simp only [World.cell?, hh]; simpa using hj) (E.hone y) hm hn (by simp; omega)
  unfold Oper.wp execOp
  simp only [ho, resolve, invoke, builtin, Sem.run_bind, Sem.run_pure, Result.andThen_ok, List.map_toArray, List.map_cons, List.map_nil, hs, hx, hr]
  refine h v' w' ?_ ?_ ?_ (h4.imp id fun e => ⟨_, e, by simp⟩)
  · unfold OwnL
    rw [List.length_append, E.cells_append]
    simpa [Enc.cells] using h1
  · refine (hb.alloc (Nat.le_trans hBb hbase) _).grown h2 (by simp; omega) ?_
    intro k hk
    exact Nat.le_trans hBb (World.ownsRow.lt hown k hk).1
  · exact (World.grownBy_alloc W _ _).andThen h2 (fun j hj => Or.inr hj)
end
end Go.Proofs.Ytfoimgkgkjhbeaa
