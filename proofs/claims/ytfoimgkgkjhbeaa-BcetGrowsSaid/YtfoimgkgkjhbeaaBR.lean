/- A region that draws its order, walked by a plan: what yields one value in every world that meets S is taken when it may come up; all else is carried out where it alone may come up. -/
import Derived.OrdersHeld
import Derived.WalkKit
namespace Go.Proofs.Ytfoimgkgkjhbeaa
section
variable {P : Program} {ops : Array Oper} {Q : Exit → Act → World → Prop} {md : Region.Mode} {S : World → Prop}

def wpPlan (P : Program) (ops : Array Oper) (Q : Exit → Act → World → Prop) (S : World → Prop) : List (Nat × Bool) → Act → World → Prop
  | [], a, w => Q .normal a w
  | (i, t) :: rest, a, w =>
    match ops[i]? with
    | none => False
    | some o =>
      if Region.wanted o (yielded ops a.tmps) then
        (if t then ∃ v, (∀ W, S W → (execOp a.eval o).run P W = .ok (.value v) W) ∧ wpPlan P ops Q S rest (a.put o.dst v) w
         else o.wp P a w (fun a' w' => S w' ∧ wpPlan P ops Q S rest a' w') Q)
      else wpPlan P ops Q S rest (a.put o.dst undef) w

def planOk (md : Region.Mode) (ops : Array Oper) : List (Nat × Bool) → Array Bool → Bool
  | [], listed => (Region.ready md ops listed).isEmpty
  | (i, t) :: rest, listed =>
    (if t then (Region.ready md ops listed).contains i && Region.free md ops listed i else Region.ready md ops listed == [i]) && planOk md ops rest (listed.setIfInBounds i true)

theorem wpAnyH_of_plan (hs : Region.noSelect ops = true) (hQ : ∀ c a a' w, Q (.panic c) a' w → Q (.panic c) a w) : ∀ (pl : List (Nat × Bool)) (listed : Array Bool) (a : Act) (w : World),
    planOk md ops pl listed = true → S w → wpPlan P ops Q S pl a w → wpAnyH P md ops Q S pl.length listed a w := by
  intro pl
  induction pl with
  | nil =>
    intro listed a w hok _ h
    exact ⟨by simpa [planOk] using hok, h⟩
  | cons x rest ih =>
    obtain ⟨i, t⟩ := x
    intro listed a w hok hS h
    simp only [planOk, Bool.and_eq_true] at hok
    obtain ⟨h1, h2⟩ := hok
    simp only [wpPlan] at h
    cases ho : ops[i]? with
    | none => simp only [ho] at h
    | some o =>
      simp only [ho] at h
      cases t with
      | true =>
        simp only [if_true, Bool.and_eq_true] at h1
        by_cases hw : Region.wanted o (yielded ops a.tmps) = true
        · simp only [hw, if_true] at h
          obtain ⟨v, hv, hn⟩ := h
          exact wpAnyH_take ho hs h1.2 h1.1 (fun c a w => hQ c a _ w) (.inl ⟨hw, hv⟩) hS (ih _ _ _ h2 hS hn)
        · simp only [hw, Bool.false_eq_true, if_false] at h
          exact wpAnyH_take ho hs h1.2 h1.1 (fun c a w => hQ c a _ w) (.inr ⟨by simpa using hw, rfl⟩) hS (ih _ _ _ h2 hS h)
      | false =>
        simp only [Bool.false_eq_true, if_false, beq_iff_eq] at h1
        refine wpAnyH_all (rs := [i]) h1 (by simp) ?_
        intro j hj
        simp only [List.mem_singleton] at hj
        subst hj
        unfold wpOp
        simp only [ho]
        by_cases hw : Region.wanted o (yielded ops a.tmps) = true
        · simp only [hw, if_true, Bool.false_eq_true, if_false] at h ⊢
          exact .inl (Oper.wp_mono (fun a' w' ⟨hS', hn⟩ => ⟨hS', ih _ _ _ h2 hS' hn⟩) h)
        · simp only [hw, Bool.false_eq_true, if_false] at h ⊢
          exact ⟨hS, ih _ _ _ h2 hS h⟩

/-- Q, but 'False' at a panic. -/
def NoPan (Q : Exit → Act → World → Prop) : Exit → Act → World → Prop
  | .panic _, _, _ => False
  | e, a, w => Q e a w
theorem NoPan.imp {Q : Exit → Act → World → Prop} : ∀ (e : Exit) (a : Act) (w : World), NoPan Q e a w → Q e a w := fun e a w h => by
  cases e <;> first | exact h | exact (h : False).elim

theorem wp_region_plan {id : Nat} {a : Act} {w : World} {l : List Oper} (S : World → Prop) (pl : List (Nat × Bool)) (hm : P.follows .mixedOrders = true) (hs : Region.noSelect l.toArray = true)
    (hok : planOk .any l.toArray pl (Array.replicate l.toArray.size false) = true) (hlen : pl.length = l.toArray.size) (hS : S w.drew) (h : wpPlan P l.toArray (NoPan Q) S pl a w.drew) : (Code.region id l.toArray true).wp P Q a w := by
  refine Code.wp_mono NoPan.imp (wp_region_held (S := S) hm ?_)
  have := wpAnyH_of_plan hs (fun c a a' w h => h) pl _ a _ hok hS h
  rw [hlen] at this
  exact this

theorem wpPlan_nil {a : Act} {w : World} (h : Q .normal a w) : wpPlan P ops (NoPan Q) S [] a w := h
theorem wpPlan_take {i : Nat} {rest : List (Nat × Bool)} {a : Act} {w : World} {o : Oper} (ho : ops[i]? = some o)
    (h : ∀ K : Act → World → Prop, (∀ a w, wpPlan P ops Q S rest a w → K a w) → if Region.wanted o (yielded ops a.tmps) then ∃ v, (∀ W, S W → (execOp a.eval o).run P W = .ok (.value v) W) ∧ K (a.put o.dst v) w else K (a.put o.dst undef) w) :
    wpPlan P ops Q S ((i, true) :: rest) a w := by
  have := h _ (fun _ _ h => h)
  simp only [wpPlan, ho]
  exact this
theorem wpPlan_sole {i : Nat} {rest : List (Nat × Bool)} {a : Act} {w : World} {o : Oper} (ho : ops[i]? = some o)
    (h : ∀ K : Act → World → Prop, (∀ a w, wpPlan P ops Q S rest a w → K a w) → if Region.wanted o (yielded ops a.tmps) then o.wp P a w (fun a' w' => S w' ∧ K a' w') Q else K (a.put o.dst undef) w) :
    wpPlan P ops Q S ((i, false) :: rest) a w := by
  have := h _ (fun _ _ h => h)
  simp only [wpPlan, ho, Bool.false_eq_true, if_false]
  exact this

/-- The plan, by program (a helper at the bench: the plans stand written out where they are used). -/
def takeable : Op → Bool
  | .move _ | .assign _ | .pick .. | .load .. | .nilCheck _ | .binOp .. | .unOp .. | .convert .. | .slice .. | .fieldAddr .. | .field .. | .indexAddr .. | .index .. | .lookup .. | .extract .. | .build .. => true
  | .call c => match c.callee with | .builtin .len | .builtin .cap | .builtin .min | .builtin .max => true | _ => false
  | _ => false
def mkPlan (md : Region.Mode) (ops : Array Oper) : Nat → Array Bool → List (Nat × Bool)
  | 0, _ => []
  | f + 1, listed =>
    let rs := Region.ready md ops listed
    match rs.find? (fun i => ((ops[i]?).map fun o => takeable o.op).getD false && Region.free md ops listed i) with
    | some i => (i, true) :: mkPlan md ops f (listed.setIfInBounds i true)
    | none => match rs with
      | [i] => (i, false) :: mkPlan md ops f (listed.setIfInBounds i true)
      | _ => []
end
end Go.Proofs.Ytfoimgkgkjhbeaa
