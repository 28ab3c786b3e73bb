/- The reference's costs are the least costs too, and its path is the same. -/
import Derived.Test.YtfoimgkgkjhbeaaL4
import Derived.Test.YtfoimgkgkjhbeaaW9
namespace Go.Proofs.Ytfoimgkgkjhbeaa

theorem edgesL_map : ∀ (bs : List Blk) (k : Nat), edgesL k (bs.map (·.next)) = edgesFrom k bs
  | [], _ => rfl
  | b :: bs, k => by rw [List.map_cons, edgesL, edgesFrom, edgesL_map bs (k + 1)]
theorem edgesL_nexts (g : Gr) : edgesL 0 (nexts g) = edges g := edgesL_map g.blocks 0
theorem nexts_len (g : Gr) : (nexts g).length = g.blocks.length := by simp [nexts]
theorem nexts_at (g : Gr) (b : Nat) : (nexts g)[b]?.getD [] = nextOf g b := by
  unfold nexts nextOf
  rw [List.getElem?_map]
  cases h : g.blocks[b]? with
  | none => rfl
  | some x => rfl

def absR (g : Gr) (st : List Int × List Int) (a : Nat) : Option (Int × Int) := if a < g.blocks.length ∧ 0 ≤ st.1[a]?.getD 0 then some (st.1[a]?.getD 0, st.2[a]?.getD 0) else none
theorem absR_some {g : Gr} {st : List Int × List Int} {a : Nat} {u : Int × Int} : absR g st a = some u ↔ (a < g.blocks.length ∧ 0 ≤ st.1[a]?.getD 0) ∧ u = (st.1[a]?.getD 0, st.2[a]?.getD 0) := by
  unfold absR
  split
  · rename_i h; simp [h, eq_comm]
  · rename_i h; simp [h]
structure IR (g : Gr) (c : Cst) (st : List Int × List Int) : Prop where
  l1 : st.1.length = g.blocks.length
  l2 : st.2.length = g.blocks.length
  no : ∀ a : Nat, st.1[a]?.getD 0 < 0 → st.1[a]?.getD 0 = -1 ∧ st.2[a]?.getD 0 = 0
  en : ∀ a, a < g.blocks.length → (nextOf g a).length = 0 → st.1[a]?.getD 0 = c.block[a]?.getD 0 ∧ st.2[a]?.getD 0 = 1
  inv : Inv (netOf g c) (absR g st)
theorem absR_set {g : Gr} {st : List Int × List Int} {a : Nat} (ha : a < g.blocks.length) (h1 : st.1.length = g.blocks.length) (h2 : st.2.length = g.blocks.length) {x y : Int} (hx : 0 ≤ x) : absR g (st.1.set a x, st.2.set a y) = upd (absR g st) a (x, y) := by
  funext b
  by_cases h : b = a
  · subst h
    rw [upd_self]
    unfold absR
    dsimp only
    rw [List.getElem?_set_self (by omega), List.getElem?_set_self (by omega)]
    simp [ha, hx]
  · rw [upd_ne _ _ h]
    unfold absR
    dsimp only
    rw [List.getElem?_set_ne (Ne.symm h), List.getElem?_set_ne (Ne.symm h)]
theorem ir_start {g : Gr} {c : Cst} (hg : GoodIn g c) : IR g c (endsC0 (nexts g) c.block (nexts g).length, endsS0 (nexts g) (nexts g).length) := by
  have hc : ∀ a, a < g.blocks.length → (endsC0 (nexts g) c.block (nexts g).length)[a]?.getD 0 = if (nextOf g a).length = 0 then c.block[a]?.getD 0 else -1 := by
    intro a ha
    unfold endsC0
    rw [List.getElem?_map, List.getElem?_range (by rw [nexts_len]; exact ha)]
    simp only [Option.map_some, Option.getD_some, nexts_len, ha, if_true, nexts_at]
  have hs : ∀ a, a < g.blocks.length → (endsS0 (nexts g) (nexts g).length)[a]?.getD 0 = if (nextOf g a).length = 0 then 1 else 0 := by
    intro a ha
    unfold endsS0
    rw [List.getElem?_map, List.getElem?_range (by rw [nexts_len]; exact ha)]
    simp only [Option.map_some, Option.getD_some, nexts_len, ha, if_true, nexts_at]
  have hout : ∀ a, ¬ a < g.blocks.length → (endsC0 (nexts g) c.block (nexts g).length)[a]?.getD 0 = 0 := by
    intro a ha
    rw [List.getElem?_eq_none (by rw [endsC0_len, nexts_len]; omega)]; rfl
  refine ⟨by rw [endsC0_len, nexts_len], by rw [endsS0_len, nexts_len], ?_, ?_, ?_⟩
  · intro a h
    dsimp only at h ⊢
    by_cases ha : a < g.blocks.length
    · rw [hc a ha] at h ⊢
      rw [hs a ha]
      by_cases hn : (nextOf g a).length = 0
      · rw [if_pos hn] at h
        have := hasNeg_get hg.nn a
        omega
      · rw [if_neg hn, if_neg hn]; exact ⟨rfl, rfl⟩
    · rw [hout a ha] at h; omega
  · intro a ha hn
    dsimp only
    rw [hc a ha, hs a ha, if_pos hn, if_pos hn]; exact ⟨rfl, rfl⟩
  · intro a u hu
    obtain ⟨⟨ha, h0⟩, e⟩ := absR_some.1 hu
    dsimp only at h0 e
    rw [hc a ha] at h0 e
    rw [hs a ha] at e
    by_cases hn : (nextOf g a).length = 0
    · rw [if_pos hn] at e
      rw [if_pos hn] at e
      refine ⟨[], ⟨ha, nx_nil.2 hn⟩, e.symm, by simp, ?_⟩
      intro d l' hd
      rcases List.suffix_cons_iff.1 hd with e' | hd'
      · injection e' with e1 e2
        subst e1 e2
        exact ⟨u, hu, by rw [e]; exact lexLe.refl _⟩
      · simp at hd'
    · rw [if_neg hn] at h0; omega

theorem lessF_true {x m y k : Int} (h : lessF x m y k = true) : 0 ≤ x ∧ (0 ≤ y → lexLt (x, m) (y, k)) := by
  unfold lessF at h
  split at h
  · cases h
  · refine ⟨by omega, fun hy => ?_⟩
    simp only [Bool.or_eq_true, Bool.and_eq_true, decide_eq_true_eq] at h
    unfold lexLt
    dsimp only
    omega
theorem lessF_false {x m y k : Int} (hx : 0 ≤ x) (h : lessF x m y k = false) : 0 ≤ y ∧ lexLe (y, k) (x, m) := by
  unfold lessF at h
  rw [if_neg (by omega)] at h
  simp only [Bool.or_eq_false_iff, Bool.and_eq_false_iff, decide_eq_false_iff_not] at h
  unfold lexLe
  dsimp only
  omega

/-- One edge, read. -/
theorem endStep_at {g : Gr} {c : Cst} (hg : GoodIn g c) {st : List Int × List Int} (h : IR g c st) {i : Nat} (hi : i < (edges g).length) (ch : Bool) :
    ∃ a b : Nat, (edges g)[i]?.getD (0, 0) = ((a : Int), (b : Int)) ∧ a < g.blocks.length ∧ b < g.blocks.length ∧ (b : Int) ∈ nextOf g a ∧ c.edge[i]?.getD 0 = (netOf g c).ec a b ∧
    ((endStep c.block ((edges g)[i]?.getD (0, 0)) (c.edge[i]?.getD 0) (st.1, st.2, ch) = (st.1, st.2, ch) ∧ (∀ z, 0 ≤ (netOf g c).ec a b → absR g st b = some z → ∃ u, absR g st a = some u ∧ lexLe u (step (netOf g c) a b z))) ∨
     (∃ z, 0 ≤ (netOf g c).ec a b ∧ absR g st b = some z ∧ (∀ u, absR g st a = some u → lexLt (step (netOf g c) a b z) u) ∧ 0 ≤ (step (netOf g c) a b z).1 ∧ endStep c.block ((edges g)[i]?.getD (0, 0)) (c.edge[i]?.getD 0) (st.1, st.2, ch) = (st.1.set a (step (netOf g c) a b z).1, st.2.set a (step (netOf g c) a b z).2, true))) := by
  obtain ⟨a, b, e1, e2, e3, e4⟩ := edge_at hg.v hi
  have he : (edges g)[i]? = some ((a : Int), (b : Int)) := by rw [List.getElem?_eq_getElem hi] at e1 ⊢; exact congrArg some e1
  have hec := ec_at (c := c) hg.v he
  refine ⟨a, b, e1, e2, e3, e4, hec.symm, ?_⟩
  rw [e1, endStep_eq, ← hec]
  have hbk : (netOf g c).bk a = c.block[a]?.getD 0 := rfl
  by_cases h1 : (netOf g c).ec a b < 0 ∨ st.1[b]?.getD 0 < 0
  · rw [if_pos h1]
    refine .inl ⟨rfl, fun z hz hb => ?_⟩
    obtain ⟨⟨_, k1⟩, _⟩ := absR_some.1 hb
    omega
  · rw [if_neg h1]
    have hb : absR g st b = some (st.1[b]?.getD 0, st.2[b]?.getD 0) := absR_some.2 ⟨⟨e3, by omega⟩, rfl⟩
    have hst : step (netOf g c) a b (st.1[b]?.getD 0, st.2[b]?.getD 0) = (c.block[a]?.getD 0 + (netOf g c).ec a b + st.1[b]?.getD 0, st.2[b]?.getD 0 + 1) := rfl
    by_cases hl : lessF (c.block[a]?.getD 0 + (netOf g c).ec a b + st.1[b]?.getD 0) (st.2[b]?.getD 0 + 1) (st.1[a]?.getD 0) (st.2[a]?.getD 0) = true
    · rw [if_pos hl]
      obtain ⟨l0, l1⟩ := lessF_true hl
      refine .inr ⟨_, by omega, hb, fun u hu => ?_, by rw [hst]; exact l0, by rw [hst]⟩
      obtain ⟨⟨_, k1⟩, k2⟩ := absR_some.1 hu
      rw [hst, k2]; exact l1 k1
    · rw [if_neg hl]
      refine .inl ⟨rfl, fun z _ hb' => ?_⟩
      rw [hb] at hb'
      cases hb'
      have hx : 0 ≤ c.block[a]?.getD 0 + (netOf g c).ec a b + st.1[b]?.getD 0 := by have := hasNeg_get hg.nn a; omega
      obtain ⟨l0, l1⟩ := lessF_false hx (by simpa using hl)
      exact ⟨_, absR_some.2 ⟨⟨e2, l0⟩, rfl⟩, by rw [hst]; exact l1⟩
theorem ir_step {g : Gr} {c : Cst} (hg : GoodIn g c) {st : List Int × List Int} (h : IR g c st) {i : Nat} (hi : i < (edges g).length) (ch : Bool) :
    IR g c ((endStep c.block ((edges g)[i]?.getD (0, 0)) (c.edge[i]?.getD 0) (st.1, st.2, ch)).1, (endStep c.block ((edges g)[i]?.getD (0, 0)) (c.edge[i]?.getD 0) (st.1, st.2, ch)).2.1) := by
  obtain ⟨a, b, e1, e2, e3, e4, e5, h1 | ⟨z, h2, h3, h4, h5, h6⟩⟩ := endStep_at hg h hi ch
  · rw [h1.1]; exact h
  · rw [h6]
    dsimp only
    have hinv := inv_step (netOk hg) h.inv h3 e2 ((mem_nx hg.v).2 e4) h2 h4
    have hset := absR_set (st := st) e2 h.l1 h.l2 (y := (step (netOf g c) a b z).2) h5
    have ha1 : a < st.1.length := by rw [h.l1]; exact e2
    have ha2 : a < st.2.length := by rw [h.l2]; exact e2
    refine ⟨by rw [List.length_set]; exact h.l1, by rw [List.length_set]; exact h.l2, ?_, ?_, by rw [hset]; exact hinv⟩
    · intro d hd
      dsimp only at hd ⊢
      by_cases hda : d = a
      · subst hda
        rw [List.getElem?_set_self ha1] at hd
        simp only [Option.getD_some] at hd
        omega
      · rw [List.getElem?_set_ne (Ne.symm hda)] at hd ⊢
        rw [List.getElem?_set_ne (Ne.symm hda)]
        exact h.no d hd
    · intro d hd hn
      dsimp only
      have hda : d ≠ a := by
        rintro rfl
        have : nextOf g d = [] := List.length_eq_zero_iff.1 hn
        rw [this] at e4; cases e4
      rw [List.getElem?_set_ne (Ne.symm hda), List.getElem?_set_ne (Ne.symm hda)]
      exact h.en d hd hn

/-! ### The reference's rounds end -/

def rankR (x y : Int) : Nat := if x < 0 then 901943239701 else (x * 21 + y).toNat
def massR (g : Gr) (st : List Int × List Int) : Nat := ((List.range g.blocks.length).map fun a => rankR (st.1[a]?.getD 0) (st.2[a]?.getD 0)).sum
theorem sum_lt {α : Type} {f k : α → Nat} : ∀ {l : List α}, (∀ x ∈ l, k x ≤ f x) → (l.map k).sum ≤ (l.map f).sum ∧ ((∃ x ∈ l, k x < f x) → (l.map k).sum < (l.map f).sum) := by
  intro l
  induction l with
  | nil => intro _; exact ⟨Nat.le_refl _, fun ⟨x, hx, _⟩ => by cases hx⟩
  | cons y l ih =>
    intro h
    obtain ⟨h1, h2⟩ := ih (fun x hx => h x (List.mem_cons_of_mem _ hx))
    have h3 := h y List.mem_cons_self
    simp only [List.map_cons, List.sum_cons]
    refine ⟨by omega, ?_⟩
    rintro ⟨x, hx, hlt⟩
    rcases List.mem_cons.1 hx with rfl | hx
    · omega
    · have := h2 ⟨x, hx, hlt⟩; omega
theorem absR_bounds {g : Gr} {c : Cst} (hg : GoodIn g c) {st : List Int × List Int} (h : IR g c st) {a : Nat} {u : Int × Int} (hu : absR g st a = some u) : 0 ≤ u.1 ∧ u.1 ≤ 42949678080 ∧ 1 ≤ u.2 ∧ u.2 ≤ 20 := by
  obtain ⟨_, h1, h2, h3, h4⟩ := inv_bounds (netOk hg) h.inv hu
  have : ((netOf g c).n : Int) ≤ 20 := by have := hg.small; show ((g.blocks.length : Nat) : Int) ≤ 20; omega
  exact ⟨h1, h2, h3, by omega⟩
theorem massR_less {g : Gr} {c : Cst} (hg : GoodIn g c) {st : List Int × List Int} (h : IR g c st) {a : Nat} (ha : a < g.blocks.length) {v : Int × Int} (hv : 0 ≤ v.1) (h' : IR g c (st.1.set a v.1, st.2.set a v.2)) (hlt : ∀ u, absR g st a = some u → lexLt v u) : massR g (st.1.set a v.1, st.2.set a v.2) < massR g st := by
  have ha1 : a < st.1.length := by rw [h.l1]; exact ha
  have ha2 : a < st.2.length := by rw [h.l2]; exact ha
  have hva : absR g (st.1.set a v.1, st.2.set a v.2) a = some v := by rw [absR_set ha h.l1 h.l2 hv, upd_self]
  have hb1 := absR_bounds hg h' hva
  have hat : rankR ((st.1.set a v.1)[a]?.getD 0) ((st.2.set a v.2)[a]?.getD 0) < rankR (st.1[a]?.getD 0) (st.2[a]?.getD 0) := by
    rw [List.getElem?_set_self ha1, List.getElem?_set_self ha2]
    simp only [Option.getD_some]
    unfold rankR
    rw [if_neg (by omega)]
    by_cases hn : st.1[a]?.getD 0 < 0
    · rw [if_pos hn]; omega
    · rw [if_neg hn]
      have hu : absR g st a = some (st.1[a]?.getD 0, st.2[a]?.getD 0) := absR_some.2 ⟨⟨ha, by omega⟩, rfl⟩
      have hb2 := absR_bounds hg h hu
      have hl := hlt _ hu
      unfold lexLt at hl
      dsimp only at hl hb2
      omega
  refine (sum_lt ?_).2 ⟨a, List.mem_range.2 ha, hat⟩
  intro x _
  by_cases hx : x = a
  · subst hx; exact Nat.le_of_lt hat
  · dsimp only
    rw [List.getElem?_set_ne (Ne.symm hx), List.getElem?_set_ne (Ne.symm hx)]
    exact Nat.le_refl _

theorem endSweep_ok {g : Gr} {c : Cst} (hg : GoodIn g c) : ∀ (es : List (Int × Int)) (i : Nat) (st : List Int × List Int) (ch : Bool), (edges g).drop i = es → IR g c st →
    IR g c ((endSweep c.block c.edge es i (st.1, st.2, ch)).1, (endSweep c.block c.edge es i (st.1, st.2, ch)).2.1) ∧
    massR g ((endSweep c.block c.edge es i (st.1, st.2, ch)).1, (endSweep c.block c.edge es i (st.1, st.2, ch)).2.1) ≤ massR g st ∧
    ((endSweep c.block c.edge es i (st.1, st.2, ch)).2.2 = true → ch = true ∨ massR g ((endSweep c.block c.edge es i (st.1, st.2, ch)).1, (endSweep c.block c.edge es i (st.1, st.2, ch)).2.1) < massR g st) ∧
    ((endSweep c.block c.edge es i (st.1, st.2, ch)).2.2 = false → ch = false ∧ ((endSweep c.block c.edge es i (st.1, st.2, ch)).1, (endSweep c.block c.edge es i (st.1, st.2, ch)).2.1) = st ∧
      ∀ (a b : Nat) z, (∃ j : Nat, i ≤ j ∧ (edges g)[j]? = some ((a : Int), (b : Int))) → 0 ≤ (netOf g c).ec a b → absR g st b = some z → ∃ u, absR g st a = some u ∧ lexLe u (step (netOf g c) a b z)) := by
  intro es
  induction es with
  | nil =>
    intro i st ch hd h
    have hi : (edges g).length ≤ i := by simpa using hd
    refine ⟨h, Nat.le_refl _, fun e => .inl e, fun e => ⟨e, rfl, ?_⟩⟩
    rintro a b z ⟨j, hj, he⟩
    have := (List.getElem?_eq_some_iff.1 he).1
    omega
  | cons e es ih =>
    intro i st ch hd h
    have hi : i < (edges g).length := by
      have := congrArg List.length hd
      rw [List.length_drop, List.length_cons] at this
      omega
    rw [drop_at (edges g) (0, 0) i hi] at hd
    injection hd with he hd'
    rw [endSweep, ← he]
    have hir := ir_step hg h hi ch
    obtain ⟨a, b, e1, e2, e3, e4, e5, ⟨h1, h1'⟩ | ⟨z, h2, h3, h4, h5, h6⟩⟩ := endStep_at hg h hi ch
    · rw [h1]
      obtain ⟨k1, k2, k3, k4⟩ := ih (i + 1) st ch hd' h
      refine ⟨k1, k2, k3, fun ef => ?_⟩
      obtain ⟨f1, f2, f3⟩ := k4 ef
      refine ⟨f1, f2, ?_⟩
      rintro a' b' z' ⟨j, hj, hje⟩ hec hz
      by_cases hji : j = i
      · subst hji
        rw [hje] at e1
        simp only [Option.getD_some, Prod.mk.injEq] at e1
        have ea : a' = a := by omega
        have eb : b' = b := by omega
        subst ea eb
        exact h1' z' hec hz
      · exact f3 a' b' z' ⟨j, by omega, hje⟩ hec hz
    · rw [h6] at hir ⊢
      have hm := massR_less hg h e2 h5 hir h4
      obtain ⟨k1, k2, k3, k4⟩ := ih (i + 1) (st.1.set a (step (netOf g c) a b z).1, st.2.set a (step (netOf g c) a b z).2) true hd' hir
      refine ⟨k1, Nat.le_trans k2 (Nat.le_of_lt hm), fun _ => .inr (Nat.lt_of_le_of_lt k2 hm), fun ef => ?_⟩
      obtain ⟨f1, _⟩ := k4 ef
      cases f1
theorem ends_end {g : Gr} {c : Cst} (hg : GoodIn g c) : ∀ (m : Nat) (st : List Int × List Int), massR g st ≤ m → IR g c st →
    ∃ f out, endsN c.block c.edge (edges g) f st = some out ∧ IR g c out ∧ Fix (netOf g c) (absR g out) := by
  have fin : ∀ st, IR g c st → (endSweep c.block c.edge (edges g) 0 (st.1, st.2, false)).2.2 = false → ∃ f out, endsN c.block c.edge (edges g) f st = some out ∧ IR g c out ∧ Fix (netOf g c) (absR g out) := by
    intro st h hs
    obtain ⟨h1, h2, h3, h4⟩ := endSweep_ok hg (edges g) 0 st false rfl h
    obtain ⟨_, e2, e3⟩ := h4 hs
    refine ⟨1, st, ?_, h, ?_, ?_⟩
    · rw [endsN]; rw [hs, e2]; rfl
    · intro b hb hn
      obtain ⟨k1, k2⟩ := h.en b hb (nx_nil.1 hn)
      refine absR_some.2 ⟨⟨hb, by rw [k1]; exact hasNeg_get hg.nn b⟩, ?_⟩
      rw [k1, k2]; rfl
    · intro b s z hb hsn hec hz
      obtain ⟨i, hi, _⟩ := idx_of hg.v ((mem_nx hg.v).1 hsn)
      exact e3 b s z ⟨i, Nat.zero_le _, hi⟩ hec hz
  intro m
  induction m with
  | zero =>
    intro st hm h
    obtain ⟨h1, h2, h3, h4⟩ := endSweep_ok hg (edges g) 0 st false rfl h
    cases hs : (endSweep c.block c.edge (edges g) 0 (st.1, st.2, false)).2.2 with
    | true => rcases h3 hs with e | e <;> first | cases e | omega
    | false => exact fin st h hs
  | succ m ih =>
    intro st hm h
    obtain ⟨h1, h2, h3, h4⟩ := endSweep_ok hg (edges g) 0 st false rfl h
    cases hs : (endSweep c.block c.edge (edges g) 0 (st.1, st.2, false)).2.2 with
    | true =>
      have hlt : massR g ((endSweep c.block c.edge (edges g) 0 (st.1, st.2, false)).1, (endSweep c.block c.edge (edges g) 0 (st.1, st.2, false)).2.1) < massR g st := by
        rcases h3 hs with e | e
        · cases e
        · exact e
      obtain ⟨f, out, hf, r⟩ := ih _ (by omega) h1
      refine ⟨f + 1, out, ?_, r⟩
      rw [endsN]; rw [hs, if_pos rfl]; exact hf
    | false => exact fin st h hs
theorem ends_ok {g : Gr} {c : Cst} (hg : GoodIn g c) (hE : (edges g).length ≤ 1048576) : EndsOk (nexts g) c.block c.edge (IR g c) := by
  have hsm : ∀ i : Nat, Small (c.block[i]?.getD 0) := fun i => ⟨by have := hasNeg_get hg.nn i; omega, by have := hg.mb i; omega⟩
  refine ⟨by rw [nexts_len]; exact hg.bl, by rw [edgesL_nexts]; exact hg.el, by rw [nexts_len]; have := hg.small; omega, by rw [edgesL_nexts]; exact hE, ?_, fun i => ⟨hsm i, by have := leMost_get hg.me i; omega⟩, ir_start hg, fun st h => ⟨by rw [nexts_len]; exact h.l1, by rw [nexts_len]; exact h.l2⟩, ?_, ?_⟩
  · intro i hi
    rw [edgesL_nexts] at hi ⊢
    obtain ⟨a, b, e1, e2, e3, _⟩ := edge_at hg.v hi
    exact ⟨a, b, e1, by rw [nexts_len]; exact e2, by rw [nexts_len]; exact e3⟩
  · intro st h i
    by_cases hi : i < g.blocks.length
    · by_cases hn : st.1[i]?.getD 0 < 0
      · obtain ⟨k1, k2⟩ := h.no i hn
        rw [k1, k2]; exact ⟨⟨by decide, by decide⟩, ⟨by decide, by decide⟩⟩
      · have hb := absR_bounds hg h (absR_some.2 ⟨⟨hi, by omega⟩, rfl⟩)
        dsimp only at hb
        exact ⟨⟨by omega, by omega⟩, ⟨by omega, by omega⟩⟩
    · rw [List.getElem?_eq_none (by rw [h.l1]; omega), List.getElem?_eq_none (by rw [h.l2]; omega)]
      exact ⟨⟨by decide, by decide⟩, ⟨by decide, by decide⟩⟩
  · intro st ch i h hi
    rw [edgesL_nexts] at hi ⊢
    exact ir_step hg h hi ch

/-! ### The reference's path -/

theorem bestB_ok {g : Gr} {c : Cst} (hg : GoodIn g c) {st : List Int × List Int} (h : IR g c st) {a : Nat} {ua : Int × Int} (ha : absR g st a = some ua) : ∀ (es : List (Int × Int)) (i : Nat) (best : Int), (edges g).drop i = es →
    ((best = -1 ∧ ∀ (j s' : Nat), j < i → (edges g)[j]? = some ((a : Int), (s' : Int)) → ¬ Tight (netOf g c) (absR g st) a s') ∨ (∃ s : Nat, best = (s : Int) ∧ Tight (netOf g c) (absR g st) a s ∧ ∀ (j s' : Nat), j < i → (edges g)[j]? = some ((a : Int), (s' : Int)) → Tight (netOf g c) (absR g st) a s' → s ≤ s')) →
    ((bestB c.block c.edge st.1 st.2 (a : Int) es i best = -1 ∧ ∀ (j s' : Nat), (edges g)[j]? = some ((a : Int), (s' : Int)) → ¬ Tight (netOf g c) (absR g st) a s') ∨
     (∃ s : Nat, bestB c.block c.edge st.1 st.2 (a : Int) es i best = (s : Int) ∧ Tight (netOf g c) (absR g st) a s ∧ ∀ (j s' : Nat), (edges g)[j]? = some ((a : Int), (s' : Int)) → Tight (netOf g c) (absR g st) a s' → s ≤ s')) := by
  intro es
  induction es with
  | nil =>
    intro i best hd hb
    have hi : (edges g).length ≤ i := by simpa using hd
    have hlt : ∀ {j : Nat} {e : Int × Int}, (edges g)[j]? = some e → j < i := fun he => Nat.lt_of_lt_of_le (List.getElem?_eq_some_iff.1 he).1 hi
    rcases hb with ⟨h1, h2⟩ | ⟨s, h1, h2, h3⟩
    · exact .inl ⟨h1, fun j s' he => h2 j s' (hlt he) he⟩
    · exact .inr ⟨s, h1, h2, fun j s' he => h3 j s' (hlt he) he⟩
  | cons e es ih =>
    intro i best hd hb
    have hi : i < (edges g).length := by
      have := congrArg List.length hd
      rw [List.length_drop, List.length_cons] at this
      omega
    rw [drop_at (edges g) (0, 0) i hi] at hd
    injection hd with he hd'
    obtain ⟨x, b, e1, e2, e3, e4⟩ := edge_at hg.v hi
    have hei : (edges g)[i]? = some ((x : Int), (b : Int)) := by rw [List.getElem?_eq_getElem hi] at e1 ⊢; exact congrArg some e1
    have hec := ec_at (c := c) hg.v hei
    rw [bestB, ← he, e1, candB_eq, ← hec]
    refine ih (i + 1) _ hd' ?_
    obtain ⟨⟨ha1, ha2⟩, ha3⟩ := absR_some.1 ha
    have skip : (x ≠ a ∨ ¬ Tight (netOf g c) (absR g st) a b) → ((best = -1 ∧ ∀ (j s' : Nat), j < i + 1 → (edges g)[j]? = some ((a : Int), (s' : Int)) → ¬ Tight (netOf g c) (absR g st) a s') ∨ (∃ s : Nat, best = (s : Int) ∧ Tight (netOf g c) (absR g st) a s ∧ ∀ (j s' : Nat), j < i + 1 → (edges g)[j]? = some ((a : Int), (s' : Int)) → Tight (netOf g c) (absR g st) a s' → s ≤ s')) := by
      intro hsk
      have hat : ∀ s' : Nat, (edges g)[i]? = some ((a : Int), (s' : Int)) → ¬ Tight (netOf g c) (absR g st) a s' := by
        intro s' h'
        rw [hei] at h'
        simp only [Option.some.injEq, Prod.mk.injEq] at h'
        have hxa : x = a := by omega
        have hbs : b = s' := by omega
        rcases hsk with hx | ht
        · exact absurd hxa hx
        · rw [← hbs]; exact ht
      rcases hb with ⟨h1, h2⟩ | ⟨s, h1, h2, h3⟩
      · refine .inl ⟨h1, fun j s' hj h' => ?_⟩
        by_cases hji : j = i
        · subst hji; exact hat s' h'
        · exact h2 j s' (by omega) h'
      · refine .inr ⟨s, h1, h2, fun j s' hj h' ht => ?_⟩
        by_cases hji : j = i
        · subst hji; exact absurd ht (hat s' h')
        · exact h3 j s' (by omega) h' ht
    by_cases c1 : (x : Int) ≠ (a : Int) ∨ (netOf g c).ec x b < 0 ∨ st.1[b]?.getD 0 < 0
    · rw [if_pos c1]
      refine skip ?_
      by_cases hx : x = a
      · right
        subst hx
        rintro ⟨_, k2, z, k3, _⟩
        obtain ⟨⟨_, k4⟩, _⟩ := absR_some.1 k3
        omega
      · exact .inl hx
    · rw [if_neg c1]
      have hxa : x = a := by omega
      subst hxa
      have hbz : absR g st b = some (st.1[b]?.getD 0, st.2[b]?.getD 0) := absR_some.2 ⟨⟨e3, by omega⟩, rfl⟩
      have hst : step (netOf g c) x b (st.1[b]?.getD 0, st.2[b]?.getD 0) = (c.block[x]?.getD 0 + (netOf g c).ec x b + st.1[b]?.getD 0, st.2[b]?.getD 0 + 1) := rfl
      have htight : Tight (netOf g c) (absR g st) x b ↔ c.block[x]?.getD 0 + (netOf g c).ec x b + st.1[b]?.getD 0 = st.1[x]?.getD 0 ∧ st.2[b]?.getD 0 + 1 = st.2[x]?.getD 0 := by
        constructor
        · rintro ⟨_, _, z, k3, k4⟩
          rw [hbz] at k3
          cases k3
          rw [hst, ha, ha3] at k4
          simp only [Option.some.injEq, Prod.mk.injEq] at k4
          omega
        · rintro ⟨k1, k2⟩
          refine ⟨(mem_nx hg.v).2 e4, by omega, _, hbz, ?_⟩
          rw [hst, k1, k2, ha, ha3]
      by_cases c2 : c.block[x]?.getD 0 + (netOf g c).ec x b + st.1[b]?.getD 0 = st.1[x]?.getD 0 ∧ st.2[b]?.getD 0 + 1 = st.2[x]?.getD 0 ∧ (best < 0 ∨ (b : Int) < best)
      · rw [if_pos c2]
        have htb := htight.2 ⟨c2.1, c2.2.1⟩
        refine .inr ⟨b, rfl, htb, fun j s' hj h' ht => ?_⟩
        by_cases hji : j = i
        · subst hji
          rw [hei] at h'
          simp only [Option.some.injEq, Prod.mk.injEq] at h'
          omega
        · rcases hb with ⟨h1, h2⟩ | ⟨s, h1, h2, h3⟩
          · exact absurd ht (h2 j s' (by omega) h')
          · have := h3 j s' (by omega) h' ht
            omega
      · rw [if_neg c2]
        by_cases ht : Tight (netOf g c) (absR g st) x b
        · have hk := htight.1 ht
          rcases hb with ⟨h1, h2⟩ | ⟨s, h1, h2, h3⟩
          · exact absurd ⟨hk.1, hk.2, .inl (by omega)⟩ c2
          · refine .inr ⟨s, h1, h2, fun j s' hj h' ht' => ?_⟩
            by_cases hji : j = i
            · subst hji
              rw [hei] at h'
              simp only [Option.some.injEq, Prod.mk.injEq] at h'
              have : ¬ ((b : Int) < best) := fun hh => c2 ⟨hk.1, hk.2, .inr hh⟩
              omega
            · exact h3 j s' (by omega) h' ht'
        · exact skip (.inr ht)
theorem rpath_ok {g : Gr} {c : Cst} (hg : GoodIn g c) {rs : List Rest} (h : IP g c rs) (hf : Fix (netOf g c) (absP rs)) {st : List Int × List Int} (hr : IR g c st) (heq : ∀ b, absR g st b = absP rs b) :
    ∀ (k b : Nat) (p : List Int), (rs[b]?.getD default).ok = true → (rs[b]?.getD default).blocks = (k : Int) → rpathN (nexts g) c.block c.edge st.1 st.2 (edgesL 0 (nexts g)) k p (b : Int) = some (p ++ pathP g c rs k b) := by
  have hfun : absR g st = absP rs := funext heq
  intro k
  induction k with
  | zero =>
    intro b p ho hk
    have := (absP_bounds hg h b ho).2.2.1
    omega
  | succ k ih =>
    intro b p ho hk
    have hb := (inv_bounds (netOk hg) h.inv (absP_some.2 ⟨ho, rfl⟩)).1
    have hb' : b < g.blocks.length := hb
    rw [rpathN, pathP, if_neg (by rw [nexts_len]; omega), Int.toNat_natCast, nexts_at]
    by_cases hn : (nextOf g b).length = 0
    · rw [if_pos hn, if_pos hn, List.append_nil]
    · rw [if_neg hn, if_neg hn]
      obtain ⟨j, s, e1, e2, ht, hmin⟩ := find_tight hg h hf ho hn
      rw [e1]
      simp only [e2, Int.toNat_natCast]
      have hua : absR g st b = some ((rs[b]?.getD default).cost, (rs[b]?.getD default).blocks) := by rw [heq]; exact absP_some.2 ⟨ho, rfl⟩
      have hbest : bestB c.block c.edge st.1 st.2 (b : Int) (edgesL 0 (nexts g)) 0 (-1) = (s : Int) := by
        rw [edgesL_nexts]
        obtain ⟨i, hi, _⟩ := idx_of hg.v ((mem_nx hg.v).1 ht.1)
        rcases bestB_ok hg hr hua (edges g) 0 (-1) rfl (.inl ⟨rfl, fun j s' hj _ => by omega⟩) with ⟨_, h2⟩ | ⟨s', h1, h2, h3⟩
        · exact absurd (by rw [hfun]; exact ht) (h2 i s hi)
        · have l1 := h3 i s hi (by rw [hfun]; exact ht)
          have l2 := hmin s' (by rw [← hfun]; exact h2)
          rw [h1]; omega
      rw [hbest]
      obtain ⟨_, _, z, hz, hbz⟩ := ht
      obtain ⟨z1, z2⟩ := absP_some.1 hz
      obtain ⟨_, b2⟩ := absP_some.1 hbz
      rw [step_eq, z2] at b2
      simp only [Prod.mk.injEq] at b2
      rw [ih s _ z1 (by omega), List.append_assoc]; rfl
end Go.Proofs.Ytfoimgkgkjhbeaa
