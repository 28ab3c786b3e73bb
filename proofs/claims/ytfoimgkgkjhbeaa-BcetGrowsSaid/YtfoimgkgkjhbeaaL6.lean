/- What greater costs and further forbidden edges do to the least costs; what the path is. -/
import Derived.Test.YtfoimgkgkjhbeaaM1
namespace Go.Proofs.Ytfoimgkgkjhbeaa

theorem walk_congr {N M : Net} (h1 : N.n = M.n) (h2 : ∀ b, N.nx b = M.nx b) (h3 : ∀ b s, s ∈ N.nx b → 0 ≤ N.ec b s → 0 ≤ M.ec b s) : ∀ {l : List Nat}, Walk N l → Walk M l := by
  intro l
  induction l with
  | nil => intro h; exact h
  | cons b l ih =>
    intro h
    cases l with
    | nil => exact ⟨by rw [← h1]; exact h.1, by rw [← h2]; exact h.2⟩
    | cons s l => exact ⟨by rw [← h1]; exact h.1, by rw [← h2]; exact h.2.1, h3 b s h.2.1 h.2.2.1, ih h.tail⟩
theorem val_between {N M : Net} {d : Int} (hb : ∀ b, N.bk b ≤ M.bk b) (hc : ∀ b, M.bk b ≤ N.bk b + d) (he : ∀ b s, s ∈ N.nx b → 0 ≤ N.ec b s → N.ec b s = M.ec b s) : ∀ {l : List Nat}, Walk N l → (val N l).1 ≤ (val M l).1 ∧ (val M l).1 ≤ (val N l).1 + d * (l.length : Int) := by
  intro l
  induction l with
  | nil => intro h; exact absurd h (by simp [Walk])
  | cons b l ih =>
    intro h
    have h1 := hb b
    have h2 := hc b
    cases l with
    | nil => simp only [val, List.length_cons, List.length_nil]; omega
    | cons s l =>
      obtain ⟨k1, k2⟩ := ih h.tail
      have k3 := he b s h.2.1 h.2.2.1
      simp only [val, List.length_cons] at k1 k2 ⊢
      have k4 : d * ((l.length + 1 + 1 : Nat) : Int) = d * ((l.length + 1 : Nat) : Int) + d := by
        rw [show ((l.length + 1 + 1 : Nat) : Int) = ((l.length + 1 : Nat) : Int) + 1 by omega, Int.mul_add, Int.mul_one]
      omega

theorem res0 (rs : List Rest) : (resOk (rs[0]?.getD default) = true ∧ ∃ u, absP rs 0 = some u ∧ u.1 = resCost (rs[0]?.getD default)) ∨ (resOk (rs[0]?.getD default) = false ∧ absP rs 0 = none ∧ resCost (rs[0]?.getD default) = 0) := by
  cases h : (rs[0]?.getD default).ok with
  | true =>
    obtain ⟨z1, z2, _⟩ := res_yes h []
    exact .inl ⟨z1, _, absP_some.2 ⟨h, rfl⟩, z2.symm⟩
  | false =>
    obtain ⟨z1, z2, _⟩ := res_no h []
    refine .inr ⟨z1, ?_, z2⟩
    unfold absP; rw [h]; rfl

/-- One block dearer by d. -/
def dearer (c : Cst) (j : Nat) (d : Int) : Cst := { c with block := c.block.set j (c.block[j]?.getD 0 + d) }
theorem dearer_at (c : Cst) {j : Nat} (hj : j < c.block.length) (d : Int) (b : Nat) : (dearer c j d).block[b]?.getD 0 = if b = j then c.block[b]?.getD 0 + d else c.block[b]?.getD 0 := by
  unfold dearer
  dsimp only
  by_cases h : b = j
  · subst h; rw [if_pos rfl, List.getElem?_set_self hj]; rfl
  · rw [if_neg h, List.getElem?_set_ne (Ne.symm h)]
theorem hasNeg_of {xs : List Int} (h : ∀ i : Nat, 0 ≤ xs[i]?.getD 0) : hasNeg xs = false := hasNeg_upto (fun j hj => by have := h j; simp; simpa [hj] using this)
theorem good_dearer {g : Gr} {c : Cst} (hg : GoodIn g c) (hm : ∀ i : Nat, c.block[i]?.getD 0 ≤ 1073741824) {j : Nat} (hj : j < c.block.length) {d : Int} (h0 : 0 ≤ d) (h1 : d ≤ 255) : GoodIn g (dearer c j d) where
  v := hg.v
  bl := by show (c.block.set _ _).length = _; rw [List.length_set]; exact hg.bl
  el := hg.el
  nn := hasNeg_of fun i => by rw [dearer_at c hj]; have := hasNeg_get hg.nn i; split <;> omega
  small := hg.small
  mb := fun i => by rw [dearer_at c hj]; have := hm i; split <;> omega
  me := hg.me
theorem grows_a {g : Gr} {c : Cst} (hg : GoodIn g c) {j : Nat} (hj : j < c.block.length) {d : Int} (h0 : 0 ≤ d) (hga : GoodIn g (dearer c j d)) {rs ra : List Rest} (hF : Found g c rs) (hA : Found g (dearer c j d) ra) :
    resOk (ra[0]?.getD default) = resOk (rs[0]?.getD default) ∧ resCost (rs[0]?.getD default) ≤ resCost (ra[0]?.getD default) ∧ resCost (ra[0]?.getD default) ≤ resCost (rs[0]?.getD default) + d * (g.blocks.length : Int) := by
  have hb : ∀ b, (netOf g c).bk b ≤ (netOf g (dearer c j d)).bk b := fun b => by show c.block[b]?.getD 0 ≤ (dearer c j d).block[b]?.getD 0; rw [dearer_at c hj]; split <;> omega
  have hc : ∀ b, (netOf g (dearer c j d)).bk b ≤ (netOf g c).bk b + d := fun b => by show (dearer c j d).block[b]?.getD 0 ≤ c.block[b]?.getD 0 + d; rw [dearer_at c hj]; split <;> omega
  have up : ∀ u, absP rs 0 = some u → ∃ v, absP ra 0 = some v ∧ v.1 ≤ u.1 + d * (g.blocks.length : Int) := by
    intro u hu
    obtain ⟨l, hw, hv, hn, _⟩ := hF.ip.inv 0 u hu
    have hw' : Walk (netOf g (dearer c j d)) (0 :: l) := walk_congr (N := netOf g c) (M := netOf g (dearer c j d)) rfl (fun _ => rfl) (fun _ _ _ h => h) hw
    obtain ⟨v, hv1, hle⟩ := fix_opt hA.fix hw'
    have hbt := (val_between (N := netOf g c) (M := netOf g (dearer c j d)) hb hc (fun _ _ _ _ => rfl) hw).2
    have hlen := nodup_len hn hw.lt
    have hlen' : ((0 :: l).length : Int) ≤ (g.blocks.length : Int) := by have : (0 :: l).length ≤ g.blocks.length := hlen; omega
    have hmul := Int.mul_le_mul_of_nonneg_left hlen' h0
    rw [hv] at hbt
    refine ⟨v, hv1, ?_⟩
    unfold lexLe at hle
    omega
  have down : ∀ v, absP ra 0 = some v → ∃ u, absP rs 0 = some u ∧ u.1 ≤ v.1 := by
    intro v hv
    obtain ⟨l, hw, hvv, hn, _⟩ := hA.ip.inv 0 v hv
    have hw' : Walk (netOf g c) (0 :: l) := walk_congr (N := netOf g (dearer c j d)) (M := netOf g c) rfl (fun _ => rfl) (fun _ _ _ h => h) hw
    obtain ⟨u, hu, hle⟩ := fix_opt hF.fix hw'
    have hbt := (val_between (N := netOf g c) (M := netOf g (dearer c j d)) hb hc (fun _ _ _ _ => rfl) hw').1
    rw [hvv] at hbt
    refine ⟨u, hu, ?_⟩
    unfold lexLe at hle
    omega
  have hd : 0 ≤ d * (g.blocks.length : Int) := Int.mul_nonneg h0 (by omega)
  rcases res0 rs with ⟨r1, u, r2, r3⟩ | ⟨r1, r2, r3⟩ <;> rcases res0 ra with ⟨a1, v, a2, a3⟩ | ⟨a1, a2, a3⟩
  · obtain ⟨v', h1, h2⟩ := up u r2
    obtain ⟨u', h3, h4⟩ := down v a2
    rw [a2] at h1; rw [r2] at h3
    cases h1; cases h3
    exact ⟨by rw [a1, r1], by omega, by omega⟩
  · obtain ⟨v', h1, _⟩ := up u r2
    rw [a2] at h1; cases h1
  · obtain ⟨u', h1, _⟩ := down v a2
    rw [r2] at h1; cases h1
  · exact ⟨by rw [a1, r1], by omega, by omega⟩

/-- One edge forbidden. -/
def barred (c : Cst) (j : Nat) (v : Int) : Cst := { c with edge := c.edge.set j v }
theorem good_barred {g : Gr} {c : Cst} (hg : GoodIn g c) {j : Nat} (hj : j < c.edge.length) {v : Int} (h0 : v < 0) : GoodIn g (barred c j v) where
  v := hg.v
  bl := hg.bl
  el := by show (c.edge.set _ _).length = _; rw [List.length_set]; exact hg.el
  nn := hg.nn
  small := hg.small
  mb := hg.mb
  me := leMost_upto (fun i hi => by
    have := leMost_get hg.me i
    have e : (c.edge.set j v)[i]?.getD 0 ≤ 1073741824 := by
      by_cases h : i = j
      · subst h; rw [List.getElem?_set_self hj]; simp only [Option.getD_some]; omega
      · rw [List.getElem?_set_ne (Ne.symm h)]; exact this
    have e2 : ¬ ((1073741824 : Int) < (barred c j v).edge[i]?.getD 0) := by show ¬ ((1073741824 : Int) < (c.edge.set j v)[i]?.getD 0); omega
    exact decide_eq_false e2)
theorem barred_ec {g : Gr} {c : Cst} (hv : validB g = true) {j : Nat} (hj : j < c.edge.length) {v : Int} (h0 : v < 0) {b s : Nat} (hs : s ∈ (netOf g c).nx b) (h : 0 ≤ (netOf g (barred c j v)).ec b s) : (netOf g (barred c j v)).ec b s = (netOf g c).ec b s := by
  obtain ⟨i, hi, _, _⟩ := idx_of hv ((mem_nx hv).1 hs)
  rw [ec_at hv hi] at h ⊢
  rw [ec_at hv hi]
  show (c.edge.set j v)[i]?.getD 0 = _
  have h' : 0 ≤ (c.edge.set j v)[i]?.getD 0 := h
  by_cases e : i = j
  · subst e; rw [List.getElem?_set_self hj] at h'; simp only [Option.getD_some] at h'; omega
  · rw [List.getElem?_set_ne (Ne.symm e)]
theorem grows_b {g : Gr} {c : Cst} (hg : GoodIn g c) {j : Nat} (hj : j < c.edge.length) {v : Int} (h0 : v < 0) {rs rb : List Rest} (hF : Found g c rs) (hB : Found g (barred c j v) rb) :
    resOk (rb[0]?.getD default) = true → resOk (rs[0]?.getD default) = true ∧ resCost (rs[0]?.getD default) ≤ resCost (rb[0]?.getD default) := by
  intro hok
  rcases res0 rb with ⟨_, w, b2, b3⟩ | ⟨b1, _, _⟩
  · obtain ⟨l, hw, hvv, hn, _⟩ := hB.ip.inv 0 w b2
    have hw' : Walk (netOf g c) (0 :: l) := walk_congr (N := netOf g (barred c j v)) (M := netOf g c) rfl (fun _ => rfl) (fun b s hs h => by have := barred_ec hg.v hj h0 (c := c) hs h; omega) hw
    obtain ⟨u, hu, hle⟩ := fix_opt hF.fix hw'
    have hbt := (val_between (N := netOf g (barred c j v)) (M := netOf g c) (d := 0) (fun b => Int.le_refl _) (fun b => by show c.block[b]?.getD 0 ≤ c.block[b]?.getD 0 + 0; omega) (fun b s hs h => barred_ec hg.v hj h0 (c := c) hs h) hw).2
    rw [hvv, Int.zero_mul] at hbt
    rcases res0 rs with ⟨r1, u', r2, r3⟩ | ⟨r1, r2, _⟩
    · rw [hu] at r2
      cases r2
      refine ⟨r1, ?_⟩
      unfold lexLe at hle
      omega
    · rw [hu] at r2; cases r2
  · rw [hok] at b1; cases b1

/-- The path is a walk of the least cost. -/
theorem pathP_walk {g : Gr} {c : Cst} (hg : GoodIn g c) {rs : List Rest} (hF : Found g c rs) : ∀ (k b : Nat), (rs[b]?.getD default).ok = true → (rs[b]?.getD default).blocks = (k : Int) →
    ∃ l : List Nat, pathP g c rs k b = l.map (fun x : Nat => (x : Int)) ∧ Walk (netOf g c) (b :: l) ∧ val (netOf g c) (b :: l) = ((rs[b]?.getD default).cost, (k : Int)) := by
  intro k
  induction k with
  | zero =>
    intro b ho hk
    have := (absP_bounds hg hF.ip b ho).2.2.1
    omega
  | succ k ih =>
    intro b ho hk
    have hb := (inv_bounds (netOk hg) hF.ip.inv (absP_some.2 ⟨ho, rfl⟩)).1
    rw [pathP]
    by_cases hn : (nextOf g b).length = 0
    · rw [if_pos hn]
      have h1 := hF.fix.1 b hb (nx_nil.2 hn)
      rw [absP_some.2 ⟨ho, rfl⟩] at h1
      simp only [Option.some.injEq, Prod.mk.injEq] at h1
      refine ⟨[], rfl, ⟨hb, nx_nil.2 hn⟩, ?_⟩
      show ((netOf g c).bk b, (1 : Int)) = _
      exact Prod.ext h1.1.symm (by dsimp only; omega)
    · rw [if_neg hn]
      obtain ⟨j, s, e1, e2, ⟨t1, t2, z, hz, hbz⟩, _⟩ := find_tight hg hF.ip hF.fix ho hn
      rw [e1]
      simp only [e2, Int.toNat_natCast]
      obtain ⟨z1, z2⟩ := absP_some.1 hz
      obtain ⟨_, b2⟩ := absP_some.1 hbz
      rw [step_eq, z2] at b2
      simp only [Prod.mk.injEq] at b2
      obtain ⟨l, h1, h2, h3⟩ := ih s z1 (by omega)
      refine ⟨s :: l, by rw [h1]; rfl, ⟨hb, t1, t2, h2⟩, ?_⟩
      show ((netOf g c).bk b + (netOf g c).ec b s + (val (netOf g c) (s :: l)).1, (val (netOf g c) (s :: l)).2 + 1) = _
      rw [h3]
      exact Prod.ext (by dsimp only; omega) (by dsimp only; omega)
end Go.Proofs.Ytfoimgkgkjhbeaa
