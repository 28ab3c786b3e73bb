/- The program's search for least costs ends, and ends at the least costs. -/
import Derived.Test.YtfoimgkgkjhbeaaL2
import Derived.Test.YtfoimgkgkjhbeaaWB
namespace Go.Proofs.Ytfoimgkgkjhbeaa

def netOf (g : Gr) (c : Cst) : Net where
  n := g.blocks.length
  nx := fun b => (nextOf g b).map Int.toNat
  bk := fun b => c.block[b]?.getD 0
  ec := fun b s => c.edge[((alook (putAll (edges g) 0 []) ((b : Int), (s : Int))).getD 0).toNat]?.getD 0

theorem leMost_get {xs : List Int} (h : leMost xs = true) (i : Nat) : xs[i]?.getD 0 ≤ 1073741824 := by
  by_cases hi : i < xs.length
  · unfold leMost at h
    rw [List.all_eq_true] at h
    have := h xs[i] (List.getElem_mem hi)
    simpa [hi] using this
  · simp at hi; simp [hi]
theorem hasNeg_get {xs : List Int} (h : hasNeg xs = false) (i : Nat) : 0 ≤ xs[i]?.getD 0 := by
  by_cases hi : i < xs.length
  · unfold hasNeg at h
    rw [List.any_eq_false] at h
    have := h xs[i] (List.getElem_mem hi)
    simpa [hi] using this
  · simp at hi; simp [hi]
structure GoodIn (g : Gr) (c : Cst) : Prop where
  v : validB g = true
  bl : c.block.length = g.blocks.length
  el : c.edge.length = (edges g).length
  nn : hasNeg c.block = false
  small : g.blocks.length ≤ 20
  mb : ∀ i : Nat, c.block[i]?.getD 0 ≤ 1073742079
  me : leMost c.edge = true
theorem usable_iff {g : Gr} {c : Cst} : usableB g c = true ↔ validB g = true ∧ c.block.length = g.blocks.length ∧ c.edge.length = (edges g).length ∧ hasNeg c.block = false := by
  unfold usableB; simp only [Bool.and_eq_true, decide_eq_true_eq, Bool.not_eq_true', and_assoc]
theorem goodIn {g : Gr} {c : Cst} (hu : usableB g c = true) (hn : nextB g c = true) : GoodIn g c := by
  obtain ⟨h1, h2, h3, h4⟩ := usable_iff.1 hu
  unfold nextB at hn
  simp only [Bool.and_eq_true, decide_eq_true_eq] at hn
  exact ⟨h1, h2, h3, h4, hn.1.1.1.1, fun i => by have := leMost_get hn.1.2 i; omega, hn.2⟩
theorem mem_nx {g : Gr} {c : Cst} (h : validB g = true) {b s : Nat} : s ∈ (netOf g c).nx b ↔ (s : Int) ∈ nextOf g b := by
  constructor
  · intro hs
    obtain ⟨t, ht, e⟩ := List.mem_map.1 hs
    have := ((nextOf_ok h b).rng t ht).1
    rw [← e, Int.toNat_of_nonneg this]; exact ht
  · intro hs
    exact List.mem_map.2 ⟨(s : Int), hs, Int.toNat_natCast s⟩
theorem nx_nil {g : Gr} {c : Cst} {b : Nat} : (netOf g c).nx b = [] ↔ (nextOf g b).length = 0 := by
  show (nextOf g b).map Int.toNat = [] ↔ _
  rw [List.map_eq_nil_iff, List.length_eq_zero_iff]
theorem netOk {g : Gr} {c : Cst} (h : GoodIn g c) : NetOk (netOf g c) where
  lt := fun b s hs => by have := ((nextOf_ok h.v b).rng _ ((mem_nx h.v).1 hs)).2; show s < g.blocks.length; omega
  bk0 := fun b => hasNeg_get h.nn b
  bk1 := fun b => h.mb b
  ec1 := fun b s => leMost_get h.me _
  small := h.small
theorem nextOf_lt {g : Gr} {b : Nat} {t : Int} (ht : t ∈ nextOf g b) : b < g.blocks.length := by
  by_cases hb : b < g.blocks.length
  · exact hb
  · have : g.blocks[b]?.getD default = default := by simp at hb; simp [hb]
    unfold nextOf at ht
    rw [this] at ht
    exact absurd ht (by show t ∉ []; simp)
/-- An edge's cost. -/
theorem ec_at {g : Gr} {c : Cst} (h : validB g = true) {b s : Nat} {i : Nat} (he : (edges g)[i]? = some ((b : Int), (s : Int))) : (netOf g c).ec b s = c.edge[i]?.getD 0 := by
  show c.edge[((alook (putAll (edges g) 0 []) ((b : Int), (s : Int))).getD 0).toNat]?.getD 0 = _
  rw [idx_at h he]; simp
/-- The index of a successor's edge. -/
theorem idx_of {g : Gr} (h : validB g = true) {b s : Nat} (hs : (s : Int) ∈ nextOf g b) : ∃ i : Nat, (edges g)[i]? = some ((b : Int), (s : Int)) ∧ alook (putAll (edges g) 0 []) ((b : Int), (s : Int)) = some (i : Int) ∧ i < (edges g).length := by
  obtain ⟨i, hi⟩ := edge_of (nextOf_lt hs) hs
  exact ⟨i, hi, idx_at h hi, (List.getElem?_eq_some_iff.1 hi).1⟩

/-! ### Rests -/

def absP (rs : List Rest) (b : Nat) : Option (Int × Int) := if (rs[b]?.getD default).ok then some ((rs[b]?.getD default).cost, (rs[b]?.getD default).blocks) else none
theorem absP_some {rs : List Rest} {b : Nat} {u : Int × Int} : absP rs b = some u ↔ (rs[b]?.getD default).ok = true ∧ u = ((rs[b]?.getD default).cost, (rs[b]?.getD default).blocks) := by
  unfold absP
  split
  · rename_i h; simp [h, eq_comm]
  · rename_i h; simp [h]
structure IP (g : Gr) (c : Cst) (rs : List Rest) : Prop where
  len : rs.length = g.blocks.length
  no : ∀ b : Nat, (rs[b]?.getD default).ok = false → rs[b]?.getD default = default
  inv : Inv (netOf g c) (absP rs)
theorem viaF_eq {g : Gr} {c : Cst} (rs : List Rest) (b s : Nat) : viaF c.block c.edge (putAll (edges g) 0 []) rs b s =
    if (netOf g c).ec b s < 0 then ⟨0, 0, false⟩ else ⟨(rs[s]?.getD default).cost + (netOf g c).ec b s + (netOf g c).bk b, (rs[s]?.getD default).blocks + 1, (rs[s]?.getD default).ok⟩ := rfl
theorem better_iff {x y : Rest} : x.better y = true ↔ x.ok = true ∧ (y.ok = true → lexLt (x.cost, x.blocks) (y.cost, y.blocks)) := by
  obtain ⟨xc, xb, xo⟩ := x
  obtain ⟨yc, yb, yo⟩ := y
  unfold Rest.better lexLt
  cases xo <;> cases yo <;> simp
  by_cases h : xc = yc
  · simp [h]
  · simp [h]
theorem better_trans {x y z : Rest} (h : x.better y = true) (k : y.better z = true) : x.better z = true := by
  rw [better_iff] at *
  refine ⟨h.1, fun hz => ?_⟩
  have h1 := h.2 k.1
  have h2 := k.2 hz
  unfold lexLt at *
  dsimp only at *
  omega
theorem better_irrefl {x : Rest} : ¬ x.better x = true := by
  rw [better_iff]
  rintro ⟨h, k⟩
  have := k h
  unfold lexLt at this
  omega

def initF (c : Cst) (rs : List Rest) (b : Nat) (l : List Int) : Rest := if l.length = 0 then ⟨c.block[b]?.getD 0, 1, true⟩ else rs[b]?.getD default
theorem fold_pick (V : Int → Rest) : ∀ (l : List Int) (i : Rest), (l.foldl (fun best s => if (V s).better best then V s else best) i = i ∨ ∃ t, t ∈ l ∧ l.foldl (fun best s => if (V s).better best then V s else best) i = V t ∧ (V t).better i = true) ∧
    (∀ t ∈ l, ¬ (V t).better (l.foldl (fun best s => if (V s).better best then V s else best) i) = true) ∧ (∀ z : Rest, ¬ z.better i = true → ¬ z.better (l.foldl (fun best s => if (V s).better best then V s else best) i) = true) := by
  intro l
  induction l with
  | nil => intro i; exact ⟨.inl rfl, (fun t ht => by cases ht), fun z h => h⟩
  | cons x l ih =>
    intro i
    rw [List.foldl_cons]
    by_cases hx : (V x).better i = true
    · rw [if_pos hx]
      obtain ⟨h1, h2, h3⟩ := ih (V x)
      have keep : ∀ z : Rest, ¬ z.better i = true → ¬ z.better (V x) = true := fun z hz hzx => hz (better_trans hzx hx)
      refine ⟨?_, ?_, fun z hz => h3 z (keep z hz)⟩
      · rcases h1 with e | ⟨t, ht, e, hb⟩
        · exact .inr ⟨x, List.mem_cons_self, e, hx⟩
        · exact .inr ⟨t, List.mem_cons_of_mem _ ht, e, better_trans hb hx⟩
      · intro t ht
        rcases List.mem_cons.1 ht with rfl | ht
        · exact h3 _ better_irrefl
        · exact h2 t ht
    · rw [if_neg hx]
      obtain ⟨h1, h2, h3⟩ := ih i
      refine ⟨?_, ?_, h3⟩
      · rcases h1 with e | ⟨t, ht, e, hb⟩
        · exact .inl e
        · exact .inr ⟨t, List.mem_cons_of_mem _ ht, e, hb⟩
      · intro t ht
        rcases List.mem_cons.1 ht with rfl | ht
        · exact h3 _ hx
        · exact h2 t ht
def viaG (g : Gr) (c : Cst) (rs : List Rest) (b : Nat) (t : Int) : Rest := viaF c.block c.edge (putAll (edges g) 0 []) rs b t.toNat
def bestG (g : Gr) (c : Cst) (rs : List Rest) (b : Nat) : Rest := bestF c.block c.edge (putAll (edges g) 0 []) rs b (nextOf g b)
theorem bestG_pick (g : Gr) (c : Cst) (rs : List Rest) (b : Nat) :
    (bestG g c rs b = initF c rs b (nextOf g b) ∨ ∃ t, t ∈ nextOf g b ∧ bestG g c rs b = viaG g c rs b t ∧ (viaG g c rs b t).better (initF c rs b (nextOf g b)) = true) ∧
    (∀ t ∈ nextOf g b, ¬ (viaG g c rs b t).better (bestG g c rs b) = true) := by
  obtain ⟨h1, h2, _⟩ := fold_pick (viaG g c rs b) (nextOf g b) (initF c rs b (nextOf g b))
  exact ⟨h1, h2⟩

theorem absP_set {rs : List Rest} {b : Nat} (hb : b < rs.length) {r : Rest} (hr : r.ok = true) : absP (rs.set b r) = upd (absP rs) b (r.cost, r.blocks) := by
  funext x
  by_cases h : x = b
  · subst h
    rw [upd_self]
    unfold absP
    simp [hb, hr]
  · rw [upd_ne _ _ h]
    unfold absP
    rw [List.getElem?_set_ne (Ne.symm h)]
theorem set_same {rs : List Rest} {b : Nat} : rs.set b (rs[b]?.getD default) = rs := by
  by_cases hb : b < rs.length
  · simp [hb]
  · rw [List.set_eq_of_length_le (by omega)]
theorem absP_bounds {g : Gr} {c : Cst} (hg : GoodIn g c) {rs : List Rest} (h : IP g c rs) (b : Nat) : (rs[b]?.getD default).ok = true → 0 ≤ (rs[b]?.getD default).cost ∧ (rs[b]?.getD default).cost ≤ 42949678080 ∧ 1 ≤ (rs[b]?.getD default).blocks ∧ (rs[b]?.getD default).blocks ≤ 20 := by
  intro hb
  obtain ⟨_, h1, h2, h3, h4⟩ := inv_bounds (netOk hg) h.inv (absP_some.2 ⟨hb, rfl⟩)
  have : ((netOf g c).n : Int) ≤ 20 := by have := hg.small; show ((g.blocks.length : Nat) : Int) ≤ 20; omega
  exact ⟨h1, h2, h3, by dsimp only at h4; omega⟩

/-- What a block's best is, when it is new. -/
theorem bestG_new {g : Gr} {c : Cst} (hg : GoodIn g c) {rs : List Rest} (h : IP g c rs) {b : Nat} (hb : b < g.blocks.length) : IP g c (rs.set b (bestG g c rs b)) ∧ (bestG g c rs b ≠ rs[b]?.getD default → (bestG g c rs b).ok = true ∧ (bestG g c rs b).better (rs[b]?.getD default) = true) := by
  have hbl : b < rs.length := by rw [h.len]; exact hb
  have mk : ∀ r : Rest, r.ok = true → Inv (netOf g c) (upd (absP rs) b (r.cost, r.blocks)) → IP g c (rs.set b r) := by
    intro r hr hi
    refine ⟨by rw [List.length_set]; exact h.len, ?_, by rw [absP_set hbl hr]; exact hi⟩
    intro d hd
    by_cases e : d = b
    · subst e
      rw [List.getElem?_set_self hbl] at hd ⊢
      simp only [Option.getD_some] at hd
      rw [hr] at hd; cases hd
    · rw [List.getElem?_set_ne (Ne.symm e)] at hd ⊢
      exact h.no d hd
  obtain ⟨h1, _⟩ := bestG_pick g c rs b
  by_cases hn : (nextOf g b).length = 0
  · have hnil : nextOf g b = [] := List.length_eq_zero_iff.1 hn
    have hbest : bestG g c rs b = ⟨c.block[b]?.getD 0, 1, true⟩ := by
      unfold bestG bestF; rw [hnil]; rfl
    rw [hbest]
    have hi := inv_end h.inv hb (nx_nil.2 hn)
    refine ⟨mk _ rfl hi, fun hne => ⟨rfl, ?_⟩⟩
    rw [better_iff]
    refine ⟨rfl, fun hok => ?_⟩
    exfalso
    obtain ⟨l, hw, hv, _⟩ := h.inv b _ (absP_some.2 ⟨hok, rfl⟩)
    cases l with
    | nil =>
      apply hne
      have hv' : (c.block[b]?.getD 0, (1 : Int)) = ((rs[b]?.getD default).cost, (rs[b]?.getD default).blocks) := hv
      simp only [Prod.mk.injEq] at hv'
      rw [show rs[b]?.getD default = ⟨(rs[b]?.getD default).cost, (rs[b]?.getD default).blocks, (rs[b]?.getD default).ok⟩ from rfl, hok, ← hv'.1, ← hv'.2]
    | cons s l =>
      have := hw.2.1
      rw [nx_nil.2 hn] at this; cases this
  · have hinit : initF c rs b (nextOf g b) = rs[b]?.getD default := by unfold initF; rw [if_neg hn]
    rw [hinit] at h1
    rcases h1 with e | ⟨t, ht, e, hbet⟩
    · rw [e]; exact ⟨by rw [set_same]; exact h, fun hh => absurd rfl hh⟩
    · rw [e]
      obtain ⟨h0, h2⟩ := (nextOf_ok hg.v b).rng t ht
      obtain ⟨s, rfl⟩ := Int.eq_ofNat_of_zero_le h0
      have hve : viaG g c rs b (s : Int) = viaF c.block c.edge (putAll (edges g) 0 []) rs b s := rfl
      have hbet2 := better_iff.1 hbet
      rw [hve, viaF_eq] at hbet2 ⊢
      by_cases hec : (netOf g c).ec b s < 0
      · rw [if_pos hec] at hbet2; exact absurd hbet2.1 (by simp)
      · rw [if_neg hec] at hbet2 ⊢
        have hz : absP rs s = some ((rs[s]?.getD default).cost, (rs[s]?.getD default).blocks) := absP_some.2 ⟨hbet2.1, rfl⟩
        have hst : step (netOf g c) b s ((rs[s]?.getD default).cost, (rs[s]?.getD default).blocks) = ((rs[s]?.getD default).cost + (netOf g c).ec b s + (netOf g c).bk b, (rs[s]?.getD default).blocks + 1) := by
          unfold step; dsimp only; exact Prod.ext (by dsimp only; omega) rfl
        have hi := inv_step (netOk hg) h.inv hz hb ((mem_nx hg.v).2 ht) (by omega) (fun u hu => by
          obtain ⟨k1, k2⟩ := absP_some.1 hu
          rw [hst, k2]
          exact hbet2.2 k1)
        rw [hst] at hi
        refine ⟨mk _ hbet2.1 hi, fun _ => ⟨hbet2.1, ?_⟩⟩
        rw [hve, viaF_eq, if_neg hec] at hbet
        exact hbet

/-! ### The search ends -/

def rank (r : Rest) : Nat := if r.ok then (r.cost * 21 + r.blocks).toNat else 901943239701
def mass (rs : List Rest) : Nat := (rs.map rank).sum
theorem mass_set {rs : List Rest} {b : Nat} (hb : b < rs.length) (r : Rest) : mass (rs.set b r) + rank (rs[b]?.getD default) = mass rs + rank r := by
  induction rs generalizing b with
  | nil => simp at hb
  | cons x rs ih =>
    cases b with
    | zero => simp [mass]; omega
    | succ b =>
      have := ih (b := b) (by simpa using hb)
      simp only [mass, List.set_cons_succ, List.map_cons, List.sum_cons, List.getElem?_cons_succ] at this ⊢
      omega
theorem mass_less {g : Gr} {c : Cst} (hg : GoodIn g c) {rs : List Rest} (h : IP g c rs) {b : Nat} (hb : b < g.blocks.length) (hne : bestG g c rs b ≠ rs[b]?.getD default) : mass (rs.set b (bestG g c rs b)) < mass rs := by
  obtain ⟨h1, h2⟩ := bestG_new hg h hb
  obtain ⟨h3, h4⟩ := h2 hne
  have hbl : b < rs.length := by rw [h.len]; exact hb
  have hm := mass_set hbl (bestG g c rs b)
  have hb1 := absP_bounds hg h1 b
  rw [List.getElem?_set_self hbl] at hb1
  have hb2 := hb1 h3
  simp only [Option.getD_some] at hb2
  have hlt : rank (bestG g c rs b) < rank (rs[b]?.getD default) := by
    unfold rank
    rw [if_pos h3]
    obtain ⟨_, k⟩ := better_iff.1 h4
    by_cases ho : (rs[b]?.getD default).ok = true
    · rw [if_pos ho]
      have hb3 := absP_bounds hg h b ho
      have := k ho
      unfold lexLt at this
      dsimp only at this
      omega
    · rw [if_neg ho]; omega
  omega
theorem sweep_ok {g : Gr} {c : Cst} (hg : GoodIn g c) : ∀ (bs : List Blk) (k : Nat) (rs : List Rest) (ch : Bool), g.blocks.drop k = bs → IP g c rs →
    IP g c (sweepF c.block c.edge (putAll (edges g) 0 []) bs k rs ch).1 ∧ mass (sweepF c.block c.edge (putAll (edges g) 0 []) bs k rs ch).1 ≤ mass rs ∧
    ((sweepF c.block c.edge (putAll (edges g) 0 []) bs k rs ch).2 = true → ch = true ∨ mass (sweepF c.block c.edge (putAll (edges g) 0 []) bs k rs ch).1 < mass rs) ∧
    ((sweepF c.block c.edge (putAll (edges g) 0 []) bs k rs ch).2 = false → ch = false ∧ (sweepF c.block c.edge (putAll (edges g) 0 []) bs k rs ch).1 = rs ∧ ∀ b, k ≤ b → b < g.blocks.length → bestG g c rs b = rs[b]?.getD default) := by
  intro bs
  induction bs with
  | nil =>
    intro k rs ch hd h
    have hk : g.blocks.length ≤ k := by simpa using hd
    exact ⟨h, Nat.le_refl _, fun e => .inl e, fun e => ⟨e, rfl, fun b h1 h2 => by omega⟩⟩
  | cons x bs ih =>
    intro k rs ch hd h
    have hk : k < g.blocks.length := by
      have := congrArg List.length hd
      rw [List.length_drop, List.length_cons] at this
      omega
    rw [drop_at g.blocks default k hk] at hd
    injection hd with hx hd'
    have hbest : bestF c.block c.edge (putAll (edges g) 0 []) rs k x.next = bestG g c rs k := by unfold bestG nextOf; rw [hx]
    rw [sweepF, hbest]
    by_cases he : bestG g c rs k = rs[k]?.getD default
    · rw [if_pos he]
      obtain ⟨h1, h2, h3, h4⟩ := ih (k + 1) rs ch hd' h
      refine ⟨h1, h2, h3, fun e => ?_⟩
      obtain ⟨e1, e2, e3⟩ := h4 e
      refine ⟨e1, e2, fun b hb1 hb2 => ?_⟩
      by_cases hbk : b = k
      · subst hbk; exact he
      · exact e3 b (by omega) hb2
    · rw [if_neg he]
      have hm := mass_less hg h hk he
      obtain ⟨h1, h2, h3, h4⟩ := ih (k + 1) (rs.set k (bestG g c rs k)) true hd' (bestG_new hg h hk).1
      refine ⟨h1, by omega, fun _ => .inr (by omega), fun e => ?_⟩
      obtain ⟨e1, _⟩ := h4 e
      cases e1
theorem relax_ends {g : Gr} {c : Cst} (hg : GoodIn g c) : ∀ (m : Nat) (rs : List Rest), mass rs ≤ m → IP g c rs →
    ∃ f out, relaxN c.block c.edge (putAll (edges g) 0 []) g.blocks f rs = some out ∧ IP g c out ∧ ∀ b, b < g.blocks.length → bestG g c out b = out[b]?.getD default := by
  intro m
  induction m with
  | zero =>
    intro rs hm h
    obtain ⟨h1, h2, h3, h4⟩ := sweep_ok hg g.blocks 0 rs false rfl h
    cases hs : (sweepF c.block c.edge (putAll (edges g) 0 []) g.blocks 0 rs false).2 with
    | true => rcases h3 hs with e | e <;> first | cases e | omega
    | false =>
      obtain ⟨_, e2, e3⟩ := h4 hs
      refine ⟨1, rs, ?_, h, fun b hb => e3 b (Nat.zero_le _) hb⟩
      rw [relaxN, hs, e2]; rfl
  | succ m ih =>
    intro rs hm h
    obtain ⟨h1, h2, h3, h4⟩ := sweep_ok hg g.blocks 0 rs false rfl h
    cases hs : (sweepF c.block c.edge (putAll (edges g) 0 []) g.blocks 0 rs false).2 with
    | true =>
      have hlt : mass (sweepF c.block c.edge (putAll (edges g) 0 []) g.blocks 0 rs false).1 < mass rs := by
        rcases h3 hs with e | e
        · cases e
        · exact e
      obtain ⟨f, out, hf, r⟩ := ih _ (by omega) h1
      refine ⟨f + 1, out, ?_, r⟩
      rw [relaxN, hs, if_pos rfl]; exact hf
    | false =>
      obtain ⟨_, e2, e3⟩ := h4 hs
      refine ⟨1, rs, ?_, h, fun b hb => e3 b (Nat.zero_le _) hb⟩
      rw [relaxN, hs, e2]; rfl
theorem ip_start (g : Gr) (c : Cst) : IP g c (List.replicate g.blocks.length default) := by
  have hd : ∀ b : Nat, (List.replicate g.blocks.length (default : Rest))[b]?.getD default = default := by
    intro b; rw [List.getElem?_replicate]; split <;> rfl
  refine ⟨by simp, fun b _ => hd b, ?_⟩
  have : absP (List.replicate g.blocks.length default) = fun _ => none := by
    funext b; unfold absP; rw [hd]; rfl
  rw [this]
  exact inv_none _
theorem fix_of_best {g : Gr} {c : Cst} (hg : GoodIn g c) {rs : List Rest} (h : IP g c rs) (hb : ∀ b, b < g.blocks.length → bestG g c rs b = rs[b]?.getD default) : Fix (netOf g c) (absP rs) := by
  refine ⟨?_, ?_⟩
  · intro b hbn hn
    have h1 := hb b hbn
    have hnil : nextOf g b = [] := List.length_eq_zero_iff.1 (nx_nil.1 hn)
    have hbest : bestG g c rs b = ⟨c.block[b]?.getD 0, 1, true⟩ := by unfold bestG bestF; rw [hnil]; rfl
    rw [hbest] at h1
    unfold absP
    rw [← h1]; rfl
  · intro b s z hbn hs he hz
    obtain ⟨_, h2⟩ := bestG_pick g c rs b
    have h3 := h2 (s : Int) ((mem_nx hg.v).1 hs)
    rw [hb b hbn] at h3
    have hve : viaG g c rs b (s : Int) = viaF c.block c.edge (putAll (edges g) 0 []) rs b s := rfl
    obtain ⟨z1, z2⟩ := absP_some.1 hz
    rw [hve, viaF_eq, if_neg (by omega), better_iff] at h3
    have hst : step (netOf g c) b s z = ((rs[s]?.getD default).cost + (netOf g c).ec b s + (netOf g c).bk b, (rs[s]?.getD default).blocks + 1) := by
      rw [z2]; unfold step; dsimp only; exact Prod.ext (by dsimp only; omega) rfl
    by_cases ho : (rs[b]?.getD default).ok = true
    · refine ⟨_, absP_some.2 ⟨ho, rfl⟩, ?_⟩
      rw [lexLe_iff, hst]
      intro hlt
      exact h3 ⟨z1, fun _ => hlt⟩
    · exact absurd ⟨z1, fun hh => absurd hh ho⟩ h3
end Go.Proofs.Ytfoimgkgkjhbeaa
