/- The program's path: what it is, and that it is found. -/
import Derived.Test.YtfoimgkgkjhbeaaL3
namespace Go.Proofs.Ytfoimgkgkjhbeaa

def Tight (N : Net) (f : Nat → Option (Int × Int)) (b s : Nat) : Prop := s ∈ N.nx b ∧ 0 ≤ N.ec b s ∧ ∃ z, f s = some z ∧ f b = some (step N b s z)
def tightG (g : Gr) (c : Cst) (rs : List Rest) (b : Nat) (t : Int) : Bool := decide (viaG g c rs b t = rs[b]?.getD default)
theorem step_eq (N : Net) (b s : Nat) (z : Int × Int) : step N b s z = (z.1 + N.ec b s + N.bk b, z.2 + 1) := by unfold step; exact Prod.ext (by dsimp only; omega) rfl
theorem tightG_iff {g : Gr} {c : Cst} (hg : GoodIn g c) {rs : List Rest} {b : Nat} (hok : (rs[b]?.getD default).ok = true) {s : Nat} (hs : (s : Int) ∈ nextOf g b) : tightG g c rs b (s : Int) = true ↔ Tight (netOf g c) (absP rs) b s := by
  have hve : viaG g c rs b (s : Int) = viaF c.block c.edge (putAll (edges g) 0 []) rs b s := rfl
  unfold tightG
  rw [decide_eq_true_iff, hve, viaF_eq]
  constructor
  · intro h
    by_cases hec : (netOf g c).ec b s < 0
    · rw [if_pos hec] at h; rw [← h] at hok; cases hok
    · rw [if_neg hec] at h
      have ho : (rs[s]?.getD default).ok = true := by rw [← h] at hok; exact hok
      refine ⟨(mem_nx hg.v).2 hs, by omega, _, absP_some.2 ⟨ho, rfl⟩, ?_⟩
      rw [absP_some]
      refine ⟨by rw [← h]; exact ho, ?_⟩
      rw [← h, step_eq]
  · rintro ⟨_, he, z, hz, hb⟩
    obtain ⟨z1, z2⟩ := absP_some.1 hz
    obtain ⟨_, b2⟩ := absP_some.1 hb
    rw [if_neg (by omega)]
    rw [step_eq, z2] at b2
    simp only [Prod.mk.injEq] at b2
    rw [show rs[b]?.getD default = ⟨(rs[b]?.getD default).cost, (rs[b]?.getD default).blocks, (rs[b]?.getD default).ok⟩ from rfl, hok, ← b2.1, ← b2.2, z1]

theorem srt_sorted (l : List Int) : (srt l).Pairwise (fun a b => a ≤ b) := by
  have := List.pairwise_mergeSort (le := fun x y : Int => decide (x ≤ y)) (fun a b c h1 h2 => by simp at *; omega) (fun a b => by simp; omega) l
  exact this.imp (fun h => by simpa using h)
theorem srt_mem_iff (l : List Int) (x : Int) : x ∈ srt l ↔ x ∈ l := (List.mergeSort_perm l _).mem_iff

def pathP (g : Gr) (c : Cst) (rs : List Rest) : Nat → Nat → List Int
  | 0, _ => []
  | f + 1, b => if (nextOf g b).length = 0 then [] else
    match (srt (nextOf g b)).findIdx? (tightG g c rs b) with
    | none => []
    | some k => (srt (nextOf g b))[k]?.getD 0 :: pathP g c rs f ((srt (nextOf g b))[k]?.getD 0).toNat

/-- The least tight successor is found. -/
theorem find_tight {g : Gr} {c : Cst} (hg : GoodIn g c) {rs : List Rest} (h : IP g c rs) (hf : Fix (netOf g c) (absP rs)) {b : Nat} (hok : (rs[b]?.getD default).ok = true) (hn : ¬ (nextOf g b).length = 0) :
    ∃ (k s : Nat), (srt (nextOf g b)).findIdx? (tightG g c rs b) = some k ∧ (srt (nextOf g b))[k]?.getD 0 = (s : Int) ∧ Tight (netOf g c) (absP rs) b s ∧ ∀ s', Tight (netOf g c) (absP rs) b s' → s ≤ s' := by
  obtain ⟨s0, z0, h1, h2, h3, h4⟩ := fix_tight h.inv hf (absP_some.2 ⟨hok, rfl⟩) (by rw [Ne, nx_nil]; exact hn)
  have ht0 : Tight (netOf g c) (absP rs) b s0 := ⟨h1, h2, z0, h3, by rw [absP_some.2 ⟨hok, rfl⟩, h4]⟩
  have hm0 : (s0 : Int) ∈ srt (nextOf g b) := (srt_mem_iff _ _).2 ((mem_nx hg.v).1 h1)
  cases hk : (srt (nextOf g b)).findIdx? (tightG g c rs b) with
  | none =>
    rw [List.findIdx?_eq_none_iff] at hk
    have := hk _ hm0
    rw [(tightG_iff hg hok ((mem_nx hg.v).1 h1)).2 ht0] at this
    cases this
  | some k =>
    obtain ⟨hkl, hp, hbef⟩ := List.findIdx?_eq_some_iff_getElem.1 hk
    have hmk : (srt (nextOf g b))[k] ∈ nextOf g b := (srt_mem_iff _ _).1 (List.getElem_mem hkl)
    obtain ⟨s, hs⟩ := Int.eq_ofNat_of_zero_le ((nextOf_ok hg.v b).rng _ hmk).1
    have hkd : (srt (nextOf g b))[k]?.getD 0 = (s : Int) := by simp [hkl, hs]
    rw [hs] at hp hmk
    refine ⟨k, s, rfl, hkd, (tightG_iff hg hok hmk).1 hp, ?_⟩
    intro s' hs'
    have hm' : (s' : Int) ∈ srt (nextOf g b) := (srt_mem_iff _ _).2 ((mem_nx hg.v).1 hs'.1)
    obtain ⟨j, hj, e⟩ := List.getElem_of_mem hm'
    have htj := (tightG_iff hg hok ((mem_nx hg.v).1 hs'.1)).2 hs'
    by_cases hjk : j < k
    · have := hbef j hjk
      rw [e] at this
      exact absurd htj this
    · rcases Nat.lt_or_eq_of_le (Nat.le_of_not_lt hjk) with hlt | heq
      · have := List.pairwise_iff_getElem.1 (srt_sorted (nextOf g b)) k j hkl hj hlt
        rw [hs, e] at this
        omega
      · subst heq
        rw [hs] at e
        omega

/-- The search's facts. -/
theorem search_ok {g : Gr} {c : Cst} (hg : GoodIn g c) (S : Srch) (h1 : S.g = g) (h2 : S.cb = c.block) (h3 : S.ce = c.edge) (h4 : S.idx = putAll (edges g) 0 []) : SOk S ∧ RInv S (IP g c) := by
  have hs60 : ∀ i : Nat, Small (c.block[i]?.getD 0) := fun i => ⟨by have := hasNeg_get hg.nn i; omega, by have := hg.mb i; omega⟩
  refine ⟨⟨by rw [h1, h2]; exact hg.bl, by rw [h1]; have := hg.small; omega, fun b => by rw [h2]; exact hs60 b, ?_⟩, ⟨fun rs h => by rw [h1]; exact h.len, ?_, ?_⟩⟩
  · intro b j hb hj
    rw [h1] at hb hj ⊢
    rw [h3, h4]
    have hj' : j < (nextOf g b).length := hj
    have hm : (nextOf g b)[j]'hj' ∈ nextOf g b := List.getElem_mem hj'
    obtain ⟨k1, k2⟩ := (nextOf_ok hg.v b).rng _ hm
    obtain ⟨s, hs⟩ := Int.eq_ofNat_of_zero_le k1
    rw [hs] at hm k2
    obtain ⟨i, i1, i2, i3⟩ := idx_of hg.v hm
    refine ⟨s, i, ?_, by omega, i2, by rw [hg.el]; exact i3, by have := leMost_get hg.me i; omega⟩
    have : (nextOf g b)[j]?.getD 0 = (s : Int) := by rw [List.getElem?_eq_getElem hj']; exact hs
    exact this
  · intro rs h b
    by_cases ho : (rs[b]?.getD default).ok = true
    · obtain ⟨k1, k2, k3, k4⟩ := absP_bounds hg h b ho
      exact ⟨⟨by omega, by omega⟩, ⟨by omega, by omega⟩⟩
    · rw [h.no b (by simpa using ho)]
      exact ⟨⟨by decide, by decide⟩, ⟨by decide, by decide⟩⟩
  · intro rs b h hb
    rw [h1] at hb
    rw [h1, h2, h3, h4]
    exact (bestG_new hg h hb).1
theorem via_ok {g : Gr} {c : Cst} (hg : GoodIn g c) {rs : List Rest} (h : IP g c rs) (S : Srch) (h1 : S.g = g) (h2 : S.cb = c.block) (h3 : S.ce = c.edge) (h4 : S.idx = putAll (edges g) 0 []) :
    (∀ b j, b < S.g.blocks.length → j < (S.g.blocks[b]?.getD default).next.length → ∃ s : Nat, (S.g.blocks[b]?.getD default).next[j]?.getD 0 = (s : Int) ∧ s < S.g.blocks.length ∧ ViaOk S rs b s) ∧ (∀ b : Nat, (S.g.blocks[b]?.getD default).next.length ≤ 1048576) := by
  obtain ⟨ok, ri⟩ := search_ok hg S h1 h2 h3 h4
  refine ⟨?_, ?_⟩
  · intro b j hb hj
    obtain ⟨s, i, e1, e2, e3, e4, e5⟩ := ok.edge b j hb hj
    have hn : S.g.blocks.length ≤ 20 := by rw [h1]; exact hg.small
    exact ⟨s, e1, e2, ⟨by rw [ok.n]; exact hb, by rw [ri.len rs h]; exact e2, by rw [ri.len rs h]; exact hb, ⟨i, e3, e4, e5⟩, (ri.small rs h s).1, (ri.small rs h s).2, ok.cost b, by omega, by omega⟩⟩
  · intro b
    rw [h1]
    have := (nextOf_ok hg.v b).two
    omega
theorem pathN_ok {g : Gr} {c : Cst} (hg : GoodIn g c) {rs : List Rest} (h : IP g c rs) (hf : Fix (netOf g c) (absP rs)) (S : Srch) (h1 : S.g = g) (h2 : S.cb = c.block) (h3 : S.ce = c.edge) (h4 : S.idx = putAll (edges g) 0 []) :
    ∀ (k b : Nat) (p : List Int), (rs[b]?.getD default).ok = true → (rs[b]?.getD default).blocks = (k : Int) → pathN S rs k p b = some (p ++ pathP g c rs k b) := by
  have htf : ∀ b, tightF S rs b = tightG g c rs b := by
    intro b; funext t; unfold tightF tightG viaG; rw [h2, h3, h4]
  intro k
  induction k with
  | zero =>
    intro b p ho hk
    have := (absP_bounds hg h b ho).2.2.1
    omega
  | succ k ih =>
    intro b p ho hk
    rw [pathN, pathP, h1, htf]
    have hnx : (g.blocks[b]?.getD default).next = nextOf g b := rfl
    rw [hnx]
    by_cases hn : (nextOf g b).length = 0
    · rw [if_pos hn, if_pos hn, List.append_nil]
    · rw [if_neg hn, if_neg hn]
      obtain ⟨j, s, e1, e2, ⟨_, _, z, hz, hb⟩, _⟩ := find_tight hg h hf ho hn
      rw [e1]
      simp only [e2, Int.toNat_natCast]
      obtain ⟨z1, z2⟩ := absP_some.1 hz
      obtain ⟨_, b2⟩ := absP_some.1 hb
      rw [step_eq, z2] at b2
      simp only [Prod.mk.injEq] at b2
      rw [ih s _ z1 (by omega), List.append_assoc]; rfl
end Go.Proofs.Ytfoimgkgkjhbeaa
