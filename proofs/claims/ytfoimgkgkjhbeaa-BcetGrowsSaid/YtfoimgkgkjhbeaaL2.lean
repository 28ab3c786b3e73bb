/- Valid graphs: their successors, their edges, the index of the edges. -/
import Derived.Test.YtfoimgkgkjhbeaaL1
import Derived.Test.YtfoimgkgkjhbeaaWE
namespace Go.Proofs.Ytfoimgkgkjhbeaa

structure BlkOk (n : Nat) (x : Blk) : Prop where
  two : x.next.length ≤ 2
  rng : ∀ t ∈ x.next, 0 ≤ t ∧ t < (n : Int)
  nod : x.next.Nodup
theorem chkNext_ok {n k : Nat} : ∀ {l : List Int} {p q : List (List Int)}, chkNext n k l p = some q → ∀ t ∈ l, 0 ≤ t ∧ t < (n : Int) := by
  intro l
  induction l with
  | nil => intro p q _ t ht; cases ht
  | cons x l ih =>
    intro p q h t ht
    rw [chkNext] at h
    split at h
    · cases h
    · rename_i hx
      rcases List.mem_cons.1 ht with rfl | ht
      · omega
      · exact ih h t ht
theorem chkBlks_ok {n : Nat} : ∀ {bs : List Blk} {k : Nat} {e : Int} {p q : List (List Int)}, chkBlks n bs k e p = some q → ∀ x ∈ bs, BlkOk n x := by
  intro bs
  induction bs with
  | nil => intro k e p q _ x hx; cases hx
  | cons b bs ih =>
    intro k e p q h x hx
    rw [chkBlks] at h
    split at h
    · cases h
    · rename_i hb
      cases hc : chkNext n k b.next p with
      | none => rw [hc] at h; cases h
      | some p' =>
        rw [hc] at h
        rcases List.mem_cons.1 hx with rfl | hx
        · refine ⟨by omega, chkNext_ok hc, ?_⟩
          have h2 : ¬ (x.next.length = 2 ∧ x.next[0]?.getD 0 = x.next[1]?.getD 0) := fun hh => hb (.inr (.inr (.inr hh)))
          have h3 : ¬ 2 < x.next.length := fun hh => hb (.inr (.inr (.inl hh)))
          match hxn : x.next, h2, h3 with
          | [], _, _ => exact List.nodup_nil
          | [a], _, _ => simp
          | [a, b], h2, _ => simp at h2; simp [h2]
          | a :: b :: d :: r, _, h3 => simp at h3
        · exact ih h x hx
theorem valid_ok {g : Gr} (h : validB g = true) : 0 < g.blocks.length ∧ ∀ x ∈ g.blocks, BlkOk g.blocks.length x := by
  unfold validB at h
  split at h
  · cases h
  · rename_i h0
    refine ⟨by omega, ?_⟩
    split at h
    · cases h
    · rename_i p hp
      exact chkBlks_ok hp
def nextOf (g : Gr) (b : Nat) : List Int := (g.blocks[b]?.getD default).next
theorem nextOf_ok {g : Gr} (h : validB g = true) (b : Nat) : BlkOk g.blocks.length (g.blocks[b]?.getD default) := by
  by_cases hb : b < g.blocks.length
  · have := (valid_ok h).2 g.blocks[b] (List.getElem_mem hb)
    simpa [hb] using this
  · have : g.blocks[b]?.getD default = default := by simp at hb; simp [hb]
    rw [this]
    exact ⟨by show (List.length []) ≤ 2; simp, fun t ht => absurd ht (by show t ∉ []; simp), List.nodup_nil⟩

theorem mem_edgesFrom {e : Int × Int} : ∀ {bs : List Blk} {k : Nat}, e ∈ edgesFrom k bs ↔ ∃ i, i < bs.length ∧ ∃ t, t ∈ (bs[i]?.getD default).next ∧ e = (((k + i : Nat) : Int), t) := by
  intro bs
  induction bs with
  | nil => intro k; simp [edgesFrom]
  | cons b bs ih =>
    intro k
    rw [edgesFrom, List.mem_append, ih]
    constructor
    · rintro (h | ⟨i, hi, t, ht, he⟩)
      · obtain ⟨t, ht, he⟩ := List.mem_map.1 h
        exact ⟨0, by simp, t, by simpa using ht, by rw [← he]; simp⟩
      · exact ⟨i + 1, by simp; omega, t, by simpa using ht, by rw [he, show k + 1 + i = k + (i + 1) by omega]⟩
    · rintro ⟨i, hi, t, ht, he⟩
      cases i with
      | zero => left; exact List.mem_map.2 ⟨t, by simpa using ht, by rw [he]; simp⟩
      | succ i => right; exact ⟨i, by simpa using hi, t, by simpa using ht, by rw [he, show k + 1 + i = k + (i + 1) by omega]⟩
theorem nodup_edgesFrom : ∀ {bs : List Blk} {k : Nat}, (∀ x ∈ bs, x.next.Nodup) → (edgesFrom k bs).Nodup := by
  intro bs
  induction bs with
  | nil => intro k _; exact List.nodup_nil
  | cons b bs ih =>
    intro k h
    rw [edgesFrom, List.nodup_append]
    refine ⟨?_, ih (fun x hx => h x (List.mem_cons_of_mem _ hx)), ?_⟩
    · have := h b List.mem_cons_self
      unfold edgesOf
      exact List.Pairwise.map _ (fun a c hac e => hac (by simpa using e)) this
    · intro x hx y hy e
      subst e
      obtain ⟨t, _, he⟩ := List.mem_map.1 hx
      obtain ⟨i, _, t', _, he'⟩ := mem_edgesFrom.1 hy
      rw [← he] at he'
      simp only [Prod.mk.injEq] at he'
      omega
theorem edge_at {g : Gr} (h : validB g = true) {k : Nat} (hk : k < (edges g).length) : ∃ a b : Nat, (edges g)[k]?.getD (0, 0) = ((a : Int), (b : Int)) ∧ a < g.blocks.length ∧ b < g.blocks.length ∧ (b : Int) ∈ nextOf g a := by
  have hm : (edges g)[k] ∈ edges g := List.getElem_mem hk
  obtain ⟨i, hi, t, ht, he⟩ := mem_edgesFrom.1 hm
  obtain ⟨h0, h1⟩ := (nextOf_ok h i).rng t ht
  obtain ⟨tn, rfl⟩ := Int.eq_ofNat_of_zero_le h0
  exact ⟨i, tn, by simp [hk, he], hi, by omega, ht⟩
theorem edge_of {g : Gr} {b : Nat} (hb : b < g.blocks.length) {t : Int} (ht : t ∈ nextOf g b) : ∃ i : Nat, (edges g)[i]? = some ((b : Int), t) := by
  have : ((b : Int), t) ∈ edges g := mem_edgesFrom.2 ⟨b, hb, t, ht, by simp⟩
  obtain ⟨i, hi, e⟩ := List.getElem_of_mem this
  exact ⟨i, by simp [hi, e]⟩

section
variable {κ ν : Type} [DecidableEq κ]
theorem alook_aput_self (l : List (κ × ν)) (x : κ) (v : ν) : alook (aput l x v) x = some v := by
  unfold aput alook
  split
  · rename_i h
    induction l with
    | nil => simp at h
    | cons p l ih =>
      rw [List.map_cons]
      by_cases hp : p.1 = x
      · simp [hp]
      · have h' : (l.any fun p => decide (p.1 = x)) = true := by simpa [hp] using h
        have := ih h'
        simp only [if_neg hp]
        rw [List.find?_cons_of_neg (by simpa using hp)]
        exact this
  · rename_i h
    rw [List.find?_append]
    have : (l.find? fun p => decide (p.1 = x)) = none := by
      rw [List.find?_eq_none]
      intro p hp hpx
      exact h (List.any_eq_true.2 ⟨p, hp, hpx⟩)
    rw [this]; simp
theorem alook_aput_ne (l : List (κ × ν)) {x y : κ} (v : ν) (h : y ≠ x) : alook (aput l x v) y = alook l y := by
  unfold aput alook
  split
  · rename_i hc
    clear hc
    induction l with
    | nil => rfl
    | cons p l ih =>
      rw [List.map_cons]
      by_cases hp : p.1 = x
      · rw [if_pos hp, List.find?_cons_of_neg (by simpa using Ne.symm h), List.find?_cons_of_neg (by rw [hp]; simpa using Ne.symm h)]
        exact ih
      · rw [if_neg hp]
        by_cases hy : p.1 = y
        · rw [List.find?_cons_of_pos (by simpa using hy), List.find?_cons_of_pos (by simpa using hy)]
        · rw [List.find?_cons_of_neg (by simpa using hy), List.find?_cons_of_neg (by simpa using hy)]
          exact ih
  · rw [List.find?_append]
    have : ([(x, v)].find? fun p => decide (p.1 = y)) = none := by simp [Ne.symm h]
    rw [this, Option.or_none]
end
theorem alook_putAll_out {e : Int × Int} : ∀ {es : List (Int × Int)} {k : Nat} {l : List ((Int × Int) × Int)}, e ∉ es → alook (putAll es k l) e = alook l e := by
  intro es
  induction es with
  | nil => intro k l _; rfl
  | cons x es ih =>
    intro k l h
    rw [putAll, ih (fun hh => h (List.mem_cons_of_mem _ hh)), alook_aput_ne _ _ (show e ≠ x from fun hh => h (by rw [hh]; exact List.mem_cons_self))]
theorem alook_putAll {e : Int × Int} : ∀ {es : List (Int × Int)} {k : Nat} {l : List ((Int × Int) × Int)} {i : Nat}, es.Nodup → es[i]? = some e → alook (putAll es k l) e = some ((k + i : Nat) : Int) := by
  intro es
  induction es with
  | nil => intro k l i _ h; simp at h
  | cons x es ih =>
    intro k l i hn h
    obtain ⟨h1, h2⟩ := List.nodup_cons.1 hn
    rw [putAll]
    cases i with
    | zero =>
      simp only [List.getElem?_cons_zero, Option.some.injEq] at h
      subst h
      rw [alook_putAll_out h1, alook_aput_self]; simp
    | succ i =>
      rw [List.getElem?_cons_succ] at h
      rw [ih h2 h, show k + 1 + i = k + (i + 1) by omega]
/-- The index of an edge. -/
theorem idx_at {g : Gr} (h : validB g = true) {i : Nat} {e : Int × Int} (he : (edges g)[i]? = some e) : alook (putAll (edges g) 0 []) e = some (i : Int) := by
  have := alook_putAll (k := 0) (l := []) (nodup_edgesFrom (k := 0) (fun x hx => ((valid_ok h).2 x hx).nod)) he
  rw [Nat.zero_add] at this
  exact this
end Go.Proofs.Ytfoimgkgkjhbeaa
