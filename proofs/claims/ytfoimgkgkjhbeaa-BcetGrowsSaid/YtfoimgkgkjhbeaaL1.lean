/- Least costs to the ends of a graph: what is kept while they are improved, what they are when nothing improves, and that they are then fixed. No program in sight. -/
import Derived.Test.YtfoimgkgkjhbeaaB
namespace Go.Proofs.Ytfoimgkgkjhbeaa

/-- A graph with costs. -/
structure Net where
  n : Nat
  nx : Nat → List Nat
  bk : Nat → Int
  ec : Nat → Nat → Int
structure NetOk (N : Net) : Prop where
  lt : ∀ b s, s ∈ N.nx b → s < N.n
  bk0 : ∀ b, 0 ≤ N.bk b
  bk1 : ∀ b, N.bk b ≤ 1073742079
  ec1 : ∀ b s, N.ec b s ≤ 1073741824
  small : N.n ≤ 20

def Walk (N : Net) : List Nat → Prop
  | [] => False
  | [b] => b < N.n ∧ N.nx b = []
  | b :: s :: l => b < N.n ∧ s ∈ N.nx b ∧ 0 ≤ N.ec b s ∧ Walk N (s :: l)
def val (N : Net) : List Nat → Int × Int
  | [] => (0, 0)
  | [b] => (N.bk b, 1)
  | b :: s :: l => (N.bk b + N.ec b s + (val N (s :: l)).1, (val N (s :: l)).2 + 1)

def lexLt (u v : Int × Int) : Prop := u.1 < v.1 ∨ (u.1 = v.1 ∧ u.2 < v.2)
def lexLe (u v : Int × Int) : Prop := u.1 < v.1 ∨ (u.1 = v.1 ∧ u.2 ≤ v.2)
theorem lexLe.refl (u : Int × Int) : lexLe u u := .inr ⟨rfl, Int.le_refl _⟩
theorem lexLe.trans {u v w : Int × Int} (h : lexLe u v) (k : lexLe v w) : lexLe u w := by unfold lexLe at *; omega
theorem lexLt.le {u v : Int × Int} (h : lexLt u v) : lexLe u v := by unfold lexLe lexLt at *; omega
theorem lexLe.antisymm {u v : Int × Int} (h : lexLe u v) (k : lexLe v u) : u = v := by
  unfold lexLe at *
  exact Prod.ext (by omega) (by omega)
theorem lexLe_iff (u v : Int × Int) : lexLe u v ↔ ¬ lexLt v u := by unfold lexLe lexLt; omega

theorem Walk.tail {N : Net} {b s : Nat} {l : List Nat} (h : Walk N (b :: s :: l)) : Walk N (s :: l) := h.2.2.2
theorem Walk.suffix {N : Net} : ∀ {l : List Nat} {c : Nat} {l' : List Nat}, Walk N l → (c :: l') <:+ l → Walk N (c :: l') := by
  intro l
  induction l with
  | nil => intro c l' h hs; exact absurd h (by simp [Walk])
  | cons b l ih =>
    intro c l' h hs
    rcases List.suffix_cons_iff.1 hs with e | hs'
    · rw [e]; exact h
    · cases l with
      | nil => simp at hs'
      | cons s l => exact ih h.tail hs'
theorem Walk.lt {N : Net} : ∀ {l : List Nat}, Walk N l → ∀ x ∈ l, x < N.n := by
  intro l
  induction l with
  | nil => intro h x hx; simp at hx
  | cons b l ih =>
    intro h x hx
    cases l with
    | nil => simp at hx; subst hx; exact h.1
    | cons s l =>
      rcases List.mem_cons.1 hx with rfl | hx
      · exact h.1
      · exact ih h.tail x hx
theorem val_len (N : Net) : ∀ (l : List Nat), (val N l).2 = (l.length : Int)
  | [] => rfl
  | [b] => rfl
  | b :: s :: l => by
    have := val_len N (s :: l)
    simp only [val, this, List.length_cons]; omega
theorem val_bounds {N : Net} (ok : NetOk N) : ∀ {l : List Nat}, Walk N l → 0 ≤ (val N l).1 ∧ (val N l).1 ≤ 2147483904 * (l.length : Int) := by
  intro l
  induction l with
  | nil => intro h; exact absurd h (by simp [Walk])
  | cons b l ih =>
    intro h
    have h0 := ok.bk0 b
    have h1 := ok.bk1 b
    cases l with
    | nil => simp only [val, List.length_cons, List.length_nil]; omega
    | cons s l =>
      have := ih h.tail
      have e1 := ok.ec1 b s
      have e0 : 0 ≤ N.ec b s := h.2.2.1
      simp only [val, List.length_cons] at this ⊢
      omega
/-- What is left of a walk costs no more. -/
theorem val_suffix {N : Net} (ok : NetOk N) : ∀ {l : List Nat} {c : Nat} {l' : List Nat}, Walk N l → (c :: l') <:+ l → (val N (c :: l')).1 ≤ (val N l).1 ∧ (val N (c :: l')).2 ≤ (val N l).2 := by
  intro l
  induction l with
  | nil => intro c l' h hs; exact absurd h (by simp [Walk])
  | cons b l ih =>
    intro c l' h hs
    rcases List.suffix_cons_iff.1 hs with e | hs'
    · rw [e]; exact ⟨Int.le_refl _, Int.le_refl _⟩
    · cases l with
      | nil => simp at hs'
      | cons s l =>
        have := ih h.tail hs'
        have h0 := ok.bk0 b
        have e0 : 0 ≤ N.ec b s := h.2.2.1
        simp only [val]
        omega
theorem nodup_len {n : Nat} : ∀ {l : List Nat}, l.Nodup → (∀ x ∈ l, x < n) → l.length ≤ n := by
  induction n with
  | zero =>
    intro l _ hl
    cases l with
    | nil => simp
    | cons x l => exact absurd (hl x List.mem_cons_self) (by omega)
  | succ n ih =>
    intro l h hl
    have h1 := ih (l := l.erase n) (h.erase n) (fun x hx => by
      have h2 := hl x (List.mem_of_mem_erase hx)
      have h3 : x ≠ n := by rintro rfl; exact h.not_mem_erase hx
      omega)
    have h4 := List.length_erase (a := n) (l := l)
    split at h4 <;> omega

/-- What is known so far: to each block that has a value belongs a walk that has it, without a block twice; and from each block on this walk on, what is known is no worse. -/
def Inv (N : Net) (f : Nat → Option (Int × Int)) : Prop :=
  ∀ b u, f b = some u → ∃ l, Walk N (b :: l) ∧ val N (b :: l) = u ∧ (b :: l).Nodup ∧ ∀ c l', (c :: l') <:+ (b :: l) → ∃ z, f c = some z ∧ lexLe z (val N (c :: l'))
def upd (f : Nat → Option (Int × Int)) (b : Nat) (v : Int × Int) : Nat → Option (Int × Int) := fun c => if c = b then some v else f c
theorem upd_self (f : Nat → Option (Int × Int)) (b : Nat) (v : Int × Int) : upd f b v b = some v := by unfold upd; rw [if_pos rfl]
theorem upd_ne (f : Nat → Option (Int × Int)) {b c : Nat} (v : Int × Int) (h : c ≠ b) : upd f b v c = f c := by unfold upd; rw [if_neg h]
def step (N : Net) (b s : Nat) (z : Int × Int) : Int × Int := (N.bk b + N.ec b s + z.1, z.2 + 1)

theorem inv_none (N : Net) : Inv N fun _ => none := by intro b u h; cases h
theorem step_mono (N : Net) (b s : Nat) {z z' : Int × Int} (h : lexLe z z') : lexLe (step N b s z) (step N b s z') := by unfold lexLe step at *; dsimp only; omega
theorem inv_step {N : Net} (ok : NetOk N) {f : Nat → Option (Int × Int)} (h : Inv N f) {b s : Nat} {z : Int × Int} (hz : f s = some z) (hb : b < N.n) (hs : s ∈ N.nx b) (he : 0 ≤ N.ec b s) (hbet : ∀ u, f b = some u → lexLt (step N b s z) u) : Inv N (upd f b (step N b s z)) := by
  intro c u hc
  by_cases hcb : c = b
  · subst hcb
    simp only [upd, if_true, Option.some.injEq] at hc
    subst hc
    obtain ⟨l, hw, hv, hn, hsuf⟩ := h s z hz
    have hnot : c ∉ s :: l := by
      intro hm
      obtain ⟨p, q, e⟩ := List.append_of_mem hm
      have hsf : (c :: q) <:+ (s :: l) := ⟨p, e.symm⟩
      obtain ⟨z', hz', hle⟩ := hsuf c q hsf
      have hlt := hbet z' hz'
      obtain ⟨v1, v2⟩ := val_suffix ok hw hsf
      rw [hv] at v1 v2
      have h0 := ok.bk0 c
      unfold lexLt step at hlt
      unfold lexLe at hle
      dsimp only at hlt
      omega
    refine ⟨s :: l, ⟨hb, hs, he, hw⟩, ?_, ?_, ?_⟩
    · show (N.bk c + N.ec c s + (val N (s :: l)).1, (val N (s :: l)).2 + 1) = _
      rw [hv]; rfl
    · exact List.nodup_cons.2 ⟨hnot, hn⟩
    · intro d l' hd
      rcases List.suffix_cons_iff.1 hd with e | hd'
      · injection e with e1 e2
        subst e1 e2
        refine ⟨_, upd_self _ _ _, ?_⟩
        show lexLe _ (N.bk d + N.ec d s + (val N (s :: l)).1, (val N (s :: l)).2 + 1)
        rw [hv]; exact lexLe.refl _
      · obtain ⟨z', hz', hle⟩ := hsuf d l' hd'
        have hne : d ≠ c := by
          rintro rfl
          exact hnot (hd'.subset (List.mem_cons_self))
        exact ⟨z', (upd_ne _ _ hne).trans hz', hle⟩
  · simp only [upd, if_neg hcb] at hc
    obtain ⟨l, hw, hv, hn, hsuf⟩ := h c u hc
    refine ⟨l, hw, hv, hn, ?_⟩
    intro d l' hd
    obtain ⟨z', hz', hle⟩ := hsuf d l' hd
    by_cases hdb : d = b
    · subst hdb
      exact ⟨_, upd_self _ _ _, (hbet z' hz').le.trans hle⟩
    · exact ⟨z', (upd_ne _ _ hdb).trans hz', hle⟩
theorem inv_end {N : Net} {f : Nat → Option (Int × Int)} (h : Inv N f) {b : Nat} (hb : b < N.n) (hs : N.nx b = []) : Inv N (upd f b (N.bk b, 1)) := by
  intro c u hc
  by_cases hcb : c = b
  · subst hcb
    simp only [upd, if_true, Option.some.injEq] at hc
    subst hc
    refine ⟨[], ⟨hb, hs⟩, rfl, by simp, ?_⟩
    intro d l' hd
    rcases List.suffix_cons_iff.1 hd with e | hd'
    · injection e with e1 e2
      subst e1 e2
      exact ⟨_, upd_self _ _ _, lexLe.refl _⟩
    · simp at hd'
  · simp only [upd, if_neg hcb] at hc
    obtain ⟨l, hw, hv, hn, hsuf⟩ := h c u hc
    refine ⟨l, hw, hv, hn, ?_⟩
    intro d l' hd
    obtain ⟨z', hz', hle⟩ := hsuf d l' hd
    by_cases hdb : d = b
    · subst hdb
      have hwd := hw.suffix hd
      cases l' with
      | nil => exact ⟨_, upd_self _ _ _, lexLe.refl _⟩
      | cons s l' => have := hwd.2.1; rw [hs] at this; cases this
    · exact ⟨z', (upd_ne _ _ hdb).trans hz', hle⟩
theorem inv_bounds {N : Net} (ok : NetOk N) {f : Nat → Option (Int × Int)} (h : Inv N f) {b : Nat} {u : Int × Int} (hb : f b = some u) : b < N.n ∧ 0 ≤ u.1 ∧ u.1 ≤ 42949678080 ∧ 1 ≤ u.2 ∧ u.2 ≤ (N.n : Int) := by
  obtain ⟨l, hw, hv, hn, _⟩ := h b u hb
  have h1 := val_bounds ok hw
  have h2 := val_len N (b :: l)
  have h3 := nodup_len hn hw.lt
  have h4 := ok.small
  rw [hv] at h1 h2
  simp only [List.length_cons] at h1 h2 h3
  exact ⟨hw.lt b List.mem_cons_self, by omega, by omega, by omega, by omega⟩

/-- Nothing improves. -/
def Fix (N : Net) (f : Nat → Option (Int × Int)) : Prop :=
  (∀ b, b < N.n → N.nx b = [] → f b = some (N.bk b, 1)) ∧ (∀ b s z, b < N.n → s ∈ N.nx b → 0 ≤ N.ec b s → f s = some z → ∃ u, f b = some u ∧ lexLe u (step N b s z))
theorem fix_opt {N : Net} {f : Nat → Option (Int × Int)} (h : Fix N f) : ∀ {l : List Nat} {b : Nat}, Walk N (b :: l) → ∃ u, f b = some u ∧ lexLe u (val N (b :: l)) := by
  intro l
  induction l with
  | nil => intro b hw; exact ⟨_, h.1 b hw.1 hw.2, lexLe.refl _⟩
  | cons s l ih =>
    intro b hw
    obtain ⟨z, hz, hle⟩ := ih hw.tail
    obtain ⟨u, hu, hlu⟩ := h.2 b s z hw.1 hw.2.1 hw.2.2.1 hz
    exact ⟨u, hu, hlu.trans (step_mono N b s hle)⟩
theorem fix_unique {N : Net} {f g : Nat → Option (Int × Int)} (hf : Inv N f) (hg : Inv N g) (kf : Fix N f) (kg : Fix N g) (b : Nat) : f b = g b := by
  have one : ∀ {f g : Nat → Option (Int × Int)}, Inv N f → Fix N g → ∀ u, f b = some u → ∃ v, g b = some v ∧ lexLe v u := by
    intro f g hf kg u hu
    obtain ⟨l, hw, hv, _⟩ := hf b u hu
    obtain ⟨v, h1, h2⟩ := fix_opt kg hw
    exact ⟨v, h1, by rw [hv] at h2; exact h2⟩
  cases e : f b with
  | none =>
    cases e' : g b with
    | none => rfl
    | some v => obtain ⟨u, hu, _⟩ := one hg kf v e'; rw [e] at hu; cases hu
  | some u =>
    obtain ⟨v, hv, hle⟩ := one hf kg u e
    obtain ⟨u', hu', hle'⟩ := one hg kf v hv
    rw [e] at hu'
    cases hu'
    rw [hv, hle'.antisymm hle]
/-- From a block with successors one of them is tight. -/
theorem fix_tight {N : Net} {f : Nat → Option (Int × Int)} (h : Inv N f) (k : Fix N f) {b : Nat} {u : Int × Int} (hb : f b = some u) (hn : N.nx b ≠ []) : ∃ s z, s ∈ N.nx b ∧ 0 ≤ N.ec b s ∧ f s = some z ∧ u = step N b s z := by
  obtain ⟨l, hw, hv, _, hsuf⟩ := h b u hb
  cases l with
  | nil => exact absurd hw.2 hn
  | cons s l =>
    obtain ⟨z, hz, hle⟩ := hsuf s l (List.suffix_cons _ _)
    obtain ⟨u', hu', hlu⟩ := k.2 b s z hw.1 hw.2.1 hw.2.2.1 hz
    rw [hb] at hu'
    cases hu'
    refine ⟨s, z, hw.2.1, hw.2.2.1, hz, hlu.antisymm ?_⟩
    have := step_mono N b s hle
    have e : step N b s (val N (s :: l)) = u := hv
    rw [e] at this
    exact this
end Go.Proofs.Ytfoimgkgkjhbeaa
