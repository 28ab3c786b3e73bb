/- Maps in memory as association lists in the order of their making: look-up and store. -/
import Derived.Test.YtfoimgkgkjhbeaaB
import Derived.Maps.Keyed
import Derived.DeepKeys4
import Derived.WideKeyPair
namespace Go.Proofs.Ytfoimgkgkjhbeaa
open Go.RowKit

/-- How keys and elements of a map type lie in memory. -/
structure MEnc (P : Program) (κ ν : Type) where
  t : TypeId
  k : TypeId
  e : TypeId
  ht : P.underlying t = some (.map k e)
  law : Maps.Keyed P k
  K : κ → Value
  V : ν → Value
  ok : κ → Prop
  hkey : ∀ x, ok x → ∃ l, keyOf P k (K x) = some l
  inj : ∀ x y, K x = K y → x = y
  z : Value
  hz : ∀ w, (zeroValue e).run P w = .ok z w

/-- Block b is a map of these entries, in the order in which their keys came. -/
def MapIs {P : Program} {κ ν : Type} (M : MEnc P κ ν) (w : World) (b : Nat) (l : List (κ × ν)) : Prop :=
  ∃ es clock, w.heap[b]? = some (.map es clock) ∧ es.toList.map (fun e => (e.key, e.val)) = l.map (fun p => (M.K p.1, M.V p.2)) ∧ ∀ p ∈ l, M.ok p.1
theorem MapIs.old {P : Program} {κ ν : Type} {M : MEnc P κ ν} {w w1 : World} {b : Nat} {l : List (κ × ν)} (h : MapIs M w b l) (hb : Below w.heap.size w w1) : MapIs M w1 b l := by
  obtain ⟨es, c, h1, h2⟩ := h
  exact ⟨es, c, by rw [hb.block b (Array.getElem?_eq_some_iff.1 h1).1]; exact h1, h2⟩
theorem MapIs.lt {P : Program} {κ ν : Type} {M : MEnc P κ ν} {w : World} {b : Nat} {l : List (κ × ν)} (h : MapIs M w b l) : b < w.heap.size := by
  obtain ⟨es, c, h1, h2⟩ := h
  exact (Array.getElem?_eq_some_iff.1 h1).1
theorem MapIs.of_heap {P : Program} {κ ν : Type} {M : MEnc P κ ν} {w w1 : World} {b : Nat} {l : List (κ × ν)} (h : MapIs M w b l) (hb : w1.heap[b]? = w.heap[b]?) : MapIs M w1 b l := by
  obtain ⟨es, c, h1, h2⟩ := h
  exact ⟨es, c, by rw [hb]; exact h1, h2⟩

def alook {κ ν : Type} [DecidableEq κ] (l : List (κ × ν)) (x : κ) : Option ν := (l.find? fun p => decide (p.1 = x)).map (·.2)
/-- A store: in place where the key is there, else behind all. -/
def aput {κ ν : Type} [DecidableEq κ] (l : List (κ × ν)) (x : κ) (v : ν) : List (κ × ν) :=
  if l.any (fun p => decide (p.1 = x)) then l.map (fun p => if p.1 = x then (x, v) else p) else l ++ [(x, v)]

section
variable {P : Program} {κ ν : Type} [DecidableEq κ] (M : MEnc P κ ν)

theorem find_entries {w : World} {x : κ} (hx : M.ok x) {es : Array MapEntry} {l : List (κ × ν)} (hl : es.toList.map (fun e => (e.key, e.val)) = l.map (fun p => (M.K p.1, M.V p.2))) (hok : ∀ p ∈ l, M.ok p.1) :
    ((Instr.findKey M.k (M.K x) es.toList).run P w = .ok none w ∧ alook l x = none ∧ ∀ p ∈ l, p.1 ≠ x) ∨
    ∃ (j : Nat) (v : ν), (Instr.findKey M.k (M.K x) es.toList).run P w = .ok (some (j, M.V v)) w ∧ (l[j]? = some (x, v)) := by
  obtain ⟨lx, hlx⟩ := M.hkey x hx
  have hes : ∀ e ∈ es.toList, ∃ l, keyOf P M.k e.key = some l := by
    intro e he
    have : (e.key, e.val) ∈ es.toList.map (fun e => (e.key, e.val)) := List.mem_map.2 ⟨e, he, rfl⟩
    rw [hl] at this
    obtain ⟨p, hp, hpe⟩ := List.mem_map.1 this
    simp only [Prod.mk.injEq] at hpe
    rw [← hpe.1]
    exact M.hkey _ (hok p hp)
  rcases M.law.find w hlx es.toList hes with ⟨h1, h2⟩ | ⟨j, e, h1, h2, h3⟩
  · left
    have hno : ∀ p ∈ l, p.1 ≠ x := by
      intro p hp e
      have : (M.K p.1, M.V p.2) ∈ l.map (fun p => (M.K p.1, M.V p.2)) := List.mem_map.2 ⟨p, hp, rfl⟩
      rw [← hl] at this
      obtain ⟨en, hen, hee⟩ := List.mem_map.1 this
      simp only [Prod.mk.injEq] at hee
      exact h2 en hen (by rw [hee.1, e])
    refine ⟨h1, ?_, hno⟩
    unfold alook
    rw [List.find?_eq_none.2 (fun p hp => by simpa using hno p hp)]; rfl
  · right
    have hj : (l.map (fun p => (M.K p.1, M.V p.2)))[j]? = some (e.key, e.val) := by rw [← hl]; simp [h2]
    rw [List.getElem?_map] at hj
    obtain ⟨p, hp, hpe⟩ := Option.map_eq_some_iff.1 hj
    simp only [Prod.mk.injEq] at hpe
    have : p.1 = x := M.inj _ _ (by rw [hpe.1, h3])
    refine ⟨j, p.2, by rw [h1, ← hpe.2], ?_⟩
    rw [hp, ← this]

/-- The keys stand once each. -/
def Uniq (l : List (κ × ν)) : Prop := (l.map (·.1)).Nodup
theorem alook_at {l : List (κ × ν)} (hu : Uniq l) {j : Nat} {x : κ} {v : ν} (h : l[j]? = some (x, v)) : alook l x = some v := by
  unfold alook Uniq at *
  induction l generalizing j with
  | nil => simp at h
  | cons p l ih =>
    simp only [List.map_cons, List.nodup_cons] at hu
    cases j with
    | zero => simp at h; subst h; simp
    | succ j =>
      have hm : (x, v) ∈ l := List.mem_of_getElem? (by simpa using h)
      have hne : p.1 ≠ x := fun e => hu.1 (e ▸ List.mem_map.2 ⟨(x, v), hm, rfl⟩)
      rw [List.find?_cons_of_neg (by simpa using hne)]
      exact ih hu.2 (by simpa using h)

theorem run_look {w : World} {b : Nat} {l : List (κ × ν)} (h : MapIs M w b l) (hu : Uniq l) {x : κ} (hx : M.ok x) (ck : Bool) :
    (Instr.lookup M.t (.map (some b)) (M.K x) ck).run P w = .ok (if ck then .tuple #[((alook l x).map M.V).getD M.z, .bool (alook l x).isSome] else ((alook l x).map M.V).getD M.z) w := by
  obtain ⟨es, c, h1, h2, h3⟩ := h
  obtain ⟨lx, hlx⟩ := M.hkey x hx
  rcases find_entries M (w := w) hx h2 h3 with ⟨hf, hn, _⟩ | ⟨j, v, hf, hj⟩
  · rw [hn]
    simp [Instr.lookup, run_underlying M.ht, MapKept.run_getObj_map h1, M.law.check w _ hlx, hf, M.hz, Result.andThen]
  · rw [alook_at hu hj]
    simp [Instr.lookup, run_underlying M.ht, MapKept.run_getObj_map h1, M.law.check w _ hlx, hf, Result.andThen]

def setMap (w : World) (b : Nat) (o : Obj) : World := { w with heap := w.heap.setIfInBounds b o }

theorem run_put {w : World} {b : Nat} {l : List (κ × ν)} (h : MapIs M w b l) (hu : Uniq l) {x : κ} (hx : M.ok x) (v : ν) :
    ∃ o, (Instr.mapUpdate M.t (.map (some b)) (M.K x) (M.V v)).run P w = .ok () (setMap w b o) ∧ MapIs M (setMap w b o) b (aput l x v) ∧ Uniq (aput l x v) := by
  obtain ⟨es, c, h1, h2, h3⟩ := h
  obtain ⟨lx, hlx⟩ := M.hkey x hx
  have hbs : b < w.heap.size := (Array.getElem?_eq_some_iff.1 h1).1
  rcases find_entries M (w := w) hx h2 h3 with ⟨hf, hn, hno⟩ | ⟨j, u, hf, hj⟩
  · refine ⟨.map (es.push { key := M.K x, val := M.V v, born := c }) (c + 1), ?_, ?_, ?_⟩
    · simp [Instr.mapUpdate, run_underlying M.ht, MapKept.run_getObj_map h1, M.law.check w false hlx, hf, MapKept.run_setObj_map _ h1, Result.andThen, setMap]
    · have ha : aput l x v = l ++ [(x, v)] := by
        unfold aput; rw [if_neg]; intro hh; obtain ⟨q, hq, hqe⟩ := List.any_eq_true.1 hh; exact hno q hq (by simpa using hqe)
      rw [ha]
      refine ⟨es.push { key := M.K x, val := M.V v, born := c }, c + 1, by simp [setMap, hbs], by simp [h2], ?_⟩
      intro p hp
      rcases List.mem_append.1 hp with hp | hp
      · exact h3 p hp
      · simp at hp; subst hp; exact hx
    · have ha : aput l x v = l ++ [(x, v)] := by
        unfold aput; rw [if_neg]; intro hh; obtain ⟨q, hq, hqe⟩ := List.any_eq_true.1 hh; exact hno q hq (by simpa using hqe)
      rw [ha]
      unfold Uniq at *
      rw [List.map_append, List.nodup_append]
      refine ⟨hu, by simp, ?_⟩
      intro a hma c hmc
      simp at hmc; subst hmc
      obtain ⟨p, hp, rfl⟩ := List.mem_map.1 hma
      exact hno p hp
  · have hjl : j < l.length := (List.getElem?_eq_some_iff.1 hj).1
    have hsz : es.size = l.length := by simpa using congrArg List.length h2
    have hje : (es.toList.map (fun e => (e.key, e.val)))[j]? = some (M.K x, M.V u) := by rw [h2]; simp [hj]
    obtain ⟨e0, he0, hee⟩ : ∃ e0, es[j]? = some e0 ∧ e0.key = M.K x := by
      rw [List.getElem?_map] at hje
      obtain ⟨e0, he, hee⟩ := Option.map_eq_some_iff.1 hje
      exact ⟨e0, by simpa using he, by simp at hee; exact hee.1⟩
    have hany : l.any (fun p => decide (p.1 = x)) = true := List.any_eq_true.2 ⟨(x, u), List.mem_of_getElem? hj, by simp⟩
    have ha : aput l x v = l.map (fun p => if p.1 = x then (x, v) else p) := by unfold aput; rw [if_pos hany]
    have hkeys : (aput l x v).map (·.1) = l.map (·.1) := by
      rw [ha, List.map_map]
      apply List.map_congr_left
      intro p hp
      simp only [Function.comp]
      split
      · rename_i e; exact e.symm
      · rfl
    refine ⟨.map (es.modify j fun e => { e with key := M.K x, val := M.V v }) c, ?_, ?_, by unfold Uniq at *; rw [hkeys]; exact hu⟩
    · simp [Instr.mapUpdate, run_underlying M.ht, MapKept.run_getObj_map h1, M.law.check w false hlx, hf, he0, hee, M.law.stays w hlx, MapKept.run_setObj_map _ h1, Result.andThen, setMap]
    · refine ⟨es.modify j fun e => { e with key := M.K x, val := M.V v }, c, by simp [setMap, hbs], ?_, ?_⟩
      · rw [ha]
        apply List.ext_getElem?
        intro i
        have h2i : (es.toList.map (fun e => (e.key, e.val)))[i]? = (l.map (fun p => (M.K p.1, M.V p.2)))[i]? := by rw [h2]
        simp only [List.getElem?_map, Array.getElem?_toList, Array.getElem?_modify] at h2i ⊢
        by_cases hij : j = i
        · subst hij
          rw [he0, hj]; simp
        · rw [if_neg hij]
          cases hli : l[i]? with
          | none => rw [hli] at h2i; simpa using h2i
          | some p =>
            rw [hli] at h2i
            have hpx : p.1 ≠ x := by
              intro e
              have hd := List.pairwise_iff_getElem.1 hu
              have hil : i < l.length := (List.getElem?_eq_some_iff.1 hli).1
              have e1 : l[i] = p := (List.getElem?_eq_some_iff.1 hli).2
              have e2 : l[j] = (x, u) := (List.getElem?_eq_some_iff.1 hj).2
              rcases Nat.lt_or_gt_of_ne hij with hlt | hgt
              · exact hd j i (by simpa using hjl) (by simpa using hil) hlt (by simp [e1, e2, e])
              · exact hd i j (by simpa using hil) (by simpa using hjl) hgt (by simp [e1, e2, e])
            simpa [hpx] using h2i
      · intro p hp
        rw [ha] at hp
        obtain ⟨q, hq, rfl⟩ := List.mem_map.1 hp
        split
        · exact hx
        · exact h3 q hq
end

theorem MapIs.made {P : Program} {κ ν : Type} (M : MEnc P κ ν) (w : World) : MapIs M (w.alloc (.map #[] 0)) w.heap.size [] :=
  ⟨#[], 0, heap_alloc_new w _, by simp, by simp⟩
theorem setMap_heap (w : World) (b : Nat) (o : Obj) (k : Nat) (h : k ≠ b) : (setMap w b o).heap[k]? = w.heap[k]? := by
  simp [setMap, Array.getElem?_setIfInBounds, Ne.symm h]
theorem setMap_below {B : Nat} {w0 w : World} (h : Below B w0 w) {b : Nat} (hb : B ≤ b) (o : Obj) : Below B w0 (setMap w b o) :=
  h.trans ⟨rfl, rfl, rfl, by simp [setMap], fun k hk => setMap_heap w b o k (by omega)⟩
end Go.Proofs.Ytfoimgkgkjhbeaa
