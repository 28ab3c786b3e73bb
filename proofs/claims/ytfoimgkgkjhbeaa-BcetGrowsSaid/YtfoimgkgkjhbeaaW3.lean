/- The walk of cfg.Valid. -/
import Derived.Test.YtfoimgkgkjhbeaaW2
namespace Go.Proofs.Ytfoimgkgkjhbeaa
open Go.RowKit

def encInt : Enc Try.prog Int where
  e := 3
  t := 26
  size := 1
  bytes := 8
  z := .int .i64 0
  enc := fun p => [.int .i64 p]
  ht := Try.underlying26
  hinfo := by kernel_rfl
  hlen := fun _ => rfl
  hone := by intro x u hu; simp at hu; subst hu; rfl
  hz := rfl
  hpos := by decide

theorem flatMap_one {α β : Type} (f : α → β) (l : List α) : l.flatMap (fun p => [f p]) = l.map f := by
  induction l with
  | nil => rfl
  | cons x l ih => simpa using ih
theorem OwnL.ints {w : World} {base : Nat} {A : Option Addr} {n c : Nat} {xs : List Int} (h : OwnL encInt w base (.slice A n c) xs) : IntsAt w A xs ∧ xs.length ≤ 9223372036854775807 := by
  obtain ⟨h1, h2⟩ := h
  rcases h2 with ⟨h2, h3⟩ | ⟨g, cap, cur, hv, hg, hh, hn, hcap, hsz, htake⟩
  · have h4 : xs.length = 0 := h3
    refine ⟨fun i hi => by omega, by omega⟩
  · unfold maxLen at hcap
    refine ⟨fun i hi => ?_, by omega⟩
    have hA : A = some ⟨g, 0, none⟩ := by cases hv; rfl
    refine ⟨g, 0, hA, ?_⟩
    have hs : cur.toList.take (xs.length * 1) = encInt.cells xs := htake
    have hcs : (encInt.cells xs)[i]? = some (.int .i64 (xs[i]?.getD 0)) := by
      have : encInt.cells xs = xs.map fun x => .int .i64 x := by
        show xs.flatMap (fun p => [Value.int .i64 p]) = _
        exact flatMap_one _ _
      rw [this]; simp [hi]
    rw [← hs, List.getElem?_take, if_pos (by omega)] at hcs
    simpa [World.cell?, hh] using hcs
theorem Try.info26 : (Try.prog.info? 26).map (fun i => (i.zero, i.size, i.bytes)) = some (some (.slice none 0 0), 1, 24) := by kernel_rfl


/-- What has been made reads as rows. -/
theorem OwnRows.rows {w : World} {base g : Nat} {e : TypeId} {ls : List (List Int)} (h : OwnRows encInt w base g e ls) {n : Nat} (hn : ls.length = n) (hb : n * 40 ≤ 140737488351232) : RowsV w (.slice (some ⟨g, 0, none⟩) n n) ls := by
  subst hn
  refine ⟨_, _, rfl, ?_, by omega⟩
  intro i hi
  obtain ⟨v, hc, how, _⟩ := h.cell i hi
  obtain ⟨A, c, rfl⟩ := how.shape
  refine ⟨g, 0, A, c, rfl, by simpa using hc, how.ints.1, how.ints.2⟩
def RowsLe (p : List (List Int)) (m : Nat) : Prop := ∀ i : Nat, (p[i]?.getD []).length ≤ m
theorem RowsLe.put {p : List (List Int)} {m : Nat} (h : RowsLe p m) (t : Nat) (x : Int) : RowsLe (p.set t (p[t]?.getD [] ++ [x])) (m + 1) := by
  intro i
  by_cases e : t = i
  · subst e
    by_cases hl : t < p.length
    · have h2 := h t
      rw [List.getElem?_set_self hl]
      simp only [Option.getD_some, List.length_append, List.length_singleton]
      omega
    · rw [List.set_eq_of_length_le (by omega)]; exact Nat.le_trans (h t) (Nat.le_succ _)
  · rw [List.getElem?_set_ne e]; exact Nat.le_trans (h i) (Nat.le_succ _)

def ValidRel (w : World) (bs : List Blk) (R : Option (List (List Int))) (box : Obj) (k : Nat) (e : Int) (wr : World) : Prop :=
  ∃ p, Below (w.heap.size + 1) (w.alloc box) wr ∧ OwnRows encInt wr (w.heap.size + 1) (w.heap.size + 1) 26 p ∧ p.length = bs.length ∧ RowsLe p (2 * k) ∧ chkBlks bs.length (bs.drop k) k e p = R
def ValidRel2 (w : World) (bs : List Blk) (R : Option (List (List Int))) (box : Obj) (k : Nat) (x : Blk) (j : Nat) (wr : World) : Prop :=
  ∃ p, Below (w.heap.size + 1) (w.alloc box) wr ∧ OwnRows encInt wr (w.heap.size + 1) (w.heap.size + 1) 26 p ∧ p.length = bs.length ∧ RowsLe p (2 * k + j) ∧
    (chkNext bs.length k (x.next.drop j) p).bind (fun q => chkBlks bs.length (bs.drop (k + 1)) (k + 1) x.to q) = R

theorem validB_bad {g : Gr} (h0 : ¬ g.blocks.length = 0) (h1 : g.prev.length = g.blocks.length) (h : chkBlks g.blocks.length g.blocks 0 0 (List.replicate g.blocks.length []) = none) : validB g = false := by
  unfold validB; rw [if_neg (by rintro (a | a) <;> omega), h]
theorem chk_bad (n : Nat) (bs : List Blk) (k : Nat) (e : Int) (p : List (List Int)) (hk : k < bs.length) {x : Blk} (hx : x = bs[k]?.getD default)
    (hbad : x.fr < e ∨ x.to ≤ x.fr ∨ 2 < x.next.length ∨ (x.next.length = 2 ∧ x.next[0]?.getD 0 = x.next[1]?.getD 0)) : chkBlks n (bs.drop k) k e p = none := by
  rw [drop_at bs default k hk, ← hx, chkBlks, if_pos hbad]
theorem chk_good (n : Nat) (bs : List Blk) (k : Nat) (e : Int) (p : List (List Int)) (hk : k < bs.length) {x : Blk} (hx : x = bs[k]?.getD default)
    (hgood : ¬ (x.fr < e ∨ x.to ≤ x.fr ∨ 2 < x.next.length ∨ (x.next.length = 2 ∧ x.next[0]?.getD 0 = x.next[1]?.getD 0))) :
    chkBlks n (bs.drop k) k e p = (chkNext n k x.next p).bind fun p' => chkBlks n (bs.drop (k + 1)) (k + 1) x.to p' := by
  rw [drop_at bs default k hk, ← hx, chkBlks, if_neg hgood]

set_option maxRecDepth 100000 in
set_option maxHeartbeats 1000000 in
theorem valid_any (w : World) (gv : Value) (g : Gr) (hg : GraphV w gv g) :
    Calls Try.prog 17 #[gv] w fun e w' => e = .returned (.bool (validB g)) ∧ Below w.heap.size w w' := by
  obtain ⟨A, c, B, d, rfl, hA, hB, hl1, hl2⟩ := hg
  by_cases h0 : g.blocks.length = 0
  · have e0 : ((g.blocks.length : Int) == 0) = true := by simp; exact List.length_eq_zero_iff.1 h0
    have hv : validB g = false := by unfold validB; rw [if_pos (Or.inl h0)]
    have HV := Lib.hid hv; clear hv h0
    go_enter Try.func17, Try.ntmps17
    go_wp2
    go_ret
    exact ⟨ret_b HV.out.symm, (Below.refl _ _).alloc (Nat.le_refl _) _⟩
  by_cases h1 : g.prev.length = g.blocks.length
  case neg =>
    have e0 : ((g.blocks.length : Int) == 0) = false := by simpa using h0
    have e1 : ((g.prev.length : Int) != (g.blocks.length : Int)) = true := by simp; omega
    have hv : validB g = false := by unfold validB; rw [if_pos (Or.inr h1)]
    have HV := Lib.hid hv; clear hv h0
    go_enter Try.func17, Try.ntmps17
    go_wp2
    go_ret
    exact ⟨ret_b HV.out.symm, (Below.refl _ _).alloc (Nat.le_refl _) _⟩
  have e0 : ((g.blocks.length : Int) == 0) = false := by simpa using h0
  have e1 : ((g.prev.length : Int) != (g.blocks.length : Int)) = false := by simp; omega
  have hmk := run_make_row' (P := Try.prog) 23 26 (.slice none 0 0) 24 Try.underlying23 Try.info26 rfl .i64 .i64 g.blocks.length (by omega) (by omega)
  have H1 := Lib.hid h1; clear h1
  have H0 := Lib.hid h0; clear h0
  go_enter Try.func17, Try.ntmps17
  go_wp2
  obtain ⟨R, hR⟩ : ∃ R, R = chkBlks g.blocks.length g.blocks 0 0 (List.replicate g.blocks.length []) := ⟨_, rfl⟩
  go_loopw [27, 5] (fun i ev wr => ∃ (k : Nat) (e : Int), i = .int .i64 k ∧ ev = .int .i64 e ∧ k ≤ g.blocks.length ∧ ValidRel w g.blocks R (.cells #[.slice A g.blocks.length c, .slice B g.prev.length d] 25) k e wr) (fun i _ _ => g.blocks.length - (intOf i).toNat)
  case atStart =>
    refine ⟨0, 0, rfl, rfl, by omega, List.replicate g.blocks.length [], ?_, ?_, by simp, ?_, by rw [hR]; rfl⟩
    · exact (Below.refl _ _).alloc (by simp) _
    · have := OwnRows.made encInt (w.alloc (.cells #[.slice A g.blocks.length c, .slice B g.prev.length d] 25)) (w.heap.size + 1) 26 g.blocks.length (by simp)
      simpa using this
    · intro i; rw [List.getElem?_replicate]; split <;> simp
  case round =>
    obtain ⟨k, e, rfl, rfl, hk, p, hb, hown, hpl, hple, hchk⟩ := hrel
    have HR := Lib.hid hR; clear hR
    have HC := Lib.hid hchk; clear hchk
    have HPL := Lib.hid hpl; clear hpl
    have hbox := (hb.cell (p := ⟨w.heap.size, 1, none⟩) (by simp)).trans (cell_box w _ 25 1 rfl)
    have hbw : Below w.heap.size w wr := ((Below.refl _ _).alloc (Nat.le_refl _) _).trans (hb.mono (by omega))
    by_cases hlt : k < g.blocks.length
    · obtain ⟨b, off, nA, nc, rfl, h1, h2, h3, h4, h5⟩ := hA k hlt
      obtain ⟨x, hx⟩ : ∃ x, x = (g.blocks[k]?.getD default) := ⟨_, rfl⟩
      rw [← hx] at h1 h2 h3 h4 h5
      have HX := Lib.hid hx; clear hx
      have g1 := cell_old hbw h1
      have g2 := cell_old hbw h2
      have g3 := cell_old hbw h3
      have h4' := h4.old hbw
      clear h1 h2 h3
      have hbad := chk_bad g.blocks.length g.blocks k e p hlt HX.out
      have hgood := chk_good g.blocks.length g.blocks k e p hlt HX.out
      rw [HC.out] at hbad hgood
      have HBAD := Lib.hid hbad; clear hbad
      have HGOOD := Lib.hid hgood; clear hgood
      by_cases c1 : x.fr < e
      · have hv := validB_bad H0.out H1.out (HR.out.symm.trans (HBAD.out (Or.inl c1)))
        have HV := Lib.hid hv; clear hv
        have d1 : decide (x.fr < e) = true := by simpa using c1
        clear c1
        go_wp2
        go_quiet (fail)
        go_wp2
        go_ret
        exact ⟨ret_b HV.out.symm, drewN_below (hbw.alloc hbw.size _) _⟩
      have d1 : decide (x.fr < e) = false := by simpa using c1
      by_cases c2 : x.to ≤ x.fr
      · have hv := validB_bad H0.out H1.out (HR.out.symm.trans (HBAD.out (Or.inr (Or.inl c2))))
        have HV := Lib.hid hv; clear hv
        have d2 : decide (x.to ≤ x.fr) = true := by simpa using c2
        clear c1 c2
        go_wp2
        go_quiet (fail)
        go_wp2
        go_ret
        exact ⟨ret_b HV.out.symm, drewN_below (hbw.alloc hbw.size _) _⟩
      have d2 : decide (x.to ≤ x.fr) = false := by simpa using c2
      by_cases c3 : 2 < x.next.length
      · have hv := validB_bad H0.out H1.out (HR.out.symm.trans (HBAD.out (Or.inr (Or.inr (Or.inl c3)))))
        have HV := Lib.hid hv; clear hv
        have d3 : decide ((2 : Int) < (x.next.length : Int)) = true := by simp; omega
        clear c1 c2 c3
        go_wp2
        go_quiet (fail)
        go_wp2
        go_ret
        exact ⟨ret_b HV.out.symm, drewN_below (hbw.alloc hbw.size _) _⟩
      have d3i : decide ((2 : Int) < (x.next.length : Int)) = false := by simp; omega
      by_cases c4 : x.next.length = 2 ∧ x.next[0]?.getD 0 = x.next[1]?.getD 0
      · have hv := validB_bad H0.out H1.out (HR.out.symm.trans (HBAD.out (Or.inr (Or.inr (Or.inr c4)))))
        have HV := Lib.hid hv; clear hv
        obtain ⟨c4, c5⟩ := c4
        obtain ⟨b1, o1, rfl, h6⟩ := h4' 0 (by omega)
        obtain ⟨b2, o2, hb2, h7⟩ := h4' 1 (by omega)
        cases hb2
        rw [c5] at h6
        rw [Nat.add_zero] at h6
        obtain ⟨t, ht⟩ : ∃ t, t = x.next[1]?.getD 0 := ⟨_, rfl⟩
        rw [← ht] at h6 h7
        have d4 : ((x.next.length : Int) == 2) = true := by rw [c4]; rfl
        have d5 : 1 < x.next.length := by omega
        clear c4
        have hlt1 := World.block_lt_of_cell? _ _ h6
        simp only at hlt1
        clear c1 c2 c3 c5 ht h4' h4
        go_wp2
        go_quiet (fail)
        go_wp2
        go_ret
        exact ⟨ret_b HV.out.symm, drewN_below (hbw.alloc hbw.size _) _⟩
      have hgd := HGOOD.out (by rintro (a | a | a | a) <;> first | exact c1 a | exact c2 a | exact c3 a | exact c4 a)
      have hlen2 : x.next.length ≤ 2 := by omega
      have HG := Lib.hid hgd; clear hgd
      have hcase : (((x.next.length : Int) == 2) = false) ∨ (((x.next.length : Int) == 2) = true ∧ 1 < x.next.length ∧ ∃ b1 o1 t0 t1, nA = some ⟨b1, o1, none⟩ ∧ wr.cell? ⟨b1, o1, none⟩ = some (.int .i64 t0) ∧ wr.cell? ⟨b1, o1 + 1, none⟩ = some (.int .i64 t1) ∧ (t0 == t1) = false) := by
        by_cases c5 : x.next.length = 2
        · right
          obtain ⟨b1, o1, e1, h6⟩ := h4' 0 (by omega)
          obtain ⟨b2, o2, e2, h7⟩ := h4' 1 (by omega)
          rw [e1] at e2; cases e2
          rw [Nat.add_zero] at h6
          refine ⟨by rw [c5]; rfl, by omega, b1, o1, _, _, e1, h6, h7, ?_⟩
          rw [beq_eq_false_iff_ne]; exact fun h => c4 ⟨c5, h⟩
        · left; simp; omega
      clear c1 c2 c3 c4 HBAD HGOOD
      have hloop : True := trivial
      rcases hcase with d4 | ⟨d4, d5, b1, o1, t0, t1, rfl, h6, h7, d6⟩
      rotate_left
      have hlt1 := World.block_lt_of_cell? _ _ h6
      simp only at hlt1
      all_goals
        go_wp2
        go_quiet (fail)
        go_wp2
        obtain ⟨wo, hwo⟩ : ∃ wo : World, wo = wr := ⟨_, rfl⟩
        rw [← hwo] at hb hown hbox hbw h4' ⊢
        clear hwo g1 g2 g3
        have hown' : OwnRows encInt wo (w.heap.size + 1) (w.heap.size + 1) 26 p := hown
        go_loopw [71] (fun j wi => ∃ jj : Nat, j = .int .i64 jj ∧ jj ≤ x.next.length ∧ ValidRel2 w g.blocks R (.cells #[.slice (some ⟨b, off, none⟩) g.blocks.length c, .slice B g.prev.length d] 25) k x jj wi) (fun j _ => x.next.length - (intOf j).toNat)
        case atStart =>
          refine ⟨0, rfl, Nat.zero_le _, p, ?_, ?_, HPL.out, hple, HG.out.symm⟩
          · exact hb.trans ((drewN_below ((Below.refl _ _).alloc (Nat.le_refl _) _) _).mono (by have := hb.size; simpa using this))
          · exact hown.old (drewN_below ((Below.refl _ _).alloc (Nat.le_refl _) _) _)
        case round =>
          obtain ⟨jj, rfl, hjj, q, hbq, hownq, hql, hqle, hq⟩ := hrel
          have HQL := Lib.hid hql; clear hql
          have hbow : Below w.heap.size w wr := ((Below.refl _ _).alloc (Nat.le_refl _) _).trans (hbq.mono (by omega))
          have hboxq := (hbq.cell (p := ⟨w.heap.size, 1, none⟩) (by simp)).trans (cell_box w _ 25 1 rfl)
          by_cases hjl : jj < x.next.length
          · obtain ⟨b3, o3, e3, h8⟩ := h4 jj hjl
            have g8 := cell_old hbow h8
            clear h8
            obtain ⟨t, ht⟩ : ∃ t, t = x.next[jj]?.getD 0 := ⟨_, rfl⟩
            rw [← ht] at g8
            rw [drop_at x.next 0 jj hjl, ← ht, chkNext] at hq
            have HT := Lib.hid ht; clear ht
            by_cases ct : t < 0 ∨ (g.blocks.length : Int) ≤ t
            · rw [if_pos ct] at hq
              have hv := validB_bad H0.out H1.out (HR.out.symm.trans hq.symm)
              have HV := Lib.hid hv; clear hv hq
              cases e3
              rcases ct with ct | ct
              · have f1 : decide (t < 0) = true := by simpa using ct
                clear ct
                go_wp2
                go_ret
                exact ⟨ret_b HV.out.symm, hbow⟩
              · have f1 : decide (t < 0) = false := by simp; omega
                have f2 : decide ((g.blocks.length : Int) ≤ t) = true := by simpa using ct
                clear ct
                go_wp2
                go_ret
                exact ⟨ret_b HV.out.symm, hbow⟩
            · rw [if_neg ct] at hq
              have HQ := Lib.hid hq; clear hq
              obtain ⟨tn, rfl⟩ := Int.eq_ofNat_of_zero_le (show 0 ≤ t by omega)
              have htn : tn < g.blocks.length := by omega
              have htq : tn < q.length := by rw [HQL.out]; exact htn
              clear ct
              obtain ⟨v0, hc0, how0, hne0, hgs, hfr0⟩ := hownq.cell tn htq
              have hrow : (q[tn]?.getD []).length ≤ 2 * k + jj := hqle tn
              cases e3
              have HOW := Lib.hid hownq; clear hownq
              have HLE := Lib.hid hqle; clear hqle
              clear htq
              go_wp2_with (at_builtin; refine wpl_app1 encInt rfl _ _ rfl rfl how0 (k : Int) rfl rfl (by show _ * 8 ≤ _; omega) (by unfold maxLen; omega) (Nat.le_refl _) (by have := hbq.size; simpa using this) hbq ?_; intro v' w1 hown1 hb1 hgr1 hloc1; obtain ⟨hput, hcw, hfw⟩ := HOW.out.put tn (by rw [HQL.out]; exact htn) hc0 hown1 hgr1 hloc1; obtain ⟨A', c', hv'⟩ := hown1.shape; rw [List.length_append, List.length_singleton] at hv'; subst hv'; have HP := Lib.hid hput; clear hput hown1 hgr1 hloc1)
              go_roundw
              case rel =>
                refine ⟨jj + 1, by go_num, by omega, _, ?_, HP.out, by rw [List.length_set]; exact HQL.out, ?_, HQ.out⟩
                · exact hb1.setCell (by simp) _
                · exact (RowsLe.put HLE.out tn (k : Int))
              case measure => simp [intOf]; omega
          · have hq' := hq
            rw [List.drop_of_length_le (by omega), chkNext] at hq'
            simp only [Option.bind_some] at hq'
            have HQ := Lib.hid hq'; clear hq' hq
            go_wp2
            go_roundw
            case rel => exact ⟨k + 1, x.to, by go_num, rfl, by omega, q, hbq, hownq, HQL.out, fun i => Nat.le_trans (hqle i) (by omega), HQ.out⟩
            case measure => simp [intOf]; omega
    · have hc' := HC.out
      rw [List.drop_of_length_le (by omega), chkBlks] at hc'
      have hv : validB g = (p == g.prev) := by
        unfold validB; rw [if_neg (by have := H0.out; have := H1.out; rintro (a | a) <;> omega), ← HR.out, ← hc']
      have HV := Lib.hid hv; clear hv hc'
      have hro := hown.rows HPL.out hl1
      have hrp : RowsV wr (.slice B g.prev.length d) g.prev := ⟨B, d, rfl, hB.old hbw, hl2⟩
      go_wp2_with (go_at_call 28; refine (equalFunc_any _ _ _ _ _ hro hrp).mono ?_; rintro e w' ⟨rfl, hb'⟩)
      go_ret
      exact ⟨ret_b HV.out.symm, hbw.trans (hb'.mono hbw.size)⟩
end Go.Proofs.Ytfoimgkgkjhbeaa
