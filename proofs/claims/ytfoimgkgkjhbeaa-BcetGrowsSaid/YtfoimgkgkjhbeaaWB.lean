/- The walk of next, the guard of the laws for sizes. -/
import Derived.Test.YtfoimgkgkjhbeaaWA
namespace Go.Proofs.Ytfoimgkgkjhbeaa
open Go.RowKit

/-- A slice of ints as a value in a slice. -/
def Sl := Option Addr × Nat × Nat
def Sl.v (x : Sl) : Value := .slice x.1 x.2.1 x.2.2
def encSl : Enc Try.prog Sl where
  e := 26
  t := 23
  size := 1
  bytes := 24
  z := .slice none 0 0
  enc := fun p => [p.v]
  ht := Try.underlying23
  hinfo := Try.info26
  hlen := fun _ => rfl
  hone := by intro x u hu; simp [Sl.v] at hu; subst hu; rfl
  hz := rfl
  hpos := by decide

/-- The parts of a list of slices read as rows. -/
def SlsAt (w : World) (xs : List Sl) (ls : List (List Int)) : Prop :=
  xs.length = ls.length ∧ ∀ i, i < ls.length → ∃ A c, xs[i]? = some (A, (ls[i]?.getD []).length, c) ∧ IntsAt w A (ls[i]?.getD []) ∧ (ls[i]?.getD []).length ≤ 9223372036854775807
theorem SlsAt.old {w w1 : World} {xs : List Sl} {ls : List (List Int)} (h : SlsAt w xs ls) (hb : Below w.heap.size w w1) : SlsAt w1 xs ls :=
  ⟨h.1, fun i hi => let ⟨A, c, h1, h2, h3⟩ := h.2 i hi; ⟨A, c, h1, h2.old hb, h3⟩⟩
theorem SlsAt.snoc {w : World} {xs : List Sl} {ls : List (List Int)} (h : SlsAt w xs ls) {A : Option Addr} {c : Nat} {l : List Int} (hl : IntsAt w A l) (hn : l.length ≤ 9223372036854775807) :
    SlsAt w (xs ++ ([(A, l.length, c)] : List Sl)) (ls ++ [l]) := by
  obtain ⟨h1, h2⟩ := h
  refine ⟨by rw [List.length_append, List.length_append, h1]; rfl, ?_⟩
  intro i hi
  rw [List.length_append, List.length_singleton] at hi
  by_cases e : i = ls.length
  · subst e
    refine ⟨A, c, ?_, ?_, ?_⟩
    · rw [List.getElem?_append_right (by omega), List.getElem?_append_right (by omega), h1, Nat.sub_self]; rfl
    · simpa using hl
    · simpa using hn
  · obtain ⟨A', c', k1, k2, k3⟩ := h2 i (by omega)
    refine ⟨A', c', ?_, ?_, ?_⟩
    · rw [List.getElem?_append_left (by omega), List.getElem?_append_left (by omega)]; exact k1
    · rw [List.getElem?_append_left (by omega)]; exact k2
    · rw [List.getElem?_append_left (by omega)]; exact k3
theorem OwnL.sls {w : World} {base : Nat} {v : Value} {xs : List Sl} {ls : List (List Int)} (h : OwnL encSl w base v xs) (hx : SlsAt w xs ls) (hn : ls.length * 24 ≤ 140737488351232) : RowsV w v ls := by
  obtain ⟨h1, h2⟩ := h
  obtain ⟨k1, k2⟩ := hx
  rcases h2 with ⟨h2, h3⟩ | ⟨g, cap, cur, hv, hg, hh, hn', hcap, hsz, htake⟩
  · have h4 : xs.length = 0 := h3
    refine ⟨none, 0, ?_, fun i hi => by omega, hn⟩
    rw [h2, show ls.length = 0 by omega]
  · refine ⟨some ⟨g, 0, none⟩, cap, by rw [hv, k1], ?_, hn⟩
    intro i hi
    obtain ⟨A, c, e1, e2, e3⟩ := k2 i hi
    refine ⟨g, 0, A, c, rfl, ?_, e2, e3⟩
    have hs : cur.toList.take (xs.length * 1) = encSl.cells xs := htake
    have hcs : (encSl.cells xs)[i]? = some (.slice A (ls[i]?.getD []).length c) := by
      have : encSl.cells xs = xs.map Sl.v := by
        show xs.flatMap (fun p => [Sl.v p]) = _
        exact flatMap_one _ _
      rw [this, List.getElem?_map, e1]; rfl
    rw [← hs, List.getElem?_take, if_pos (by omega)] at hcs
    simpa [World.cell?, hh] using hcs

def most : Int := 1073741824
def leMost (xs : List Int) : Bool := xs.all fun n => decide (n ≤ 1073741824)
theorem leMost_upto {xs : List Int} (h : ∀ j, j < xs.length → decide ((1073741824 : Int) < xs[j]?.getD 0) = false) : leMost xs = true := by
  unfold leMost
  rw [List.all_eq_true]
  intro x hx
  obtain ⟨i, hi, rfl⟩ := List.getElem_of_mem hx
  have := h i hi
  simpa [hi] using this
theorem leMost_at {xs : List Int} {k : Nat} (hk : k < xs.length) (h : (1073741824 : Int) < xs[k]?.getD 0) : leMost xs = false := by
  unfold leMost
  rw [List.all_eq_false]
  exact ⟨xs[k], List.getElem_mem hk, by simpa [hk] using h⟩
def nextB (g : Gr) (c : Cst) : Bool := decide (g.blocks.length ≤ 20) && decide (c.block.length ≤ 30) && decide (c.edge.length ≤ 60) && leMost c.block && leMost c.edge
def nexts (g : Gr) : List (List Int) := g.blocks.map (·.next)

set_option maxRecDepth 100000 in
set_option maxHeartbeats 4000000 in
theorem next_any (w : World) (gv cv : Value) (g : Gr) (c : Cst) (hg : GraphV w gv g) (hc : CostsV w cv c) :
    Calls Try.prog 9 #[gv, cv] w fun e w' => ∃ u, e = .returned (.tuple #[u, .bool (nextB g c)]) ∧ (nextB g c = true → RowsV w' u (nexts g)) ∧ Below w.heap.size w w' := by
  obtain ⟨A, ca, B, cb, rfl, hA, hB, hl1, hl2⟩ := hg
  obtain ⟨C, cc, D, cd, rfl, hC, hD, hl3, hl4⟩ := hc
  by_cases h20 : g.blocks.length ≤ 20
  case neg =>
    have hd : decide ((20 : Int) < (g.blocks.length : Int)) = true := by simp; omega
    have HN : Hid (nextB g c = false) := by show nextB g c = false; simp [nextB, h20]
    clear h20
    go_enter Try.func9, Try.ntmps9
    go_wp2
    go_ret2
    exact ⟨.slice none 0 0, by rw [HN.out]; rfl, (fun h => by rw [HN.out] at h; cases h), ((Below.refl _ _).alloc (Nat.le_refl _) _).alloc (by simp) _⟩
  have hd : decide ((20 : Int) < (g.blocks.length : Int)) = false := by simp; omega
  by_cases h30 : c.block.length ≤ 30
  case neg =>
    have hd2 : decide ((30 : Int) < (c.block.length : Int)) = true := by simp; omega
    have HN : Hid (nextB g c = false) := by show nextB g c = false; simp [nextB, h30]
    clear h30 h20
    go_enter Try.func9, Try.ntmps9
    go_wp2
    go_ret2
    exact ⟨.slice none 0 0, by rw [HN.out]; rfl, (fun h => by rw [HN.out] at h; cases h), ((Below.refl _ _).alloc (Nat.le_refl _) _).alloc (by simp) _⟩
  have hd2 : decide ((30 : Int) < (c.block.length : Int)) = false := by simp; omega
  by_cases h60 : c.edge.length ≤ 60
  case neg =>
    have hd3 : decide ((60 : Int) < (c.edge.length : Int)) = true := by simp; omega
    have HN : Hid (nextB g c = false) := by show nextB g c = false; simp [nextB, h60]
    clear h30 h20 h60
    go_enter Try.func9, Try.ntmps9
    go_wp2
    go_ret2
    exact ⟨.slice none 0 0, by rw [HN.out]; rfl, (fun h => by rw [HN.out] at h; cases h), ((Below.refl _ _).alloc (Nat.le_refl _) _).alloc (by simp) _⟩
  have hd3 : decide ((60 : Int) < (c.edge.length : Int)) = false := by simp; omega
  have HN : Hid (nextB g c = (leMost c.block && leMost c.edge)) := by show nextB g c = _; simp [nextB, h20, h30, h60]
  go_enter Try.func9, Try.ntmps9
  go_wp2
  clear hd hd2 hd3 h30 h60
  obtain ⟨w1, hw1⟩ : ∃ w1, w1 = (w.alloc (.cells #[.slice A g.blocks.length ca, .slice B g.prev.length cb] 25)).alloc (.cells #[.slice C c.block.length cc, .slice D c.edge.length cd, .int .i64 c.once] 28) := ⟨_, rfl⟩
  have HB1 : Hid (Below w.heap.size w w1) := hw1 ▸ ((Below.refl _ _).alloc (Nat.le_refl _) _).alloc (by simp) _
  have q2 : w1.cell? ⟨w.heap.size + 1, 0, none⟩ = some (.slice C c.block.length cc) := by rw [hw1]; simp
  have q3 : w1.cell? ⟨w.heap.size + 1, 1, none⟩ = some (.slice D c.edge.length cd) := by rw [hw1]; simp
  rw [← hw1]
  have HW1 := Lib.hid hw1; clear hw1
  go_loopw [6, 32] (fun v i wr => ∃ (k : Nat) (xs : List Sl), i = .int .i64 k ∧ k ≤ g.blocks.length ∧ Below w1.heap.size w1 wr ∧ OwnL encSl wr w1.heap.size v xs ∧ SlsAt w xs ((nexts g).take k)) (fun _ i _ => g.blocks.length - (intOf i).toNat)
  case atStart => exact ⟨0, [], rfl, by omega, Below.refl _ _, OwnL.nil _ _ _, by simp [SlsAt]⟩
  case round =>
    obtain ⟨k, xs, rfl, hk, hb, hown, hsl⟩ := hrel
    by_cases hlt : k < g.blocks.length
    · obtain ⟨b, off, nA, nc, rfl, h1, h2, h3, h4, h5⟩ := hA k hlt
      obtain ⟨x, hx⟩ : ∃ x, x = (g.blocks[k]?.getD default) := ⟨_, rfl⟩
      rw [← hx] at h1 h2 h3 h4 h5
      have hb0 : Below w.heap.size w wr := HB1.out.trans (hb.mono HB1.out.size)
      have HX := Lib.hid hx; clear hx
      have g1 := cell_old hb0 h1
      have g2 := cell_old hb0 h2
      have g3 := cell_old hb0 h3
      clear h1 h2 h3
      have hxl : xs.length ≤ 20 := by have := hsl.1; rw [List.length_take] at this; omega
      have HSL := Lib.hid hsl; clear hsl
      go_wp2_with (at_builtin; go_must (refine wpl_app1 encSl rfl _ _ rfl rfl (hown.alloc _) (nA, x.next.length, nc) rfl (by show Value.slice (some ⟨wr.heap.size + 1, 0, none⟩) 1 1 = _; simp) (by show _ * 24 ≤ _; omega) (by unfold maxLen; omega) (Nat.le_refl _) (by simp; have := hb.size; omega) (hb.alloc hb.size _) ?_); intro v' w2 hown' hb' _ _)
      go_roundw
      case rel =>
        refine ⟨k + 1, _, by go_num, by omega, hb', hown', ?_⟩
        have : (nexts g).take (k + 1) = (nexts g).take k ++ [x.next] := by
          rw [take_snoc (nexts g) [] k (by simpa [nexts] using hlt), HX.out]; simp [nexts, hlt]
        rw [this]
        exact HSL.out.snoc h4 h5
      case measure => simp [intOf]; omega
    · rw [List.take_of_length_le (by simp [nexts]; omega)] at hsl
      have HSL := Lib.hid hsl; clear hsl
      have HOWN := Lib.hid hown; clear hown
      have r2 := cell_old hb q2
      have r3 := cell_old hb q3
      go_wp2
      obtain ⟨w3, hw3⟩ : ∃ w3, w3 = wr.alloc (.cells #[.slice C c.block.length cc, .slice D c.edge.length cd] 26) := ⟨_, rfl⟩
      have hb13 : Below w1.heap.size w1 w3 := hw3 ▸ hb.alloc hb.size _
      have HO3 : Hid (OwnL encSl w3 w1.heap.size u6 xs) := hw3 ▸ (HOWN.out.alloc _)
      obtain ⟨bk, hbk⟩ : ∃ bk, bk = wr.heap.size := ⟨_, rfl⟩
      have t0 : w3.cell? ⟨bk, 0, none⟩ = some (.slice C c.block.length cc) := by rw [hw3, hbk]; simp
      have t1 : w3.cell? ⟨bk, 1, none⟩ = some (.slice D c.edge.length cd) := by rw [hw3, hbk]; simp
      rw [← hw3, ← hbk]
      have HB3 := Lib.hid (HB1.out.trans (hb13.mono HB1.out.size))
      clear hw3 hbk hb13 r2 r3 hb
      have hel : ∀ k, k < 2 → ∃ X xc ys, w3.cell? ⟨bk, k, none⟩ = some (.slice X ys.length xc) ∧ IntsAt w X ys ∧ ys.length ≤ 9223372036854775807 ∧ (if k = 0 then c.block else c.edge) = ys := by
        intro k hk
        by_cases e : k = 0
        · subst e; exact ⟨C, cc, c.block, t0, hC, hl3, rfl⟩
        · obtain rfl : k = 1 := by omega
          exact ⟨D, cd, c.edge, t1, hD, hl4, rfl⟩
      have HEL := Lib.hid hel
      clear hel t0 t1
      go_loopw [48] (fun i wy => ∃ k : Nat, i = .int .i64 k ∧ k ≤ 2 ∧ Below w3.heap.size w3 wy ∧ Hid (∀ j, j < k → leMost (if j = 0 then c.block else c.edge) = true)) (fun i _ => 2 - (intOf i).toNat)
      case atStart => exact ⟨0, rfl, by omega, Below.refl _ _, by intro j hj; omega⟩
      case round =>
        obtain ⟨k, rfl, hk, hb, HE⟩ := hrel
        by_cases hlt : k < 2
        · obtain ⟨X, xc, ys, h1, hX, hyl, hys⟩ := HEL.out k hlt
          have HYS := Lib.hid hys; clear hys
          have g1 := cell_old hb h1
          clear h1
          go_wp2
          obtain ⟨wo, hwo⟩ : ∃ wo : World, wo = wr := ⟨_, rfl⟩
          rw [← hwo] at hb ⊢
          clear hwo g1
          have HBO := Lib.hid hb; clear hb
          go_loopw [54] (fun i wx => ∃ j : Nat, i = .int .i64 j ∧ j ≤ ys.length ∧ Below wo.heap.size wo wx ∧ Hid (∀ m, m < j → decide ((1073741824 : Int) < ys[m]?.getD 0) = false)) (fun i _ => ys.length - (intOf i).toNat)
          case atStart => exact ⟨0, rfl, by omega, Below.refl _ _, by intro j hj; omega⟩
          case round =>
            obtain ⟨j, rfl, hj, hbj, HJ⟩ := hrel
            have hbw := (HB3.out.trans (HBO.out.mono HB3.out.size))
            have hbx := hbw.trans (hbj.mono hbw.size)
            clear hbw
            by_cases hjl : j < ys.length
            · obtain ⟨b1, o1, rfl, h1⟩ := hX j hjl
              have g1 := cell_old hbx h1
              clear h1
              obtain ⟨t, ht⟩ : ∃ t, t = ys[j]?.getD 0 := ⟨_, rfl⟩
              rw [← ht] at g1
              have HT := Lib.hid ht; clear ht
              by_cases hbig : (1073741824 : Int) < t
              · have hdn : decide ((1073741824 : Int) < t) = true := by simpa using hbig
                have hh : leMost ys = false := leMost_at hjl (by rw [← HT.out]; exact hbig)
                have HNN : Hid (nextB g c = false) := by
                  show nextB g c = false
                  rw [HN.out]
                  have e := HYS.out
                  by_cases e0 : k = 0
                  · rw [if_pos e0] at e; rw [e, hh]; rfl
                  · rw [if_neg e0] at e; rw [e, hh]; simp
                clear hbig hh
                go_wp2
                go_ret2
                exact ⟨.slice none 0 0, by rw [HNN.out]; rfl, (fun h => by rw [HNN.out] at h; cases h), hbx⟩
              · have hdn : decide ((1073741824 : Int) < t) = false := by simpa using hbig
                clear hbig
                go_wp2
                go_roundw
                case rel =>
                  refine ⟨j + 1, by go_num, by omega, hbj, ?_⟩
                  intro m hm
                  by_cases e : m = j
                  · subst e; rw [← HT.out]; exact hdn
                  · exact HJ.out m (by omega)
                case measure => simp [intOf]; omega
            · go_wp2
              go_roundw
              case rel =>
                refine ⟨k + 1, by go_num, by omega, HBO.out.trans (hbj.mono HBO.out.size), ?_⟩
                intro m hm
                by_cases e : m = k
                · subst e; rw [HYS.out]; exact leMost_upto (fun m hm => HJ.out m (by omega))
                · exact HE.out m (by omega)
              case measure => simp [intOf]; omega
        · have HT : Hid (nextB g c = true) := by
            show nextB g c = true
            have e0 : leMost c.block = true := HE.out 0 (by omega)
            have e1 : leMost c.edge = true := HE.out 1 (by omega)
            rw [HN.out, e0, e1]; rfl
          go_wp2
          go_ret2
          refine ⟨u6, by rw [HT.out]; rfl, ?_, HB3.out.trans (hb.mono HB3.out.size)⟩
          intro _
          exact (HO3.out.old hb).sls (HSL.out.old (HB3.out.trans (hb.mono HB3.out.size))) (by simp [nexts]; omega)
end Go.Proofs.Ytfoimgkgkjhbeaa
