/- The walk of the reference's Shortest. -/
import Derived.Test.YtfoimgkgkjhbeaaW8
namespace Go.Proofs.Ytfoimgkgkjhbeaa
open Go.RowKit

def rShortest (ls : List (List Int)) (cost : List Int) (path : List Int) : Int × List Int × Bool := if cost[0]?.getD 0 < 0 then (0, [], false) else (cost[0]?.getD 0, path, true)

theorem OwnL.ints' {w : World} {base : Nat} {A : Option Addr} {n c : Nat} {xs : List Int} (h : OwnL encInt w base (.slice A n c) xs) : IntsAt w A xs ∧ xs.length ≤ 9223372036854775807 := h.ints
theorem OwnL.len {w : World} {base : Nat} {A : Option Addr} {c : Nat} {xs : List Int} {x : Int} (h : OwnL encInt w base (.slice A (xs.length + 1) c) (xs ++ [x])) : OwnL encInt w base (.slice A (xs.length + 1) c) (xs ++ [x]) := h
set_option maxRecDepth 100000 in
set_option maxHeartbeats 1000000 in
theorem rshortest_none (w : World) (v bv ev : Value) (ls : List (List Int)) (block edge : List Int) (hv : RowsV w v ls) (hbv : IntsV w bv block) (hev : IntsV w ev edge) (J : List Int × List Int → Prop) (hok : EndsOk ls block edge J)
    (f : Nat) (out : List Int × List Int) (hf : endsN block edge (edgesL 0 ls) f (endsC0 ls block ls.length, endsS0 ls ls.length) = some out) (h0 : 0 < ls.length) (hneg : out.1[0]?.getD 0 < 0) :
    Calls Try.prog 12 #[v, bv, ev] w fun e w' => e = .returned (.tuple #[.int .i64 0, .slice none 0 0, .bool false]) ∧ Below w.heap.size w w' := by
  have HE := Lib.hid (ends_any w v bv ev ls block edge hv hbv hev J hok f out hf)
  have OK := Lib.hid hok; clear hok
  obtain ⟨A, ca, rfl, hA, hl⟩ := hv
  obtain ⟨B, cb, rfl, hB, hlb⟩ := hbv
  obtain ⟨C, cc, rfl, hC, hlc⟩ := hev
  have d0 : decide (out.1[0]?.getD 0 < 0) = true := by simpa using hneg
  obtain ⟨c0, hc0⟩ : ∃ c, c = out.1[0]?.getD 0 := ⟨_, rfl⟩
  rw [← hc0] at d0
  have HC0 := Lib.hid hc0; clear hc0
  clear hneg hf
  go_enter Try.func12, Try.ntmps12
  go_wp2_with (go_at_call 23; refine HE.out.mono ?_; rintro e w1 ⟨g1, g2, rfl, hr, hJ⟩; have hx0 := (hr.r1.cell 0 (by rw [(OK.out.len _ hJ).1]; exact h0)).1; rw [← HC0.out] at hx0; have HB := Lib.hid hr.below; clear hr hJ)
  go_ret3
  exact ⟨rfl, HB.out⟩

set_option maxRecDepth 100000 in
set_option maxHeartbeats 1000000 in
theorem rshortest_some (w : World) (v bv ev : Value) (ls : List (List Int)) (block edge : List Int) (hv : RowsV w v ls) (hbv : IntsV w bv block) (hev : IntsV w ev edge) (J : List Int × List Int → Prop) (hok : EndsOk ls block edge J)
    (f : Nat) (out : List Int × List Int) (hf : endsN block edge (edgesL 0 ls) f (endsC0 ls block ls.length, endsS0 ls ls.length) = some out) (h0 : 0 < ls.length) (hpos : ¬ out.1[0]?.getD 0 < 0)
    (f2 : Nat) (path : List Int) (hf2 : rpathN ls block edge out.1 out.2 (edgesL 0 ls) f2 [0] 0 = some path) (hbf : f2 ≤ 1048576) :
    Calls Try.prog 12 #[v, bv, ev] w fun e w' => ∃ u, e = .returned (.tuple #[.int .i64 (out.1[0]?.getD 0), u, .bool true]) ∧ OwnL encInt w' w.heap.size u path ∧ Below w.heap.size w w' := by
  have HE := Lib.hid (ends_any w v bv ev ls block edge hv hbv hev J hok f out hf)
  have OK := Lib.hid hok; clear hok
  have HV := Lib.hid hv
  obtain ⟨A, ca, rfl, hA, hl⟩ := hv
  obtain ⟨B, cb, rfl, hB, hlb⟩ := hbv
  obtain ⟨C, cc, rfl, hC, hlc⟩ := hev
  have d0 : decide (out.1[0]?.getD 0 < 0) = false := by simpa using hpos
  obtain ⟨c0, hc0⟩ : ∃ c, c = out.1[0]?.getD 0 := ⟨_, rfl⟩
  rw [← hc0] at d0 ⊢
  have HC0 := Lib.hid hc0; clear hc0
  clear hpos hf
  go_enter Try.func12, Try.ntmps12
  go_wp2_with (first
    | (go_at_call 23; refine HE.out.mono ?_; rintro e w1 ⟨g1, g2, rfl, hr, hJ⟩; have hx0 := (hr.r1.cell 0 (by rw [(OK.out.len _ hJ).1]; exact h0)).1; rw [← HC0.out] at hx0; have HR := Lib.hid hr; have HJ := Lib.hid hJ; clear hr hJ)
    | (go_at_call 24; refine (redges_any _ _ ls (by obtain ⟨A', ca', e1, e2, e3⟩ := HV.out; cases e1; exact ⟨_, _, rfl, e2.old HR.out.below, e3⟩) OK.out.hE).mono ?_; rintro e w2 ⟨u, rfl, hown, hb2⟩; obtain ⟨D, cd, rfl, hD⟩ := hown.pairs; have HR2 := Lib.hid (HR.out.old hb2); have HOWN := Lib.hid hown; clear hown hD hb2))
  have hn : ls.length ≤ 1152921504606846976 := OK.out.hn
  obtain ⟨es, hes⟩ : ∃ es, es = edgesL 0 ls := ⟨_, rfl⟩
  rw [← hes] at HOWN hf2 ⊢
  have HES := Lib.hid hes; clear hes hx0
  have hlE : es.length ≤ 1048576 := by rw [HES.out]; exact OK.out.hE
  have hb02 : Below w.heap.size w w2 := HR2.out.below
  have HB02 := Lib.hid hb02; clear hb02
  have hst : OwnL encInt (w2.alloc (.cells #[.int .i64 0] 3)) w2.heap.size (.slice (some ⟨w2.heap.size, 0, none⟩) 1 1) [0] := by
    have := OwnL.lit1 encInt w2 w2.heap.size (0 : Int) (Nat.le_refl _)
    exact this
  go_loopg [12, 13] f2 (fun fu pv av wx => ∃ (p : List Int) (a : Int), av = .int .i64 a ∧ OwnL encInt wx w2.heap.size pv p ∧ Below w2.heap.size w2 wx ∧ rpathN ls block edge out.1 out.2 es fu p a = some path ∧ p.length + fu ≤ 1048577)
  case atStart => exact ⟨[0], 0, rfl, hst, (Below.refl _ _).alloc (Nat.le_refl _) _, hf2, by simp; omega⟩
  case round =>
    obtain ⟨p, a, rfl, hp, hbx, hpf, hpl⟩ := hrel
    clear hst
    cases gk with
    | zero => exact absurd hpf (by simp [rpathN])
    | succ fu =>
      rw [rpathN] at hpf
      by_cases hr : a < 0 ∨ (ls.length : Int) ≤ a
      · rw [if_pos hr] at hpf; cases hpf
      rw [if_neg hr] at hpf
      obtain ⟨an, rfl⟩ := Int.eq_ofNat_of_zero_le (show 0 ≤ a by omega)
      rw [Int.toNat_natCast] at hpf
      have han : an < ls.length := by omega
      clear hr
      obtain ⟨b3, o3, nA, nc, e3, h3, h4, h5⟩ := hA an han
      have hbw := HB02.out.trans (hbx.mono HB02.out.size)
      have a3 := cell_old hbw h3
      have HBW := Lib.hid hbw; clear hbw h3 h4
      have HBX := Lib.hid hbx; clear hbx
      by_cases hnx : (ls[an]?.getD []).length = 0
      · rw [if_pos hnx] at hpf
        rw [hnx] at a3
        have hpp : p = path := by simpa using hpf
        subst hpp
        have hp0 : 0 < ls.length := by omega
        obtain ⟨k0, _⟩ := (HR2.out.old HBX.out).r1.cell 0 (by rw [(OK.out.len _ HJ.out).1]; exact h0)
        rw [← HC0.out] at k0
        rw [e3]
        have HP := Lib.hid hp; clear hp
        go_wp2
        go_ret3
        exact ⟨_, rfl, HP.out.base HB02.out.size, HBW.out⟩
      · rw [if_neg hnx] at hpf
        obtain ⟨xl, hxl⟩ : ∃ xl, xl = (ls[an]?.getD []).length := ⟨_, rfl⟩
        rw [← hxl] at hnx a3
        have hz : decide ((0 : Int) < (xl : Int)) = true := by simp; omega
        have hz2 : 0 < xl := by omega
        obtain ⟨bst, hbst⟩ : ∃ bst, bst = bestB block edge out.1 out.2 (an : Int) es 0 (-1) := ⟨_, rfl⟩
        rw [← hbst] at hpf
        have HBST := Lib.hid hbst; clear hbst
        have HPF := Lib.hid hpf; clear hpf
        have HP := Lib.hid hp; clear hp
        have HXL := Lib.hid hxl; clear hxl hnx
        obtain ⟨wo, hwo⟩ : ∃ wo : World, wo = wr := ⟨_, rfl⟩
        rw [← hwo] at HP HBW HBX a3 ⊢
        have a3' := a3
        clear hwo
        subst e3
        go_wp2
        clear a3 a3'
        go_loopw [14, 15] (fun bv i wi => ∃ (k : Nat) (bb : Int), i = .int .i64 k ∧ bv = .int .i64 bb ∧ k ≤ es.length ∧ Below wo.heap.size wo wi ∧ bestB block edge out.1 out.2 (an : Int) (es.drop k) k bb = bst) (fun _ i _ => es.length - (intOf i).toNat)
        case atStart => exact ⟨0, -1, rfl, rfl, Nat.zero_le _, Below.refl _ _, HBST.out.symm⟩
        case round =>
          obtain ⟨k, bb, rfl, rfl, hk, hbi, hbb⟩ := hrel
          have hb2i := HBX.out.trans (hbi.mono HBX.out.size)
          have hbwi := HBW.out.trans (hbi.mono HBW.out.size)
          by_cases hlt : k < es.length
          · obtain ⟨D', cd', hDe, hD⟩ := HOWN.out.pairs
            cases hDe
            obtain ⟨db, e1, d1, d2⟩ := hD k hlt
            obtain ⟨x, b, hab, hx, hb⟩ := OK.out.pair k (by rw [← HES.out]; exact hlt)
            rw [← HES.out] at hab
            rw [hab] at d1 d2
            have m1 := cell_old hb2i d1
            have m2 := cell_old hb2i d2
            clear d1 d2
            obtain ⟨b5, o5, e5, k5⟩ := hC k (by rw [OK.out.he, ← HES.out]; exact hlt)
            obtain ⟨b6, o6, e6, k6⟩ := hB an (by rw [OK.out.hb]; exact han)
            have a5 := cell_old hbwi k5
            have a6 := cell_old hbwi k6
            have hRi := HR2.out.old hb2i
            obtain ⟨hl1, hl2⟩ := OK.out.len out HJ.out
            have s1 := (OK.out.val out HJ.out b).1
            have s2 := (OK.out.val out HJ.out b).2
            have s3 := (OK.out.small an).1
            have s4 := (OK.out.small k).2
            have p1 := (hRi.r1.cell b (by rw [hl1]; exact hb)).1
            have p2 := (hRi.r1.cell an (by rw [hl1]; exact han)).1
            have p3 := (hRi.r2.cell b (by rw [hl2]; exact hb)).1
            have p4 := (hRi.r2.cell an (by rw [hl2]; exact han)).1
            rw [drop_at es (0, 0) k hlt, bestB, hab, candB_eq] at hbb
            obtain ⟨ce, hce⟩ : ∃ x, x = edge[k]?.getD 0 := ⟨_, rfl⟩
            obtain ⟨ba, hba⟩ : ∃ x, x = block[an]?.getD 0 := ⟨_, rfl⟩
            obtain ⟨vb, hvb⟩ : ∃ x, x = out.1[b]?.getD 0 := ⟨_, rfl⟩
            obtain ⟨va, hva⟩ : ∃ x, x = out.1[an]?.getD 0 := ⟨_, rfl⟩
            obtain ⟨sb, hsb⟩ : ∃ x, x = out.2[b]?.getD 0 := ⟨_, rfl⟩
            obtain ⟨sa, hsa⟩ : ∃ x, x = out.2[an]?.getD 0 := ⟨_, rfl⟩
            rw [← hce] at a5 hbb s4
            rw [← hba] at a6 hbb s3
            rw [← hvb] at p1 hbb s1
            rw [← hva] at p2 hbb
            rw [← hsb] at p3 hbb s2
            rw [← hsa] at p4 hbb
            unfold Small at s1 s2 s3
            have HBB := Lib.hid hbb; clear hbb
            have hkC : k < edge.length := by rw [OK.out.he, ← HES.out]; exact hlt
            have haB : an < block.length := by rw [OK.out.hb]; exact han
            have HBI := Lib.hid hbi
            clear hab hce hba hvb hva hsb hsa hl1 hl2 hRi hD k5 k6 hb2i hbwi hbi
            cases e1
            rw [e5, e6]
            clear e5 e6
            by_cases c1 : (x : Int) = (an : Int)
            case neg =>
              have f1 : ((x : Int) != (an : Int)) = true := by simpa using c1
              have C1 := Lib.hid c1; clear c1
              go_wp2
              go_roundw
              case rel => exact ⟨k + 1, bb, by go_num, rfl, by omega, HBI.out, by rw [← HBB.out, if_pos (Or.inl C1.out)]⟩
              case measure => simp [intOf]; omega
            have f1 : ((x : Int) != (an : Int)) = false := by simpa using c1
            have C1 := Lib.hid c1; clear c1
            by_cases c2 : ce < 0
            · have f2 : decide (ce < 0) = true := by simpa using c2
              have C2 := Lib.hid c2; clear c2
              go_wp2
              go_roundw
              case rel => exact ⟨k + 1, bb, by go_num, rfl, by omega, HBI.out, by rw [← HBB.out, if_pos (Or.inr (Or.inl C2.out))]⟩
              case measure => simp [intOf]; omega
            have f2 : decide (ce < 0) = false := by simpa using c2
            by_cases c3 : vb < 0
            · have f3 : decide (vb < 0) = true := by simpa using c3
              have C3 := Lib.hid c3; clear c3
              go_wp2
              go_roundw
              case rel => exact ⟨k + 1, bb, by go_num, rfl, by omega, HBI.out, by rw [← HBB.out, if_pos (Or.inr (Or.inr C3.out))]⟩
              case measure => simp [intOf]; omega
            have f3 : decide (vb < 0) = false := by simpa using c3
            have hb2 := HBB.out
            rw [if_neg (by rintro (h | h | h) <;> first | exact h C1.out | exact c2 h | exact c3 h)] at hb2
            have HBB2 := Lib.hid hb2; clear hb2
            have y1 : IntKind.i64.wrap (ba + ce) = ba + ce := IntWalk.i64_in _ (by omega)
            have y2 : IntKind.i64.wrap (ba + ce + vb) = ba + ce + vb := IntWalk.i64_in _ (by omega)
            have y3 : IntKind.i64.wrap (sb + 1) = sb + 1 := IntWalk.i64_in _ (by omega)
            by_cases c4 : ba + ce + vb = va
            case neg =>
              have f4 : (ba + ce + vb == va) = false := by simpa using c4
              have C4 := Lib.hid c4; clear c4 c2 c3
              go_wp2
              go_quiet (fail)
              go_wp2
              go_roundw
              case rel => exact ⟨k + 1, bb, by go_num, rfl, by omega, drewN_below HBI.out _, by rw [← HBB2.out, if_neg (fun h => C4.out h.1)]⟩
              case measure => simp [intOf]; omega
            have f4 : (ba + ce + vb == va) = true := by simpa using c4
            have C4 := Lib.hid c4; clear c4
            by_cases c5 : sb + 1 = sa
            case neg =>
              have f5 : (sb + 1 == sa) = false := by simpa using c5
              have C5 := Lib.hid c5; clear c5 c2 c3
              go_wp2
              go_quiet (fail)
              go_wp2
              go_roundw
              case rel => exact ⟨k + 1, bb, by go_num, rfl, by omega, drewN_below HBI.out _, by rw [← HBB2.out, if_neg (fun h => C5.out h.2.1)]⟩
              case measure => simp [intOf]; omega
            have f5 : (sb + 1 == sa) = true := by simpa using c5
            have C5 := Lib.hid c5; clear c5
            by_cases c6 : bb < 0
            · have f6 : decide (bb < 0) = true := by simpa using c6
              have C6 := Lib.hid c6; clear c6 c2 c3
              go_wp2
              go_quiet (fail)
              go_wp2
              go_roundw
              case rel => exact ⟨k + 1, (b : Int), by go_num, rfl, by omega, drewN_below HBI.out _, by rw [← HBB2.out, if_pos ⟨C4.out, C5.out, Or.inl C6.out⟩]⟩
              case measure => simp [intOf]; omega
            have f6 : decide (bb < 0) = false := by simpa using c6
            by_cases c7 : (b : Int) < bb
            · have f7 : decide ((b : Int) < bb) = true := by simpa using c7
              have C7 := Lib.hid c7; clear c6 c2 c3 c7
              go_wp2
              go_quiet (fail)
              go_wp2
              go_roundw
              case rel => exact ⟨k + 1, (b : Int), by go_num, rfl, by omega, drewN_below HBI.out _, by rw [← HBB2.out, if_pos ⟨C4.out, C5.out, Or.inr C7.out⟩]⟩
              case measure => simp [intOf]; omega
            · have f7 : decide ((b : Int) < bb) = false := by simpa using c7
              have C6 := Lib.hid c6; have C7 := Lib.hid c7; clear c6 c2 c3 c7
              go_wp2
              go_quiet (fail)
              go_wp2
              go_roundw
              case rel => exact ⟨k + 1, bb, by go_num, rfl, by omega, drewN_below HBI.out _, by rw [← HBB2.out, if_neg (fun h => by have g6 := C6.out; have g7 := C7.out; have g8 := h.2.2; omega)]⟩
              case measure => simp [intOf]; omega
          · rw [List.drop_of_length_le (by omega), bestB] at hbb
            subst hbb
            have hpo := HP.out.old hbi
            have hb2i := HBX.out.trans (hbi.mono HBX.out.size)
            have HPO := Lib.hid hpo; clear hpo
            have hp9 : p.length ≤ 1048576 := by omega
            clear hbi
            go_wp2_with (at_builtin; refine wpl_app1 encInt rfl _ _ rfl rfl HPO.out bb rfl rfl (by show _ * 8 ≤ _; omega) (by unfold maxLen; omega) (Nat.le_refl _) hb2i.size hb2i ?_; intro v' w3 hown1 hb3 _ _; obtain ⟨A', c', hv'⟩ := hown1.shape; rw [List.length_append, List.length_singleton] at hv'; subst hv'; obtain ⟨b9, o9, e9, l9⟩ := hown1.ints'.1 p.length (by simp); rw [show ((p ++ [bb])[p.length]?.getD 0) = bb by simp] at l9; cases e9; have HO1 := Lib.hid hown1; have HB3 := Lib.hid hb3; clear hown1 hb3)
            go_roundg fu
            case measure => omega
            case rel => exact ⟨p ++ [bb], bb, rfl, by have := HO1.out; exact this.len, HB3.out, HPF.out, by simp; omega⟩
end Go.Proofs.Ytfoimgkgkjhbeaa
