/- The walk of the reference's Ends. -/
import Derived.Test.YtfoimgkgkjhbeaaB4
import Derived.Test.YtfoimgkgkjhbeaaW4
import Derived.Deep.DeepCutAuto
import Derived.Deep.LoopGhost
import Derived.BigRegion
namespace Go.Proofs.Ytfoimgkgkjhbeaa
open Go.RowKit

theorem Try.info3 : (Try.prog.info? 3).map (fun i => (i.zero, i.size, i.bytes)) = some (some (.int .i64 0), 1, 8) := by kernel_rfl

/-- What Ends is called with. -/
structure EndsOk (ls : List (List Int)) (block edge : List Int) (J : List Int × List Int → Prop) : Prop where
  hb : block.length = ls.length
  he : edge.length = (edgesL 0 ls).length
  hn : ls.length ≤ 1152921504606846976
  hE : (edgesL 0 ls).length ≤ 1048576
  pair : ∀ i : Nat, i < (edgesL 0 ls).length → ∃ a b : Nat, (edgesL 0 ls)[i]?.getD (0, 0) = ((a : Int), (b : Int)) ∧ a < ls.length ∧ b < ls.length
  small : ∀ i : Nat, Small (block[i]?.getD 0) ∧ edge[i]?.getD 0 ≤ 1152921504606846976
  start : J (endsC0 ls block ls.length, endsS0 ls ls.length)
  len : ∀ st, J st → st.1.length = ls.length ∧ st.2.length = ls.length
  val : ∀ st, J st → ∀ i : Nat, Small (st.1[i]?.getD 0) ∧ Small (st.2[i]?.getD 0)
  step : ∀ st ch (i : Nat), J st → i < (edgesL 0 ls).length → J ((endStep block ((edgesL 0 ls)[i]?.getD (0, 0)) (edge[i]?.getD 0) (st.1, st.2, ch)).1, (endStep block ((edgesL 0 ls)[i]?.getD (0, 0)) (edge[i]?.getD 0) (st.1, st.2, ch)).2.1)

structure ERel (w : World) (g1 g2 : Nat) (c s : List Int) (wr : World) : Prop where
  below : Below w.heap.size w wr
  r1 : IntRow wr g1 c
  r2 : IntRow wr g2 s
  ne : g1 ≠ g2
  b1 : w.heap.size ≤ g1
  b2 : w.heap.size ≤ g2
theorem ERel.old {w : World} {g1 g2 : Nat} {c s : List Int} {wr w1 : World} (h : ERel w g1 g2 c s wr) (hb : Below wr.heap.size wr w1) : ERel w g1 g2 c s w1 :=
  ⟨h.below.trans (hb.mono h.below.size), h.r1.old hb, h.r2.old hb, h.ne, h.b1, h.b2⟩

theorem ERel.made (w : World) (n : Nat) : ERel w w.heap.size (w.heap.size + 1) (List.replicate n 0) (List.replicate n 0) (((w.alloc (.cells (madeCells #[.int .i64 0] n) 3)).alloc (.cells (madeCells #[.int .i64 0] n) 3)).drew) := by
  have hb : Below w.heap.size w (((w.alloc (.cells (madeCells #[.int .i64 0] n) 3)).alloc (.cells (madeCells #[.int .i64 0] n) 3)).drew) := (((Below.refl _ _).alloc (Nat.le_refl _) _).alloc (by simp) _).drew
  have h1 : IntRow (w.alloc (.cells (madeCells #[.int .i64 0] n) 3)) w.heap.size (List.replicate n 0) := IntRow.made n
  have h2 : IntRow ((w.alloc (.cells (madeCells #[.int .i64 0] n) 3)).alloc (.cells (madeCells #[.int .i64 0] n) 3)) (w.heap.size + 1) (List.replicate n 0) := by
    have := IntRow.made (w := w.alloc (.cells (madeCells #[.int .i64 0] n) 3)) n
    simpa using this
  exact ⟨hb, h1.old (((Below.refl _ _).alloc (Nat.le_refl _) _).drew), h2, by omega, Nat.le_refl _, Nat.le_succ _⟩
theorem ERel.swap {w : World} {g1 g2 : Nat} {c s : List Int} {wr : World} (h : ERel w g1 g2 c s wr) : ERel w g2 g1 s c wr := ⟨h.below, h.r2, h.r1, h.ne.symm, h.b2, h.b1⟩
theorem ERel.put1 {w : World} {g1 g2 : Nat} {c s : List Int} {wr : World} (h : ERel w g1 g2 c s wr) (i : Nat) (x : Int) : ERel w g1 g2 (c.set i x) s (wr.setCell ⟨g1, i, none⟩ (.int .i64 x)) :=
  ⟨h.below.setCell h.b1 _, h.r1.put i x, h.r2.far h.ne.symm _, h.ne, h.b1, h.b2⟩
theorem ERel.put2 {w : World} {g1 g2 : Nat} {c s : List Int} {wr : World} (h : ERel w g1 g2 c s wr) (i : Nat) (x : Int) : ERel w g1 g2 c (s.set i x) (wr.setCell ⟨g2, i, none⟩ (.int .i64 x)) :=
  (h.swap.put1 i x).swap

set_option maxRecDepth 100000 in
set_option maxHeartbeats 1000000 in
theorem ends_any (w : World) (v bv ev : Value) (ls : List (List Int)) (block edge : List Int) (hv : RowsV w v ls) (hbv : IntsV w bv block) (hev : IntsV w ev edge) (J : List Int × List Int → Prop) (hok : EndsOk ls block edge J)
    (f : Nat) (out : List Int × List Int) (hf : endsN block edge (edgesL 0 ls) f (endsC0 ls block ls.length, endsS0 ls ls.length) = some out) :
    Calls Try.prog 23 #[v, bv, ev] w fun e w' => ∃ g1 g2, e = .returned (.tuple #[.slice (some ⟨g1, 0, none⟩) ls.length ls.length, .slice (some ⟨g2, 0, none⟩) ls.length ls.length]) ∧ ERel w g1 g2 out.1 out.2 w' ∧ J out := by
  obtain ⟨A, ca, rfl, hA, hl⟩ := hv
  obtain ⟨B, cb, rfl, hB, hlb⟩ := hbv
  obtain ⟨C, cc, rfl, hC, hlc⟩ := hev
  have hn := hok.hn
  have OK := Lib.hid hok; clear hok
  have hmk := run_make_row' (P := Try.prog) 26 3 (.int .i64 0) 8 Try.underlying26 Try.info3 rfl .i64 .i64 ls.length (by omega) (by omega)
  go_enter Try.func23, Try.ntmps23
  go_upto_region 2 with fail
  go_cut [9, 10] (fun x y wx => ∃ g1 g2, x = .slice (some ⟨g1, 0, none⟩) ls.length ls.length ∧ y = .slice (some ⟨g2, 0, none⟩) ls.length ls.length ∧ ERel w g1 g2 (List.replicate ls.length 0) (List.replicate ls.length 0) wx)
  case first =>
    go_region
    all_goals
      go_wp2
      go_meet
      first
        | exact ⟨_, _, rfl, rfl, ERel.made w ls.length⟩
        | exact ⟨_, _, rfl, rfl, (ERel.made w ls.length).swap⟩
  case rest =>
    obtain ⟨g1, g2, rfl, rfl, hrel⟩ := hcut
    have HREL := Lib.hid hrel; clear hrel
    go_wp2
    go_loopw [11] (fun i wr => ∃ k : Nat, i = .int .i64 k ∧ k ≤ ls.length ∧ ERel w g1 g2 (endsC0 ls block k) (endsS0 ls k) wr) (fun i _ => ls.length - (intOf i).toNat)
    case atStart => exact ⟨0, rfl, Nat.zero_le _, by rw [endsC0_zero, endsS0_zero]; exact HREL.out⟩
    case round =>
      obtain ⟨k, rfl, hk, hr⟩ := hrel
      clear HREL
      by_cases hlt : k < ls.length
      · obtain ⟨b, off, nA, nc, rfl, h3, h4, h5⟩ := hA k hlt
        obtain ⟨x, hx⟩ : ∃ x, x = ls[k]?.getD [] := ⟨_, rfl⟩
        rw [← hx] at h3 h4 h5
        obtain ⟨b5, o5, e5, k5⟩ := hB k (by rw [OK.out.hb]; exact hlt)
        have a3 := cell_old hr.below h3
        have a5 := cell_old hr.below k5
        obtain ⟨c1, f1⟩ := hr.r1.cell k (by rw [endsC0_len]; exact hlt)
        obtain ⟨c2, f2⟩ := hr.r2.cell k (by rw [endsS0_len]; exact hlt)
        obtain ⟨cost, hcost⟩ : ∃ c, c = block[k]?.getD 0 := ⟨_, rfl⟩
        rw [← hcost] at a5
        obtain ⟨v1, hv1⟩ : ∃ v, v = Value.int .i64 ((endsC0 ls block k)[k]?.getD 0) := ⟨_, rfl⟩
        rw [← hv1] at c1
        obtain ⟨v2, hv2⟩ : ∃ v, v = Value.int .i64 ((endsS0 ls k)[k]?.getD 0) := ⟨_, rfl⟩
        rw [← hv2] at c2
        have lb := World.block_lt_of_cell? _ _ h3
        have lb5 := World.block_lt_of_cell? _ _ k5
        simp only at lb lb5
        have n1 : b ≠ g1 := by have := hr.b1; omega
        have n2 : b5 ≠ g1 := by have := hr.b1; omega
        have n3 : g1 ≠ g2 := hr.ne
        have n4 : g2 ≠ g1 := hr.ne.symm
        have hkb : k < block.length := by rw [OK.out.hb]; exact hlt
        have HX := Lib.hid hx; clear hx
        have HCO := Lib.hid hcost; clear hcost
        have HR := Lib.hid hr; clear hr
        clear hv1 hv2 h3 k5
        rw [e5]
        by_cases hnx : x.length = 0
        · have hz : ((x.length : Int) == 0) = true := by rw [hnx]; rfl
          have HNX := Lib.hid hnx; clear hnx
          go_wp2
          go_roundw
          case rel =>
            have h2 := ((HR.out.put1 k (-1)).put1 k cost).put2 k 1
            rw [HCO.out, endsC0_empty ls block k hlt (by rw [← HX.out]; exact HNX.out), endsS0_empty ls k hlt (by rw [← HX.out]; exact HNX.out)] at h2
            rw [← HCO.out] at h2
            exact ⟨k + 1, by go_num, by omega, h2⟩
          case measure => simp [intOf]; omega
        · have hz : ((x.length : Int) == 0) = false := by simpa using hnx
          have HNX := Lib.hid hnx; clear hnx
          go_wp2
          go_roundw
          case rel =>
            have h2 := HR.out.put1 k (-1)
            rw [endsC0_full ls block k hlt (by rw [← HX.out]; exact HNX.out), endsS0_full ls k hlt (by rw [← HX.out]; exact HNX.out)] at h2
            exact ⟨k + 1, by go_num, by omega, h2⟩
          case measure => simp [intOf]; omega
      · have hkk : k = ls.length := by omega
        have hr' : ERel w g1 g2 (endsC0 ls block ls.length) (endsS0 ls ls.length) wr := by rw [← hkk]; exact hr
        have HR := Lib.hid hr'; clear hr' hr hkk
        have hrv : RowsV wr (.slice A ls.length ca) ls := ⟨A, ca, rfl, hA.old HR.out.below, hl⟩
        have hed := redges_any wr _ ls hrv OK.out.hE
        obtain ⟨Bs, hBs⟩ : ∃ Bs, Bs = wr.heap.size := ⟨_, rfl⟩
        have hB1 : g1 < Bs := by rw [hBs]; exact HR.out.r1.lt
        have hB2 : g2 < Bs := by rw [hBs]; exact HR.out.r2.lt
        rw [← hBs] at hed
        have HED := Lib.hid hed; clear hed hrv
        have HBs := Lib.hid hBs; clear hBs
        go_wp2_with (go_at_call 24; refine HED.out.mono ?_; rintro e w1 ⟨u, rfl, hown, hb1⟩; obtain ⟨D, cd, rfl, hD⟩ := hown.pairs)
        have HR1 := Lib.hid (HR.out.old (by rw [← HBs.out]; exact hb1))
        have HOWN := Lib.hid hown
        clear hown hb1 hD
        obtain ⟨es, hes⟩ : ∃ es, es = edgesL 0 ls := ⟨_, rfl⟩
        rw [← hes] at HOWN hf ⊢
        have HES := Lib.hid hes; clear hes
        go_loopg [13] f (fun fu ch wx => ∃ (c : Bool) (st : List Int × List Int), ch = .bool c ∧ ERel w g1 g2 st.1 st.2 wx ∧ OwnL encPair wx Bs (.slice D es.length cd) es ∧ J st ∧ (if c then endsN block edge es fu st = some out else st = out))
        case atStart => exact ⟨true, _, rfl, HR1.out, HOWN.out, OK.out.start, hf⟩
        case round =>
          obtain ⟨c, st, rfl, hr, hown, hJ, hcf⟩ := hrel
          clear HR1 HOWN
          cases c with
          | false =>
            simp only [Bool.false_eq_true, if_false] at hcf
            subst hcf
            have HR2 := Lib.hid hr; clear hr
            go_wp2
            go_ret2
            exact ⟨g1, g2, rfl, HR2.out, hJ⟩
          | true =>
            simp only [if_true] at hcf
            cases gk with
            | zero => exact absurd hcf (by simp [endsN])
            | succ fu =>
              rw [endsN] at hcf
              obtain ⟨fin, hfin⟩ : ∃ fin, fin = endSweep block edge es 0 (st.1, st.2, false) := ⟨_, rfl⟩
              rw [← hfin] at hcf
              have HCF := Lib.hid hcf; clear hcf
              have HFIN := Lib.hid hfin; clear hfin
              have HR2 := Lib.hid hr; clear hr
              have HOWN := Lib.hid hown; clear hown
              have hlE : es.length ≤ 1048576 := by rw [HES.out]; exact OK.out.hE
              go_wp2
              go_loopw [14, 13] (fun i ch wi => ∃ (k : Nat) (c : Bool) (st : List Int × List Int), i = .int .i64 k ∧ ch = .bool c ∧ k ≤ es.length ∧ ERel w g1 g2 st.1 st.2 wi ∧ OwnL encPair wi Bs (.slice D es.length cd) es ∧ J st ∧ endSweep block edge (es.drop k) k (st.1, st.2, c) = fin) (fun i _ _ => es.length - (intOf i).toNat)
              case atStart => exact ⟨0, false, st, rfl, rfl, Nat.zero_le _, HR2.out, HOWN.out, hJ, HFIN.out.symm⟩
              case round =>
                obtain ⟨k, c, st, rfl, rfl, hk, hr, hown, hJ, hsw⟩ := hrel
                clear HR2 HOWN
                by_cases hlt : k < es.length
                · obtain ⟨D', cd', hDe, hD⟩ := hown.pairs
                  cases hDe
                  obtain ⟨db, e1, d1, d2⟩ := hD k hlt
                  obtain ⟨a, b, hab, ha, hb⟩ := OK.out.pair k (by rw [← HES.out]; exact hlt)
                  have hstep := OK.out.step st c k hJ (by rw [← HES.out]; exact hlt)
                  rw [← HES.out] at hab hstep
                  rw [hab] at d1 d2 hstep
                  obtain ⟨b5, o5, e5, k5⟩ := hC k (by rw [OK.out.he, ← HES.out]; exact hlt)
                  obtain ⟨b6, o6, e6, k6⟩ := hB a (by rw [OK.out.hb]; exact ha)
                  have a5 := cell_old hr.below k5
                  have a6 := cell_old hr.below k6
                  clear k5 k6
                  obtain ⟨hl1, hl2⟩ := OK.out.len st hJ
                  obtain ⟨q1, q2⟩ := OK.out.val st hJ b
                  obtain ⟨q3, q4⟩ := OK.out.small a
                  have q5 := (OK.out.small k).2
                  obtain ⟨m1, z1⟩ := hr.r1.cell b (by rw [hl1]; exact hb)
                  obtain ⟨m2, z2⟩ := hr.r1.cell a (by rw [hl1]; exact ha)
                  obtain ⟨m3, z3⟩ := hr.r2.cell b (by rw [hl2]; exact hb)
                  obtain ⟨m4, z4⟩ := hr.r2.cell a (by rw [hl2]; exact ha)
                  rw [drop_at es (0, 0) k hlt, endSweep, hab, endStep_eq] at hsw
                  rw [endStep_eq] at hstep
                  obtain ⟨ce, hce⟩ : ∃ x, x = edge[k]?.getD 0 := ⟨_, rfl⟩
                  obtain ⟨ba, hba⟩ : ∃ x, x = block[a]?.getD 0 := ⟨_, rfl⟩
                  obtain ⟨vb, hvb⟩ : ∃ x, x = st.1[b]?.getD 0 := ⟨_, rfl⟩
                  obtain ⟨va, hva⟩ : ∃ x, x = st.1[a]?.getD 0 := ⟨_, rfl⟩
                  obtain ⟨sb, hsb⟩ : ∃ x, x = st.2[b]?.getD 0 := ⟨_, rfl⟩
                  obtain ⟨sa, hsa⟩ : ∃ x, x = st.2[a]?.getD 0 := ⟨_, rfl⟩
                  rw [← hce] at a5 hsw hstep q5
                  rw [← hba] at a6 hsw hstep q3
                  rw [← hvb] at m1 hsw hstep q1
                  rw [← hva] at m2 hsw hstep
                  rw [← hsb] at m3 hsw hstep q2
                  rw [← hsa] at m4 hsw hstep
                  have HSW := Lib.hid hsw; clear hsw
                  have HST := Lib.hid hstep; clear hstep
                  have HR2 := Lib.hid hr
                  have HOWN := Lib.hid hown
                  have n3 : g1 ≠ g2 := hr.ne
                  have n4 : g2 ≠ g1 := hr.ne.symm
                  clear hr hown hD hab hce hba hvb hva hsb hsa hl1 hl2 q4
                  unfold Small at q1 q2 q3
                  have hkC : k < edge.length := by rw [OK.out.he, ← HES.out]; exact hlt
                  have haB : a < block.length := by rw [OK.out.hb]; exact ha
                  cases e1
                  rw [e5, e6]
                  by_cases c1 : ce < 0
                  · have f1 : decide (ce < 0) = true := by simpa using c1
                    have C1 := Lib.hid c1; clear c1
                    go_wp2
                    go_quiet (fail)
                    go_wp2
                    go_roundw
                    case rel => exact ⟨k + 1, c, st, by go_num, rfl, by omega, HR2.out.old (drewN_below (Below.refl _ _) _), HOWN.out.old (drewN_below (Below.refl _ _) _), hJ, by rw [← HSW.out, if_pos (Or.inl C1.out)]⟩
                    case measure => simp [intOf]; omega
                  have f1 : decide (ce < 0) = false := by simpa using c1
                  by_cases c2 : vb < 0
                  · have f2 : decide (vb < 0) = true := by simpa using c2
                    have C2 := Lib.hid c2; clear c2
                    go_wp2
                    go_quiet (fail)
                    go_wp2
                    go_roundw
                    case rel => exact ⟨k + 1, c, st, by go_num, rfl, by omega, HR2.out.old (drewN_below (Below.refl _ _) _), HOWN.out.old (drewN_below (Below.refl _ _) _), hJ, by rw [← HSW.out, if_pos (Or.inr C2.out)]⟩
                    case measure => simp [intOf]; omega
                  have f2 : decide (vb < 0) = false := by simpa using c2
                  have hsw2 := HSW.out
                  have hst2 := HST.out
                  rw [if_neg (by rintro (h | h) <;> first | exact c1 h | exact c2 h)] at hsw2 hst2
                  have HSW2 := Lib.hid hsw2; clear hsw2
                  have HST2 := Lib.hid hst2; clear hst2
                  have y1 : IntKind.i64.wrap (ba + ce) = ba + ce := IntWalk.i64_in _ (by omega)
                  have y2 : IntKind.i64.wrap (ba + ce + vb) = ba + ce + vb := IntWalk.i64_in _ (by omega)
                  have y3 : IntKind.i64.wrap (sb + 1) = sb + 1 := IntWalk.i64_in _ (by omega)
                  have q6 : ba + ce + vb ≤ 4611686018427387904 := by omega
                  have q7 : -4611686018427387904 ≤ ba + ce + vb := by omega
                  by_cases c3 : lessF (ba + ce + vb) (sb + 1) va sa = true
                  · have C3 := Lib.hid c3; clear c3 c1 c2
                    go_wp2
                    go_quiet (fail)
                    go_wp2
                    go_quiet (fail)
                    go_wp2
                    go_quiet (((go_at_call 37; exact (less_same _ _ _ _ _).mono fun e w' h => ⟨h.1, _, h.2⟩)))
                    rw [C3.out]
                    go_wp2
                    go_roundw
                    case rel =>
                      refine ⟨k + 1, true, (st.1.set a (ba + ce + vb), st.2.set a (sb + 1)), by go_num, rfl, by omega, ((HR2.out.old (drewN_below (Below.refl _ _) _)).put1 a _).put2 a _, ?_, ?_, ?_⟩
                      · exact ownsRow_setCell_below (ownsRow_setCell_below (HOWN.out.old (drewN_below (Below.refl _ _) _)) hB1 _) hB2 _
                      · have := HST2.out
                        rw [if_pos C3.out] at this
                        exact this
                      · rw [← HSW2.out, if_pos C3.out]
                    case measure => simp [intOf]; omega
                  · have c3' : lessF (ba + ce + vb) (sb + 1) va sa = false := by simpa using c3
                    have C3 := Lib.hid c3'; clear c3 c1 c2 c3'
                    go_wp2
                    go_quiet (fail)
                    go_wp2
                    go_quiet (fail)
                    go_wp2
                    go_quiet (((go_at_call 37; exact (less_same _ _ _ _ _).mono fun e w' h => ⟨h.1, _, h.2⟩)))
                    rw [C3.out]
                    go_wp2
                    go_roundw
                    case rel => exact ⟨k + 1, c, st, by go_num, rfl, by omega, HR2.out.old (drewN_below (Below.refl _ _) _), HOWN.out.old (drewN_below (Below.refl _ _) _), hJ, by rw [← HSW2.out, if_neg (by rw [C3.out]; simp)]⟩
                    case measure => simp [intOf]; omega
                · rw [List.drop_of_length_le (by omega), endSweep] at hsw
                  have hcf := HCF.out
                  rw [← hsw] at hcf
                  have HCF2 := Lib.hid hcf; clear hcf hsw
                  have HR2 := Lib.hid hr; clear hr
                  have HOWN := Lib.hid hown; clear hown
                  go_wp2
                  go_roundg fu
                  case measure => omega
                  case rel =>
                    refine ⟨c, st, rfl, HR2.out, HOWN.out, hJ, ?_⟩
                    have := HCF2.out
                    cases c with
                    | true => simpa using this
                    | false => simpa using this
end Go.Proofs.Ytfoimgkgkjhbeaa
