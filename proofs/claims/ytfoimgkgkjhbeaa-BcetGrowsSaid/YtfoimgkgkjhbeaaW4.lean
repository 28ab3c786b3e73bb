/- The walks of bcet's search: via, better. -/
import Derived.Test.YtfoimgkgkjhbeaaW3
import Derived.Test.YtfoimgkgkjhbeaaB2
import Derived.StillTailTactics
import Derived.BigRegion
import Derived.Deep.RegionHeld3
namespace Go.Proofs.Ytfoimgkgkjhbeaa
open Go.RowKit Go.WideMaps

theorem Try.laidOut : laidOutB Try.prog = true := by kernel_rfl
theorem Try.row41 : (41 : TypeId) < Try.prog.types.size := of_decide_eq_true (by kernel_rfl)
theorem Try.cells41 : Try.prog.cellsOf 41 = 2 := by kernel_rfl
theorem Try.arr41 : ArrKey Try.prog 41 3 2 := ⟨Try.underlying41, by kernel_rfl, by kernel_rfl, Try.cells41⟩
theorem Try.wide41 : (match Try.prog.underlying 41 with | some (.array _ _) | some (.struct _) => true | _ => false) = true := by rw [Try.underlying41]
set_option maxRecDepth 100000 in
theorem Try.law41 : Maps.Keyed Try.prog 41 := Maps.Keyed.of_law (deep_law_laid Try.laidOut (m := 2) (by omega) Try.row41 (by kernel_rfl) Try.wide41)
theorem Try.tsz : ∃ m, Try.prog.types.size = m + 1 := Nat.exists_eq_add_one_of_ne_zero (fun h => Nat.not_lt_zero 41 (h ▸ Try.row41))

def i64ok (a : Int) : Prop := (Lit.int .i64 a).wf = true
theorem i64ok_mk {a : Int} (h : -9223372036854775808 ≤ a) (h2 : a ≤ 9223372036854775807) : i64ok a := WalkArith.wf_i64 (by omega)

def encPI : MEnc Try.prog (Int × Int) Int where
  t := 38
  k := 41
  e := 3
  ht := Try.underlying38
  law := Try.law41
  K := fun p => .agg #[.int .i64 p.1, .int .i64 p.2]
  V := fun n => .int .i64 n
  ok := fun p => i64ok p.1 ∧ i64ok p.2
  hkey := fun p h => ⟨_, keyOf_pair Try.arr41 Try.underlying3 Try.tsz h.1 h.2⟩
  inj := by intro x y h; simp at h; exact Prod.ext h.1 h.2
  z := .int .i64 0
  hz := fun w => by kernel_rfl

theorem Try.size59 : (Try.prog.info? 59).map (·.size) = some 3 := by kernel_rfl
structure Rest where
  cost : Int
  blocks : Int
  ok : Bool
  deriving DecidableEq, Inhabited
def Rest.V (r : Rest) : Value := .agg #[.int .i64 r.cost, .int .i64 r.blocks, .bool r.ok]
def Rest.cells (r : Rest) : List Value := [.int .i64 r.cost, .int .i64 r.blocks, .bool r.ok]
def Rest.better (x y : Rest) : Bool := if x.ok = false ∨ y.ok = false then x.ok else if x.cost ≠ y.cost then decide (x.cost < y.cost) else decide (x.blocks < y.blocks)

set_option maxRecDepth 100000 in
set_option maxHeartbeats 400000 in
theorem better_any (w : World) (x y : Rest) :
    Calls Try.prog 33 #[.agg #[.int .i64 x.cost, .int .i64 x.blocks, .bool x.ok], .agg #[.int .i64 y.cost, .int .i64 y.blocks, .bool y.ok]] w fun e w' => e = .returned (.bool (x.better y)) ∧ Below w.heap.size w w' := by
  obtain ⟨xc, xb, xo⟩ := x
  obtain ⟨yc, yb, yo⟩ := y
  have hb : Below w.heap.size w ((w.alloc (.cells #[.int .i64 xc, .int .i64 xb, .bool xo] 59)).alloc (.cells #[.int .i64 yc, .int .i64 yb, .bool yo] 59)) := ((Below.refl _ _).alloc (Nat.le_refl _) _).alloc (by simp) _
  cases xo <;> cases yo
  case true.true =>
    by_cases hc : xc = yc
    · subst hc
      have h1 : (xc != xc) = false := by simp
      go_enter Try.func33, Try.ntmps33
      go_wp2
      go_ret
      exact ⟨ret_b (by simp [Rest.better]), hb⟩
    · have h1 : (xc != yc) = true := by simpa using hc
      go_enter Try.func33, Try.ntmps33
      go_wp2
      go_ret
      exact ⟨ret_b (by simp [Rest.better, hc]), hb⟩
  all_goals
    go_enter Try.func33, Try.ntmps33
    go_wp2
    go_ret
    exact ⟨ret_b (by simp [Rest.better]), hb⟩

/-- A search in memory: its block, its map's, its rests', and what it was made of. -/
structure Srch where
  sb : Nat
  mb : Nat
  rb : Nat
  A1 : Option Addr
  c1 : Nat
  A2 : Option Addr
  c2 : Nat
  A3 : Option Addr
  c3 : Nat
  A4 : Option Addr
  c4 : Nat
  once : Int
  g : Gr
  cb : List Int
  ce : List Int
  idx : List ((Int × Int) × Int)
def restCells (rs : List Rest) : List Value := rs.flatMap Rest.cells
structure SAt (S : Srch) (w0 w : World) (rs : List Rest) : Prop where
  s : w.heap[S.sb]? = some (.cells #[.slice S.A1 S.g.blocks.length S.c1, .slice S.A2 S.g.prev.length S.c2, .slice S.A3 S.cb.length S.c3, .slice S.A4 S.ce.length S.c4, .int .i64 S.once, .map (some S.mb), .slice (some ⟨S.rb, 0, none⟩) rs.length rs.length] 57 (0, 0))
  m : MapIs encPI w S.mb S.idx
  u : Uniq S.idx
  r : w.heap[S.rb]? = some (.cells (restCells rs).toArray 59 (0, 0))
  blks : BlksAt w0 S.A1 S.g.blocks
  ib : IntsAt w0 S.A3 S.cb
  ie : IntsAt w0 S.A4 S.ce
  below : Below w0.heap.size w0 w
  hsb : w0.heap.size ≤ S.sb
  hmb : w0.heap.size ≤ S.mb
  hrb : w0.heap.size ≤ S.rb
  hne : S.sb ≠ S.rb
theorem SAt.old {S : Srch} {w0 w w1 : World} {rs : List Rest} (h : SAt S w0 w rs) (hb : Below w.heap.size w w1) : SAt S w0 w1 rs where
  s := by rw [hb.block _ (Array.getElem?_eq_some_iff.1 h.s).1]; exact h.s
  m := h.m.old hb
  u := h.u
  r := by rw [hb.block _ (Array.getElem?_eq_some_iff.1 h.r).1]; exact h.r
  blks := h.blks
  ib := h.ib
  ie := h.ie
  below := h.below.trans (hb.mono h.below.size)
  hsb := h.hsb
  hmb := h.hmb
  hrb := h.hrb
  hne := h.hne
theorem restCells_at (rs : List Rest) (i : Nat) (hi : i < rs.length) : (restCells rs)[i * 3]? = some (.int .i64 (rs[i]?.getD default).cost) ∧ (restCells rs)[i * 3 + 1]? = some (.int .i64 (rs[i]?.getD default).blocks) ∧
    (restCells rs)[i * 3 + 2]? = some (.bool (rs[i]?.getD default).ok) := by
  induction rs generalizing i with
  | nil => simp at hi
  | cons r rs ih =>
    have e : restCells (r :: rs) = [.int .i64 r.cost, .int .i64 r.blocks, .bool r.ok] ++ restCells rs := rfl
    rw [e]
    cases i with
    | zero => simp
    | succ i =>
      have := ih i (by simpa using hi)
      have h3 : ∀ j, ([Value.int .i64 r.cost, .int .i64 r.blocks, .bool r.ok] ++ restCells rs)[(i + 1) * 3 + j]? = (restCells rs)[i * 3 + j]? := by
        intro j
        rw [List.getElem?_append_right (by simp; omega)]
        congr 1; simp; omega
      have h0 := h3 0; have h1 := h3 1; have h2 := h3 2
      simp only [Nat.add_zero] at h0
      rw [h0, h1, h2]
      simpa using this
theorem restCells_len (rs : List Rest) : (restCells rs).length = rs.length * 3 := by
  induction rs with
  | nil => rfl
  | cons r rs ih =>
    have e : restCells (r :: rs) = [.int .i64 r.cost, .int .i64 r.blocks, .bool r.ok] ++ restCells rs := rfl
    rw [e, List.length_append, ih]; simp; omega
theorem SAt.rest {S : Srch} {w0 w : World} {rs : List Rest} (h : SAt S w0 w rs) (i : Nat) (hi : i < rs.length) : w.cell? ⟨S.rb, i * 3, none⟩ = some (.int .i64 (rs[i]?.getD default).cost) ∧ w.cell? ⟨S.rb, i * 3 + 1, none⟩ = some (.int .i64 (rs[i]?.getD default).blocks) ∧
    w.cell? ⟨S.rb, i * 3 + 2, none⟩ = some (.bool (rs[i]?.getD default).ok) := by
  have := restCells_at rs i hi
  simp only [World.cell?, h.r]
  simpa using this
theorem SAt.cell {S : Srch} {w0 w : World} {rs : List Rest} (h : SAt S w0 w rs) : w.cell? ⟨S.sb, 0, none⟩ = some (.slice S.A1 S.g.blocks.length S.c1) ∧ w.cell? ⟨S.sb, 1, none⟩ = some (.slice S.A2 S.g.prev.length S.c2) ∧ w.cell? ⟨S.sb, 2, none⟩ = some (.slice S.A3 S.cb.length S.c3) ∧
    w.cell? ⟨S.sb, 3, none⟩ = some (.slice S.A4 S.ce.length S.c4) ∧ w.cell? ⟨S.sb, 5, none⟩ = some (.map (some S.mb)) ∧ w.cell? ⟨S.sb, 6, none⟩ = some (.slice (some ⟨S.rb, 0, none⟩) rs.length rs.length) := by
  simp [World.cell?, h.s]
theorem SAt.lts {S : Srch} {w0 w : World} {rs : List Rest} (h : SAt S w0 w rs) : S.sb < w.heap.size ∧ S.mb < w.heap.size ∧ S.rb < w.heap.size :=
  ⟨(Array.getElem?_eq_some_iff.1 h.s).1, h.m.lt, (Array.getElem?_eq_some_iff.1 h.r).1⟩

/-- via, in plain words. -/
def viaF (cb ce : List Int) (idx : List ((Int × Int) × Int)) (rs : List Rest) (b s : Nat) : Rest :=
  let r := rs[s]?.getD default
  let e := ce[((alook idx ((b : Int), (s : Int))).getD 0).toNat]?.getD 0
  if e < 0 then ⟨0, 0, false⟩ else ⟨r.cost + e + cb[b]?.getD 0, r.blocks + 1, r.ok⟩

def Small (n : Int) : Prop := -1152921504606846976 ≤ n ∧ n ≤ 1152921504606846976

set_option maxRecDepth 100000 in
set_option maxHeartbeats 1000000 in
theorem via_any (S : Srch) (w0 w : World) (rs : List Rest) (h : SAt S w0 w rs) (b s : Nat) (hb : b < S.cb.length) (hs : s < rs.length) (i : Nat) (hi : alook S.idx ((b : Int), (s : Int)) = some (i : Int)) (hie : i < S.ce.length)
    (q1 : Small (rs[s]?.getD default).cost) (q2 : Small (rs[s]?.getD default).blocks) (q3 : Small (S.cb[b]?.getD 0)) (q4 : S.ce[i]?.getD 0 ≤ 1152921504606846976) (hbn : b ≤ 9223372036854775807) (hsn : s ≤ 9223372036854775807) :
    Calls Try.prog 32 #[.pointer (some ⟨S.sb, 0, none⟩), .int .i64 b, .int .i64 s] w fun e w' => e = .returned (viaF S.cb S.ce S.idx rs b s).V ∧ Below w.heap.size w w' := by
  obtain ⟨r, hr⟩ : ∃ r, r = rs[s]?.getD default := ⟨_, rfl⟩
  obtain ⟨cost, hcost⟩ : ∃ c, c = S.cb[b]?.getD 0 := ⟨_, rfl⟩
  obtain ⟨e, he⟩ : ∃ e, e = S.ce[i]?.getD 0 := ⟨_, rfl⟩
  have hf : viaF S.cb S.ce S.idx rs b s = if e < 0 then ⟨0, 0, false⟩ else ⟨r.cost + e + cost, r.blocks + 1, r.ok⟩ := by
    unfold viaF; simp only [hi, ← hr, ← hcost, Option.getD_some, Int.toNat_natCast, ← he]
  rw [hf]
  clear hf
  rw [← hr] at q1 q2
  rw [← hcost] at q3
  rw [← he] at q4
  unfold Small at q1 q2 q3
  obtain ⟨wo, hwo⟩ : ∃ wo, wo = w.alloc (.cells #[.int .i64 0, .int .i64 0, .bool false] 59) := ⟨_, rfl⟩
  have hbo : Below w.heap.size w wo := hwo ▸ (Below.refl _ _).alloc (Nat.le_refl _) _
  have H := h.old hbo
  obtain ⟨g0, g1, g2, g3, g5, g6⟩ := H.cell
  obtain ⟨r1, r2, r3⟩ := H.rest s hs
  rw [← hr] at r1 r2 r3
  obtain ⟨b1, o1, e1, k1⟩ := h.ib b hb
  obtain ⟨b2, o2, e2, k2⟩ := h.ie i hie
  have j1 := cell_old H.below k1
  have j2 := cell_old H.below k2
  rw [← hcost] at j1
  rw [← he] at j2
  rw [e1] at g2
  rw [e2] at g3
  have hlkA : ∀ cs : Array Value, (Instr.lookup 38 (.map (some S.mb)) (.agg #[.int .i64 (b : Int), .int .i64 (s : Int)]) false).run Try.prog (wo.alloc (.cells cs 59)).drew = .ok (.int .i64 (i : Int)) (wo.alloc (.cells cs 59)).drew := fun cs => by
    have H2 := H.old (((Below.refl _ _).alloc (Nat.le_refl _) (.cells cs 59)).drew)
    have := run_look encPI H2.m H2.u (x := ((b : Int), (s : Int))) ⟨i64ok_mk (by omega) (by omega), i64ok_mk (by omega) (by omega)⟩ false
    rw [hi] at this
    exact this
  have hlkB : (Instr.lookup 38 (.map (some S.mb)) (.agg #[.int .i64 (b : Int), .int .i64 (s : Int)]) false).run Try.prog wo.drew = .ok (.int .i64 (i : Int)) wo.drew := by
    have H2 := H.old ((Below.refl _ _).drew)
    have := run_look encPI H2.m H2.u (x := ((b : Int), (s : Int))) ⟨i64ok_mk (by omega) (by omega), i64ok_mk (by omega) (by omega)⟩ false
    rw [hi] at this
    exact this
  obtain ⟨lt1, lt2, lt3⟩ := H.lts
  have lt4 := World.block_lt_of_cell? _ _ j1
  have lt5 := World.block_lt_of_cell? _ _ j2
  simp only at lt4 lt5
  have hown : wo.heap[w.heap.size]? = some (.cells #[.int .i64 0, .int .i64 0, .bool false] 59) := by rw [hwo]; exact heap_alloc_new w _
  have hro := Lib.hid hr; clear hr
  have hco := Lib.hid hcost; clear hcost
  have heo := Lib.hid he; clear he
  have hHI := Lib.hid hi; clear hi
  have HH := Lib.hid H; clear H h k1 k2 e1 e2
  go_enter Try.func32, Try.ntmps32
  go_wp2
  have HW := Lib.hid hwo
  rw [← hwo]
  clear hwo
  have hc0 : wo.cell? ⟨w.heap.size, 0, none⟩ = some (.int .i64 0) := by simp [World.cell?, hown]
  have hc1 : wo.cell? ⟨w.heap.size, 1, none⟩ = some (.int .i64 0) := by simp [World.cell?, hown]
  have hc2 : wo.cell? ⟨w.heap.size, 2, none⟩ = some (.bool false) := by simp [World.cell?, hown]
  have hf0 : wo.frozen? ⟨w.heap.size, 0, none⟩ = false := by simp [World.frozen?, hown]
  have hf1 : wo.frozen? ⟨w.heap.size, 1, none⟩ = false := by simp [World.frozen?, hown]
  have hf2 : wo.frozen? ⟨w.heap.size, 2, none⟩ = false := by simp [World.frozen?, hown]
  have lt6 : w.heap.size < wo.heap.size := (Array.getElem?_eq_some_iff.1 hown).1
  have HOWN := Lib.hid hown; clear hown
  go_region
  all_goals
    clear hlkA hlkB
    by_cases hneg : e < 0
    · have hd : decide (e < 0) = true := by simpa using hneg
      have hbx : Below w.heap.size w ((((wo.setCell ⟨w.heap.size, 0, none⟩ (.int .i64 0)).setCell ⟨w.heap.size, 1, none⟩ (.int .i64 0)).setCell ⟨w.heap.size, 2, none⟩ (.bool false)).alloc (.cells #[.int .i64 r.cost, .int .i64 r.blocks, .bool r.ok] 59)).drew :=
        (Below.alloc (((hbo.setCell (Nat.le_refl _) _).setCell (Nat.le_refl _) _).setCell (Nat.le_refl _) _) (by simp [World.setCell]; omega) _).drew
      have hhx : ((((wo.setCell ⟨w.heap.size, 0, none⟩ (.int .i64 0)).setCell ⟨w.heap.size, 1, none⟩ (.int .i64 0)).setCell ⟨w.heap.size, 2, none⟩ (.bool false)).alloc (.cells #[.int .i64 r.cost, .int .i64 r.blocks, .bool r.ok] 59)).drew.heap[w.heap.size]? = some (.cells #[.int .i64 0, .int .i64 0, .bool false] 59 (0, 0)) := by
        show (World.alloc _ _).heap[_]? = _
        rw [Below.heap_alloc _ _ _ (by simp [World.setCell]; omega), heap_setCell_row (heap_setCell_row (heap_setCell_row HOWN.out _ _) _ _) _ _]
        rfl
      have HB := Lib.hid hbx
      have HHX := Lib.hid hhx
      clear hbx hhx
      go_wp2
      exact bodyPost_cell rfl rfl HHX.out Try.underlying59 rfl Try.size59 rfl ⟨rfl, HB.out⟩
    · have hd : decide (e < 0) = false := by simpa using hneg
      obtain ⟨w2, hw2⟩ : ∃ w2, w2 = (wo.alloc (.cells #[.int .i64 r.cost, .int .i64 r.blocks, .bool r.ok] 59)).drew := ⟨_, rfl⟩
      have hb2 : Below wo.heap.size wo w2 := hw2 ▸ ((Below.refl _ _).alloc (Nat.le_refl _) _).drew
      have p0 : w2.cell? ⟨wo.heap.size, 0, none⟩ = some (.int .i64 r.cost) := by rw [hw2]; exact cell_box wo _ 59 0 rfl
      have p1 : w2.cell? ⟨wo.heap.size, 1, none⟩ = some (.int .i64 r.blocks) := by rw [hw2]; exact cell_box wo _ 59 1 rfl
      have p2 : w2.cell? ⟨wo.heap.size, 2, none⟩ = some (.bool r.ok) := by rw [hw2]; exact cell_box wo _ 59 2 rfl
      have p3 := cell_old hb2 g2
      have p4 := cell_old hb2 j1
      have p5 := cell_old hb2 hc0
      have p6 := cell_old hb2 hc1
      have p7 := cell_old hb2 hc2
      have p8 := (hb2.frozen (p := ⟨w.heap.size, 0, none⟩) lt6).trans hf0
      have p9 := (hb2.frozen (p := ⟨w.heap.size, 1, none⟩) lt6).trans hf1
      have p10 := (hb2.frozen (p := ⟨w.heap.size, 2, none⟩) lt6).trans hf2
      have p11 : Below w.heap.size w w2 := hbo.trans (hb2.mono hbo.size)
      have P12 : Hid (w2.heap[w.heap.size]? = some (.cells #[.int .i64 0, .int .i64 0, .bool false] 59 (0, 0))) := (hb2.block _ lt6).trans HOWN.out
      have P11 := Lib.hid p11; clear p11
      rw [← hw2]
      clear hw2 g0 g1 g2 g3 g5 g6 r1 r2 r3 j1 j2 hc0 hc1 hc2 hf0 hf1 hf2 hb2
      go_wp2
      go_still_tail 19, (by kernel_rfl)
      change wpList _ _ _ _ _ w2.drew
      go_wp2
      refine bodyPost_cell (g := w.heap.size) rfl rfl (heap_setCell_row (heap_setCell_row (heap_setCell_row P12.out 0 _) 1 _) 2 _) Try.underlying59 rfl Try.size59 rfl ⟨?_, ?_⟩
      · first | rfl | (rw [if_neg hneg]; rfl)
      · exact (((P11.out.setCell (Nat.le_refl _) _).setCell (Nat.le_refl _) _).setCell (Nat.le_refl _) _).drew
end Go.Proofs.Ytfoimgkgkjhbeaa
