/- The cost of a walk, as blockcost.Path adds it. -/
import Derived.Test.YtfoimgkgkjhbeaaL6
import Derived.Test.YtfoimgkgkjhbeaaWL
namespace Go.Proofs.Ytfoimgkgkjhbeaa

theorem wrap_small {x : Int} (h0 : -9223372036854775808 ≤ x) (h1 : x ≤ 9223372036854775807) : IntKind.i64.wrap x = x := IntWalk.i64_in _ (by omega)
theorem pathF_walk {g : Gr} {c : Cst} (hg : GoodIn g c) : ∀ (l : List Nat) (a : Nat) (s : Int), Walk (netOf g c) (a :: l) → 0 ≤ s → s + 2147483904 * (l.length : Int) ≤ 1152921504606846976 →
    pathF g.blocks.length c.block (cmapN c.edge (edges g) 0 []) (some (a : Int)) (l.map fun x : Nat => (x : Int)) s = (s - (netOf g c).bk a + (val (netOf g c) (a :: l)).1, true) := by
  intro l
  induction l with
  | nil =>
    intro a s hw _ _
    show (s, true) = _
    exact Prod.ext (by show s = s - (netOf g c).bk a + (netOf g c).bk a; omega) rfl
  | cons t l ih =>
    intro a s hw h0 h1
    have hts : (t : Int) ∈ nextOf g a := (mem_nx hg.v).1 hw.2.1
    have hlt : t < g.blocks.length := (hw.tail).lt t List.mem_cons_self
    have b0 := (netOk hg).bk0 t
    have b1 := (netOk hg).bk1 t
    have e1 := (netOk hg).ec1 a t
    have e0 : 0 ≤ (netOf g c).ec a t := hw.2.2.1
    rw [List.length_cons] at h1
    rw [List.map_cons, pathF_cons, if_neg (by omega), Int.toNat_natCast]
    simp only [cmap_ec hg.v hts]
    have hbk : c.block[t]?.getD 0 = (netOf g c).bk t := rfl
    rw [hbk, wrap_small (x := s + (netOf g c).bk t) (by omega) (by omega), wrap_small (by omega) (by omega), ih t _ hw.tail (by omega) (by omega)]
    refine Prod.ext ?_ rfl
    show s + (netOf g c).bk t + (netOf g c).ec a t - (netOf g c).bk t + (val (netOf g c) (t :: l)).1 = s - (netOf g c).bk a + ((netOf g c).bk a + (netOf g c).ec a t + (val (netOf g c) (t :: l)).1)
    omega
theorem pcost_walk {g : Gr} {c : Cst} (hg : GoodIn g c) {a : Nat} {l : List Nat} (hw : Walk (netOf g c) (a :: l)) (hl : l.length ≤ 1048576) : pcost g c ((a :: l).map fun x : Nat => (x : Int)) = ((val (netOf g c) (a :: l)).1, true) := by
  have hlt : a < g.blocks.length := hw.lt a List.mem_cons_self
  have b0 := (netOk hg).bk0 a
  have b1 := (netOk hg).bk1 a
  have hbk : c.block[a]?.getD 0 = (netOf g c).bk a := rfl
  unfold pcost
  rw [if_pos (fit_iff.2 ⟨hg.v, hg.bl, hg.el⟩), List.map_cons, pathF, if_neg (by omega), Int.toNat_natCast]
  show pathF g.blocks.length c.block (cmapN c.edge (edges g) 0 []) (some (a : Int)) (l.map fun x : Nat => (x : Int)) (IntKind.i64.wrap (0 + c.block[a]?.getD 0)) = _
  rw [hbk, wrap_small (by omega) (by omega), pathF_walk hg l a _ hw (by omega) (by omega)]
  exact Prod.ext (by dsimp only; omega) rfl
theorem walk_at {N : Net} : ∀ {l : List Nat} (i : Nat), Walk N l → i + 1 < l.length → l[i + 1]?.getD 0 ∈ N.nx (l[i]?.getD 0) ∧ 0 ≤ N.ec (l[i]?.getD 0) (l[i + 1]?.getD 0) := by
  intro l
  induction l with
  | nil => intro i h _; exact absurd h (by simp [Walk])
  | cons b l ih =>
    intro i h hi
    cases l with
    | nil => simp at hi
    | cons s l =>
      cases i with
      | zero => exact ⟨h.2.1, h.2.2.1⟩
      | succ i => exact ih i h.tail (by simpa using hi)
theorem walk_last {N : Net} : ∀ {l : List Nat}, Walk N l → l[l.length - 1]?.getD 0 < N.n ∧ N.nx (l[l.length - 1]?.getD 0) = [] := by
  intro l
  induction l with
  | nil => intro h; exact absurd h (by simp [Walk])
  | cons b l ih =>
    intro h
    cases l with
    | nil => exact h
    | cons s l =>
      have := ih h.tail
      simpa using this
/-- What the law asks of the path. -/
theorem full_walk {g : Gr} {c : Cst} (hg : GoodIn g c) {rs : List Rest} (hF : Found g c rs) (ho : (rs[0]?.getD default).ok = true) :
    ∃ l : List Nat, fullPath g c rs = (0 :: l).map (fun x : Nat => (x : Int)) ∧ Walk (netOf g c) (0 :: l) ∧ (val (netOf g c) (0 :: l)).1 = (rs[0]?.getD default).cost ∧ (0 :: l).length ≤ g.blocks.length := by
  obtain ⟨b1, b2, b3, b4⟩ := absP_bounds hg hF.ip 0 ho
  obtain ⟨l, h1, h2, h3⟩ := pathP_walk hg hF (rs[0]?.getD default).blocks.toNat 0 ho (by omega)
  refine ⟨l, by unfold fullPath; rw [h1]; rfl, h2, by rw [h3], ?_⟩
  have hlen := val_len (netOf g c) (0 :: l)
  rw [h3] at hlen
  obtain ⟨_, _, _, _, b5⟩ := inv_bounds (netOk hg) hF.ip.inv (absP_some.2 ⟨ho, rfl⟩)
  have b5' : (rs[0]?.getD default).blocks ≤ (g.blocks.length : Int) := b5
  dsimp only at hlen
  omega
end Go.Proofs.Ytfoimgkgkjhbeaa
