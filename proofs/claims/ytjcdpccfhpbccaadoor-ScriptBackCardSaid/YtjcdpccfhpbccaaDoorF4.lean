/-
  The walks that compare: picks.
-/
import Derived.Test.YtjcdpccfhpbccaaDoorF3
namespace Go.Proofs.YtjcdpccfhpbccaaDoor
open Go.RowKit Go.Proofs.YtjcdpccfhpbccaaDoorW.PrintWords

theorem u8_cells {w : World} {A : Option Addr} {n : Nat} {xs : List Int} (h : (Kd.int .u8).C w A n xs) (i : Nat) (hi : i < n) {x : Int} (hx : xs[i]? = some x) :
    ∃ ad, A = some ad ∧ ∀ W, Below w.heap.size w W → W.cell? (ad.add i) = some (.int .u8 x) := by
  obtain ⟨ad, c, rfl, hcl, hK, hcell⟩ := Kd.C_get h 0 i (by omega) (by omega)
  have hget : xs.getD (i : Int).toNat 0 = x := by
    rw [Int.toNat_natCast, List.getD_eq_getElem?_getD, hx]
    rfl
  rw [hget] at hK
  have hKc : c = [.int .u8 x] := hK
  subst hKc
  refine ⟨ad, rfl, fun W hb => ?_⟩
  have h0 := hcell 0 _ rfl
  rw [Int.toNat_natCast, show (Kd.int .u8).sz = 1 from rfl, Nat.mul_one, Nat.add_zero] at h0
  exact (hb.cell (World.block_lt_of_cell? _ _ h0)).trans h0

set_option maxRecDepth 100000 in
set_option maxHeartbeats 2000000 in
theorem equalPicks_any (A1 A2 : Option Addr) (c1 c2 : Nat) (xs ys : List Int) (w : World) (hx : (Kd.int .u8).C w A1 xs.length xs) (hy : (Kd.int .u8).C w A2 ys.length ys) (hn : xs.length ≤ 4294967296) :
    Calls Tryd.prog 22 #[.slice A1 xs.length c1, .slice A2 ys.length c2] w fun e w' => EqPost (xs = ys) e ∧ Below w.heap.size w w' := by
  have HX := Lib.hid hx
  have HY := Lib.hid hy
  have HN := Lib.hid hn
  clear hx hy hn
  by_cases hl : xs.length = ys.length
  · have ht : ((xs.length : Int) != (ys.length : Int)) = false := by simp [hl]
    have HLL := Lib.hid hl
    clear hl
    go_enter Tryd.func22, Tryd.ntmps22
    go_wp2_with fail
    go_loopg [13] xs.length (fun k s13 wr => ∃ (i : Nat), k + i = xs.length ∧ s13 = .int .i64 i ∧ Hid (xs.take i = ys.take i) ∧ Hid (Below w.heap.size w wr))
    case atStart => exact ⟨0, by omega, rfl, Lib.hid (by simp), Lib.hid (Below.refl _ _)⟩
    case round =>
      obtain ⟨i, hki, rfl, HT, HBE⟩ := hrel
      cases gk with
      | zero =>
        have hlt : ¬ ((i : Int) < (xs.length : Int)) := by omega
        go_wp2_with fail
        go_ret
        have h2 := HT.out
        rw [List.take_of_length_le (by omega), List.take_of_length_le (by have := HLL.out; omega)] at h2
        exact ⟨⟨true, rfl, by simp [h2]⟩, HBE.out⟩
      | succ gk =>
        have hlt : (i : Int) < (xs.length : Int) := by omega
        have hlt2 : (i : Int) < (ys.length : Int) := by have := HLL.out; omega
        obtain ⟨x, hx⟩ : ∃ x, xs[i]? = some x := ⟨_, List.getElem?_eq_getElem (by omega)⟩
        obtain ⟨y, hy⟩ : ∃ y, ys[i]? = some y := ⟨_, List.getElem?_eq_getElem (by have := HLL.out; omega)⟩
        obtain ⟨a1, rfl, e1⟩ := u8_cells HX.out i (by omega) hx
        obtain ⟨a2, rfl, e2⟩ := u8_cells HY.out i (by have := HLL.out; omega) hy
        have x0 := fun q => e1 _ (below_drewN HBE.out q)
        have y0 := fun q => e2 _ (below_drewN HBE.out q)
        have HH := Lib.hid (And.intro hx hy)
        have q9 : IntKind.i64.wrap ((i : Int) + 1) = (i : Int) + 1 := wrap_next (by have := HN.out; omega)
        clear e1 e2 hx hy
        have x0' := x0 0
        have y0' := y0 0
        by_cases hxy : x = y
        case neg =>
          have tt : (x == y) = false := beq_eq_false_iff_ne.2 hxy
          have HBB := Lib.hid hxy
          clear hxy
          have hne : xs ≠ ys := by
            rintro rfl
            have h1 := HH.out.1.symm.trans HH.out.2
            injection h1 with h1
            exact HBB.out h1
          have HNE := Lib.hid hne
          clear hne
          go_wp2_with fail
          go_quiet (fail)
          go_wp2_with fail
          go_ret
          exact ⟨⟨false, rfl, by simp [HNE.out]⟩, below_drewN HBE.out _⟩
        case pos =>
          have tt : (x == y) = true := by rw [hxy]; simp
          have HXY := Lib.hid hxy
          clear hxy
          go_wp2_with fail
          go_quiet (fail)
          go_wp2_with fail
          go_roundg gk
          case measure => omega
          case rel => exact ⟨i + 1, by omega, rfl, Lib.hid (by rw [List.take_add_one, List.take_add_one, HH.out.1, HH.out.2, HT.out, HXY.out]), Lib.hid (below_drewN HBE.out _)⟩
  · have ht : ((xs.length : Int) != (ys.length : Int)) = true := by simp [bne]; omega
    have HNE := Lib.hid (show xs ≠ ys from fun h => hl (by rw [h]))
    go_enter Tryd.func22, Tryd.ntmps22
    go_wp2_with fail
    go_ret
    exact ⟨⟨false, rfl, by simp [HNE.out]⟩, Below.refl _ _⟩
end Go.Proofs.YtjcdpccfhpbccaaDoor
