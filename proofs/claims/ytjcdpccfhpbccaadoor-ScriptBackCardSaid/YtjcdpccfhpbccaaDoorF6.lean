/-
  The walks that compare: rows of rows.
-/
import Derived.Test.YtjcdpccfhpbccaaDoorF5
namespace Go.Proofs.YtjcdpccfhpbccaaDoor
open Go.RowKit Go.Proofs.YtjcdpccfhpbccaaDoorW.PrintWords

theorem row_cells {w : World} {A : Option Addr} {n : Nat} {xs : List (List CallD)} (h : kRow.C w A n xs) (i : Nat) (hi : i < n) {x : List CallD} (hx : xs[i]? = some x) :
    ∃ ad A1 c1, A = some ad ∧ (kCall 51).C w A1 x.length x ∧ ∀ W, Below w.heap.size w W → W.cell? (ad.add i) = some (.slice A1 x.length c1) := by
  obtain ⟨ad, c, rfl, hcl, hK, hcell⟩ := Kd.C_get h [] i (by omega) (by omega)
  have hget : xs.getD (i : Int).toNat [] = x := by
    rw [Int.toNat_natCast, List.getD_eq_getElem?_getD, hx]
    rfl
  rw [hget] at hK
  obtain ⟨A1, c1, rfl, hc1, hC1⟩ := hK
  refine ⟨ad, A1, c1, rfl, hC1, fun W hb => ?_⟩
  have h0 := hcell 0 _ rfl
  rw [Int.toNat_natCast, show kRow.sz = 1 from rfl, Nat.mul_one, Nat.add_zero] at h0
  exact (hb.cell (World.block_lt_of_cell? _ _ h0)).trans h0

set_option maxHeartbeats 1000000 in
theorem print1fn_any (A1 A2 : Option Addr) (c1 c2 : Nat) (xs ys : List CallD) (w : World) (hx : (kCall 51).C w A1 xs.length xs) (hy : (kCall 51).C w A2 ys.length ys) (hn : xs.length ≤ 4294967296) (ho : ∀ c ∈ xs, c.ops.length ≤ 4294967296) :
    Calls Tryd.prog 24 #[.slice A1 xs.length c1, .slice A2 ys.length c2] w fun e w' => EqPost (xs = ys) e ∧ Below w.heap.size w w' := by
  have HX := Lib.hid hx
  have HY := Lib.hid hy
  have HN := Lib.hid hn
  have HO := Lib.hid ho
  clear hx hy hn ho
  go_enter Tryd.func24, Tryd.ntmps24
  go_wp2_with fail
  refine (equalCalls_any A1 A2 c1 c2 xs ys w HX.out HY.out HN.out HO.out).mono ?_
  rintro e w2 ⟨⟨r, rfl, hr⟩, hb⟩
  have HR := Lib.hid (And.intro hr hb)
  clear hr hb
  go_wp2_with fail
  go_ret
  exact ⟨⟨r, rfl, HR.out.1⟩, HR.out.2⟩

set_option maxRecDepth 100000 in
set_option maxHeartbeats 2000000 in
theorem equalRows_any (A1 A2 : Option Addr) (c1 c2 : Nat) (xs ys : List (List CallD)) (w : World) (hx : kRow.C w A1 xs.length xs) (hy : kRow.C w A2 ys.length ys) (hn : xs.length ≤ 4294967296) (ho : ∀ row ∈ xs, row.length ≤ 4294967296 ∧ ∀ c ∈ row, c.ops.length ≤ 4294967296) :
    Calls Tryd.prog 23 #[.slice A1 xs.length c1, .slice A2 ys.length c2, .func (.func 24) #[] #[]] w fun e w' => EqPost (xs = ys) e ∧ Below w.heap.size w w' := by
  have HX := Lib.hid hx
  have HY := Lib.hid hy
  have HN := Lib.hid hn
  have HO := Lib.hid ho
  clear hx hy hn ho
  by_cases hl : xs.length = ys.length
  · have ht : ((xs.length : Int) != (ys.length : Int)) = false := by simp [hl]
    have HLL := Lib.hid hl
    clear hl
    go_enter Tryd.func23, Tryd.ntmps23
    go_wp2_with fail
    go_loopg [17] xs.length (fun k s17 wr => ∃ (i : Nat), k + i = xs.length ∧ s17 = .int .i64 i ∧ Hid (xs.take i = ys.take i) ∧ Hid (Below w.heap.size w wr))
    case atStart => exact ⟨0, by omega, rfl, Lib.hid (by simp), Lib.hid (Below.refl _ _)⟩
    case round =>
      obtain ⟨i, hki, rfl, HT, HBE⟩ := hrel
      cases gk with
      | zero =>
        have hlt : ¬ ((i : Int) < (xs.length : Int)) := by omega
        go_wp2_with fail
        go_ret
        have h2 := HT.out
        rw [List.take_of_length_le (by omega), List.take_of_length_le (by have := HLL.out; omega)] at h2
        exact ⟨⟨true, rfl, by simp [h2]⟩, HBE.out⟩
      | succ gk =>
        have hlt : (i : Int) < (xs.length : Int) := by omega
        have hlt2 : (i : Int) < (ys.length : Int) := by have := HLL.out; omega
        obtain ⟨x, hx⟩ : ∃ x, xs[i]? = some x := ⟨_, List.getElem?_eq_getElem (by omega)⟩
        obtain ⟨y, hy⟩ : ∃ y, ys[i]? = some y := ⟨_, List.getElem?_eq_getElem (by have := HLL.out; omega)⟩
        obtain ⟨a1, B1, k1, rfl, hC1, e1⟩ := row_cells HX.out i (by omega) hx
        obtain ⟨a2, B2, k2, rfl, hC2, e2⟩ := row_cells HY.out i (by have := HLL.out; omega) hy
        have HC1 := Lib.hid hC1
        have HC2 := Lib.hid hC2
        have x0 := e1 _ HBE.out
        have y0 := e2 _ HBE.out
        have HH := Lib.hid (And.intro hx hy)
        have HOx := Lib.hid (HO.out x (List.mem_of_getElem? hx))
        have q9 : IntKind.i64.wrap ((i : Int) + 1) = (i : Int) + 1 := wrap_next (by have := HN.out; omega)
        clear e1 e2 hx hy hC1 hC2
        go_wp2_with fail
        refine (print1fn_any B1 B2 k1 k2 x y wr (Kd.C_below HC1.out HBE.out) (Kd.C_below HC2.out HBE.out) HOx.out.1 HOx.out.2).mono ?_
        rintro e w5 ⟨⟨r, rfl, hr⟩, hb5⟩
        have HB5 := Lib.hid (HBE.out.trans (hb5.mono HBE.out.size))
        have HR := Lib.hid hr
        clear hr hb5
        cases r with
        | false =>
          have hne : xs ≠ ys := by
            rintro rfl
            have h1 := HH.out.1.symm.trans HH.out.2
            injection h1 with h1
            have := HR.out.2 h1
            cases this
          have HNE := Lib.hid hne
          clear hne
          go_wp2_with fail
          go_ret
          exact ⟨⟨false, rfl, by simp [HNE.out]⟩, HB5.out⟩
        | true =>
          have HXY := Lib.hid (HR.out.1 rfl)
          go_wp2_with fail
          go_roundg gk
          case measure => omega
          case rel => exact ⟨i + 1, by omega, rfl, Lib.hid (by rw [List.take_add_one, List.take_add_one, HH.out.1, HH.out.2, HT.out, HXY.out]), HB5⟩
  · have ht : ((xs.length : Int) != (ys.length : Int)) = true := by simp [bne]; omega
    have HNE := Lib.hid (show xs ≠ ys from fun h => hl (by rw [h]))
    go_enter Tryd.func23, Tryd.ntmps23
    go_wp2_with fail
    go_ret
    exact ⟨⟨false, rfl, by simp [HNE.out]⟩, Below.refl _ _⟩
end Go.Proofs.YtjcdpccfhpbccaaDoor
