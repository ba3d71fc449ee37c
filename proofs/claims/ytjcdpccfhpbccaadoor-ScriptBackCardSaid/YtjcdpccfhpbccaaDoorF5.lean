/-
  The walks that compare: rows of calls, rows of rows.
-/
import Derived.Test.YtjcdpccfhpbccaaDoorF4
namespace Go.Proofs.YtjcdpccfhpbccaaDoor
open Go.RowKit Go.Proofs.YtjcdpccfhpbccaaDoorW.PrintWords

theorem call_cells {w : World} {A : Option Addr} {n : Nat} {xs : List CallD} (h : (kCall 51).C w A n xs) (i : Nat) (hi : i < n) {x : CallD} (hx : xs[i]? = some x) :
    ∃ ad A1 c1, A = some ad ∧ kOp.C w A1 x.ops.length x.ops ∧ ∀ W, Below w.heap.size w W → W.cell? (ad.add (i * 6)) = some (.int .i64 x.k) ∧ (∀ j v, [.slice A1 x.ops.length c1, .int .i64 x.q.k, .int .i64 x.q.i, .int .i64 x.q.b, .string x.q.x][j]? = some v → W.cell? ⟨(ad.add (i * 6)).block, (ad.add (i * 6)).off + (j + 1), none⟩ = some v) := by
  obtain ⟨ad, c, rfl, hcl, hK, hcell⟩ := Kd.C_get h ⟨0, [], qZero⟩ i (by omega) (by omega)
  have hget : xs.getD (i : Int).toNat ⟨0, [], qZero⟩ = x := by
    rw [Int.toNat_natCast, List.getD_eq_getElem?_getD, hx]
    rfl
  rw [hget] at hK
  obtain ⟨A1, c1, rfl, hc1, hC1⟩ := kCall_K hK
  refine ⟨ad, A1, c1, rfl, hC1, fun W hb => ⟨?_, fun j v hj => ?_⟩⟩
  · have h0 := hcell 0 _ rfl
    rw [Int.toNat_natCast, kCall_sz, Nat.add_zero] at h0
    exact (hb.cell (World.block_lt_of_cell? _ _ h0)).trans h0
  · have h0 := hcell (j + 1) v (by simpa using hj)
    rw [Int.toNat_natCast, kCall_sz, addr_add2, addr_succ] at h0
    exact (hb.cell (World.block_lt_of_cell? _ _ h0)).trans h0

set_option maxRecDepth 100000 in
set_option maxHeartbeats 2000000 in
theorem equalCalls_any (A1 A2 : Option Addr) (c1 c2 : Nat) (xs ys : List CallD) (w : World) (hx : (kCall 51).C w A1 xs.length xs) (hy : (kCall 51).C w A2 ys.length ys) (hn : xs.length ≤ 4294967296) (ho : ∀ c ∈ xs, c.ops.length ≤ 4294967296) :
    Calls Tryd.prog 25 #[.slice A1 xs.length c1, .slice A2 ys.length c2, .func (.func 26) #[] #[]] w fun e w' => EqPost (xs = ys) e ∧ Below w.heap.size w w' := by
  have HX := Lib.hid hx
  have HY := Lib.hid hy
  have HN := Lib.hid hn
  have HO := Lib.hid ho
  clear hx hy hn ho
  by_cases hl : xs.length = ys.length
  · have ht : ((xs.length : Int) != (ys.length : Int)) = false := by simp [hl]
    have HLL := Lib.hid hl
    clear hl
    go_enter Tryd.func25, Tryd.ntmps25
    go_wp2_with fail
    go_loopg [17] xs.length (fun k s17 wr => ∃ (i : Nat), k + i = xs.length ∧ s17 = .int .i64 i ∧ Hid (xs.take i = ys.take i) ∧ Hid (Below w.heap.size w wr))
    case atStart => exact ⟨0, by omega, rfl, Lib.hid (by simp), Lib.hid (Below.refl _ _)⟩
    case round =>
      obtain ⟨i, hki, rfl, HT, HBE⟩ := hrel
      cases gk with
      | zero =>
        have hlt : ¬ ((i : Int) < (xs.length : Int)) := by omega
        go_wp2_with fail
        go_ret
        have h2 := HT.out
        rw [List.take_of_length_le (by omega), List.take_of_length_le (by have := HLL.out; omega)] at h2
        exact ⟨⟨true, rfl, by simp [h2]⟩, HBE.out⟩
      | succ gk =>
        have hlt : (i : Int) < (xs.length : Int) := by omega
        have hlt2 : (i : Int) < (ys.length : Int) := by have := HLL.out; omega
        obtain ⟨x, hx⟩ : ∃ x, xs[i]? = some x := ⟨_, List.getElem?_eq_getElem (by omega)⟩
        obtain ⟨y, hy⟩ : ∃ y, ys[i]? = some y := ⟨_, List.getElem?_eq_getElem (by have := HLL.out; omega)⟩
        obtain ⟨a1, B1, k1, rfl, hC1, e1⟩ := call_cells HX.out i (by omega) hx
        obtain ⟨a2, B2, k2, rfl, hC2, e2⟩ := call_cells HY.out i (by have := HLL.out; omega) hy
        obtain ⟨⟨b1, o1, p1⟩, hB1⟩ : ∃ B, a1.add (i * 6) = B := ⟨_, rfl⟩
        obtain ⟨⟨b2, o2, p2⟩, hB2⟩ : ∃ B, a2.add (i * 6) = B := ⟨_, rfl⟩
        rw [hB1] at e1
        rw [hB2] at e2
        have HE1 := Lib.hid e1
        have HE2 := Lib.hid e2
        have HC1 := Lib.hid hC1
        have HC2 := Lib.hid hC2
        have hd : ∀ ob, Below w.heap.size w (wr.alloc ob) := fun ob => HBE.out.alloc HBE.out.size ob
        have x0 := (HE1.out _ HBE.out).1
        have x1 := (HE1.out _ HBE.out).2 0 _ rfl
        have x2 := (HE1.out _ HBE.out).2 1 _ rfl
        have x3 := (HE1.out _ HBE.out).2 2 _ rfl
        have x4 := (HE1.out _ HBE.out).2 3 _ rfl
        have x5 := (HE1.out _ HBE.out).2 4 _ rfl
        have y0 := fun ob => (HE2.out _ (hd ob)).1
        have y1 := fun ob => (HE2.out _ (hd ob)).2 0 _ rfl
        have y2 := fun ob => (HE2.out _ (hd ob)).2 1 _ rfl
        have y3 := fun ob => (HE2.out _ (hd ob)).2 2 _ rfl
        have y4 := fun ob => (HE2.out _ (hd ob)).2 3 _ rfl
        have y5 := fun ob => (HE2.out _ (hd ob)).2 4 _ rfl
        have HH := Lib.hid (And.intro hx hy)
        have HOx := Lib.hid (HO.out x (List.mem_of_getElem? hx))
        have q9 : IntKind.i64.wrap ((i : Int) + 1) = (i : Int) + 1 := wrap_next (by have := HN.out; omega)
        clear e1 e2 hx hy hd hC1 hC2
        go_wp2_with fail
        generalize hW : World.alloc (World.alloc wr _) _ = w4
        have hb4 : Below w.heap.size w w4 := by
          rw [← hW]
          exact (HBE.out.alloc HBE.out.size _).alloc (by have := HBE.out.size; simp; omega) _
        have HB4 := Lib.hid hb4
        clear hW hb4 x0 x1 x2 x3 x4 x5 y0 y1 y2 y3 y4 y5
        refine (same_any x y B1 B2 k1 k2 w4 (Kd.C_below HC1.out HB4.out) (Kd.C_below HC2.out HB4.out) HOx.out).mono ?_
        rintro e w5 ⟨⟨r, rfl, hr⟩, hb5⟩
        have HB5 := Lib.hid (HB4.out.trans (hb5.mono HB4.out.size))
        have HR := Lib.hid hr
        clear hr hb5
        cases r with
        | false =>
          have hne : xs ≠ ys := by
            rintro rfl
            have h1 := HH.out.1.symm.trans HH.out.2
            injection h1 with h1
            have := HR.out.2 h1
            cases this
          have HNE := Lib.hid hne
          clear hne
          go_wp2_with fail
          go_ret
          exact ⟨⟨false, rfl, by simp [HNE.out]⟩, HB5.out⟩
        | true =>
          have HXY := Lib.hid (HR.out.1 rfl)
          go_wp2_with fail
          go_roundg gk
          case measure => omega
          case rel => exact ⟨i + 1, by omega, rfl, Lib.hid (by rw [List.take_add_one, List.take_add_one, HH.out.1, HH.out.2, HT.out, HXY.out]), HB5⟩
  · have ht : ((xs.length : Int) != (ys.length : Int)) = true := by simp [bne]; omega
    have HNE := Lib.hid (show xs ≠ ys from fun h => hl (by rw [h]))
    go_enter Tryd.func25, Tryd.ntmps25
    go_wp2_with fail
    go_ret
    exact ⟨⟨false, rfl, by simp [HNE.out]⟩, Below.refl _ _⟩
end Go.Proofs.YtjcdpccfhpbccaaDoor
