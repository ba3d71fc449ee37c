/-
  The walks of the document's own comparisons: operations, calls.
-/
import Derived.Test.YtjcdpccfhpbccaaGreatDoorF8
namespace Go.Proofs.YtjcdpccfhpbccaaGreatDoor
open Go.RowKit Go.Proofs.YtjcdpccfhpbccaaGreatDoorW.PrintWords

set_option maxRecDepth 100000 in
set_option maxHeartbeats 1000000 in
theorem cmp_op2 (x y : OpD) : ∃ b, (b = true ↔ x ≠ y) ∧ ∀ w, (binOp .neq 120 (.agg #[.int .i64 x.k, .int .i64 x.i, .int .i64 x.t, .int .i64 x.a, .string x.n, .string x.x]) (.agg #[.int .i64 y.k, .int .i64 y.i, .int .i64 y.t, .int .i64 y.a, .string y.n, .string y.x])).run Tryz.prog w = .ok (.bool b) w := by
  have hp : Tryz.prog.stoodInHeld 120 = false := by kernel_rfl
  by_cases h1 : x.k = y.k
  · by_cases h2 : x.i = y.i
    · by_cases h3 : x.t = y.t
      · by_cases h4 : x.a = y.a
        · by_cases h5 : x.n = y.n
          · by_cases h6 : x.x = y.x
            · refine ⟨false, by simp [op_ext, h1, h2, h3, h4, h5, h6], fun w => ?_⟩
              rw [h1, h2, h3, h4, h5, h6]
              simp [go_sem, hp, Tryz.underlying120]
            · refine ⟨true, by simp [op_ext, h6], fun w => ?_⟩
              have t6 := bytes_ne h6
              rw [h1, h2, h3, h4, h5]
              simp [go_sem, hp, t6, Tryz.underlying120]
          · refine ⟨true, by simp [op_ext, h5], fun w => ?_⟩
            have t5 := bytes_ne h5
            rw [h1, h2, h3, h4]
            simp [go_sem, hp, t5, Tryz.underlying120]
        · refine ⟨true, by simp [op_ext, h4], fun w => ?_⟩
          have t4 : (x.a == y.a) = false := beq_eq_false_iff_ne.2 h4
          rw [h1, h2, h3]
          simp [go_sem, hp, t4, Tryz.underlying120]
      · refine ⟨true, by simp [op_ext, h3], fun w => ?_⟩
        have t3 : (x.t == y.t) = false := beq_eq_false_iff_ne.2 h3
        rw [h1, h2]
        simp [go_sem, hp, t3, Tryz.underlying120]
    · refine ⟨true, by simp [op_ext, h2], fun w => ?_⟩
      have t2 : (x.i == y.i) = false := beq_eq_false_iff_ne.2 h2
      rw [h1]
      simp [go_sem, hp, t2, Tryz.underlying120]
  · refine ⟨true, by simp [op_ext, h1], fun w => ?_⟩
    have t1 : (x.k == y.k) = false := beq_eq_false_iff_ne.2 h1
    simp [go_sem, hp, t1, Tryz.underlying120]
set_option maxRecDepth 100000 in
set_option maxHeartbeats 2000000 in
theorem same06_any (A1 A2 : Option Addr) (c1 c2 : Nat) (xs ys : List OpD) (w : World) (hx : kOp.C w A1 xs.length xs) (hy : kOp.C w A2 ys.length ys) (hn : xs.length ≤ 4294967296) :
    Calls Tryz.prog 54 #[.slice A1 xs.length c1, .slice A2 ys.length c2] w fun e w' => EqPost (xs = ys) e ∧ Below w.heap.size w w' := by
  have HX := Lib.hid hx
  have HY := Lib.hid hy
  have HN := Lib.hid hn
  clear hx hy hn
  by_cases hl : xs.length = ys.length
  · have ht : ((xs.length : Int) != (ys.length : Int)) = false := by simp [hl]
    have HLL := Lib.hid hl
    clear hl
    go_enter Tryz.func54, Tryz.ntmps54
    go_wp2_with fail
    go_loopg [5] xs.length (fun k s5 wr => ∃ (i : Nat), k + i = xs.length ∧ s5 = .int .i64 i ∧ Hid (xs.take i = ys.take i) ∧ Hid (Below w.heap.size w wr))
    case atStart => exact ⟨0, by omega, rfl, Lib.hid (by simp), Lib.hid (Below.refl _ _)⟩
    case round =>
      obtain ⟨i, hki, rfl, HT, HBE⟩ := hrel
      cases gk with
      | zero =>
        have hlt : ¬ ((i : Int) < (xs.length : Int)) := by omega
        go_wp2_with fail
        go_ret
        have h2 := HT.out
        rw [List.take_of_length_le (by omega), List.take_of_length_le (by have := HLL.out; omega)] at h2
        exact ⟨⟨true, rfl, by simp [h2]⟩, HBE.out⟩
      | succ gk =>
        have hlt : (i : Int) < (xs.length : Int) := by omega
        have hlt2 : (i : Int) < (ys.length : Int) := by have := HLL.out; omega
        obtain ⟨x, hx⟩ : ∃ x, xs[i]? = some x := ⟨_, List.getElem?_eq_getElem (by omega)⟩
        obtain ⟨y, hy⟩ : ∃ y, ys[i]? = some y := ⟨_, List.getElem?_eq_getElem (by have := HLL.out; omega)⟩
        obtain ⟨a1, rfl, e1⟩ := op_cells HX.out i (by omega) hx
        obtain ⟨a2, rfl, e2⟩ := op_cells HY.out i (by have := HLL.out; omega) hy
        obtain ⟨⟨b1, o1, p1⟩, hB1⟩ : ∃ B, a1.add (i * 6) = B := ⟨_, rfl⟩
        obtain ⟨⟨b2, o2, p2⟩, hB2⟩ : ∃ B, a2.add (i * 6) = B := ⟨_, rfl⟩
        rw [hB1] at e1
        rw [hB2] at e2
        have HE1 := Lib.hid e1
        have HE2 := Lib.hid e2
        have hd : ∀ q, Below w.heap.size w (wr.drewN q) := fun q => below_drewN HBE.out q
        have x0 := fun q => (HE1.out _ (hd q)).1
        have x1 := fun q => (HE1.out _ (hd q)).2 0 _ rfl
        have x2 := fun q => (HE1.out _ (hd q)).2 1 _ rfl
        have x3 := fun q => (HE1.out _ (hd q)).2 2 _ rfl
        have x4 := fun q => (HE1.out _ (hd q)).2 3 _ rfl
        have x5 := fun q => (HE1.out _ (hd q)).2 4 _ rfl
        have y0 := fun q => (HE2.out _ (hd q)).1
        have y1 := fun q => (HE2.out _ (hd q)).2 0 _ rfl
        have y2 := fun q => (HE2.out _ (hd q)).2 1 _ rfl
        have y3 := fun q => (HE2.out _ (hd q)).2 2 _ rfl
        have y4 := fun q => (HE2.out _ (hd q)).2 3 _ rfl
        have y5 := fun q => (HE2.out _ (hd q)).2 4 _ rfl
        have HH := Lib.hid (And.intro hx hy)
        have q9 : IntKind.i64.wrap ((i : Int) + 1) = (i : Int) + 1 := wrap_next (by have := HN.out; omega)
        clear e1 e2 hx hy hd
        have x0' := x0 0
        have x1' := x1 0
        have x2' := x2 0
        have x3' := x3 0
        have x4' := x4 0
        have x5' := x5 0
        have y0' := y0 0
        have y1' := y1 0
        have y2' := y2 0
        have y3' := y3 0
        have y4' := y4 0
        have y5' := y5 0
        obtain ⟨b, hb, hc⟩ := cmp_op2 x y
        have HBB := Lib.hid hb
        clear hb
        cases b with
        | true =>
          have hne : xs ≠ ys := by
            rintro rfl
            have h1 := HH.out.1.symm.trans HH.out.2
            injection h1 with h1
            exact HBB.out.1 rfl h1
          have HNE := Lib.hid hne
          clear hne
          go_wp2_with fail
          go_quiet (fail)
          go_wp2_with fail
          go_ret
          exact ⟨⟨false, rfl, by simp [HNE.out]⟩, below_drewN HBE.out _⟩
        | false =>
          have hxy : x = y := by
            by_cases h : x = y
            · exact h
            · exact absurd (HBB.out.2 h) (by simp)
          have HXY := Lib.hid hxy
          clear hxy
          go_wp2_with fail
          go_quiet (fail)
          go_wp2_with fail
          go_roundg gk
          case measure => omega
          case rel => exact ⟨i + 1, by omega, rfl, Lib.hid (by rw [List.take_add_one, List.take_add_one, HH.out.1, HH.out.2, HT.out, HXY.out]), Lib.hid (below_drewN HBE.out _)⟩
  · have ht : ((xs.length : Int) != (ys.length : Int)) = true := by simp [bne]; omega
    have HNE := Lib.hid (show xs ≠ ys from fun h => hl (by rw [h]))
    go_enter Tryz.func54, Tryz.ntmps54
    go_wp2_with fail
    go_ret
    exact ⟨⟨false, rfl, by simp [HNE.out]⟩, Below.refl _ _⟩
set_option maxRecDepth 100000 in
set_option maxHeartbeats 1000000 in
theorem cmp_q2 (x y : QD) : ∃ b, (b = true ↔ x = y) ∧ ∀ w, (binOp .eql 72 (.agg #[.int .i64 x.k, .int .i64 x.i, .int .i64 x.b, .string x.x]) (.agg #[.int .i64 y.k, .int .i64 y.i, .int .i64 y.b, .string y.x])).run Tryz.prog w = .ok (.bool b) w := by
  have hp : Tryz.prog.stoodInHeld 72 = false := by kernel_rfl
  by_cases h1 : x.k = y.k
  · by_cases h2 : x.i = y.i
    · by_cases h3 : x.b = y.b
      · by_cases h6 : x.x = y.x
        · refine ⟨true, by simp [q_ext, h1, h2, h3, h6], fun w => ?_⟩
          rw [h1, h2, h3, h6]
          simp [go_sem, hp, Tryz.underlying72]
        · refine ⟨false, by simp [q_ext, h6], fun w => ?_⟩
          have t6 := bytes_ne h6
          rw [h1, h2, h3]
          simp [go_sem, hp, t6, Tryz.underlying72]
      · refine ⟨false, by simp [q_ext, h3], fun w => ?_⟩
        have t3 : (x.b == y.b) = false := beq_eq_false_iff_ne.2 h3
        rw [h1, h2]
        simp [go_sem, hp, t3, Tryz.underlying72]
    · refine ⟨false, by simp [q_ext, h2], fun w => ?_⟩
      have t2 : (x.i == y.i) = false := beq_eq_false_iff_ne.2 h2
      rw [h1]
      simp [go_sem, hp, t2, Tryz.underlying72]
  · refine ⟨false, by simp [q_ext, h1], fun w => ?_⟩
    have t1 : (x.k == y.k) = false := beq_eq_false_iff_ne.2 h1
    simp [go_sem, hp, t1, Tryz.underlying72]
set_option maxRecDepth 100000 in
set_option maxHeartbeats 2000000 in
theorem sameCall_any (c d : CallD) (A1 A2 : Option Addr) (k1 k2 : Nat) (w : World) (hx : kOp.C w A1 c.ops.length c.ops) (hy : kOp.C w A2 d.ops.length d.ops) (hn : c.ops.length ≤ 4294967296) :
    Calls Tryz.prog 25 #[cdV c A1 k1, cdV d A2 k2] w fun e w' => EqPost (c = d) e ∧ Below w.heap.size w w' := by
  have HX := Lib.hid hx
  have HY := Lib.hid hy
  have HN := Lib.hid hn
  have HB := Lib.hid (show ∀ o o', Below w.heap.size w ((w.alloc o).alloc o') from fun o o' => ((Below.refl _ _).alloc (Nat.le_refl _) o).alloc (by simp) o')
  obtain ⟨b, hb, hc⟩ := cmp_q2 c.q d.q
  clear hx hy hn
  unfold cdV
  by_cases h1 : c.k = d.k
  · have t1 : (c.k == d.k) = true := by rw [h1]; simp
    have H1 := Lib.hid h1
    clear h1
    cases b with
    | false =>
      have HNE := Lib.hid (show ¬ c = d from fun h => by have := hb.2 (c_ext.1 h).2.1; cases this)
      clear hb
      go_enter Tryz.func25, Tryz.ntmps25
      go_wp2_with fail
      go_ret
      exact ⟨⟨false, rfl, by simp [HNE.out]⟩, HB.out _ _⟩
    | true =>
      have HQ := Lib.hid (hb.1 rfl)
      clear hb
      go_enter Tryz.func25, Tryz.ntmps25
      go_wp2_with fail
      refine (same06_any A1 A2 k1 k2 c.ops d.ops _ (Kd.C_below HX.out (HB.out _ _)) (Kd.C_below HY.out (HB.out _ _)) HN.out).mono ?_
      rintro e w2 ⟨⟨r, rfl, hr⟩, hb2⟩
      have HR := Lib.hid (And.intro hr hb2)
      clear hr hb2
      go_wp2_with fail
      go_ret
      exact ⟨⟨r, rfl, by rw [c_ext, HR.out.1]; simp [H1.out, HQ.out]⟩, (HB.out _ _).trans (HR.out.2.mono (by simp; omega))⟩
  · have t1 : (c.k == d.k) = false := beq_eq_false_iff_ne.2 h1
    have HNE := Lib.hid (show ¬ c = d from fun h => h1 (c_ext.1 h).1)
    clear h1
    go_enter Tryz.func25, Tryz.ntmps25
    go_wp2_with fail
    go_ret
    exact ⟨⟨false, rfl, by simp [HNE.out]⟩, HB.out _ _⟩
end Go.Proofs.YtjcdpccfhpbccaaGreatDoor
