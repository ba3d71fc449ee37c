/-
  The walk of what a law shows.
-/
import Derived.Test.YtjcdpccfhpbccaaGreatDoorF8
import Derived.Test.YtjcdpccfhpbccaaGreatDoorH0
namespace Go.Proofs.YtjcdpccfhpbccaaGreatDoor
open Go.RowKit Go.Proofs.YtjcdpccfhpbccaaGreatDoorW.PrintWords

theorem shown_text : prText sShown = tShown := by kernel_rfl
theorem shown_print : pPrint sShown = (tShown, 0) := by
  unfold pPrint
  rw [shown_text, shown_parse, if_pos rfl]
theorem Sized.ok {s : ScrD} (h : Sized s) : ScrOk s := by
  have h1 := mayL_in h.may
  refine ⟨fun x hx => ?_, fun row hr => ⟨by have := (h.row row hr).1; omega, fun c hc => ⟨((h.row row hr).2 c hc).ok, by have := ((h.row row hr).2 c hc).l; omega⟩⟩, by have := h.rows; omega, h.pv⟩
  have h2 := h.r0
  have h3 := h.r1
  have h4 := h.c0
  have h5 := h.c1
  simp only [List.mem_cons, List.not_mem_nil, or_false] at hx
  unfold I64
  rcases hx with rfl | rfl | rfl | rfl <;> omega
theorem shown_size : (⟨tShown.toArray⟩ : ByteArray).size ≤ 4294967280 := by decide
theorem parse_shown (w : World) (hG : Glob w) :
    Calls Tryz.prog 6 #[.string ⟨tShown.toArray⟩] w fun e w' => ∃ A3 A4 k3 k4, e = .returned (.tuple #[.agg #[.int .i64 1, .int .i64 2, .int .i64 30, .int .i64 40, .slice A3 1 k3, .slice A4 3 k4], .int .i64 0, .int .i64 0]) ∧ kRow.C w' A3 1 sShown.calls ∧ (Kd.int .u8).C w' A4 3 sShown.picks ∧ Below w.heap.size w w' := by
  refine (parse_any ⟨tShown.toArray⟩ shown_size w hG _ shown_parse).mono ?_
  rintro e w1 ⟨vc, vp, rfl, hvc, hvp, hb1⟩
  obtain ⟨A3, k3, rfl⟩ := Kd.R_slice hvc
  obtain ⟨A4, k4, rfl⟩ := Kd.R_slice hvp
  exact ⟨A3, A4, k3, k4, rfl, (Kd.R_reads' hvc).2.2, (Kd.R_reads' hvp).2.2, hb1⟩
theorem print_shown (A3 A4 : Option Addr) (k3 k4 : Nat) (w : World) (hG : Glob w) (hC : kRow.C w A3 1 sShown.calls) (hP : (Kd.int .u8).C w A4 3 sShown.picks) :
    Calls Tryz.prog 11 #[.agg #[.int .i64 1, .int .i64 2, .int .i64 30, .int .i64 40, .slice A3 1 k3, .slice A4 3 k4]] w fun e w' => e = .returned (.tuple #[.string ⟨tShown.toArray⟩, .int .i64 0]) ∧ Below w.heap.size w w' :=
  print_walk sShown A3 A4 k3 k4 w hG hC hP (pParse_in shown_parse).ok (by rw [shown_text]; decide) _ shown_print
theorem bad_size : (⟨tBad.toArray⟩ : ByteArray).size ≤ 4294967280 := by decide
theorem parse_bad (w : World) (hG : Glob w) :
    Calls Tryz.prog 6 #[.string ⟨tBad.toArray⟩] w fun e w' => e = .returned (.tuple #[.agg #[.int .i64 0, .int .i64 0, .int .i64 0, .int .i64 0, .slice none 0 0, .slice none 0 0], .int .i64 2, .int .i64 210]) ∧ Below w.heap.size w w' := by
  refine (parse_any ⟨tBad.toArray⟩ bad_size w hG _ bad_parse).mono ?_
  rintro e w1 ⟨rfl, hb1⟩
  exact ⟨rfl, hb1⟩
theorem may_shown (w : World) :
    Calls Tryz.prog 13 #[.agg #[.int .i64 1, .int .i64 0, .int .i64 0, .int .i64 0, .string ⟨#[97]⟩, .string ⟨#[]⟩]] w fun e w' => e = .returned (.bool true) ∧ Below w.heap.size w w' := by
  refine (may_in 1 0 0 0 ⟨#[97]⟩ ⟨#[]⟩ (by decide) (by decide) (by decide) (by decide) w).mono ?_
  rintro e w1 ⟨rfl, hb1⟩
  exact ⟨by rw [show mayB ((1 : Nat) : Int) 0 0 0 ⟨#[97]⟩ ⟨#[]⟩ = true by kernel_rfl], hb1⟩
set_option maxRecDepth 100000 in
set_option maxHeartbeats 4000000 in
theorem shown_any (w : World) (hG : Glob w) :
    Calls Tryz.prog 5 #[] w fun e w' => e = .returned (.bool true) ∧ Below w.heap.size w w' := by
  have HG := Lib.hid hG
  obtain ⟨T, hT⟩ : ∃ T : ByteArray, ⟨tShown.toArray⟩ = T := ⟨_, rfl⟩
  have HT := Lib.hid hT
  clear hG
  go_enter Tryz.func5, Tryz.ntmps5
  go_wp2_with fail
  rw [show (⟨#[119, 111, 114, 108, 100, 32, 49, 32, 50, 32, 51, 48, 32, 52, 48, 10, 99, 108, 105, 101, 110, 116, 10, 115, 117, 98, 109, 105, 116, 32, 43, 101, 108, 101, 109, 101, 110, 116, 32, 91, 97, 93, 32, 43, 105, 110, 115, 101, 114, 116, 32, 49, 32, 48, 32, 48, 10, 114, 101, 97, 100, 32, 57, 32, 48, 32, 45, 49, 32, 91, 120, 32, 121, 93, 10, 111, 112, 101, 110, 10, 112, 105, 99, 107, 115, 32, 48, 32, 49, 32, 50, 53, 53, 10]⟩ : ByteArray) = T from hT]
  clear hT
  refine (show Calls Tryz.prog 6 #[.string T] w _ from by rw [← HT.out]; exact parse_shown w HG.out).mono ?_
  rintro e w1 ⟨A3, A4, k3, k4, rfl, hvc, hvp, hb1⟩
  have HVC := Lib.hid hvc
  have HVP := Lib.hid hvp
  have HB1 := Lib.hid hb1
  clear hvc hvp hb1
  go_wp2_with fail
  generalize hW : World.alloc w1 _ = w2
  have hb2 : Below w1.heap.size w1 w2 := by rw [← hW]; exact (Below.refl _ _).alloc (Nat.le_refl _) _
  obtain ⟨b, hb⟩ : ∃ b, w1.heap.size = b := ⟨_, rfl⟩
  have HX := Lib.hid (show w2.heap[b]? = some (.cells (scCells 1 2 30 40 (.slice A3 1 k3) (.slice A4 3 k4)) 28 (0, 0)) from by rw [← hW, ← hb]; exact alloc_new _ _)
  have HVC2 := Lib.hid (Kd.C_below HVC.out hb2)
  have HVP2 := Lib.hid (Kd.C_below HVP.out hb2)
  have HB2 := Lib.hid (HB1.out.trans (hb2.mono HB1.out.size))
  rw [hb]
  clear hW hb2 hb
  refine (print_shown A3 A4 k3 k4 w2 (HG.out.below HB2.out) HVC2.out HVP2.out).mono ?_
  rintro e w3 ⟨rfl, hb3⟩
  rw [HT.out]
  have HX3 := Lib.hid ((hb3.block _ (lt_of_block HX.out)).trans HX.out)
  have HVC3 := Lib.hid (Kd.C_below HVC2.out hb3)
  have HB3 := Lib.hid (HB2.out.trans (hb3.mono HB2.out.size))
  clear hb3
  go_wp2_with fail
  rw [show (⟨#[119, 111, 114, 108, 100, 32, 49, 32, 50, 32, 51, 48, 32, 52, 48, 10, 99, 108, 105, 101, 110, 116, 10, 115, 117, 98, 109, 105, 116, 32, 43, 101, 108, 101, 109, 101, 110, 116, 32, 91, 97, 93, 32, 43, 105, 110, 115, 101, 114, 116, 32, 49, 32, 48, 32, 48, 10, 114, 101, 97, 100, 32, 57, 32, 48, 32, 45, 49, 32, 91, 120, 32, 121, 93, 10, 111, 112, 101, 110, 10, 112, 105, 99, 107, 115, 32, 48, 32, 49, 32, 50, 53, 53, 10]⟩ : ByteArray) = T from HT.out]
  refine (parse_bad w3 (HG.out.below HB3.out)).mono ?_
  rintro e w4 ⟨rfl, hb4⟩
  have HX4 := Lib.hid ((hb4.block _ (lt_of_block HX3.out)).trans HX3.out)
  have HVC4 := Lib.hid (Kd.C_below HVC3.out hb4)
  have HB4 := Lib.hid (HB3.out.trans (hb4.mono HB3.out.size))
  clear hb4
  have hbA : ∀ o, Below w4.heap.size w4 (w4.alloc o) := fun o => (Below.refl _ _).alloc (Nat.le_refl _) o
  have y0 := fun ob => cell_blk (alloc_blk HX4.out ob) 0 (v := .int .i64 1) rfl
  have y1 := fun ob => cell_blk (alloc_blk HX4.out ob) 1 (v := .int .i64 2) rfl
  have y3 := fun ob => cell_blk (alloc_blk HX4.out ob) 4 (v := .slice A3 1 k3) rfl
  have y4 := fun ob => cell_blk (alloc_blk HX4.out ob) 5 (v := .slice A4 3 k4) rfl
  obtain ⟨ad, A5, k5, rfl, hC5, e5⟩ := row_cells HVC4.out 0 (by decide) (x := _) rfl
  obtain ⟨ad2, A6, k6, rfl, hC6, e6⟩ := call_cells hC5 0 (by decide) (x := _) rfl
  obtain ⟨ad3, rfl, e7⟩ := op_cells hC6 0 (by decide) (o := _) rfl
  have x0 := fun o => e5 _ (hbA o)
  have x1 := fun o => (e6 _ (hbA o)).1
  have x2 := fun o => (e6 _ (hbA o)).2 0 _ rfl
  have z0 := fun o => (e7 _ (hbA o)).1
  have z1 := fun o => (e7 _ (hbA o)).2 0 _ rfl
  have z2 := fun o => (e7 _ (hbA o)).2 1 _ rfl
  have z3 := fun o => (e7 _ (hbA o)).2 2 _ rfl
  have z4 := fun o => (e7 _ (hbA o)).2 3 _ rfl
  have z5 := fun o => (e7 _ (hbA o)).2 4 _ rfl
  obtain ⟨⟨b1, o1, p1⟩, hB1⟩ : ∃ B, ad2.add (0 * 6) = B := ⟨_, rfl⟩
  obtain ⟨⟨b2, o2, p2⟩, hB2⟩ : ∃ B, ad3.add (0 * 6) = B := ⟨_, rfl⟩
  rw [hB1] at x1 x2
  rw [hB2] at z0 z1 z2 z3 z4 z5
  have x0' : ∀ o, (w4.alloc o).cell? ad = some (.slice (some ad2) 3 k5) := fun o => by have := x0 o; rwa [show ad.add 0 = ad by simp [Addr.add]] at this
  dsimp only [Nat.zero_add, Nat.add_zero] at x0 x1 x2 z0 z1 z2 z3 z4 z5
  clear e5 e6 e7 hC5 hC6 hbA
  go_wp2_with fail
  generalize hW : World.alloc w4 _ = w5
  have hb5 : Below w4.heap.size w4 w5 := by rw [← hW]; exact (Below.refl _ _).alloc (Nat.le_refl _) _
  have HX5 := Lib.hid ((hb5.block _ (lt_of_block HX4.out)).trans HX4.out)
  have HB5 := Lib.hid (HB4.out.trans (hb5.mono HB4.out.size))
  clear hW hb5 x0 x0' x1 x2 y0 y1 y3 y4 z0 z1 z2 z3 z4 z5
  refine (may_shown w5).mono ?_
  rintro e w6 ⟨rfl, hb6⟩
  have HB6 := Lib.hid (HB5.out.trans (hb6.mono HB5.out.size))
  have hx6 := (hb6.block _ (lt_of_block HX5.out)).trans HX5.out
  have y0 := cell_blk hx6 0 (v := .int .i64 1) rfl
  have y1 := cell_blk hx6 1 (v := .int .i64 2) rfl
  clear hb6 hx6
  go_wp2_with fail
  refine (memMay_any 1 2 w6).mono ?_
  rintro e w7 ⟨rfl, hb7⟩
  have HB7 := Lib.hid (HB6.out.trans (hb7.mono HB6.out.size))
  clear hb7
  go_wp2_with fail
  go_ret
  exact ⟨rfl, HB7.out⟩
end Go.Proofs.YtjcdpccfhpbccaaGreatDoor
