/-
  The walk of ScriptBack.
-/
import Derived.Test.YtjcdpccfhpbccaaDoorH1
import Derived.Test.YtjcdpccfhpbccaaDoorM0
import Derived.Test.YtjcdpccfhpbccaaDoorN3
import Derived.Test.YtjcdpccfhpbccaaDoorO0
namespace Go.Proofs.YtjcdpccfhpbccaaDoor
open Go.RowKit Go.Proofs.YtjcdpccfhpbccaaDoorW.PrintWords

theorem empty_eq : (⟨#[]⟩ : ByteArray).toList = [] := by rw [ByteArray.toList_eq]
set_option maxRecDepth 100000 in
set_option maxHeartbeats 4000000 in
theorem back_walk (t : ByteArray) (s : ScrD) (A1 A2 : Option Addr) (c1 c2 : Nat) (w : World) (hG : Glob w) (hC : kRow.C w A1 s.calls.length s.calls) (hP : (Kd.int .u8).C w A2 s.picks.length s.picks) (hrow : ∀ row ∈ s.calls, row.length ≤ 281474976710656) (hnum : NumOk s) :
    Calls Tryd.prog 3 #[.string t, .agg (scCells s.clients s.shift s.recs s.chunks (.slice A1 s.calls.length c1) (.slice A2 s.picks.length c2))] w fun e w' => e = .returned (.bool true) ∧ Below w.heap.size w w' := by
  have HG := Lib.hid hG
  have HC := Lib.hid hC
  have HP := Lib.hid hP
  have HROW := Lib.hid hrow
  have HNUM := Lib.hid hnum
  clear hG hC hP hrow hnum
  unfold scCells
  go_enter Tryd.func3, Tryd.ntmps3
  by_cases hl : 600 < (t.size : Int)
  · go_wp2_with fail
    generalize hW : World.alloc w _ = w2
    have HB2 := Lib.hid (show Below w.heap.size w w2 by rw [← hW]; exact (Below.refl _ _).alloc (Nat.le_refl _) _)
    clear hW
    refine (shown_any w2 (HG.out.below HB2.out)).mono ?_
    rintro e w3 ⟨rfl, hb3⟩
    have HB3 := Lib.hid (HB2.out.trans (hb3.mono HB2.out.size))
    clear hb3
    go_wp2_with fail
    go_ret
    exact ⟨rfl, HB3.out⟩
  have HLT := Lib.hid (show t.size ≤ 600 by omega)
  go_wp2_with fail
  generalize hW : World.alloc w _ = w2
  obtain ⟨b, hb⟩ : ∃ b, w.heap.size = b := ⟨_, rfl⟩
  have HX2 := Lib.hid (show w2.heap[b]? = some (.cells (scCells s.clients s.shift s.recs s.chunks (.slice A1 s.calls.length c1) (.slice A2 s.picks.length c2)) 27 (0, 0)) by rw [← hW, ← hb]; exact alloc_new _ _)
  have HB2 := Lib.hid (show Below w.heap.size w w2 by rw [← hW]; exact (Below.refl _ _).alloc (Nat.le_refl _) _)
  rw [hb]
  clear hW hb
  refine (bounded_any s A1 A2 c1 c2 w2 (Kd.C_below HC.out HB2.out) HROW.out).mono ?_
  rintro e w3 ⟨⟨r, rfl, hr⟩, hb3⟩
  have HB3 := Lib.hid (HB2.out.trans (hb3.mono HB2.out.size))
  have HX3 := Lib.hid ((hb3.block _ (lt_of_block HX2.out)).trans HX2.out)
  have HR := Lib.hid hr
  clear hr hb3
  cases r with
  | false =>
    go_wp2_with fail
    refine (shown_any w3 (HG.out.below HB3.out)).mono ?_
    rintro e w4 ⟨rfl, hb4⟩
    have HB4 := Lib.hid (HB3.out.trans (hb4.mono HB3.out.size))
    clear hb4
    go_wp2_with fail
    go_ret
    exact ⟨rfl, HB4.out⟩
  | true =>
    have HBN := Lib.hid (HR.out rfl)
    go_wp2_with fail
    refine (shown_any w3 (HG.out.below HB3.out)).mono ?_
    rintro e w4 ⟨rfl, hb4⟩
    have HB4 := Lib.hid (HB3.out.trans (hb4.mono HB3.out.size))
    have HX4 := Lib.hid ((hb4.block _ (lt_of_block HX3.out)).trans HX3.out)
    clear hb4
    go_wp2_with fail
    refine (parse_any t (by have := HLT.out; omega) w4 (HG.out.below HB4.out) _ rfl).mono ?_
    intro e w5 h5
    have key : ∃ a1 a2 a3 a4 : Int, ∃ B1 B2 : Option Addr, ∃ n1 k1 n2 k2 : Nat, ∃ im er : Int, e = .returned (.tuple #[.agg #[.int .i64 a1, .int .i64 a2, .int .i64 a3, .int .i64 a4, .slice B1 n1 k1, .slice B2 n2 k2], .int .i64 im, .int .i64 er]) ∧ Below w4.heap.size w4 w5 ∧
        (er = 210 ∨ (er = 0 ∧ ∃ x : ScrD, pParse (pieces (bl t)) = .ok x ∧ a1 = x.clients ∧ a2 = x.shift ∧ a3 = x.recs ∧ a4 = x.chunks ∧ n1 = x.calls.length ∧ n2 = x.picks.length ∧ kRow.C w5 B1 x.calls.length x.calls ∧ (Kd.int .u8).C w5 B2 x.picks.length x.picks)) := by
      cases hp : pParse (pieces (bl t)) with
      | error m =>
        rw [hp] at h5
        obtain ⟨rfl, hb5⟩ := h5
        exact ⟨0, 0, 0, 0, none, none, 0, 0, 0, 0, m, 210, rfl, hb5, .inl rfl⟩
      | ok x =>
        rw [hp] at h5
        obtain ⟨vc, vp, rfl, hvc, hvp, hb5⟩ := h5
        obtain ⟨A3, k3, rfl⟩ := Kd.R_slice hvc
        obtain ⟨A4, k4, rfl⟩ := Kd.R_slice hvp
        exact ⟨_, _, _, _, A3, A4, _, k3, _, k4, 0, 0, rfl, hb5, .inr ⟨rfl, x, rfl, rfl, rfl, rfl, rfl, rfl, rfl, (Kd.R_reads' hvc).2.2, (Kd.R_reads' hvp).2.2⟩⟩
    obtain ⟨a1, a2, a3, a4, B1, B2, n1, k1, n2, k2, im, er, rfl, hb5, hcase⟩ := key
    have HB5 := Lib.hid (HB4.out.trans (hb5.mono HB4.out.size))
    have HX5 := Lib.hid ((hb5.block _ (lt_of_block HX4.out)).trans HX4.out)
    have HCASE := Lib.hid hcase
    clear h5 hb5 hcase
    rcases HCASE.out with rfl | ⟨rfl, x, hp, rfl, rfl, rfl, rfl, rfl, rfl, hxc, hxp⟩
    · have y00 := True.intro
      have y0 := fun ob => cell_blk (alloc_blk HX5.out ob) 0 (v := .int .i64 s.clients) rfl
      have y1 := fun ob => cell_blk (alloc_blk HX5.out ob) 1 (v := .int .i64 s.shift) rfl
      have y2 := fun ob => cell_blk (alloc_blk HX5.out ob) 2 (v := .int .i64 s.recs) rfl
      have y3 := fun ob => cell_blk (alloc_blk HX5.out ob) 3 (v := .int .i64 s.chunks) rfl
      have y4 := fun ob => cell_blk (alloc_blk HX5.out ob) 4 (v := .slice A1 s.calls.length c1) rfl
      have y5 := fun ob => cell_blk (alloc_blk HX5.out ob) 5 (v := .slice A2 s.picks.length c2) rfl
      go_wp2_with fail
      generalize hW : World.alloc w5 _ = w6
      have hb6 : Below w5.heap.size w5 w6 := by rw [← hW]; exact (Below.refl _ _).alloc (Nat.le_refl _) _
      have HB6 := Lib.hid (HB5.out.trans (hb6.mono HB5.out.size))
      have HX6 := Lib.hid ((hb6.block _ (lt_of_block HX5.out)).trans HX5.out)
      clear hW hb6 HCASE
      clear y0 y1 y2 y3 y4 y5
      refine (print_walk s A1 A2 c1 c2 w6 (HG.out.below HB6.out) (Kd.C_below HC.out HB6.out) (Kd.C_below HP.out HB6.out) (HBN.out.ok HNUM.out) (prText_le HBN.out HNUM.out) _ rfl).mono ?_
      rintro e w7 ⟨rfl, hb7⟩
      have HB7 := Lib.hid (HB6.out.trans (hb7.mono HB6.out.size))
      have HX7 := Lib.hid ((hb7.block _ (lt_of_block HX6.out)).trans HX6.out)
      clear hb7
      by_cases hq : pParse (pieces (prText s)) = .ok s
      rotate_left
      · have hpp : pPrint s = ([], 1) := by rw [pPrint, if_neg hq]
        rw [hpp]
        clear hpp hq
        go_wp2_with fail
        go_ret
        exact ⟨rfl, HB7.out⟩
      have hpp : pPrint s = (prText s, 0) := by rw [pPrint, if_pos hq]
      rw [hpp]
      obtain ⟨T, hT⟩ : ∃ T : ByteArray, ⟨(prText s).toArray⟩ = T := ⟨_, rfl⟩
      have HTS := Lib.hid (show T.size ≤ 4294967280 by rw [← hT, size_mk]; have := prText_le HBN.out HNUM.out; omega)
      have HTQ := Lib.hid (show pParse (pieces (bl T)) = .ok s by rw [← hT]; exact hq)
      dsimp only
      rw [hT]
      clear hpp hq hT
      go_wp2_with fail
      refine (parse_any T HTS.out w7 (HG.out.below HB7.out) _ HTQ.out).mono ?_
      rintro e w8 ⟨vc, vp, rfl, hvc, hvp, hb8⟩
      obtain ⟨A5, k5, rfl⟩ := Kd.R_slice hvc
      obtain ⟨A6, k6, rfl⟩ := Kd.R_slice hvp
      have HCY8 := Lib.hid (Kd.R_reads' hvc).2.2
      have HPY8 := Lib.hid (Kd.R_reads' hvp).2.2
      have HB8 := Lib.hid (HB7.out.trans (hb8.mono HB7.out.size))
      have HX8 := Lib.hid ((hb8.block _ (lt_of_block HX7.out)).trans HX7.out)
      clear hvc hvp hb8
      go_wp2_with fail
      generalize hW : World.alloc w8 _ = w9
      obtain ⟨b9, hb9⟩ : ∃ b9, w8.heap.size = b9 := ⟨_, rfl⟩
      have hbb : Below w8.heap.size w8 w9 := by rw [← hW]; exact (Below.refl _ _).alloc (Nat.le_refl _) _
      have HY9 := Lib.hid (show w9.heap[b9]? = some (.cells (scCells s.clients s.shift s.recs s.chunks (.slice A5 s.calls.length k5) (.slice A6 s.picks.length k6)) 27 (0, 0)) by rw [← hW, ← hb9]; exact alloc_new _ _)
      have HX9 := Lib.hid ((hbb.block _ (lt_of_block HX8.out)).trans HX8.out)
      have HB9 := Lib.hid (HB8.out.trans (hbb.mono HB8.out.size))
      have HCY9 := Lib.hid (Kd.C_below HCY8.out hbb)
      have HPY9 := Lib.hid (Kd.C_below HPY8.out hbb)
      rw [hb9]
      clear hW hb9 hbb HX8 HX7 HX6 HX4 HX3 HX2
      have HSM := Lib.hid HBN.out.small
      have HSH := Lib.hid (show ∀ W, Below w9.heap.size w9 W → (W.cell? ⟨b9, 0, none⟩ = some (.int .i64 s.clients) ∧ W.cell? ⟨b9, 1, none⟩ = some (.int .i64 s.shift) ∧ W.cell? ⟨b9, 2, none⟩ = some (.int .i64 s.recs) ∧ W.cell? ⟨b9, 3, none⟩ = some (.int .i64 s.chunks) ∧ W.cell? ⟨b9, 4, none⟩ = some (.slice A5 s.calls.length k5) ∧ W.cell? ⟨b9, 5, none⟩ = some (.slice A6 s.picks.length k6) ∧ W.cell? ⟨b, 0, none⟩ = some (.int .i64 s.clients) ∧ W.cell? ⟨b, 1, none⟩ = some (.int .i64 s.shift) ∧ W.cell? ⟨b, 2, none⟩ = some (.int .i64 s.recs) ∧ W.cell? ⟨b, 3, none⟩ = some (.int .i64 s.chunks) ∧ W.cell? ⟨b, 4, none⟩ = some (.slice A1 s.calls.length c1) ∧ W.cell? ⟨b, 5, none⟩ = some (.slice A2 s.picks.length c2) ∧ Hid (Below w9.heap.size w9 W)) from fun W hW =>
        ⟨cell_blk ((hW.block _ (lt_of_block HY9.out)).trans HY9.out) 0 rfl, cell_blk ((hW.block _ (lt_of_block HY9.out)).trans HY9.out) 1 rfl, cell_blk ((hW.block _ (lt_of_block HY9.out)).trans HY9.out) 2 rfl, cell_blk ((hW.block _ (lt_of_block HY9.out)).trans HY9.out) 3 rfl, cell_blk ((hW.block _ (lt_of_block HY9.out)).trans HY9.out) 4 rfl, cell_blk ((hW.block _ (lt_of_block HY9.out)).trans HY9.out) 5 rfl,
         cell_blk ((hW.block _ (lt_of_block HX9.out)).trans HX9.out) 0 rfl, cell_blk ((hW.block _ (lt_of_block HX9.out)).trans HX9.out) 1 rfl, cell_blk ((hW.block _ (lt_of_block HX9.out)).trans HX9.out) 2 rfl, cell_blk ((hW.block _ (lt_of_block HX9.out)).trans HX9.out) 3 rfl, cell_blk ((hW.block _ (lt_of_block HX9.out)).trans HX9.out) 4 rfl, cell_blk ((hW.block _ (lt_of_block HX9.out)).trans HX9.out) 5 rfl, Lib.hid hW⟩)
      have HITY := Lib.hid (show ∀ W, Hid (Below w9.heap.size w9 W) → Calls Tryd.prog 11 #[.agg #[.int .i64 s.clients, .int .i64 s.shift, .int .i64 s.recs, .int .i64 s.chunks, .slice A5 s.calls.length k5, .slice A6 s.picks.length k6]] W fun e w' => ∃ A k, e = .returned (.agg #[.int .i64 s.clients, .int .i64 s.shift, .int .i64 s.recs, .int .i64 s.chunks, .slice A s.calls.length k, .slice A6 s.picks.length k6]) ∧ Hid (kRow.C w' A s.calls.length s.calls) ∧ Hid (Below w9.heap.size w9 w') ∧ Hid (Below W.heap.size W w') from fun W hW =>
        (its_any s A5 A6 k5 k6 W (Kd.C_below HCY9.out hW.out) HSM.out.1 HSM.out.2).mono (by
          rintro e w' ⟨A, k, h1, h2, h3⟩
          exact ⟨A, k, h1, Lib.hid (row2.1 h2), Lib.hid (hW.out.trans (h3.mono hW.out.size)), Lib.hid h3⟩))
      have HITS := Lib.hid (show ∀ W, Hid (Below w9.heap.size w9 W) → Calls Tryd.prog 11 #[.agg #[.int .i64 s.clients, .int .i64 s.shift, .int .i64 s.recs, .int .i64 s.chunks, .slice A1 s.calls.length c1, .slice A2 s.picks.length c2]] W fun e w' => ∃ A k, e = .returned (.agg #[.int .i64 s.clients, .int .i64 s.shift, .int .i64 s.recs, .int .i64 s.chunks, .slice A s.calls.length k, .slice A2 s.picks.length c2]) ∧ Hid (kRow.C w' A s.calls.length s.calls) ∧ Hid (Below w9.heap.size w9 w') ∧ Hid (Below W.heap.size W w') from fun W hW =>
        (its_any s A1 A2 c1 c2 W (Kd.C_below (Kd.C_below HC.out HB9.out) hW.out) HSM.out.1 HSM.out.2).mono (by
          rintro e w' ⟨A, k, h1, h2, h3⟩
          exact ⟨A, k, h1, Lib.hid (row2.1 h2), Lib.hid (hW.out.trans (h3.mono hW.out.size)), Lib.hid h3⟩))
      have HSAME := Lib.hid (show ∀ W A k A' k', Hid (Below w9.heap.size w9 W) → Hid (kRow.C W A s.calls.length s.calls) → Hid (kRow.C W A' s.calls.length s.calls) → Calls Tryd.prog 10 #[.agg #[.int .i64 s.clients, .int .i64 s.shift, .int .i64 s.recs, .int .i64 s.chunks, .slice A s.calls.length k, .slice A6 s.picks.length k6], .agg #[.int .i64 s.clients, .int .i64 s.shift, .int .i64 s.recs, .int .i64 s.chunks, .slice A' s.calls.length k', .slice A2 s.picks.length c2]] W fun e w' => e = .returned (.bool true) ∧ Hid (Below w9.heap.size w9 w') from fun W A k A' k' hW h1 h2 =>
        (sameS_any s s A A6 A' A2 k k6 k' c2 W h1.out (Kd.C_below HPY9.out hW.out) h2.out (Kd.C_below (Kd.C_below HP.out HB9.out) hW.out) HNUM.out.p HNUM.out.p (by have := HSM.out.1; omega) (fun row hr => ⟨by have := (HSM.out.2 row hr).1; omega, fun c hc => by have := (HSM.out.2 row hr).2 c hc; omega⟩)).mono (by
          rintro e w' ⟨⟨r, rfl, hr⟩, h3⟩
          obtain rfl : r = true := hr.2 rfl
          exact ⟨rfl, Lib.hid (hW.out.trans (h3.mono hW.out.size))⟩))
      have HWD := Lib.hid (show Hid (Below w9.heap.size w9 w9.drew) from Lib.hid (below_drew (Below.refl _ _)))
      obtain ⟨f0, f1, f2, f3, f4, f5, g0, g1, g2, g3, g4, g5, _⟩ := HSH.out w9 (Below.refl _ _)
      clear HCY8 HPY8
      go_region_law (first
          | (go_simp
             go_at_call 11
             with_reducible refine Calls.mono (HITY.out w9.drew HWD.out) ?_
             rintro e wy ⟨Ay, ky, rfl, HCYn, hwy1, hwy2⟩
             obtain ⟨_, _, _, _, _, _, h0, h1, h2, h3, h4, h5, _⟩ := HSH.out wy hwy1.out
             have HWY := Lib.hid hwy1
             clear hwy1 hwy2
             dsimp only)
          | (go_simp
             go_at_call 11
             with_reducible refine Calls.mono (HITS.out wy HWY.out) ?_
             rintro e ws ⟨As, ks, rfl, HCSn, hws1, hws2⟩
             have HCYn2 := Lib.hid (Kd.C_below HCYn.out hws2.out)
             have HWS := Lib.hid hws1
             clear hws1 hws2
             dsimp only)
          | (go_simp
             go_at_call 10
             with_reducible refine Calls.mono (HSAME.out ws Ay ky As ks HWS.out HCYn2 HCSn) ?_
             rintro e wz ⟨rfl, hwz⟩
             dsimp only))
      all_goals
        go_wp2_with fail
        go_ret
        exact ⟨rfl, HB9.out.trans (hwz.out.mono HB9.out.size)⟩
    · have HPB := Lib.hid (back_print hp)
      have HPI := Lib.hid (pParse_in hp)
      have HPL := Lib.hid (show (prText x).length ≤ 4294967200 by rw [back_text hp, ← size_bl]; have := HLT.out; omega)
      have HXC := Lib.hid hxc
      have HXP := Lib.hid hxp
      clear hp hxc hxp HCASE
      go_wp2_with fail
      generalize hW : World.alloc w5 _ = w5b
      have hb6 : Below w5.heap.size w5 w5b := by rw [← hW]; exact (Below.refl _ _).alloc (Nat.le_refl _) _
      have HB5b := Lib.hid (HB5.out.trans (hb6.mono HB5.out.size))
      have HX5b := Lib.hid ((hb6.block _ (lt_of_block HX5.out)).trans HX5.out)
      refine (print_walk x B1 B2 k1 k2 w5b (HG.out.below HB5b.out) (Kd.C_below HXC.out hb6) (Kd.C_below HXP.out hb6) HPI.out.ok HPL.out _ HPB.out).mono ?_
      rintro e w6 ⟨rfl, hb7⟩
      have HB6 := Lib.hid (HB5b.out.trans (hb7.mono HB5b.out.size))
      have HX6 := Lib.hid ((hb7.block _ (lt_of_block HX5b.out)).trans HX5b.out)
      clear hW hb6 hb7 HX5b
      rw [mk_bl]
      have y0 := cell_blk HX6.out 0 (v := .int .i64 s.clients) rfl
      have y1 := cell_blk HX6.out 1 (v := .int .i64 s.shift) rfl
      have y2 := cell_blk HX6.out 2 (v := .int .i64 s.recs) rfl
      have y3 := cell_blk HX6.out 3 (v := .int .i64 s.chunks) rfl
      have y4 := cell_blk HX6.out 4 (v := .slice A1 s.calls.length c1) rfl
      have y5 := cell_blk HX6.out 5 (v := .slice A2 s.picks.length c2) rfl
      go_wp2_with fail
      clear y0 y1 y2 y3 y4 y5
      refine (print_walk s A1 A2 c1 c2 w6 (HG.out.below HB6.out) (Kd.C_below HC.out HB6.out) (Kd.C_below HP.out HB6.out) (HBN.out.ok HNUM.out) (prText_le HBN.out HNUM.out) _ rfl).mono ?_
      rintro e w7 ⟨rfl, hb7⟩
      have HB7 := Lib.hid (HB6.out.trans (hb7.mono HB6.out.size))
      have HX7 := Lib.hid ((hb7.block _ (lt_of_block HX6.out)).trans HX6.out)
      clear hb7
      by_cases hq : pParse (pieces (prText s)) = .ok s
      rotate_left
      · have hpp : pPrint s = ([], 1) := by rw [pPrint, if_neg hq]
        rw [hpp]
        clear hpp hq
        go_wp2_with fail
        go_ret
        exact ⟨rfl, HB7.out⟩
      have hpp : pPrint s = (prText s, 0) := by rw [pPrint, if_pos hq]
      rw [hpp]
      obtain ⟨T, hT⟩ : ∃ T : ByteArray, ⟨(prText s).toArray⟩ = T := ⟨_, rfl⟩
      have HTS := Lib.hid (show T.size ≤ 4294967280 by rw [← hT, size_mk]; have := prText_le HBN.out HNUM.out; omega)
      have HTQ := Lib.hid (show pParse (pieces (bl T)) = .ok s by rw [← hT]; exact hq)
      dsimp only
      rw [hT]
      clear hpp hq hT
      go_wp2_with fail
      refine (parse_any T HTS.out w7 (HG.out.below HB7.out) _ HTQ.out).mono ?_
      rintro e w8 ⟨vc, vp, rfl, hvc, hvp, hb8⟩
      obtain ⟨A5, k5, rfl⟩ := Kd.R_slice hvc
      obtain ⟨A6, k6, rfl⟩ := Kd.R_slice hvp
      have HCY8 := Lib.hid (Kd.R_reads' hvc).2.2
      have HPY8 := Lib.hid (Kd.R_reads' hvp).2.2
      have HB8 := Lib.hid (HB7.out.trans (hb8.mono HB7.out.size))
      have HX8 := Lib.hid ((hb8.block _ (lt_of_block HX7.out)).trans HX7.out)
      clear hvc hvp hb8
      go_wp2_with fail
      generalize hW : World.alloc w8 _ = w9
      obtain ⟨b9, hb9⟩ : ∃ b9, w8.heap.size = b9 := ⟨_, rfl⟩
      have hbb : Below w8.heap.size w8 w9 := by rw [← hW]; exact (Below.refl _ _).alloc (Nat.le_refl _) _
      have HY9 := Lib.hid (show w9.heap[b9]? = some (.cells (scCells s.clients s.shift s.recs s.chunks (.slice A5 s.calls.length k5) (.slice A6 s.picks.length k6)) 27 (0, 0)) by rw [← hW, ← hb9]; exact alloc_new _ _)
      have HX9 := Lib.hid ((hbb.block _ (lt_of_block HX8.out)).trans HX8.out)
      have HB9 := Lib.hid (HB8.out.trans (hbb.mono HB8.out.size))
      have HCY9 := Lib.hid (Kd.C_below HCY8.out hbb)
      have HPY9 := Lib.hid (Kd.C_below HPY8.out hbb)
      rw [hb9]
      clear hW hb9 hbb HX8 HX7 HX6 HX4 HX3 HX2
      have HSM := Lib.hid HBN.out.small
      have HSH := Lib.hid (show ∀ W, Below w9.heap.size w9 W → (W.cell? ⟨b9, 0, none⟩ = some (.int .i64 s.clients) ∧ W.cell? ⟨b9, 1, none⟩ = some (.int .i64 s.shift) ∧ W.cell? ⟨b9, 2, none⟩ = some (.int .i64 s.recs) ∧ W.cell? ⟨b9, 3, none⟩ = some (.int .i64 s.chunks) ∧ W.cell? ⟨b9, 4, none⟩ = some (.slice A5 s.calls.length k5) ∧ W.cell? ⟨b9, 5, none⟩ = some (.slice A6 s.picks.length k6) ∧ W.cell? ⟨b, 0, none⟩ = some (.int .i64 s.clients) ∧ W.cell? ⟨b, 1, none⟩ = some (.int .i64 s.shift) ∧ W.cell? ⟨b, 2, none⟩ = some (.int .i64 s.recs) ∧ W.cell? ⟨b, 3, none⟩ = some (.int .i64 s.chunks) ∧ W.cell? ⟨b, 4, none⟩ = some (.slice A1 s.calls.length c1) ∧ W.cell? ⟨b, 5, none⟩ = some (.slice A2 s.picks.length c2) ∧ Hid (Below w9.heap.size w9 W)) from fun W hW =>
        ⟨cell_blk ((hW.block _ (lt_of_block HY9.out)).trans HY9.out) 0 rfl, cell_blk ((hW.block _ (lt_of_block HY9.out)).trans HY9.out) 1 rfl, cell_blk ((hW.block _ (lt_of_block HY9.out)).trans HY9.out) 2 rfl, cell_blk ((hW.block _ (lt_of_block HY9.out)).trans HY9.out) 3 rfl, cell_blk ((hW.block _ (lt_of_block HY9.out)).trans HY9.out) 4 rfl, cell_blk ((hW.block _ (lt_of_block HY9.out)).trans HY9.out) 5 rfl,
         cell_blk ((hW.block _ (lt_of_block HX9.out)).trans HX9.out) 0 rfl, cell_blk ((hW.block _ (lt_of_block HX9.out)).trans HX9.out) 1 rfl, cell_blk ((hW.block _ (lt_of_block HX9.out)).trans HX9.out) 2 rfl, cell_blk ((hW.block _ (lt_of_block HX9.out)).trans HX9.out) 3 rfl, cell_blk ((hW.block _ (lt_of_block HX9.out)).trans HX9.out) 4 rfl, cell_blk ((hW.block _ (lt_of_block HX9.out)).trans HX9.out) 5 rfl, Lib.hid hW⟩)
      have HITY := Lib.hid (show ∀ W, Hid (Below w9.heap.size w9 W) → Calls Tryd.prog 11 #[.agg #[.int .i64 s.clients, .int .i64 s.shift, .int .i64 s.recs, .int .i64 s.chunks, .slice A5 s.calls.length k5, .slice A6 s.picks.length k6]] W fun e w' => ∃ A k, e = .returned (.agg #[.int .i64 s.clients, .int .i64 s.shift, .int .i64 s.recs, .int .i64 s.chunks, .slice A s.calls.length k, .slice A6 s.picks.length k6]) ∧ Hid (kRow.C w' A s.calls.length s.calls) ∧ Hid (Below w9.heap.size w9 w') ∧ Hid (Below W.heap.size W w') from fun W hW =>
        (its_any s A5 A6 k5 k6 W (Kd.C_below HCY9.out hW.out) HSM.out.1 HSM.out.2).mono (by
          rintro e w' ⟨A, k, h1, h2, h3⟩
          exact ⟨A, k, h1, Lib.hid (row2.1 h2), Lib.hid (hW.out.trans (h3.mono hW.out.size)), Lib.hid h3⟩))
      have HITS := Lib.hid (show ∀ W, Hid (Below w9.heap.size w9 W) → Calls Tryd.prog 11 #[.agg #[.int .i64 s.clients, .int .i64 s.shift, .int .i64 s.recs, .int .i64 s.chunks, .slice A1 s.calls.length c1, .slice A2 s.picks.length c2]] W fun e w' => ∃ A k, e = .returned (.agg #[.int .i64 s.clients, .int .i64 s.shift, .int .i64 s.recs, .int .i64 s.chunks, .slice A s.calls.length k, .slice A2 s.picks.length c2]) ∧ Hid (kRow.C w' A s.calls.length s.calls) ∧ Hid (Below w9.heap.size w9 w') ∧ Hid (Below W.heap.size W w') from fun W hW =>
        (its_any s A1 A2 c1 c2 W (Kd.C_below (Kd.C_below HC.out HB9.out) hW.out) HSM.out.1 HSM.out.2).mono (by
          rintro e w' ⟨A, k, h1, h2, h3⟩
          exact ⟨A, k, h1, Lib.hid (row2.1 h2), Lib.hid (hW.out.trans (h3.mono hW.out.size)), Lib.hid h3⟩))
      have HSAME := Lib.hid (show ∀ W A k A' k', Hid (Below w9.heap.size w9 W) → Hid (kRow.C W A s.calls.length s.calls) → Hid (kRow.C W A' s.calls.length s.calls) → Calls Tryd.prog 10 #[.agg #[.int .i64 s.clients, .int .i64 s.shift, .int .i64 s.recs, .int .i64 s.chunks, .slice A s.calls.length k, .slice A6 s.picks.length k6], .agg #[.int .i64 s.clients, .int .i64 s.shift, .int .i64 s.recs, .int .i64 s.chunks, .slice A' s.calls.length k', .slice A2 s.picks.length c2]] W fun e w' => e = .returned (.bool true) ∧ Hid (Below w9.heap.size w9 w') from fun W A k A' k' hW h1 h2 =>
        (sameS_any s s A A6 A' A2 k k6 k' c2 W h1.out (Kd.C_below HPY9.out hW.out) h2.out (Kd.C_below (Kd.C_below HP.out HB9.out) hW.out) HNUM.out.p HNUM.out.p (by have := HSM.out.1; omega) (fun row hr => ⟨by have := (HSM.out.2 row hr).1; omega, fun c hc => by have := (HSM.out.2 row hr).2 c hc; omega⟩)).mono (by
          rintro e w' ⟨⟨r, rfl, hr⟩, h3⟩
          obtain rfl : r = true := hr.2 rfl
          exact ⟨rfl, Lib.hid (hW.out.trans (h3.mono hW.out.size))⟩))
      have HWD := Lib.hid (show Hid (Below w9.heap.size w9 w9.drew) from Lib.hid (below_drew (Below.refl _ _)))
      obtain ⟨f0, f1, f2, f3, f4, f5, g0, g1, g2, g3, g4, g5, _⟩ := HSH.out w9 (Below.refl _ _)
      clear HCY8 HPY8
      go_region_law (first
          | (go_simp
             go_at_call 11
             with_reducible refine Calls.mono (HITY.out w9.drew HWD.out) ?_
             rintro e wy ⟨Ay, ky, rfl, HCYn, hwy1, hwy2⟩
             obtain ⟨_, _, _, _, _, _, h0, h1, h2, h3, h4, h5, _⟩ := HSH.out wy hwy1.out
             have HWY := Lib.hid hwy1
             clear hwy1 hwy2
             dsimp only)
          | (go_simp
             go_at_call 11
             with_reducible refine Calls.mono (HITS.out wy HWY.out) ?_
             rintro e ws ⟨As, ks, rfl, HCSn, hws1, hws2⟩
             have HCYn2 := Lib.hid (Kd.C_below HCYn.out hws2.out)
             have HWS := Lib.hid hws1
             clear hws1 hws2
             dsimp only)
          | (go_simp
             go_at_call 10
             with_reducible refine Calls.mono (HSAME.out ws Ay ky As ks HWS.out HCYn2 HCSn) ?_
             rintro e wz ⟨rfl, hwz⟩
             dsimp only))
      all_goals
        go_wp2_with fail
        go_ret
        exact ⟨rfl, HB9.out.trans (hwz.out.mono HB9.out.size)⟩
end Go.Proofs.YtjcdpccfhpbccaaDoor
