/-
  The walk of ScriptPrints.
-/
import Derived.Test.YtjcdpccfhpbccaaGreatDoorR4
import Derived.Test.YtjcdpccfhpbccaaGreatDoorO0
namespace Go.Proofs.YtjcdpccfhpbccaaGreatDoor
open Go.RowKit Go.Proofs.YtjcdpccfhpbccaaGreatDoorW.PrintWords

set_option maxRecDepth 100000 in
set_option maxHeartbeats 4000000 in
theorem prints_walk (s : ScrD) (A1 A2 : Option Addr) (c1 c2 : Nat) (w : World) (hG : Glob w) (hC : kRow.C w A1 s.calls.length s.calls) (hP : (Kd.int .u8).C w A2 s.picks.length s.picks) (hrow : ∀ row ∈ s.calls, row.length ≤ 281474976710656) (hnum : NumOk s) :
    Calls Tryz.prog 4 #[.agg (scCells s.clients s.shift s.recs s.chunks (.slice A1 s.calls.length c1) (.slice A2 s.picks.length c2))] w fun e w' => e = .returned (.bool true) ∧ Below w.heap.size w w' := by
  have HG := Lib.hid hG
  have HC := Lib.hid hC
  have HP := Lib.hid hP
  have HROW := Lib.hid hrow
  have HNUM := Lib.hid hnum
  clear hG hC hP hrow hnum
  unfold scCells
  go_enter Tryz.func4, Tryz.ntmps4
  go_wp2_with fail
  generalize hW : World.alloc w _ = w2
  obtain ⟨b, hb⟩ : ∃ b, w.heap.size = b := ⟨_, rfl⟩
  have HX2 := Lib.hid (show w2.heap[b]? = some (.cells (scCells s.clients s.shift s.recs s.chunks (.slice A1 s.calls.length c1) (.slice A2 s.picks.length c2)) 28 (0, 0)) by rw [← hW, ← hb]; exact alloc_new _ _)
  have HB2 := Lib.hid (show Below w.heap.size w w2 by rw [← hW]; exact (Below.refl _ _).alloc (Nat.le_refl _) _)
  rw [hb]
  clear hW hb
  refine (bounded_any s A1 A2 c1 c2 w2 (Kd.C_below HC.out HB2.out) HROW.out).mono ?_
  rintro e w3 ⟨⟨r, rfl, hr⟩, hb3⟩
  have HB3 := Lib.hid (HB2.out.trans (hb3.mono HB2.out.size))
  have HX3 := Lib.hid ((hb3.block _ (lt_of_block HX2.out)).trans HX2.out)
  have HR := Lib.hid hr
  clear hr hb3
  cases r with
  | false =>
    go_wp2_with fail
    refine (shown_any w3 (HG.out.below HB3.out)).mono ?_
    rintro e w4 ⟨rfl, hb4⟩
    have HB4 := Lib.hid (HB3.out.trans (hb4.mono HB3.out.size))
    clear hb4
    go_wp2_with fail
    go_ret
    exact ⟨rfl, HB4.out⟩
  | true =>
    have HBN := Lib.hid (HR.out rfl)
    go_wp2_with fail
    refine (shown_any w3 (HG.out.below HB3.out)).mono ?_
    rintro e w4 ⟨rfl, hb4⟩
    have HB4 := Lib.hid (HB3.out.trans (hb4.mono HB3.out.size))
    have HX4 := Lib.hid ((hb4.block _ (lt_of_block HX3.out)).trans HX3.out)
    clear hb4
    have y0 := cell_blk HX4.out 0 (v := .int .i64 s.clients) rfl
    have y1 := cell_blk HX4.out 1 (v := .int .i64 s.shift) rfl
    have y2 := cell_blk HX4.out 2 (v := .int .i64 s.recs) rfl
    have y3 := cell_blk HX4.out 3 (v := .int .i64 s.chunks) rfl
    have y4 := cell_blk HX4.out 4 (v := .slice A1 s.calls.length c1) rfl
    have y5 := cell_blk HX4.out 5 (v := .slice A2 s.picks.length c2) rfl
    go_wp2_with fail
    clear y0 y1 y2 y3 y4 y5
    obtain ⟨⟨l, er⟩, hres⟩ : ∃ r, pPrint s = r := ⟨_, rfl⟩
    have HRES := Lib.hid hres
    clear hres
    refine (print_walk s A1 A2 c1 c2 w4 (HG.out.below HB4.out) (Kd.C_below HC.out HB4.out) (Kd.C_below HP.out HB4.out) (HBN.out.ok HNUM.out) (prText_le HBN.out HNUM.out) _ HRES.out).mono ?_
    rintro e w5 ⟨rfl, hb5⟩
    have HB5 := Lib.hid (HB4.out.trans (hb5.mono HB4.out.size))
    have HX5 := Lib.hid ((hb5.block _ (lt_of_block HX4.out)).trans HX4.out)
    clear hb5
    dsimp only
    obtain ⟨T, hT⟩ : ∃ T : ByteArray, ⟨l.toArray⟩ = T := ⟨_, rfl⟩
    rw [hT]
    have HT := Lib.hid hT
    have HSM := Lib.hid HBN.out.small
    clear hT
    have y0 := cell_blk HX5.out 0 (v := .int .i64 s.clients) rfl
    have y1 := cell_blk HX5.out 1 (v := .int .i64 s.shift) rfl
    have y2 := cell_blk HX5.out 2 (v := .int .i64 s.recs) rfl
    have y3 := cell_blk HX5.out 3 (v := .int .i64 s.chunks) rfl
    have y4 := cell_blk HX5.out 4 (v := .slice A1 s.calls.length c1) rfl
    have y5 := cell_blk HX5.out 5 (v := .slice A2 s.picks.length c2) rfl
    go_wp2_with fail
    clear y0 y1 y2 y3 y4 y5
    refine (its_any s A1 A2 c1 c2 w5 (Kd.C_below HC.out HB5.out) HSM.out.1 HSM.out.2).mono ?_
    rintro e w6 ⟨A3, k3, rfl, hc6, hb6⟩
    have HC6 := Lib.hid (row2.1 hc6)
    have HB6 := Lib.hid (HB5.out.trans (hb6.mono HB5.out.size))
    clear hc6 hb6
    go_wp2_with fail
    refine (rprint_any s A3 A2 k3 c2 w6 HC6.out (Kd.C_below HP.out HB6.out) (HBN.out.ok HNUM.out) (prText_le HBN.out HNUM.out) _ HRES.out).mono ?_
    rintro e w7 ⟨rfl, hb7⟩
    have HB7 := Lib.hid (HB6.out.trans (hb7.mono HB6.out.size))
    clear hb7
    dsimp only
    rw [HT.out]
    go_wp2_with fail
    go_ret
    exact ⟨rfl, HB7.out⟩
end Go.Proofs.YtjcdpccfhpbccaaGreatDoor
