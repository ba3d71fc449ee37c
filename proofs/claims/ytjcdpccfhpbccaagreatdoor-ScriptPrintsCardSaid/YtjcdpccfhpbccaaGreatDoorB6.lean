/-
  The walk of an operation's text.
-/
import Derived.Test.YtjcdpccfhpbccaaGreatDoorB5
namespace Go.Proofs.YtjcdpccfhpbccaaGreatDoor
open Go.RowKit

def opText (k i t a : Int) (nm tx : ByteArray) : List UInt8 :=
  if mayB k i t a nm tx then bl (shWord k.toNat) ++ numsTo (shNum k.toNat) (sel3 i t a) 3 ++ brkd (shName k.toNat) nm ++ brkd (shText k.toNat) tx else []
theorem mayB_in {k i t a : Int} {nm tx : ByteArray} (h : mayB k i t a nm tx = true) : 1 ≤ k ∧ k ≤ 8 ∧ nm.size ≤ 255 ∧ tx.size ≤ 255 := by
  unfold mayB at h
  simp only [Bool.and_eq_true, decide_eq_true_eq] at h
  exact ⟨h.1.1, h.1.2, h.2.1, h.2.2.1⟩
theorem shWord_len (k : Nat) : (bl (shWord k)).length ≤ 255 := by unfold shWord; split <;> decide

def I64 (x : Int) : Prop := -9223372036854775808 ≤ x ∧ x ≤ 9223372036854775807

set_option maxRecDepth 100000 in
set_option maxHeartbeats 1000000 in
theorem print_any (k i t a : Int) (hi : I64 i) (ht : I64 t) (ha : I64 a) (nm tx : ByteArray) (hn : nm.size ≤ 9223372036854775807) (htx : tx.size ≤ 9223372036854775807) (w : World) (hG : Glob w) :
    Calls Tryz.prog 57 #[.agg #[.int .i64 k, .int .i64 i, .int .i64 t, .int .i64 a, .string nm, .string tx]] w fun e w' => e = .returned (.string ⟨(opText k i t a nm tx).toArray⟩) ∧ Below w.heap.size w w' := by
  have hmf : ∀ (fn : Fn) (first cap : Array Value) (w : World), (Instr.makeFunc fn first cap).run Tryz.prog w = .ok (.func fn first cap) w := fun _ _ _ _ => rfl
  cases hm : mayB k i t a nm tx with
  | false =>
    have HM := Lib.hid hm
    clear hm
    go_enter Tryz.func57, Tryz.ntmps57
    go_wp2_with fail
    refine (may_any k i t a nm tx hn htx _).mono ?_
    rintro e w1 ⟨rfl, hb⟩
    rw [HM.out]
    have HB := Lib.hid hb
    clear hb
    go_wp2_with fail
    go_ret
    refine ⟨?_, below_via HB.out⟩
    unfold opText
    rw [HM.out]
    rfl
  | true =>
    obtain ⟨h1, h8, hn2, ht2⟩ := mayB_in hm
    obtain ⟨n, rfl⟩ : ∃ n : Nat, k = n := ⟨k.toNat, by omega⟩
    have HM := Lib.hid hm
    clear hm
    go_enter Tryz.func57, Tryz.ntmps57
    go_wp2_with fail
    refine (may_any n i t a nm tx hn htx _).mono ?_
    rintro e w1 ⟨rfl, hb⟩
    rw [HM.out]
    have hk := (hb.cell (p := ⟨w.heap.size, 0, none⟩) (by simp)).trans (cell_blk (alloc_new w _) 0 (v := .int .i64 n) rfl)
    have hs : w.heap.size < w1.heap.size := by have := hb.size; simp at this; omega
    have HO := Lib.hid ((hb.block w.heap.size (by simp)).trans (alloc_new w _))
    have HB := Lib.hid hb
    clear hb
    go_wp2_with fail
    refine (shaped_yes n (by omega) (by omega) _).mono ?_
    rintro e w2 ⟨rfl, hb2⟩
    have hs2 : w1.heap.size ≤ w2.heap.size := hb2.size
    have HO2 := Lib.hid ((hb2.block w.heap.size hs).trans HO.out)
    have HB2 := Lib.hid hb2
    clear hb2
    unfold shv
    go_wp2_with fail
    have hbw2 : Below w.heap.size w w2 := (below_via HB.out).trans (HB2.out.mono (by omega))
    refine (each_print w.heap.size (w2.heap.size + 1) n i t a hi ht ha nm tx (shWord n) hn2 ht2 (bl (shWord n)) (shWord_len n) (shNum n) (by unfold shNum; split <;> decide) (shName n) (shText n) _ ((hG.below hbw2).below (by exact sh_b2 w2 _ _)) ((sh_b2 w2 _ _).block w.heap.size (by omega) |>.trans HO2.out) ⟨shWord n, heap_alloc2_new _ _ _, rfl⟩ (by omega) (by have := hG.size; omega)).mono ?_
    rintro e w3 ⟨rfl, ⟨x, hx1, hx2⟩, hm3⟩
    have cx := cell_blk hx1 0 (v := .string x) rfl
    have HX := Lib.hid hx2
    have HM3 := Lib.hid hm3
    clear hx1 hx2 hm3
    go_wp2_with fail
    go_ret
    refine ⟨?_, (hbw2.trans ((sh_b2 w2 _ _).mono (by omega))).trans (HM3.out.below (B := w.heap.size) (by simp; omega) (fun k hk => by omega))⟩
    unfold opText
    rw [HM.out, if_pos rfl]
    show Ending.returned (.string x) = _
    rw [mk_of HX.out]
    rfl
end Go.Proofs.YtjcdpccfhpbccaaGreatDoor
