/-
  The walk of May: whether an operation has just what its kind has.
-/
import Derived.Test.YtjcdpccfhpbccaaDoorB1
import Derived.Test.YtjcdpccfhpbccaaDoorB2
namespace Go.Proofs.YtjcdpccfhpbccaaDoor
open Go.RowKit

def mayB (k i t a : Int) (nm tx : ByteArray) : Bool :=
  decide (1 ≤ k ∧ k ≤ 8) && (decide (nm.size ≤ 255) && (decide (tx.size ≤ 255) &&
    (decide (zer (shNum k.toNat) 3 0 i = 0) && (decide (zer (shNum k.toNat) 3 1 t = 0) && (decide (zer (shNum k.toNat) 3 2 a = 0) && (decide ((emp (shName k.toNat) nm).toList = []) && decide ((emp (shText k.toNat) tx).toList = [])))))))

set_option maxRecDepth 100000 in
set_option maxHeartbeats 1000000 in
theorem may_out (k i t a : Int) (nm tx : ByteArray) (hn : nm.size ≤ 9223372036854775807) (ht : tx.size ≤ 9223372036854775807) (w : World) (h : ¬ (1 ≤ k ∧ k ≤ 8) ∨ 255 < nm.size ∨ 255 < tx.size) :
    Calls Tryd.prog 12 #[.agg #[.int .i64 k, .int .i64 i, .int .i64 t, .int .i64 a, .string nm, .string tx]] w fun e w' => e = .returned (.bool false) ∧ Below w.heap.size w w' := by
  by_cases h1 : 1 ≤ k ∧ k ≤ 8
  · obtain ⟨n, rfl⟩ : ∃ n : Nat, k = n := ⟨k.toNat, by omega⟩
    have h2 : 255 < nm.size ∨ nm.size ≤ 255 ∧ 255 < tx.size := by
      rcases h with h | h | h
      · exact absurd h1 h
      · exact .inl h
      · by_cases h3 : 255 < nm.size
        · exact .inl h3
        · exact .inr ⟨by omega, h⟩
    clear h
    rcases h2 with h2 | ⟨h2, h3⟩
    all_goals
      go_enter Tryd.func12, Tryd.ntmps12
      go_wp2_with fail
      refine (shaped_yes n (by omega) (by omega) _).mono ?_
      rintro e w1 ⟨rfl, hb⟩
      have hc := (hb.cell (p := ⟨w.heap.size, 4, none⟩) (by simp)).trans (cell_blk (alloc_new w _) 4 (v := .string nm) rfl)
      have hd := (hb.cell (p := ⟨w.heap.size, 5, none⟩) (by simp)).trans (cell_blk (alloc_new w _) 5 (v := .string tx) rfl)
      have hs : w.heap.size < w1.heap.size := by have := hb.size; simp at this; omega
      have HB := Lib.hid hb
      clear hb
      unfold shv
      go_wp2_with fail
      go_ret
      exact ⟨rfl, (below_via HB.out).alloc (by omega) _⟩
  · go_enter Tryd.func12, Tryd.ntmps12
    go_wp2_with fail
    refine (shaped_no k (by omega) _).mono ?_
    rintro e w1 ⟨rfl, hb⟩
    have hs : w.heap.size < w1.heap.size := by have := hb.size; simp at this; omega
    have HB := Lib.hid hb
    clear hb h
    go_wp2_with fail
    go_ret
    exact ⟨rfl, (below_via HB.out).alloc (by omega) _⟩

set_option maxRecDepth 100000 in
set_option maxHeartbeats 1000000 in
theorem may_in (n : Nat) (i t a : Int) (nm tx : ByteArray) (h1 : 1 ≤ n) (h8 : n ≤ 8) (hn : nm.size ≤ 255) (ht : tx.size ≤ 255) (w : World) :
    Calls Tryd.prog 12 #[.agg #[.int .i64 n, .int .i64 i, .int .i64 t, .int .i64 a, .string nm, .string tx]] w fun e w' => e = .returned (.bool (mayB n i t a nm tx)) ∧ Below w.heap.size w w' := by
  go_enter Tryd.func12, Tryd.ntmps12
  go_wp2_with fail
  refine (shaped_yes n h1 h8 _).mono ?_
  rintro e w1 ⟨rfl, hb⟩
  have hk := (hb.cell (p := ⟨w.heap.size, 0, none⟩) (by simp)).trans (cell_blk (alloc_new w _) 0 (v := .int .i64 n) rfl)
  have hi := (hb.cell (p := ⟨w.heap.size, 1, none⟩) (by simp)).trans (cell_blk (alloc_new w _) 1 (v := .int .i64 i) rfl)
  have htt := (hb.cell (p := ⟨w.heap.size, 2, none⟩) (by simp)).trans (cell_blk (alloc_new w _) 2 (v := .int .i64 t) rfl)
  have ha := (hb.cell (p := ⟨w.heap.size, 3, none⟩) (by simp)).trans (cell_blk (alloc_new w _) 3 (v := .int .i64 a) rfl)
  have hc := (hb.cell (p := ⟨w.heap.size, 4, none⟩) (by simp)).trans (cell_blk (alloc_new w _) 4 (v := .string nm) rfl)
  have hd := (hb.cell (p := ⟨w.heap.size, 5, none⟩) (by simp)).trans (cell_blk (alloc_new w _) 5 (v := .string tx) rfl)
  have hs : w.heap.size < w1.heap.size := by have := hb.size; simp at this; omega
  have HB := Lib.hid hb
  clear hb
  unfold shv
  go_wp2_with fail
  refine (each_may (w1.heap.size + 1) n i t a nm tx (shWord n) (shNum n) (by unfold shNum; split <;> decide) (shName n) (shText n) _ (by exact heap_alloc2_new _ _ _)).mono ?_
  rintro e w2 ⟨rfl, ho, hm⟩
  have k0 := cell_blk ho 0 (v := .int .i64 n) rfl
  have k1 := cell_blk ho 1 (v := .int .i64 (zer (shNum n) 3 0 i)) rfl
  have k2 := cell_blk ho 2 (v := .int .i64 (zer (shNum n) 3 1 t)) rfl
  have k3 := cell_blk ho 3 (v := .int .i64 (zer (shNum n) 3 2 a)) rfl
  have k4 := cell_blk ho 4 (v := .string (emp (shName n) nm)) rfl
  have k5 := cell_blk ho 5 (v := .string (emp (shText n) tx)) rfl
  have hk2 := hm.cell (a := ⟨w.heap.size, 0, none⟩) (((sh_b2 w1 _ _).cell (p := ⟨w.heap.size, 0, none⟩) hs).trans hk) (by show ¬ w.heap.size = _; omega)
  have HM := Lib.hid hm
  clear ho hk hi htt ha hc hd hm
  have hmay : mayB n i t a nm tx = (decide (zer (shNum n) 3 0 i = 0) && (decide (zer (shNum n) 3 1 t = 0) && (decide (zer (shNum n) 3 2 a = 0) && (decide ((emp (shName n) nm).toList = []) && decide ((emp (shText n) tx).toList = []))))) := by
    have e1 : (1 : Int) ≤ n ∧ (n : Int) ≤ 8 := by omega
    simp only [mayB, Int.toNat_natCast, e1, hn, ht, and_self, decide_true, Bool.true_and]
  have HMAY := Lib.hid hmay
  clear hmay
  generalize zer (shNum n) 3 0 i = z0 at *
  generalize zer (shNum n) 3 1 t = z1 at *
  generalize zer (shNum n) 3 2 a = z2 at *
  generalize emp (shName n) nm = z3 at *
  generalize emp (shText n) tx = z4 at *
  go_wp2_with fail
  all_goals
    go_ret
    refine ⟨?_, (((below_via HB.out).trans ((sh_b2 w1 _ _).mono (by omega))).trans (HM.out.below (B := w.heap.size) (by simp; omega) (fun k hk => by omega)))⟩
    rw [HMAY.out]
    simp [*]
    done
theorem mayB_out {k i t a : Int} {nm tx : ByteArray} (h : ¬ (1 ≤ k ∧ k ≤ 8) ∨ 255 < nm.size ∨ 255 < tx.size) : mayB k i t a nm tx = false := by
  unfold mayB
  rcases h with h | h | h
  · simp [h]
  · simp [show ¬ nm.size ≤ 255 from by omega]
  · simp [show ¬ tx.size ≤ 255 from by omega]
theorem may_any (k i t a : Int) (nm tx : ByteArray) (hn : nm.size ≤ 9223372036854775807) (ht : tx.size ≤ 9223372036854775807) (w : World) :
    Calls Tryd.prog 12 #[.agg #[.int .i64 k, .int .i64 i, .int .i64 t, .int .i64 a, .string nm, .string tx]] w fun e w' => e = .returned (.bool (mayB k i t a nm tx)) ∧ Below w.heap.size w w' := by
  by_cases h : ¬ (1 ≤ k ∧ k ≤ 8) ∨ 255 < nm.size ∨ 255 < tx.size
  · rw [mayB_out h]
    exact may_out k i t a nm tx hn ht w h
  · have h1 : 1 ≤ k ∧ k ≤ 8 ∧ nm.size ≤ 255 ∧ tx.size ≤ 255 := by omega
    obtain ⟨n, rfl⟩ : ∃ n : Nat, k = n := ⟨k.toNat, by omega⟩
    exact may_in n i t a nm tx (by omega) (by omega) h1.2.2.1 h1.2.2.2 w
end Go.Proofs.YtjcdpccfhpbccaaDoor
