/-
  The walk of Parse: what is deferred.
-/
import Derived.Test.YtjcdpccfhpbccaaGreatDoorE2
import Derived.Defers
import Derived.Recover
import Derived.Laws.Pointers
namespace Go.Proofs.YtjcdpccfhpbccaaGreatDoor
open Go.RowKit Go.Proofs.YtjcdpccfhpbccaaGreatDoorW.PrintWords

def scrZero : Array Value := #[.int .i64 0, .int .i64 0, .int .i64 0, .int .i64 0, .slice none 0 0, .slice none 0 0]
theorem scrZero_size : scrZero.size = 6 := rfl
theorem scrZero_one : scrZero.all (·.oneCell') = true := by kernel_rfl

set_option maxRecDepth 100000 in
set_option maxHeartbeats 1000000 in
theorem closed_wrong (p0 p1 p2 : Nat) (n x y : Int) (c0 : Array Value) (w : World) (h0 : w.heap[p0]? = some (.cells c0 28 (0, 0))) (hs : c0.size = 6)
    (h1 : w.heap[p1]? = some (.cells #[.int .i64 x] 3 (0, 0))) (h2 : w.heap[p2]? = some (.cells #[.int .i64 y] 29 (0, 0))) (h01 : p0 ≠ p1) (h02 : p0 ≠ p2) (h12 : p1 ≠ p2) :
    CallsD Tryz.prog 15 #[.pointer (some ⟨p0, 0, none⟩), .pointer (some ⟨p1, 0, none⟩), .pointer (some ⟨p2, 0, none⟩)] (.panicking [{ v := .iface 55 (.int .i64 n), recovered := false }]) w fun e u' w' =>
      e = .returned (.tuple #[]) ∧ u' = .panicking [{ v := .iface 55 (.int .i64 n), recovered := true }] ∧ w' = ((w.setRow p0 scrZero).setCell ⟨p1, 0, none⟩ (.int .i64 n)).setCell ⟨p2, 0, none⟩ (.int .i64 210) := by
  refine callsD_of_wpS Tryz.func15 rfl fun c₀ cs hu => ?_
  apply wpS_seq
  apply wpS_region
  simp [wpOpsS, go_sem, recoverD, hu, Tryz.ntmps15, Exit.thenS]
  refine wpS_of_wp ?_
  show Code.wp _ _ _ { tmps := #[.pointer (some ⟨p0, 0, none⟩), .pointer (some ⟨p1, 0, none⟩), .pointer (some ⟨p2, 0, none⟩), undef, undef, undef, .iface 55 (.int .i64 n), undef, undef, undef, undef, undef, undef, undef], defers := [] } _
  have hta : ∀ w, (Instr.typeAssert (.iface 55 (.int .i64 n)) 20 55 true).run Tryz.prog w = .ok (.tuple #[.int .i64 n, .bool true]) w := fun w => by kernel_rfl
  have HS := Lib.hid h0
  have k1 : (w.setRow p0 scrZero).heap[p1]? = some (.cells #[.int .i64 x] 3 (0, 0)) := (setRow_other w p0 p1 scrZero (Ne.symm h01)).trans h1
  have k2 : (w.setRow p0 scrZero).heap[p2]? = some (.cells #[.int .i64 y] 29 (0, 0)) := (setRow_other w p0 p2 scrZero (Ne.symm h02)).trans h2
  have m1 := cell_blk k1 0 (v := .int .i64 x) rfl
  have m2 := froz_blk k1 0
  have k3 := set_blk_ne k2 (Ne.symm h12) 0 (.int .i64 n)
  have m3 := cell_blk k3 0 (v := .int .i64 y) rfl
  have m4 := froz_blk k3 0
  clear h0 k1 k2 k3 h1 h2
  go_wp2_with (refine wpList_store_row rfl 28 _ _ rfl p0 scrZero rfl rfl 28 _ HS.out scr_info (by rw [hs]; rfl) scrZero_one ?_)
  simp [bodyPostS, results, Tryz.results15]
end Go.Proofs.YtjcdpccfhpbccaaGreatDoor
