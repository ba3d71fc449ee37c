/-
  The walks of a script's text: a query's.
-/
import Derived.Test.YtjcdpccfhpbccaaGreatDoorE5
import Derived.Deep.RegionHeld3
import Derived.Lib.ItoaLen
namespace Go.Proofs.YtjcdpccfhpbccaaGreatDoor
open Go.RowKit Go.Proofs.YtjcdpccfhpbccaaGreatDoorW.PrintWords

def qText (q : QD) : List UInt8 := 32 :: Lib.itoa q.k ++ 32 :: Lib.itoa q.i ++ 32 :: Lib.itoa q.b ++ 32 :: 91 :: bl q.x ++ [93]

structure QHeld (w : World) (k i b : Int) (x : ByteArray) (W : World) : Prop where
  q : W.heap[w.heap.size]? = some (.cells #[.int .i64 k, .int .i64 i, .int .i64 b, .string x] 51 (0, 0))
  be : Below w.heap.size w W
theorem QHeld.below {w W W1 : World} {k i b : Int} {x : ByteArray} (h : QHeld w k i b x W) (hb : Below W.heap.size W W1) : QHeld w k i b x W1 :=
  ⟨(hb.block _ (lt_of_block h.q)).trans h.q, h.be.trans (hb.mono h.be.size)⟩
theorem QHeld.loads {w W : World} {k i b : Int} {x : ByteArray} (h : QHeld w k i b x W) : W.cell? ⟨w.heap.size, 0, none⟩ = some (.int .i64 k) ∧ W.cell? ⟨w.heap.size, 1, none⟩ = some (.int .i64 i) ∧ W.cell? ⟨w.heap.size, 2, none⟩ = some (.int .i64 b) ∧ W.cell? ⟨w.heap.size, 3, none⟩ = some (.string x) ∧ Hid (QHeld w k i b x W) :=
  ⟨cell_blk h.q 0 rfl, cell_blk h.q 1 rfl, cell_blk h.q 2 rfl, cell_blk h.q 3 rfl, Lib.hid h⟩

def QLoads (w : World) (k i b : Int) (x : ByteArray) (W : World) : Prop := W.cell? ⟨w.heap.size, 0, none⟩ = some (.int .i64 k) ∧ W.cell? ⟨w.heap.size, 1, none⟩ = some (.int .i64 i) ∧ W.cell? ⟨w.heap.size, 2, none⟩ = some (.int .i64 b) ∧ W.cell? ⟨w.heap.size, 3, none⟩ = some (.string x) ∧ Hid (QHeld w k i b x W)
theorem itoa_held {w W : World} {k i b : Int} {x : ByteArray} (v : Int) (hv : I64 v) (hG : Glob w) (h : W.cell? ⟨w.heap.size, 0, none⟩ = some (.int .i64 k) ∧ W.cell? ⟨w.heap.size, 1, none⟩ = some (.int .i64 i) ∧ W.cell? ⟨w.heap.size, 2, none⟩ = some (.int .i64 b) ∧ W.cell? ⟨w.heap.size, 3, none⟩ = some (.string x) ∧ Hid (QHeld w k i b x W)) :
    Calls Tryz.prog 28 #[.int .i64 v] W fun e w' => e = .returned (.string ⟨(Lib.itoa v).toArray⟩) ∧ w'.cell? ⟨w.heap.size, 0, none⟩ = some (.int .i64 k) ∧ w'.cell? ⟨w.heap.size, 1, none⟩ = some (.int .i64 i) ∧ w'.cell? ⟨w.heap.size, 2, none⟩ = some (.int .i64 b) ∧ w'.cell? ⟨w.heap.size, 3, none⟩ = some (.string x) ∧ Hid (QHeld w k i b x w') := by
  refine (itoa_any v hv.1 hv.2 W (hG.below h.2.2.2.2.out.be)).mono ?_
  rintro e w' ⟨he, hb⟩
  exact ⟨he, (h.2.2.2.2.out.below hb).loads⟩

theorem qend {w W : World} {k i b : Int} {x : ByteArray} (h : W.cell? ⟨w.heap.size, 0, none⟩ = some (.int .i64 k) ∧ W.cell? ⟨w.heap.size, 1, none⟩ = some (.int .i64 i) ∧ W.cell? ⟨w.heap.size, 2, none⟩ = some (.int .i64 b) ∧ W.cell? ⟨w.heap.size, 3, none⟩ = some (.string x) ∧ Hid (QHeld w k i b x W)) : Below w.heap.size w W := h.2.2.2.2.out.be
set_option maxRecDepth 100000 in
set_option maxHeartbeats 2000000 in
theorem query_any (k i b : Int) (hk : I64 k) (hi : I64 i) (hb : I64 b) (x : ByteArray) (hx : x.size ≤ 4294967280) (w : World) (hG : Glob w) :
    Calls Tryz.prog 58 #[.agg #[.int .i64 k, .int .i64 i, .int .i64 b, .string x]] w fun e w' => e = .returned (.string ⟨(qText ⟨k, i, b, x⟩).toArray⟩) ∧ Below w.heap.size w w' := by
  have l1 := Lib.itoa_length_le k hk.1 hk.2
  have l2 := Lib.itoa_length_le i hi.1 hi.2
  have l3 := Lib.itoa_length_le b hb.1 hb.2
  have s1 := size_mk (Lib.itoa k)
  have s2 := size_mk (Lib.itoa i)
  have s3 := size_mk (Lib.itoa b)
  obtain ⟨T1, h1⟩ : ∃ T : ByteArray, ⟨(Lib.itoa k).toArray⟩ = T := ⟨_, rfl⟩
  obtain ⟨T2, h2⟩ : ∃ T : ByteArray, ⟨(Lib.itoa i).toArray⟩ = T := ⟨_, rfl⟩
  obtain ⟨T3, h3⟩ : ∃ T : ByteArray, ⟨(Lib.itoa b).toArray⟩ = T := ⟨_, rfl⟩
  rw [h1] at s1
  rw [h2] at s2
  rw [h3] at s3
  have z1 : T1.size ≤ 21 := by omega
  have z2 : T2.size ≤ 21 := by omega
  have z3 : T3.size ≤ 21 := by omega
  have H1 := Lib.hid (And.intro hk h1)
  have H2 := Lib.hid (And.intro hi h2)
  have H3 := Lib.hid (And.intro hb h3)
  have HG := Lib.hid hG
  have HQ := Lib.hid (show (⟨#[32]⟩ ++ T1 ++ ⟨#[32]⟩ ++ T2 ++ ⟨#[32]⟩ ++ T3 ++ ⟨#[32, 91]⟩ ++ x ++ ⟨#[93]⟩ : ByteArray) = ⟨(qText ⟨k, i, b, x⟩).toArray⟩ by
    rw [← h1, ← h2, ← h3, ← mk_bl (⟨#[32]⟩ ++ _ ++ _ ++ _ ++ _ ++ _ ++ _ ++ _ ++ _)]
    simp [qText, bl, ByteArray.data_append])
  clear l1 l2 l3 s1 s2 s3 hk hi hb h1 h2 h3 hG
  have n1 : ¬9223372036854775807 < 1 + T1.size := by omega
  have n2 : ¬9223372036854775807 < 1 + T1.size + 1 := by omega
  have n3 : ¬9223372036854775807 < 1 + T1.size + 1 + T2.size := by omega
  have n4 : ¬9223372036854775807 < 1 + T1.size + 1 + T2.size + 1 := by omega
  have n5 : ¬9223372036854775807 < 1 + T1.size + 1 + T2.size + 1 + T3.size := by omega
  have n6 : ¬9223372036854775807 < 1 + T1.size + 1 + T2.size + 1 + T3.size + 2 := by omega
  have n7 : ¬9223372036854775807 < 1 + T1.size + 1 + T2.size + 1 + T3.size + 2 + x.size := by omega
  have n8 : ¬9223372036854775807 < 1 + T1.size + 1 + T2.size + 1 + T3.size + 2 + x.size + 1 := by omega
  go_enter Tryz.func58, Tryz.ntmps58
  go_wp2_with fail
  generalize hW : World.alloc w _ = w1
  have hW' : w1 = w.alloc (.cells #[.int .i64 k, .int .i64 i, .int .i64 b, .string x] 51) := hW.symm
  have hb0 : w1.heap[w.heap.size]? = some (.cells #[.int .i64 k, .int .i64 i, .int .i64 b, .string x] 51 (0, 0)) := by rw [hW']; exact alloc_new _ _
  have hbe : Below w.heap.size w w1 := by rw [hW']; exact (Below.refl _ _).alloc (Nat.le_refl _) _
  have hS0 : QHeld w k i b x w1.drew := QHeld.mk (blk_drew hb0) (below_drewN hbe 1)
  clear hW hW' hb0 hbe
  have HS0 := Lib.hid hS0
  have hS1 := hS0.loads
  go_region_held3 (fun w' => w'.cell? ⟨w.heap.size, 0, none⟩ = some (.int .i64 k) ∧ w'.cell? ⟨w.heap.size, 1, none⟩ = some (.int .i64 i) ∧ w'.cell? ⟨w.heap.size, 2, none⟩ = some (.int .i64 b) ∧ w'.cell? ⟨w.heap.size, 3, none⟩ = some (.string x) ∧ Hid (QHeld w k i b x w'))
    (first | exact hS1 | assumption)
    (first
      | (go_at_call 28; refine Calls.mono (itoa_held (k := k) (i := i) (b := b) (x := x) k H1.out.1 HG.out (by assumption)) ?_; rintro e w2 ⟨rfl, hS2⟩; rw [H1.out.2])
      | (go_at_call 28; refine Calls.mono (itoa_held (k := k) (i := i) (b := b) (x := x) i H2.out.1 HG.out (by assumption)) ?_; rintro e w2 ⟨rfl, hS2⟩; rw [H2.out.2])
      | (go_at_call 28; refine Calls.mono (itoa_held (k := k) (i := i) (b := b) (x := x) b H3.out.1 HG.out (by assumption)) ?_; rintro e w2 ⟨rfl, hS2⟩; rw [H3.out.2]))
  all_goals
    go_wp2_with fail
    go_ret
    exact ⟨by rw [HQ.out]; rfl, qend (k := k) (i := i) (b := b) (x := x) (by assumption)⟩
end Go.Proofs.YtjcdpccfhpbccaaGreatDoor
