/-
  The walk of a script's conversion to the document's own.
-/
import Derived.Test.YtjcdpccfhpbccaaGreatDoorN0
namespace Go.Proofs.YtjcdpccfhpbccaaGreatDoor
open Go.RowKit Go.Proofs.YtjcdpccfhpbccaaGreatDoorW.PrintWords

structure Its (w W : World) (s : ScrD) (A1 A2 : Option Addr) (c1 c2 b : Nat) : Prop where
  bx : W.heap[b]? = some (.cells (scCells s.clients s.shift s.recs s.chunks (.slice A1 s.calls.length c1) (.slice A2 s.picks.length c2)) 28 (0, 0))
  be : Below w.heap.size w W
theorem Its.loads {w W : World} {s : ScrD} {A1 A2 : Option Addr} {c1 c2 b : Nat} (h : Its w W s A1 A2 c1 c2 b) : W.cell? ⟨b, 0, none⟩ = some (.int .i64 s.clients) ∧ W.cell? ⟨b, 1, none⟩ = some (.int .i64 s.shift) ∧ W.cell? ⟨b, 2, none⟩ = some (.int .i64 s.recs) ∧ W.cell? ⟨b, 3, none⟩ = some (.int .i64 s.chunks) ∧ W.cell? ⟨b, 4, none⟩ = some (.slice A1 s.calls.length c1) ∧ W.cell? ⟨b, 5, none⟩ = some (.slice A2 s.picks.length c2) ∧ Hid (Its w W s A1 A2 c1 c2 b) :=
  ⟨cell_blk h.bx 0 rfl, cell_blk h.bx 1 rfl, cell_blk h.bx 2 rfl, cell_blk h.bx 3 rfl, cell_blk h.bx 4 rfl, cell_blk h.bx 5 rfl, Lib.hid h⟩
theorem Its.below {w W W1 : World} {s : ScrD} {A1 A2 : Option Addr} {c1 c2 b : Nat} (h : Its w W s A1 A2 c1 c2 b) (hb : Below W.heap.size W W1) : Its w W1 s A1 A2 c1 c2 b :=
  ⟨(hb.block _ (lt_of_block h.bx)).trans h.bx, h.be.trans (hb.mono h.be.size)⟩
theorem Its.set {w W : World} {s : ScrD} {A1 A2 : Option Addr} {c1 c2 b : Nat} (h : Its w W s A1 A2 c1 c2 b) (hb : w.heap.size = b) (j : Nat) (u : Value) : Its w (W.setCell ⟨b + 1, j, none⟩ u) s A1 A2 c1 c2 b :=
  ⟨set_blk_ne h.bx (by omega) j u, ((Mut.of_below h.be (fun _ => False)).set (p := ⟨b + 1, j, none⟩) (.inr (by show w.heap.size ≤ b + 1; omega)) u).below (Nat.le_refl _) (fun _ h => h.elim)⟩
set_option maxRecDepth 100000 in
set_option maxHeartbeats 4000000 in
theorem its_any (s : ScrD) (A1 A2 : Option Addr) (c1 c2 : Nat) (w : World) (hC : kRow.C w A1 s.calls.length s.calls) (hn : s.calls.length ≤ 1048576) (hr : ∀ row ∈ s.calls, row.length ≤ 1048576 ∧ ∀ c ∈ row, c.ops.length ≤ 1048576) :
    Calls Tryz.prog 9 #[.agg (scCells s.clients s.shift s.recs s.chunks (.slice A1 s.calls.length c1) (.slice A2 s.picks.length c2))] w fun e w' =>
      ∃ A3 k3, e = .returned (.agg (scCells s.clients s.shift s.recs s.chunks (.slice A3 s.calls.length k3) (.slice A2 s.picks.length c2))) ∧ kRow2.C w' A3 s.calls.length s.calls ∧ Below w.heap.size w w' := by
  have HC := Lib.hid hC
  have HN := Lib.hid hn
  have HR := Lib.hid hr
  clear hC hn hr
  unfold scCells
  go_enter Tryz.func9, Tryz.ntmps9
  go_wp2_with fail
  generalize hW : World.alloc (World.alloc _ _) _ = w1
  obtain ⟨b, hb⟩ : ∃ b, w.heap.size = b := ⟨_, rfl⟩
  have hx1 : w1.heap[b]? = some (.cells (scCells s.clients s.shift s.recs s.chunks (.slice A1 s.calls.length c1) (.slice A2 s.picks.length c2)) 28 (0, 0)) := by rw [← hW, ← hb]; exact alloc_blk (alloc_new _ _) _
  have hz1 : w1.heap[b + 1]? = some (.cells scrZero 35 (0, 0)) := by
    rw [← hW, ← hb]
    have := alloc_new (w.alloc (.cells (scCells s.clients s.shift s.recs s.chunks (.slice A1 s.calls.length c1) (.slice A2 s.picks.length c2)) 28)) (.cells scrZero 35)
    rw [World.size_alloc] at this
    exact this
  have hb1 : Below w.heap.size w w1 := by rw [← hW]; exact ((Below.refl _ _).alloc (Nat.le_refl _) _).alloc (by simp) _
  have hI : Its w w1.drew s A1 A2 c1 c2 b := ⟨hx1, below_drew hb1⟩
  have HZ1 := Lib.hid (show w1.drew.heap[b + 1]? = some (.cells scrZero 35 (0, 0)) from hz1)
  have HI := Lib.hid hI
  have HCD := Lib.hid (Kd.C_below HC.out hI.be)
  have HBB := Lib.hid hb
  have hS1 := hI.loads
  rw [hb]
  clear hW hx1 hz1 hb1 hb hI
  go_region_held3 (fun w' => w'.cell? ⟨b, 0, none⟩ = some (.int .i64 s.clients) ∧ w'.cell? ⟨b, 1, none⟩ = some (.int .i64 s.shift) ∧ w'.cell? ⟨b, 2, none⟩ = some (.int .i64 s.recs) ∧ w'.cell? ⟨b, 3, none⟩ = some (.int .i64 s.chunks) ∧ w'.cell? ⟨b, 4, none⟩ = some (.slice A1 s.calls.length c1) ∧ w'.cell? ⟨b, 5, none⟩ = some (.slice A2 s.picks.length c2) ∧ Hid (Its w w' s A1 A2 c1 c2 b))
    (first | with_reducible exact hS1 | with_reducible assumption | with_reducible exact hS4 _ _ _ _ _ _)
    (first
      | (go_at_call 26
         refine (calls_any A1 c1 s.calls w1.drew HCD.out HN.out HR.out).mono ?_
         rintro e w2 ⟨v, rfl, hr2, hb2⟩
         obtain ⟨A3, k3, rfl⟩ := Kd.R_slice hr2
         have HR2 := Lib.hid hr2
         have HI2 := Lib.hid (HI.out.below hb2)
         have hS2 := HI2.out.loads
         have hz2 := (hb2.block _ (lt_of_block HZ1.out)).trans HZ1.out
         have HZ2 := Lib.hid hz2
         have hS4 := fun u0 u1 u2 u3 u4 u5 => ((((((HI2.out.set HBB.out 0 u0).set HBB.out 1 u1).set HBB.out 2 u2).set HBB.out 3 u3).set HBB.out 4 u4).set HBB.out 5 u5).loads
         have v0 := cell_blk hz2 0 (v := .int .i64 0) rfl
         have v1 := cell_blk hz2 1 (v := .int .i64 0) rfl
         have v2 := cell_blk hz2 2 (v := .int .i64 0) rfl
         have v3 := cell_blk hz2 3 (v := .int .i64 0) rfl
         have v4 := cell_blk hz2 4 (v := .slice none 0 0) rfl
         have v5 := cell_blk hz2 5 (v := .slice none 0 0) rfl
         have f0 := froz_blk hz2 0
         have f1 := froz_blk hz2 1
         have f2 := froz_blk hz2 2
         have f3 := froz_blk hz2 3
         have f4 := froz_blk hz2 4
         have f5 := froz_blk hz2 5
         clear hz2 hr2 hb2))
  all_goals
    have HS5 := Lib.hid (hS4 (.int .i64 s.clients) (.int .i64 s.shift) (.int .i64 s.recs) (.int .i64 s.chunks) (.slice A3 s.calls.length k3) (.slice A2 s.picks.length c2)).2.2.2.2.2.2.out.be
    have HZ9 := Lib.hid (set_blk (set_blk (set_blk (set_blk (set_blk (set_blk HZ2.out 0 (.int .i64 s.clients)) 1 (.int .i64 s.shift)) 2 (.int .i64 s.recs)) 3 (.int .i64 s.chunks)) 4 (.slice A3 s.calls.length k3)) 5 (.slice A2 s.picks.length c2))
    have HM9 := Lib.hid ((((((((Mut.refl (· = b + 1) w2).set1 0 (.int .i64 s.clients)).set1 1 (.int .i64 s.shift)).set1 2 (.int .i64 s.recs)).set1 3 (.int .i64 s.chunks)).set1 4 (.slice A3 s.calls.length k3)).set1 5 (.slice A2 s.picks.length c2)))
    generalize hW : World.setCell (World.setCell _ _ _) _ _ = w9 at HS5 HZ9 HM9 ⊢
    have HC9 := Lib.hid (Kd.R_reads' (R_mut (Kd.R_bound HR2.out) HM9.out (fun k hk he => by have h1 := hk.2.1; have h2 := lt_of_block HZ1.out; omega))).2.2
    have z0 := cell_blk HZ9.out 0 (v := .int .i64 s.clients) rfl
    have z1 := cell_blk HZ9.out 1 (v := .int .i64 s.shift) rfl
    have z2 := cell_blk HZ9.out 2 (v := .int .i64 s.recs) rfl
    have z3 := cell_blk HZ9.out 3 (v := .int .i64 s.chunks) rfl
    have z4 := cell_blk HZ9.out 4 (v := .slice A3 s.calls.length k3) rfl
    have z5 := cell_blk HZ9.out 5 (v := .slice A2 s.picks.length c2) rfl
    clear hW hS4 v0 v1 v2 v3 v4 v5 f0 f1 f2 f3 f4 f5
    go_wp2_with fail
    refine bodyPost_ret (v := .agg (scCells s.clients s.shift s.recs s.chunks (.slice A3 s.calls.length k3) (.slice A2 s.picks.length c2))) (by simp [results, Tryz.results9, asAddr, go_sem, z0, z1, z2, z3, z4, z5, Result.andThen, scCells]) rfl ⟨A3, k3, rfl, HC9.out, HS5.out⟩
end Go.Proofs.YtjcdpccfhpbccaaGreatDoor
