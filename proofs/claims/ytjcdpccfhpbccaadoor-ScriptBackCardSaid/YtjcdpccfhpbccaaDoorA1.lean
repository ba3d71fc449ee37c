/-
  The walks of the smallest parts of the scripts' parser: give, next, line, end.
-/
import Derived.Test.YtjcdpccfhpbccaaDoorA0
import Derived.Deep.QuietTactic
import Derived.BigQuiet
namespace Go.Proofs.YtjcdpccfhpbccaaDoor
open Go.RowKit

/-- The panic with the number of a line. -/
def Gave (n : Int) (e : Ending) : Prop := e = .panicked [{ v := .iface 53 (.int .i64 n), recovered := false }]

set_option maxHeartbeats 400000 in
theorem give_any (r : Nat) (v : Value) (n : Int) (w : World) (hr : w.heap[r]? = some (.cells #[v, .int .i64 n] 58 (0, 0))) :
    Calls Tryd.prog 17 #[.pointer (some ⟨r, 0, none⟩)] w fun e w' => Gave n e ∧ w = w' := by
  have h1 := cell_blk hr 1 (v := .int .i64 n) rfl
  clear hr
  go_enter Tryd.func17, Tryd.ntmps17
  go_wp2
  exact ⟨rfl, rfl, rfl⟩

/-- A reader of lines, in its block: the lines' value, and how many were read. -/
def RdAt (w : World) (r : Nat) (v : Value) (n : Int) : Prop := w.heap[r]? = some (.cells #[v, .int .i64 n] 58 (0, 0))
/-- What is left of a line, in its block. -/
def LnAt (w : World) (l r : Nat) (s : ByteArray) (more : Bool) : Prop := w.heap[l]? = some (.cells #[.pointer (some ⟨r, 0, none⟩), .string s, .bool more] 104 (0, 0))

set_option maxHeartbeats 400000 in
theorem next_no (r : Nat) (A : Option Addr) (L c : Nat) (n : Int) (w : World) (hr : RdAt w r (.slice A L c) n) (hn : (L : Int) ≤ n) :
    Calls Tryd.prog 39 #[.pointer (some ⟨r, 0, none⟩)] w fun e w' => e = .returned (.tuple #[.string ⟨#[]⟩, .bool false]) ∧ ∃ k, w' = w.drewN k := by
  have h0 := cell_blk hr 0 (v := .slice A L c) rfl
  have h1 := cell_blk hr 1 (v := .int .i64 n) rfl
  clear hr
  go_enter Tryd.func39, Tryd.ntmps39
  go_wp2
  go_quiet (fail)
  go_wp2
  go_ret2
  exact ⟨rfl, _, rfl⟩

set_option maxHeartbeats 400000 in
theorem next_yes (r : Nat) (b off L c : Nat) (n : Nat) (s : ByteArray) (w : World) (hr : RdAt w r (.slice (some ⟨b, off, none⟩) L c) n) (hn : n < L) (hL : L ≤ 9223372036854775807) (hs : w.cell? ⟨b, off + n, none⟩ = some (.string s)) :
    Calls Tryd.prog 39 #[.pointer (some ⟨r, 0, none⟩)] w fun e w' => e = .returned (.tuple #[.string s, .bool true]) ∧ ∃ k, w' = w.drewN k := by
  have h0 := cell_blk hr 0 (v := .slice (some ⟨b, off, none⟩) L c) rfl
  have h1 := cell_blk hr 1 (v := .int .i64 n) rfl
  clear hr
  go_enter Tryd.func39, Tryd.ntmps39
  go_wp2
  go_quiet (fail)
  go_wp2
  go_quiet (fail)
  go_wp2
  go_ret2
  exact ⟨rfl, _, World.drewN_drewN _ _ _⟩

/-- A line is done: one line more was read. -/
theorem end_yes (l r : Nat) (s : ByteArray) (v : Value) (n : Int) (hn0 : 0 ≤ n) (hn : n < 9223372036854775807) (w : World) (hl : LnAt w l r s false) (hr : RdAt w r v n) :
    Calls Tryd.prog 38 #[.pointer (some ⟨l, 0, none⟩)] w fun e w' => e = .returned (.tuple #[]) ∧ w.setCell ⟨r, 1, none⟩ (.int .i64 (n + 1)) = w' := by
  have h0 := cell_blk hl 0 (v := .pointer (some ⟨r, 0, none⟩)) rfl
  have h2 := cell_blk hl 2 (v := .bool false) rfl
  have h1 := cell_blk hr 1 (v := .int .i64 n) rfl
  have hf := froz_blk hr 1
  clear hr hl
  go_enter Tryd.func38, Tryd.ntmps38
  go_wp2
  go_end0
  exact ⟨rfl, rfl⟩

theorem end_no (l r : Nat) (s : ByteArray) (v : Value) (n : Int) (w : World) (hl : LnAt w l r s true) (hr : RdAt w r v n) :
    Calls Tryd.prog 38 #[.pointer (some ⟨l, 0, none⟩)] w fun e w' => Gave n e ∧ w = w' := by
  have h0 := cell_blk hl 0 (v := .pointer (some ⟨r, 0, none⟩)) rfl
  have h2 := cell_blk hl 2 (v := .bool true) rfl
  clear hl
  go_enter Tryd.func38, Tryd.ntmps38
  go_wp2_with fail
  refine (give_any r v n _ hr).mono ?_
  rintro e w' ⟨rfl, rfl⟩
  exact ⟨rfl, rfl, rfl⟩

end Go.Proofs.YtjcdpccfhpbccaaDoor
