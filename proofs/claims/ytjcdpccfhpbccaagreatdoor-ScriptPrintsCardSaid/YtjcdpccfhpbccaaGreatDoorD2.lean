/-
  The walk of a call's line: open, close, and lines that are none.
-/
import Derived.Test.YtjcdpccfhpbccaaGreatDoorD1
namespace Go.Proofs.YtjcdpccfhpbccaaGreatDoor
open Go.RowKit Go.Proofs.YtjcdpccfhpbccaaGreatDoorW.PrintWords

/-- What a call's walk says at its end. -/
def CallPost (r : Nat) (v : Value) (n : Int) (w : World) (c : Option CallD) (e : Ending) (w' : World) : Prop :=
  match c with
  | some c => ∃ vo, e = .returned (.agg #[.int .i64 c.k, vo, .int .i64 c.q.k, .int .i64 c.q.i, .int .i64 c.q.b, .string c.q.x]) ∧ kOp.R 48 w' w.heap.size (fun _ => True) vo c.ops ∧ RdAt w' r v (n + 1) ∧ Mut (· = r) w w'
  | none => Gave n e ∧ Mut (· = r) w w'
theorem call_info : (Tryz.prog.info? 53).map (·.size) = some 6 := by kernel_rfl

set_option maxRecDepth 100000 in
set_option maxHeartbeats 1000000 in
theorem call_end (r : Nat) (A : Option Addr) (L c : Nat) (n : Int) (w : World) (hr : RdAt w r (.slice A L c) n) (hn : (L : Int) ≤ n) :
    Calls Tryz.prog 50 #[.pointer (some ⟨r, 0, none⟩)] w fun e w' => Gave n e ∧ Mut (· = r) w w' := by
  have HR := Lib.hid hr
  clear hr
  go_enter Tryz.func50, Tryz.ntmps50
  go_wp2_with fail
  refine (line_no r A L c n _ (HR.out.mut ((Mut.refl (fun _ => False) w).alloc _) (fun h => h)) hn).mono ?_
  rintro e w1 ⟨rfl, k, rfl⟩
  exact ⟨rfl, rfl, ((Mut.refl _ w).alloc _).drewN k⟩

/-- The line that is read: where it lies, and how it is taken. -/
structure Line (w : World) (r b off L c n : Nat) (s : ByteArray) : Prop where
  rd : RdAt w r (.slice (some ⟨b, off, none⟩) L c) n
  lt : n < L
  max : L ≤ 4294967297
  cell : w.cell? ⟨b, off + n, none⟩ = some (.string s)
  size : s.size ≤ 4294967280
  gl : Glob w
  r6 : 6 ≤ r
theorem Line.below {w w' : World} {r b off L c n : Nat} {s : ByteArray} (h : Line w r b off L c n s) (hb : Below w.heap.size w w') : Line w' r b off L c n s :=
  ⟨h.rd.below hb, h.lt, h.max, (hb.cell (p := ⟨b, off + n, none⟩) (World.block_lt_of_cell? _ _ h.cell)).trans h.cell, h.size, h.gl.below hb, h.r6⟩

/-- What holds behind a line's first word. -/
structure CallSt (w W : World) (r l : Nat) (v : Value) (n : Int) (cs : Array Value) (ws : List (List UInt8)) : Prop where
  ln : LnW W l r ws
  rd : RdAt W r v n
  rs : W.heap[w.heap.size]? = some (.cells cs 53 (0, 0))
  gl : Glob W
  mu : Mut (· = r) w W
  rl : r ≠ l
  l6 : 6 ≤ l
  lw : w.heap.size < l
  rw_ : r < w.heap.size
  w6 : 6 ≤ w.heap.size
namespace CallSt
variable {w W W1 : World} {r l : Nat} {v : Value} {n : Int} {cs : Array Value} {ws ws' : List (List UInt8)}
theorem next (h : CallSt w W r l v n cs ws) (hl : LnW W1 l r ws') (hm : Mut (· = l) W W1) : CallSt w W1 r l v n cs ws' :=
  ⟨hl, h.rd.mut hm h.rl, hm.blk h.rs (by have := h.lw; omega), h.gl.mut hm (fun k hk => by have := h.l6; omega), h.mu.trans hm (fun i hi => .inr (by have := h.lw; omega)), h.rl, h.l6, h.lw, h.rw_, h.w6⟩
theorem set (h : CallSt w W r l v n cs ws) (j : Nat) (u : Value) : CallSt w (W.setCell ⟨w.heap.size, j, none⟩ u) r l v n (cs.setIfInBounds j u) ws := by
  have hm : Mut (· = w.heap.size) W (W.setCell ⟨w.heap.size, j, none⟩ u) := (Mut.refl (· = w.heap.size) W).set1 j u
  have h1 := h.lw
  have h2 := h.rw_
  exact ⟨h.ln.mut hm (by omega), h.rd.mut hm (by omega), set_blk h.rs j u, h.gl.mut hm (fun k hk => by have := h.w6; omega), h.mu.set (p := ⟨w.heap.size, j, none⟩) (.inr (Nat.le_refl _)) u, h.rl, h.l6, h.lw, h.rw_, h.w6⟩
theorem below (h : CallSt w W r l v n cs ws) (hb : Below W.heap.size W W1) : CallSt w W1 r l v n cs ws := h.next (h.ln.below hb) (Mut.of_below hb _)
end CallSt
def callZero : Array Value := #[.int .i64 0, .slice none 0 0, .int .i64 0, .int .i64 0, .int .i64 0, .string ⟨#[]⟩]

def openCells (k : Int) : Array Value := #[.int .i64 k, .slice none 0 0, .int .i64 0, .int .i64 0, .int .i64 0, .string ⟨#[]⟩]
theorem openCells_one (k : Int) : (openCells k).all (·.oneCell') = true := by kernel_rfl

set_option maxRecDepth 100000 in
set_option maxHeartbeats 1000000 in
theorem call_other (r b off L c n : Nat) (s : ByteArray) (x : List UInt8) (ws : List (List UInt8)) (w : World) (hL : Line w r b off L c n s) (hw : Scr.words (bl s) = x :: ws)
    (h1 : x ≠ kSubmit) (h2 : x ≠ kRead) (h3 : x ≠ kAsk) (h4 : x ≠ kOpen) (h5 : x ≠ kClose) :
    Calls Tryz.prog 50 #[.pointer (some ⟨r, 0, none⟩)] w fun e w' => Gave n e ∧ Mut (· = r) w w' := by
  have hlt := lt_of_block hL.rd
  have HL := Lib.hid hL
  have HW := Lib.hid hw
  have t1 : (x == [115, 117, 98, 109, 105, 116]) = false := beq_eq_false_iff_ne.2 h1
  have t2 : (x == [114, 101, 97, 100]) = false := beq_eq_false_iff_ne.2 h2
  have t3 : (x == [97, 115, 107]) = false := beq_eq_false_iff_ne.2 h3
  have t4 : (x == [111, 112, 101, 110]) = false := beq_eq_false_iff_ne.2 h4
  have t5 : (x == [99, 108, 111, 115, 101]) = false := beq_eq_false_iff_ne.2 h5
  clear hL hw h1 h2 h3 h4 h5
  go_enter Tryz.func50, Tryz.ntmps50
  go_wp2_with fail
  have HL0 := Lib.hid (HL.out.below ((Below.refl _ _).alloc (Nat.le_refl _) (.cells callZero 53)))
  refine (line_yes r b off L c n s _ HL0.out.rd HL0.out.lt (by have := HL0.out.max; omega) HL0.out.cell).mono ?_
  rintro e w1 ⟨l, rfl, hl, hln, hb1⟩
  have hl2 : w.heap.size < l := by simp at hl; omega
  have S := Lib.hid (show CallSt w w1 r l (.slice (some ⟨b, off, none⟩) L c) n callZero (x :: ws) from
    ⟨HW.out ▸ LnW.of hln HL0.out.size, HL0.out.rd.below hb1, (hb1.block _ (by simp)).trans (alloc_new _ _), HL0.out.gl.below hb1, ((Mut.refl _ w).alloc _).then_below hb1, by omega, by have := HL0.out.r6; omega, hl2, hlt, HL.out.gl.size⟩)
  clear hln hb1 hl
  go_wp2_with fail
  refine (wordW_yes l r x ws w1 S.out.ln).mono ?_
  rintro e w2 ⟨rfl, hx, hl3, hm3⟩
  have S2 := Lib.hid (S.out.next hl3 hm3)
  clear hl3 hm3 S
  go_wp2_with fail
  refine (give_any r _ n w2 S2.out.rd).mono ?_
  rintro e w4 ⟨rfl, rfl⟩
  exact ⟨rfl, rfl, S2.out.mu⟩
set_option maxRecDepth 100000 in
set_option maxHeartbeats 1000000 in
theorem call_open0 (r b off L c n : Nat) (s : ByteArray) (w : World) (hL : Line w r b off L c n s) (hw : Scr.words (bl s) = kOpen :: []) :
    Calls Tryz.prog 50 #[.pointer (some ⟨r, 0, none⟩)] w (CallPost r (.slice (some ⟨b, off, none⟩) L c) n w (some ⟨3, [], qZero⟩)) := by
  have hlt := lt_of_block hL.rd
  have HL := Lib.hid hL
  have HW := Lib.hid hw
  clear hL hw
  go_enter Tryz.func50, Tryz.ntmps50
  go_wp2_with fail
  have HL0 := Lib.hid (HL.out.below ((Below.refl _ _).alloc (Nat.le_refl _) (.cells callZero 53)))
  refine (line_yes r b off L c n s _ HL0.out.rd HL0.out.lt (by have := HL0.out.max; omega) HL0.out.cell).mono ?_
  rintro e w1 ⟨l, rfl, hl, hln, hb1⟩
  have hl2 : w.heap.size < l := by simp at hl; omega
  have S := Lib.hid (show CallSt w w1 r l (.slice (some ⟨b, off, none⟩) L c) n callZero ([111, 112, 101, 110] :: []) from
    ⟨HW.out ▸ LnW.of hln HL0.out.size, HL0.out.rd.below hb1, (hb1.block _ (by simp)).trans (alloc_new _ _), HL0.out.gl.below hb1, ((Mut.refl _ w).alloc _).then_below hb1, by omega, by have := HL0.out.r6; omega, hl2, hlt, HL.out.gl.size⟩)
  clear hln hb1 hl
  go_wp2_with fail
  refine (wordW_yes l r [111, 112, 101, 110] [] w1 S.out.ln).mono ?_
  rintro e w2 ⟨rfl, hx, hl3, hm3⟩
  have S2 := Lib.hid (S.out.next hl3 hm3)
  have z0 := cell_blk S2.out.rs 0 (v := .int .i64 0) rfl
  have f0 := froz_blk S2.out.rs 0
  have S3 := Lib.hid (show CallSt w (w2.setCell ⟨w.heap.size, 0, none⟩ (.int .i64 3)) r l (.slice (some ⟨b, off, none⟩) L c) n (openCells 3) [] from S2.out.set 0 (.int .i64 3))
  have z1 := cell_blk S3.out.rs 0 (v := .int .i64 3) rfl
  clear hl3 hm3 S
  have hn0 := HL.out.lt
  have hn1 := HL.out.max
  have hn2 : (n : Int) < 9223372036854775807 := by omega
  have HN := Lib.hid hn2
  clear hn2
  go_wp2_with fail
  refine (endW_yes l r _ n (by omega) HN.out _ S3.out.ln S3.out.rd).mono ?_
  rintro e w4 ⟨rfl, hr4, hm4⟩
  have hs4 := hm4.blk S3.out.rs (by omega)
  have HS4 := Lib.hid hs4
  have HR4 := Lib.hid hr4
  have HM4 := Lib.hid (S3.out.mu.trans hm4 (fun i hi => .inl hi))
  clear hs4 hr4 hm4
  go_wp2_with (first | (refine wpList_load_row rfl 53 _ rfl w.heap.size rfl 53 _ (0, 0) _ HS4.out Tryz.underlying53 rfl call_info ?_) | (refine wpList_store_row rfl 53 _ _ rfl w.heap.size (openCells 3) rfl rfl 53 _ HS4.out call_info rfl (openCells_one 3) ?_))
  refine bodyPost_ret (v := .agg (openCells 3)) (results_cell_row rfl _ _ w.heap.size 53 (openCells 3) (0, 0) _ rfl (setRow_heap w4 w.heap.size _ _ _ _ HS4.out) Tryz.underlying53 rfl call_info) rfl ?_
  exact ⟨.slice none 0 0, rfl, Kd.R_nil _ _ _ _ _, HR4.out.mut ((Mut.refl (· = w.heap.size) w4).setRow (.inl rfl) _) (by omega), HM4.out.setRow (.inr (Nat.le_refl _)) _⟩
set_option maxRecDepth 100000 in
set_option maxHeartbeats 1000000 in
theorem call_open1 (r b off L c n : Nat) (s : ByteArray) (y : List UInt8) (ws : List (List UInt8)) (w : World) (hL : Line w r b off L c n s) (hw : Scr.words (bl s) = kOpen :: y :: ws) :
    Calls Tryz.prog 50 #[.pointer (some ⟨r, 0, none⟩)] w (CallPost r (.slice (some ⟨b, off, none⟩) L c) n w none) := by
  have hlt := lt_of_block hL.rd
  have HL := Lib.hid hL
  have HW := Lib.hid hw
  clear hL hw
  go_enter Tryz.func50, Tryz.ntmps50
  go_wp2_with fail
  have HL0 := Lib.hid (HL.out.below ((Below.refl _ _).alloc (Nat.le_refl _) (.cells callZero 53)))
  refine (line_yes r b off L c n s _ HL0.out.rd HL0.out.lt (by have := HL0.out.max; omega) HL0.out.cell).mono ?_
  rintro e w1 ⟨l, rfl, hl, hln, hb1⟩
  have hl2 : w.heap.size < l := by simp at hl; omega
  have S := Lib.hid (show CallSt w w1 r l (.slice (some ⟨b, off, none⟩) L c) n callZero ([111, 112, 101, 110] :: y :: ws) from
    ⟨HW.out ▸ LnW.of hln HL0.out.size, HL0.out.rd.below hb1, (hb1.block _ (by simp)).trans (alloc_new _ _), HL0.out.gl.below hb1, ((Mut.refl _ w).alloc _).then_below hb1, by omega, by have := HL0.out.r6; omega, hl2, hlt, HL.out.gl.size⟩)
  clear hln hb1 hl
  go_wp2_with fail
  refine (wordW_yes l r [111, 112, 101, 110] (y :: ws) w1 S.out.ln).mono ?_
  rintro e w2 ⟨rfl, hx, hl3, hm3⟩
  have S2 := Lib.hid (S.out.next hl3 hm3)
  have z0 := cell_blk S2.out.rs 0 (v := .int .i64 0) rfl
  have f0 := froz_blk S2.out.rs 0
  have S3 := Lib.hid (show CallSt w (w2.setCell ⟨w.heap.size, 0, none⟩ (.int .i64 3)) r l (.slice (some ⟨b, off, none⟩) L c) n (openCells 3) (y :: ws) from S2.out.set 0 (.int .i64 3))
  have z1 := cell_blk S3.out.rs 0 (v := .int .i64 3) rfl
  clear hl3 hm3 S
  go_wp2_with fail
  refine (endW_no l r y ws _ n _ S3.out.ln S3.out.rd).mono ?_
  rintro e w4 ⟨rfl, rfl⟩
  exact ⟨rfl, rfl, S3.out.mu⟩
set_option maxRecDepth 100000 in
set_option maxHeartbeats 1000000 in
theorem call_close0 (r b off L c n : Nat) (s : ByteArray) (w : World) (hL : Line w r b off L c n s) (hw : Scr.words (bl s) = kClose :: []) :
    Calls Tryz.prog 50 #[.pointer (some ⟨r, 0, none⟩)] w (CallPost r (.slice (some ⟨b, off, none⟩) L c) n w (some ⟨5, [], qZero⟩)) := by
  have hlt := lt_of_block hL.rd
  have HL := Lib.hid hL
  have HW := Lib.hid hw
  clear hL hw
  go_enter Tryz.func50, Tryz.ntmps50
  go_wp2_with fail
  have HL0 := Lib.hid (HL.out.below ((Below.refl _ _).alloc (Nat.le_refl _) (.cells callZero 53)))
  refine (line_yes r b off L c n s _ HL0.out.rd HL0.out.lt (by have := HL0.out.max; omega) HL0.out.cell).mono ?_
  rintro e w1 ⟨l, rfl, hl, hln, hb1⟩
  have hl2 : w.heap.size < l := by simp at hl; omega
  have S := Lib.hid (show CallSt w w1 r l (.slice (some ⟨b, off, none⟩) L c) n callZero ([99, 108, 111, 115, 101] :: []) from
    ⟨HW.out ▸ LnW.of hln HL0.out.size, HL0.out.rd.below hb1, (hb1.block _ (by simp)).trans (alloc_new _ _), HL0.out.gl.below hb1, ((Mut.refl _ w).alloc _).then_below hb1, by omega, by have := HL0.out.r6; omega, hl2, hlt, HL.out.gl.size⟩)
  clear hln hb1 hl
  go_wp2_with fail
  refine (wordW_yes l r [99, 108, 111, 115, 101] [] w1 S.out.ln).mono ?_
  rintro e w2 ⟨rfl, hx, hl3, hm3⟩
  have S2 := Lib.hid (S.out.next hl3 hm3)
  have z0 := cell_blk S2.out.rs 0 (v := .int .i64 0) rfl
  have f0 := froz_blk S2.out.rs 0
  have S3 := Lib.hid (show CallSt w (w2.setCell ⟨w.heap.size, 0, none⟩ (.int .i64 5)) r l (.slice (some ⟨b, off, none⟩) L c) n (openCells 5) [] from S2.out.set 0 (.int .i64 5))
  have z1 := cell_blk S3.out.rs 0 (v := .int .i64 5) rfl
  clear hl3 hm3 S
  have hn0 := HL.out.lt
  have hn1 := HL.out.max
  have hn2 : (n : Int) < 9223372036854775807 := by omega
  have HN := Lib.hid hn2
  clear hn2
  go_wp2_with fail
  refine (endW_yes l r _ n (by omega) HN.out _ S3.out.ln S3.out.rd).mono ?_
  rintro e w4 ⟨rfl, hr4, hm4⟩
  have hs4 := hm4.blk S3.out.rs (by omega)
  have HS4 := Lib.hid hs4
  have HR4 := Lib.hid hr4
  have HM4 := Lib.hid (S3.out.mu.trans hm4 (fun i hi => .inl hi))
  clear hs4 hr4 hm4
  go_wp2_with (first | (refine wpList_load_row rfl 53 _ rfl w.heap.size rfl 53 _ (0, 0) _ HS4.out Tryz.underlying53 rfl call_info ?_) | (refine wpList_store_row rfl 53 _ _ rfl w.heap.size (openCells 5) rfl rfl 53 _ HS4.out call_info rfl (openCells_one 5) ?_))
  refine bodyPost_ret (v := .agg (openCells 5)) (results_cell_row rfl _ _ w.heap.size 53 (openCells 5) (0, 0) _ rfl (setRow_heap w4 w.heap.size _ _ _ _ HS4.out) Tryz.underlying53 rfl call_info) rfl ?_
  exact ⟨.slice none 0 0, rfl, Kd.R_nil _ _ _ _ _, HR4.out.mut ((Mut.refl (· = w.heap.size) w4).setRow (.inl rfl) _) (by omega), HM4.out.setRow (.inr (Nat.le_refl _)) _⟩
set_option maxRecDepth 100000 in
set_option maxHeartbeats 1000000 in
theorem call_close1 (r b off L c n : Nat) (s : ByteArray) (y : List UInt8) (ws : List (List UInt8)) (w : World) (hL : Line w r b off L c n s) (hw : Scr.words (bl s) = kClose :: y :: ws) :
    Calls Tryz.prog 50 #[.pointer (some ⟨r, 0, none⟩)] w (CallPost r (.slice (some ⟨b, off, none⟩) L c) n w none) := by
  have hlt := lt_of_block hL.rd
  have HL := Lib.hid hL
  have HW := Lib.hid hw
  clear hL hw
  go_enter Tryz.func50, Tryz.ntmps50
  go_wp2_with fail
  have HL0 := Lib.hid (HL.out.below ((Below.refl _ _).alloc (Nat.le_refl _) (.cells callZero 53)))
  refine (line_yes r b off L c n s _ HL0.out.rd HL0.out.lt (by have := HL0.out.max; omega) HL0.out.cell).mono ?_
  rintro e w1 ⟨l, rfl, hl, hln, hb1⟩
  have hl2 : w.heap.size < l := by simp at hl; omega
  have S := Lib.hid (show CallSt w w1 r l (.slice (some ⟨b, off, none⟩) L c) n callZero ([99, 108, 111, 115, 101] :: y :: ws) from
    ⟨HW.out ▸ LnW.of hln HL0.out.size, HL0.out.rd.below hb1, (hb1.block _ (by simp)).trans (alloc_new _ _), HL0.out.gl.below hb1, ((Mut.refl _ w).alloc _).then_below hb1, by omega, by have := HL0.out.r6; omega, hl2, hlt, HL.out.gl.size⟩)
  clear hln hb1 hl
  go_wp2_with fail
  refine (wordW_yes l r [99, 108, 111, 115, 101] (y :: ws) w1 S.out.ln).mono ?_
  rintro e w2 ⟨rfl, hx, hl3, hm3⟩
  have S2 := Lib.hid (S.out.next hl3 hm3)
  have z0 := cell_blk S2.out.rs 0 (v := .int .i64 0) rfl
  have f0 := froz_blk S2.out.rs 0
  have S3 := Lib.hid (show CallSt w (w2.setCell ⟨w.heap.size, 0, none⟩ (.int .i64 5)) r l (.slice (some ⟨b, off, none⟩) L c) n (openCells 5) (y :: ws) from S2.out.set 0 (.int .i64 5))
  have z1 := cell_blk S3.out.rs 0 (v := .int .i64 5) rfl
  clear hl3 hm3 S
  go_wp2_with fail
  refine (endW_no l r y ws _ n _ S3.out.ln S3.out.rd).mono ?_
  rintro e w4 ⟨rfl, rfl⟩
  exact ⟨rfl, rfl, S3.out.mu⟩

end Go.Proofs.YtjcdpccfhpbccaaGreatDoor
