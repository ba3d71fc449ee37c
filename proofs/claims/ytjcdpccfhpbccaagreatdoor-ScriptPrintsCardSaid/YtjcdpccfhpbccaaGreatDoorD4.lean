/-
  The walk of a call's line: read and ask; any line of a call.
-/
import Derived.Test.YtjcdpccfhpbccaaGreatDoorD3
namespace Go.Proofs.YtjcdpccfhpbccaaGreatDoor
open Go.RowKit Go.Proofs.YtjcdpccfhpbccaaGreatDoorW.PrintWords

theorem none_ok : ∀ c, (bl ⟨#[]⟩).contains c = true → c.toNat < 128 := by
  intro c h
  simp [bl] at h
def qCells (k a1 a2 a3 : Int) (y : List UInt8) : Array Value := #[.int .i64 k, .slice none 0 0, .int .i64 a1, .int .i64 a2, .int .i64 a3, .string ⟨y.toArray⟩]
theorem qCells_one (k a1 a2 a3 : Int) (y : List UInt8) : (qCells k a1 a2 a3 y).all (·.oneCell') = true := by kernel_rfl

set_option maxRecDepth 100000 in
set_option maxHeartbeats 2000000 in
theorem call_read (r b off L c n : Nat) (s : ByteArray) (ws : List (List UInt8)) (w : World) (res : Option QD) (hL : Line w r b off L c n s) (hw : Scr.words (bl s) = kRead :: ws) (hres : pQuery ws = res) :
    Calls Tryz.prog 50 #[.pointer (some ⟨r, 0, none⟩)] w (CallPost r (.slice (some ⟨b, off, none⟩) L c) n w (res.map fun q => ⟨2, [], q⟩)) := by
  have hlt := lt_of_block hL.rd
  have HL := Lib.hid hL
  have HW := Lib.hid hw
  have HRES := Lib.hid hres
  clear hL hw hres
  go_enter Tryz.func50, Tryz.ntmps50
  go_wp2_with fail
  have HL0 := Lib.hid (HL.out.below ((Below.refl _ _).alloc (Nat.le_refl _) (.cells callZero 53)))
  refine (line_yes r b off L c n s _ HL0.out.rd HL0.out.lt (by have := HL0.out.max; omega) HL0.out.cell).mono ?_
  rintro e w1 ⟨l, rfl, hl, hln, hb1⟩
  have hl2 : w.heap.size < l := by simp at hl; omega
  have S := Lib.hid (show CallSt w w1 r l (.slice (some ⟨b, off, none⟩) L c) n callZero ([114, 101, 97, 100] :: ws) from
    ⟨HW.out ▸ LnW.of hln HL0.out.size, HL0.out.rd.below hb1, (hb1.block _ (by simp)).trans (alloc_new _ _), HL0.out.gl.below hb1, ((Mut.refl _ w).alloc _).then_below hb1, by omega, by have := HL0.out.r6; omega, hl2, hlt, HL.out.gl.size⟩)
  clear hln hb1 hl
  go_wp2_with fail
  refine (wordW_yes l r [114, 101, 97, 100] ws w1 S.out.ln).mono ?_
  rintro e w2 ⟨rfl, hx, hl3, hm3⟩
  have S2 := Lib.hid (S.out.next hl3 hm3)
  have z0 := cell_blk S2.out.rs 0 (v := .int .i64 0) rfl
  have f0 := froz_blk S2.out.rs 0
  have S3 := Lib.hid (show CallSt w (w2.setCell ⟨w.heap.size, 0, none⟩ (.int .i64 2)) r l (.slice (some ⟨b, off, none⟩) L c) n (openCells 2) ws from S2.out.set 0 (.int .i64 2))
  have z1 := cell_blk S3.out.rs 0 (v := .int .i64 2) rfl
  clear hl3 hm3 S
  cases p1 : pNum ws with
  | none =>
    obtain rfl : res = none := by rw [← HRES.out, pQuery, p1]; rfl
    have P1 := Lib.hid p1
    clear p1
    go_wp2_with fail
    refine (number_n l r ws S3.out.rl P1.out _ n _ S3.out.gl S3.out.ln S3.out.rd S3.out.l6).mono ?_
    rintro e w4 ⟨rfl, hm4⟩
    exact ⟨rfl, rfl, S3.out.mu.trans hm4 (fun i hi => .inr (by have := S3.out.lw; omega))⟩
  | some q1 =>
    obtain ⟨a1, ws1⟩ := q1
    have P1 := Lib.hid p1
    clear p1
    go_wp2_with fail
    refine (number_y l r ws ws1 S3.out.rl a1 P1.out _ S3.out.gl S3.out.ln S3.out.l6).mono ?_
    rintro e w4 ⟨rfl, hl4, hm4⟩
    have S4 := Lib.hid (S3.out.next hl4 hm4)
    clear hl4 hm4
    cases p2 : pNum ws1 with
    | none =>
      obtain rfl : res = none := by rw [← HRES.out, pQuery, P1.out]; simp only [Option.bind_some]; rw [p2]; rfl
      have P2 := Lib.hid p2
      clear p2
      go_wp2_with fail
      refine (number_n l r ws1 S4.out.rl P2.out _ n _ S4.out.gl S4.out.ln S4.out.rd S4.out.l6).mono ?_
      rintro e w5 ⟨rfl, hm5⟩
      exact ⟨rfl, rfl, S4.out.mu.trans hm5 (fun i hi => .inr (by have := S4.out.lw; omega))⟩
    | some q2 =>
      obtain ⟨a2, ws2⟩ := q2
      have P2 := Lib.hid p2
      clear p2
      go_wp2_with fail
      refine (number_y l r ws1 ws2 S4.out.rl a2 P2.out _ S4.out.gl S4.out.ln S4.out.l6).mono ?_
      rintro e w5 ⟨rfl, hl5, hm5⟩
      have S5 := Lib.hid (S4.out.next hl5 hm5)
      clear hl5 hm5
      cases p3 : pNum ws2 with
      | none =>
        obtain rfl : res = none := by rw [← HRES.out, pQuery, P1.out]; simp only [Option.bind_some]; rw [P2.out]; simp only [Option.bind_some]; rw [p3]; rfl
        have P3 := Lib.hid p3
        clear p3
        go_wp2_with fail
        refine (number_n l r ws2 S5.out.rl P3.out _ n _ S5.out.gl S5.out.ln S5.out.rd S5.out.l6).mono ?_
        rintro e w6 ⟨rfl, hm6⟩
        exact ⟨rfl, rfl, S5.out.mu.trans hm6 (fun i hi => .inr (by have := S5.out.lw; omega))⟩
      | some q3 =>
        obtain ⟨a3, ws3⟩ := q3
        have P3 := Lib.hid p3
        clear p3
        go_wp2_with fail
        refine (number_y l r ws2 ws3 S5.out.rl a3 P3.out _ S5.out.gl S5.out.ln S5.out.l6).mono ?_
        rintro e w6 ⟨rfl, hl6, hm6⟩
        have S6 := Lib.hid (S5.out.next hl6 hm6)
        clear hl6 hm6
        cases p4 : pText [] ws3 with
        | none =>
          obtain rfl : res = none := by rw [← HRES.out, pQuery, P1.out]; simp only [Option.bind_some]; rw [P2.out]; simp only [Option.bind_some]; rw [P3.out]; simp only [Option.bind_some]; rw [p4]; rfl
          have P4 := Lib.hid p4
          clear p4
          go_wp2_with fail
          refine (text_n l r ws3 ⟨#[]⟩ none_ok (by decide) S6.out.rl P4.out _ n _ S6.out.ln S6.out.rd).mono ?_
          rintro e w7 ⟨rfl, hm7⟩
          exact ⟨rfl, rfl, S6.out.mu.trans hm7 (fun i hi => .inr (by have := S6.out.lw; omega))⟩
        | some q4 =>
          obtain ⟨y, ws4⟩ := q4
          have hy := text_len S6.out.ln p4
          have HY := Lib.hid hy
          have hrs : res = if y.length ≤ 100 then (if ws4 = [] then some ⟨a1, a2, a3, ⟨y.toArray⟩⟩ else none) else none := by
            rw [← HRES.out, pQuery, P1.out]; simp only [Option.bind_some]; rw [P2.out]; simp only [Option.bind_some]; rw [P3.out]; simp only [Option.bind_some]; rw [p4]; rfl
          have HR := Lib.hid hrs
          have P4 := Lib.hid p4
          clear p4 hy hrs
          go_wp2_with fail
          refine (text_y l r ws3 ws4 y ⟨#[]⟩ none_ok (by decide) P4.out _ S6.out.ln).mono ?_
          rintro e w7 ⟨rfl, hl7, hm7⟩
          have S7 := Lib.hid (S6.out.next hl7 hm7)
          clear hl7 hm7
          have g2 := cell_blk S7.out.rs 2 (v := .int .i64 0) rfl
          have g3 := cell_blk S7.out.rs 3 (v := .int .i64 0) rfl
          have g4 := cell_blk S7.out.rs 4 (v := .int .i64 0) rfl
          have g5 := cell_blk S7.out.rs 5 (v := .string ⟨#[]⟩) rfl
          have h2 := froz_blk S7.out.rs 2
          have h3 := froz_blk S7.out.rs 3
          have h4 := froz_blk S7.out.rs 4
          have h5 := froz_blk S7.out.rs 5
          have S8 := Lib.hid (show CallSt w ((((w7.setCell ⟨w.heap.size, 2, none⟩ (.int .i64 a1)).setCell ⟨w.heap.size, 3, none⟩ (.int .i64 a2)).setCell ⟨w.heap.size, 4, none⟩ (.int .i64 a3)).setCell ⟨w.heap.size, 5, none⟩ (.string ⟨y.toArray⟩)) r l (.slice (some ⟨b, off, none⟩) L c) n (qCells 2 a1 a2 a3 y) ws4 from
            (((S7.out.set 2 (.int .i64 a1)).set 3 (.int .i64 a2)).set 4 (.int .i64 a3)).set 5 (.string ⟨y.toArray⟩))
          by_cases hlen : y.length ≤ 100
          · have ht : decide (100 < (y.length : Int)) = false := decide_eq_false (by omega)
            cases ws4 with
            | cons z ws4 =>
              obtain rfl : res = none := by rw [HR.out, if_pos hlen, if_neg (by simp)]
              clear hlen
              go_wp2_with fail
              refine (endW_no l r z ws4 _ n _ S8.out.ln S8.out.rd).mono ?_
              rintro e w4 ⟨rfl, rfl⟩
              exact ⟨rfl, rfl, S8.out.mu⟩
            | nil =>
              obtain rfl : res = some ⟨a1, a2, a3, ⟨y.toArray⟩⟩ := by rw [HR.out, if_pos hlen, if_pos rfl]
              have hn0 := HL.out.lt
              have hn1 := HL.out.max
              have hn2 : (n : Int) < 9223372036854775807 := by omega
              have HN := Lib.hid hn2
              clear hn2 hlen
              go_wp2_with fail
              refine (endW_yes l r _ n (by omega) HN.out _ S8.out.ln S8.out.rd).mono ?_
              rintro e w4 ⟨rfl, hr4, hm4⟩
              have hs4 := hm4.blk S8.out.rs (by omega)
              have HS4 := Lib.hid hs4
              have HR4 := Lib.hid hr4
              have HM4 := Lib.hid (S8.out.mu.trans hm4 (fun i hi => .inl hi))
              clear hs4 hr4 hm4
              go_wp2_with (first | (refine wpList_load_row rfl 53 _ rfl w.heap.size rfl 53 _ (0, 0) _ HS4.out Tryz.underlying53 rfl call_info ?_) | (refine wpList_store_row rfl 53 _ _ rfl w.heap.size (qCells 2 a1 a2 a3 y) rfl rfl 53 _ HS4.out call_info rfl (qCells_one _ _ _ _ _) ?_))
              refine bodyPost_ret (v := .agg (qCells 2 a1 a2 a3 y)) (results_cell_row rfl _ _ w.heap.size 53 (qCells 2 a1 a2 a3 y) (0, 0) _ rfl (setRow_heap w4 w.heap.size _ _ _ _ HS4.out) Tryz.underlying53 rfl call_info) rfl ?_
              exact ⟨.slice none 0 0, rfl, Kd.R_nil _ _ _ _ _, HR4.out.mut ((Mut.refl (· = w.heap.size) w4).setRow (.inl rfl) _) (by omega), HM4.out.setRow (.inr (Nat.le_refl _)) _⟩
          · have ht : decide (100 < (y.length : Int)) = true := decide_eq_true (by omega)
            obtain rfl : res = none := by rw [HR.out, if_neg hlen]
            clear hlen
            go_wp2_with fail
            refine (give_any r _ n _ S8.out.rd).mono ?_
            rintro e w4 ⟨rfl, rfl⟩
            exact ⟨rfl, rfl, S8.out.mu⟩

set_option maxRecDepth 100000 in
set_option maxHeartbeats 2000000 in
theorem call_ask (r b off L c n : Nat) (s : ByteArray) (ws : List (List UInt8)) (w : World) (res : Option QD) (hL : Line w r b off L c n s) (hw : Scr.words (bl s) = kAsk :: ws) (hres : pQuery ws = res) :
    Calls Tryz.prog 50 #[.pointer (some ⟨r, 0, none⟩)] w (CallPost r (.slice (some ⟨b, off, none⟩) L c) n w (res.map fun q => ⟨4, [], q⟩)) := by
  have hlt := lt_of_block hL.rd
  have HL := Lib.hid hL
  have HW := Lib.hid hw
  have HRES := Lib.hid hres
  clear hL hw hres
  go_enter Tryz.func50, Tryz.ntmps50
  go_wp2_with fail
  have HL0 := Lib.hid (HL.out.below ((Below.refl _ _).alloc (Nat.le_refl _) (.cells callZero 53)))
  refine (line_yes r b off L c n s _ HL0.out.rd HL0.out.lt (by have := HL0.out.max; omega) HL0.out.cell).mono ?_
  rintro e w1 ⟨l, rfl, hl, hln, hb1⟩
  have hl2 : w.heap.size < l := by simp at hl; omega
  have S := Lib.hid (show CallSt w w1 r l (.slice (some ⟨b, off, none⟩) L c) n callZero ([97, 115, 107] :: ws) from
    ⟨HW.out ▸ LnW.of hln HL0.out.size, HL0.out.rd.below hb1, (hb1.block _ (by simp)).trans (alloc_new _ _), HL0.out.gl.below hb1, ((Mut.refl _ w).alloc _).then_below hb1, by omega, by have := HL0.out.r6; omega, hl2, hlt, HL.out.gl.size⟩)
  clear hln hb1 hl
  go_wp2_with fail
  refine (wordW_yes l r [97, 115, 107] ws w1 S.out.ln).mono ?_
  rintro e w2 ⟨rfl, hx, hl3, hm3⟩
  have S2 := Lib.hid (S.out.next hl3 hm3)
  have z0 := cell_blk S2.out.rs 0 (v := .int .i64 0) rfl
  have f0 := froz_blk S2.out.rs 0
  have S3 := Lib.hid (show CallSt w (w2.setCell ⟨w.heap.size, 0, none⟩ (.int .i64 4)) r l (.slice (some ⟨b, off, none⟩) L c) n (openCells 4) ws from S2.out.set 0 (.int .i64 4))
  have z1 := cell_blk S3.out.rs 0 (v := .int .i64 4) rfl
  clear hl3 hm3 S
  cases p1 : pNum ws with
  | none =>
    obtain rfl : res = none := by rw [← HRES.out, pQuery, p1]; rfl
    have P1 := Lib.hid p1
    clear p1
    go_wp2_with fail
    refine (number_n l r ws S3.out.rl P1.out _ n _ S3.out.gl S3.out.ln S3.out.rd S3.out.l6).mono ?_
    rintro e w4 ⟨rfl, hm4⟩
    exact ⟨rfl, rfl, S3.out.mu.trans hm4 (fun i hi => .inr (by have := S3.out.lw; omega))⟩
  | some q1 =>
    obtain ⟨a1, ws1⟩ := q1
    have P1 := Lib.hid p1
    clear p1
    go_wp2_with fail
    refine (number_y l r ws ws1 S3.out.rl a1 P1.out _ S3.out.gl S3.out.ln S3.out.l6).mono ?_
    rintro e w4 ⟨rfl, hl4, hm4⟩
    have S4 := Lib.hid (S3.out.next hl4 hm4)
    clear hl4 hm4
    cases p2 : pNum ws1 with
    | none =>
      obtain rfl : res = none := by rw [← HRES.out, pQuery, P1.out]; simp only [Option.bind_some]; rw [p2]; rfl
      have P2 := Lib.hid p2
      clear p2
      go_wp2_with fail
      refine (number_n l r ws1 S4.out.rl P2.out _ n _ S4.out.gl S4.out.ln S4.out.rd S4.out.l6).mono ?_
      rintro e w5 ⟨rfl, hm5⟩
      exact ⟨rfl, rfl, S4.out.mu.trans hm5 (fun i hi => .inr (by have := S4.out.lw; omega))⟩
    | some q2 =>
      obtain ⟨a2, ws2⟩ := q2
      have P2 := Lib.hid p2
      clear p2
      go_wp2_with fail
      refine (number_y l r ws1 ws2 S4.out.rl a2 P2.out _ S4.out.gl S4.out.ln S4.out.l6).mono ?_
      rintro e w5 ⟨rfl, hl5, hm5⟩
      have S5 := Lib.hid (S4.out.next hl5 hm5)
      clear hl5 hm5
      cases p3 : pNum ws2 with
      | none =>
        obtain rfl : res = none := by rw [← HRES.out, pQuery, P1.out]; simp only [Option.bind_some]; rw [P2.out]; simp only [Option.bind_some]; rw [p3]; rfl
        have P3 := Lib.hid p3
        clear p3
        go_wp2_with fail
        refine (number_n l r ws2 S5.out.rl P3.out _ n _ S5.out.gl S5.out.ln S5.out.rd S5.out.l6).mono ?_
        rintro e w6 ⟨rfl, hm6⟩
        exact ⟨rfl, rfl, S5.out.mu.trans hm6 (fun i hi => .inr (by have := S5.out.lw; omega))⟩
      | some q3 =>
        obtain ⟨a3, ws3⟩ := q3
        have P3 := Lib.hid p3
        clear p3
        go_wp2_with fail
        refine (number_y l r ws2 ws3 S5.out.rl a3 P3.out _ S5.out.gl S5.out.ln S5.out.l6).mono ?_
        rintro e w6 ⟨rfl, hl6, hm6⟩
        have S6 := Lib.hid (S5.out.next hl6 hm6)
        clear hl6 hm6
        cases p4 : pText [] ws3 with
        | none =>
          obtain rfl : res = none := by rw [← HRES.out, pQuery, P1.out]; simp only [Option.bind_some]; rw [P2.out]; simp only [Option.bind_some]; rw [P3.out]; simp only [Option.bind_some]; rw [p4]; rfl
          have P4 := Lib.hid p4
          clear p4
          go_wp2_with fail
          refine (text_n l r ws3 ⟨#[]⟩ none_ok (by decide) S6.out.rl P4.out _ n _ S6.out.ln S6.out.rd).mono ?_
          rintro e w7 ⟨rfl, hm7⟩
          exact ⟨rfl, rfl, S6.out.mu.trans hm7 (fun i hi => .inr (by have := S6.out.lw; omega))⟩
        | some q4 =>
          obtain ⟨y, ws4⟩ := q4
          have hy := text_len S6.out.ln p4
          have HY := Lib.hid hy
          have hrs : res = if y.length ≤ 100 then (if ws4 = [] then some ⟨a1, a2, a3, ⟨y.toArray⟩⟩ else none) else none := by
            rw [← HRES.out, pQuery, P1.out]; simp only [Option.bind_some]; rw [P2.out]; simp only [Option.bind_some]; rw [P3.out]; simp only [Option.bind_some]; rw [p4]; rfl
          have HR := Lib.hid hrs
          have P4 := Lib.hid p4
          clear p4 hy hrs
          go_wp2_with fail
          refine (text_y l r ws3 ws4 y ⟨#[]⟩ none_ok (by decide) P4.out _ S6.out.ln).mono ?_
          rintro e w7 ⟨rfl, hl7, hm7⟩
          have S7 := Lib.hid (S6.out.next hl7 hm7)
          clear hl7 hm7
          have g2 := cell_blk S7.out.rs 2 (v := .int .i64 0) rfl
          have g3 := cell_blk S7.out.rs 3 (v := .int .i64 0) rfl
          have g4 := cell_blk S7.out.rs 4 (v := .int .i64 0) rfl
          have g5 := cell_blk S7.out.rs 5 (v := .string ⟨#[]⟩) rfl
          have h2 := froz_blk S7.out.rs 2
          have h3 := froz_blk S7.out.rs 3
          have h4 := froz_blk S7.out.rs 4
          have h5 := froz_blk S7.out.rs 5
          have S8 := Lib.hid (show CallSt w ((((w7.setCell ⟨w.heap.size, 2, none⟩ (.int .i64 a1)).setCell ⟨w.heap.size, 3, none⟩ (.int .i64 a2)).setCell ⟨w.heap.size, 4, none⟩ (.int .i64 a3)).setCell ⟨w.heap.size, 5, none⟩ (.string ⟨y.toArray⟩)) r l (.slice (some ⟨b, off, none⟩) L c) n (qCells 4 a1 a2 a3 y) ws4 from
            (((S7.out.set 2 (.int .i64 a1)).set 3 (.int .i64 a2)).set 4 (.int .i64 a3)).set 5 (.string ⟨y.toArray⟩))
          by_cases hlen : y.length ≤ 100
          · have ht : decide (100 < (y.length : Int)) = false := decide_eq_false (by omega)
            cases ws4 with
            | cons z ws4 =>
              obtain rfl : res = none := by rw [HR.out, if_pos hlen, if_neg (by simp)]
              clear hlen
              go_wp2_with fail
              refine (endW_no l r z ws4 _ n _ S8.out.ln S8.out.rd).mono ?_
              rintro e w4 ⟨rfl, rfl⟩
              exact ⟨rfl, rfl, S8.out.mu⟩
            | nil =>
              obtain rfl : res = some ⟨a1, a2, a3, ⟨y.toArray⟩⟩ := by rw [HR.out, if_pos hlen, if_pos rfl]
              have hn0 := HL.out.lt
              have hn1 := HL.out.max
              have hn2 : (n : Int) < 9223372036854775807 := by omega
              have HN := Lib.hid hn2
              clear hn2 hlen
              go_wp2_with fail
              refine (endW_yes l r _ n (by omega) HN.out _ S8.out.ln S8.out.rd).mono ?_
              rintro e w4 ⟨rfl, hr4, hm4⟩
              have hs4 := hm4.blk S8.out.rs (by omega)
              have HS4 := Lib.hid hs4
              have HR4 := Lib.hid hr4
              have HM4 := Lib.hid (S8.out.mu.trans hm4 (fun i hi => .inl hi))
              clear hs4 hr4 hm4
              go_wp2_with (first | (refine wpList_load_row rfl 53 _ rfl w.heap.size rfl 53 _ (0, 0) _ HS4.out Tryz.underlying53 rfl call_info ?_) | (refine wpList_store_row rfl 53 _ _ rfl w.heap.size (qCells 4 a1 a2 a3 y) rfl rfl 53 _ HS4.out call_info rfl (qCells_one _ _ _ _ _) ?_))
              refine bodyPost_ret (v := .agg (qCells 4 a1 a2 a3 y)) (results_cell_row rfl _ _ w.heap.size 53 (qCells 4 a1 a2 a3 y) (0, 0) _ rfl (setRow_heap w4 w.heap.size _ _ _ _ HS4.out) Tryz.underlying53 rfl call_info) rfl ?_
              exact ⟨.slice none 0 0, rfl, Kd.R_nil _ _ _ _ _, HR4.out.mut ((Mut.refl (· = w.heap.size) w4).setRow (.inl rfl) _) (by omega), HM4.out.setRow (.inr (Nat.le_refl _)) _⟩
          · have ht : decide (100 < (y.length : Int)) = true := decide_eq_true (by omega)
            obtain rfl : res = none := by rw [HR.out, if_neg hlen]
            clear hlen
            go_wp2_with fail
            refine (give_any r _ n _ S8.out.rd).mono ?_
            rintro e w4 ⟨rfl, rfl⟩
            exact ⟨rfl, rfl, S8.out.mu⟩

/-- A line of a call, whatever it says. -/
theorem call_any (r b off L c n : Nat) (s : ByteArray) (w : World) (hL : Line w r b off L c n s) :
    Calls Tryz.prog 50 #[.pointer (some ⟨r, 0, none⟩)] w (CallPost r (.slice (some ⟨b, off, none⟩) L c) n w (pCall (Scr.words (bl s)))) := by
  cases hw : Scr.words (bl s) with
  | nil =>
    refine absurd hw ?_
    cases hb : Scr.blankAt false (bl s) with
    | none => rw [Scr.words_none hb]; simp
    | some i => rw [Scr.words_some hb]; simp
  | cons x ws =>
    by_cases h1 : x = kSubmit
    · subst h1
      rw [show pCall (kSubmit :: ws) = pSubmit ws by simp only [pCall, if_pos]; rfl]
      exact call_submit r b off L c n s ws w _ hL hw rfl
    · by_cases h2 : x = kRead
      · subst h2
        rw [show pCall (kRead :: ws) = (pQuery ws).map fun q => ⟨2, [], q⟩ by simp only [pCall, if_neg h1, if_pos]]
        exact call_read r b off L c n s ws w _ hL hw rfl
      · by_cases h3 : x = kAsk
        · subst h3
          rw [show pCall (kAsk :: ws) = (pQuery ws).map fun q => ⟨4, [], q⟩ by simp only [pCall, if_neg h1, if_neg h2, if_pos]]
          exact call_ask r b off L c n s ws w _ hL hw rfl
        · by_cases h4 : x = kOpen
          · subst h4
            simp only [pCall, if_neg h1, if_neg h2, if_neg h3, if_pos]
            cases ws with
            | nil => exact call_open0 r b off L c n s w hL hw
            | cons y ws => rw [if_neg (by simp)]; exact call_open1 r b off L c n s y ws w hL hw
          · by_cases h5 : x = kClose
            · subst h5
              simp only [pCall, if_neg h1, if_neg h2, if_neg h3, if_neg h4, if_pos]
              cases ws with
              | nil => exact call_close0 r b off L c n s w hL hw
              | cons y ws => rw [if_neg (by simp)]; exact call_close1 r b off L c n s y ws w hL hw
            · simp only [pCall, if_neg h1, if_neg h2, if_neg h3, if_neg h4, if_neg h5]
              exact call_other r b off L c n s x ws w hL hw h1 h2 h3 h4 h5
end Go.Proofs.YtjcdpccfhpbccaaGreatDoor
