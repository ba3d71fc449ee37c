/-
  The walk of script.Print.
-/
import Derived.Test.YtjcdpccfhpbccaaGreatDoorF7
import Derived.Test.YtjcdpccfhpbccaaGreatDoorG0
import Derived.Lib.BufferKept
namespace Go.Proofs.YtjcdpccfhpbccaaGreatDoor
open Go.RowKit Go.Proofs.YtjcdpccfhpbccaaGreatDoorW.PrintWords

def numsText (l : List Int) : List UInt8 := l.flatMap fun n => 32 :: Lib.itoa n
def callsText (l : List CallD) : List UInt8 := l.flatMap fun c => 10 :: tText c
def rowsText (l : List (List CallD)) : List UInt8 := l.flatMap fun row => [10, 99, 108, 105, 101, 110, 116] ++ callsText row
def prText (s : ScrD) : List UInt8 := [119, 111, 114, 108, 100] ++ numsText [s.clients, s.shift, s.recs, s.chunks] ++ rowsText s.calls ++ [10, 112, 105, 99, 107, 115] ++ numsText s.picks ++ [10]
open Classical in
noncomputable def pPrint (s : ScrD) : List UInt8 × Int := if pParse (pieces (prText s)) = .ok s then (prText s, 0) else ([], 1)
theorem scr_ext {x s : ScrD} (h : x.clients = s.clients ∧ x.shift = s.shift) (h2 : x.recs = s.recs) (h3 : x.chunks = s.chunks) (h4 : x.calls = s.calls) (h5 : x.picks = s.picks) : x = s := by
  cases x; cases s; simp_all
theorem nums_at {l : List Int} {i : Nat} {n : Int} (h : l[i]? = some n) : numsText l = numsText (l.take i) ++ (32 :: Lib.itoa n) ++ numsText (l.drop (i + 1)) := by
  obtain ⟨hlt, he⟩ := List.getElem?_eq_some_iff.1 h
  conv => lhs; rw [← List.take_append_drop i l, List.drop_eq_getElem_cons hlt, he]
  simp [numsText]
theorem nums_next {l : List Int} {i : Nat} {n : Int} (h : l[i]? = some n) : numsText (l.take (i + 1)) = numsText (l.take i) ++ (32 :: Lib.itoa n) := by
  rw [List.take_add_one, h]
  simp [numsText]
theorem nums_len (l : List Int) : l.length ≤ (numsText l).length := by
  induction l with
  | nil => simp
  | cons n l ih => simp only [numsText, List.flatMap_cons, List.length_append, List.length_cons] at ih ⊢; omega
theorem calls_at {l : List CallD} {i : Nat} {c : CallD} (h : l[i]? = some c) : callsText l = callsText (l.take i) ++ (10 :: tText c) ++ callsText (l.drop (i + 1)) := by
  obtain ⟨hlt, he⟩ := List.getElem?_eq_some_iff.1 h
  conv => lhs; rw [← List.take_append_drop i l, List.drop_eq_getElem_cons hlt, he]
  simp [callsText]
theorem calls_next {l : List CallD} {i : Nat} {c : CallD} (h : l[i]? = some c) : callsText (l.take (i + 1)) = callsText (l.take i) ++ (10 :: tText c) := by
  rw [List.take_add_one, h]
  simp [callsText]
theorem rows_at {l : List (List CallD)} {i : Nat} {r : List CallD} (h : l[i]? = some r) : rowsText l = rowsText (l.take i) ++ ([10, 99, 108, 105, 101, 110, 116] ++ callsText r) ++ rowsText (l.drop (i + 1)) := by
  obtain ⟨hlt, he⟩ := List.getElem?_eq_some_iff.1 h
  conv => lhs; rw [← List.take_append_drop i l, List.drop_eq_getElem_cons hlt, he]
  simp [rowsText]
theorem rows_next {l : List (List CallD)} {i : Nat} {r : List CallD} (h : l[i]? = some r) : rowsText (l.take (i + 1)) = rowsText (l.take i) ++ ([10, 99, 108, 105, 101, 110, 116] ++ callsText r) := by
  rw [List.take_add_one, h]
  simp [rowsText]
structure ScrOk (s : ScrD) : Prop where
  n : ∀ x ∈ [s.clients, s.shift, s.recs, s.chunks], I64 x
  calls : ∀ row ∈ s.calls, row.length ≤ 4294967296 ∧ ∀ c ∈ row, CallOk c ∧ c.ops.length ≤ 4294967296
  rows : s.calls.length ≤ 4294967296
  picks : ∀ x ∈ s.picks, 0 ≤ x ∧ x ≤ 255

/-- What stands while the builder is written. g: the block of the numbers. -/
structure PrSt (w W : World) (b g : Nat) (cs ns : Array Value) (l : List UInt8) : Prop where
  bld : Bld w W b l
  bx : W.heap[w.heap.size]? = some (.cells cs 28 (0, 0))
  nm : W.heap[g]? = some (.cells ns 3 (0, 0))
  bb : w.heap.size < b
  bg : b < g
namespace PrSt
variable {w W W1 : World} {b g : Nat} {cs ns : Array Value} {l x : List UInt8}
theorem bld_keep {w W W1 : World} {b : Nat} {l : List UInt8} (h : Bld w W b l) (hb : Below W.heap.size W W1) : Bld w W1 b l := by
  refine ⟨?_, h.be.trans (hb.mono h.be.size)⟩
  have key : ∀ p, Lib.BuilderAtF 81 5 w.heap.size b p (Lib.byteCells l) W → Lib.BuilderAtF 81 5 w.heap.size b p (Lib.byteCells l) W1 := by
    rintro p ⟨h1, v, h2, h3, h4⟩
    refine ⟨h1, v, (hb.block b (lt_of_block h2)).trans h2, ?_, h4⟩
    obtain ⟨e1, e2⟩ := h3
    refine ⟨e1, ?_⟩
    rcases e2 with e2 | ⟨g, cap, cur, fz, rfl, hg, hh, r⟩
    · exact .inl e2
    · exact .inr ⟨g, cap, cur, fz, rfl, hg, (hb.block g (lt_of_block hh)).trans hh, r⟩
  rcases h.bd with h | h
  · exact .inl (key _ h)
  · exact .inr (key _ h)
theorem below (h : PrSt w W b g cs ns l) (hb : Below W.heap.size W W1) : PrSt w W1 b g cs ns l :=
  ⟨bld_keep h.bld hb, (hb.block _ (lt_of_block h.bx)).trans h.bx, (hb.block _ (lt_of_block h.nm)).trans h.nm, h.bb, h.bg⟩
theorem wrote (h : PrSt w W b g cs ns l) (hl : Bld w W1 b (l ++ x)) (hk : Lib.OthersKept 5 (some b) W W1) : PrSt w W1 b g cs ns (l ++ x) := by
  have h1 := h.bb
  have h2 := h.bg
  exact ⟨hl, hk _ _ h.bx (by simp; omega) (by simp), hk _ _ h.nm (by simp; omega) (by simp), h1, h2⟩
end PrSt
theorem Bld.lt {w W : World} {b : Nat} {l : List UInt8} (h : Bld w W b l) : b < W.heap.size := by
  rcases h.bd with ⟨_, v, h2, _⟩ | ⟨_, v, h2, _⟩
  · exact lt_of_block h2
  · exact lt_of_block h2
theorem bld_new (w : World) (o : Obj) : Bld w ((w.alloc o).alloc (.cells #[.pointer none, .slice none 0 0] 81)) (w.heap.size + 1) [] := by
  refine ⟨.inl ⟨by omega, .slice none 0 0, ?_, ⟨rfl, .inl ⟨rfl, rfl⟩⟩, by simp [Value.ownBlock]⟩, ((Below.refl _ _).alloc (Nat.le_refl _) o).alloc (by simp) _⟩
  have := alloc_new (w.alloc o) (.cells #[.pointer none, .slice none 0 0] 81)
  simpa using this

set_option maxHeartbeats 1000000 in
theorem cmp_lay (a b c d : Int) : ∃ r, (r = true ↔ ¬ (a = c ∧ b = d)) ∧ ∀ w, (binOp .neq 24 (.agg #[.int .i64 a, .int .i64 b]) (.agg #[.int .i64 c, .int .i64 d])).run Tryz.prog w = .ok (.bool r) w := by
  have hp : Tryz.prog.stoodInHeld 24 = false := by kernel_rfl
  by_cases h1 : a = c
  · subst h1
    by_cases h2 : b = d
    · subst h2
      exact ⟨false, by simp, fun w => by simp [go_sem, hp, Tryz.underlying24]⟩
    · have t : (b == d) = false := beq_eq_false_iff_ne.2 h2
      exact ⟨true, by simp [h2], fun w => by simp [go_sem, hp, t, Tryz.underlying24]⟩
  · have t : (a == c) = false := beq_eq_false_iff_ne.2 h1
    exact ⟨true, by simp [h1], fun w => by simp [go_sem, hp, t, Tryz.underlying24]⟩
set_option maxRecDepth 100000 in
set_option maxHeartbeats 4000000 in
theorem print_walk (s : ScrD) (A1 A2 : Option Addr) (c1 c2 : Nat) (w : World) (hG : Glob w) (hC : kRow.C w A1 s.calls.length s.calls) (hP : (Kd.int .u8).C w A2 s.picks.length s.picks) (hok : ScrOk s) (hlen : (prText s).length ≤ 4294967200) (res : List UInt8 × Int) (hres : pPrint s = res) :
    Calls Tryz.prog 11 #[.agg (scCells s.clients s.shift s.recs s.chunks (.slice A1 s.calls.length c1) (.slice A2 s.picks.length c2))] w fun e w' => e = .returned (.tuple #[.string ⟨res.1.toArray⟩, .int .i64 res.2]) ∧ Below w.heap.size w w' := by
  have HG := Lib.hid hG
  have HC := Lib.hid hC
  have HP := Lib.hid hP
  have HOK := Lib.hid hok
  have HLEN := Lib.hid hlen
  have HRES := Lib.hid hres
  have HB0 := Lib.hid (bld_new w (.cells (scCells s.clients s.shift s.recs s.chunks (.slice A1 s.calls.length c1) (.slice A2 s.picks.length c2)) 28))
  clear hG hC hP hok hlen hres
  unfold scCells
  go_enter Tryz.func11, Tryz.ntmps11
  go_wp2_with fail
  refine (write_any (w := w) (w.heap.size + 1) [] [119, 111, 114, 108, 100] _ HB0.out (by simp)).mono ?_
  rintro e w1 ⟨rfl, hb1, hbe1, hk1⟩
  have hx1 : w1.heap[w.heap.size]? = some (.cells (scCells s.clients s.shift s.recs s.chunks (.slice A1 s.calls.length c1) (.slice A2 s.picks.length c2)) 28 (0, 0)) :=
    hk1 _ _ (alloc_blk (alloc_new _ _) _) (by simp) (by simp)
  have z0 := cell_blk hx1 0 (v := .int .i64 s.clients) rfl
  have z1 := cell_blk hx1 1 (v := .int .i64 s.shift) rfl
  have z2 := cell_blk hx1 2 (v := .int .i64 s.recs) rfl
  have z3 := cell_blk hx1 3 (v := .int .i64 s.chunks) rfl
  have HX1 := Lib.hid hx1
  have HB1 := Lib.hid hb1
  clear hb1 hbe1 hk1 hx1 HB0
  go_wp2_with fail
  have HP1 := Lib.hid (show PrSt w (w1.alloc (.cells #[.int .i64 s.clients, .int .i64 s.shift, .int .i64 s.recs, .int .i64 s.chunks] 3)) (w.heap.size + 1) w1.heap.size (scCells s.clients s.shift s.recs s.chunks (.slice A1 s.calls.length c1) (.slice A2 s.picks.length c2)) #[.int .i64 s.clients, .int .i64 s.shift, .int .i64 s.recs, .int .i64 s.chunks] [119, 111, 114, 108, 100] from
    ⟨PrSt.bld_keep HB1.out ((Below.refl _ _).alloc (Nat.le_refl _) _), alloc_blk HX1.out _, alloc_new _ _, by omega, by have := HB1.out.lt; omega⟩)
  obtain ⟨g, hg⟩ : ∃ g, w1.heap.size = g := ⟨_, rfl⟩
  rw [hg] at HP1
  obtain ⟨L, hL⟩ : ∃ L, [s.clients, s.shift, s.recs, s.chunks] = L := ⟨_, rfl⟩
  have HL := Lib.hid hL
  have HL4 := Lib.hid (show L.length = 4 by rw [← hL]; rfl)
  rw [hg]
  clear hL z0 z1 z2 z3 hg
  go_loopg [29] 4 (fun k s29 wr => ∃ (i : Nat), k + i = 4 ∧ s29 = .int .i64 i ∧ Hid (PrSt w wr (w.heap.size + 1) g (scCells s.clients s.shift s.recs s.chunks (.slice A1 s.calls.length c1) (.slice A2 s.picks.length c2)) #[.int .i64 s.clients, .int .i64 s.shift, .int .i64 s.recs, .int .i64 s.chunks] ([119, 111, 114, 108, 100] ++ numsText (L.take i))))
  case atStart => exact ⟨0, by omega, rfl, HP1⟩
  case round =>
    clear HP1
    obtain ⟨i, hki, rfl, P⟩ := hrel
    cases gk with
    | zero =>
      have hlt : ¬ ((i : Int) < 4) := by omega
      have z4 := cell_blk P.out.bx 4 (v := .slice A1 s.calls.length c1) rfl
      have P4 := Lib.hid (show PrSt w wr (w.heap.size + 1) g (scCells s.clients s.shift s.recs s.chunks (.slice A1 s.calls.length c1) (.slice A2 s.picks.length c2)) #[.int .i64 s.clients, .int .i64 s.shift, .int .i64 s.recs, .int .i64 s.chunks] ([119, 111, 114, 108, 100] ++ numsText L ++ rowsText (s.calls.take 0)) from by
        have := P.out
        rw [List.take_of_length_le (by have := HL4.out; omega)] at this
        rw [List.take_zero, show rowsText [] = [] from rfl, List.append_nil]
        exact this)
      clear P
      go_wp2_with fail
      clear z4
      obtain ⟨cs, hcs⟩ : ∃ cs, scCells s.clients s.shift s.recs s.chunks (.slice A1 s.calls.length c1) (.slice A2 s.picks.length c2) = cs := ⟨_, rfl⟩
      obtain ⟨ns, hns⟩ : ∃ ns : Array Value, #[.int .i64 s.clients, .int .i64 s.shift, .int .i64 s.recs, .int .i64 s.chunks] = ns := ⟨_, rfl⟩
      rw [hcs, hns] at P4
      have HCS := Lib.hid hcs
      clear hcs hns
      go_loopg [41] s.calls.length (fun k s41 wr => ∃ (i : Nat), k + i = s.calls.length ∧ s41 = .int .i64 i ∧ Hid (PrSt w wr (w.heap.size + 1) g cs ns ([119, 111, 114, 108, 100] ++ numsText L ++ rowsText (s.calls.take i))))
      case atStart => exact ⟨0, by omega, rfl, P4⟩
      case round =>
        clear P4 hlt hki
        obtain ⟨i, hki, rfl, P⟩ := hrel
        cases gk with
        | zero =>
          have hlt : ¬ ((i : Int) < (s.calls.length : Int)) := by omega
          have P5 := Lib.hid (show PrSt w wr (w.heap.size + 1) g cs ns ([119, 111, 114, 108, 100] ++ numsText L ++ rowsText s.calls) from by
            have := P.out
            rw [List.take_of_length_le (l := s.calls) (by omega)] at this
            exact this)
          clear P hki
          go_wp2_with fail
          refine (write_any (w := w) (w.heap.size + 1) _ [10, 112, 105, 99, 107, 115] wr P5.out.bld (by
            have h1 := HLEN.out
            rw [prText, HL.out] at h1
            simp only [List.length_append, List.length_cons, List.length_nil] at h1 ⊢
            omega)).mono ?_
          rintro e w3 ⟨rfl, hb3, hbe3, hk3⟩
          have P6 := Lib.hid (show PrSt w w3 (w.heap.size + 1) g cs ns ([119, 111, 114, 108, 100] ++ numsText L ++ rowsText s.calls ++ [10, 112, 105, 99, 107, 115] ++ numsText (s.picks.take 0)) from by
            rw [List.take_zero, show numsText [] = [] from rfl, List.append_nil]
            exact P5.out.wrote hb3 hk3)
          have z5 := cell_blk P6.out.bx 5 (v := .slice A2 s.picks.length c2) (by rw [← HCS.out]; rfl)
          clear hb3 hbe3 hk3 P5
          go_wp2_with fail
          clear z5
          go_loopg [62] s.picks.length (fun k s62 wr => ∃ (i : Nat), k + i = s.picks.length ∧ s62 = .int .i64 i ∧ Hid (PrSt w wr (w.heap.size + 1) g cs ns ([119, 111, 114, 108, 100] ++ numsText L ++ rowsText s.calls ++ [10, 112, 105, 99, 107, 115] ++ numsText (s.picks.take i))))
          case atStart => exact ⟨0, by omega, rfl, P6⟩
          case round =>
            clear P6 hlt
            obtain ⟨i, hki, rfl, P⟩ := hrel
            cases gk with
            | zero =>
              have hlt : ¬ ((i : Int) < (s.picks.length : Int)) := by omega
              have P5 := Lib.hid (show PrSt w wr (w.heap.size + 1) g cs ns ([119, 111, 114, 108, 100] ++ numsText L ++ rowsText s.calls ++ [10, 112, 105, 99, 107, 115] ++ numsText s.picks) from by
                have := P.out
                rw [List.take_of_length_le (l := s.picks) (by omega)] at this
                exact this)
              clear P hki
              go_wp2_with fail
              refine (write_any (w := w) (w.heap.size + 1) _ [10] wr P5.out.bld (by
                have h1 := HLEN.out
                rw [prText, HL.out] at h1
                simp only [List.length_append, List.length_cons, List.length_nil] at h1 ⊢
                omega)).mono ?_
              rintro e w3 ⟨rfl, hb3, hbe3, hk3⟩
              have P6 := Lib.hid (show PrSt w w3 (w.heap.size + 1) g cs ns (prText s) from by
                have := P5.out.wrote hb3 hk3
                rw [prText, HL.out]
                exact this)
              clear hb3 hbe3 hk3 P5
              go_wp2_with fail
              refine (Tryz.Builder_String_any_k w.heap.size (w.heap.size + 1) (prText s) w3 P6.out.bld.bd P6.out.bld.be.size).mono ?_
              rintro e w4 ⟨rfl, hbd, hb4, hk4⟩
              have P7 := Lib.hid (show PrSt w w4 (w.heap.size + 1) g cs ns (prText s) from
                ⟨⟨hbd, P6.out.bld.be.trans hb4⟩, hk4 _ _ P6.out.bx (by simp) (by simp), hk4 _ _ P6.out.nm (by have := P6.out.bg; simp; omega) (by simp), P6.out.bb, P6.out.bg⟩)
              clear hbd hb4 hk4 P6
              go_wp2_with fail
              refine (parse_any ⟨(prText s).toArray⟩ (by rw [size_mk]; have := HLEN.out; omega) w4 (HG.out.below P7.out.bld.be) _ rfl).mono ?_
              intro e w5 h5
              cases hp : pParse (pieces (bl ⟨(prText s).toArray⟩)) with
              | error m =>
                rw [hp] at h5
                obtain ⟨rfl, hb5⟩ := h5
                have P8 := Lib.hid (P7.out.below hb5)
                have hr : res = ([], 1) := by
                  rw [← HRES.out, pPrint, if_neg]
                  intro h
                  have h2 : pParse (pieces (prText s)) = .error m := hp
                  rw [h2] at h
                  cases h
                have HR := Lib.hid hr
                have hbe : ∀ o, Below w.heap.size w (w5.alloc o) := fun o => P8.out.bld.be.alloc P8.out.bld.be.size o
                have HBE := Lib.hid hbe
                clear hb5 hp hr hbe
                unfold scrZero
                go_wp2_with fail
                go_ret2
                exact ⟨by rw [HR.out]; rfl, HBE.out _⟩
              | ok x =>
                rw [hp] at h5
                obtain ⟨vc, vp, rfl, hvc, hvp, hb5⟩ := h5
                obtain ⟨A3, k3, rfl⟩ := Kd.R_slice hvc
                obtain ⟨A4, k4, rfl⟩ := Kd.R_slice hvp
                have P8 := Lib.hid (P7.out.below hb5)
                have HSZ := Lib.hid (pParse_in hp)
                have HVC := Lib.hid (Kd.R_reads' hvc).2.2
                have HVP := Lib.hid (Kd.R_reads' hvp).2.2
                have hr : (x = s → res = (prText s, 0)) ∧ (x ≠ s → res = ([], 1)) := by
                  have h2 : pParse (pieces (prText s)) = .ok x := hp
                  constructor
                  · intro h
                    rw [← HRES.out, pPrint, if_pos (by rw [h2, h])]
                  · intro h
                    rw [← HRES.out, pPrint, if_neg (by rw [h2]; intro h3; injection h3 with h3; exact h h3)]
                have HR := Lib.hid hr
                have HBE := Lib.hid (show ∀ o, Below w.heap.size w (w5.alloc o) from fun o => P8.out.bld.be.alloc P8.out.bld.be.size o)
                have y0 := fun ob => cell_blk (alloc_blk P8.out.bx ob) 0 (v := .int .i64 s.clients) (by rw [← HCS.out]; rfl)
                have y1 := fun ob => cell_blk (alloc_blk P8.out.bx ob) 1 (v := .int .i64 s.shift) (by rw [← HCS.out]; rfl)
                have y2 := fun ob => cell_blk (alloc_blk P8.out.bx ob) 2 (v := .int .i64 s.recs) (by rw [← HCS.out]; rfl)
                have y3 := fun ob => cell_blk (alloc_blk P8.out.bx ob) 3 (v := .int .i64 s.chunks) (by rw [← HCS.out]; rfl)
                have y4 := fun ob => cell_blk (alloc_blk P8.out.bx ob) 4 (v := .slice A1 s.calls.length c1) (by rw [← HCS.out]; rfl)
                have y5 := fun ob => cell_blk (alloc_blk P8.out.bx ob) 5 (v := .slice A2 s.picks.length c2) (by rw [← HCS.out]; rfl)
                obtain ⟨r1, hr1, hl1⟩ := cmp_lay x.clients x.shift s.clients s.shift
                clear hvc hvp hb5 hp hr
                have fin : ∀ W : World, x ≠ s → Below w.heap.size w W → (Ending.returned (.tuple #[.string ⟨#[]⟩, .int .i64 1]) = .returned (.tuple #[.string ⟨res.1.toArray⟩, .int .i64 res.2])) ∧ Below w.heap.size w W := fun _ h hb => ⟨by rw [HR.out.2 h], hb⟩
                have FIN := Lib.hid fin
                clear fin
                cases r1 with
                | true =>
                  have HNE := Lib.hid (show x ≠ s from fun h => hr1.1 rfl (by rw [h]; exact ⟨rfl, rfl⟩))
                  clear hr1
                  go_wp2_with fail
                  go_ret2
                  exact FIN.out _ HNE.out (HBE.out _)
                | false =>
                  have H1 := Lib.hid (show x.clients = s.clients ∧ x.shift = s.shift by
                    by_cases h : x.clients = s.clients ∧ x.shift = s.shift
                    · exact h
                    · exact absurd (hr1.2 h) (by simp))
                  clear hr1
                  by_cases h2 : x.recs = s.recs
                  · have t2 : (x.recs == s.recs) = true := by rw [h2]; simp
                    have H2 := Lib.hid h2
                    clear h2
                    by_cases h3 : x.chunks = s.chunks
                    · have t3 : (x.chunks == s.chunks) = true := by rw [h3]; simp
                      have H3 := Lib.hid h3
                      clear h3
                      go_wp2_with fail
                      generalize hW : World.alloc w5 _ = w6
                      have hb6 : Below w5.heap.size w5 w6 := by rw [← hW]; exact (Below.refl _ _).alloc (Nat.le_refl _) _
                      have P9 := Lib.hid (P8.out.below hb6)
                      have HX := Lib.hid (show ∃ cs', w6.heap[w5.heap.size]? = some (.cells cs' 28 (0, 0)) ∧ cs' = scCells x.clients x.shift s.recs s.chunks (.slice A3 x.calls.length k3) (.slice A4 x.picks.length k4) from ⟨_, by rw [← hW]; exact alloc_new _ _, rfl⟩)
                      have HVC6 := Lib.hid (Kd.C_below HVC.out hb6)
                      have HVP6 := Lib.hid (Kd.C_below HVP.out hb6)
                      clear hW hb6 y0 y1 y2 y3 y4 y5
                      refine (equalPicks_any A4 A2 k4 c2 x.picks s.picks w6 HVP6.out (Kd.C_below HP.out P9.out.bld.be) (by have := HSZ.out.p; omega)).mono ?_
                      rintro e w7 ⟨⟨r, rfl, hr⟩, hb7⟩
                      have P10 := Lib.hid (P9.out.below hb7)
                      have HVC7 := Lib.hid (Kd.C_below HVC6.out hb7)
                      have HRP := Lib.hid hr
                      cases r with
                      | false =>
                        have HNE := Lib.hid (show x ≠ s from fun h => by have := HRP.out.2 (by rw [h]); cases this)
                        clear hr hb7
                        go_wp2_with fail
                        go_ret2
                        exact FIN.out _ HNE.out P10.out.bld.be
                      | true =>
                        have HPE := Lib.hid (HRP.out.1 rfl)
                        obtain ⟨cs', hx6, hcs'⟩ := HX.out
                        have u4 := cell_blk ((hb7.block _ (lt_of_block hx6)).trans hx6) 4 (v := .slice A3 x.calls.length k3) (by rw [hcs']; rfl)
                        have v4 := cell_blk P10.out.bx 4 (v := .slice A1 s.calls.length c1) (by rw [← HCS.out]; rfl)
                        clear hr hb7 hx6 hcs'
                        go_wp2_with fail
                        refine (equalRows_any _ _ k3 c1 x.calls s.calls w7 HVC7.out (Kd.C_below HC.out P10.out.bld.be) (by have := HSZ.out.rows; have := mayL_in HSZ.out.may; omega) (fun row hr => ⟨by have := (HSZ.out.row row hr).1; omega, fun c hc => by have := ((HSZ.out.row row hr).2 c hc).l; omega⟩)).mono ?_
                        rintro e w8 ⟨⟨r, rfl, hr⟩, hb8⟩
                        have P11 := Lib.hid (P10.out.below hb8)
                        have HRR := Lib.hid hr
                        cases r with
                        | false =>
                          have HNE := Lib.hid (show x ≠ s from fun h => by have := HRR.out.2 (by rw [h]); cases this)
                          clear hr hb8 u4 v4
                          go_wp2_with fail
                          go_ret2
                          exact FIN.out _ HNE.out P11.out.bld.be
                        | true =>
                          have HEQ := Lib.hid (scr_ext H1.out H2.out H3.out (HRR.out.1 rfl) HPE.out)
                          clear hr hb8 u4 v4
                          go_wp2_with fail
                          refine (Tryz.Builder_String_any_k w.heap.size (w.heap.size + 1) (prText s) w8 P11.out.bld.bd P11.out.bld.be.size).mono ?_
                          rintro e w9 ⟨rfl, hbd, hb9, hk9⟩
                          have HBE9 := Lib.hid (P11.out.bld.be.trans hb9)
                          clear hbd hb9 hk9
                          go_wp2_with fail
                          go_ret2
                          exact ⟨by rw [HR.out.1 HEQ.out]; rfl, HBE9.out⟩
                    · have t3 : (x.chunks != s.chunks) = true := by simp only [bne, beq_eq_false_iff_ne.2 h3]; rfl
                      have HNE := Lib.hid (show x ≠ s from fun h => h3 (by rw [h]))
                      clear h3
                      go_wp2_with fail
                      go_ret2
                      exact FIN.out _ HNE.out (HBE.out _)
                  · have t2 : (x.recs != s.recs) = true := by simp only [bne, beq_eq_false_iff_ne.2 h2]; rfl
                    have HNE := Lib.hid (show x ≠ s from fun h => h2 (by rw [h]))
                    clear h2
                    go_wp2_with fail
                    go_ret2
                    exact FIN.out _ HNE.out (HBE.out _)
            | succ gk =>
              have hlt : (i : Int) < (s.picks.length : Int) := by omega
              obtain ⟨v, hv⟩ : ∃ v, s.picks[i]? = some v := ⟨_, List.getElem?_eq_getElem (by omega)⟩
              obtain ⟨ad, rfl, e3⟩ := u8_cells HP.out i (by omega) hv
              have x0 := e3 _ P.out.bld.be
              obtain ⟨hv0, hv1⟩ := HOK.out.picks v (List.mem_of_getElem? hv)
              have hI : I64 v := ⟨by omega, by omega⟩
              have HI := Lib.hid hI
              have q10 : IntKind.i64.wrap v = v := by rw [IntKind.wrap_i64]; omega
              have q9 : IntKind.i64.wrap ((i : Int) + 1) = (i : Int) + 1 := wrap_next (by
                have h1 := HLEN.out
                have h2 := nums_len s.picks
                rw [prText] at h1
                simp only [List.length_append] at h1
                omega)
              have HV := Lib.hid hv
              have hsz := size_mk (Lib.itoa v)
              have hl := Lib.itoa_length_le v hI.1 hI.2
              obtain ⟨T, hT⟩ : ∃ T : ByteArray, ⟨(Lib.itoa v).toArray⟩ = T := ⟨_, rfl⟩
              rw [hT] at hsz
              have n1 : ¬9223372036854775807 < 1 + T.size := by omega
              have hcat : (⟨#[32]⟩ ++ T : ByteArray) = ⟨(32 :: Lib.itoa v).toArray⟩ := by
                rw [← mk_bl (⟨#[32]⟩ ++ T), bl_append, ← hT]
                rfl
              have HT := Lib.hid hT
              clear hv hI hsz hl hT hv0 hv1 e3
              go_wp2_with fail
              refine (itoa_any v HI.out.1 HI.out.2 wr (HG.out.below P.out.bld.be)).mono ?_
              rintro e w4 ⟨rfl, hb2⟩
              rw [HT.out]
              have P2 := Lib.hid (P.out.below hb2)
              clear hb2
              go_wp2_with fail
              refine (write_any (w := w) (w.heap.size + 1) _ (32 :: Lib.itoa v) w4 P2.out.bld (by
                have h1 := HLEN.out
                rw [prText, HL.out, nums_at HV.out] at h1
                simp only [List.length_append, List.length_cons, List.length_nil] at h1 ⊢
                omega)).mono ?_
              rintro e w5 ⟨rfl, hb3, hbe3, hk3⟩
              have P3 := Lib.hid (P2.out.wrote hb3 hk3)
              clear hb3 hbe3 hk3
              go_wp2_with fail
              go_roundg gk
              case measure => omega
              case rel => exact ⟨i + 1, by omega, rfl, by rw [nums_next HV.out, ← List.append_assoc]; exact P3⟩
        | succ gk0 =>
          have hlt : (i : Int) < (s.calls.length : Int) := by omega
          obtain ⟨row, hrow⟩ : ∃ row, s.calls[i]? = some row := ⟨_, List.getElem?_eq_getElem (by omega)⟩
          obtain ⟨ad, A3, k3, rfl, hC3, e3⟩ := row_cells HC.out i (by omega) hrow
          have x0 := e3 _ P.out.bld.be
          have q9 : IntKind.i64.wrap ((i : Int) + 1) = (i : Int) + 1 := wrap_next (by have := HOK.out.rows; omega)
          have HC3 := Lib.hid hC3
          have HROW := Lib.hid hrow
          have HRK := Lib.hid (HOK.out.calls row (List.mem_of_getElem? hrow))
          have HKI := Lib.hid hki
          clear e3 hC3 hrow hki
          go_wp2_with fail
          refine (write_any (w := w) (w.heap.size + 1) _ [10, 99, 108, 105, 101, 110, 116] wr P.out.bld (by
            have h1 := HLEN.out
            rw [prText, HL.out, rows_at HROW.out] at h1
            simp only [List.length_append, List.length_cons, List.length_nil] at h1 ⊢
            omega)).mono ?_
          rintro e w3 ⟨rfl, hb3, hbe3, hk3⟩
          have P3 := Lib.hid (show PrSt w w3 (w.heap.size + 1) g cs ns ([119, 111, 114, 108, 100] ++ numsText L ++ rowsText (s.calls.take i) ++ [10, 99, 108, 105, 101, 110, 116] ++ callsText (row.take 0)) from by
            rw [List.take_zero, show callsText [] = [] from rfl, List.append_nil]
            exact P.out.wrote hb3 hk3)
          clear hb3 hbe3 hk3 x0 P
          go_wp2_with fail
          go_loopg [48] row.length (fun k s48 wr => ∃ (j : Nat), k + j = row.length ∧ s48 = .int .i64 j ∧ Hid (PrSt w wr (w.heap.size + 1) g cs ns ([119, 111, 114, 108, 100] ++ numsText L ++ rowsText (s.calls.take i) ++ [10, 99, 108, 105, 101, 110, 116] ++ callsText (row.take j))))
          case atStart => exact ⟨0, by omega, rfl, P3⟩
          case round =>
            clear P3
            obtain ⟨j, hkj, rfl, P⟩ := hrel
            cases gk with
            | zero =>
              have hlt2 : ¬ ((j : Int) < (row.length : Int)) := by omega
              have P5 := Lib.hid (show PrSt w wr (w.heap.size + 1) g cs ns ([119, 111, 114, 108, 100] ++ numsText L ++ rowsText (s.calls.take (i + 1))) from by
                have := P.out
                rw [List.take_of_length_le (l := row) (by omega)] at this
                rw [rows_next HROW.out]
                simpa [List.append_assoc] using this)
              clear P
              go_wp2_with fail
              go_roundg gk0
              case measure => omega
              case rel => exact ⟨i + 1, by have := HKI.out; omega, rfl, P5⟩
            | succ gk =>
              have hlt2 : (j : Int) < (row.length : Int) := by omega
              obtain ⟨c, hc⟩ : ∃ c, row[j]? = some c := ⟨_, List.getElem?_eq_getElem (by omega)⟩
              obtain ⟨ad2, A4, k4, rfl, hC4, e4⟩ := call_cells HC3.out j (by omega) hc
              obtain ⟨⟨b1, o1, p1⟩, hB1⟩ : ∃ B, ad2.add (j * 6) = B := ⟨_, rfl⟩
              rw [hB1] at e4
              have x0 := (e4 _ P.out.bld.be).1
              have x1 := (e4 _ P.out.bld.be).2 0 _ rfl
              have x2 := (e4 _ P.out.bld.be).2 1 _ rfl
              have x3 := (e4 _ P.out.bld.be).2 2 _ rfl
              have x4 := (e4 _ P.out.bld.be).2 3 _ rfl
              have x5 := (e4 _ P.out.bld.be).2 4 _ rfl
              have q10 : IntKind.i64.wrap ((j : Int) + 1) = (j : Int) + 1 := wrap_next (by have := HRK.out.1; omega)
              have HC4 := Lib.hid hC4
              have HCC := Lib.hid hc
              have HKC := Lib.hid (HRK.out.2 c (List.mem_of_getElem? hc))
              have hlc : ([119, 111, 114, 108, 100] ++ numsText L ++ rowsText (s.calls.take i) ++ [10, 99, 108, 105, 101, 110, 116] ++ callsText (row.take j) : List UInt8).length + (1 + (tText c).length) ≤ 4294967200 := by
                have h1 := HLEN.out
                rw [prText, HL.out, rows_at HROW.out, calls_at hc] at h1
                simp only [List.length_append, List.length_cons, List.length_nil] at h1 ⊢
                omega
              have HLC := Lib.hid hlc
              obtain ⟨T, hT⟩ : ∃ T : ByteArray, ⟨(tText c).toArray⟩ = T := ⟨_, rfl⟩
              have hsz := size_mk (tText c)
              rw [hT] at hsz
              have n1 : ¬9223372036854775807 < 1 + T.size := by omega
              have hcat : (⟨#[10]⟩ ++ T : ByteArray) = ⟨(10 :: tText c).toArray⟩ := by
                rw [← mk_bl (⟨#[10]⟩ ++ T), bl_append, ← hT]
                rfl
              have HT := Lib.hid hT
              clear e4 hC4 hc hlc hsz hT
              go_wp2_with fail
              generalize hW : World.alloc _ _ = w4
              have hb4 : Below wr.heap.size wr w4 := by rw [← hW]; exact (Below.refl _ _).alloc (Nat.le_refl _) _
              have P4 := Lib.hid (P.out.below hb4)
              clear hW hb4 x0 x1 x2 x3 x4 x5
              refine (told_any c A4 k4 w4 (HG.out.below P4.out.bld.be) (Kd.C_below HC4.out P4.out.bld.be) HKC.out.1 (by have := HLC.out; omega) HKC.out.2).mono ?_
              rintro e w5 ⟨rfl, hb5⟩
              rw [HT.out]
              have P5 := Lib.hid (P4.out.below hb5)
              clear hb5
              go_wp2_with fail
              refine (write_any (w := w) (w.heap.size + 1) _ (10 :: tText c) w5 P5.out.bld (by have := HLC.out; simp only [List.length_cons]; omega)).mono ?_
              rintro e w6 ⟨rfl, hb6, hbe6, hk6⟩
              have P6 := Lib.hid (P5.out.wrote hb6 hk6)
              clear hb6 hbe6 hk6
              go_wp2_with fail
              go_roundg gk
              case measure => omega
              case rel => exact ⟨j + 1, by omega, rfl, by rw [calls_next HCC.out, ← List.append_assoc]; exact P6⟩
    | succ gk =>
      have hlt : (i : Int) < 4 := by omega
      obtain ⟨v, hv⟩ : ∃ v, L[i]? = some v := ⟨_, List.getElem?_eq_getElem (by have := HL4.out; omega)⟩
      have hI : I64 v := HOK.out.n v (by rw [HL.out]; exact List.mem_of_getElem? hv)
      have HI := Lib.hid hI
      have x0 : wr.cell? ⟨g, i, none⟩ = some (.int .i64 v) := cell_blk P.out.nm i (by
        have h1 : (L.map (Value.int .i64))[i]? = some (.int .i64 v) := by rw [List.getElem?_map, hv]; rfl
        rw [← HL.out] at h1
        simpa using h1)
      have q9 : IntKind.i64.wrap ((i : Int) + 1) = (i : Int) + 1 := wrap_next (by omega)
      have HV := Lib.hid hv
      have hsz := size_mk (Lib.itoa v)
      have hl := Lib.itoa_length_le v hI.1 hI.2
      obtain ⟨T, hT⟩ : ∃ T : ByteArray, ⟨(Lib.itoa v).toArray⟩ = T := ⟨_, rfl⟩
      rw [hT] at hsz
      have n1 : ¬9223372036854775807 < 1 + T.size := by omega
      have hcat : (⟨#[32]⟩ ++ T : ByteArray) = ⟨(32 :: Lib.itoa v).toArray⟩ := by
        rw [← mk_bl (⟨#[32]⟩ ++ T), bl_append, ← hT]
        rfl
      have HT := Lib.hid hT
      clear hv hI hsz hl hT
      go_wp2_with fail
      refine (itoa_any v HI.out.1 HI.out.2 wr (HG.out.below P.out.bld.be)).mono ?_
      rintro e w2 ⟨rfl, hb2⟩
      rw [HT.out]
      have P2 := Lib.hid (P.out.below hb2)
      clear hb2
      go_wp2_with fail
      refine (write_any (w := w) (w.heap.size + 1) _ (32 :: Lib.itoa v) w2 P2.out.bld (by
        have h1 := HLEN.out
        rw [prText, HL.out, nums_at HV.out] at h1
        simp only [List.length_append, List.length_cons, List.length_nil] at h1 ⊢
        omega)).mono ?_
      rintro e w3 ⟨rfl, hb3, hbe3, hk3⟩
      have P3 := Lib.hid (P2.out.wrote hb3 hk3)
      clear hb3 hbe3 hk3
      go_wp2_with fail
      go_roundg gk
      case measure => omega
      case rel => exact ⟨i + 1, by omega, rfl, by rw [nums_next HV.out, ← List.append_assoc]; exact P3⟩
end Go.Proofs.YtjcdpccfhpbccaaGreatDoor
