/-
  The walk of ScriptParses.
-/
import Derived.Test.YtjcdpccfhpbccaaGreatDoorR1
import Derived.Test.YtjcdpccfhpbccaaGreatDoorH1
import Derived.Test.YtjcdpccfhpbccaaGreatDoorN3
namespace Go.Proofs.YtjcdpccfhpbccaaGreatDoor
open Go.RowKit Go.Proofs.YtjcdpccfhpbccaaGreatDoorW.PrintWords

/-- What both Parses hand back, as one row. -/
def outP : Except Nat ScrD → ScrD × Int × Int
  | .error m => (⟨0, 0, 0, 0, [], []⟩, m, 210)
  | .ok s => (s, 0, 0)
def ParsedAs (w : World) (x : ScrD) (im er : Int) (e : Ending) (w' : World) : Prop := ∃ (A1 A2 : Option Addr) (k1 k2 : Nat),
  e = .returned (.tuple #[.agg #[.int .i64 x.clients, .int .i64 x.shift, .int .i64 x.recs, .int .i64 x.chunks, .slice A1 x.calls.length k1, .slice A2 x.picks.length k2], .int .i64 im, .int .i64 er]) ∧
  Hid (kRow.C w' A1 x.calls.length x.calls) ∧ Hid ((Kd.int .u8).C w' A2 x.picks.length x.picks) ∧ Below w.heap.size w w'
theorem parsed_own (t : ByteArray) (ht : t.size ≤ 4294967280) (w : World) (hG : Glob w) (x : ScrD) (im er : Int) (hx : outP (pParse (pieces (bl t))) = (x, im, er)) :
    Calls Tryz.prog 6 #[.string t] w (ParsedAs w x im er) := by
  refine (parse_any t ht w hG _ rfl).mono ?_
  intro e w' h
  cases hp : pParse (pieces (bl t)) with
  | error m =>
    rw [hp] at h hx
    obtain ⟨rfl, hb⟩ := h
    obtain ⟨rfl, rfl, rfl⟩ : (⟨0, 0, 0, 0, [], []⟩ : ScrD) = x ∧ (m : Int) = im ∧ (210 : Int) = er := by simpa [outP] using hx
    exact ⟨none, none, 0, 0, rfl, Lib.hid (Kd.R_reads' (Kd.R_nil kRow 0 w' 0 (fun _ => True))).2.2, Lib.hid (Kd.R_reads' (Kd.R_nil (Kd.int .u8) 0 w' 0 (fun _ => True))).2.2, hb⟩
  | ok s =>
    rw [hp] at h hx
    obtain ⟨vc, vp, rfl, hvc, hvp, hb⟩ := h
    obtain ⟨rfl, rfl, rfl⟩ : s = x ∧ (0 : Int) = im ∧ (0 : Int) = er := by simpa [outP] using hx
    obtain ⟨A3, k3, rfl⟩ := Kd.R_slice hvc
    obtain ⟨A4, k4, rfl⟩ := Kd.R_slice hvp
    exact ⟨A3, A4, k3, k4, rfl, Lib.hid (Kd.R_reads' hvc).2.2, Lib.hid (Kd.R_reads' hvp).2.2, hb⟩
theorem parsed_ref (t : ByteArray) (ht : t.size ≤ 4294967280) (w : World) (x : ScrD) (im er : Int) (hx : outP (pParse (pieces (bl t))) = (x, im, er)) :
    Calls Tryz.prog 7 #[.string t] w (ParsedAs w x im er) := by
  refine (rparse_any t ht _ rfl w).mono ?_
  intro e w' h
  cases hp : pParse (pieces (bl t)) with
  | error m =>
    rw [hp] at h hx
    obtain ⟨hb, rfl⟩ := h
    obtain ⟨rfl, rfl, rfl⟩ : (⟨0, 0, 0, 0, [], []⟩ : ScrD) = x ∧ (m : Int) = im ∧ (210 : Int) = er := by simpa [outP] using hx
    exact ⟨none, none, 0, 0, rfl, Lib.hid (Kd.R_reads' (Kd.R_nil kRow 0 w' 0 (fun _ => True))).2.2, Lib.hid (Kd.R_reads' (Kd.R_nil (Kd.int .u8) 0 w' 0 (fun _ => True))).2.2, hb⟩
  | ok s =>
    rw [hp] at h hx
    obtain ⟨hb, vc, vp, rfl, hvc, hvp⟩ := h
    obtain ⟨rfl, rfl, rfl⟩ : s = x ∧ (0 : Int) = im ∧ (0 : Int) = er := by simpa [outP] using hx
    obtain ⟨A3, k3, rfl⟩ := Kd.R_slice hvc
    obtain ⟨A4, k4, rfl⟩ := Kd.R_slice hvp
    exact ⟨A3, A4, k3, k4, rfl, Lib.hid (row2.1 (Kd.R_reads' hvc).2.2), Lib.hid (Kd.R_reads' hvp).2.2, hb⟩
theorem outP_small {l : List (List UInt8)} {x : ScrD} {im er : Int} (h : outP (pParse l) = (x, im, er)) : x.calls.length ≤ 1048576 ∧ (∀ row ∈ x.calls, row.length ≤ 1048576 ∧ ∀ c ∈ row, c.ops.length ≤ 1048576) ∧ ∀ z ∈ x.picks, 0 ≤ z ∧ z ≤ 255 := by
  cases hp : pParse l with
  | error m =>
    rw [hp] at h
    obtain ⟨rfl, _, _⟩ : (⟨0, 0, 0, 0, [], []⟩ : ScrD) = x ∧ (m : Int) = im ∧ (210 : Int) = er := by simpa [outP] using h
    exact ⟨by simp, by simp, by simp⟩
  | ok s =>
    rw [hp] at h
    obtain ⟨rfl, _, _⟩ : s = x ∧ (0 : Int) = im ∧ (0 : Int) = er := by simpa [outP] using h
    have hs := pParse_in hp
    obtain ⟨_, h4, _, _⟩ := mayL_in hs.may
    have h5 := hs.rows
    exact ⟨by omega, fun row hr => ⟨by have := (hs.row row hr).1; omega, fun c hc => by have := ((hs.row row hr).2 c hc).l; omega⟩, hs.pv⟩
set_option maxRecDepth 100000 in
set_option maxHeartbeats 400000 in
theorem parses_walk (t : ByteArray) (w : World) (hG : Glob w) :
    Calls Tryz.prog 3 #[.string t] w fun e w' => e = .returned (.bool true) ∧ Below w.heap.size w w' := by
  have HG := Lib.hid hG
  clear hG
  go_enter Tryz.func3, Tryz.ntmps3
  by_cases hl : 600 < (t.size : Int)
  · go_wp2_with fail
    refine (shown_any w HG.out).mono ?_
    rintro e w3 ⟨rfl, hb3⟩
    have HB3 := Lib.hid hb3
    clear hb3
    go_wp2_with fail
    go_ret
    exact ⟨rfl, HB3.out⟩
  have HLT := Lib.hid (show t.size ≤ 600 by omega)
  go_wp2_with fail
  refine (shown_any w HG.out).mono ?_
  rintro e w4 ⟨rfl, hb4⟩
  have HB4 := Lib.hid hb4
  clear hb4
  obtain ⟨⟨x, im, er⟩, hx⟩ : ∃ r, outP (pParse (pieces (bl t))) = r := ⟨_, rfl⟩
  have HX := Lib.hid hx
  have HSM := Lib.hid (outP_small hx)
  clear hx
  go_wp2_with fail
  refine (parsed_own t (by have := HLT.out; omega) w4 (HG.out.below HB4.out) x im er HX.out).mono ?_
  rintro e w5 ⟨B1, B2, k1, k2, rfl, HC5, HP5, hb5⟩
  have HB5 := Lib.hid (HB4.out.trans (hb5.mono HB4.out.size))
  clear hb5
  go_wp2_with fail
  generalize hW : World.alloc w5 _ = w6
  obtain ⟨b6, hb6⟩ : ∃ b6, w5.heap.size = b6 := ⟨_, rfl⟩
  have hbb : Below w5.heap.size w5 w6 := by rw [← hW]; exact (Below.refl _ _).alloc (Nat.le_refl _) _
  have HY6 := Lib.hid (show w6.heap[b6]? = some (.cells (scCells x.clients x.shift x.recs x.chunks (.slice B1 x.calls.length k1) (.slice B2 x.picks.length k2)) 28 (0, 0)) by rw [← hW, ← hb6]; exact alloc_new _ _)
  have HB6 := Lib.hid (HB5.out.trans (hbb.mono HB5.out.size))
  have HC6 := Lib.hid (Kd.C_below HC5.out hbb)
  have HP6 := Lib.hid (Kd.C_below HP5.out hbb)
  rw [hb6]
  clear hW hb6 hbb HC5 HP5
  refine (parsed_ref t (by have := HLT.out; omega) w6 x im er HX.out).mono ?_
  rintro e w7 ⟨D1, D2, j1, j2, rfl, HD7, HQ7, hb7⟩
  have HB7 := Lib.hid (HB6.out.trans (hb7.mono HB6.out.size))
  have HY7 := Lib.hid ((hb7.block _ (lt_of_block HY6.out)).trans HY6.out)
  have HC7 := Lib.hid (Kd.C_below HC6.out hb7)
  have HP7 := Lib.hid (Kd.C_below HP6.out hb7)
  clear hb7 HC6 HP6 HY6
  go_wp2_with fail
  generalize hW : World.alloc w7 _ = w9
  obtain ⟨b9, hb9⟩ : ∃ b9, w7.heap.size = b9 := ⟨_, rfl⟩
  have hbb : Below w7.heap.size w7 w9 := by rw [← hW]; exact (Below.refl _ _).alloc (Nat.le_refl _) _
  have HZ9 := Lib.hid (show w9.heap[b9]? = some (.cells (scCells x.clients x.shift x.recs x.chunks (.slice D1 x.calls.length j1) (.slice D2 x.picks.length j2)) 35 (0, 0)) by rw [← hW, ← hb9]; exact alloc_new _ _)
  have HY9 := Lib.hid ((hbb.block _ (lt_of_block HY7.out)).trans HY7.out)
  have HB9 := Lib.hid (HB7.out.trans (hbb.mono HB7.out.size))
  have HC9 := Lib.hid (Kd.C_below HC7.out hbb)
  have HP9 := Lib.hid (Kd.C_below HP7.out hbb)
  have HD9 := Lib.hid (Kd.C_below HD7.out hbb)
  have HQ9 := Lib.hid (Kd.C_below HQ7.out hbb)
  rw [hb9]
  clear hW hb9 hbb HC7 HP7 HD7 HQ7 HY7
  have HSH := Lib.hid (show ∀ W, Below w9.heap.size w9 W → (W.cell? ⟨b9, 0, none⟩ = some (.int .i64 x.clients) ∧ W.cell? ⟨b9, 1, none⟩ = some (.int .i64 x.shift) ∧ W.cell? ⟨b9, 2, none⟩ = some (.int .i64 x.recs) ∧ W.cell? ⟨b9, 3, none⟩ = some (.int .i64 x.chunks) ∧ W.cell? ⟨b9, 4, none⟩ = some (.slice D1 x.calls.length j1) ∧ W.cell? ⟨b9, 5, none⟩ = some (.slice D2 x.picks.length j2) ∧ W.cell? ⟨b6, 0, none⟩ = some (.int .i64 x.clients) ∧ W.cell? ⟨b6, 1, none⟩ = some (.int .i64 x.shift) ∧ W.cell? ⟨b6, 2, none⟩ = some (.int .i64 x.recs) ∧ W.cell? ⟨b6, 3, none⟩ = some (.int .i64 x.chunks) ∧ W.cell? ⟨b6, 4, none⟩ = some (.slice B1 x.calls.length k1) ∧ W.cell? ⟨b6, 5, none⟩ = some (.slice B2 x.picks.length k2) ∧ Hid (Below w9.heap.size w9 W)) from fun W hW =>
    ⟨cell_blk ((hW.block _ (lt_of_block HZ9.out)).trans HZ9.out) 0 rfl, cell_blk ((hW.block _ (lt_of_block HZ9.out)).trans HZ9.out) 1 rfl, cell_blk ((hW.block _ (lt_of_block HZ9.out)).trans HZ9.out) 2 rfl, cell_blk ((hW.block _ (lt_of_block HZ9.out)).trans HZ9.out) 3 rfl, cell_blk ((hW.block _ (lt_of_block HZ9.out)).trans HZ9.out) 4 rfl, cell_blk ((hW.block _ (lt_of_block HZ9.out)).trans HZ9.out) 5 rfl,
     cell_blk ((hW.block _ (lt_of_block HY9.out)).trans HY9.out) 0 rfl, cell_blk ((hW.block _ (lt_of_block HY9.out)).trans HY9.out) 1 rfl, cell_blk ((hW.block _ (lt_of_block HY9.out)).trans HY9.out) 2 rfl, cell_blk ((hW.block _ (lt_of_block HY9.out)).trans HY9.out) 3 rfl, cell_blk ((hW.block _ (lt_of_block HY9.out)).trans HY9.out) 4 rfl, cell_blk ((hW.block _ (lt_of_block HY9.out)).trans HY9.out) 5 rfl, Lib.hid hW⟩)
  have HITS := Lib.hid (show ∀ W, Hid (Below w9.heap.size w9 W) → Calls Tryz.prog 9 #[.agg #[.int .i64 x.clients, .int .i64 x.shift, .int .i64 x.recs, .int .i64 x.chunks, .slice B1 x.calls.length k1, .slice B2 x.picks.length k2]] W fun e w' => ∃ A k, e = .returned (.agg #[.int .i64 x.clients, .int .i64 x.shift, .int .i64 x.recs, .int .i64 x.chunks, .slice A x.calls.length k, .slice B2 x.picks.length k2]) ∧ Hid (kRow.C w' A x.calls.length x.calls) ∧ Hid (Below w9.heap.size w9 w') from fun W hW =>
    (its_any x B1 B2 k1 k2 W (Kd.C_below HC9.out hW.out) HSM.out.1 HSM.out.2.1).mono (by
      rintro e w' ⟨A, k, h1, h2, h3⟩
      exact ⟨A, k, h1, Lib.hid (row2.1 h2), Lib.hid (hW.out.trans (h3.mono hW.out.size))⟩))
  have HSAME := Lib.hid (show ∀ W A k, Hid (Below w9.heap.size w9 W) → Hid (kRow.C W A x.calls.length x.calls) → Calls Tryz.prog 8 #[.agg #[.int .i64 x.clients, .int .i64 x.shift, .int .i64 x.recs, .int .i64 x.chunks, .slice A x.calls.length k, .slice B2 x.picks.length k2], .agg #[.int .i64 x.clients, .int .i64 x.shift, .int .i64 x.recs, .int .i64 x.chunks, .slice D1 x.calls.length j1, .slice D2 x.picks.length j2]] W fun e w' => e = .returned (.bool true) ∧ Hid (Below w9.heap.size w9 w') from fun W A k hW h1 =>
    (sameS_any x x A B2 D1 D2 k k2 j1 j2 W h1.out (Kd.C_below HP9.out hW.out) (Kd.C_below HD9.out hW.out) (Kd.C_below HQ9.out hW.out) HSM.out.2.2 HSM.out.2.2 (by have := HSM.out.1; omega) (fun row hr => ⟨by have := (HSM.out.2.1 row hr).1; omega, fun c hc => by have := (HSM.out.2.1 row hr).2 c hc; omega⟩)).mono (by
      rintro e w' ⟨⟨r, rfl, hr⟩, h3⟩
      obtain rfl : r = true := hr.2 rfl
      exact ⟨rfl, Lib.hid (hW.out.trans (h3.mono hW.out.size))⟩))
  have HWD := Lib.hid (show Hid (Below w9.heap.size w9 w9.drew) from Lib.hid (below_drew (Below.refl _ _)))
  obtain ⟨f0, f1, f2, f3, f4, f5, g0, g1, g2, g3, g4, g5, _⟩ := HSH.out w9 (Below.refl _ _)
  have hb1 : (im == im) = true := beq_self_eq_true im
  have hb2 : (er == er) = true := beq_self_eq_true er
  go_region_law? (first
      | (go_simp
         go_at_call 9
         with_reducible refine Calls.mono (HITS.out w9.drew HWD.out) ?_
         rintro e ws ⟨As, ks, rfl, HCSn, hws1⟩
         obtain ⟨h0, h1, h2, h3, h4, h5, _⟩ := HSH.out ws hws1.out
         have HWS := Lib.hid hws1
         clear hws1
         dsimp only)
      | (go_simp
         go_at_call 8
         with_reducible refine Calls.mono (HSAME.out ws As ks HWS.out HCSn) ?_
         rintro e wz ⟨rfl, hwz⟩
         dsimp only
         rename_i hK
         refine hK _ _ ?_
         clear hK
         refine wpAny_take (i := 4) (v := .bool true) rfl (by kernel_rfl) (by kernel_rfl) (by kernel_rfl) (fun _ _ _ h => by exact h) (Or.inl ⟨by kernel_rfl, ?_⟩) ?_
         · intro w; go_simp
         refine wpAny_take (i := 5) (v := .int .i64 im) rfl (by kernel_rfl) (by kernel_rfl) (by kernel_rfl) (fun _ _ _ h => by exact h) (Or.inl ⟨by kernel_rfl, ?_⟩) ?_
         · intro w; go_simp
         refine wpAny_take (i := 6) (v := .int .i64 im) rfl (by kernel_rfl) (by kernel_rfl) (by kernel_rfl) (fun _ _ _ h => by exact h) (Or.inl ⟨by kernel_rfl, ?_⟩) ?_
         · intro w; go_simp
         refine wpAny_take (i := 7) (v := .bool true) rfl (by kernel_rfl) (by kernel_rfl) (by kernel_rfl) (fun _ _ _ h => by exact h) (Or.inl ⟨by kernel_rfl, ?_⟩) ?_
         · intro w; go_simp
         refine wpAny_take (i := 8) (v := .bool true) rfl (by kernel_rfl) (by kernel_rfl) (by kernel_rfl) (fun _ _ _ h => by exact h) (Or.inl ⟨by kernel_rfl, ?_⟩) ?_
         · intro w; go_simp
         refine wpAny_take (i := 9) (v := .bool true) rfl (by kernel_rfl) (by kernel_rfl) (by kernel_rfl) (fun _ _ _ h => by exact h) (Or.inl ⟨by kernel_rfl, ?_⟩) ?_
         · intro w; go_simp
         refine wpAny_take (i := 10) (v := .int .i64 er) rfl (by kernel_rfl) (by kernel_rfl) (by kernel_rfl) (fun _ _ _ h => by exact h) (Or.inl ⟨by kernel_rfl, ?_⟩) ?_
         · intro w; go_simp
         refine wpAny_take (i := 11) (v := .int .i64 er) rfl (by kernel_rfl) (by kernel_rfl) (by kernel_rfl) (fun _ _ _ h => by exact h) (Or.inl ⟨by kernel_rfl, ?_⟩) ?_
         · intro w; go_simp
         refine wpAny_take (i := 12) (v := .bool true) rfl (by kernel_rfl) (by kernel_rfl) (by kernel_rfl) (fun _ _ _ h => by exact h) (Or.inl ⟨by kernel_rfl, ?_⟩) ?_
         · intro w; go_simp))
  all_goals
    go_wp2_with fail
    go_ret
    exact ⟨rfl, HB9.out.trans (hwz.out.mono HB9.out.size)⟩
end Go.Proofs.YtjcdpccfhpbccaaGreatDoor
