/-
  The walk of the document's own comparison of scripts.
-/
import Derived.Test.YtjcdpccfhpbccaaGreatDoorN1
import Derived.Test.YtjcdpccfhpbccaaGreatDoorN2
namespace Go.Proofs.YtjcdpccfhpbccaaGreatDoor
open Go.RowKit Go.Proofs.YtjcdpccfhpbccaaGreatDoorW.PrintWords

set_option maxHeartbeats 1000000 in
theorem cmp_lay2 (a b c d : Int) : ∃ r, (r = true ↔ ¬ (a = c ∧ b = d)) ∧ ∀ w, (binOp .neq 32 (.agg #[.int .i64 a, .int .i64 b]) (.agg #[.int .i64 c, .int .i64 d])).run Tryz.prog w = .ok (.bool r) w := by
  have hp : Tryz.prog.stoodInHeld 32 = false := by kernel_rfl
  by_cases h1 : a = c
  · subst h1
    by_cases h2 : b = d
    · subst h2
      exact ⟨false, by simp, fun w => by simp [go_sem, hp, Tryz.underlying32]⟩
    · have t : (b == d) = false := beq_eq_false_iff_ne.2 h2
      exact ⟨true, by simp [h2], fun w => by simp [go_sem, hp, t, Tryz.underlying32]⟩
  · have t : (a == c) = false := beq_eq_false_iff_ne.2 h1
    exact ⟨true, by simp [h1], fun w => by simp [go_sem, hp, t, Tryz.underlying32]⟩
theorem row2 {w : World} {A : Option Addr} {n : Nat} {xs : List (List CallD)} : kRow2.C w A n xs ↔ kRow.C w A n xs := Iff.rfl
theorem strOf_inj {xs ys : List Int} (hx : ∀ x ∈ xs, 0 ≤ x ∧ x ≤ 255) (hy : ∀ y ∈ ys, 0 ≤ y ∧ y ≤ 255) (h : strOfNums xs = strOfNums ys) : xs = ys := by
  have h1 : xs.map (fun z => UInt8.ofNat z.toNat) = ys.map (fun z => UInt8.ofNat z.toNat) := by
    have := congrArg (fun b : ByteArray => b.data.toList) h
    simpa [strOfNums] using this
  clear h
  induction xs generalizing ys with
  | nil => cases ys with
    | nil => rfl
    | cons y ys => simp at h1
  | cons x xs ih => cases ys with
    | nil => simp at h1
    | cons y ys =>
      simp only [List.map_cons, List.cons.injEq] at h1
      have e := congrArg UInt8.toNat h1.1
      simp only [UInt8.toNat_ofNat'] at e
      have hx1 := hx x (by simp)
      have hy1 := hy y (by simp)
      have : x = y := by omega
      rw [this, ih (fun z hz => hx z (by simp [hz])) (fun z hz => hy z (by simp [hz])) h1.2]
set_option maxRecDepth 100000 in
set_option maxHeartbeats 4000000 in
theorem sameS_any (s x : ScrD) (A1 A2 A3 A4 : Option Addr) (c1 c2 c3 c4 : Nat) (w : World) (hC1 : kRow.C w A1 s.calls.length s.calls) (hP1 : (Kd.int .u8).C w A2 s.picks.length s.picks) (hC2 : kRow.C w A3 x.calls.length x.calls) (hP2 : (Kd.int .u8).C w A4 x.picks.length x.picks)
    (pv1 : ∀ z ∈ s.picks, 0 ≤ z ∧ z ≤ 255) (pv2 : ∀ z ∈ x.picks, 0 ≤ z ∧ z ≤ 255) (hn : s.calls.length ≤ 4294967296) (hr : ∀ row ∈ s.calls, row.length ≤ 4294967296 ∧ ∀ c ∈ row, c.ops.length ≤ 4294967296) :
    Calls Tryz.prog 8 #[.agg (scCells s.clients s.shift s.recs s.chunks (.slice A1 s.calls.length c1) (.slice A2 s.picks.length c2)), .agg (scCells x.clients x.shift x.recs x.chunks (.slice A3 x.calls.length c3) (.slice A4 x.picks.length c4))] w fun e w' => EqPost (s = x) e ∧ Below w.heap.size w w' := by
  have HC1 := Lib.hid hC1
  have HC2 := Lib.hid hC2
  have HN := Lib.hid hn
  have HR := Lib.hid hr
  have HBA := Lib.hid (show ∀ o o', Below w.heap.size w ((w.alloc o).alloc o') from fun o o' => ((Below.refl _ _).alloc (Nat.le_refl _) o).alloc (by simp) o')
  have hcv1 : ∀ o o', (convert 26 9 (.slice A2 s.picks.length c2)).run Tryz.prog ((w.alloc o).alloc o') = .ok (.string (strOfNums s.picks)) ((w.alloc o).alloc o') := fun o o' => Kd.C_string Tryz.underlying26 Tryz.underlying5 Tryz.underlying9 (Kd.C_below hP1 (HBA.out o o'))
  have hcv2 : ∀ o o', (convert 26 9 (.slice A4 x.picks.length c4)).run Tryz.prog ((w.alloc o).alloc o') = .ok (.string (strOfNums x.picks)) ((w.alloc o).alloc o') := fun o o' => Kd.C_string Tryz.underlying26 Tryz.underlying5 Tryz.underlying9 (Kd.C_below hP2 (HBA.out o o'))
  have HSI := Lib.hid (show strOfNums s.picks = strOfNums x.picks → s.picks = x.picks from strOf_inj pv1 pv2)
  obtain ⟨S1, hS1⟩ : ∃ S, strOfNums s.picks = S := ⟨_, rfl⟩
  obtain ⟨S2, hS2⟩ : ∃ S, strOfNums x.picks = S := ⟨_, rfl⟩
  rw [hS1] at hcv1
  rw [hS2] at hcv2
  have HS12 := Lib.hid (And.intro hS1 hS2)
  clear hC1 hC2 hP1 hP2 pv1 pv2 hn hr hS1 hS2
  obtain ⟨r1, hr1, hl1⟩ := cmp_lay2 s.clients s.shift x.clients x.shift
  unfold scCells
  go_enter Tryz.func8, Tryz.ntmps8
  have FIN := Lib.hid (show ∀ W : World, s ≠ x → Below w.heap.size w W → EqPost (s = x) (.returned (.bool false)) ∧ Below w.heap.size w W from fun W h hb => ⟨⟨false, rfl, by simp [h]⟩, hb⟩)
  cases r1 with
  | true =>
    have HNE := Lib.hid (show s ≠ x from fun h => hr1.1 rfl (by rw [h]; exact ⟨rfl, rfl⟩))
    clear hr1
    go_wp2_with fail
    go_ret
    exact FIN.out _ HNE.out (HBA.out _ _)
  | false =>
    have H1 := Lib.hid (show s.clients = x.clients ∧ s.shift = x.shift by
      by_cases h : s.clients = x.clients ∧ s.shift = x.shift
      · exact h
      · exact absurd (hr1.2 h) (by simp))
    clear hr1
    by_cases h2 : s.recs = x.recs
    rotate_left
    · have t2 : (s.recs != x.recs) = true := by simp only [bne, beq_eq_false_iff_ne.2 h2]; rfl
      have HNE := Lib.hid (show s ≠ x from fun h => h2 (by rw [h]))
      clear h2
      go_wp2_with fail
      go_ret
      exact FIN.out _ HNE.out (HBA.out _ _)
    have t2 : (s.recs == x.recs) = true := by rw [h2]; simp
    have H2 := Lib.hid h2
    clear h2
    by_cases h3 : s.chunks = x.chunks
    rotate_left
    · have t3 : (s.chunks != x.chunks) = true := by simp only [bne, beq_eq_false_iff_ne.2 h3]; rfl
      have HNE := Lib.hid (show s ≠ x from fun h => h3 (by rw [h]))
      clear h3
      go_wp2_with fail
      go_ret
      exact FIN.out _ HNE.out (HBA.out _ _)
    have t3 : (s.chunks == x.chunks) = true := by rw [h3]; simp
    have H3 := Lib.hid h3
    clear h3
    by_cases h4 : s.calls.length = x.calls.length
    rotate_left
    · have t4 : ((s.calls.length : Int) != (x.calls.length : Int)) = true := by simp [bne]; omega
      have HNE := Lib.hid (show s ≠ x from fun h => h4 (by rw [h]))
      clear h4
      go_wp2_with fail
      go_ret
      exact FIN.out _ HNE.out (HBA.out _ _)
    have t4 : ((s.calls.length : Int) != (x.calls.length : Int)) = false := by simp [h4]
    have H4 := Lib.hid h4
    clear h4
    by_cases h5 : S1 = S2
    rotate_left
    · have t5 := bytes_ne h5
      have HNE := Lib.hid (show s ≠ x from fun h => h5 (by rw [← HS12.out.1, ← HS12.out.2, h]))
      clear h5
      go_wp2_with fail
      go_ret
      exact FIN.out _ HNE.out (HBA.out _ _)
    have H5 := Lib.hid (HSI.out (by rw [HS12.out.1, HS12.out.2, h5]))
    subst h5
    go_wp2_with fail
    generalize hW : World.alloc (World.alloc _ _) _ = w2
    obtain ⟨b, hb⟩ : ∃ b, w.heap.size = b := ⟨_, rfl⟩
    have HX := Lib.hid (show w2.heap[b]? = some (.cells (scCells s.clients s.shift x.recs x.chunks (.slice A1 s.calls.length c1) (.slice A2 s.picks.length c2)) 35 (0, 0)) by rw [← hW, ← hb]; exact alloc_blk (alloc_new _ _) _)
    have HZ := Lib.hid (show w2.heap[b + 1]? = some (.cells (scCells x.clients x.shift x.recs x.chunks (.slice A3 x.calls.length c3) (.slice A4 x.picks.length c4)) 35 (0, 0)) by
      rw [← hW, ← hb]
      have := alloc_new (w.alloc (.cells (scCells s.clients s.shift x.recs x.chunks (.slice A1 s.calls.length c1) (.slice A2 s.picks.length c2)) 35)) (.cells (scCells x.clients x.shift x.recs x.chunks (.slice A3 x.calls.length c3) (.slice A4 x.picks.length c4)) 35)
      rw [World.size_alloc] at this
      exact this)
    have HB2 := Lib.hid (show Below w.heap.size w w2 by rw [← hW]; exact HBA.out _ _)
    rw [hb]
    clear hW hb hl1 hcv1 hcv2 t2 t3 t4
    go_loopg [5] s.calls.length (fun k s5 wr => ∃ (i : Nat), k + i = s.calls.length ∧ s5 = .int .i64 i ∧ Hid (s.calls.take i = x.calls.take i) ∧ Hid (Below w2.heap.size w2 wr))
    case atStart => exact ⟨0, by omega, rfl, Lib.hid (by simp), Lib.hid (Below.refl _ _)⟩
    case round =>
      obtain ⟨i, hki, rfl, HT, P⟩ := hrel
      have HBW := Lib.hid (HB2.out.trans (P.out.mono HB2.out.size))
      have y4 := cell_blk ((P.out.block _ (lt_of_block HX.out)).trans HX.out) 4 (v := .slice A1 s.calls.length c1) rfl
      cases gk with
      | zero =>
        have hlt : ¬ ((i : Int) < (s.calls.length : Int)) := by omega
        have HEQ := Lib.hid (show s = x from scr_ext H1.out H2.out H3.out (by
          have h2 := HT.out
          rw [List.take_of_length_le (by omega), List.take_of_length_le (by have := H4.out; omega)] at h2
          exact h2) H5.out)
        go_wp2_with fail
        go_ret
        exact ⟨⟨true, rfl, by simp [HEQ.out]⟩, HBW.out⟩
      | succ gk0 =>
        have hlt : (i : Int) < (s.calls.length : Int) := by omega
        have hlt2 : (i : Int) < (x.calls.length : Int) := by have := H4.out; omega
        obtain ⟨row, hrow⟩ : ∃ row, s.calls[i]? = some row := ⟨_, List.getElem?_eq_getElem (by omega)⟩
        obtain ⟨col, hcol⟩ : ∃ col, x.calls[i]? = some col := ⟨_, List.getElem?_eq_getElem (by have := H4.out; omega)⟩
        obtain ⟨ad1, A5, k5, rfl, hC5, e5⟩ := row_cells HC1.out i (by omega) hrow
        obtain ⟨ad2, A6, k6, rfl, hC6, e6⟩ := row_cells HC2.out i (by have := H4.out; omega) hcol
        have HC5 := Lib.hid hC5
        have HC6 := Lib.hid hC6
        have HE5 := Lib.hid e5
        have HE6 := Lib.hid e6
        have HRR := Lib.hid (HR.out row (List.mem_of_getElem? hrow))
        have HRC := Lib.hid (And.intro hrow hcol)
        have HKI := Lib.hid hki
        have q9 : IntKind.i64.wrap ((i : Int) + 1) = (i : Int) + 1 := wrap_next (by have := HN.out; omega)
        have x0 := e5 _ HBW.out
        have x1 := e6 _ HBW.out
        have z4 := cell_blk ((P.out.block _ (lt_of_block HZ.out)).trans HZ.out) 4 (v := .slice (some ad2) x.calls.length c3) rfl
        have x0' := fun q => e5 _ (below_drewN HBW.out q)
        have x1' := fun q => e6 _ (below_drewN HBW.out q)
        have y4' := fun q => cell_blk (blk_drewN ((P.out.block _ (lt_of_block HX.out)).trans HX.out) q) 4 (v := .slice (some ad1) s.calls.length c1) rfl
        have z4' := fun q => cell_blk (blk_drewN ((P.out.block _ (lt_of_block HZ.out)).trans HZ.out) q) 4 (v := .slice (some ad2) x.calls.length c3) rfl
        clear e5 e6 hC5 hC6 hrow hcol hki
        by_cases hl : row.length = col.length
        rotate_left
        · have ht : ((row.length : Int) != (col.length : Int)) = true := by simp [bne]; omega
          have HNE := Lib.hid (show s ≠ x from fun h => hl (by have h1 := HRC.out.1; rw [h, HRC.out.2] at h1; injection h1 with h1; rw [h1]))
          clear hl
          go_wp2_with fail
          go_quiet (fail)
          go_wp2_with fail
          go_ret
          exact FIN.out _ HNE.out (below_drewN HBW.out _)
        have ht : ((row.length : Int) != (col.length : Int)) = false := by simp [hl]
        have HL := Lib.hid hl
        clear hl
        go_wp2_with fail
        go_quiet (fail)
        go_wp2_with fail
        clear x0 x1 y4 z4 x0' x1' y4' z4'
        have PD := Lib.hid (below_drewN P.out nq)
        clear P HBW
        go_loopg [6] row.length (fun k s6 wr => ∃ (j : Nat), k + j = row.length ∧ s6 = .int .i64 j ∧ Hid (row.take j = col.take j) ∧ Hid (Below w2.heap.size w2 wr))
        case atStart => exact ⟨0, by omega, rfl, Lib.hid (by simp), PD⟩
        case round =>
          clear PD
          obtain ⟨j, hkj, rfl, HTJ, P⟩ := hrel
          have HBW := Lib.hid (HB2.out.trans (P.out.mono HB2.out.size))
          have hxw := (P.out.block _ (lt_of_block HX.out)).trans HX.out
          have hzw := (P.out.block _ (lt_of_block HZ.out)).trans HZ.out
          have y4 := cell_blk hxw 4 (v := .slice (some ad1) s.calls.length c1) rfl
          have z4 := cell_blk hzw 4 (v := .slice (some ad2) x.calls.length c3) rfl
          have x0 := HE5.out _ HBW.out
          have x1 := HE6.out _ HBW.out
          cases gk with
          | zero =>
            have hlt3 : ¬ ((j : Int) < (row.length : Int)) := by omega
            have HEQ := Lib.hid (show row = col from by
              have h2 := HTJ.out
              rw [List.take_of_length_le (by omega), List.take_of_length_le (by have := HL.out; omega)] at h2
              exact h2)
            clear hxw hzw
            go_wp2_with fail
            go_roundg gk0
            case measure => omega
            case rel => exact ⟨i + 1, by have := HKI.out; omega, rfl, Lib.hid (by rw [List.take_add_one, List.take_add_one, HRC.out.1, HRC.out.2, HT.out, HEQ.out]), P⟩
          | succ gk1 =>
            have hlt3 : (j : Int) < (row.length : Int) := by omega
            have hlt4 : (j : Int) < (col.length : Int) := by have := HL.out; omega
            obtain ⟨c, hc⟩ : ∃ c, row[j]? = some c := ⟨_, List.getElem?_eq_getElem (by omega)⟩
            obtain ⟨d, hd⟩ : ∃ d, col[j]? = some d := ⟨_, List.getElem?_eq_getElem (by have := HL.out; omega)⟩
            obtain ⟨ad3, A7, k7, rfl, hC7, e7⟩ := call_cells HC5.out j (by omega) hc
            obtain ⟨ad4, A8, k8, rfl, hC8, e8⟩ := call_cells HC6.out j (by have := HL.out; omega) hd
            obtain ⟨⟨b1, o1, p1⟩, hB1⟩ : ∃ B, ad3.add (j * 6) = B := ⟨_, rfl⟩
            obtain ⟨⟨b2, o2, p2⟩, hB2⟩ : ∃ B, ad4.add (j * 6) = B := ⟨_, rfl⟩
            rw [hB1] at e7
            rw [hB2] at e8
            have HC7 := Lib.hid hC7
            have HC8 := Lib.hid hC8
            have HCR := Lib.hid (HRR.out.2 c (List.mem_of_getElem? hc))
            have HCD := Lib.hid (And.intro hc hd)
            have q10 : IntKind.i64.wrap ((j : Int) + 1) = (j : Int) + 1 := wrap_next (by have := HRR.out.1; omega)
            have HKJ := Lib.hid hkj
            have HS : ∀ W, Below w2.heap.size w2 W → (W.cell? ⟨b, 4, none⟩ = some (.slice (some ad1) s.calls.length c1) ∧ W.cell? ⟨b + 1, 4, none⟩ = some (.slice (some ad2) x.calls.length c3) ∧ W.cell? (ad1.add i) = some (.slice (some ad3) row.length k5) ∧ W.cell? (ad2.add i) = some (.slice (some ad4) col.length k6) ∧
                W.cell? ⟨b1, o1, p1⟩ = some (.int .i64 c.k) ∧ W.cell? ⟨b1, o1 + (0 + 1), none⟩ = some (.slice A7 c.ops.length k7) ∧ W.cell? ⟨b1, o1 + (1 + 1), none⟩ = some (.int .i64 c.q.k) ∧ W.cell? ⟨b1, o1 + (2 + 1), none⟩ = some (.int .i64 c.q.i) ∧ W.cell? ⟨b1, o1 + (3 + 1), none⟩ = some (.int .i64 c.q.b) ∧ W.cell? ⟨b1, o1 + (4 + 1), none⟩ = some (.string c.q.x) ∧
                W.cell? ⟨b2, o2, p2⟩ = some (.int .i64 d.k) ∧ W.cell? ⟨b2, o2 + (0 + 1), none⟩ = some (.slice A8 d.ops.length k8) ∧ W.cell? ⟨b2, o2 + (1 + 1), none⟩ = some (.int .i64 d.q.k) ∧ W.cell? ⟨b2, o2 + (2 + 1), none⟩ = some (.int .i64 d.q.i) ∧ W.cell? ⟨b2, o2 + (3 + 1), none⟩ = some (.int .i64 d.q.b) ∧ W.cell? ⟨b2, o2 + (4 + 1), none⟩ = some (.string d.q.x)) := fun W hW => by
              have hW2 := HB2.out.trans (hW.mono HB2.out.size)
              exact ⟨cell_blk ((hW.block _ (lt_of_block HX.out)).trans HX.out) 4 rfl, cell_blk ((hW.block _ (lt_of_block HZ.out)).trans HZ.out) 4 rfl, HE5.out _ hW2, HE6.out _ hW2, (e7 _ hW2).1, (e7 _ hW2).2 0 _ rfl, (e7 _ hW2).2 1 _ rfl, (e7 _ hW2).2 2 _ rfl, (e7 _ hW2).2 3 _ rfl, (e7 _ hW2).2 4 _ rfl, (e8 _ hW2).1, (e8 _ hW2).2 0 _ rfl, (e8 _ hW2).2 1 _ rfl, (e8 _ hW2).2 2 _ rfl, (e8 _ hW2).2 3 _ rfl, (e8 _ hW2).2 4 _ rfl⟩
            have PD := Lib.hid (below_drewN P.out 1)
            have hS1 := HS wr.drew PD.out
            have HSH := Lib.hid HS
            have HWD := Lib.hid (HB2.out.trans (PD.out.mono HB2.out.size))
            clear HS e7 e8 hc hd hkj hxw hzw hC7 hC8
            go_wp2_with fail
            clear y4 z4 x0 x1
            go_region_held3 (fun w' => w'.cell? ⟨b, 4, none⟩ = some (.slice (some ad1) s.calls.length c1) ∧ w'.cell? ⟨b + 1, 4, none⟩ = some (.slice (some ad2) x.calls.length c3) ∧ w'.cell? (ad1.add i) = some (.slice (some ad3) row.length k5) ∧ w'.cell? (ad2.add i) = some (.slice (some ad4) col.length k6) ∧
                w'.cell? ⟨b1, o1, p1⟩ = some (.int .i64 c.k) ∧ w'.cell? ⟨b1, o1 + (0 + 1), none⟩ = some (.slice A7 c.ops.length k7) ∧ w'.cell? ⟨b1, o1 + (1 + 1), none⟩ = some (.int .i64 c.q.k) ∧ w'.cell? ⟨b1, o1 + (2 + 1), none⟩ = some (.int .i64 c.q.i) ∧ w'.cell? ⟨b1, o1 + (3 + 1), none⟩ = some (.int .i64 c.q.b) ∧ w'.cell? ⟨b1, o1 + (4 + 1), none⟩ = some (.string c.q.x) ∧
                w'.cell? ⟨b2, o2, p2⟩ = some (.int .i64 d.k) ∧ w'.cell? ⟨b2, o2 + (0 + 1), none⟩ = some (.slice A8 d.ops.length k8) ∧ w'.cell? ⟨b2, o2 + (1 + 1), none⟩ = some (.int .i64 d.q.k) ∧ w'.cell? ⟨b2, o2 + (2 + 1), none⟩ = some (.int .i64 d.q.i) ∧ w'.cell? ⟨b2, o2 + (3 + 1), none⟩ = some (.int .i64 d.q.b) ∧ w'.cell? ⟨b2, o2 + (4 + 1), none⟩ = some (.string d.q.x))
              (first | with_reducible exact hS1 | with_reducible assumption)
              (first
                | (go_at_call 25
                   refine (sameCall_any c d A7 A8 k7 k8 wr.drew (Kd.C_below HC7.out HWD.out) (Kd.C_below HC8.out HWD.out) HCR.out).mono ?_
                   rintro e w3 ⟨⟨r, rfl, hr⟩, hb3⟩
                   have P3 := Lib.hid (PD.out.trans (hb3.mono PD.out.size))
                   have HR3 := Lib.hid hr
                   have hS2 := HSH.out _ P3.out
                   clear hr hb3))
            all_goals
              clear hS1
              cases r with
              | true =>
                have HCE := Lib.hid (HR3.out.1 rfl)
                go_wp2_with fail
                go_roundg gk1
                case measure => omega
                case rel => exact ⟨j + 1, by have := HKJ.out; omega, rfl, Lib.hid (by rw [List.take_add_one, List.take_add_one, HCD.out.1, HCD.out.2, HTJ.out, HCE.out]), P3⟩
              | false =>
                have HNE := Lib.hid (show s ≠ x from fun h => by
                  have h1 := HRC.out.1
                  rw [h, HRC.out.2] at h1
                  injection h1 with h1
                  have h3 := HCD.out.1
                  rw [← h1, HCD.out.2] at h3
                  injection h3 with h3
                  exact absurd (HR3.out.2 h3.symm) (by simp))
                go_wp2_with fail
                go_ret
                exact FIN.out _ HNE.out (HB2.out.trans (P3.out.mono HB2.out.size))
end Go.Proofs.YtjcdpccfhpbccaaGreatDoor
