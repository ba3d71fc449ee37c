/-
  The walk of ScriptSizes.
-/
import Derived.Test.YtjcdpccfhpbccaaDoorH1
namespace Go.Proofs.YtjcdpccfhpbccaaDoor
open Go.RowKit Go.Proofs.YtjcdpccfhpbccaaDoorW.PrintWords

theorem may_true (o : OpD) (h : mayB o.k o.i o.t o.a o.n o.x = true) (w : World) :
    Calls Tryd.prog 12 #[.agg #[.int .i64 o.k, .int .i64 o.i, .int .i64 o.t, .int .i64 o.a, .string o.n, .string o.x]] w fun e w' => e = .returned (.bool true) ∧ Below w.heap.size w w' := by
  obtain ⟨h1, h8, hn, ht⟩ := mayB_in h
  obtain ⟨n, hk⟩ : ∃ n : Nat, o.k = n := ⟨o.k.toNat, by omega⟩
  rw [hk] at h ⊢
  refine (may_in n o.i o.t o.a o.n o.x (by omega) (by omega) hn ht w).mono ?_
  rintro e w1 ⟨rfl, hb1⟩
  exact ⟨by rw [h], hb1⟩
set_option maxRecDepth 100000 in
set_option maxHeartbeats 4000000 in
theorem sizes_walk (t : ByteArray) (ht : t.size ≤ 4294967280) (w : World) (hG : Glob w) :
    Calls Tryd.prog 5 #[.string t] w fun e w' => e = .returned (.bool true) ∧ Below w.heap.size w w' := by
  have HG := Lib.hid hG
  have HT := Lib.hid ht
  clear hG ht
  go_enter Tryd.func5, Tryd.ntmps5
  go_wp2_with fail
  refine (parse_any t HT.out w HG.out _ rfl).mono ?_
  intro e w1 h1
  cases hp : pParse (pieces (bl t)) with
  | error m =>
    rw [hp] at h1
    obtain ⟨rfl, hb1⟩ := h1
    have HB1 := Lib.hid hb1
    clear hb1 hp
    unfold scrZero
    by_cases hl : 600 < (t.size : Int)
    · go_wp2_with fail
      generalize hW : World.alloc w1 _ = w2
      have HB2 := Lib.hid (show Below w.heap.size w w2 by rw [← hW]; exact HB1.out.alloc HB1.out.size _)
      clear hW
      refine (shown_any w2 (HG.out.below HB2.out)).mono ?_
      rintro e w3 ⟨rfl, hb3⟩
      have HB3 := Lib.hid (HB2.out.trans (hb3.mono HB2.out.size))
      clear hb3
      go_wp2_with fail
      go_ret
      exact ⟨rfl, HB3.out⟩
    · go_wp2_with fail
      generalize hW : World.alloc w1 _ = w2
      have HB2 := Lib.hid (show Below w.heap.size w w2 by rw [← hW]; exact HB1.out.alloc HB1.out.size _)
      clear hW
      refine (shown_any w2 (HG.out.below HB2.out)).mono ?_
      rintro e w3 ⟨rfl, hb3⟩
      have HB3 := Lib.hid (HB2.out.trans (hb3.mono HB2.out.size))
      clear hb3
      go_wp2_with fail
      go_ret
      exact ⟨rfl, HB3.out⟩
  | ok x =>
    rw [hp] at h1
    obtain ⟨vc, vp, rfl, hvc, hvp, hb1⟩ := h1
    obtain ⟨A3, k3, rfl⟩ := Kd.R_slice hvc
    obtain ⟨A4, k4, rfl⟩ := Kd.R_slice hvp
    have HVC := Lib.hid (Kd.R_reads' hvc).2.2
    have HB1 := Lib.hid hb1
    have HSZ := Lib.hid (pParse_in hp)
    clear hvc hvp hb1 hp
    by_cases hl : 600 < (t.size : Int)
    · go_wp2_with fail
      generalize hW : World.alloc w1 _ = w2
      have HB2 := Lib.hid (show Below w.heap.size w w2 by rw [← hW]; exact HB1.out.alloc HB1.out.size _)
      clear hW
      refine (shown_any w2 (HG.out.below HB2.out)).mono ?_
      rintro e w3 ⟨rfl, hb3⟩
      have HB3 := Lib.hid (HB2.out.trans (hb3.mono HB2.out.size))
      clear hb3
      go_wp2_with fail
      go_ret
      exact ⟨rfl, HB3.out⟩
    go_wp2_with fail
    generalize hW : World.alloc w1 _ = w2
    obtain ⟨b, hb⟩ : ∃ b, w1.heap.size = b := ⟨_, rfl⟩
    have hb2 : Below w1.heap.size w1 w2 := by rw [← hW]; exact (Below.refl _ _).alloc (Nat.le_refl _) _
    have HX := Lib.hid (show w2.heap[b]? = some (.cells (scCells x.clients x.shift x.recs x.chunks (.slice A3 x.calls.length k3) (.slice A4 x.picks.length k4)) 27 (0, 0)) from by rw [← hW, ← hb]; exact alloc_new _ _)
    have HB2 := Lib.hid (HB1.out.trans (hb2.mono HB1.out.size))
    have HVC2 := Lib.hid (Kd.C_below HVC.out hb2)
    rw [hb]
    clear hW hb2 hb
    refine (shown_any w2 (HG.out.below HB2.out)).mono ?_
    rintro e w3 ⟨rfl, hb3⟩
    have HB3 := Lib.hid (HB2.out.trans (hb3.mono HB2.out.size))
    have HX3 := Lib.hid ((hb3.block _ (lt_of_block HX.out)).trans HX.out)
    have HVC3 := Lib.hid (Kd.C_below HVC2.out hb3)
    clear hb3
    go_wp2_with fail
    go_loopg [6] x.calls.length (fun k s6 wr => ∃ (i : Nat), k + i = x.calls.length ∧ s6 = .int .i64 i ∧ Hid (Below w3.heap.size w3 wr))
    case atStart => exact ⟨0, by omega, rfl, Lib.hid (Below.refl _ _)⟩
    case round =>
      obtain ⟨i, hki, rfl, P⟩ := hrel
      have hx := (P.out.block _ (lt_of_block HX3.out)).trans HX3.out
      have y0 := cell_blk hx 0 (v := .int .i64 x.clients) rfl
      have y1 := cell_blk hx 1 (v := .int .i64 x.shift) rfl
      have y2 := cell_blk hx 2 (v := .int .i64 x.recs) rfl
      have y3 := cell_blk hx 3 (v := .int .i64 x.chunks) rfl
      have y4 := cell_blk hx 4 (v := .slice A3 x.calls.length k3) rfl
      have y5 := cell_blk hx 5 (v := .slice A4 x.picks.length k4) rfl
      have HBW := Lib.hid (HB3.out.trans (P.out.mono HB3.out.size))
      have HXW := Lib.hid hx
      clear hx
      cases gk with
      | zero =>
        have hlt : ¬ ((i : Int) < (x.calls.length : Int)) := by omega
        clear y2 y3 y5
        go_wp2_with fail
        refine (memMay_any x.clients x.shift wr).mono ?_
        rintro e w7 ⟨rfl, hb7⟩
        have hx := (hb7.block _ (lt_of_block HXW.out)).trans HXW.out
        have y0 := cell_blk hx 0 (v := .int .i64 x.clients) rfl
        have y1 := cell_blk hx 1 (v := .int .i64 x.shift) rfl
        have y2 := cell_blk hx 2 (v := .int .i64 x.recs) rfl
        have y3 := cell_blk hx 3 (v := .int .i64 x.chunks) rfl
        have y4 := cell_blk hx 4 (v := .slice A3 x.calls.length k3) rfl
        have y5 := cell_blk hx 5 (v := .slice A4 x.picks.length k4) rfl
        have HB7 := Lib.hid (HBW.out.trans (hb7.mono HBW.out.size))
        rw [HSZ.out.may]
        clear hb7 hx hlt
        have t1 : ((x.calls.length : Int) == x.clients) = true := by rw [HSZ.out.rows]; simp
        have t2 : ¬ 1000 < (x.picks.length : Int) := by have := HSZ.out.p; omega
        have t3 := HSZ.out.r0
        have t4 := HSZ.out.r1
        have t5 := HSZ.out.c0
        have t6 := HSZ.out.c1
        go_wp2_with fail
        go_ret
        exact ⟨rfl, HB7.out⟩
      | succ gk0 =>
        have hlt : (i : Int) < (x.calls.length : Int) := by omega
        obtain ⟨row, hrow⟩ : ∃ row, x.calls[i]? = some row := ⟨_, List.getElem?_eq_getElem (by omega)⟩
        obtain ⟨ad, A5, k5, rfl, hC5, e5⟩ := row_cells HVC3.out i (by omega) hrow
        have HC5 := Lib.hid hC5
        have HE5 := Lib.hid e5
        have HROW := Lib.hid (HSZ.out.row row (List.mem_of_getElem? hrow))
        have HKI := Lib.hid hki
        have q9 : IntKind.i64.wrap ((i : Int) + 1) = (i : Int) + 1 := wrap_next (by have := HSZ.out.rows; have := mayL_in HSZ.out.may; omega)
        clear hC5 e5 hrow hki y0 y1 y2 y3 y5
        go_wp2_with fail
        clear y4
        go_loopg [7] row.length (fun k s7 wr => ∃ (j : Nat), k + j = row.length ∧ s7 = .int .i64 j ∧ Hid (Below w3.heap.size w3 wr))
        case atStart => exact ⟨0, by omega, rfl, P⟩
        case round =>
          clear HBW HXW P
          obtain ⟨j, hkj, rfl, P⟩ := hrel
          have hx := (P.out.block _ (lt_of_block HX3.out)).trans HX3.out
          have y4 := cell_blk hx 4 (v := .slice (some ad) x.calls.length k3) rfl
          have x0 := HE5.out _ P.out
          clear hx
          cases gk with
          | zero =>
            have hlt2 : ¬ ((j : Int) < (row.length : Int)) := by omega
            go_wp2_with fail
            go_roundg gk0
            case measure => omega
            case rel => exact ⟨i + 1, by have := HKI.out; omega, rfl, P⟩
          | succ gk1 =>
            have hlt2 : (j : Int) < (row.length : Int) := by omega
            obtain ⟨c, hc⟩ : ∃ c, row[j]? = some c := ⟨_, List.getElem?_eq_getElem (by omega)⟩
            obtain ⟨ad2, A6, k6, rfl, hC6, e6⟩ := call_cells HC5.out j (by omega) hc
            obtain ⟨⟨b1, o1, p1⟩, hB1⟩ : ∃ B, ad2.add (j * 6) = B := ⟨_, rfl⟩
            rw [hB1] at e6
            have z0 := (e6 _ P.out).1
            have z1 := (e6 _ P.out).2 0 _ rfl
            have z2 := (e6 _ P.out).2 1 _ rfl
            have z3 := (e6 _ P.out).2 2 _ rfl
            have z4 := (e6 _ P.out).2 3 _ rfl
            have z5 := (e6 _ P.out).2 4 _ rfl
            have HC6 := Lib.hid hC6
            have HCI := Lib.hid (HROW.out.2 c (List.mem_of_getElem? hc))
            have q10 : IntKind.i64.wrap ((j : Int) + 1) = (j : Int) + 1 := wrap_next (by have := HROW.out.1; omega)
            have HKJ := Lib.hid hkj
            clear hC6 e6 hc hkj
            have t1 : ¬ c.k < 1 := by have := HCI.out.k1; omega
            have t2 : ¬ 5 < c.k := by have := HCI.out.k5; omega
            have t3 : ¬ 20 < (c.ops.length : Int) := by have := HCI.out.l; omega
            by_cases hk : c.k = 1
            · have t4 : (c.k != 1) = false := by rw [hk]; rfl
              clear hk
              go_wp2_with fail
              generalize hW : World.alloc wr _ = w5
              obtain ⟨b5, hb5⟩ : ∃ b5, wr.heap.size = b5 := ⟨_, rfl⟩
              have HX5 := Lib.hid (show w5.heap[b5]? = some (.cells (cdCells c A6 k6) 48 (0, 0)) from by rw [← hW, ← hb5]; exact alloc_new _ _)
              have P5 := Lib.hid (show Below w3.heap.size w3 w5 by rw [← hW]; exact P.out.alloc P.out.size _)
              rw [hb5]
              clear hW hb5 z0 z1 z2 z3 z4 z5 t1 t2 t3 t4 x0 y4
              go_loopg [9] c.ops.length (fun k s9 wr => ∃ (n : Nat), k + n = c.ops.length ∧ s9 = .int .i64 n ∧ Hid (Below w5.heap.size w5 wr))
              case atStart => exact ⟨0, by omega, rfl, Lib.hid (Below.refl _ _)⟩
              case round =>
                obtain ⟨n, hkn, rfl, Pn⟩ := hrel
                have g1 := cell_blk ((Pn.out.block _ (lt_of_block HX5.out)).trans HX5.out) 1 (v := .slice A6 c.ops.length k6) rfl
                have PW := Lib.hid (P5.out.trans (Pn.out.mono P5.out.size))
                cases gk with
                | zero =>
                  have hlt3 : ¬ ((n : Int) < (c.ops.length : Int)) := by omega
                  go_wp2_with fail
                  go_roundg gk1
                  case measure => omega
                  case rel => exact ⟨j + 1, by have := HKJ.out; omega, rfl, PW⟩
                | succ gk2 =>
                  have hlt3 : (n : Int) < (c.ops.length : Int) := by omega
                  obtain ⟨o, ho⟩ : ∃ o, c.ops[n]? = some o := ⟨_, List.getElem?_eq_getElem (by omega)⟩
                  obtain ⟨ad3, rfl, e7⟩ := op_cells HC6.out n (by omega) ho
                  obtain ⟨⟨b2, o2, p2⟩, hB2⟩ : ∃ B, ad3.add (n * 6) = B := ⟨_, rfl⟩
                  rw [hB2] at e7
                  have z0 := (e7 _ PW.out).1
                  have z1 := (e7 _ PW.out).2 0 _ rfl
                  have z2 := (e7 _ PW.out).2 1 _ rfl
                  have z3 := (e7 _ PW.out).2 2 _ rfl
                  have z4 := (e7 _ PW.out).2 3 _ rfl
                  have z5 := (e7 _ PW.out).2 4 _ rfl
                  have HM := Lib.hid (HCI.out.may o (List.mem_of_getElem? ho))
                  have q11 : IntKind.i64.wrap ((n : Int) + 1) = (n : Int) + 1 := wrap_next (by have := HCI.out.l; omega)
                  clear e7 ho
                  go_wp2_with fail
                  refine (may_true o HM.out wr).mono ?_
                  rintro e w6 ⟨rfl, hb6⟩
                  have P6 := Lib.hid (Pn.out.trans (hb6.mono Pn.out.size))
                  clear hb6
                  go_wp2_with fail
                  go_roundg gk2
                  case measure => omega
                  case rel => exact ⟨n + 1, by omega, rfl, P6⟩
            · have t4 : (c.k != 1) = true := by simp only [bne, beq_eq_false_iff_ne.2 hk]; rfl
              have t5 : ¬ 0 < (c.ops.length : Int) := by rw [HCI.out.e hk]; decide
              clear hk
              go_wp2_with fail
              generalize hW : World.alloc wr _ = w5
              obtain ⟨b5, hb5⟩ : ∃ b5, wr.heap.size = b5 := ⟨_, rfl⟩
              have HX5 := Lib.hid (show w5.heap[b5]? = some (.cells (cdCells c A6 k6) 48 (0, 0)) from by rw [← hW, ← hb5]; exact alloc_new _ _)
              have P5 := Lib.hid (show Below w3.heap.size w3 w5 by rw [← hW]; exact P.out.alloc P.out.size _)
              rw [hb5]
              clear hW hb5 z0 z1 z2 z3 z4 z5 t1 t2 t3 t4 x0 y4
              go_loopg [9] c.ops.length (fun k s9 wr => ∃ (n : Nat), k + n = c.ops.length ∧ s9 = .int .i64 n ∧ Hid (Below w5.heap.size w5 wr))
              case atStart => exact ⟨0, by omega, rfl, Lib.hid (Below.refl _ _)⟩
              case round =>
                obtain ⟨n, hkn, rfl, Pn⟩ := hrel
                have g1 := cell_blk ((Pn.out.block _ (lt_of_block HX5.out)).trans HX5.out) 1 (v := .slice A6 c.ops.length k6) rfl
                have PW := Lib.hid (P5.out.trans (Pn.out.mono P5.out.size))
                cases gk with
                | zero =>
                  have hlt3 : ¬ ((n : Int) < (c.ops.length : Int)) := by omega
                  go_wp2_with fail
                  go_roundg gk1
                  case measure => omega
                  case rel => exact ⟨j + 1, by have := HKJ.out; omega, rfl, PW⟩
                | succ gk2 =>
                  have hlt3 : (n : Int) < (c.ops.length : Int) := by omega
                  exfalso
                  omega
end Go.Proofs.YtjcdpccfhpbccaaDoor
