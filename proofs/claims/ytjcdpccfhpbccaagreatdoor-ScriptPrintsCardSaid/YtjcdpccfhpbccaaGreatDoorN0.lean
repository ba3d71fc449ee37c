/-
  The walk of the calls' conversion to the document's own.
-/
import Derived.Test.YtjcdpccfhpbccaaGreatDoorF6
namespace Go.Proofs.YtjcdpccfhpbccaaGreatDoor
open Go.RowKit Go.Proofs.YtjcdpccfhpbccaaGreatDoorW.PrintWords

def kRow2 : Kd (List CallD) := Kd.slice 74 (kCall 120)
theorem info_row2 : (Tryz.prog.info? 69).map (fun i => (i.zero, i.size, i.bytes)) = some (some (.slice none 0 0), 1, 24) := by kernel_rfl
theorem info_call2 : (Tryz.prog.info? 74).map (fun i => (i.zero, i.size, i.bytes)) = some (some (.agg callZero), 6, 72) := by kernel_rfl
theorem info_op2 : (Tryz.prog.info? 120).map (fun i => (i.zero, i.size, i.bytes)) = some (some (.agg opZero), 6, 64) := by kernel_rfl
theorem R_empty {α : Type} (d : Kd α) (W : World) (base e : Nat) (ok : Nat → Prop) (hok : ok W.heap.size) (hb : base ≤ W.heap.size) : d.R e (W.alloc (.cells #[] e)) base ok (.slice (some ⟨W.heap.size, 0, none⟩) 0 0) [] := by
  refine ⟨fun k hk => ?_, [], ?_, by simp, fun j p hj => by simp at hj⟩
  · have : W.heap.size = k := by simpa [Value.ownBlock] using hk
    subst this
    exact hok
  · have h2 := World.ownsRow_lit (base := base) (e := e) (size := d.sz) W #[] 0 hb (by decide) (by simp)
    simpa using h2
/-- What stands when a row begins: its blocks lie behind B. -/
theorem R_front {α : Type} {d : Kd α} {e base : Nat} {ok : Nat → Prop} {w W : World} {v : Value} {xs : List α} (h : d.R e w base ok v xs) (hb : Below w.heap.size w W) : d.R e W base (fun k => ok k ∧ k < w.heap.size) v xs :=
  Kd.R_mono (Kd.R_step (Kd.R_bound h) (fun k hk _ => hb.block k hk.2.2.1)) (fun k hk => ⟨hk.1, hk.2.2.1⟩)
/-- A region's one end, whatever order was drawn: shown once. -/
structure Holds (G : Prop) : Prop where
  out : G
theorem Holds.via {G R : Prop} (h : Holds G → R) (g : G) : R := h ⟨g⟩
theorem R_mono_true {α : Type} {d : Kd α} {e base : Nat} {ok : Nat → Prop} {w : World} {v : Value} {xs : List α} (h : d.R e w base ok v xs) : d.R e w base (fun _ => True) v xs := Kd.R_mono h (fun _ _ => trivial)
def bxCells (c : CallD) (v : Value) : Array Value := #[.int .i64 c.k, v, .int .i64 c.q.k, .int .i64 c.q.i, .int .i64 c.q.b, .string c.q.x]
/-- A call on its way: its box, its operations, what was turned. -/
structure CSt (w5 W : World) (cb : Nat) (c : CallD) (v : Value) (xs : List OpD) : Prop where
  bx : W.heap[cb]? = some (.cells (bxCells c v) 74 (0, 0))
  own : kOp.R 120 W w5.heap.size (fun _ => True) v xs
  mu : Mut (· = cb) w5 W
  lt : cb < w5.heap.size
namespace CSt
variable {w5 W W1 : World} {cb : Nat} {c : CallD} {v v1 : Value} {xs : List OpD} {o : OpD}
theorem below (h : CSt w5 W cb c v xs) {w : World} (hb : Below w.heap.size w w5) (hc : w.heap.size ≤ cb) : Below w.heap.size w W :=
  hb.trans (h.mu.below hb.size (fun i hi => by omega))
theorem mid (h : CSt w5 W cb c v xs) (hg : W.grownBy W1 v.ownBlock) : W1.heap[cb]? = some (.cells (bxCells c v) 74 (0, 0)) ∧ Mut (· = cb) w5 W1 := by
  have hm : Mut (fun k => some k = v.ownBlock) W W1 := ⟨hg.os, hg.tape, hg.output, hg.size, fun k hk hn => hg.block k hk hn⟩
  have hbase : ∀ k, some k = v.ownBlock → w5.heap.size ≤ k := fun k hk => Kd.R_base h.own k hk.symm
  exact ⟨hm.blk h.bx (fun he => by have := hbase _ he; have := h.lt; omega), h.mu.trans hm (fun i hi => .inr (hbase i hi))⟩
theorem put (h : CSt w5 W cb c v xs) (hr : kOp.R 120 W1 w5.heap.size (fun _ => True) v1 (xs ++ [o])) (hg : W.grownBy W1 v.ownBlock) :
    CSt w5 (W1.setCell ⟨cb, 1, none⟩ v1) cb c v1 (xs ++ [o]) := by
  obtain ⟨h1, h2⟩ := h.mid hg
  have h3 := h.lt
  refine ⟨set_blk h1 1 v1, ?_, h2.set (p := ⟨cb, 1, none⟩) (.inl rfl) v1, h.lt⟩
  exact R_mono_true (R_mut (Kd.R_bound hr) ((Mut.refl (· = cb) W1).set1 1 v1) (fun k hk he => by have := hk.2.1; omega))
theorem drew (h : CSt w5 W cb c v xs) : CSt w5 W.drew cb c v xs := ⟨h.bx, Kd.R_drew h.own, h.mu.drew, h.lt⟩
end CSt
set_option maxRecDepth 100000 in
set_option maxHeartbeats 4000000 in
theorem calls_any (A : Option Addr) (cp : Nat) (rows : List (List CallD)) (w : World) (hC : kRow.C w A rows.length rows) (hn : rows.length ≤ 1048576) (hr : ∀ row ∈ rows, row.length ≤ 1048576 ∧ ∀ c ∈ row, c.ops.length ≤ 1048576) :
    Calls Tryz.prog 26 #[.slice A rows.length cp] w fun e w' => ∃ v, e = .returned v ∧ kRow2.R 69 w' w.heap.size (fun _ => True) v rows ∧ Below w.heap.size w w' := by
  have HC := Lib.hid hC
  have HN := Lib.hid hn
  have HR := Lib.hid hr
  clear hC hn hr
  go_enter Tryz.func26, Tryz.ntmps26
  go_wp2_with fail
  have HE := Lib.hid (R_empty kRow2 w w.heap.size 69 (fun _ => True) trivial (Nat.le_refl _))
  have HB := Lib.hid (show Below w.heap.size w (w.alloc (.cells #[] 69)) from (Below.refl _ _).alloc (Nat.le_refl _) _)
  go_loopg [3, 4] rows.length (fun k s3 s4 wr => ∃ (i : Nat) (v : Value), k + i = rows.length ∧ s4 = .int .i64 i ∧ s3 = v ∧ Hid (kRow2.R 69 wr w.heap.size (fun _ => True) v (rows.take i)) ∧ Hid (Below w.heap.size w wr))
  case atStart => exact ⟨0, _, by omega, rfl, rfl, HE, HB⟩
  case round =>
    clear HE HB
    obtain ⟨i, v3, hki, rfl, rfl, P, B⟩ := hrel
    cases gk with
    | zero =>
      have hlt : ¬ ((i : Int) < (rows.length : Int)) := by omega
      have P2 := Lib.hid (show kRow2.R 69 wr w.heap.size (fun _ => True) u3 rows from by
        have := P.out
        rw [List.take_of_length_le (by omega)] at this
        exact this)
      clear P
      go_wp2_with fail
      go_ret
      exact ⟨_, rfl, P2.out, B.out⟩
    | succ gk0 =>
      have hlt : (i : Int) < (rows.length : Int) := by omega
      obtain ⟨row, hrow⟩ : ∃ row, rows[i]? = some row := ⟨_, List.getElem?_eq_getElem (by omega)⟩
      obtain ⟨ad, A5, k5, rfl, hC5, e5⟩ := row_cells HC.out i (by omega) hrow
      have HC5 := Lib.hid hC5
      have HE5 := Lib.hid e5
      have HRR := Lib.hid (HR.out row (List.mem_of_getElem? hrow))
      have HROW := Lib.hid hrow
      have HKI := Lib.hid hki
      have q9 : IntKind.i64.wrap ((i : Int) + 1) = (i : Int) + 1 := wrap_next (by have := HN.out; omega)
      clear hC5 e5 hrow hki
      go_wp2_with fail
      have HE2 := Lib.hid (R_empty (kCall 120) wr wr.heap.size 74 (fun _ => True) trivial (Nat.le_refl _))
      have HB2 := Lib.hid (show Below wr.heap.size wr (wr.alloc (.cells #[] 74)) from (Below.refl _ _).alloc (Nat.le_refl _) _)
      obtain ⟨w0, hw0⟩ : ∃ w0, wr = w0 := ⟨_, rfl⟩
      rw [hw0] at P B HE2 HB2
      rw [hw0]
      clear hw0
      go_loopg [5, 6] row.length (fun k s5 s6 wr => ∃ (j : Nat) (v : Value), k + j = row.length ∧ s6 = .int .i64 j ∧ s5 = v ∧ Hid ((kCall 120).R 74 wr w0.heap.size (fun _ => True) v (row.take j)) ∧ Hid (Below w0.heap.size w0 wr))
      case atStart => exact ⟨0, _, by omega, rfl, rfl, HE2, HB2⟩
      case round =>
        clear HE2 HB2
        obtain ⟨j, v5, hkj, rfl, rfl, P5, B5⟩ := hrel
        have HBW := Lib.hid (B.out.trans (B5.out.mono B.out.size))
        have x0 := HE5.out _ HBW.out
        cases gk with
        | zero =>
          have hlt2 : ¬ ((j : Int) < (row.length : Int)) := by omega
          have P6 := Lib.hid (show (kCall 120).R 74 wr w0.heap.size (fun _ => True) u5 row from by
            have := P5.out
            rw [List.take_of_length_le (l := row) (by omega)] at this
            exact this)
          have P3 := Lib.hid (R_front P.out B5.out)
          obtain ⟨A7, k7, rfl⟩ := Kd.R_slice P6.out
          have HO := Lib.hid (Kd.R_mono P3.out (fun _ _ => trivial) : kRow2.R 69 wr w.heap.size (fun _ => True) u3 (rows.take i))
          have HM := Lib.hid (show kRow2.M wr w.heap.size (fun k => w0.heap.size ≤ k) row [.slice A7 row.length k7] from ⟨.slice A7 row.length k7, rfl, Kd.R_mono (Kd.R_lower (Kd.R_bound P6.out) B.out.size) (fun k hk => hk.2.1)⟩)
          have HOK := Lib.hid (show ∀ k, w0.heap.size ≤ k → (fun _ : Nat => True) k ∧ some k ≠ u3.ownBlock from fun k hk => ⟨trivial, fun he => by have := Kd.R_lt P.out k he.symm; omega⟩)
          have HL := Lib.hid (show ((rows.take i).length + 1) * 24 ≤ 140737488355328 by have := HN.out; rw [List.length_take]; omega)
          clear P P5 P3 P6
          go_wp2_with (at_builtin; go_loud (refine Kd.R_append kRow2 w.heap.size rfl (.tmp 76) (.tmp 78) 33 69 (.slice none 0 0) 24 rfl Tryz.underlying33 info_row2 rfl (by decide) (by decide) u3 (rows.take i) row [.slice A7 row.length k7] (fun _ => True) (fun k => w0.heap.size ≤ k) rfl rfl HM.out HOK.out (fun _ _ => trivial) HO.out HBW.out HBW.out.size HL.out ?_))
          intro v1 w14 hr4 hb4 hg4 hat4
          have HR4 := Lib.hid (show kRow2.R 69 w14 w.heap.size (fun _ => True) v1 (rows.take (i + 1)) from by rw [List.take_add_one, HROW.out]; exact hr4)
          have HB4 := Lib.hid hb4
          clear hr4 hb4 hg4 hat4
          go_wp2_with fail
          go_roundg gk0
          case measure => omega
          case rel => exact ⟨i + 1, v1, by have := HKI.out; omega, rfl, rfl, HR4, HB4⟩
        | succ gk1 =>
          have hlt2 : (j : Int) < (row.length : Int) := by omega
          obtain ⟨c, hc⟩ : ∃ c, row[j]? = some c := ⟨_, List.getElem?_eq_getElem (by omega)⟩
          obtain ⟨ad2, A6, k6, rfl, hC6, e6⟩ := call_cells HC5.out j (by omega) hc
          obtain ⟨⟨b1, o1, p1⟩, hB1⟩ : ∃ B, ad2.add (j * 6) = B := ⟨_, rfl⟩
          rw [hB1] at e6
          have z0 := (e6 _ HBW.out).1
          have z1 := (e6 _ HBW.out).2 0 _ rfl
          have z2 := (e6 _ HBW.out).2 1 _ rfl
          have z3 := (e6 _ HBW.out).2 2 _ rfl
          have z4 := (e6 _ HBW.out).2 3 _ rfl
          have z5 := (e6 _ HBW.out).2 4 _ rfl
          have HC6 := Lib.hid hC6
          have HE6 := Lib.hid e6
          have HCR := Lib.hid (HRR.out.2 c (List.mem_of_getElem? hc))
          have HCC := Lib.hid hc
          have q10 : IntKind.i64.wrap ((j : Int) + 1) = (j : Int) + 1 := wrap_next (by have := HRR.out.1; omega)
          have HKJ := Lib.hid hkj
          clear hC6 e6 hc hkj
          have HA := Lib.hid (fun o => HBW.out.alloc HBW.out.size o)
          have hS1 := (show wr.cell? (ad.add i) = some (.slice (some ad2) row.length k5) ∧ wr.cell? ⟨b1, o1, p1⟩ = some (.int .i64 c.k) ∧ wr.cell? ⟨b1, o1 + (1 + 1), none⟩ = some (.int .i64 c.q.k) ∧ wr.cell? ⟨b1, o1 + (2 + 1), none⟩ = some (.int .i64 c.q.i) ∧ wr.cell? ⟨b1, o1 + (3 + 1), none⟩ = some (.int .i64 c.q.b) ∧ wr.cell? ⟨b1, o1 + (4 + 1), none⟩ = some (.string c.q.x) from ⟨x0, z0, z2, z3, z4, z5⟩)
          have hS2 := (fun o => show (wr.alloc o).cell? (ad.add i) = some (.slice (some ad2) row.length k5) ∧ (wr.alloc o).cell? ⟨b1, o1, p1⟩ = some (.int .i64 c.k) ∧ (wr.alloc o).cell? ⟨b1, o1 + (1 + 1), none⟩ = some (.int .i64 c.q.k) ∧ (wr.alloc o).cell? ⟨b1, o1 + (2 + 1), none⟩ = some (.int .i64 c.q.i) ∧ (wr.alloc o).cell? ⟨b1, o1 + (3 + 1), none⟩ = some (.int .i64 c.q.b) ∧ (wr.alloc o).cell? ⟨b1, o1 + (4 + 1), none⟩ = some (.string c.q.x) from ⟨HE5.out _ (HA.out o), (HE6.out _ (HA.out o)).1, (HE6.out _ (HA.out o)).2 1 _ rfl, (HE6.out _ (HA.out o)).2 2 _ rfl, (HE6.out _ (HA.out o)).2 3 _ rfl, (HE6.out _ (HA.out o)).2 4 _ rfl⟩)
          go_wp2_with fail
          apply Holds.via
          case h =>
            intro KEY
            go_region_held3 (fun w' => w'.cell? (ad.add i) = some (.slice (some ad2) row.length k5) ∧ w'.cell? ⟨b1, o1, p1⟩ = some (.int .i64 c.k) ∧ w'.cell? ⟨b1, o1 + (1 + 1), none⟩ = some (.int .i64 c.q.k) ∧ w'.cell? ⟨b1, o1 + (2 + 1), none⟩ = some (.int .i64 c.q.i) ∧ w'.cell? ⟨b1, o1 + (3 + 1), none⟩ = some (.int .i64 c.q.b) ∧ w'.cell? ⟨b1, o1 + (4 + 1), none⟩ = some (.string c.q.x)) (first | exact hS1 | exact hS2 _ | assumption) (fail)
            all_goals exact KEY.out
          generalize hW : World.drew _ = w5
          obtain ⟨cb, hcb⟩ : ∃ cb, wr.heap.size = cb := ⟨_, rfl⟩
          have hb5 : Below wr.heap.size wr w5 := by rw [← hW]; exact below_drew ((Below.refl _ _).alloc (Nat.le_refl _) _)
          have hlt5 : cb < w5.heap.size := by rw [← hW, ← hcb]; show wr.heap.size < (wr.alloc _).heap.size; simp
          have HX5 := Lib.hid (show CSt w5 w5 cb c (.slice none 0 0) (c.ops.take 0) from ⟨by rw [← hW, ← hcb]; exact alloc_new _ _, Kd.R_nil _ _ _ _ _, Mut.refl _ _, hlt5⟩)
          have HB5 := Lib.hid (HBW.out.trans (hb5.mono HBW.out.size))
          have HB50 := Lib.hid (B5.out.trans (hb5.mono B5.out.size))
          have HCB := Lib.hid (show w.heap.size ≤ cb ∧ w0.heap.size ≤ cb from ⟨hcb ▸ HBW.out.size, hcb ▸ B5.out.size⟩)
          have P55 := Lib.hid (show (kCall 120).R 74 w5 w0.heap.size (fun k => k < cb) u5 (row.take j) from Kd.R_mono (R_front P5.out hb5) (fun k hk => hcb ▸ hk.2))
          rw [hcb]
          clear hW hcb hb5 hlt5 hS1 hS2 x0 z0 z1 z2 z3 z4 z5 P5
          go_wp2_with fail
          go_loopg [8] c.ops.length (fun k s8 wr => ∃ (n : Nat) (v : Value), k + n = c.ops.length ∧ s8 = .int .i64 n ∧ Hid (CSt w5 wr cb c v (c.ops.take n)))
          case atStart => exact ⟨0, _, by omega, rfl, HX5⟩
          case round =>
            clear HX5
            obtain ⟨n, v, hkn, rfl, D⟩ := hrel
            have HBD := Lib.hid (D.out.below HB5.out HCB.out.1)
            have HBE := Lib.hid (D.out.below HB50.out HCB.out.2)
            have x0 := HE5.out _ HBD.out
            have z1 := (HE6.out _ HBD.out).2 0 _ rfl
            cases gk with
            | zero =>
              have hlt3 : ¬ ((n : Int) < (c.ops.length : Int)) := by omega
              have D2 : CSt w5 wr cb c v c.ops := by
                have := D.out
                rw [List.take_of_length_le (by omega)] at this
                exact this
              obtain ⟨A8, k8, rfl⟩ := Kd.R_slice D2.own
              have y0 := cell_blk D2.bx 0 (v := .int .i64 c.k) rfl
              have y1 := cell_blk D2.bx 1 (v := .slice A8 c.ops.length k8) rfl
              have y2 := cell_blk D2.bx 2 (v := .int .i64 c.q.k) rfl
              have y3 := cell_blk D2.bx 3 (v := .int .i64 c.q.i) rfl
              have y4 := cell_blk D2.bx 4 (v := .int .i64 c.q.b) rfl
              have y5 := cell_blk D2.bx 5 (v := .string c.q.x) rfl
              have HO := Lib.hid (R_mono_true (Kd.R_step P55.out (fun k hk hlt => D2.mu.block k hlt (by omega))) : (kCall 120).R 74 wr w0.heap.size (fun _ => True) u5 (row.take j))
              have HM := Lib.hid (show (kCall 120).M wr w0.heap.size (fun k => cb < k) c [.int .i64 c.k, .slice A8 c.ops.length k8, .int .i64 c.q.k, .int .i64 c.q.i, .int .i64 c.q.b, .string c.q.x] from
                kCall_M (Kd.R_mono (Kd.R_lower (Kd.R_bound D2.own) HB50.out.size) (fun k hk => by have := hk.2.1; have := D2.lt; omega)))
              have HOK := Lib.hid (show ∀ k, cb < k → (fun _ : Nat => True) k ∧ some k ≠ u5.ownBlock from fun k hk => ⟨trivial, fun he => by have := P55.out.1 k he.symm; omega⟩)
              have HL := Lib.hid (show ((row.take j).length + 1) * 72 ≤ 140737488355328 by have := HRR.out.1; rw [List.length_take]; omega)
              clear D2 P55
              go_wp2_with (at_builtin; go_loud (refine Kd.R_append (kCall 120) w0.heap.size rfl (.tmp 72) (.tmp 74) 69 74 (.agg callZero) 72 rfl Tryz.underlying69 info_call2 rfl (by decide) (by decide) u5 (row.take j) c [.int .i64 c.k, .slice A8 c.ops.length k8, .int .i64 c.q.k, .int .i64 c.q.i, .int .i64 c.q.b, .string c.q.x] (fun _ => True) (fun k => cb < k) rfl rfl HM.out HOK.out (fun _ _ => trivial) HO.out HBE.out HBE.out.size HL.out ?_))
              intro v1 w14 hr4 hb4 hg4 hat4
              have HR4 := Lib.hid (show (kCall 120).R 74 w14 w0.heap.size (fun _ => True) v1 (row.take (j + 1)) from by rw [List.take_add_one, HCC.out]; exact hr4)
              have HB4 := Lib.hid hb4
              clear hr4 hb4 hg4 hat4 y0 y1 y2 y3 y4 y5
              go_wp2_with fail
              go_roundg gk1
              case measure => omega
              case rel => exact ⟨j + 1, v1, by have := HKJ.out; omega, rfl, rfl, HR4, HB4⟩
            | succ gk2 =>
              have hlt3 : (n : Int) < (c.ops.length : Int) := by omega
              obtain ⟨o, ho⟩ : ∃ o, c.ops[n]? = some o := ⟨_, List.getElem?_eq_getElem (by omega)⟩
              obtain ⟨ad3, rfl, e7⟩ := op_cells HC6.out n (by omega) ho
              obtain ⟨⟨b2, o2, p2⟩, hB2⟩ : ∃ B, ad3.add (n * 6) = B := ⟨_, rfl⟩
              rw [hB2] at e7
              have HS : ∀ W, Below w.heap.size w W → (W.cell? (ad.add i) = some (.slice (some ad2) row.length k5) ∧ W.cell? ⟨b1, o1 + (0 + 1), none⟩ = some (.slice (some ad3) c.ops.length k6) ∧ W.cell? ⟨b2, o2, p2⟩ = some (.int .i64 o.k) ∧ W.cell? ⟨b2, o2 + (0 + 1), none⟩ = some (.int .i64 o.i) ∧ W.cell? ⟨b2, o2 + (1 + 1), none⟩ = some (.int .i64 o.t) ∧ W.cell? ⟨b2, o2 + (2 + 1), none⟩ = some (.int .i64 o.a) ∧ W.cell? ⟨b2, o2 + (3 + 1), none⟩ = some (.string o.n) ∧ W.cell? ⟨b2, o2 + (4 + 1), none⟩ = some (.string o.x)) :=
                fun W hW => ⟨HE5.out _ hW, (HE6.out _ hW).2 0 _ rfl, (e7 _ hW).1, (e7 _ hW).2 0 _ rfl, (e7 _ hW).2 1 _ rfl, (e7 _ hW).2 2 _ rfl, (e7 _ hW).2 3 _ rfl, (e7 _ hW).2 4 _ rfl⟩
              have hS1 := HS _ HBD.out
              have hS2 := fun o => HS _ (HBD.out.alloc HBD.out.size o)
              have HSH := Lib.hid HS
              have HO := Lib.hid ho
              have HKN := Lib.hid hkn
              have q11 : IntKind.i64.wrap ((n : Int) + 1) = (n : Int) + 1 := wrap_next (by have := HCR.out; omega)
              have y1 := cell_blk D.out.bx 1 (v := v) rfl
              have y1a := fun o => cell_blk (alloc_blk D.out.bx o) 1 (v := v) rfl
              have HL := Lib.hid (show ((c.ops.take n).length + 1) * 64 ≤ 140737488355328 by have := HCR.out; rw [List.length_take]; omega)
              clear HS e7 ho hkn x0 z1
              obtain ⟨f0, f1, f2, f3, f4, f5, f6, f7⟩ := hS1
              have g0 := fun o => (hS2 o).1
              have g1 := fun o => (hS2 o).2.1
              have g2 := fun o => (hS2 o).2.2.1
              have g3 := fun o => (hS2 o).2.2.2.1
              have g4 := fun o => (hS2 o).2.2.2.2.1
              have g5 := fun o => (hS2 o).2.2.2.2.2.1
              have g6 := fun o => (hS2 o).2.2.2.2.2.2.1
              have g7 := fun o => (hS2 o).2.2.2.2.2.2.2
              clear hS2
              go_wp2_with fail
              go_region_law (first
                    | (refine Kd.R_append_step kOp (w0 := _) w5.heap.size (by rfl) (.tmp 57) (.tmp 69) 71 120 (.agg opZero) 64 rfl Tryz.underlying71 info_op2 rfl (by decide) (by decide) v (c.ops.take n) o [.int .i64 o.k, .int .i64 o.i, .int .i64 o.t, .int .i64 o.a, .string o.n, .string o.x] (fun _ => True) (fun _ => False) rfl rfl (kOp_M _ _ _ _) (fun _ h => h.elim) (fun _ _ => trivial) D.out.drew.own (Below.refl _ _) D.out.mu.size HL.out ?_
                       intro v1 w14 hr4 hb4 hg4 hat4
                       obtain ⟨A9, k9, rfl⟩ := Kd.R_slice hr4
                       have D2 := Lib.hid (D.out.drew.put hr4 hg4)
                       have d4 := cell_blk (D.out.drew.mid hg4).1 1 (v := v) rfl
                       have e4 := froz_blk (D.out.drew.mid hg4).1 1
                       clear hr4 hb4 hg4 hat4))
              all_goals
                rw [show (c.ops.take n ++ [o]).length = min n c.ops.length + 1 by simp] at D2
                go_wp2_with fail
                go_roundg gk2
                case measure => omega
                case rel => exact ⟨n + 1, .slice A9 (min n c.ops.length + 1) k9, by have := HKN.out; omega, rfl, by rw [List.take_add_one, HO.out]; exact D2⟩
end Go.Proofs.YtjcdpccfhpbccaaGreatDoor
