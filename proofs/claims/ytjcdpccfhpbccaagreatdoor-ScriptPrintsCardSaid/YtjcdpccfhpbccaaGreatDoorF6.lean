/-
  The walks that compare: calls, rows of calls, rows of rows, picks.
  The walks that compare: picks.
  The walks that compare: rows of calls, rows of rows.
  The walks that compare: rows of rows.
-/
import Derived.Test.YtjcdpccfhpbccaaGreatDoorF2
namespace Go.Proofs.YtjcdpccfhpbccaaGreatDoor
open Go.RowKit Go.Proofs.YtjcdpccfhpbccaaGreatDoorW.PrintWords

theorem q_ext {x y : QD} : x = y ↔ x.k = y.k ∧ x.i = y.i ∧ x.b = y.b ∧ x.x = y.x := by
  constructor
  · rintro rfl; exact ⟨rfl, rfl, rfl, rfl⟩
  · obtain ⟨a, b, c, d⟩ := x
    obtain ⟨a', b', c', d'⟩ := y
    rintro ⟨h1, h2, h3, h4⟩
    dsimp only at h1 h2 h3 h4
    subst h1 h2 h3 h4
    rfl
set_option maxRecDepth 100000 in
set_option maxHeartbeats 1000000 in
theorem cmp_q (x y : QD) : ∃ b, (b = true ↔ x = y) ∧ ∀ w, (binOp .eql 51 (.agg #[.int .i64 x.k, .int .i64 x.i, .int .i64 x.b, .string x.x]) (.agg #[.int .i64 y.k, .int .i64 y.i, .int .i64 y.b, .string y.x])).run Tryz.prog w = .ok (.bool b) w := by
  have hp : Tryz.prog.stoodInHeld 51 = false := by kernel_rfl
  by_cases h1 : x.k = y.k
  · by_cases h2 : x.i = y.i
    · by_cases h3 : x.b = y.b
      · by_cases h6 : x.x = y.x
        · refine ⟨true, by simp [q_ext, h1, h2, h3, h6], fun w => ?_⟩
          rw [h1, h2, h3, h6]
          simp [go_sem, hp, Tryz.underlying51]
        · refine ⟨false, by simp [q_ext, h6], fun w => ?_⟩
          have t6 := bytes_ne h6
          rw [h1, h2, h3]
          simp [go_sem, hp, t6, Tryz.underlying51]
      · refine ⟨false, by simp [q_ext, h3], fun w => ?_⟩
        have t3 : (x.b == y.b) = false := beq_eq_false_iff_ne.2 h3
        rw [h1, h2]
        simp [go_sem, hp, t3, Tryz.underlying51]
    · refine ⟨false, by simp [q_ext, h2], fun w => ?_⟩
      have t2 : (x.i == y.i) = false := beq_eq_false_iff_ne.2 h2
      rw [h1]
      simp [go_sem, hp, t2, Tryz.underlying51]
  · refine ⟨false, by simp [q_ext, h1], fun w => ?_⟩
    have t1 : (x.k == y.k) = false := beq_eq_false_iff_ne.2 h1
    simp [go_sem, hp, t1, Tryz.underlying51]
theorem c_ext {x y : CallD} : x = y ↔ x.k = y.k ∧ x.q = y.q ∧ x.ops = y.ops := by
  constructor
  · rintro rfl; exact ⟨rfl, rfl, rfl⟩
  · obtain ⟨a, b, c⟩ := x
    obtain ⟨a', b', c'⟩ := y
    rintro ⟨h1, h2, h3⟩
    dsimp only at h1 h2 h3
    subst h1 h2 h3
    rfl
def cdV (c : CallD) (A : Option Addr) (k : Nat) : Value := .agg #[.int .i64 c.k, .slice A c.ops.length k, .int .i64 c.q.k, .int .i64 c.q.i, .int .i64 c.q.b, .string c.q.x]
theorem EqPost.imp {P Q : Prop} {e : Ending} (h : EqPost P e) (hpq : P ↔ Q) : EqPost Q e := by
  obtain ⟨r, h1, h2⟩ := h
  exact ⟨r, h1, h2.trans hpq⟩

set_option maxRecDepth 100000 in
set_option maxHeartbeats 2000000 in
theorem same_any (c d : CallD) (A1 A2 : Option Addr) (k1 k2 : Nat) (w : World) (hx : kOp.C w A1 c.ops.length c.ops) (hy : kOp.C w A2 d.ops.length d.ops) (hn : c.ops.length ≤ 4294967296) :
    Calls Tryz.prog 35 #[cdV c A1 k1, cdV d A2 k2] w fun e w' => EqPost (c = d) e ∧ Below w.heap.size w w' := by
  have HX := Lib.hid hx
  have HY := Lib.hid hy
  have HN := Lib.hid hn
  have HB := Lib.hid (show ∀ o o', Below w.heap.size w ((w.alloc o).alloc o') from fun o o' => ((Below.refl _ _).alloc (Nat.le_refl _) o).alloc (by simp) o')
  obtain ⟨b, hb, hc⟩ := cmp_q c.q d.q
  clear hx hy hn
  unfold cdV
  by_cases h1 : c.k = d.k
  · have t1 : (c.k == d.k) = true := by rw [h1]; simp
    have H1 := Lib.hid h1
    clear h1
    cases b with
    | false =>
      have HNE := Lib.hid (show ¬ c = d from fun h => by have := hb.2 (c_ext.1 h).2.1; cases this)
      clear hb
      go_enter Tryz.func35, Tryz.ntmps35
      go_wp2_with fail
      go_ret
      exact ⟨⟨false, rfl, by simp [HNE.out]⟩, HB.out _ _⟩
    | true =>
      have HQ := Lib.hid (hb.1 rfl)
      clear hb
      go_enter Tryz.func35, Tryz.ntmps35
      go_wp2_with fail
      refine (equalOps_any A1 A2 k1 k2 c.ops d.ops _ (Kd.C_below HX.out (HB.out _ _)) (Kd.C_below HY.out (HB.out _ _)) HN.out).mono ?_
      rintro e w2 ⟨⟨r, rfl, hr⟩, hb2⟩
      have HR := Lib.hid (And.intro hr hb2)
      clear hr hb2
      go_wp2_with fail
      go_ret
      exact ⟨⟨r, rfl, by rw [c_ext, HR.out.1]; simp [H1.out, HQ.out]⟩, (HB.out _ _).trans (HR.out.2.mono (by simp; omega))⟩
  · have t1 : (c.k == d.k) = false := beq_eq_false_iff_ne.2 h1
    have HNE := Lib.hid (show ¬ c = d from fun h => h1 (c_ext.1 h).1)
    clear h1
    go_enter Tryz.func35, Tryz.ntmps35
    go_wp2_with fail
    go_ret
    exact ⟨⟨false, rfl, by simp [HNE.out]⟩, HB.out _ _⟩
end Go.Proofs.YtjcdpccfhpbccaaGreatDoor
namespace Go.Proofs.YtjcdpccfhpbccaaGreatDoor
open Go.RowKit Go.Proofs.YtjcdpccfhpbccaaGreatDoorW.PrintWords

theorem u8_cells {w : World} {A : Option Addr} {n : Nat} {xs : List Int} (h : (Kd.int .u8).C w A n xs) (i : Nat) (hi : i < n) {x : Int} (hx : xs[i]? = some x) :
    ∃ ad, A = some ad ∧ ∀ W, Below w.heap.size w W → W.cell? (ad.add i) = some (.int .u8 x) := by
  obtain ⟨ad, c, rfl, hcl, hK, hcell⟩ := Kd.C_get h 0 i (by omega) (by omega)
  have hget : xs.getD (i : Int).toNat 0 = x := by
    rw [Int.toNat_natCast, List.getD_eq_getElem?_getD, hx]
    rfl
  rw [hget] at hK
  have hKc : c = [.int .u8 x] := hK
  subst hKc
  refine ⟨ad, rfl, fun W hb => ?_⟩
  have h0 := hcell 0 _ rfl
  rw [Int.toNat_natCast, show (Kd.int .u8).sz = 1 from rfl, Nat.mul_one, Nat.add_zero] at h0
  exact (hb.cell (World.block_lt_of_cell? _ _ h0)).trans h0

set_option maxRecDepth 100000 in
set_option maxHeartbeats 2000000 in
theorem equalPicks_any (A1 A2 : Option Addr) (c1 c2 : Nat) (xs ys : List Int) (w : World) (hx : (Kd.int .u8).C w A1 xs.length xs) (hy : (Kd.int .u8).C w A2 ys.length ys) (hn : xs.length ≤ 4294967296) :
    Calls Tryz.prog 31 #[.slice A1 xs.length c1, .slice A2 ys.length c2] w fun e w' => EqPost (xs = ys) e ∧ Below w.heap.size w w' := by
  have HX := Lib.hid hx
  have HY := Lib.hid hy
  have HN := Lib.hid hn
  clear hx hy hn
  by_cases hl : xs.length = ys.length
  · have ht : ((xs.length : Int) != (ys.length : Int)) = false := by simp [hl]
    have HLL := Lib.hid hl
    clear hl
    go_enter Tryz.func31, Tryz.ntmps31
    go_wp2_with fail
    go_loopg [13] xs.length (fun k s13 wr => ∃ (i : Nat), k + i = xs.length ∧ s13 = .int .i64 i ∧ Hid (xs.take i = ys.take i) ∧ Hid (Below w.heap.size w wr))
    case atStart => exact ⟨0, by omega, rfl, Lib.hid (by simp), Lib.hid (Below.refl _ _)⟩
    case round =>
      obtain ⟨i, hki, rfl, HT, HBE⟩ := hrel
      cases gk with
      | zero =>
        have hlt : ¬ ((i : Int) < (xs.length : Int)) := by omega
        go_wp2_with fail
        go_ret
        have h2 := HT.out
        rw [List.take_of_length_le (by omega), List.take_of_length_le (by have := HLL.out; omega)] at h2
        exact ⟨⟨true, rfl, by simp [h2]⟩, HBE.out⟩
      | succ gk =>
        have hlt : (i : Int) < (xs.length : Int) := by omega
        have hlt2 : (i : Int) < (ys.length : Int) := by have := HLL.out; omega
        obtain ⟨x, hx⟩ : ∃ x, xs[i]? = some x := ⟨_, List.getElem?_eq_getElem (by omega)⟩
        obtain ⟨y, hy⟩ : ∃ y, ys[i]? = some y := ⟨_, List.getElem?_eq_getElem (by have := HLL.out; omega)⟩
        obtain ⟨a1, rfl, e1⟩ := u8_cells HX.out i (by omega) hx
        obtain ⟨a2, rfl, e2⟩ := u8_cells HY.out i (by have := HLL.out; omega) hy
        have x0 := fun q => e1 _ (below_drewN HBE.out q)
        have y0 := fun q => e2 _ (below_drewN HBE.out q)
        have HH := Lib.hid (And.intro hx hy)
        have q9 : IntKind.i64.wrap ((i : Int) + 1) = (i : Int) + 1 := wrap_next (by have := HN.out; omega)
        clear e1 e2 hx hy
        have x0' := x0 0
        have y0' := y0 0
        by_cases hxy : x = y
        case neg =>
          have tt : (x == y) = false := beq_eq_false_iff_ne.2 hxy
          have HBB := Lib.hid hxy
          clear hxy
          have hne : xs ≠ ys := by
            rintro rfl
            have h1 := HH.out.1.symm.trans HH.out.2
            injection h1 with h1
            exact HBB.out h1
          have HNE := Lib.hid hne
          clear hne
          go_wp2_with fail
          go_quiet (fail)
          go_wp2_with fail
          go_ret
          exact ⟨⟨false, rfl, by simp [HNE.out]⟩, below_drewN HBE.out _⟩
        case pos =>
          have tt : (x == y) = true := by rw [hxy]; simp
          have HXY := Lib.hid hxy
          clear hxy
          go_wp2_with fail
          go_quiet (fail)
          go_wp2_with fail
          go_roundg gk
          case measure => omega
          case rel => exact ⟨i + 1, by omega, rfl, Lib.hid (by rw [List.take_add_one, List.take_add_one, HH.out.1, HH.out.2, HT.out, HXY.out]), Lib.hid (below_drewN HBE.out _)⟩
  · have ht : ((xs.length : Int) != (ys.length : Int)) = true := by simp [bne]; omega
    have HNE := Lib.hid (show xs ≠ ys from fun h => hl (by rw [h]))
    go_enter Tryz.func31, Tryz.ntmps31
    go_wp2_with fail
    go_ret
    exact ⟨⟨false, rfl, by simp [HNE.out]⟩, Below.refl _ _⟩
end Go.Proofs.YtjcdpccfhpbccaaGreatDoor
namespace Go.Proofs.YtjcdpccfhpbccaaGreatDoor
open Go.RowKit Go.Proofs.YtjcdpccfhpbccaaGreatDoorW.PrintWords

theorem call_cells {w : World} {A : Option Addr} {n : Nat} {xs : List CallD} (h : (kCall 48).C w A n xs) (i : Nat) (hi : i < n) {x : CallD} (hx : xs[i]? = some x) :
    ∃ ad A1 c1, A = some ad ∧ kOp.C w A1 x.ops.length x.ops ∧ ∀ W, Below w.heap.size w W → W.cell? (ad.add (i * 6)) = some (.int .i64 x.k) ∧ (∀ j v, [.slice A1 x.ops.length c1, .int .i64 x.q.k, .int .i64 x.q.i, .int .i64 x.q.b, .string x.q.x][j]? = some v → W.cell? ⟨(ad.add (i * 6)).block, (ad.add (i * 6)).off + (j + 1), none⟩ = some v) := by
  obtain ⟨ad, c, rfl, hcl, hK, hcell⟩ := Kd.C_get h ⟨0, [], qZero⟩ i (by omega) (by omega)
  have hget : xs.getD (i : Int).toNat ⟨0, [], qZero⟩ = x := by
    rw [Int.toNat_natCast, List.getD_eq_getElem?_getD, hx]
    rfl
  rw [hget] at hK
  obtain ⟨A1, c1, rfl, hc1, hC1⟩ := kCall_K hK
  refine ⟨ad, A1, c1, rfl, hC1, fun W hb => ⟨?_, fun j v hj => ?_⟩⟩
  · have h0 := hcell 0 _ rfl
    rw [Int.toNat_natCast, kCall_sz, Nat.add_zero] at h0
    exact (hb.cell (World.block_lt_of_cell? _ _ h0)).trans h0
  · have h0 := hcell (j + 1) v (by simpa using hj)
    rw [Int.toNat_natCast, kCall_sz, addr_add2, addr_succ] at h0
    exact (hb.cell (World.block_lt_of_cell? _ _ h0)).trans h0

set_option maxRecDepth 100000 in
set_option maxHeartbeats 2000000 in
theorem equalCalls_any (A1 A2 : Option Addr) (c1 c2 : Nat) (xs ys : List CallD) (w : World) (hx : (kCall 48).C w A1 xs.length xs) (hy : (kCall 48).C w A2 ys.length ys) (hn : xs.length ≤ 4294967296) (ho : ∀ c ∈ xs, c.ops.length ≤ 4294967296) :
    Calls Tryz.prog 34 #[.slice A1 xs.length c1, .slice A2 ys.length c2, .func (.func 35) #[] #[]] w fun e w' => EqPost (xs = ys) e ∧ Below w.heap.size w w' := by
  have HX := Lib.hid hx
  have HY := Lib.hid hy
  have HN := Lib.hid hn
  have HO := Lib.hid ho
  clear hx hy hn ho
  by_cases hl : xs.length = ys.length
  · have ht : ((xs.length : Int) != (ys.length : Int)) = false := by simp [hl]
    have HLL := Lib.hid hl
    clear hl
    go_enter Tryz.func34, Tryz.ntmps34
    go_wp2_with fail
    go_loopg [17] xs.length (fun k s17 wr => ∃ (i : Nat), k + i = xs.length ∧ s17 = .int .i64 i ∧ Hid (xs.take i = ys.take i) ∧ Hid (Below w.heap.size w wr))
    case atStart => exact ⟨0, by omega, rfl, Lib.hid (by simp), Lib.hid (Below.refl _ _)⟩
    case round =>
      obtain ⟨i, hki, rfl, HT, HBE⟩ := hrel
      cases gk with
      | zero =>
        have hlt : ¬ ((i : Int) < (xs.length : Int)) := by omega
        go_wp2_with fail
        go_ret
        have h2 := HT.out
        rw [List.take_of_length_le (by omega), List.take_of_length_le (by have := HLL.out; omega)] at h2
        exact ⟨⟨true, rfl, by simp [h2]⟩, HBE.out⟩
      | succ gk =>
        have hlt : (i : Int) < (xs.length : Int) := by omega
        have hlt2 : (i : Int) < (ys.length : Int) := by have := HLL.out; omega
        obtain ⟨x, hx⟩ : ∃ x, xs[i]? = some x := ⟨_, List.getElem?_eq_getElem (by omega)⟩
        obtain ⟨y, hy⟩ : ∃ y, ys[i]? = some y := ⟨_, List.getElem?_eq_getElem (by have := HLL.out; omega)⟩
        obtain ⟨a1, B1, k1, rfl, hC1, e1⟩ := call_cells HX.out i (by omega) hx
        obtain ⟨a2, B2, k2, rfl, hC2, e2⟩ := call_cells HY.out i (by have := HLL.out; omega) hy
        obtain ⟨⟨b1, o1, p1⟩, hB1⟩ : ∃ B, a1.add (i * 6) = B := ⟨_, rfl⟩
        obtain ⟨⟨b2, o2, p2⟩, hB2⟩ : ∃ B, a2.add (i * 6) = B := ⟨_, rfl⟩
        rw [hB1] at e1
        rw [hB2] at e2
        have HE1 := Lib.hid e1
        have HE2 := Lib.hid e2
        have HC1 := Lib.hid hC1
        have HC2 := Lib.hid hC2
        have hd : ∀ ob, Below w.heap.size w (wr.alloc ob) := fun ob => HBE.out.alloc HBE.out.size ob
        have x0 := (HE1.out _ HBE.out).1
        have x1 := (HE1.out _ HBE.out).2 0 _ rfl
        have x2 := (HE1.out _ HBE.out).2 1 _ rfl
        have x3 := (HE1.out _ HBE.out).2 2 _ rfl
        have x4 := (HE1.out _ HBE.out).2 3 _ rfl
        have x5 := (HE1.out _ HBE.out).2 4 _ rfl
        have y0 := fun ob => (HE2.out _ (hd ob)).1
        have y1 := fun ob => (HE2.out _ (hd ob)).2 0 _ rfl
        have y2 := fun ob => (HE2.out _ (hd ob)).2 1 _ rfl
        have y3 := fun ob => (HE2.out _ (hd ob)).2 2 _ rfl
        have y4 := fun ob => (HE2.out _ (hd ob)).2 3 _ rfl
        have y5 := fun ob => (HE2.out _ (hd ob)).2 4 _ rfl
        have HH := Lib.hid (And.intro hx hy)
        have HOx := Lib.hid (HO.out x (List.mem_of_getElem? hx))
        have q9 : IntKind.i64.wrap ((i : Int) + 1) = (i : Int) + 1 := wrap_next (by have := HN.out; omega)
        clear e1 e2 hx hy hd hC1 hC2
        go_wp2_with fail
        generalize hW : World.alloc (World.alloc wr _) _ = w4
        have hb4 : Below w.heap.size w w4 := by
          rw [← hW]
          exact (HBE.out.alloc HBE.out.size _).alloc (by have := HBE.out.size; simp; omega) _
        have HB4 := Lib.hid hb4
        clear hW hb4 x0 x1 x2 x3 x4 x5 y0 y1 y2 y3 y4 y5
        refine (same_any x y B1 B2 k1 k2 w4 (Kd.C_below HC1.out HB4.out) (Kd.C_below HC2.out HB4.out) HOx.out).mono ?_
        rintro e w5 ⟨⟨r, rfl, hr⟩, hb5⟩
        have HB5 := Lib.hid (HB4.out.trans (hb5.mono HB4.out.size))
        have HR := Lib.hid hr
        clear hr hb5
        cases r with
        | false =>
          have hne : xs ≠ ys := by
            rintro rfl
            have h1 := HH.out.1.symm.trans HH.out.2
            injection h1 with h1
            have := HR.out.2 h1
            cases this
          have HNE := Lib.hid hne
          clear hne
          go_wp2_with fail
          go_ret
          exact ⟨⟨false, rfl, by simp [HNE.out]⟩, HB5.out⟩
        | true =>
          have HXY := Lib.hid (HR.out.1 rfl)
          go_wp2_with fail
          go_roundg gk
          case measure => omega
          case rel => exact ⟨i + 1, by omega, rfl, Lib.hid (by rw [List.take_add_one, List.take_add_one, HH.out.1, HH.out.2, HT.out, HXY.out]), HB5⟩
  · have ht : ((xs.length : Int) != (ys.length : Int)) = true := by simp [bne]; omega
    have HNE := Lib.hid (show xs ≠ ys from fun h => hl (by rw [h]))
    go_enter Tryz.func34, Tryz.ntmps34
    go_wp2_with fail
    go_ret
    exact ⟨⟨false, rfl, by simp [HNE.out]⟩, Below.refl _ _⟩
end Go.Proofs.YtjcdpccfhpbccaaGreatDoor
namespace Go.Proofs.YtjcdpccfhpbccaaGreatDoor
open Go.RowKit Go.Proofs.YtjcdpccfhpbccaaGreatDoorW.PrintWords

theorem row_cells {w : World} {A : Option Addr} {n : Nat} {xs : List (List CallD)} (h : kRow.C w A n xs) (i : Nat) (hi : i < n) {x : List CallD} (hx : xs[i]? = some x) :
    ∃ ad A1 c1, A = some ad ∧ (kCall 48).C w A1 x.length x ∧ ∀ W, Below w.heap.size w W → W.cell? (ad.add i) = some (.slice A1 x.length c1) := by
  obtain ⟨ad, c, rfl, hcl, hK, hcell⟩ := Kd.C_get h [] i (by omega) (by omega)
  have hget : xs.getD (i : Int).toNat [] = x := by
    rw [Int.toNat_natCast, List.getD_eq_getElem?_getD, hx]
    rfl
  rw [hget] at hK
  obtain ⟨A1, c1, rfl, hc1, hC1⟩ := hK
  refine ⟨ad, A1, c1, rfl, hC1, fun W hb => ?_⟩
  have h0 := hcell 0 _ rfl
  rw [Int.toNat_natCast, show kRow.sz = 1 from rfl, Nat.mul_one, Nat.add_zero] at h0
  exact (hb.cell (World.block_lt_of_cell? _ _ h0)).trans h0

set_option maxHeartbeats 1000000 in
theorem print1fn_any (A1 A2 : Option Addr) (c1 c2 : Nat) (xs ys : List CallD) (w : World) (hx : (kCall 48).C w A1 xs.length xs) (hy : (kCall 48).C w A2 ys.length ys) (hn : xs.length ≤ 4294967296) (ho : ∀ c ∈ xs, c.ops.length ≤ 4294967296) :
    Calls Tryz.prog 33 #[.slice A1 xs.length c1, .slice A2 ys.length c2] w fun e w' => EqPost (xs = ys) e ∧ Below w.heap.size w w' := by
  have HX := Lib.hid hx
  have HY := Lib.hid hy
  have HN := Lib.hid hn
  have HO := Lib.hid ho
  clear hx hy hn ho
  go_enter Tryz.func33, Tryz.ntmps33
  go_wp2_with fail
  refine (equalCalls_any A1 A2 c1 c2 xs ys w HX.out HY.out HN.out HO.out).mono ?_
  rintro e w2 ⟨⟨r, rfl, hr⟩, hb⟩
  have HR := Lib.hid (And.intro hr hb)
  clear hr hb
  go_wp2_with fail
  go_ret
  exact ⟨⟨r, rfl, HR.out.1⟩, HR.out.2⟩

set_option maxRecDepth 100000 in
set_option maxHeartbeats 2000000 in
theorem equalRows_any (A1 A2 : Option Addr) (c1 c2 : Nat) (xs ys : List (List CallD)) (w : World) (hx : kRow.C w A1 xs.length xs) (hy : kRow.C w A2 ys.length ys) (hn : xs.length ≤ 4294967296) (ho : ∀ row ∈ xs, row.length ≤ 4294967296 ∧ ∀ c ∈ row, c.ops.length ≤ 4294967296) :
    Calls Tryz.prog 32 #[.slice A1 xs.length c1, .slice A2 ys.length c2, .func (.func 33) #[] #[]] w fun e w' => EqPost (xs = ys) e ∧ Below w.heap.size w w' := by
  have HX := Lib.hid hx
  have HY := Lib.hid hy
  have HN := Lib.hid hn
  have HO := Lib.hid ho
  clear hx hy hn ho
  by_cases hl : xs.length = ys.length
  · have ht : ((xs.length : Int) != (ys.length : Int)) = false := by simp [hl]
    have HLL := Lib.hid hl
    clear hl
    go_enter Tryz.func32, Tryz.ntmps32
    go_wp2_with fail
    go_loopg [17] xs.length (fun k s17 wr => ∃ (i : Nat), k + i = xs.length ∧ s17 = .int .i64 i ∧ Hid (xs.take i = ys.take i) ∧ Hid (Below w.heap.size w wr))
    case atStart => exact ⟨0, by omega, rfl, Lib.hid (by simp), Lib.hid (Below.refl _ _)⟩
    case round =>
      obtain ⟨i, hki, rfl, HT, HBE⟩ := hrel
      cases gk with
      | zero =>
        have hlt : ¬ ((i : Int) < (xs.length : Int)) := by omega
        go_wp2_with fail
        go_ret
        have h2 := HT.out
        rw [List.take_of_length_le (by omega), List.take_of_length_le (by have := HLL.out; omega)] at h2
        exact ⟨⟨true, rfl, by simp [h2]⟩, HBE.out⟩
      | succ gk =>
        have hlt : (i : Int) < (xs.length : Int) := by omega
        have hlt2 : (i : Int) < (ys.length : Int) := by have := HLL.out; omega
        obtain ⟨x, hx⟩ : ∃ x, xs[i]? = some x := ⟨_, List.getElem?_eq_getElem (by omega)⟩
        obtain ⟨y, hy⟩ : ∃ y, ys[i]? = some y := ⟨_, List.getElem?_eq_getElem (by have := HLL.out; omega)⟩
        obtain ⟨a1, B1, k1, rfl, hC1, e1⟩ := row_cells HX.out i (by omega) hx
        obtain ⟨a2, B2, k2, rfl, hC2, e2⟩ := row_cells HY.out i (by have := HLL.out; omega) hy
        have HC1 := Lib.hid hC1
        have HC2 := Lib.hid hC2
        have x0 := e1 _ HBE.out
        have y0 := e2 _ HBE.out
        have HH := Lib.hid (And.intro hx hy)
        have HOx := Lib.hid (HO.out x (List.mem_of_getElem? hx))
        have q9 : IntKind.i64.wrap ((i : Int) + 1) = (i : Int) + 1 := wrap_next (by have := HN.out; omega)
        clear e1 e2 hx hy hC1 hC2
        go_wp2_with fail
        refine (print1fn_any B1 B2 k1 k2 x y wr (Kd.C_below HC1.out HBE.out) (Kd.C_below HC2.out HBE.out) HOx.out.1 HOx.out.2).mono ?_
        rintro e w5 ⟨⟨r, rfl, hr⟩, hb5⟩
        have HB5 := Lib.hid (HBE.out.trans (hb5.mono HBE.out.size))
        have HR := Lib.hid hr
        clear hr hb5
        cases r with
        | false =>
          have hne : xs ≠ ys := by
            rintro rfl
            have h1 := HH.out.1.symm.trans HH.out.2
            injection h1 with h1
            have := HR.out.2 h1
            cases this
          have HNE := Lib.hid hne
          clear hne
          go_wp2_with fail
          go_ret
          exact ⟨⟨false, rfl, by simp [HNE.out]⟩, HB5.out⟩
        | true =>
          have HXY := Lib.hid (HR.out.1 rfl)
          go_wp2_with fail
          go_roundg gk
          case measure => omega
          case rel => exact ⟨i + 1, by omega, rfl, Lib.hid (by rw [List.take_add_one, List.take_add_one, HH.out.1, HH.out.2, HT.out, HXY.out]), HB5⟩
  · have ht : ((xs.length : Int) != (ys.length : Int)) = true := by simp [bne]; omega
    have HNE := Lib.hid (show xs ≠ ys from fun h => hl (by rw [h]))
    go_enter Tryz.func32, Tryz.ntmps32
    go_wp2_with fail
    go_ret
    exact ⟨⟨false, rfl, by simp [HNE.out]⟩, Below.refl _ _⟩
end Go.Proofs.YtjcdpccfhpbccaaGreatDoor
