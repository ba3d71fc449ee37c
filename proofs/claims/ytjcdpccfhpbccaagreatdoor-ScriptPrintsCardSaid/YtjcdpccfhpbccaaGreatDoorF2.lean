/-
  The walks that compare: rows of operations.
-/
import Derived.Test.YtjcdpccfhpbccaaGreatDoorF1
namespace Go.Proofs.YtjcdpccfhpbccaaGreatDoor
open Go.RowKit Go.Proofs.YtjcdpccfhpbccaaGreatDoorW.PrintWords

theorem told_any (c : CallD) (A : Option Addr) (cap : Nat) (w : World) (hG : Glob w) (hC : kOp.C w A c.ops.length c.ops) (hok : CallOk c) (hlen : (tText c).length ≤ 4294967200) (hn : c.ops.length ≤ 4294967296) :
    Calls Tryz.prog 29 #[.agg #[.int .i64 c.k, .slice A c.ops.length cap, .int .i64 c.q.k, .int .i64 c.q.i, .int .i64 c.q.b, .string c.q.x]] w fun e w' => e = .returned (.string ⟨(tText c).toArray⟩) ∧ Below w.heap.size w w' := by
  obtain ⟨k, ops, q⟩ := c
  by_cases h1 : k = 1
  · subst h1
    refine told_submit A cap ops q w hG hC hok.ops ?_ hn
    have : tText ⟨1, ops, q⟩ = [115, 117, 98, 109, 105, 116] ++ opsText ops := rfl
    rw [this, List.length_append] at hlen
    omega
  · by_cases h2 : k = 2
    · subst h2
      refine told_read (.int .i64 0) q w hG hok.k hok.i hok.b hok.x ?_ ops A cap
      have : tText ⟨2, ops, q⟩ = [114, 101, 97, 100] ++ qText q := rfl
      rw [this, List.length_append] at hlen
      omega
    · by_cases h4 : k = 4
      · subst h4
        refine told_ask (.int .i64 0) q w hG hok.k hok.i hok.b hok.x ?_ ops A cap
        have : tText ⟨4, ops, q⟩ = [97, 115, 107] ++ qText q := rfl
        rw [this, List.length_append] at hlen
        omega
      · exact told_rest k q w h1 h2 h4 ops A cap

theorem addr_succ (B : Addr) (j : Nat) : B.add (j + 1) = ⟨B.block, B.off + (j + 1), none⟩ := by simp [Addr.add]
/-- The cells of a row's element. -/
theorem op_cells {w : World} {A : Option Addr} {n : Nat} {xs : List OpD} (h : kOp.C w A n xs) (i : Nat) (hi : i < n) {o : OpD} (ho : xs[i]? = some o) :
    ∃ ad, A = some ad ∧ ∀ W, Below w.heap.size w W → W.cell? (ad.add (i * 6)) = some (.int .i64 o.k) ∧ (∀ j v, [.int .i64 o.i, .int .i64 o.t, .int .i64 o.a, .string o.n, .string o.x][j]? = some v → W.cell? ⟨(ad.add (i * 6)).block, (ad.add (i * 6)).off + (j + 1), none⟩ = some v) := by
  obtain ⟨ad, c, rfl, hcl, hK, hcell⟩ := Kd.C_get h ⟨0, 0, 0, 0, ⟨#[]⟩, ⟨#[]⟩⟩ i (by omega) (by omega)
  have hget : xs.getD (i : Int).toNat ⟨0, 0, 0, 0, ⟨#[]⟩, ⟨#[]⟩⟩ = o := by
    rw [Int.toNat_natCast, List.getD_eq_getElem?_getD, ho]
    rfl
  rw [hget] at hK
  have hKc := kOp_K hK
  subst hKc
  refine ⟨ad, rfl, fun W hb => ⟨?_, fun j v hj => ?_⟩⟩
  · have h0 := hcell 0 _ rfl
    rw [Int.toNat_natCast, kOp_sz, Nat.add_zero] at h0
    exact (hb.cell (World.block_lt_of_cell? _ _ h0)).trans h0
  · have h0 := hcell (j + 1) v (by simpa using hj)
    rw [Int.toNat_natCast, kOp_sz, addr_add2] at h0
    have h1 : (ad.add (i * 6)).add (j + 1) = ⟨(ad.add (i * 6)).block, (ad.add (i * 6)).off + (j + 1), none⟩ := by
      exact addr_succ _ _
    rw [h1] at h0
    exact (hb.cell (World.block_lt_of_cell? _ _ h0)).trans h0

theorem op_ext {x y : OpD} : x = y ↔ x.k = y.k ∧ x.i = y.i ∧ x.t = y.t ∧ x.a = y.a ∧ x.n = y.n ∧ x.x = y.x := by
  constructor
  · rintro rfl; exact ⟨rfl, rfl, rfl, rfl, rfl, rfl⟩
  · obtain ⟨a, b, c, d, e, f⟩ := x
    obtain ⟨a', b', c', d', e', f'⟩ := y
    rintro ⟨h1, h2, h3, h4, h5, h6⟩
    dsimp only at h1 h2 h3 h4 h5 h6
    subst h1 h2 h3 h4 h5 h6
    rfl
/-- A bool that says whether P. -/
def EqPost (P : Prop) (e : Ending) : Prop := ∃ r : Bool, e = .returned (.bool r) ∧ (r = true ↔ P)
theorem toList_inj {a b : ByteArray} (h : a.toList = b.toList) : a = b := by
  rw [ByteArray.toList_eq, ByteArray.toList_eq] at h
  rw [← mk_bl a, ← mk_bl b]
  exact congrArg (fun l => (⟨List.toArray l⟩ : ByteArray)) h
theorem bytes_ne {a b : ByteArray} (h : a ≠ b) : (a.toList == b.toList) = false := beq_eq_false_iff_ne.2 (fun e => h (toList_inj e))
set_option maxRecDepth 100000 in
set_option maxHeartbeats 1000000 in
theorem cmp_op (x y : OpD) : ∃ b, (b = true ↔ x ≠ y) ∧ ∀ w, (binOp .neq 48 (.agg #[.int .i64 x.k, .int .i64 x.i, .int .i64 x.t, .int .i64 x.a, .string x.n, .string x.x]) (.agg #[.int .i64 y.k, .int .i64 y.i, .int .i64 y.t, .int .i64 y.a, .string y.n, .string y.x])).run Tryz.prog w = .ok (.bool b) w := by
  have hp : Tryz.prog.stoodInHeld 48 = false := by kernel_rfl
  by_cases h1 : x.k = y.k
  · by_cases h2 : x.i = y.i
    · by_cases h3 : x.t = y.t
      · by_cases h4 : x.a = y.a
        · by_cases h5 : x.n = y.n
          · by_cases h6 : x.x = y.x
            · refine ⟨false, by simp [op_ext, h1, h2, h3, h4, h5, h6], fun w => ?_⟩
              rw [h1, h2, h3, h4, h5, h6]
              simp [go_sem, hp, Tryz.underlying48]
            · refine ⟨true, by simp [op_ext, h6], fun w => ?_⟩
              have t6 := bytes_ne h6
              rw [h1, h2, h3, h4, h5]
              simp [go_sem, hp, t6, Tryz.underlying48]
          · refine ⟨true, by simp [op_ext, h5], fun w => ?_⟩
            have t5 := bytes_ne h5
            rw [h1, h2, h3, h4]
            simp [go_sem, hp, t5, Tryz.underlying48]
        · refine ⟨true, by simp [op_ext, h4], fun w => ?_⟩
          have t4 : (x.a == y.a) = false := beq_eq_false_iff_ne.2 h4
          rw [h1, h2, h3]
          simp [go_sem, hp, t4, Tryz.underlying48]
      · refine ⟨true, by simp [op_ext, h3], fun w => ?_⟩
        have t3 : (x.t == y.t) = false := beq_eq_false_iff_ne.2 h3
        rw [h1, h2]
        simp [go_sem, hp, t3, Tryz.underlying48]
    · refine ⟨true, by simp [op_ext, h2], fun w => ?_⟩
      have t2 : (x.i == y.i) = false := beq_eq_false_iff_ne.2 h2
      rw [h1]
      simp [go_sem, hp, t2, Tryz.underlying48]
  · refine ⟨true, by simp [op_ext, h1], fun w => ?_⟩
    have t1 : (x.k == y.k) = false := beq_eq_false_iff_ne.2 h1
    simp [go_sem, hp, t1, Tryz.underlying48]
set_option maxRecDepth 100000 in
set_option maxHeartbeats 2000000 in
theorem equalOps_any (A1 A2 : Option Addr) (c1 c2 : Nat) (xs ys : List OpD) (w : World) (hx : kOp.C w A1 xs.length xs) (hy : kOp.C w A2 ys.length ys) (hn : xs.length ≤ 4294967296) :
    Calls Tryz.prog 59 #[.slice A1 xs.length c1, .slice A2 ys.length c2] w fun e w' => EqPost (xs = ys) e ∧ Below w.heap.size w w' := by
  have HX := Lib.hid hx
  have HY := Lib.hid hy
  have HN := Lib.hid hn
  clear hx hy hn
  by_cases hl : xs.length = ys.length
  · have ht : ((xs.length : Int) != (ys.length : Int)) = false := by simp [hl]
    have HLL := Lib.hid hl
    clear hl
    go_enter Tryz.func59, Tryz.ntmps59
    go_wp2_with fail
    go_loopg [13] xs.length (fun k s13 wr => ∃ (i : Nat), k + i = xs.length ∧ s13 = .int .i64 i ∧ Hid (xs.take i = ys.take i) ∧ Hid (Below w.heap.size w wr))
    case atStart => exact ⟨0, by omega, rfl, Lib.hid (by simp), Lib.hid (Below.refl _ _)⟩
    case round =>
      obtain ⟨i, hki, rfl, HT, HBE⟩ := hrel
      cases gk with
      | zero =>
        have hlt : ¬ ((i : Int) < (xs.length : Int)) := by omega
        go_wp2_with fail
        go_ret
        have h2 := HT.out
        rw [List.take_of_length_le (by omega), List.take_of_length_le (by have := HLL.out; omega)] at h2
        exact ⟨⟨true, rfl, by simp [h2]⟩, HBE.out⟩
      | succ gk =>
        have hlt : (i : Int) < (xs.length : Int) := by omega
        have hlt2 : (i : Int) < (ys.length : Int) := by have := HLL.out; omega
        obtain ⟨x, hx⟩ : ∃ x, xs[i]? = some x := ⟨_, List.getElem?_eq_getElem (by omega)⟩
        obtain ⟨y, hy⟩ : ∃ y, ys[i]? = some y := ⟨_, List.getElem?_eq_getElem (by have := HLL.out; omega)⟩
        obtain ⟨a1, rfl, e1⟩ := op_cells HX.out i (by omega) hx
        obtain ⟨a2, rfl, e2⟩ := op_cells HY.out i (by have := HLL.out; omega) hy
        obtain ⟨⟨b1, o1, p1⟩, hB1⟩ : ∃ B, a1.add (i * 6) = B := ⟨_, rfl⟩
        obtain ⟨⟨b2, o2, p2⟩, hB2⟩ : ∃ B, a2.add (i * 6) = B := ⟨_, rfl⟩
        rw [hB1] at e1
        rw [hB2] at e2
        have HE1 := Lib.hid e1
        have HE2 := Lib.hid e2
        have hd : ∀ q, Below w.heap.size w (wr.drewN q) := fun q => below_drewN HBE.out q
        have x0 := fun q => (HE1.out _ (hd q)).1
        have x1 := fun q => (HE1.out _ (hd q)).2 0 _ rfl
        have x2 := fun q => (HE1.out _ (hd q)).2 1 _ rfl
        have x3 := fun q => (HE1.out _ (hd q)).2 2 _ rfl
        have x4 := fun q => (HE1.out _ (hd q)).2 3 _ rfl
        have x5 := fun q => (HE1.out _ (hd q)).2 4 _ rfl
        have y0 := fun q => (HE2.out _ (hd q)).1
        have y1 := fun q => (HE2.out _ (hd q)).2 0 _ rfl
        have y2 := fun q => (HE2.out _ (hd q)).2 1 _ rfl
        have y3 := fun q => (HE2.out _ (hd q)).2 2 _ rfl
        have y4 := fun q => (HE2.out _ (hd q)).2 3 _ rfl
        have y5 := fun q => (HE2.out _ (hd q)).2 4 _ rfl
        have HH := Lib.hid (And.intro hx hy)
        have q9 : IntKind.i64.wrap ((i : Int) + 1) = (i : Int) + 1 := wrap_next (by have := HN.out; omega)
        clear e1 e2 hx hy hd
        have x0' := x0 0
        have x1' := x1 0
        have x2' := x2 0
        have x3' := x3 0
        have x4' := x4 0
        have x5' := x5 0
        have y0' := y0 0
        have y1' := y1 0
        have y2' := y2 0
        have y3' := y3 0
        have y4' := y4 0
        have y5' := y5 0
        obtain ⟨b, hb, hc⟩ := cmp_op x y
        have HBB := Lib.hid hb
        clear hb
        cases b with
        | true =>
          have hne : xs ≠ ys := by
            rintro rfl
            have h1 := HH.out.1.symm.trans HH.out.2
            injection h1 with h1
            exact HBB.out.1 rfl h1
          have HNE := Lib.hid hne
          clear hne
          go_wp2_with fail
          go_quiet (fail)
          go_wp2_with fail
          go_ret
          exact ⟨⟨false, rfl, by simp [HNE.out]⟩, below_drewN HBE.out _⟩
        | false =>
          have hxy : x = y := by
            by_cases h : x = y
            · exact h
            · exact absurd (HBB.out.2 h) (by simp)
          have HXY := Lib.hid hxy
          clear hxy
          go_wp2_with fail
          go_quiet (fail)
          go_wp2_with fail
          go_roundg gk
          case measure => omega
          case rel => exact ⟨i + 1, by omega, rfl, Lib.hid (by rw [List.take_add_one, List.take_add_one, HH.out.1, HH.out.2, HT.out, HXY.out]), Lib.hid (below_drewN HBE.out _)⟩
  · have ht : ((xs.length : Int) != (ys.length : Int)) = true := by simp [bne]; omega
    have HNE := Lib.hid (show xs ≠ ys from fun h => hl (by rw [h]))
    go_enter Tryz.func59, Tryz.ntmps59
    go_wp2_with fail
    go_ret
    exact ⟨⟨false, rfl, by simp [HNE.out]⟩, Below.refl _ _⟩
end Go.Proofs.YtjcdpccfhpbccaaGreatDoor
