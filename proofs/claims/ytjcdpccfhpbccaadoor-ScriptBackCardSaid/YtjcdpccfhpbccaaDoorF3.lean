/-
  The walks that compare: calls, rows of calls, rows of rows, picks.
-/
import Derived.Test.YtjcdpccfhpbccaaDoorF2
namespace Go.Proofs.YtjcdpccfhpbccaaDoor
open Go.RowKit Go.Proofs.YtjcdpccfhpbccaaDoorW.PrintWords

theorem q_ext {x y : QD} : x = y ↔ x.k = y.k ∧ x.i = y.i ∧ x.b = y.b ∧ x.x = y.x := by
  constructor
  · rintro rfl; exact ⟨rfl, rfl, rfl, rfl⟩
  · obtain ⟨a, b, c, d⟩ := x
    obtain ⟨a', b', c', d'⟩ := y
    rintro ⟨h1, h2, h3, h4⟩
    dsimp only at h1 h2 h3 h4
    subst h1 h2 h3 h4
    rfl
set_option maxRecDepth 100000 in
set_option maxHeartbeats 1000000 in
theorem cmp_q (x y : QD) : ∃ b, (b = true ↔ x = y) ∧ ∀ w, (binOp .eql 46 (.agg #[.int .i64 x.k, .int .i64 x.i, .int .i64 x.b, .string x.x]) (.agg #[.int .i64 y.k, .int .i64 y.i, .int .i64 y.b, .string y.x])).run Tryd.prog w = .ok (.bool b) w := by
  have hp : Tryd.prog.stoodInHeld 46 = false := by kernel_rfl
  by_cases h1 : x.k = y.k
  · by_cases h2 : x.i = y.i
    · by_cases h3 : x.b = y.b
      · by_cases h6 : x.x = y.x
        · refine ⟨true, by simp [q_ext, h1, h2, h3, h6], fun w => ?_⟩
          rw [h1, h2, h3, h6]
          simp [go_sem, hp, Tryd.underlying46]
        · refine ⟨false, by simp [q_ext, h6], fun w => ?_⟩
          have t6 := bytes_ne h6
          rw [h1, h2, h3]
          simp [go_sem, hp, t6, Tryd.underlying46]
      · refine ⟨false, by simp [q_ext, h3], fun w => ?_⟩
        have t3 : (x.b == y.b) = false := beq_eq_false_iff_ne.2 h3
        rw [h1, h2]
        simp [go_sem, hp, t3, Tryd.underlying46]
    · refine ⟨false, by simp [q_ext, h2], fun w => ?_⟩
      have t2 : (x.i == y.i) = false := beq_eq_false_iff_ne.2 h2
      rw [h1]
      simp [go_sem, hp, t2, Tryd.underlying46]
  · refine ⟨false, by simp [q_ext, h1], fun w => ?_⟩
    have t1 : (x.k == y.k) = false := beq_eq_false_iff_ne.2 h1
    simp [go_sem, hp, t1, Tryd.underlying46]
theorem c_ext {x y : CallD} : x = y ↔ x.k = y.k ∧ x.q = y.q ∧ x.ops = y.ops := by
  constructor
  · rintro rfl; exact ⟨rfl, rfl, rfl⟩
  · obtain ⟨a, b, c⟩ := x
    obtain ⟨a', b', c'⟩ := y
    rintro ⟨h1, h2, h3⟩
    dsimp only at h1 h2 h3
    subst h1 h2 h3
    rfl
def cdV (c : CallD) (A : Option Addr) (k : Nat) : Value := .agg #[.int .i64 c.k, .slice A c.ops.length k, .int .i64 c.q.k, .int .i64 c.q.i, .int .i64 c.q.b, .string c.q.x]
theorem EqPost.imp {P Q : Prop} {e : Ending} (h : EqPost P e) (hpq : P ↔ Q) : EqPost Q e := by
  obtain ⟨r, h1, h2⟩ := h
  exact ⟨r, h1, h2.trans hpq⟩

set_option maxRecDepth 100000 in
set_option maxHeartbeats 2000000 in
theorem same_any (c d : CallD) (A1 A2 : Option Addr) (k1 k2 : Nat) (w : World) (hx : kOp.C w A1 c.ops.length c.ops) (hy : kOp.C w A2 d.ops.length d.ops) (hn : c.ops.length ≤ 4294967296) :
    Calls Tryd.prog 26 #[cdV c A1 k1, cdV d A2 k2] w fun e w' => EqPost (c = d) e ∧ Below w.heap.size w w' := by
  have HX := Lib.hid hx
  have HY := Lib.hid hy
  have HN := Lib.hid hn
  have HB := Lib.hid (show ∀ o o', Below w.heap.size w ((w.alloc o).alloc o') from fun o o' => ((Below.refl _ _).alloc (Nat.le_refl _) o).alloc (by simp) o')
  obtain ⟨b, hb, hc⟩ := cmp_q c.q d.q
  clear hx hy hn
  unfold cdV
  by_cases h1 : c.k = d.k
  · have t1 : (c.k == d.k) = true := by rw [h1]; simp
    have H1 := Lib.hid h1
    clear h1
    cases b with
    | false =>
      have HNE := Lib.hid (show ¬ c = d from fun h => by have := hb.2 (c_ext.1 h).2.1; cases this)
      clear hb
      go_enter Tryd.func26, Tryd.ntmps26
      go_wp2_with fail
      go_ret
      exact ⟨⟨false, rfl, by simp [HNE.out]⟩, HB.out _ _⟩
    | true =>
      have HQ := Lib.hid (hb.1 rfl)
      clear hb
      go_enter Tryd.func26, Tryd.ntmps26
      go_wp2_with fail
      refine (equalOps_any A1 A2 k1 k2 c.ops d.ops _ (Kd.C_below HX.out (HB.out _ _)) (Kd.C_below HY.out (HB.out _ _)) HN.out).mono ?_
      rintro e w2 ⟨⟨r, rfl, hr⟩, hb2⟩
      have HR := Lib.hid (And.intro hr hb2)
      clear hr hb2
      go_wp2_with fail
      go_ret
      exact ⟨⟨r, rfl, by rw [c_ext, HR.out.1]; simp [H1.out, HQ.out]⟩, (HB.out _ _).trans (HR.out.2.mono (by simp; omega))⟩
  · have t1 : (c.k == d.k) = false := beq_eq_false_iff_ne.2 h1
    have HNE := Lib.hid (show ¬ c = d from fun h => h1 (c_ext.1 h).1)
    clear h1
    go_enter Tryd.func26, Tryd.ntmps26
    go_wp2_with fail
    go_ret
    exact ⟨⟨false, rfl, by simp [HNE.out]⟩, HB.out _ _⟩
end Go.Proofs.YtjcdpccfhpbccaaDoor
