/-
  The walk of the document's own text of a call.
-/
import Derived.Test.YtjcdpccfhpbccaaGreatDoorR2
import Derived.Test.YtjcdpccfhpbccaaGreatDoorQ2
namespace Go.Proofs.YtjcdpccfhpbccaaGreatDoor
open Go.RowKit Go.Proofs.YtjcdpccfhpbccaaGreatDoorW.PrintWords

structure PHeld (w0 : World) (cb : Nat) (cs : Array Value) (W : World) : Prop where
  bx : W.heap[cb]? = some (.cells cs 74 (0, 0))
  be : Below w0.heap.size w0 W
theorem PHeld.below {w0 W W1 : World} {cb : Nat} {cs : Array Value} (h : PHeld w0 cb cs W) (hb : Below W.heap.size W W1) : PHeld w0 cb cs W1 :=
  ⟨(hb.block _ (lt_of_block h.bx)).trans h.bx, h.be.trans (hb.mono h.be.size)⟩
theorem PHeld.loads {w0 W : World} {cb : Nat} {ck qk qi qb : Int} {ops : List OpD} {qx : ByteArray} {A : Option Addr} {cap : Nat} (h : PHeld w0 cb #[.int .i64 ck, .slice A ops.length cap, .int .i64 qk, .int .i64 qi, .int .i64 qb, .string qx] W) : W.cell? ⟨cb, 0, none⟩ = some (.int .i64 ck) ∧ W.cell? ⟨cb, 1, none⟩ = some (.slice A ops.length cap) ∧ W.cell? ⟨cb, 2, none⟩ = some (.int .i64 qk) ∧ W.cell? ⟨cb, 3, none⟩ = some (.int .i64 qi) ∧ W.cell? ⟨cb, 4, none⟩ = some (.int .i64 qb) ∧ W.cell? ⟨cb, 5, none⟩ = some (.string qx) ∧ Hid (PHeld w0 cb #[.int .i64 ck, .slice A ops.length cap, .int .i64 qk, .int .i64 qi, .int .i64 qb, .string qx] W) :=
  ⟨cell_blk h.bx 0 rfl, cell_blk h.bx 1 rfl, cell_blk h.bx 2 rfl, cell_blk h.bx 3 rfl, cell_blk h.bx 4 rfl, cell_blk h.bx 5 rfl, Lib.hid h⟩
theorem digits_held {w0 W : World} {cb : Nat} {ck qk qi qb : Int} {ops : List OpD} {qx : ByteArray} {A : Option Addr} {cap : Nat} (v : Int) (hv : I64 v) (h : W.cell? ⟨cb, 0, none⟩ = some (.int .i64 ck) ∧ W.cell? ⟨cb, 1, none⟩ = some (.slice A ops.length cap) ∧ W.cell? ⟨cb, 2, none⟩ = some (.int .i64 qk) ∧ W.cell? ⟨cb, 3, none⟩ = some (.int .i64 qi) ∧ W.cell? ⟨cb, 4, none⟩ = some (.int .i64 qb) ∧ W.cell? ⟨cb, 5, none⟩ = some (.string qx) ∧ Hid (PHeld w0 cb #[.int .i64 ck, .slice A ops.length cap, .int .i64 qk, .int .i64 qi, .int .i64 qb, .string qx] W)) :
    Calls Tryz.prog 36 #[.int .i64 v] W fun e w' => e = .returned (.string ⟨(Lib.itoa v).toArray⟩) ∧ w'.cell? ⟨cb, 0, none⟩ = some (.int .i64 ck) ∧ w'.cell? ⟨cb, 1, none⟩ = some (.slice A ops.length cap) ∧ w'.cell? ⟨cb, 2, none⟩ = some (.int .i64 qk) ∧ w'.cell? ⟨cb, 3, none⟩ = some (.int .i64 qi) ∧ w'.cell? ⟨cb, 4, none⟩ = some (.int .i64 qb) ∧ w'.cell? ⟨cb, 5, none⟩ = some (.string qx) ∧ Hid (PHeld w0 cb #[.int .i64 ck, .slice A ops.length cap, .int .i64 qk, .int .i64 qi, .int .i64 qb, .string qx] w') := by
  refine (digits_any v hv W).mono ?_
  rintro e w' ⟨he, hb⟩
  exact ⟨he, (h.2.2.2.2.2.2.out.below hb).loads⟩
theorem pend {w0 W : World} {cb : Nat} {ck qk qi qb : Int} {ops : List OpD} {qx : ByteArray} {A : Option Addr} {cap : Nat} (h : W.cell? ⟨cb, 0, none⟩ = some (.int .i64 ck) ∧ W.cell? ⟨cb, 1, none⟩ = some (.slice A ops.length cap) ∧ W.cell? ⟨cb, 2, none⟩ = some (.int .i64 qk) ∧ W.cell? ⟨cb, 3, none⟩ = some (.int .i64 qi) ∧ W.cell? ⟨cb, 4, none⟩ = some (.int .i64 qb) ∧ W.cell? ⟨cb, 5, none⟩ = some (.string qx) ∧ Hid (PHeld w0 cb #[.int .i64 ck, .slice A ops.length cap, .int .i64 qk, .int .i64 qi, .int .i64 qb, .string qx] W)) : PHeld w0 cb #[.int .i64 ck, .slice A ops.length cap, .int .i64 qk, .int .i64 qi, .int .i64 qb, .string qx] W := h.2.2.2.2.2.2.out
/-- A region's ends, that differ in the world alone: shown once. -/
theorem Holds.via2 {G : World → Prop} {P : World → Prop} {R : Prop} (h : (∀ W, P W → Holds (G W)) → R) (g : ∀ W, P W → G W) : R := h (fun W hp => ⟨g W hp⟩)
set_option maxRecDepth 100000 in
set_option maxHeartbeats 4000000 in
theorem rprinted_go (ck qk qi qb : Int) (ops : List OpD) (qx : ByteArray) (A : Option Addr) (cap : Nat) (w0 : World) (hC : kOp.C w0 A ops.length ops) (hok : CallOk (⟨ck, ops, ⟨qk, qi, qb, qx⟩⟩ : CallD)) (hlen : (tText (⟨ck, ops, ⟨qk, qi, qb, qx⟩⟩ : CallD)).length ≤ 4294967200) (hn : ops.length ≤ 4294967296) :
    Calls Tryz.prog 37 #[.agg #[.int .i64 ck, .slice A ops.length cap, .int .i64 qk, .int .i64 qi, .int .i64 qb, .string qx]] w0 fun e w' => e = .returned (.string ⟨(tText (⟨ck, ops, ⟨qk, qi, qb, qx⟩⟩ : CallD)).toArray⟩) ∧ Below w0.heap.size w0 w' := by
  have l1 := Lib.itoa_length_le qk hok.k.1 hok.k.2
  have l2 := Lib.itoa_length_le qi hok.i.1 hok.i.2
  have l3 := Lib.itoa_length_le qb hok.b.1 hok.b.2
  have s1 := size_mk (Lib.itoa qk)
  have s2 := size_mk (Lib.itoa qi)
  have s3 := size_mk (Lib.itoa qb)
  have hx : qx.size ≤ 4294967280 := hok.x
  obtain ⟨T1, h1⟩ : ∃ T : ByteArray, ⟨(Lib.itoa qk).toArray⟩ = T := ⟨_, rfl⟩
  obtain ⟨T2, h2⟩ : ∃ T : ByteArray, ⟨(Lib.itoa qi).toArray⟩ = T := ⟨_, rfl⟩
  obtain ⟨T3, h3⟩ : ∃ T : ByteArray, ⟨(Lib.itoa qb).toArray⟩ = T := ⟨_, rfl⟩
  rw [h1] at s1
  rw [h2] at s2
  rw [h3] at s3
  have z1 : T1.size ≤ 21 := by omega
  have z2 : T2.size ≤ 21 := by omega
  have z3 : T3.size ≤ 21 := by omega
  have H1 := Lib.hid (And.intro hok.k h1)
  have H2 := Lib.hid (And.intro hok.i h2)
  have H3 := Lib.hid (And.intro hok.b h3)
  have HOK := Lib.hid hok
  have HC := Lib.hid hC
  have HLEN := Lib.hid hlen
  have HN := Lib.hid hn
  have HQ := Lib.hid (show bl (⟨#[32]⟩ ++ T1 ++ ⟨#[32]⟩ ++ T2 ++ ⟨#[32]⟩ ++ T3 ++ ⟨#[32, 91]⟩ ++ qx ++ ⟨#[93]⟩ : ByteArray) = qText ⟨qk, qi, qb, qx⟩ by
    rw [← h1, ← h2, ← h3]
    simp [qText, bl, ByteArray.data_append])
  have HZ := Lib.hid (And.intro z1 (And.intro z2 (And.intro z3 hx)))
  have n1 : ¬9223372036854775807 < 1 + T1.size := by omega
  have n2 : ¬9223372036854775807 < 1 + T1.size + 1 := by omega
  have n3 : ¬9223372036854775807 < 1 + T1.size + 1 + T2.size := by omega
  have n4 : ¬9223372036854775807 < 1 + T1.size + 1 + T2.size + 1 := by omega
  have n5 : ¬9223372036854775807 < 1 + T1.size + 1 + T2.size + 1 + T3.size := by omega
  have n6 : ¬9223372036854775807 < 1 + T1.size + 1 + T2.size + 1 + T3.size + 2 := by omega
  have n7 : ¬9223372036854775807 < 1 + T1.size + 1 + T2.size + 1 + T3.size + 2 + qx.size := by omega
  have n8 : ¬9223372036854775807 < 1 + T1.size + 1 + T2.size + 1 + T3.size + 2 + qx.size + 1 := by omega
  clear l1 l2 l3 s1 s2 s3 hx z1 z2 z3 h1 h2 h3 hC hok hlen hn
  go_enter Tryz.func37, Tryz.ntmps37
  go_wp2_with fail
  generalize hW : World.alloc w0 _ = w1
  obtain ⟨cb, hcb⟩ : ∃ cb, w0.heap.size = cb := ⟨_, rfl⟩
  have hb0 : w1.heap[cb]? = some (.cells #[.int .i64 ck, .slice A ops.length cap, .int .i64 qk, .int .i64 qi, .int .i64 qb, .string qx] 74 (0, 0)) := by rw [← hW, ← hcb]; exact alloc_new _ _
  have hbe : Below w0.heap.size w0 w1 := by rw [← hW]; exact (Below.refl _ _).alloc (Nat.le_refl _) _
  have hS0 : PHeld w0 cb #[.int .i64 ck, .slice A ops.length cap, .int .i64 qk, .int .i64 qi, .int .i64 qb, .string qx] w1.drew := PHeld.mk (blk_drew hb0) (below_drewN hbe 1)
  rw [hcb]
  clear hW hcb hb0 hbe
  have HS0 := Lib.hid hS0
  have hS1 := hS0.loads
  clear hS0
  apply Holds.via2 (P := fun W => W.cell? ⟨cb, 0, none⟩ = some (.int .i64 ck) ∧ W.cell? ⟨cb, 1, none⟩ = some (.slice A ops.length cap) ∧ W.cell? ⟨cb, 2, none⟩ = some (.int .i64 qk) ∧ W.cell? ⟨cb, 3, none⟩ = some (.int .i64 qi) ∧ W.cell? ⟨cb, 4, none⟩ = some (.int .i64 qb) ∧ W.cell? ⟨cb, 5, none⟩ = some (.string qx) ∧ Hid (PHeld w0 cb #[.int .i64 ck, .slice A ops.length cap, .int .i64 qk, .int .i64 qi, .int .i64 qb, .string qx] W))
  case h =>
    intro KEY
    go_region_held3 (fun w' => w'.cell? ⟨cb, 0, none⟩ = some (.int .i64 ck) ∧ w'.cell? ⟨cb, 1, none⟩ = some (.slice A ops.length cap) ∧ w'.cell? ⟨cb, 2, none⟩ = some (.int .i64 qk) ∧ w'.cell? ⟨cb, 3, none⟩ = some (.int .i64 qi) ∧ w'.cell? ⟨cb, 4, none⟩ = some (.int .i64 qb) ∧ w'.cell? ⟨cb, 5, none⟩ = some (.string qx) ∧ Hid (PHeld w0 cb #[.int .i64 ck, .slice A ops.length cap, .int .i64 qk, .int .i64 qi, .int .i64 qb, .string qx] w'))
      (first | exact hS1 | assumption)
      (first
        | (go_at_call 36; with_reducible refine Calls.mono (digits_held (w0 := w0) (cb := cb) (ck := ck) (qk := qk) (qi := qi) (qb := qb) (ops := ops) (qx := qx) (A := A) (cap := cap) qk H1.out.1 (by assumption)) ?_; rintro e w2 ⟨rfl, hS2⟩; rw [H1.out.2])
        | (go_at_call 36; with_reducible refine Calls.mono (digits_held (w0 := w0) (cb := cb) (ck := ck) (qk := qk) (qi := qi) (qb := qb) (ops := ops) (qx := qx) (A := A) (cap := cap) qi H2.out.1 (by assumption)) ?_; rintro e w2 ⟨rfl, hS2⟩; rw [H2.out.2])
        | (go_at_call 36; with_reducible refine Calls.mono (digits_held (w0 := w0) (cb := cb) (ck := ck) (qk := qk) (qi := qi) (qb := qb) (ops := ops) (qx := qx) (A := A) (cap := cap) qb H3.out.1 (by assumption)) ?_; rintro e w2 ⟨rfl, hS2⟩; rw [H3.out.2]))
    all_goals exact (KEY _ (by assumption)).out
  case g =>
    intro w2 hS
    have HP := Lib.hid (pend hS)
    clear hS hS1 HS0 n1 n2 n3 n4 n5 n6 n7 n8
    obtain ⟨QT, hQT⟩ : ∃ QT : ByteArray, ⟨#[32]⟩ ++ T1 ++ ⟨#[32]⟩ ++ T2 ++ ⟨#[32]⟩ ++ T3 ++ ⟨#[32, 91]⟩ ++ qx ++ ⟨#[93]⟩ = QT := ⟨_, rfl⟩
    have HQT := Lib.hid (show bl QT = qText ⟨qk, qi, qb, qx⟩ by rw [← hQT]; exact HQ.out)
    have hqz : QT.size ≤ 4294968000 := by
      have := HZ.out
      rw [← hQT]
      have e1 : (⟨#[32]⟩ : ByteArray).size = 1 := rfl
      have e2 : (⟨#[32, 91]⟩ : ByteArray).size = 2 := rfl
      have e3 : (⟨#[93]⟩ : ByteArray).size = 1 := rfl
      simp only [ByteArray.size_append, e1, e2, e3]
      omega
    have n1 : ¬ 9223372036854775807 < 4 + QT.size := by omega
    have n2 : ¬ 9223372036854775807 < 3 + QT.size := by omega
    have y0 := cell_blk HP.out.bx 0 (v := .int .i64 ck) rfl
    rw [hQT]
    clear hQT
    by_cases h1 : ck = 1
    · subst h1
      have HTX := Lib.hid (show tText (⟨1, ops, ⟨qk, qi, qb, qx⟩⟩ : CallD) = [115, 117, 98, 109, 105, 116] ++ opsText ops by rw [tText, if_pos rfl])
      go_wp2_with fail
      clear y0
      go_loopg [4, 5] ops.length (fun k s4 s5 wr => ∃ (i : Nat) (T : ByteArray), k + i = ops.length ∧ s5 = .int .i64 i ∧ s4 = .string T ∧ Hid (bl T = [115, 117, 98, 109, 105, 116] ++ opsText (ops.take i)) ∧ Hid (PHeld w0 cb #[.int .i64 1, .slice A ops.length cap, .int .i64 qk, .int .i64 qi, .int .i64 qb, .string qx] wr))
      case atStart => exact ⟨0, ⟨#[115, 117, 98, 109, 105, 116]⟩, by omega, rfl, rfl, Lib.hid (by simp [opsText]), HP⟩
      case round =>
        clear HP
        obtain ⟨i, T, hki, rfl, rfl, HT, HP⟩ := hrel
        have y1 := cell_blk HP.out.bx 1 (v := .slice A ops.length cap) rfl
        cases gk with
        | zero =>
          have hlt : ¬ ((i : Int) < (ops.length : Int)) := by omega
          have HF := Lib.hid (show (⟨(tText (⟨1, ops, ⟨qk, qi, qb, qx⟩⟩ : CallD)).toArray⟩ : ByteArray) = T by
            have h2 := HT.out
            rw [List.take_of_length_le (by omega)] at h2
            rw [HTX.out, ← h2, mk_bl])
          go_wp2_with fail
          go_ret
          exact ⟨by rw [HF.out]; rfl, HP.out.be⟩
        | succ gk =>
          have hlt : (i : Int) < (ops.length : Int) := by omega
          obtain ⟨o, ho⟩ : ∃ o, ops[i]? = some o := ⟨_, List.getElem?_eq_getElem (by omega)⟩
          obtain ⟨ad3, rfl, e7⟩ := op_cells HC.out i (by omega) ho
          obtain ⟨⟨b2, o2, p2⟩, hB2⟩ : ∃ B, ad3.add (i * 6) = B := ⟨_, rfl⟩
          rw [hB2] at e7
          have f2 := (e7 _ HP.out.be).1
          have f3 := (e7 _ HP.out.be).2 0 _ rfl
          have f4 := (e7 _ HP.out.be).2 1 _ rfl
          have f5 := (e7 _ HP.out.be).2 2 _ rfl
          have f6 := (e7 _ HP.out.be).2 3 _ rfl
          have f7 := (e7 _ HP.out.be).2 4 _ rfl
          have HOo := Lib.hid (HOK.out.ops o (List.mem_of_getElem? ho))
          obtain ⟨P, hP⟩ : ∃ P : ByteArray, ⟨(oText o).toArray⟩ = P := ⟨_, rfl⟩
          have hPs : bl P = oText o := by rw [← hP]
          have hlenT : (bl T).length + 2 + (bl P).length ≤ 4294967280 := by
            have h1 := HLEN.out
            rw [HTX.out, opsText_at ho] at h1
            rw [HT.out, hPs]
            simp only [List.length_append, List.length_cons, List.length_nil] at h1 ⊢
            omega
          rw [← size_bl, ← size_bl] at hlenT
          have n3 : ¬ 9223372036854775807 < T.size + 2 := by omega
          have n4 : ¬ 9223372036854775807 < T.size + 2 + P.size := by omega
          have q9 : IntKind.i64.wrap ((i : Int) + 1) = (i : Int) + 1 := wrap_next (by have := HN.out; omega)
          have HPP := Lib.hid hP
          have HPS := Lib.hid hPs
          have HTK := Lib.hid (opsText_next ho)
          have HKI := Lib.hid hki
          clear e7 hP hPs hlenT ho hki
          go_wp2_with fail
          refine (rprint6_any o HOo.out _).mono ?_
          rintro e w4 ⟨rfl, hb4⟩
          rw [HPP.out]
          have HP4 := Lib.hid (HP.out.below hb4)
          clear hb4 f2 f3 f4 f5 f6 f7 y1
          go_wp2_with fail
          go_roundg gk
          case measure => omega
          case rel => exact ⟨i + 1, _, by have := HKI.out; omega, rfl, rfl, Lib.hid (by rw [HTK.out, bl_append, bl_append, HPS.out, HT.out]; simp [bl]), HP4⟩
    have t1 : (ck == 1) = false := beq_eq_false_iff_ne.2 h1
    by_cases h2 : ck = 2
    · subst h2
      have HF := Lib.hid (show (⟨#[114, 101, 97, 100]⟩ ++ QT : ByteArray) = ⟨(tText (⟨2, ops, ⟨qk, qi, qb, qx⟩⟩ : CallD)).toArray⟩ by
        rw [← mk_bl (⟨#[114, 101, 97, 100]⟩ ++ QT), bl_append, HQT.out, tText, if_neg h1, if_pos rfl])
      clear h1 t1
      go_wp2_with fail
      go_ret
      exact ⟨by rw [HF.out]; rfl, HP.out.be⟩
    have t2 : (ck == 2) = false := beq_eq_false_iff_ne.2 h2
    by_cases h4 : ck = 4
    · subst h4
      have HF := Lib.hid (show (⟨#[97, 115, 107]⟩ ++ QT : ByteArray) = ⟨(tText (⟨4, ops, ⟨qk, qi, qb, qx⟩⟩ : CallD)).toArray⟩ by
        rw [← mk_bl (⟨#[97, 115, 107]⟩ ++ QT), bl_append, HQT.out, tText, if_neg h1, if_neg h2, if_pos rfl])
      clear h1 h2 t1 t2
      go_wp2_with fail
      go_ret
      exact ⟨by rw [HF.out]; rfl, HP.out.be⟩
    have t4 : (ck == 4) = false := beq_eq_false_iff_ne.2 h4
    by_cases h3 : ck = 3
    · subst h3
      have HF := Lib.hid (show tText (⟨3, ops, ⟨qk, qi, qb, qx⟩⟩ : CallD) = [111, 112, 101, 110] by rw [tText, if_neg h1, if_neg h2, if_neg h4, if_pos rfl])
      clear h1 h2 h4 t1 t2 t4
      go_wp2_with fail
      go_ret
      exact ⟨by rw [HF.out]; rfl, HP.out.be⟩
    have t3 : (ck == 3) = false := beq_eq_false_iff_ne.2 h3
    by_cases h5 : ck = 5
    · subst h5
      have HF := Lib.hid (show tText (⟨5, ops, ⟨qk, qi, qb, qx⟩⟩ : CallD) = [99, 108, 111, 115, 101] by rw [tText, if_neg h1, if_neg h2, if_neg h4, if_neg h3, if_pos rfl])
      clear h1 h2 h3 h4 t1 t2 t3 t4
      go_wp2_with fail
      go_ret
      exact ⟨by rw [HF.out]; rfl, HP.out.be⟩
    have t5 : (ck == 5) = false := beq_eq_false_iff_ne.2 h5
    have HF := Lib.hid (show tText (⟨ck, ops, ⟨qk, qi, qb, qx⟩⟩ : CallD) = [] by rw [tText, if_neg h1, if_neg h2, if_neg h4, if_neg h3, if_neg h5])
    go_wp2_with fail
    go_ret
    exact ⟨by rw [HF.out]; rfl, HP.out.be⟩
theorem rprinted_any (c : CallD) (A : Option Addr) (cap : Nat) (w0 : World) (hC : kOp.C w0 A c.ops.length c.ops) (hok : CallOk c) (hlen : (tText c).length ≤ 4294967200) (hn : c.ops.length ≤ 4294967296) :
    Calls Tryz.prog 37 #[.agg #[.int .i64 c.k, .slice A c.ops.length cap, .int .i64 c.q.k, .int .i64 c.q.i, .int .i64 c.q.b, .string c.q.x]] w0 fun e w' => e = .returned (.string ⟨(tText c).toArray⟩) ∧ Below w0.heap.size w0 w' :=
  rprinted_go c.k c.q.k c.q.i c.q.b c.ops c.q.x A cap w0 hC hok hlen hn
end Go.Proofs.YtjcdpccfhpbccaaGreatDoor
