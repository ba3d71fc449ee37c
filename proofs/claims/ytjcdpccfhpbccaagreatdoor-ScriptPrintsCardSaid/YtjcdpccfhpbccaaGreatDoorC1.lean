/-
  The walk of an operation of a line.
-/
import Derived.Test.YtjcdpccfhpbccaaGreatDoorC0
import Derived.Deep.DeepCutAuto
namespace Go.Proofs.YtjcdpccfhpbccaaGreatDoor
open Go.RowKit

theorem plus_ok : ∀ c, (bl ⟨#[43]⟩).contains c = true → c.toNat < 128 := by
  intro c hc
  have : c = 43 := by simpa [bl] using hc
  subst this
  decide
theorem op_info : (Tryz.prog.info? 48).map (·.size) = some 6 := by kernel_rfl
def opCells (k i t a : Int) (n y : List UInt8) : Array Value := #[.int .i64 k, .int .i64 i, .int .i64 t, .int .i64 a, .string ⟨n.toArray⟩, .string ⟨y.toArray⟩]

theorem op_one (k i t a : Int) (n y : List UInt8) : (opCells k i t a n y).all (·.oneCell') = true := by simp [opCells, Value.oneCell']

set_option maxRecDepth 100000 in
set_option maxHeartbeats 1000000 in
theorem operation_nil (l r : Nat) (v : Value) (n : Int) (w : World) (hl : LnW w l r []) (hr : RdAt w r v n) (hrl : r ≠ l) :
    Calls Tryz.prog 67 #[.pointer (some ⟨l, 0, none⟩)] w (OpPost l r n w []) := by
  have HL := Lib.hid hl
  have HR := Lib.hid hr
  clear hl hr
  go_enter Tryz.func67, Tryz.ntmps67
  go_wp2_with fail
  refine (wordW_no l r v n _ (HL.out.mut (Mut.of_below (sh_b2 w _ _) (fun _ => False)) (fun h => h)) (HR.out.mut (Mut.of_below (sh_b2 w _ _) (fun _ => False)) (fun h => h))).mono ?_
  rintro e w' ⟨rfl, rfl⟩
  exact ⟨rfl, op_none rfl ⟨rfl, Mut.of_below (sh_b2 w _ _) _⟩⟩

set_option maxRecDepth 100000 in
set_option maxHeartbeats 2000000 in
theorem operation_cons (l r : Nat) (x : List UInt8) (ws : List (List UInt8)) (k : Nat) (hk8 : k ≤ 8) (hk : kindOf x = k) (v : Value) (n : Int) (w : World) (hG : Glob w) (hl : LnW w l r (x :: ws)) (hr : RdAt w r v n) (hrl : r ≠ l) (hl6 : 6 ≤ l) :
    Calls Tryz.prog 67 #[.pointer (some ⟨l, 0, none⟩)] w (OpPost l r n w (x :: ws)) := by
  have HL := Lib.hid hl
  have HR := Lib.hid hr
  have HK := Lib.hid hk
  have lt1 := hl.lt
  have lt2 := lt_of_block hr
  have h6 := hG.size
  have ek : (1 : Int) + ((k : Int) - 1) = k := by omega
  clear hl hr hk
  go_enter Tryz.func67, Tryz.ntmps67
  go_wp2_with fail
  refine (wordW_yes l r x ws _ (HL.out.mut (Mut.of_below (sh_b2 w _ _) (fun _ => False)) (fun h => h))).mono ?_
  rintro e w1 ⟨rfl, hx, hl1, hm1⟩
  have hs1 : w.heap.size + 2 ≤ w1.heap.size := by have := hm1.size; simp at this; omega
  have HM1 := Lib.hid ((Mut.of_below (sh_b2 w _ _) (· = l)).trans hm1 (fun i hi => .inl hi))
  have HN := Lib.hid (hm1.blk (heap_alloc2_new w _ _) (by show ¬ w.heap.size + 1 = l; omega))
  have HQ := Lib.hid (hm1.blk (heap_alloc2_old w _ _) (by show ¬ w.heap.size = l; omega))
  have HL1 := Lib.hid hl1
  clear hl1 hm1
  go_wp2_with fail
  refine (names_index (w.heap.size + 1) x k HK.out hk8 w1 HN.out).mono ?_
  rintro e w1 ⟨rfl, rfl⟩
  go_upto_if 13 with fail
  have S := Lib.hid (show OpSt w (w1.alloc (.cells (opCells k 0 0 0 [] []) 48)) l r w1.heap.size w.heap.size v n (opCells k 0 0 0 [] []) ws from
    ⟨HL1.out.mut ((Mut.refl (fun _ => False) _).alloc _) (fun h => h), (HR.out.mut HM1.out hrl).mut ((Mut.refl (fun _ => False) _).alloc _) (fun h => h), alloc_new _ _, (hG.mut HM1.out (fun k hk => by omega)).mut ((Mut.refl (fun _ => False) _).alloc _) (fun _ h => h.elim), HM1.out.alloc _, by omega, by omega, hrl, by omega, hl6, by omega, alloc_blk HQ.out _, by omega, by omega, by omega⟩)
  go_cut [] (fun wc => ∃ i ws1, Hid (optNum (decide (4 ≤ k)) ws = some (i, ws1)) ∧ I64 i ∧ Hid (OpSt w wc l r w1.heap.size w.heap.size v n (opCells k i 0 0 [] []) ws1))
  case first =>
    by_cases h4 : 4 ≤ k
    · have b4 : decide ((4 : Int) ≤ k) = true := by simp; omega
      have ho : optNum (decide (4 ≤ k)) ws = pNum ws := by simp [optNum, h4]
      have HO := Lib.hid ho
      clear ho
      go_wp2_with fail
      cases hq : pNum ws with
      | none =>
        refine (number_n l r ws hrl hq v n _ S.out.gl S.out.ln S.out.rd hl6).mono ?_
        rintro e w2 ⟨rfl, hm⟩
        refine ⟨rfl, op_none ?_ ⟨rfl, S.out.mu.trans hm (fun i hi => .inl hi)⟩⟩
        simp [pOp, HK.out, HO.out, hq]
      | some p =>
        obtain ⟨u, ws1⟩ := p
        have hB := pNum_bounds hq
        refine (number_y l r ws ws1 hrl u hq _ S.out.gl S.out.ln hl6).mono ?_
        rintro e w2 ⟨rfl, hl, hm⟩
        have HQ2 := Lib.hid (HO.out.trans hq)
        have S2 := Lib.hid (S.out.next hl hm)
        have z1 := cell_blk S2.out.op 1 (v := .int .i64 0) rfl
        have g1 := froz_blk S2.out.op 1
        clear hl hm hq
        go_wp2_with fail
        go_meet
        exact ⟨u, ws1, HQ2.out, hB, S2.out.set 1 (.int .i64 u)⟩
    · have b4 : decide ((4 : Int) ≤ k) = false := by simp; omega
      go_wp2_with fail
      go_meet
      exact ⟨0, ws, (by show optNum _ _ = _; simp [optNum, h4]), (by unfold I64; omega), S⟩
  case rest =>
    obtain ⟨i, ws1, H1, hi, S1⟩ := hcut
    go_upto_if 18 with fail
    clear S
    go_cut [] (fun wc => ∃ t a ws3, Hid (∃ ws2, optNum (decide (k = 4)) ws1 = some (t, ws2) ∧ optNum (decide (k = 4)) ws2 = some (a, ws3)) ∧ I64 t ∧ I64 a ∧ Hid (OpSt w wc l r w1.heap.size w.heap.size v n (opCells k i t a [] []) ws3))
    case first =>
      by_cases h4 : k = 4
      · have b4 : ((k : Int) == 4) = true := by simp; omega
        have ho : ∀ q, optNum (decide (k = 4)) q = pNum q := fun q => by simp [optNum, h4]
        have HO := Lib.hid ho
        have H4 := Lib.hid h4
        clear ho h4
        go_wp2_with fail
        cases hq : pNum ws1 with
        | none =>
          refine (number_n l r ws1 hrl hq v n _ S1.out.gl S1.out.ln S1.out.rd hl6).mono ?_
          rintro e w2 ⟨rfl, hm⟩
          refine ⟨rfl, op_none ?_ ⟨rfl, S1.out.mu.trans hm (fun i hi => .inl hi)⟩⟩
          simp [pOp, HK.out, H1.out, HO.out, hq]
        | some p =>
          obtain ⟨u, ws2⟩ := p
          have hB := pNum_bounds hq
          refine (number_y l r ws1 ws2 hrl u hq _ S1.out.gl S1.out.ln hl6).mono ?_
          rintro e w2 ⟨rfl, hl, hm⟩
          have HQ2 := Lib.hid ((HO.out ws1).trans hq)
          have S2 := Lib.hid (S1.out.next hl hm)
          clear hl hm hq
          go_wp2_with fail
          cases hq : pNum ws2 with
          | none =>
            refine (number_n l r ws2 hrl hq v n _ S2.out.gl S2.out.ln S2.out.rd hl6).mono ?_
            rintro e w3 ⟨rfl, hm⟩
            refine ⟨rfl, op_none ?_ ⟨rfl, S2.out.mu.trans hm (fun i hi => .inl hi)⟩⟩
            have h2 := HQ2.out
            rw [HO.out] at h2
            simp [pOp, HK.out, H1.out, HO.out, h2, hq]
          | some p =>
            obtain ⟨u2, ws3⟩ := p
            have hB2 := pNum_bounds hq
            refine (number_y l r ws2 ws3 hrl u2 hq _ S2.out.gl S2.out.ln hl6).mono ?_
            rintro e w3 ⟨rfl, hl, hm⟩
            have HQ3 := Lib.hid ((HO.out ws2).trans hq)
            have S3 := Lib.hid (S2.out.next hl hm)
            have z2 := cell_blk S3.out.op 2 (v := .int .i64 0) rfl
            have z3 := cell_blk S3.out.op 3 (v := .int .i64 0) rfl
            have g2 := froz_blk S3.out.op 2
            have g3 := froz_blk S3.out.op 3
            clear hl hm hq
            go_wp2_with fail
            go_meet
            exact ⟨u, u2, ws3, ⟨ws2, HQ2.out, HQ3.out⟩, hB, hB2, (S3.out.set 2 (.int .i64 u)).set 3 (.int .i64 u2)⟩
      · have b4 : ((k : Int) == 4) = false := by simp; omega
        have H4 := Lib.hid h4
        clear h4
        go_wp2_with fail
        go_meet
        exact ⟨0, 0, ws1, ⟨ws1, by simp [optNum, H4.out], by simp [optNum, H4.out]⟩, (by unfold I64; omega), (by unfold I64; omega), S1⟩
    case rest =>
      obtain ⟨t, a, ws3, H23, ht, ha, S3⟩ := hcut
      clear S1
      go_upto_region 7 with fail
      go_cut [34] (fun s wc => s = .bool (shName k) ∧ Hid (OpSt w wc l r w1.heap.size w.heap.size v n (opCells k i t a [] []) ws3))
      case first =>
        have hc : k = 1 ∨ k = 6 ∨ k = 7 ∨ (¬ k = 1 ∧ ¬ k = 6 ∧ ¬ k = 7) := by omega
        rcases hc with rfl | rfl | rfl | ⟨n1, n2, n3⟩
        · go_wp2_with fail
          go_meet
          exact ⟨rfl, S3⟩
        · go_wp2_with fail
          go_meet
          exact ⟨rfl, S3⟩
        · go_wp2_with fail
          go_meet
          exact ⟨rfl, S3⟩
        · have b1 : ((k : Int) == 1) = false := by simp; omega
          have b2 : ((k : Int) == 6) = false := by simp; omega
          have b3 : ((k : Int) == 7) = false := by simp; omega
          go_wp2_with fail
          go_meet
          refine ⟨?_, S3⟩
          have : shName k = false := by unfold shName; split <;> first | omega | rfl
          rw [this]
      case rest =>
        clear S3
        obtain ⟨rfl, S3⟩ := hcut
        go_upto_if 34 with fail
        go_cut [] (fun wc => ∃ nm ws4, Hid (optText (shName k) ws3 = some (nm, ws4)) ∧ nm.length ≤ 4294967280 ∧ Hid (OpSt w wc l r w1.heap.size w.heap.size v n (opCells k i t a nm []) ws4))
        case first =>
          cases hsn : shName k with
          | true =>
            have ho : ∀ q, optText (shName k) q = pText [43] q := fun q => by simp [optText, hsn]
            have HO := Lib.hid ho
            have HSN := Lib.hid hsn
            clear ho hsn
            go_wp2_with fail
            cases hq : pText [43] ws3 with
            | none =>
              refine (text_n l r ws3 ⟨#[43]⟩ plus_ok (by decide) hrl hq v n _ S3.out.ln S3.out.rd).mono ?_
              rintro e w2 ⟨rfl, hm⟩
              refine ⟨rfl, op_none ?_ ⟨rfl, S3.out.mu.trans hm (fun i hi => .inl hi)⟩⟩
              obtain ⟨ws2, h2, h3⟩ := H23.out
              simp [pOp, HK.out, H1.out, HO.out, h2, h3, hq]
            | some p =>
              obtain ⟨u, ws4⟩ := p
              refine (text_y l r ws3 ws4 u ⟨#[43]⟩ plus_ok (by decide) hq _ S3.out.ln).mono ?_
              rintro e w2 ⟨rfl, hl, hm⟩
              have HQ2 := Lib.hid ((HO.out ws3).trans hq)
              have hul := text_len S3.out.ln hq
              have S2 := Lib.hid (S3.out.next hl hm)
              have z4 := cell_blk S2.out.op 4 (v := .string ⟨#[]⟩) rfl
              have g4 := froz_blk S2.out.op 4
              clear hl hm hq
              go_wp2_with fail
              go_meet
              exact ⟨u, ws4, HQ2.out, hul, S2.out.set 4 (.string ⟨u.toArray⟩)⟩
          | false =>
            have HSN := Lib.hid hsn
            clear hsn
            go_wp2_with fail
            go_meet
            exact ⟨[], ws3, by show optText _ _ = _; simp [optText, HSN.out], by simp, S3⟩
        case rest =>
          obtain ⟨nm, ws4, H4, hnm, S4⟩ := hcut
          clear S3
          go_upto_region 9 with fail
          go_cut [51] (fun s wc => s = .bool (shText k) ∧ Hid (OpSt w wc l r w1.heap.size w.heap.size v n (opCells k i t a nm []) ws4))
          case first =>
            have hc : k = 2 ∨ k = 3 ∨ k = 6 ∨ k = 8 ∨ (¬ k = 2 ∧ ¬ k = 3 ∧ ¬ k = 6 ∧ ¬ k = 8) := by omega
            rcases hc with rfl | rfl | rfl | rfl | ⟨n1, n2, n3, n4⟩
            · go_wp2_with fail
              go_meet
              exact ⟨rfl, S4⟩
            · go_wp2_with fail
              go_meet
              exact ⟨rfl, S4⟩
            · go_wp2_with fail
              go_meet
              exact ⟨rfl, S4⟩
            · go_wp2_with fail
              go_meet
              exact ⟨rfl, S4⟩
            · have b1 : ((k : Int) == 2) = false := by simp; omega
              have b2 : ((k : Int) == 3) = false := by simp; omega
              have b3 : ((k : Int) == 6) = false := by simp; omega
              have b4 : ((k : Int) == 8) = false := by simp; omega
              go_wp2_with fail
              go_meet
              refine ⟨?_, S4⟩
              have : shText k = false := by unfold shText; split <;> first | omega | rfl
              rw [this]
          case rest =>
            clear S4
            obtain ⟨rfl, S4⟩ := hcut
            go_upto_if 51 with fail
            go_cut [] (fun wc => ∃ tx ws5, Hid (optText (shText k) ws4 = some (tx, ws5)) ∧ tx.length ≤ 4294967280 ∧ Hid (OpSt w wc l r w1.heap.size w.heap.size v n (opCells k i t a nm tx) ws5))
            case first =>
              cases hsn : shText k with
              | true =>
                have ho : ∀ q, optText (shText k) q = pText [43] q := fun q => by simp [optText, hsn]
                have HO := Lib.hid ho
                have HSN := Lib.hid hsn
                clear ho hsn
                go_wp2_with fail
                cases hq : pText [43] ws4 with
                | none =>
                  refine (text_n l r ws4 ⟨#[43]⟩ plus_ok (by decide) hrl hq v n _ S4.out.ln S4.out.rd).mono ?_
                  rintro e w2 ⟨rfl, hm⟩
                  refine ⟨rfl, op_none ?_ ⟨rfl, S4.out.mu.trans hm (fun i hi => .inl hi)⟩⟩
                  obtain ⟨ws2, h2, h3⟩ := H23.out
                  simp [pOp, HK.out, H1.out, HO.out, h2, h3, H4.out, hq]
                | some p =>
                  obtain ⟨u, ws5⟩ := p
                  refine (text_y l r ws4 ws5 u ⟨#[43]⟩ plus_ok (by decide) hq _ S4.out.ln).mono ?_
                  rintro e w2 ⟨rfl, hl, hm⟩
                  have HQ2 := Lib.hid ((HO.out ws4).trans hq)
                  have hul := text_len S4.out.ln hq
                  have S2 := Lib.hid (S4.out.next hl hm)
                  have z5 := cell_blk S2.out.op 5 (v := .string ⟨#[]⟩) rfl
                  have g5 := froz_blk S2.out.op 5
                  clear hl hm hq
                  go_wp2_with fail
                  go_meet
                  exact ⟨u, ws5, HQ2.out, hul, S2.out.set 5 (.string ⟨u.toArray⟩)⟩
              | false =>
                have HSN := Lib.hid hsn
                clear hsn
                go_wp2_with fail
                go_meet
                exact ⟨[], ws4, by show optText _ _ = _; simp [optText, HSN.out], by simp, S4⟩
            case rest =>
              obtain ⟨tx, ws5, H5, htx, S5⟩ := hcut
              clear S4
              have hpo : pOp (x :: ws) = if mayB k i t a ⟨nm.toArray⟩ ⟨tx.toArray⟩ then some (⟨k, i, t, a, ⟨nm.toArray⟩, ⟨tx.toArray⟩⟩, ws5) else none := by
                obtain ⟨ws2, h2, h3⟩ := H23.out
                simp [pOp, HK.out, H1.out, h2, h3, H4.out, H5.out]
              have HPO := Lib.hid hpo
              have z0 := cell_blk S5.out.op 0 (v := .int .i64 k) rfl
              have z1 := cell_blk S5.out.op 1 (v := .int .i64 i) rfl
              have z2 := cell_blk S5.out.op 2 (v := .int .i64 t) rfl
              have z3 := cell_blk S5.out.op 3 (v := .int .i64 a) rfl
              have z4 := cell_blk S5.out.op 4 (v := .string ⟨nm.toArray⟩) rfl
              have z5 := cell_blk S5.out.op 5 (v := .string ⟨tx.toArray⟩) rfl
              clear hpo
              go_wp2_with fail
              refine (may_any k i t a ⟨nm.toArray⟩ ⟨tx.toArray⟩ (by rw [size_mk]; omega) (by rw [size_mk]; omega) wc).mono ?_
              rintro e w2 ⟨rfl, hb⟩
              have S6 := Lib.hid (S5.out.below hb)
              clear hb S5 z0 z1 z2 z3 z4 z5
              have c0 := S6.out.ln.c0
              cases hm : mayB k i t a ⟨nm.toArray⟩ ⟨tx.toArray⟩ with
              | false =>
                have HM := Lib.hid hm
                clear hm
                go_wp2_with fail
                refine (give_any r v n w2 S6.out.rd).mono ?_
                rintro e w4 ⟨rfl, rfl⟩
                exact ⟨rfl, op_none (by rw [HPO.out, HM.out]; rfl) ⟨rfl, S6.out.mu⟩⟩
              | true =>
                have HM := Lib.hid hm
                clear hm
                have z0 := cell_blk S6.out.op 0 (v := .int .i64 k) rfl
                have z1 := cell_blk S6.out.op 1 (v := .int .i64 i) rfl
                have z2 := cell_blk S6.out.op 2 (v := .int .i64 t) rfl
                have z3 := cell_blk S6.out.op 3 (v := .int .i64 a) rfl
                have z4 := cell_blk S6.out.op 4 (v := .string ⟨nm.toArray⟩) rfl
                have z5 := cell_blk S6.out.op 5 (v := .string ⟨tx.toArray⟩) rfl
                go_wp2_with (refine wpList_store_row rfl 48 _ _ rfl w.heap.size (opCells k i t a nm tx) rfl rfl 48 opZero S6.out.rs op_info rfl (op_one _ _ _ _ _ _) ?_)
                refine bodyPost_ret (v := .agg (opCells k i t a nm tx)) (results_cell_row rfl _ _ w.heap.size 48 (opCells k i t a nm tx) (0, 0) _ rfl (setRow_heap w2 w.heap.size opZero _ _ _ S6.out.rs) Tryz.underlying48 rfl op_info) rfl ?_
                refine op_some (by rw [HPO.out, HM.out]; rfl) ⟨rfl, ?_, ?_⟩
                · exact S6.out.ln.mut ((Mut.refl (fun k => k = w.heap.size) w2).setRow (.inl rfl) _) (fun h => S6.out.ql h.symm)
                · exact S6.out.mu.setRow (.inr S6.out.qw) _

theorem operation_any (l r : Nat) (ws : List (List UInt8)) (v : Value) (n : Int) (w : World) (hG : Glob w) (hl : LnW w l r ws) (hr : RdAt w r v n) (hrl : r ≠ l) (hl6 : 6 ≤ l) :
    Calls Tryz.prog 67 #[.pointer (some ⟨l, 0, none⟩)] w (OpPost l r n w ws) := by
  cases ws with
  | nil => exact operation_nil l r v n w hl hr hrl
  | cons x ws =>
    obtain ⟨k, hk8, hk⟩ := kindOf_range x
    exact operation_cons l r x ws k hk8 hk v n w hG hl hr hrl hl6
end Go.Proofs.YtjcdpccfhpbccaaGreatDoor
