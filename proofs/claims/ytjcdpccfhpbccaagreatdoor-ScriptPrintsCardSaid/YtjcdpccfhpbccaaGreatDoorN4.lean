/-
  The walk of a law's bound on scripts.
-/
import Derived.Test.YtjcdpccfhpbccaaGreatDoorF8
namespace Go.Proofs.YtjcdpccfhpbccaaGreatDoor
open Go.RowKit Go.Proofs.YtjcdpccfhpbccaaGreatDoorW.PrintWords

def tot (l : List (List CallD)) : Nat := (l.map List.length).sum
structure CB (c : CallD) : Prop where
  l : c.ops.length ≤ 25
  x : c.q.x.size ≤ 150
  o : ∀ o ∈ c.ops, o.n.size ≤ 100 ∧ o.x.size ≤ 100
structure Bnd (s : ScrD) : Prop where
  rows : s.calls.length ≤ 8
  n : tot s.calls ≤ 30
  picks : s.picks.length ≤ 300
  c : ∀ row ∈ s.calls, ∀ c ∈ row, CB c
def BndPost (s : ScrD) (e : Ending) : Prop := ∃ r : Bool, e = .returned (.bool r) ∧ (r = true → Bnd s)
theorem tot_next {l : List (List CallD)} {i : Nat} {row : List CallD} (h : l[i]? = some row) : tot (l.take (i + 1)) = tot (l.take i) + row.length := by
  rw [List.take_add_one, h]
  simp [tot]
theorem wrap_wrap (m : Nat) : IntKind.i64.wrap (IntKind.i64.wrap (m : Int) + 1) = IntKind.i64.wrap ((m + 1 : Nat) : Int) := by
  rw [IntKind.wrap_i64, IntKind.wrap_i64, IntKind.wrap_i64]
  omega
theorem wrap_big {n i : Nat} (h : n ≤ 9223372036854775807) (hi : i < n) : IntKind.i64.wrap ((i : Int) + 1) = (i : Int) + 1 := by rw [IntKind.wrap_i64]; omega
theorem tot_le {l : List (List CallD)} {B : Nat} (h : ∀ row ∈ l, row.length ≤ B) : tot l ≤ l.length * B := by
  induction l with
  | nil => simp [tot]
  | cons r l ih =>
    have h1 := ih (fun row hr => h row (by simp [hr]))
    have h2 := h r (by simp)
    simp only [tot, List.map_cons, List.sum_cons, List.length_cons] at h1 ⊢
    rw [Nat.succ_mul]
    omega
theorem take_step {α : Type} {P : α → Prop} {l : List α} {i : Nat} {x : α} (h : l[i]? = some x) (h1 : ∀ y ∈ l.take i, P y) (h2 : P x) : ∀ y ∈ l.take (i + 1), P y := by
  rw [List.take_add_one, h]
  intro y hy
  rcases List.mem_append.1 hy with hy | hy
  · exact h1 y hy
  · simp at hy
    rw [hy]
    exact h2
set_option maxRecDepth 100000 in
set_option maxHeartbeats 4000000 in
theorem bounded_any (s : ScrD) (A1 A2 : Option Addr) (c1 c2 : Nat) (w : World) (hC : kRow.C w A1 s.calls.length s.calls) (hrow : ∀ row ∈ s.calls, row.length ≤ 281474976710656) :
    Calls Tryz.prog 10 #[.agg (scCells s.clients s.shift s.recs s.chunks (.slice A1 s.calls.length c1) (.slice A2 s.picks.length c2))] w fun e w' => BndPost s e ∧ Below w.heap.size w w' := by
  have HC := Lib.hid hC
  have HROWS := Lib.hid hrow
  clear hC hrow
  unfold scCells
  go_enter Tryz.func10, Tryz.ntmps10
  go_wp2_with fail
  generalize hW : World.alloc _ _ = w2
  obtain ⟨b, hb⟩ : ∃ b, w.heap.size = b := ⟨_, rfl⟩
  have HX := Lib.hid (show w2.heap[b]? = some (.cells (scCells s.clients s.shift s.recs s.chunks (.slice A1 s.calls.length c1) (.slice A2 s.picks.length c2)) 28 (0, 0)) by rw [← hW, ← hb]; exact alloc_new _ _)
  have HB2 := Lib.hid (show Below w.heap.size w w2 by rw [← hW]; exact (Below.refl _ _).alloc (Nat.le_refl _) _)
  rw [hb]
  clear hW hb
  have FIN := Lib.hid (show ∀ W : World, Below w.heap.size w W → BndPost s (.returned (.bool false)) ∧ Below w.heap.size w W from fun W hb => ⟨⟨false, rfl, by simp⟩, hb⟩)
  go_loopg [3, 4] s.calls.length (fun k s3 s4 wr => ∃ (i : Nat), k + i = s.calls.length ∧ s4 = .int .i64 i ∧ s3 = .int .i64 (IntKind.i64.wrap (tot (s.calls.take i))) ∧ Hid (∀ row ∈ s.calls.take i, ∀ c ∈ row, CB c) ∧ Hid (Below w2.heap.size w2 wr))
  case atStart => exact ⟨0, by omega, rfl, rfl, Lib.hid (by simp), Lib.hid (Below.refl _ _)⟩
  case round =>
    obtain ⟨i, hki, rfl, rfl, HT, P⟩ := hrel
    have HBW := Lib.hid (HB2.out.trans (P.out.mono HB2.out.size))
    have hxw := (P.out.block _ (lt_of_block HX.out)).trans HX.out
    have y4 := cell_blk hxw 4 (v := .slice A1 s.calls.length c1) rfl
    have y5 := cell_blk hxw 5 (v := .slice A2 s.picks.length c2) rfl
    clear hxw
    cases gk with
    | zero =>
      have hlt : ¬ ((i : Int) < (s.calls.length : Int)) := by omega
      have HT2 := Lib.hid (show ∀ row ∈ s.calls, ∀ c ∈ row, CB c by have h2 := HT.out; rwa [List.take_of_length_le (by omega)] at h2)
      have e1 : tot (s.calls.take i) = tot s.calls := by rw [List.take_of_length_le (by omega)]
      rw [e1]
      obtain ⟨X, hX⟩ : ∃ X, IntKind.i64.wrap (tot s.calls) = X := ⟨_, rfl⟩
      have HXX := Lib.hid hX
      rw [hX]
      clear hX e1 HT
      by_cases h1 : (s.calls.length : Int) ≤ 8
      · by_cases h2 : X ≤ 30
        · by_cases h3 : (s.picks.length : Int) ≤ 300
          · have HBN := Lib.hid (show Bnd s from ⟨by omega, by
              have h4 := tot_le HROWS.out
              have h5 := HXX.out
              rw [IntKind.wrap_i64] at h5
              omega, by omega, HT2.out⟩)
            go_wp2_with fail
            go_ret
            exact ⟨⟨true, rfl, fun _ => HBN.out⟩, HBW.out⟩
          · go_wp2_with fail
            go_ret
            exact FIN.out _ HBW.out
        · go_wp2_with fail
          go_ret
          exact FIN.out _ HBW.out
      · go_wp2_with fail
        go_ret
        exact FIN.out _ HBW.out
    | succ gk0 =>
      have hlt : (i : Int) < (s.calls.length : Int) := by omega
      obtain ⟨row, hrow⟩ : ∃ row, s.calls[i]? = some row := ⟨_, List.getElem?_eq_getElem (by omega)⟩
      obtain ⟨ad1, A5, k5, rfl, hC5, e5⟩ := row_cells HC.out i (by omega) hrow
      have HC5 := Lib.hid hC5
      have HE5 := Lib.hid e5
      have HROW := Lib.hid hrow
      have HKI := Lib.hid hki
      have q9 : IntKind.i64.wrap ((i : Int) + 1) = (i : Int) + 1 := wrap_big (Kd.C_max HC.out) (by omega)
      clear e5 hC5 hrow hki y5
      go_wp2_with fail
      clear y4
      go_loopg [3, 5] row.length (fun k s3 s5 wr => ∃ (j : Nat), k + j = row.length ∧ s5 = .int .i64 j ∧ s3 = .int .i64 (IntKind.i64.wrap (tot (s.calls.take i) + j : Nat)) ∧ Hid (∀ c ∈ row.take j, CB c) ∧ Hid (Below w2.heap.size w2 wr))
      case atStart => exact ⟨0, by omega, rfl, rfl, Lib.hid (by simp), P⟩
      case round =>
        clear P HBW
        obtain ⟨j, hkj, rfl, rfl, HTJ, P⟩ := hrel
        have HBW := Lib.hid (HB2.out.trans (P.out.mono HB2.out.size))
        have y4 := cell_blk ((P.out.block _ (lt_of_block HX.out)).trans HX.out) 4 (v := .slice (some ad1) s.calls.length c1) rfl
        have x0 := HE5.out _ HBW.out
        cases gk with
        | zero =>
          have hlt3 : ¬ ((j : Int) < (row.length : Int)) := by omega
          have HTR := Lib.hid (show ∀ c ∈ row, CB c by have h2 := HTJ.out; rwa [List.take_of_length_le (by omega)] at h2)
          have e1 : tot (s.calls.take i) + j = tot (s.calls.take (i + 1)) := by rw [tot_next HROW.out]; omega
          rw [e1]
          clear e1
          obtain ⟨X, hX⟩ : ∃ X, IntKind.i64.wrap (tot (s.calls.take (i + 1))) = X := ⟨_, rfl⟩
          have HXX := Lib.hid hX
          rw [hX]
          clear hX
          go_wp2_with fail
          go_roundg gk0
          case measure => omega
          case rel => exact ⟨i + 1, by have := HKI.out; omega, rfl, by rw [HXX.out], Lib.hid (take_step HROW.out HT.out HTR.out), P⟩
        | succ gk1 =>
          have hlt3 : (j : Int) < (row.length : Int) := by omega
          obtain ⟨c, hc⟩ : ∃ c, row[j]? = some c := ⟨_, List.getElem?_eq_getElem (by omega)⟩
          obtain ⟨ad3, A7, k7, rfl, hC7, e7⟩ := call_cells HC5.out j (by omega) hc
          obtain ⟨⟨b1, o1, p1⟩, hB1⟩ : ∃ B, ad3.add (j * 6) = B := ⟨_, rfl⟩
          rw [hB1] at e7
          have HC7 := Lib.hid hC7
          have HE7 := Lib.hid e7
          have HCC := Lib.hid hc
          have z1 := (e7 _ HBW.out).2 0 _ rfl
          have z5 := (e7 _ HBW.out).2 4 _ rfl
          have q10 : IntKind.i64.wrap ((j : Int) + 1) = (j : Int) + 1 := wrap_big (Kd.C_max HC5.out) (by omega)
          have q3 := wrap_wrap (tot (s.calls.take i) + j)
          obtain ⟨X, hX⟩ : ∃ X, IntKind.i64.wrap (tot (s.calls.take i) + j : Nat) = X := ⟨_, rfl⟩
          obtain ⟨Y, hY⟩ : ∃ Y, IntKind.i64.wrap ((tot (s.calls.take i) + j + 1 : Nat) : Int) = Y := ⟨_, rfl⟩
          rw [hX, hY] at q3
          rw [hX]
          have HY := Lib.hid hY
          have HKJ := Lib.hid hkj
          clear hX hY e7 hC7 hc hkj
          by_cases h1 : 25 < (c.ops.length : Int)
          · go_wp2_with fail
            go_ret
            exact FIN.out _ HBW.out
          by_cases h2 : 150 < (c.q.x.size : Int)
          · go_wp2_with fail
            go_ret
            exact FIN.out _ HBW.out
          go_wp2_with fail
          have HCL := Lib.hid (show c.ops.length ≤ 25 ∧ c.q.x.size ≤ 150 by omega)
          clear h1 h2 z1 z5 x0 y4 q3
          go_loopg [6] c.ops.length (fun k s6 wr => ∃ (n : Nat), k + n = c.ops.length ∧ s6 = .int .i64 n ∧ Hid (∀ o ∈ c.ops.take n, o.n.size ≤ 100 ∧ o.x.size ≤ 100) ∧ Hid (Below w2.heap.size w2 wr))
          case atStart => exact ⟨0, by omega, rfl, Lib.hid (by simp), P⟩
          case round =>
            clear P HBW
            obtain ⟨n, hkn, rfl, HTN, P⟩ := hrel
            have HBW := Lib.hid (HB2.out.trans (P.out.mono HB2.out.size))
            have y4 := cell_blk ((P.out.block _ (lt_of_block HX.out)).trans HX.out) 4 (v := .slice (some ad1) s.calls.length c1) rfl
            have x0 := HE5.out _ HBW.out
            have z1 := (HE7.out _ HBW.out).2 0 _ rfl
            cases gk with
            | zero =>
              have hlt4 : ¬ ((n : Int) < (c.ops.length : Int)) := by omega
              have HCB := Lib.hid (show CB c from ⟨HCL.out.1, HCL.out.2, by have h2 := HTN.out; rwa [List.take_of_length_le (by omega)] at h2⟩)
              go_wp2_with fail
              go_roundg gk1
              case measure => omega
              case rel => exact ⟨j + 1, by have := HKJ.out; omega, rfl, by rw [← HY.out]; rfl, Lib.hid (take_step HCC.out HTJ.out HCB.out), P⟩
            | succ gk2 =>
              have hlt4 : (n : Int) < (c.ops.length : Int) := by omega
              obtain ⟨o, ho⟩ : ∃ o, c.ops[n]? = some o := ⟨_, List.getElem?_eq_getElem (by omega)⟩
              obtain ⟨ad4, rfl, e8⟩ := op_cells HC7.out n (by omega) ho
              obtain ⟨⟨b2, o2, p2⟩, hB2⟩ : ∃ B, ad4.add (n * 6) = B := ⟨_, rfl⟩
              rw [hB2] at e8
              have w4 := (e8 _ HBW.out).2 3 _ rfl
              have w5 := (e8 _ HBW.out).2 4 _ rfl
              have HO := Lib.hid ho
              have HKN := Lib.hid hkn
              have q11 : IntKind.i64.wrap ((n : Int) + 1) = (n : Int) + 1 := wrap_next (by have := HCL.out.1; omega)
              clear e8 ho hkn
              by_cases h1 : 100 < (o.n.size : Int)
              · go_wp2_with fail
                go_ret
                exact FIN.out _ HBW.out
              by_cases h2 : 100 < (o.x.size : Int)
              · go_wp2_with fail
                go_ret
                exact FIN.out _ HBW.out
              have HOO := Lib.hid (show o.n.size ≤ 100 ∧ o.x.size ≤ 100 by omega)
              go_wp2_with fail
              go_roundg gk2
              case measure => omega
              case rel => exact ⟨n + 1, by have := HKN.out; omega, rfl, Lib.hid (take_step HO.out HTN.out HOO.out), P⟩
end Go.Proofs.YtjcdpccfhpbccaaGreatDoor
