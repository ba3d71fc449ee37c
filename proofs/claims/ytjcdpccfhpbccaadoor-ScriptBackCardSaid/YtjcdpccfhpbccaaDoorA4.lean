/-
  The numbers of a line: number, upTo.
-/
import Derived.Test.YtjcdpccfhpbccaaDoorA3
namespace Go.Proofs.YtjcdpccfhpbccaaDoor
open Go.RowKit

def pNum : List (List UInt8) → Option (Int × List (List UInt8))
  | [] => none
  | x :: ws => (num x).map (·, ws)
def pUpTo (m : Int) (ws : List (List UInt8)) : Option (Int × List (List UInt8)) :=
  match pNum ws with
  | some (k, ws') => if 0 ≤ k ∧ k ≤ m then some (k, ws') else none
  | none => none

theorem num_bounds {x : List UInt8} {k : Int} (h : num x = some k) : -9223372036854775808 ≤ k ∧ k ≤ 9223372036854775807 := by
  unfold num at h
  cases hx : Lib.atoiAll x with
  | ok v =>
    simp only [hx] at h
    split at h
    · simp at h; subst h; exact Lib.atoiAll_bounds hx
    · simp at h
  | _ => simp [hx] at h
theorem pNum_bounds {ws ws' : List (List UInt8)} {k : Int} (h : pNum ws = some (k, ws')) : -9223372036854775808 ≤ k ∧ k ≤ 9223372036854775807 := by
  cases ws with
  | nil => simp [pNum] at h
  | cons x ws =>
    simp only [pNum] at h
    cases hx : num x with
    | none => simp [hx] at h
    | some v => simp [hx] at h; obtain ⟨rfl, rfl⟩ := h; exact num_bounds hx

theorem number_y (l r : Nat) (ws ws' : List (List UInt8)) (hlr : r ≠ l) (k : Int) (h : pNum ws = some (k, ws')) (w : World) (hG : Glob w) (hl : LnW w l r ws) (hl6 : 6 ≤ l) :
    Calls Tryd.prog 36 #[.pointer (some ⟨l, 0, none⟩)] w (LnOk l r w (.int .i64 k) ws') := by
  cases ws with
  | nil => simp [pNum] at h
  | cons x ws =>
    simp only [pNum] at h
    cases hx : num x with
    | none => simp [hx] at h
    | some v => simp [hx] at h; obtain ⟨rfl, rfl⟩ := h; exact number_yes l r x ws hlr.symm v hx w hG hl hl6
theorem number_n (l r : Nat) (ws : List (List UInt8)) (hlr : r ≠ l) (h : pNum ws = none) (v : Value) (n : Int) (w : World) (hG : Glob w) (hl : LnW w l r ws) (hr : RdAt w r v n) (hl6 : 6 ≤ l) :
    Calls Tryd.prog 36 #[.pointer (some ⟨l, 0, none⟩)] w (LnNo l w n) := by
  cases ws with
  | nil => exact number_nil l r v n w hl hr
  | cons x ws => exact number_no l r x ws hlr (by simpa [pNum] using h) v n w hG hl hr hl6

set_option maxHeartbeats 400000 in
theorem upTo_y (l r : Nat) (m : Int) (ws ws' : List (List UInt8)) (hlr : r ≠ l) (k : Int) (h : pUpTo m ws = some (k, ws')) (w : World) (hG : Glob w) (hl : LnW w l r ws) (hl6 : 6 ≤ l) :
    Calls Tryd.prog 37 #[.pointer (some ⟨l, 0, none⟩), .int .i64 m] w (LnOk l r w (.int .i64 k) ws') := by
  obtain ⟨h1, h2, h3⟩ : pNum ws = some (k, ws') ∧ 0 ≤ k ∧ k ≤ m := by
    unfold pUpTo at h
    cases hp : pNum ws with
    | none => simp [hp] at h
    | some q =>
      obtain ⟨q1, q2⟩ := q
      simp only [hp] at h
      split at h
      · simp at h; obtain ⟨rfl, rfl⟩ := h; rename_i hh; exact ⟨rfl, hh.1, hh.2⟩
      · simp at h
  have HL := Lib.hid hl
  have H1 := Lib.hid h1
  clear hl h1 h
  go_enter Tryd.func37, Tryd.ntmps37
  go_wp2_with fail
  refine (number_y l r ws ws' hlr k H1.out w hG HL.out hl6).mono ?_
  rintro e w1 ⟨rfl, hl1, hm1⟩
  have HL1 := Lib.hid hl1
  clear hl1
  go_wp2_with fail
  go_ret
  exact ⟨rfl, HL1.out, hm1⟩

set_option maxHeartbeats 400000 in
theorem upTo_n (l r : Nat) (m : Int) (ws : List (List UInt8)) (hlr : r ≠ l) (h : pUpTo m ws = none) (v : Value) (n : Int) (w : World) (hG : Glob w) (hl : LnW w l r ws) (hr : RdAt w r v n) (hl6 : 6 ≤ l) :
    Calls Tryd.prog 37 #[.pointer (some ⟨l, 0, none⟩), .int .i64 m] w (LnNo l w n) := by
  have HL := Lib.hid hl
  have HR := Lib.hid hr
  clear hl hr
  cases hp : pNum ws with
  | none =>
    have H1 := Lib.hid hp
    clear hp h
    go_enter Tryd.func37, Tryd.ntmps37
    go_wp2_with fail
    refine (number_n l r ws hlr H1.out v n w hG HL.out HR.out hl6).mono ?_
    rintro e w1 ⟨rfl, hm1⟩
    exact ⟨rfl, rfl, hm1⟩
  | some q =>
    obtain ⟨k, ws'⟩ := q
    have hk : k < 0 ∨ ¬ k < 0 ∧ m < k := by
      simp only [pUpTo, hp] at h
      split at h
      · simp at h
      · omega
    have H1 := Lib.hid hp
    clear hp h
    rcases hk with hk | ⟨hk, hk2⟩
    all_goals
      go_enter Tryd.func37, Tryd.ntmps37
      go_wp2_with fail
      refine (number_y l r ws ws' hlr k H1.out w hG HL.out hl6).mono ?_
      rintro e w1 ⟨rfl, hl1, hm1⟩
      have HL1 := Lib.hid hl1
      have c0 := hl1.c0
      clear hl1
      have HR1 := Lib.hid (HR.out.mut hm1 hlr)
      go_wp2_with fail
      refine (give_any r v n w1 HR1.out).mono ?_
      rintro e w4 ⟨rfl, rfl⟩
      exact ⟨rfl, rfl, hm1⟩
end Go.Proofs.YtjcdpccfhpbccaaDoor
