/-
  The walks of a line's head and of its next word.
-/
import Derived.Test.YtjcdpccfhpbccaaDoorA1
import Derived.Test.YtjcdpccfhpbccaaDoorS0
import Derived.LoopTactic
import Derived.Lib.Strings
namespace Go.Proofs.YtjcdpccfhpbccaaDoor
open Go.RowKit

set_option maxHeartbeats 400000 in
theorem line_no (r : Nat) (A : Option Addr) (L c : Nat) (n : Int) (w : World) (hr : RdAt w r (.slice A L c) n) (hn : (L : Int) ≤ n) :
    Calls Tryd.prog 34 #[.pointer (some ⟨r, 0, none⟩)] w fun e w' => Gave n e ∧ ∃ k, w' = w.drewN k := by
  go_enter Tryd.func34, Tryd.ntmps34
  go_wp2_with fail
  refine (next_no r A L c n _ hr hn).mono ?_
  rintro e w' ⟨rfl, k, rfl⟩
  go_wp2_with fail
  refine (give_any r _ n _ (by exact hr)).mono ?_
  rintro e w' ⟨rfl, rfl⟩
  exact ⟨rfl, rfl, _, rfl⟩

set_option maxHeartbeats 400000 in
theorem line_yes (r : Nat) (b off L c : Nat) (n : Nat) (s : ByteArray) (w : World) (hr : RdAt w r (.slice (some ⟨b, off, none⟩) L c) n) (hn : n < L) (hL : L ≤ 9223372036854775807) (hs : w.cell? ⟨b, off + n, none⟩ = some (.string s)) :
    Calls Tryd.prog 34 #[.pointer (some ⟨r, 0, none⟩)] w fun e w' => ∃ l, e = .returned (.pointer (some ⟨l, 0, none⟩)) ∧ w.heap.size ≤ l ∧ LnAt w' l r s true ∧ Below w.heap.size w w' := by
  have H := Lib.hid hr
  clear hr
  go_enter Tryd.func34, Tryd.ntmps34
  go_wp2_with fail
  refine (next_yes r b off L c n s _ H.out hn hL hs).mono ?_
  rintro e w' ⟨rfl, k, rfl⟩
  go_wp2_with fail
  go_ret
  exact ⟨_, rfl, Nat.le_refl _, alloc_new _ _, (below_drewN (Below.refl _ _) k).alloc (Nat.le_refl _) _⟩

abbrev bl (s : ByteArray) : List UInt8 := s.data.toList

theorem byte_at (s : ByteArray) (k : Nat) (h : k < s.size) : (bl s)[k]? = some s[k] := by
  have : k < s.data.toList.length := by rw [← Lib.size_eq]; exact h
  rw [List.getElem?_eq_getElem this]; rfl

theorem u8_of {c d : UInt8} (h : ((c.toNat : Int) == (d.toNat : Int)) = true) : c = d := UInt8.toNat_inj.1 (by have := beq_iff_eq.1 h; omega)
theorem u8_ne {c d : UInt8} (h : ((c.toNat : Int) == (d.toNat : Int)) = false) : c ≠ d := fun e => by subst e; simp at h

set_option maxHeartbeats 400000 in
theorem word_no (l r : Nat) (s : ByteArray) (v : Value) (n : Int) (w : World) (hl : LnAt w l r s false) (hr : RdAt w r v n) :
    Calls Tryd.prog 35 #[.pointer (some ⟨l, 0, none⟩)] w fun e w' => Gave n e ∧ w = w' := by
  have h0 := cell_blk hl 0 (v := .pointer (some ⟨r, 0, none⟩)) rfl
  have h2 := cell_blk hl 2 (v := .bool false) rfl
  clear hl
  go_enter Tryd.func35, Tryd.ntmps35
  go_wp2_with fail
  refine (give_any r v n _ hr).mono ?_
  rintro e w' ⟨rfl, rfl⟩
  exact ⟨rfl, rfl, rfl⟩

set_option maxHeartbeats 400000 in
theorem word_more (l r : Nat) (s : ByteArray) (hs : s.size ≤ 9223372036854775806) (w : World) (hl : LnAt w l r s true) :
    Calls Tryd.prog 35 #[.pointer (some ⟨l, 0, none⟩)] w fun e w' =>
      (∃ i, Scr.blankAt false (bl s) = some i ∧ e = .returned (.string (s.extract 0 i)) ∧ w' = w.setCell ⟨l, 1, none⟩ (.string (s.extract (i + 1) s.size))) ∨
      (Scr.blankAt false (bl s) = none ∧ e = .returned (.string s) ∧ w' = (w.setCell ⟨l, 1, none⟩ (.string ⟨#[]⟩)).setCell ⟨l, 2, none⟩ (.bool false)) := by
  have h0 := cell_blk hl 0 (v := .pointer (some ⟨r, 0, none⟩)) rfl
  have h1 := cell_blk hl 1 (v := .string s) rfl
  have h2 := cell_blk hl 2 (v := .bool true) rfl
  have f1 := froz_blk hl 1
  have f2 := froz_blk hl 2
  clear hl
  go_enter Tryd.func35, Tryd.ntmps35
  go_wp2_with fail
  go_loop [3, 22] (fun b i => ∃ (k : Nat) (q : Bool), k ≤ s.size ∧ i = .int .i64 k ∧ b = .bool q ∧ Hid (Scr.blankAt false (bl s) = (Scr.blankAt q ((bl s).drop k)).map (· + k))) (fun _ i => s.size - (intOf i).toNat)
  case atStart => exact ⟨0, false, Nat.zero_le _, rfl, rfl, by show _ = _; simp⟩
  case round =>
    obtain ⟨k, q, hk, rfl, rfl, HS⟩ := hrel
    by_cases hlt : k < s.size
    · have hc := Lib.hid (byte_at s k hlt)
      go_wp2_with fail
      · have t1 : ((s[k].toNat : Int) == 91) = true := by assumption
        have e1 : s[k] = 91 := u8_of t1
        refine ⟨⟨k + 1, true, by omega, by go_num, rfl, ?_⟩, by simp [intOf]; omega⟩
        have h3 := Scr.blankAt_step (b := q) hc.out (by rw [e1]; simp)
        rw [e1] at h3
        exact (HS.out.trans h3)
      · have t1 : ((s[k].toNat : Int) == 93) = true := by assumption
        have e1 : s[k] = 93 := u8_of t1
        refine ⟨⟨k + 1, false, by omega, by go_num, rfl, ?_⟩, by simp [intOf]; omega⟩
        have h3 := Scr.blankAt_step (b := q) hc.out (by rw [e1]; simp)
        rw [e1] at h3
        exact (HS.out.trans h3)
      · have t1 : ((s[k].toNat : Int) == 32) = true := by assumption
        have e1 : s[k] = 32 := u8_of t1
        have t2 : (!q) = true := by assumption
        have e2 : q = false := by simpa using t2
        subst e2
        have h3 := HS.out.trans (Scr.blankAt_hit hc.out e1)
        go_ret
        exact .inl ⟨k, h3, rfl, rfl⟩
      · have t1 : ((s[k].toNat : Int) == 32) = true := by assumption
        have e1 : s[k] = 32 := u8_of t1
        have t2 : (!q) = false := by assumption
        have e2 : q = true := by simpa using t2
        subst e2
        refine ⟨⟨k + 1, true, by omega, by go_num, rfl, ?_⟩, by simp [intOf]; omega⟩
        have h3 := Scr.blankAt_step (b := true) hc.out (by simp)
        rw [e1] at h3
        exact (HS.out.trans h3)
      · have t1 : ((s[k].toNat : Int) == 91) = false := by assumption
        have t2 : ((s[k].toNat : Int) == 93) = false := by assumption
        have t3 : ((s[k].toNat : Int) == 32) = false := by assumption
        have e1 : s[k] ≠ 91 := u8_ne t1
        have e2 : s[k] ≠ 93 := u8_ne t2
        have e3 : s[k] ≠ 32 := u8_ne t3
        refine ⟨⟨k + 1, q, by omega, by go_num, rfl, ?_⟩, by simp [intOf]; omega⟩
        have h3 := Scr.blankAt_step (b := q) hc.out (fun h => e3 h.1)
        have h4 : Scr.brk q s[k] = q := by simp [Scr.brk, e1, e2]
        rw [h4] at h3
        exact (HS.out.trans h3)
    · have hk2 : k = (bl s).length := by have := Lib.size_eq s; show k = s.data.toList.length; omega
      have hno : Scr.blankAt false (bl s) = none := by rw [HS.out, hk2]; exact Scr.blankAt_end
      have HN := Lib.hid hno
      clear hno hk2 HS
      go_wp2_with fail
      go_ret
      exact .inr ⟨HN.out, rfl, rfl⟩
end Go.Proofs.YtjcdpccfhpbccaaDoor
