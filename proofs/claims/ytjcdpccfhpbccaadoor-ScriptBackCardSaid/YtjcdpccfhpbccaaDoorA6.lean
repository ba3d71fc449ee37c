/-
  The walk of a text in brackets.
-/
import Derived.Test.YtjcdpccfhpbccaaDoorA4
import Derived.Test.YtjcdpccfhpbccaaDoorA5
namespace Go.Proofs.YtjcdpccfhpbccaaDoor
open Go.RowKit

/-- What stands between a word's first byte and its last. -/
def inner (x : List UInt8) : List UInt8 := (x.drop 1).take (x.length - 2)
def txt (u x : List UInt8) : Option (List UInt8) :=
  if x.length < 2 then none else if x[0]? ≠ some 91 then none else if x[x.length - 1]? ≠ some 93 then none else if hasB (91 :: 93 :: u) (inner x) = true then none else some (inner x)
def pText (u : List UInt8) : List (List UInt8) → Option (List UInt8 × List (List UInt8))
  | [] => none
  | x :: ws => (txt u x).map (·, ws)

theorem has_brackets (u : ByteArray) (hu : ∀ c, (bl u).contains c = true → c.toNat < 128) : ∀ c, (bl (⟨#[91, 93]⟩ ++ u)).contains c = true → c.toNat < 128 := by
  intro c hc
  have e : bl (⟨#[91, 93]⟩ ++ u) = 91 :: 93 :: bl u := by simp [bl, ByteArray.data_append]
  rw [e] at hc
  rw [List.contains_iff_mem] at hc
  simp at hc
  rcases hc with rfl | rfl | hc
  · decide
  · decide
  · exact hu c (by rw [List.contains_iff_mem]; simpa [bl] using hc)

theorem brk_bl (u : ByteArray) : bl (⟨#[91, 93]⟩ ++ u) = 91 :: 93 :: bl u := by simp [bl, ByteArray.data_append]
theorem txt_some {u x y : List UInt8} (h : txt u x = some y) : 2 ≤ x.length ∧ x[0]? = some 91 ∧ x[x.length - 1]? = some 93 ∧ hasB (91 :: 93 :: u) (inner x) = false ∧ y = inner x := by
  unfold txt at h
  by_cases h1 : x.length < 2
  · simp [h1] at h
  rw [if_neg h1] at h
  by_cases h2 : x[0]? ≠ some 91
  · rw [if_pos h2] at h; simp at h
  rw [if_neg h2] at h
  by_cases h3 : x[x.length - 1]? ≠ some 93
  · rw [if_pos h3] at h; simp at h
  rw [if_neg h3] at h
  by_cases h4 : hasB (91 :: 93 :: u) (inner x) = true
  · rw [if_pos h4] at h; simp at h
  rw [if_neg h4] at h
  exact ⟨by omega, Classical.not_not.1 h2, Classical.not_not.1 h3, by simpa using h4, by simpa using h.symm⟩
theorem txt_none {u x : List UInt8} (h : txt u x = none) : x.length < 2 ∨ (2 ≤ x.length ∧ (x[0]? ≠ some 91 ∨ (x[0]? = some 91 ∧ (x[x.length - 1]? ≠ some 93 ∨ (x[x.length - 1]? = some 93 ∧ hasB (91 :: 93 :: u) (inner x) = true))))) := by
  unfold txt at h
  by_cases h1 : x.length < 2
  · exact .inl h1
  rw [if_neg h1] at h
  refine .inr ⟨by omega, ?_⟩
  by_cases h2 : x[0]? ≠ some 91
  · exact .inl h2
  rw [if_neg h2] at h
  refine .inr ⟨Classical.not_not.1 h2, ?_⟩
  by_cases h3 : x[x.length - 1]? ≠ some 93
  · exact .inl h3
  rw [if_neg h3] at h
  refine .inr ⟨Classical.not_not.1 h3, ?_⟩
  by_cases h4 : hasB (91 :: 93 :: u) (inner x) = true
  · exact h4
  rw [if_neg h4] at h
  simp at h
theorem inner_bl (s : ByteArray) : bl (s.extract 1 (s.size - 1)) = inner (bl s) := by
  show (s.extract 1 (s.size - 1)).data.toList = _
  rw [Lib.extract_data]
  unfold inner
  rw [size_bl]
  rfl
theorem inner_mk {s : ByteArray} {x : List UInt8} (hs : (⟨x.toArray⟩ : ByteArray) = s) : bl (s.extract 1 (s.size - 1)) = inner x := by
  rw [inner_bl, ← hs, bl_mk]
theorem at_eq {s : ByteArray} {x : List UInt8} (hs : (⟨x.toArray⟩ : ByteArray) = s) (k : Nat) (h : k < s.size) {c : UInt8} (hc : x[k]? = some c) : ((s[k].toNat : Int) != (c.toNat : Int)) = false := by
  have h1 := byte_at s k h
  have h2 : (bl s)[k]? = x[k]? := by rw [← hs]
  rw [h2, hc] at h1
  have h3 : c = s[k] := by simpa using h1
  rw [← h3]
  simp
theorem at_ne {s : ByteArray} {x : List UInt8} (hs : (⟨x.toArray⟩ : ByteArray) = s) (k : Nat) (h : k < s.size) {c : UInt8} (hc : x[k]? ≠ some c) : ((s[k].toNat : Int) != (c.toNat : Int)) = true := by
  have h1 := byte_at s k h
  have h2 : (bl s)[k]? = x[k]? := by rw [← hs]
  rw [h2] at h1
  have h3 : s[k] ≠ c := fun e => hc (by rw [h1, e])
  simp
  intro e
  exact h3 (UInt8.toNat_inj.1 (by omega))

set_option maxRecDepth 100000 in
set_option maxHeartbeats 400000 in
theorem text_yes (l r : Nat) (x y : List UInt8) (ws : List (List UInt8)) (u : ByteArray) (hu : ∀ c, (bl u).contains c = true → c.toNat < 128) (hu2 : u.size ≤ 1) (h : txt (bl u) x = some y) (w : World) (hl : LnW w l r (x :: ws)) :
    Calls Tryd.prog 54 #[.pointer (some ⟨l, 0, none⟩), .string u] w (LnOk l r w (.string ⟨y.toArray⟩) ws) := by
  have HL := Lib.hid hl
  have HU := Lib.hid (has_brackets u hu)
  have HH := Lib.hid (txt_some h)
  clear hl hu h
  go_enter Tryd.func54, Tryd.ntmps54
  go_wp2_with fail
  refine (wordW_yes l r x ws w HL.out).mono ?_
  rintro e w1 ⟨rfl, hx, hl1, hm1⟩
  have HL1 := Lib.hid hl1
  clear hl1
  generalize hs : (⟨x.toArray⟩ : ByteArray) = s
  have hz : s.size = x.length := by rw [← hs]; exact size_mk x
  have h2 : 2 ≤ s.size := by have := HH.out.1; omega
  have hb : s.size ≤ 4294967280 := by omega
  have b0 : 0 < s.size := by omega
  have b1 : s.size - 1 < s.size := by omega
  have HZ := Lib.hid hz
  clear hz
  have t0 : (((s[0]'b0).toNat : Int) != 91) = false := at_eq (c := 91) hs 0 b0 HH.out.2.1
  have t1 : (((s[s.size - 1]'b1).toNat : Int) != 93) = false := at_eq (c := 93) hs (s.size - 1) b1 (by rw [HZ.out]; exact HH.out.2.2.1)
  have t2 : decide ((s.size : Int) < 2) = false := by simp; omega
  have HS := Lib.hid hs
  clear hs
  go_wp2_with fail
  refine (hasAny_any (s.extract 1 (s.size - 1)) _ HU.out w1).mono ?_
  rintro e w2 ⟨rfl, hb2⟩
  have e1 := inner_mk HS.out
  rw [brk_bl, e1, HH.out.2.2.2.1]
  have E1 := Lib.hid e1
  clear e1
  go_wp2_with fail
  go_ret
  refine ⟨?_, HL1.out.below hb2, hm1.then_below hb2⟩
  rw [HH.out.2.2.2.2, ← E1.out, mk_bl]
  rfl

set_option maxRecDepth 100000 in
set_option maxHeartbeats 400000 in
theorem text_no (l r : Nat) (x : List UInt8) (ws : List (List UInt8)) (u : ByteArray) (hu : ∀ c, (bl u).contains c = true → c.toNat < 128) (hu2 : u.size ≤ 1) (hlr : r ≠ l) (h : txt (bl u) x = none) (v : Value) (n : Int) (w : World) (hl : LnW w l r (x :: ws)) (hr : RdAt w r v n) :
    Calls Tryd.prog 54 #[.pointer (some ⟨l, 0, none⟩), .string u] w (LnNo l w n) := by
  have HL := Lib.hid hl
  have HR := Lib.hid hr
  have HU := Lib.hid (has_brackets u hu)
  have hh := txt_none h
  clear hl hu h hr
  rcases hh with h1 | ⟨h1, h2⟩
  · go_enter Tryd.func54, Tryd.ntmps54
    go_wp2_with fail
    refine (wordW_yes l r x ws w HL.out).mono ?_
    rintro e w1 ⟨rfl, hx, hl1, hm1⟩
    have c0 := hl1.c0
    have HR1 := Lib.hid (HR.out.mut hm1 hlr)
    clear hl1
    generalize hs : (⟨x.toArray⟩ : ByteArray) = s
    have hz : s.size = x.length := by rw [← hs]; exact size_mk x
    have t2 : decide ((s.size : Int) < 2) = true := by simp; omega
    have h3 : s.size < 2 := by omega
    clear hs hz
    go_wp2_with fail
    refine (give_any r v n w1 HR1.out).mono ?_
    rintro e w4 ⟨rfl, rfl⟩
    exact ⟨rfl, rfl, hm1⟩
  rcases h2 with h2 | ⟨h2, h3⟩
  · have H2 := Lib.hid h2
    clear h2
    go_enter Tryd.func54, Tryd.ntmps54
    go_wp2_with fail
    refine (wordW_yes l r x ws w HL.out).mono ?_
    rintro e w1 ⟨rfl, hx, hl1, hm1⟩
    have c0 := hl1.c0
    have HR1 := Lib.hid (HR.out.mut hm1 hlr)
    clear hl1
    generalize hs : (⟨x.toArray⟩ : ByteArray) = s
    have hz : s.size = x.length := by rw [← hs]; exact size_mk x
    have t2 : decide ((s.size : Int) < 2) = false := by simp; omega
    have h3 : 2 ≤ s.size := by omega
    have hb : s.size ≤ 4294967280 := by omega
    have b0 : 0 < s.size := by omega
    have b1 : s.size - 1 < s.size := by omega
    have HZ := Lib.hid hz
    clear hz
    have t0 : (((s[0]'b0).toNat : Int) != 91) = true := at_ne (c := 91) hs 0 b0 H2.out
    clear hs
    go_wp2_with fail
    refine (give_any r v n w1 HR1.out).mono ?_
    rintro e w4 ⟨rfl, rfl⟩
    exact ⟨rfl, rfl, hm1⟩
  rcases h3 with h3 | ⟨h3, h4⟩
  · have H2 := Lib.hid h2
    have H3 := Lib.hid h3
    clear h2 h3
    go_enter Tryd.func54, Tryd.ntmps54
    go_wp2_with fail
    refine (wordW_yes l r x ws w HL.out).mono ?_
    rintro e w1 ⟨rfl, hx, hl1, hm1⟩
    have c0 := hl1.c0
    have HR1 := Lib.hid (HR.out.mut hm1 hlr)
    clear hl1
    generalize hs : (⟨x.toArray⟩ : ByteArray) = s
    have hz : s.size = x.length := by rw [← hs]; exact size_mk x
    have t2 : decide ((s.size : Int) < 2) = false := by simp; omega
    have h3 : 2 ≤ s.size := by omega
    have hb : s.size ≤ 4294967280 := by omega
    have b0 : 0 < s.size := by omega
    have b1 : s.size - 1 < s.size := by omega
    have HZ := Lib.hid hz
    clear hz
    have t0 : (((s[0]'b0).toNat : Int) != 91) = false := at_eq (c := 91) hs 0 b0 H2.out
    have t1 : (((s[s.size - 1]'b1).toNat : Int) != 93) = true := at_ne (c := 93) hs (s.size - 1) b1 (by rw [HZ.out]; exact H3.out)
    clear hs
    go_wp2_with fail
    refine (give_any r v n w1 HR1.out).mono ?_
    rintro e w4 ⟨rfl, rfl⟩
    exact ⟨rfl, rfl, hm1⟩
  · have H2 := Lib.hid h2
    have H3 := Lib.hid h3
    have H4 := Lib.hid h4
    clear h2 h3 h4
    go_enter Tryd.func54, Tryd.ntmps54
    go_wp2_with fail
    refine (wordW_yes l r x ws w HL.out).mono ?_
    rintro e w1 ⟨rfl, hx, hl1, hm1⟩
    have HL1 := Lib.hid hl1
    have HR1 := Lib.hid (HR.out.mut hm1 hlr)
    clear hl1
    generalize hs : (⟨x.toArray⟩ : ByteArray) = s
    have hz : s.size = x.length := by rw [← hs]; exact size_mk x
    have t2 : decide ((s.size : Int) < 2) = false := by simp; omega
    have h3 : 2 ≤ s.size := by omega
    have hb : s.size ≤ 4294967280 := by omega
    have b0 : 0 < s.size := by omega
    have b1 : s.size - 1 < s.size := by omega
    have HZ := Lib.hid hz
    clear hz
    have t0 : (((s[0]'b0).toNat : Int) != 91) = false := at_eq (c := 91) hs 0 b0 H2.out
    have t1 : (((s[s.size - 1]'b1).toNat : Int) != 93) = false := at_eq (c := 93) hs (s.size - 1) b1 (by rw [HZ.out]; exact H3.out)
    have HS := Lib.hid hs
    clear hs
    go_wp2_with fail
    refine (hasAny_any (s.extract 1 (s.size - 1)) _ HU.out w1).mono ?_
    rintro e w2 ⟨rfl, hb2⟩
    have e1 := inner_mk HS.out
    rw [brk_bl, e1, H4.out]
    clear e1
    have c0 := (HL1.out.below hb2).c0
    have HR2 := Lib.hid (HR1.out.below hb2)
    go_wp2_with fail
    refine (give_any r v n w2 HR2.out).mono ?_
    rintro e w4 ⟨rfl, rfl⟩
    exact ⟨rfl, rfl, hm1.then_below hb2⟩

set_option maxHeartbeats 400000 in
theorem text_nil (l r : Nat) (u : ByteArray) (v : Value) (n : Int) (w : World) (hl : LnW w l r []) (hr : RdAt w r v n) :
    Calls Tryd.prog 54 #[.pointer (some ⟨l, 0, none⟩), .string u] w (LnNo l w n) := by
  have HL := Lib.hid hl
  have HR := Lib.hid hr
  clear hl hr
  go_enter Tryd.func54, Tryd.ntmps54
  go_wp2_with fail
  refine (wordW_no l r v n w HL.out HR.out).mono ?_
  rintro e w' ⟨rfl, rfl⟩
  exact ⟨rfl, rfl, Mut.refl _ _⟩

theorem text_y (l r : Nat) (ws ws' : List (List UInt8)) (y : List UInt8) (u : ByteArray) (hu : ∀ c, (bl u).contains c = true → c.toNat < 128) (hu2 : u.size ≤ 1) (h : pText (bl u) ws = some (y, ws')) (w : World) (hl : LnW w l r ws) :
    Calls Tryd.prog 54 #[.pointer (some ⟨l, 0, none⟩), .string u] w (LnOk l r w (.string ⟨y.toArray⟩) ws') := by
  cases ws with
  | nil => simp [pText] at h
  | cons x ws =>
    simp only [pText] at h
    cases hx : txt (bl u) x with
    | none => simp [hx] at h
    | some v => simp [hx] at h; obtain ⟨rfl, rfl⟩ := h; exact text_yes l r x v ws u hu hu2 hx w hl
theorem text_n (l r : Nat) (ws : List (List UInt8)) (u : ByteArray) (hu : ∀ c, (bl u).contains c = true → c.toNat < 128) (hu2 : u.size ≤ 1) (hlr : r ≠ l) (h : pText (bl u) ws = none) (v : Value) (n : Int) (w : World) (hl : LnW w l r ws) (hr : RdAt w r v n) :
    Calls Tryd.prog 54 #[.pointer (some ⟨l, 0, none⟩), .string u] w (LnNo l w n) := by
  cases ws with
  | nil => exact text_nil l r u v n w hl hr
  | cons x ws => exact text_no l r x ws u hu hu2 hlr (by simpa [pText] using h) v n w hl hr
theorem LnW.len {w : World} {l r : Nat} {ws : List (List UInt8)} (h : LnW w l r ws) : ∀ x ∈ ws, x.length ≤ 4294967280 := by
  obtain ⟨s, more, h1, h2, h3⟩ := h
  intro x hx
  rw [← h2] at hx
  have := Scr.left_len x hx
  rw [← size_bl] at this
  omega
theorem inner_len (x : List UInt8) : (inner x).length ≤ x.length := by unfold inner; simp; omega
theorem pText_len {u y : List UInt8} {ws ws' : List (List UInt8)} (h : pText u ws = some (y, ws')) : ∃ x ∈ ws, y.length ≤ x.length := by
  cases ws with
  | nil => simp [pText] at h
  | cons x ws =>
    simp only [pText] at h
    cases hx : txt u x with
    | none => simp [hx] at h
    | some v =>
      simp [hx] at h
      obtain ⟨rfl, rfl⟩ := h
      refine ⟨x, List.mem_cons_self, ?_⟩
      rw [(txt_some hx).2.2.2.2]
      exact inner_len x
theorem text_len {w : World} {l r : Nat} {u y : List UInt8} {ws ws' : List (List UInt8)} (hl : LnW w l r ws) (h : pText u ws = some (y, ws')) : y.length ≤ 4294967280 := by
  obtain ⟨x, hx, hy⟩ := pText_len h
  have := hl.len x hx
  omega
end Go.Proofs.YtjcdpccfhpbccaaDoor
