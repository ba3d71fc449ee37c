/-
  The numbers of a line: number, upTo.
  The walk of hasAny at an ASCII text of runes: whether one of some bytes stands in a text.
  The walk of a text in brackets.
-/
import Derived.Test.YtjcdpccfhpbccaaGreatDoorA3
import Derived.Lib.OthersKept
namespace Go.Proofs.YtjcdpccfhpbccaaGreatDoor
open Go.RowKit

def pNum : List (List UInt8) → Option (Int × List (List UInt8))
  | [] => none
  | x :: ws => (num x).map (·, ws)
def pUpTo (m : Int) (ws : List (List UInt8)) : Option (Int × List (List UInt8)) :=
  match pNum ws with
  | some (k, ws') => if 0 ≤ k ∧ k ≤ m then some (k, ws') else none
  | none => none

theorem num_bounds {x : List UInt8} {k : Int} (h : num x = some k) : -9223372036854775808 ≤ k ∧ k ≤ 9223372036854775807 := by
  unfold num at h
  cases hx : Lib.atoiAll x with
  | ok v =>
    simp only [hx] at h
    split at h
    · simp at h; subst h; exact Lib.atoiAll_bounds hx
    · simp at h
  | _ => simp [hx] at h
theorem pNum_bounds {ws ws' : List (List UInt8)} {k : Int} (h : pNum ws = some (k, ws')) : -9223372036854775808 ≤ k ∧ k ≤ 9223372036854775807 := by
  cases ws with
  | nil => simp [pNum] at h
  | cons x ws =>
    simp only [pNum] at h
    cases hx : num x with
    | none => simp [hx] at h
    | some v => simp [hx] at h; obtain ⟨rfl, rfl⟩ := h; exact num_bounds hx

theorem number_y (l r : Nat) (ws ws' : List (List UInt8)) (hlr : r ≠ l) (k : Int) (h : pNum ws = some (k, ws')) (w : World) (hG : Glob w) (hl : LnW w l r ws) (hl6 : 6 ≤ l) :
    Calls Tryz.prog 45 #[.pointer (some ⟨l, 0, none⟩)] w (LnOk l r w (.int .i64 k) ws') := by
  cases ws with
  | nil => simp [pNum] at h
  | cons x ws =>
    simp only [pNum] at h
    cases hx : num x with
    | none => simp [hx] at h
    | some v => simp [hx] at h; obtain ⟨rfl, rfl⟩ := h; exact number_yes l r x ws hlr.symm v hx w hG hl hl6
theorem number_n (l r : Nat) (ws : List (List UInt8)) (hlr : r ≠ l) (h : pNum ws = none) (v : Value) (n : Int) (w : World) (hG : Glob w) (hl : LnW w l r ws) (hr : RdAt w r v n) (hl6 : 6 ≤ l) :
    Calls Tryz.prog 45 #[.pointer (some ⟨l, 0, none⟩)] w (LnNo l w n) := by
  cases ws with
  | nil => exact number_nil l r v n w hl hr
  | cons x ws => exact number_no l r x ws hlr (by simpa [pNum] using h) v n w hG hl hr hl6

set_option maxHeartbeats 400000 in
theorem upTo_y (l r : Nat) (m : Int) (ws ws' : List (List UInt8)) (hlr : r ≠ l) (k : Int) (h : pUpTo m ws = some (k, ws')) (w : World) (hG : Glob w) (hl : LnW w l r ws) (hl6 : 6 ≤ l) :
    Calls Tryz.prog 46 #[.pointer (some ⟨l, 0, none⟩), .int .i64 m] w (LnOk l r w (.int .i64 k) ws') := by
  obtain ⟨h1, h2, h3⟩ : pNum ws = some (k, ws') ∧ 0 ≤ k ∧ k ≤ m := by
    unfold pUpTo at h
    cases hp : pNum ws with
    | none => simp [hp] at h
    | some q =>
      obtain ⟨q1, q2⟩ := q
      simp only [hp] at h
      split at h
      · simp at h; obtain ⟨rfl, rfl⟩ := h; rename_i hh; exact ⟨rfl, hh.1, hh.2⟩
      · simp at h
  have HL := Lib.hid hl
  have H1 := Lib.hid h1
  clear hl h1 h
  go_enter Tryz.func46, Tryz.ntmps46
  go_wp2_with fail
  refine (number_y l r ws ws' hlr k H1.out w hG HL.out hl6).mono ?_
  rintro e w1 ⟨rfl, hl1, hm1⟩
  have HL1 := Lib.hid hl1
  clear hl1
  go_wp2_with fail
  go_ret
  exact ⟨rfl, HL1.out, hm1⟩

set_option maxHeartbeats 400000 in
theorem upTo_n (l r : Nat) (m : Int) (ws : List (List UInt8)) (hlr : r ≠ l) (h : pUpTo m ws = none) (v : Value) (n : Int) (w : World) (hG : Glob w) (hl : LnW w l r ws) (hr : RdAt w r v n) (hl6 : 6 ≤ l) :
    Calls Tryz.prog 46 #[.pointer (some ⟨l, 0, none⟩), .int .i64 m] w (LnNo l w n) := by
  have HL := Lib.hid hl
  have HR := Lib.hid hr
  clear hl hr
  cases hp : pNum ws with
  | none =>
    have H1 := Lib.hid hp
    clear hp h
    go_enter Tryz.func46, Tryz.ntmps46
    go_wp2_with fail
    refine (number_n l r ws hlr H1.out v n w hG HL.out HR.out hl6).mono ?_
    rintro e w1 ⟨rfl, hm1⟩
    exact ⟨rfl, rfl, hm1⟩
  | some q =>
    obtain ⟨k, ws'⟩ := q
    have hk : k < 0 ∨ ¬ k < 0 ∧ m < k := by
      simp only [pUpTo, hp] at h
      split at h
      · simp at h
      · omega
    have H1 := Lib.hid hp
    clear hp h
    rcases hk with hk | ⟨hk, hk2⟩
    all_goals
      go_enter Tryz.func46, Tryz.ntmps46
      go_wp2_with fail
      refine (number_y l r ws ws' hlr k H1.out w hG HL.out hl6).mono ?_
      rintro e w1 ⟨rfl, hl1, hm1⟩
      have HL1 := Lib.hid hl1
      have c0 := hl1.c0
      clear hl1
      have HR1 := Lib.hid (HR.out.mut hm1 hlr)
      go_wp2_with fail
      refine (give_any r v n w1 HR1.out).mono ?_
      rintro e w4 ⟨rfl, rfl⟩
      exact ⟨rfl, rfl, hm1⟩
end Go.Proofs.YtjcdpccfhpbccaaGreatDoor
namespace Go.Proofs.YtjcdpccfhpbccaaGreatDoor
open Go.RowKit

theorem get_of (s : ByteArray) (i : Nat) (h : i < s.size) : s.get! i = s[i] := by
  simp [ByteArray.get!, getElem!_pos, h]
  rfl
/-- What a rune of more than one byte takes in is no ASCII byte. -/
theorem decode_skip (s : ByteArray) (pos : Nat) (h : pos < s.size) (ha : 128 ≤ (s[pos]'h).toNat) : ∀ j, pos ≤ j → j < pos + (Utf8.decode s pos).2 → ∃ hj : j < s.size, 128 ≤ (s[j]'hj).toNat := by
  have hn : ¬ (s[pos]'h).toNat < 128 := by omega
  intro j h1 h2
  have key : ∀ k, (decide (pos + k < s.size) && (s.get! (pos + k)).toNat / 64 == 2) = true → ∃ hj : pos + k < s.size, 128 ≤ (s[pos + k]'hj).toNat := by
    intro k hk
    simp only [Bool.and_eq_true, decide_eq_true_eq, beq_iff_eq] at hk
    obtain ⟨hk1, hk2⟩ := hk
    refine ⟨hk1, ?_⟩
    rw [get_of s _ hk1] at hk2
    omega
  by_cases h0 : j = pos
  · subst h0; exact ⟨h, ha⟩
  simp only [Utf8.decode, get_at s pos h, hn, if_false] at h2
  have step : ∀ m, j < pos + m → m ≤ 4 → (∀ k, 1 ≤ k → k < m → (decide (pos + k < s.size) && (s.get! (pos + k)).toNat / 64 == 2) = true) → ∃ hj : j < s.size, 128 ≤ (s[j]'hj).toNat := by
    intro m hm hm4 hall
    obtain ⟨k, rfl⟩ : ∃ k, j = pos + k := ⟨j - pos, by omega⟩
    exact key k (hall k (by omega) (by omega))
  split at h2
  · rename_i hc
    simp only [Bool.and_eq_true] at hc
    split at h2
    · exact step 2 h2 (by omega) (fun k hk1 hk2 => by obtain rfl : k = 1 := by omega
                                                      simp only [Bool.and_eq_true]; exact hc.2)
    · exact step 1 h2 (by omega) (fun k hk1 hk2 => by omega)
  · split at h2
    · rename_i hc
      simp only [Bool.and_eq_true] at hc
      split at h2
      · refine step 3 h2 (by omega) (fun k hk1 hk2 => ?_)
        obtain rfl | rfl : k = 1 ∨ k = 2 := by omega
        · simp only [Bool.and_eq_true]; exact hc.1.2
        · simp only [Bool.and_eq_true]; exact hc.2
      · exact step 1 h2 (by omega) (fun k hk1 hk2 => by omega)
    · split at h2
      · rename_i hc
        simp only [Bool.and_eq_true] at hc
        split at h2
        · refine step 4 h2 (by omega) (fun k hk1 hk2 => ?_)
          obtain rfl | rfl | rfl : k = 1 ∨ k = 2 ∨ k = 3 := by omega
          · simp only [Bool.and_eq_true]; exact hc.1.1.2
          · simp only [Bool.and_eq_true]; exact hc.1.2
          · simp only [Bool.and_eq_true]; exact hc.2
        · exact step 1 h2 (by omega) (fun k hk1 hk2 => by omega)
      · exact step 1 h2 (by omega) (fun k hk1 hk2 => by omega)
/-- Whether one of some bytes stands in a text. -/
def hasB (bs l : List UInt8) : Bool := l.any fun c => bs.contains c
theorem hasB_skip (bs l : List UInt8) (pos : Nat) : ∀ (n : Nat), (∀ j c, pos ≤ j → j < pos + n → l[j]? = some c → bs.contains c = false) → hasB bs (l.drop pos) = hasB bs (l.drop (pos + n)) := by
  intro n
  induction n generalizing pos with
  | zero => intro _; rfl
  | succ n ih =>
    intro h
    by_cases hl : pos < l.length
    · have h1 := ih (pos + 1) (fun j c h1 h2 h3 => h j c (by omega) (by omega) h3)
      rw [show pos + (n + 1) = pos + 1 + n from by omega, ← h1]
      have h2 := h pos l[pos] (by omega) (by omega) (List.getElem?_eq_getElem hl)
      rw [List.drop_eq_getElem_cons hl]
      simp only [hasB, List.any_cons, h2, Bool.false_or]
    · rw [List.drop_of_length_le (by omega), List.drop_of_length_le (by omega)]
theorem hasB_hit (bs l : List UInt8) (pos : Nat) (c : UInt8) (hc : l[pos]? = some c) (h : bs.contains c = true) : hasB bs (l.drop pos) = true := by
  have hl : pos < l.length := (List.getElem?_eq_some_iff.1 hc).1
  have he : l[pos] = c := (List.getElem?_eq_some_iff.1 hc).2
  rw [List.drop_eq_getElem_cons hl, he]
  simp only [hasB, List.any_cons, h, Bool.true_or]

theorem width_pos (s : ByteArray) (pos : Nat) (h : pos < s.size) : 1 ≤ (Utf8.decode s pos).2 := by
  by_cases ha : (s[pos]'h).toNat < 128
  · rw [decode_ascii s pos h ha]
    exact Nat.le_refl _
  · exact (decode_high s pos h (by omega)).2

/-- A rune that is none of some ASCII bytes: what it takes in is none of them. -/
theorem rune_none (s : ByteArray) (bs : List UInt8) (hbs : ∀ c, bs.contains c = true → c.toNat < 128) (pos : Nat) (h : pos < s.size) (hno : ∀ c : UInt8, bs.contains c = true → ¬ (Utf8.decode s pos).1 = c.toNat) :
    hasB bs ((bl s).drop pos) = hasB bs ((bl s).drop (pos + (Utf8.decode s pos).2)) := by
  refine hasB_skip bs (bl s) pos _ (fun j c h1 h2 h3 => ?_)
  by_cases ha : (s[pos]'h).toNat < 128
  · rw [decode_ascii s pos h ha] at h2 hno
    obtain rfl : j = pos := by simp at h2; omega
    rw [byte_at s j h] at h3
    obtain rfl : s[j] = c := by simpa using h3
    cases hb : bs.contains s[j] with
    | false => rfl
    | true => exact absurd rfl (hno _ hb)
  · obtain ⟨hj, hh⟩ := decode_skip s pos h (by omega) j h1 h2
    rw [byte_at s j hj] at h3
    obtain rfl : s[j] = c := by simpa using h3
    cases hb : bs.contains s[j] with
    | false => rfl
    | true => have := hbs _ hb; omega
theorem rune_hit (s : ByteArray) (bs : List UInt8) (hbs : ∀ c, bs.contains c = true → c.toNat < 128) (pos : Nat) (h : pos < s.size) (c : UInt8) (hc : bs.contains c = true) (he : (Utf8.decode s pos).1 = c.toNat) :
    hasB bs ((bl s).drop pos) = true := by
  have hc2 := hbs c hc
  have ha : (s[pos]'h).toNat < 128 := by
    rcases Nat.lt_or_ge (s[pos]'h).toNat 128 with h1 | h1
    · exact h1
    · have := (decode_high s pos h h1).1; omega
  rw [decode_ascii s pos h ha] at he
  have : s[pos] = c := UInt8.toNat_inj.1 he
  exact hasB_hit bs (bl s) pos c (by rw [byte_at s pos h, this]) hc

set_option maxRecDepth 100000 in
set_option maxHeartbeats 800000 in
theorem hasAny_any (s a : ByteArray) (ha : ∀ c, (bl a).contains c = true → c.toNat < 128) (w : World) :
    Calls Tryz.prog 83 #[.string s, .string a] w fun e w' => e = .returned (.bool (hasB (bl a) (bl s))) ∧ Below w.heap.size w w' := by
  have HA := Lib.hid ha
  clear ha
  go_enter Tryz.func83, Tryz.ntmps83
  go_wp2_with fail
  go_loopw [6] (fun _ wr => ∃ pos : Nat, wr.heap[w.heap.size]? = some (.stringIter s pos) ∧ Below w.heap.size w wr ∧ Hid (hasB (bl a) (bl s) = hasB (bl a) ((bl s).drop pos))) (fun _ wr => s.size - wr.iterPos w.heap.size)
  case atStart => exact ⟨0, World.iter_heap _ _ _, (Below.refl _ _).alloc (Nat.le_refl _) _, by show _ = _; simp⟩
  case round =>
    obtain ⟨pos, hit, hbw, HS⟩ := hrel
    have hip := iterPos_of hit
    have HIP := Lib.hid hip
    have HIT := Lib.hid hit
    clear hip
    by_cases hp : pos < s.size
    · have hnx := fun ty => Lib.run_next_any_at (P := Tryz.prog) wr w.heap.size s pos ty hit hp
      clear hit
      go_wp2_with fail
      clear hnx
      have hwo1 := Lib.iterAt_heap wr w.heap.size s pos (pos + (Utf8.decode s pos).2) HIT.out
      have hwo2 := Lib.below_iterAt hbw (Nat.le_refl _) s (pos + (Utf8.decode s pos).2)
      have hwo3 := Lib.iterAt_size wr w.heap.size s (pos + (Utf8.decode s pos).2)
      have hlt := lt_of_block HIT.out
      generalize hR : (Utf8.decode s pos).1 = rn
      generalize hW : wr.iterAt w.heap.size s (pos + (Utf8.decode s pos).2) = wo at *
      have HR := Lib.hid hR
      have HO1 := Lib.hid hwo1
      have hlt2 : w.heap.size < wo.heap.size := by omega
      clear hR hW hwo1 hwo3
      go_loopw [8] (fun _ wr2 => ∃ q : Nat, wr2.heap[wo.heap.size]? = some (.stringIter a q) ∧ Below wo.heap.size wo wr2 ∧ Hid (∀ (j : Nat) (c : UInt8), j < q → (bl a)[j]? = some c → ¬ rn = c.toNat)) (fun _ wr2 => a.size - wr2.iterPos wo.heap.size)
      case atStart => exact ⟨0, World.iter_heap _ _ _, (Below.refl _ _).alloc (Nat.le_refl _) _, fun j c hj => by omega⟩
      case round =>
        obtain ⟨q, hit2, hbw2, HS2⟩ := hrel
        have HIT2 := Lib.hid hit2
        have HIP2 := Lib.hid (iterPos_of hit2)
        by_cases hq : q < a.size
        · have haq : (a[q]'hq).toNat < 128 := HA.out _ (by
            rw [List.contains_iff_mem]
            exact List.mem_of_getElem? (byte_at a q hq))
          have hnx := fun ty => Lib.run_next_ascii_at (P := Tryz.prog) wr wo.heap.size a q ty hit2 hq haq
          clear hit2
          by_cases hm : rn = (a[q]'hq).toNat
          · have hm2 : ((rn : Int) == ((a[q]'hq).toNat : Int)) = true := by rw [hm]; simp
            have HM := Lib.hid hm
            clear hm
            go_wp2_with fail
            go_ret
            refine ⟨?_, ((hwo2.trans (hbw2.mono (by omega)))).trans (Lib.below_iterAt (Below.refl _ wr) (by omega) a (q + 1))⟩
            have h1 := rune_hit s (bl a) HA.out pos hp (a[q]'hq) (by rw [List.contains_iff_mem]; exact List.mem_of_getElem? (byte_at a q hq)) (by rw [HR.out]; exact HM.out)
            rw [HS.out, h1]
            rfl
          · have hm2 : ((rn : Int) == ((a[q]'hq).toNat : Int)) = false := by simp; omega
            have HM := Lib.hid hm
            clear hm
            go_wp2_with fail
            refine ⟨⟨q + 1, Lib.iterAt_heap wr _ a q (q + 1) HIT2.out, Lib.below_iterAt hbw2 (Nat.le_refl _) a (q + 1), fun j c hj hc => ?_⟩, ?_⟩
            · by_cases hjq : j < q
              · exact HS2.out j c hjq hc
              · obtain rfl : j = q := by omega
                rw [byte_at a j hq] at hc
                obtain rfl : a[j] = c := by simpa using hc
                exact HM.out
            · rw [iterPos_of (Lib.iterAt_heap wr _ a q (q + 1) HIT2.out), HIP2.out]
              omega
        · have hnx := fun ty => Lib.run_next_end_at (P := Tryz.prog) wr wo.heap.size a q ty hit2 hq
          clear hit2
          go_wp2_with fail
          have h1 := rune_none s (bl a) HA.out pos hp (fun c hc => by
            rw [HR.out]
            rw [List.contains_iff_mem] at hc
            obtain ⟨j, hj, he⟩ := List.getElem_of_mem hc
            exact HS2.out j c (by rw [← size_bl] at hj; omega) (by rw [List.getElem?_eq_getElem hj, he]))
          have h2 := (hbw2.block _ hlt2).trans HO1.out
          refine ⟨⟨pos + (Utf8.decode s pos).2, h2, hwo2.trans (hbw2.mono (by omega)), HS.out.trans h1⟩, ?_⟩
          rw [iterPos_of h2, HIP.out]
          have := width_pos s pos hp
          omega
    · have hnx := fun ty => Lib.run_next_end_at (P := Tryz.prog) wr w.heap.size s pos ty hit hp
      clear hit
      go_wp2_with fail
      go_ret
      refine ⟨?_, hbw⟩
      rw [HS.out, List.drop_of_length_le (by rw [← size_bl]; omega)]
      rfl
end Go.Proofs.YtjcdpccfhpbccaaGreatDoor
namespace Go.Proofs.YtjcdpccfhpbccaaGreatDoor
open Go.RowKit

/-- What stands between a word's first byte and its last. -/
def inner (x : List UInt8) : List UInt8 := (x.drop 1).take (x.length - 2)
def txt (u x : List UInt8) : Option (List UInt8) :=
  if x.length < 2 then none else if x[0]? ≠ some 91 then none else if x[x.length - 1]? ≠ some 93 then none else if hasB (91 :: 93 :: u) (inner x) = true then none else some (inner x)
def pText (u : List UInt8) : List (List UInt8) → Option (List UInt8 × List (List UInt8))
  | [] => none
  | x :: ws => (txt u x).map (·, ws)

theorem has_brackets (u : ByteArray) (hu : ∀ c, (bl u).contains c = true → c.toNat < 128) : ∀ c, (bl (⟨#[91, 93]⟩ ++ u)).contains c = true → c.toNat < 128 := by
  intro c hc
  have e : bl (⟨#[91, 93]⟩ ++ u) = 91 :: 93 :: bl u := by simp [bl, ByteArray.data_append]
  rw [e] at hc
  rw [List.contains_iff_mem] at hc
  simp at hc
  rcases hc with rfl | rfl | hc
  · decide
  · decide
  · exact hu c (by rw [List.contains_iff_mem]; simpa [bl] using hc)

theorem brk_bl (u : ByteArray) : bl (⟨#[91, 93]⟩ ++ u) = 91 :: 93 :: bl u := by simp [bl, ByteArray.data_append]
theorem txt_some {u x y : List UInt8} (h : txt u x = some y) : 2 ≤ x.length ∧ x[0]? = some 91 ∧ x[x.length - 1]? = some 93 ∧ hasB (91 :: 93 :: u) (inner x) = false ∧ y = inner x := by
  unfold txt at h
  by_cases h1 : x.length < 2
  · simp [h1] at h
  rw [if_neg h1] at h
  by_cases h2 : x[0]? ≠ some 91
  · rw [if_pos h2] at h; simp at h
  rw [if_neg h2] at h
  by_cases h3 : x[x.length - 1]? ≠ some 93
  · rw [if_pos h3] at h; simp at h
  rw [if_neg h3] at h
  by_cases h4 : hasB (91 :: 93 :: u) (inner x) = true
  · rw [if_pos h4] at h; simp at h
  rw [if_neg h4] at h
  exact ⟨by omega, Classical.not_not.1 h2, Classical.not_not.1 h3, by simpa using h4, by simpa using h.symm⟩
theorem txt_none {u x : List UInt8} (h : txt u x = none) : x.length < 2 ∨ (2 ≤ x.length ∧ (x[0]? ≠ some 91 ∨ (x[0]? = some 91 ∧ (x[x.length - 1]? ≠ some 93 ∨ (x[x.length - 1]? = some 93 ∧ hasB (91 :: 93 :: u) (inner x) = true))))) := by
  unfold txt at h
  by_cases h1 : x.length < 2
  · exact .inl h1
  rw [if_neg h1] at h
  refine .inr ⟨by omega, ?_⟩
  by_cases h2 : x[0]? ≠ some 91
  · exact .inl h2
  rw [if_neg h2] at h
  refine .inr ⟨Classical.not_not.1 h2, ?_⟩
  by_cases h3 : x[x.length - 1]? ≠ some 93
  · exact .inl h3
  rw [if_neg h3] at h
  refine .inr ⟨Classical.not_not.1 h3, ?_⟩
  by_cases h4 : hasB (91 :: 93 :: u) (inner x) = true
  · exact h4
  rw [if_neg h4] at h
  simp at h
theorem inner_bl (s : ByteArray) : bl (s.extract 1 (s.size - 1)) = inner (bl s) := by
  show (s.extract 1 (s.size - 1)).data.toList = _
  rw [Lib.extract_data]
  unfold inner
  rw [size_bl]
  rfl
theorem inner_mk {s : ByteArray} {x : List UInt8} (hs : (⟨x.toArray⟩ : ByteArray) = s) : bl (s.extract 1 (s.size - 1)) = inner x := by
  rw [inner_bl, ← hs, bl_mk]
theorem at_eq {s : ByteArray} {x : List UInt8} (hs : (⟨x.toArray⟩ : ByteArray) = s) (k : Nat) (h : k < s.size) {c : UInt8} (hc : x[k]? = some c) : ((s[k].toNat : Int) != (c.toNat : Int)) = false := by
  have h1 := byte_at s k h
  have h2 : (bl s)[k]? = x[k]? := by rw [← hs]
  rw [h2, hc] at h1
  have h3 : c = s[k] := by simpa using h1
  rw [← h3]
  simp
theorem at_ne {s : ByteArray} {x : List UInt8} (hs : (⟨x.toArray⟩ : ByteArray) = s) (k : Nat) (h : k < s.size) {c : UInt8} (hc : x[k]? ≠ some c) : ((s[k].toNat : Int) != (c.toNat : Int)) = true := by
  have h1 := byte_at s k h
  have h2 : (bl s)[k]? = x[k]? := by rw [← hs]
  rw [h2] at h1
  have h3 : s[k] ≠ c := fun e => hc (by rw [h1, e])
  simp
  intro e
  exact h3 (UInt8.toNat_inj.1 (by omega))

set_option maxRecDepth 100000 in
set_option maxHeartbeats 400000 in
theorem text_yes (l r : Nat) (x y : List UInt8) (ws : List (List UInt8)) (u : ByteArray) (hu : ∀ c, (bl u).contains c = true → c.toNat < 128) (hu2 : u.size ≤ 1) (h : txt (bl u) x = some y) (w : World) (hl : LnW w l r (x :: ws)) :
    Calls Tryz.prog 68 #[.pointer (some ⟨l, 0, none⟩), .string u] w (LnOk l r w (.string ⟨y.toArray⟩) ws) := by
  have HL := Lib.hid hl
  have HU := Lib.hid (has_brackets u hu)
  have HH := Lib.hid (txt_some h)
  clear hl hu h
  go_enter Tryz.func68, Tryz.ntmps68
  go_wp2_with fail
  refine (wordW_yes l r x ws w HL.out).mono ?_
  rintro e w1 ⟨rfl, hx, hl1, hm1⟩
  have HL1 := Lib.hid hl1
  clear hl1
  generalize hs : (⟨x.toArray⟩ : ByteArray) = s
  have hz : s.size = x.length := by rw [← hs]; exact size_mk x
  have h2 : 2 ≤ s.size := by have := HH.out.1; omega
  have hb : s.size ≤ 4294967280 := by omega
  have b0 : 0 < s.size := by omega
  have b1 : s.size - 1 < s.size := by omega
  have HZ := Lib.hid hz
  clear hz
  have t0 : (((s[0]'b0).toNat : Int) != 91) = false := at_eq (c := 91) hs 0 b0 HH.out.2.1
  have t1 : (((s[s.size - 1]'b1).toNat : Int) != 93) = false := at_eq (c := 93) hs (s.size - 1) b1 (by rw [HZ.out]; exact HH.out.2.2.1)
  have t2 : decide ((s.size : Int) < 2) = false := by simp; omega
  have HS := Lib.hid hs
  clear hs
  go_wp2_with fail
  refine (hasAny_any (s.extract 1 (s.size - 1)) _ HU.out w1).mono ?_
  rintro e w2 ⟨rfl, hb2⟩
  have e1 := inner_mk HS.out
  rw [brk_bl, e1, HH.out.2.2.2.1]
  have E1 := Lib.hid e1
  clear e1
  go_wp2_with fail
  go_ret
  refine ⟨?_, HL1.out.below hb2, hm1.then_below hb2⟩
  rw [HH.out.2.2.2.2, ← E1.out, mk_bl]
  rfl

set_option maxRecDepth 100000 in
set_option maxHeartbeats 400000 in
theorem text_no (l r : Nat) (x : List UInt8) (ws : List (List UInt8)) (u : ByteArray) (hu : ∀ c, (bl u).contains c = true → c.toNat < 128) (hu2 : u.size ≤ 1) (hlr : r ≠ l) (h : txt (bl u) x = none) (v : Value) (n : Int) (w : World) (hl : LnW w l r (x :: ws)) (hr : RdAt w r v n) :
    Calls Tryz.prog 68 #[.pointer (some ⟨l, 0, none⟩), .string u] w (LnNo l w n) := by
  have HL := Lib.hid hl
  have HR := Lib.hid hr
  have HU := Lib.hid (has_brackets u hu)
  have hh := txt_none h
  clear hl hu h hr
  rcases hh with h1 | ⟨h1, h2⟩
  · go_enter Tryz.func68, Tryz.ntmps68
    go_wp2_with fail
    refine (wordW_yes l r x ws w HL.out).mono ?_
    rintro e w1 ⟨rfl, hx, hl1, hm1⟩
    have c0 := hl1.c0
    have HR1 := Lib.hid (HR.out.mut hm1 hlr)
    clear hl1
    generalize hs : (⟨x.toArray⟩ : ByteArray) = s
    have hz : s.size = x.length := by rw [← hs]; exact size_mk x
    have t2 : decide ((s.size : Int) < 2) = true := by simp; omega
    have h3 : s.size < 2 := by omega
    clear hs hz
    go_wp2_with fail
    refine (give_any r v n w1 HR1.out).mono ?_
    rintro e w4 ⟨rfl, rfl⟩
    exact ⟨rfl, rfl, hm1⟩
  rcases h2 with h2 | ⟨h2, h3⟩
  · have H2 := Lib.hid h2
    clear h2
    go_enter Tryz.func68, Tryz.ntmps68
    go_wp2_with fail
    refine (wordW_yes l r x ws w HL.out).mono ?_
    rintro e w1 ⟨rfl, hx, hl1, hm1⟩
    have c0 := hl1.c0
    have HR1 := Lib.hid (HR.out.mut hm1 hlr)
    clear hl1
    generalize hs : (⟨x.toArray⟩ : ByteArray) = s
    have hz : s.size = x.length := by rw [← hs]; exact size_mk x
    have t2 : decide ((s.size : Int) < 2) = false := by simp; omega
    have h3 : 2 ≤ s.size := by omega
    have hb : s.size ≤ 4294967280 := by omega
    have b0 : 0 < s.size := by omega
    have b1 : s.size - 1 < s.size := by omega
    have HZ := Lib.hid hz
    clear hz
    have t0 : (((s[0]'b0).toNat : Int) != 91) = true := at_ne (c := 91) hs 0 b0 H2.out
    clear hs
    go_wp2_with fail
    refine (give_any r v n w1 HR1.out).mono ?_
    rintro e w4 ⟨rfl, rfl⟩
    exact ⟨rfl, rfl, hm1⟩
  rcases h3 with h3 | ⟨h3, h4⟩
  · have H2 := Lib.hid h2
    have H3 := Lib.hid h3
    clear h2 h3
    go_enter Tryz.func68, Tryz.ntmps68
    go_wp2_with fail
    refine (wordW_yes l r x ws w HL.out).mono ?_
    rintro e w1 ⟨rfl, hx, hl1, hm1⟩
    have c0 := hl1.c0
    have HR1 := Lib.hid (HR.out.mut hm1 hlr)
    clear hl1
    generalize hs : (⟨x.toArray⟩ : ByteArray) = s
    have hz : s.size = x.length := by rw [← hs]; exact size_mk x
    have t2 : decide ((s.size : Int) < 2) = false := by simp; omega
    have h3 : 2 ≤ s.size := by omega
    have hb : s.size ≤ 4294967280 := by omega
    have b0 : 0 < s.size := by omega
    have b1 : s.size - 1 < s.size := by omega
    have HZ := Lib.hid hz
    clear hz
    have t0 : (((s[0]'b0).toNat : Int) != 91) = false := at_eq (c := 91) hs 0 b0 H2.out
    have t1 : (((s[s.size - 1]'b1).toNat : Int) != 93) = true := at_ne (c := 93) hs (s.size - 1) b1 (by rw [HZ.out]; exact H3.out)
    clear hs
    go_wp2_with fail
    refine (give_any r v n w1 HR1.out).mono ?_
    rintro e w4 ⟨rfl, rfl⟩
    exact ⟨rfl, rfl, hm1⟩
  · have H2 := Lib.hid h2
    have H3 := Lib.hid h3
    have H4 := Lib.hid h4
    clear h2 h3 h4
    go_enter Tryz.func68, Tryz.ntmps68
    go_wp2_with fail
    refine (wordW_yes l r x ws w HL.out).mono ?_
    rintro e w1 ⟨rfl, hx, hl1, hm1⟩
    have HL1 := Lib.hid hl1
    have HR1 := Lib.hid (HR.out.mut hm1 hlr)
    clear hl1
    generalize hs : (⟨x.toArray⟩ : ByteArray) = s
    have hz : s.size = x.length := by rw [← hs]; exact size_mk x
    have t2 : decide ((s.size : Int) < 2) = false := by simp; omega
    have h3 : 2 ≤ s.size := by omega
    have hb : s.size ≤ 4294967280 := by omega
    have b0 : 0 < s.size := by omega
    have b1 : s.size - 1 < s.size := by omega
    have HZ := Lib.hid hz
    clear hz
    have t0 : (((s[0]'b0).toNat : Int) != 91) = false := at_eq (c := 91) hs 0 b0 H2.out
    have t1 : (((s[s.size - 1]'b1).toNat : Int) != 93) = false := at_eq (c := 93) hs (s.size - 1) b1 (by rw [HZ.out]; exact H3.out)
    have HS := Lib.hid hs
    clear hs
    go_wp2_with fail
    refine (hasAny_any (s.extract 1 (s.size - 1)) _ HU.out w1).mono ?_
    rintro e w2 ⟨rfl, hb2⟩
    have e1 := inner_mk HS.out
    rw [brk_bl, e1, H4.out]
    clear e1
    have c0 := (HL1.out.below hb2).c0
    have HR2 := Lib.hid (HR1.out.below hb2)
    go_wp2_with fail
    refine (give_any r v n w2 HR2.out).mono ?_
    rintro e w4 ⟨rfl, rfl⟩
    exact ⟨rfl, rfl, hm1.then_below hb2⟩

set_option maxHeartbeats 400000 in
theorem text_nil (l r : Nat) (u : ByteArray) (v : Value) (n : Int) (w : World) (hl : LnW w l r []) (hr : RdAt w r v n) :
    Calls Tryz.prog 68 #[.pointer (some ⟨l, 0, none⟩), .string u] w (LnNo l w n) := by
  have HL := Lib.hid hl
  have HR := Lib.hid hr
  clear hl hr
  go_enter Tryz.func68, Tryz.ntmps68
  go_wp2_with fail
  refine (wordW_no l r v n w HL.out HR.out).mono ?_
  rintro e w' ⟨rfl, rfl⟩
  exact ⟨rfl, rfl, Mut.refl _ _⟩

theorem text_y (l r : Nat) (ws ws' : List (List UInt8)) (y : List UInt8) (u : ByteArray) (hu : ∀ c, (bl u).contains c = true → c.toNat < 128) (hu2 : u.size ≤ 1) (h : pText (bl u) ws = some (y, ws')) (w : World) (hl : LnW w l r ws) :
    Calls Tryz.prog 68 #[.pointer (some ⟨l, 0, none⟩), .string u] w (LnOk l r w (.string ⟨y.toArray⟩) ws') := by
  cases ws with
  | nil => simp [pText] at h
  | cons x ws =>
    simp only [pText] at h
    cases hx : txt (bl u) x with
    | none => simp [hx] at h
    | some v => simp [hx] at h; obtain ⟨rfl, rfl⟩ := h; exact text_yes l r x v ws u hu hu2 hx w hl
theorem text_n (l r : Nat) (ws : List (List UInt8)) (u : ByteArray) (hu : ∀ c, (bl u).contains c = true → c.toNat < 128) (hu2 : u.size ≤ 1) (hlr : r ≠ l) (h : pText (bl u) ws = none) (v : Value) (n : Int) (w : World) (hl : LnW w l r ws) (hr : RdAt w r v n) :
    Calls Tryz.prog 68 #[.pointer (some ⟨l, 0, none⟩), .string u] w (LnNo l w n) := by
  cases ws with
  | nil => exact text_nil l r u v n w hl hr
  | cons x ws => exact text_no l r x ws u hu hu2 hlr (by simpa [pText] using h) v n w hl hr
theorem LnW.len {w : World} {l r : Nat} {ws : List (List UInt8)} (h : LnW w l r ws) : ∀ x ∈ ws, x.length ≤ 4294967280 := by
  obtain ⟨s, more, h1, h2, h3⟩ := h
  intro x hx
  rw [← h2] at hx
  have := Scr.left_len x hx
  rw [← size_bl] at this
  omega
theorem inner_len (x : List UInt8) : (inner x).length ≤ x.length := by unfold inner; simp; omega
theorem pText_len {u y : List UInt8} {ws ws' : List (List UInt8)} (h : pText u ws = some (y, ws')) : ∃ x ∈ ws, y.length ≤ x.length := by
  cases ws with
  | nil => simp [pText] at h
  | cons x ws =>
    simp only [pText] at h
    cases hx : txt u x with
    | none => simp [hx] at h
    | some v =>
      simp [hx] at h
      obtain ⟨rfl, rfl⟩ := h
      refine ⟨x, List.mem_cons_self, ?_⟩
      rw [(txt_some hx).2.2.2.2]
      exact inner_len x
theorem text_len {w : World} {l r : Nat} {u y : List UInt8} {ws ws' : List (List UInt8)} (hl : LnW w l r ws) (h : pText u ws = some (y, ws')) : y.length ≤ 4294967280 := by
  obtain ⟨x, hx, hy⟩ := pText_len h
  have := hl.len x hx
  omega
end Go.Proofs.YtjcdpccfhpbccaaGreatDoor
