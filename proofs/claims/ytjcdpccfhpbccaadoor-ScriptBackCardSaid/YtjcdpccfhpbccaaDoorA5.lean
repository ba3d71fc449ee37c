/-
  The walk of hasAny at an ASCII text of runes: whether one of some bytes stands in a text.
-/
import Derived.Test.YtjcdpccfhpbccaaDoorA3
import Derived.Lib.OthersKept
namespace Go.Proofs.YtjcdpccfhpbccaaDoor
open Go.RowKit

theorem get_of (s : ByteArray) (i : Nat) (h : i < s.size) : s.get! i = s[i] := by
  simp [ByteArray.get!, getElem!_pos, h]
  rfl
/-- What a rune of more than one byte takes in is no ASCII byte. -/
theorem decode_skip (s : ByteArray) (pos : Nat) (h : pos < s.size) (ha : 128 ≤ (s[pos]'h).toNat) : ∀ j, pos ≤ j → j < pos + (Utf8.decode s pos).2 → ∃ hj : j < s.size, 128 ≤ (s[j]'hj).toNat := by
  have hn : ¬ (s[pos]'h).toNat < 128 := by omega
  intro j h1 h2
  have key : ∀ k, (decide (pos + k < s.size) && (s.get! (pos + k)).toNat / 64 == 2) = true → ∃ hj : pos + k < s.size, 128 ≤ (s[pos + k]'hj).toNat := by
    intro k hk
    simp only [Bool.and_eq_true, decide_eq_true_eq, beq_iff_eq] at hk
    obtain ⟨hk1, hk2⟩ := hk
    refine ⟨hk1, ?_⟩
    rw [get_of s _ hk1] at hk2
    omega
  by_cases h0 : j = pos
  · subst h0; exact ⟨h, ha⟩
  simp only [Utf8.decode, get_at s pos h, hn, if_false] at h2
  have step : ∀ m, j < pos + m → m ≤ 4 → (∀ k, 1 ≤ k → k < m → (decide (pos + k < s.size) && (s.get! (pos + k)).toNat / 64 == 2) = true) → ∃ hj : j < s.size, 128 ≤ (s[j]'hj).toNat := by
    intro m hm hm4 hall
    obtain ⟨k, rfl⟩ : ∃ k, j = pos + k := ⟨j - pos, by omega⟩
    exact key k (hall k (by omega) (by omega))
  split at h2
  · rename_i hc
    simp only [Bool.and_eq_true] at hc
    split at h2
    · exact step 2 h2 (by omega) (fun k hk1 hk2 => by obtain rfl : k = 1 := by omega
                                                      simp only [Bool.and_eq_true]; exact hc.2)
    · exact step 1 h2 (by omega) (fun k hk1 hk2 => by omega)
  · split at h2
    · rename_i hc
      simp only [Bool.and_eq_true] at hc
      split at h2
      · refine step 3 h2 (by omega) (fun k hk1 hk2 => ?_)
        obtain rfl | rfl : k = 1 ∨ k = 2 := by omega
        · simp only [Bool.and_eq_true]; exact hc.1.2
        · simp only [Bool.and_eq_true]; exact hc.2
      · exact step 1 h2 (by omega) (fun k hk1 hk2 => by omega)
    · split at h2
      · rename_i hc
        simp only [Bool.and_eq_true] at hc
        split at h2
        · refine step 4 h2 (by omega) (fun k hk1 hk2 => ?_)
          obtain rfl | rfl | rfl : k = 1 ∨ k = 2 ∨ k = 3 := by omega
          · simp only [Bool.and_eq_true]; exact hc.1.1.2
          · simp only [Bool.and_eq_true]; exact hc.1.2
          · simp only [Bool.and_eq_true]; exact hc.2
        · exact step 1 h2 (by omega) (fun k hk1 hk2 => by omega)
      · exact step 1 h2 (by omega) (fun k hk1 hk2 => by omega)
/-- Whether one of some bytes stands in a text. -/
def hasB (bs l : List UInt8) : Bool := l.any fun c => bs.contains c
theorem hasB_skip (bs l : List UInt8) (pos : Nat) : ∀ (n : Nat), (∀ j c, pos ≤ j → j < pos + n → l[j]? = some c → bs.contains c = false) → hasB bs (l.drop pos) = hasB bs (l.drop (pos + n)) := by
  intro n
  induction n generalizing pos with
  | zero => intro _; rfl
  | succ n ih =>
    intro h
    by_cases hl : pos < l.length
    · have h1 := ih (pos + 1) (fun j c h1 h2 h3 => h j c (by omega) (by omega) h3)
      rw [show pos + (n + 1) = pos + 1 + n from by omega, ← h1]
      have h2 := h pos l[pos] (by omega) (by omega) (List.getElem?_eq_getElem hl)
      rw [List.drop_eq_getElem_cons hl]
      simp only [hasB, List.any_cons, h2, Bool.false_or]
    · rw [List.drop_of_length_le (by omega), List.drop_of_length_le (by omega)]
theorem hasB_hit (bs l : List UInt8) (pos : Nat) (c : UInt8) (hc : l[pos]? = some c) (h : bs.contains c = true) : hasB bs (l.drop pos) = true := by
  have hl : pos < l.length := (List.getElem?_eq_some_iff.1 hc).1
  have he : l[pos] = c := (List.getElem?_eq_some_iff.1 hc).2
  rw [List.drop_eq_getElem_cons hl, he]
  simp only [hasB, List.any_cons, h, Bool.true_or]

theorem width_pos (s : ByteArray) (pos : Nat) (h : pos < s.size) : 1 ≤ (Utf8.decode s pos).2 := by
  by_cases ha : (s[pos]'h).toNat < 128
  · rw [decode_ascii s pos h ha]
    exact Nat.le_refl _
  · exact (decode_high s pos h (by omega)).2

/-- A rune that is none of some ASCII bytes: what it takes in is none of them. -/
theorem rune_none (s : ByteArray) (bs : List UInt8) (hbs : ∀ c, bs.contains c = true → c.toNat < 128) (pos : Nat) (h : pos < s.size) (hno : ∀ c : UInt8, bs.contains c = true → ¬ (Utf8.decode s pos).1 = c.toNat) :
    hasB bs ((bl s).drop pos) = hasB bs ((bl s).drop (pos + (Utf8.decode s pos).2)) := by
  refine hasB_skip bs (bl s) pos _ (fun j c h1 h2 h3 => ?_)
  by_cases ha : (s[pos]'h).toNat < 128
  · rw [decode_ascii s pos h ha] at h2 hno
    obtain rfl : j = pos := by simp at h2; omega
    rw [byte_at s j h] at h3
    obtain rfl : s[j] = c := by simpa using h3
    cases hb : bs.contains s[j] with
    | false => rfl
    | true => exact absurd rfl (hno _ hb)
  · obtain ⟨hj, hh⟩ := decode_skip s pos h (by omega) j h1 h2
    rw [byte_at s j hj] at h3
    obtain rfl : s[j] = c := by simpa using h3
    cases hb : bs.contains s[j] with
    | false => rfl
    | true => have := hbs _ hb; omega
theorem rune_hit (s : ByteArray) (bs : List UInt8) (hbs : ∀ c, bs.contains c = true → c.toNat < 128) (pos : Nat) (h : pos < s.size) (c : UInt8) (hc : bs.contains c = true) (he : (Utf8.decode s pos).1 = c.toNat) :
    hasB bs ((bl s).drop pos) = true := by
  have hc2 := hbs c hc
  have ha : (s[pos]'h).toNat < 128 := by
    rcases Nat.lt_or_ge (s[pos]'h).toNat 128 with h1 | h1
    · exact h1
    · have := (decode_high s pos h h1).1; omega
  rw [decode_ascii s pos h ha] at he
  have : s[pos] = c := UInt8.toNat_inj.1 he
  exact hasB_hit bs (bl s) pos c (by rw [byte_at s pos h, this]) hc

set_option maxRecDepth 100000 in
set_option maxHeartbeats 800000 in
theorem hasAny_any (s a : ByteArray) (ha : ∀ c, (bl a).contains c = true → c.toNat < 128) (w : World) :
    Calls Tryd.prog 66 #[.string s, .string a] w fun e w' => e = .returned (.bool (hasB (bl a) (bl s))) ∧ Below w.heap.size w w' := by
  have HA := Lib.hid ha
  clear ha
  go_enter Tryd.func66, Tryd.ntmps66
  go_wp2_with fail
  go_loopw [6] (fun _ wr => ∃ pos : Nat, wr.heap[w.heap.size]? = some (.stringIter s pos) ∧ Below w.heap.size w wr ∧ Hid (hasB (bl a) (bl s) = hasB (bl a) ((bl s).drop pos))) (fun _ wr => s.size - wr.iterPos w.heap.size)
  case atStart => exact ⟨0, World.iter_heap _ _ _, (Below.refl _ _).alloc (Nat.le_refl _) _, by show _ = _; simp⟩
  case round =>
    obtain ⟨pos, hit, hbw, HS⟩ := hrel
    have hip := iterPos_of hit
    have HIP := Lib.hid hip
    have HIT := Lib.hid hit
    clear hip
    by_cases hp : pos < s.size
    · have hnx := fun ty => Lib.run_next_any_at (P := Tryd.prog) wr w.heap.size s pos ty hit hp
      clear hit
      go_wp2_with fail
      clear hnx
      have hwo1 := Lib.iterAt_heap wr w.heap.size s pos (pos + (Utf8.decode s pos).2) HIT.out
      have hwo2 := Lib.below_iterAt hbw (Nat.le_refl _) s (pos + (Utf8.decode s pos).2)
      have hwo3 := Lib.iterAt_size wr w.heap.size s (pos + (Utf8.decode s pos).2)
      have hlt := lt_of_block HIT.out
      generalize hR : (Utf8.decode s pos).1 = rn
      generalize hW : wr.iterAt w.heap.size s (pos + (Utf8.decode s pos).2) = wo at *
      have HR := Lib.hid hR
      have HO1 := Lib.hid hwo1
      have hlt2 : w.heap.size < wo.heap.size := by omega
      clear hR hW hwo1 hwo3
      go_loopw [8] (fun _ wr2 => ∃ q : Nat, wr2.heap[wo.heap.size]? = some (.stringIter a q) ∧ Below wo.heap.size wo wr2 ∧ Hid (∀ (j : Nat) (c : UInt8), j < q → (bl a)[j]? = some c → ¬ rn = c.toNat)) (fun _ wr2 => a.size - wr2.iterPos wo.heap.size)
      case atStart => exact ⟨0, World.iter_heap _ _ _, (Below.refl _ _).alloc (Nat.le_refl _) _, fun j c hj => by omega⟩
      case round =>
        obtain ⟨q, hit2, hbw2, HS2⟩ := hrel
        have HIT2 := Lib.hid hit2
        have HIP2 := Lib.hid (iterPos_of hit2)
        by_cases hq : q < a.size
        · have haq : (a[q]'hq).toNat < 128 := HA.out _ (by
            rw [List.contains_iff_mem]
            exact List.mem_of_getElem? (byte_at a q hq))
          have hnx := fun ty => Lib.run_next_ascii_at (P := Tryd.prog) wr wo.heap.size a q ty hit2 hq haq
          clear hit2
          by_cases hm : rn = (a[q]'hq).toNat
          · have hm2 : ((rn : Int) == ((a[q]'hq).toNat : Int)) = true := by rw [hm]; simp
            have HM := Lib.hid hm
            clear hm
            go_wp2_with fail
            go_ret
            refine ⟨?_, ((hwo2.trans (hbw2.mono (by omega)))).trans (Lib.below_iterAt (Below.refl _ wr) (by omega) a (q + 1))⟩
            have h1 := rune_hit s (bl a) HA.out pos hp (a[q]'hq) (by rw [List.contains_iff_mem]; exact List.mem_of_getElem? (byte_at a q hq)) (by rw [HR.out]; exact HM.out)
            rw [HS.out, h1]
            rfl
          · have hm2 : ((rn : Int) == ((a[q]'hq).toNat : Int)) = false := by simp; omega
            have HM := Lib.hid hm
            clear hm
            go_wp2_with fail
            refine ⟨⟨q + 1, Lib.iterAt_heap wr _ a q (q + 1) HIT2.out, Lib.below_iterAt hbw2 (Nat.le_refl _) a (q + 1), fun j c hj hc => ?_⟩, ?_⟩
            · by_cases hjq : j < q
              · exact HS2.out j c hjq hc
              · obtain rfl : j = q := by omega
                rw [byte_at a j hq] at hc
                obtain rfl : a[j] = c := by simpa using hc
                exact HM.out
            · rw [iterPos_of (Lib.iterAt_heap wr _ a q (q + 1) HIT2.out), HIP2.out]
              omega
        · have hnx := fun ty => Lib.run_next_end_at (P := Tryd.prog) wr wo.heap.size a q ty hit2 hq
          clear hit2
          go_wp2_with fail
          have h1 := rune_none s (bl a) HA.out pos hp (fun c hc => by
            rw [HR.out]
            rw [List.contains_iff_mem] at hc
            obtain ⟨j, hj, he⟩ := List.getElem_of_mem hc
            exact HS2.out j c (by rw [← size_bl] at hj; omega) (by rw [List.getElem?_eq_getElem hj, he]))
          have h2 := (hbw2.block _ hlt2).trans HO1.out
          refine ⟨⟨pos + (Utf8.decode s pos).2, h2, hwo2.trans (hbw2.mono (by omega)), HS.out.trans h1⟩, ?_⟩
          rw [iterPos_of h2, HIP.out]
          have := width_pos s pos hp
          omega
    · have hnx := fun ty => Lib.run_next_end_at (P := Tryd.prog) wr w.heap.size s pos ty hit hp
      clear hit
      go_wp2_with fail
      go_ret
      refine ⟨?_, hbw⟩
      rw [HS.out, List.drop_of_length_le (by rw [← size_bl]; omega)]
      rfl
end Go.Proofs.YtjcdpccfhpbccaaDoor
