/-
  A text's lines, plainly.
-/
import Derived.Test.YtjcdpccfhpbccaaGreatDoorE3
import Derived.Lib.Split
import Derived.Lib.CountLaws
import Derived.Lib.IndexBytes
namespace Go.Proofs.YtjcdpccfhpbccaaGreatDoor
open Go.RowKit

def pieces : List UInt8 → List (List UInt8)
  | [] => [[]]
  | c :: l => if c = 10 then [] :: pieces l else match pieces l with
    | [] => [[c]]
    | p :: ps => (c :: p) :: ps
theorem pieces_ne (l : List UInt8) : pieces l ≠ [] := by
  cases l with
  | nil => simp [pieces]
  | cons c l =>
    rw [pieces]
    split
    · simp
    · split <;> simp
theorem pieces_miss : ∀ l : List UInt8, Lib.indexByte l 10 = -1 → pieces l = [l]
  | [], _ => rfl
  | c :: l, h => by
    unfold Lib.indexByte at h
    by_cases hc : c = 10
    · subst hc; simp at h
    · have hc' : (c == 10) = false := beq_eq_false_iff_ne.2 hc
      rw [hc'] at h
      have hl : Lib.indexByte l 10 = -1 := by
        have := Lib.indexByte_ge l 10
        by_cases hx : Lib.indexByte l 10 = -1
        · exact hx
        · simp [hx] at h; omega
      rw [pieces, if_neg hc, pieces_miss l hl]
theorem pieces_hit : ∀ (l : List UInt8) (i : Nat), Lib.indexByte l 10 = i → pieces l = l.take i :: pieces (l.drop (i + 1))
  | [], i, h => by simp [Lib.indexByte] at h
  | c :: l, i, h => by
    unfold Lib.indexByte at h
    by_cases hc : c = 10
    · subst hc
      have : i = 0 := by simp at h; omega
      subst this
      rw [pieces, if_pos rfl]
      rfl
    · have hc' : (c == 10) = false := beq_eq_false_iff_ne.2 hc
      rw [hc'] at h
      by_cases hx : Lib.indexByte l 10 = -1
      · simp [hx] at h
      · simp [hx] at h
        have hge := Lib.indexByte_ge l 10
        obtain ⟨j, rfl⟩ : ∃ j, i = j + 1 := ⟨i - 1, by omega⟩
        have hj : Lib.indexByte l 10 = j := by omega
        rw [pieces, if_neg hc, pieces_hit l j hj]
        rfl
theorem split_pieces : ∀ (n : Nat) (l : List UInt8), l.length ≤ n → Lib.splitK [10] 0 (Lib.count l [10]) l = pieces l ∧ (pieces l).length = Lib.count l [10] + 1 := by
  intro n
  induction n with
  | zero =>
    intro l hl
    have : l = [] := by cases l with | nil => rfl | cons c l => simp at hl
    subst this
    exact ⟨rfl, rfl⟩
  | succ n ih =>
    intro l hl
    have h1 := Lib.index_one l 10
    have hge := Lib.indexByte_ge l 10
    by_cases hx : Lib.indexByte l 10 = -1
    · have h2 : Lib.index l [10] = -1 := by rw [h1, hx]
      rw [Lib.count_miss h2, pieces_miss l hx]
      exact ⟨rfl, rfl⟩
    · obtain ⟨i, hi⟩ : ∃ i : Nat, Lib.indexByte l 10 = i := ⟨(Lib.indexByte l 10).toNat, by omega⟩
      have h2 : Lib.index l [10] = i := by rw [h1, hi]
      have h3 := Lib.index_room l [10] (by omega)
      simp at h3
      obtain ⟨e1, e2⟩ := ih (l.drop (i + 1)) (by simp; omega)
      have hne : (Lib.index l [10] == -1) = false := beq_eq_false_iff_ne.2 (by omega)
      rw [Lib.count_hit (by simp) h2, pieces_hit l i hi, Nat.add_comm 1]
      refine ⟨?_, by simp at e2 ⊢; omega⟩
      show (if Lib.index l [10] == -1 then _ else _) = _
      rw [hne, h2]
      simp only [Bool.false_eq_true, if_false, List.length_singleton, Int.toNat_natCast, Nat.add_zero]
      rw [e1]
theorem pieces_len : ∀ l : List UInt8, ∀ p ∈ pieces l, p.length ≤ l.length
  | [], p, hp => by simp [pieces] at hp; simp [hp]
  | c :: l, p, hp => by
    have ih := pieces_len l
    rw [pieces] at hp
    split at hp
    · rcases List.mem_cons.1 hp with rfl | hp
      · simp
      · have := ih p hp; simp; omega
    · split at hp
      · simp at hp; simp [hp]
      · rename_i q qs hq
        rcases List.mem_cons.1 hp with rfl | hp
        · have := ih q (by rw [hq]; simp); simp; omega
        · have := ih p (by rw [hq]; simp [hp]); simp; omega
theorem pieces_count (l : List UInt8) : (pieces l).length ≤ l.length + 1 := by
  induction l with
  | nil => simp [pieces]
  | cons c l ih =>
    rw [pieces]
    split
    · simp; omega
    · split
      · simp
      · rename_i q qs hq
        rw [hq] at ih
        simp at ih ⊢
        omega
end Go.Proofs.YtjcdpccfhpbccaaGreatDoor
