/-
  How long the text of a bounded script is; what a bounded script's numbers give.
-/
import Derived.Test.YtjcdpccfhpbccaaGreatDoorN4
namespace Go.Proofs.YtjcdpccfhpbccaaGreatDoor
open Go.RowKit Go.Proofs.YtjcdpccfhpbccaaGreatDoorW.PrintWords

structure NumOk (s : ScrD) : Prop where
  n : ∀ x ∈ [s.clients, s.shift, s.recs, s.chunks], I64 x
  c : ∀ row ∈ s.calls, ∀ c ∈ row, I64 c.q.k ∧ I64 c.q.i ∧ I64 c.q.b ∧ ∀ o ∈ c.ops, I64 o.i ∧ I64 o.t ∧ I64 o.a
  p : ∀ x ∈ s.picks, 0 ≤ x ∧ x ≤ 255
theorem itoa_le {v : Int} (h : I64 v) : (Lib.itoa v).length ≤ 21 := Lib.itoa_length_le v h.1 h.2
theorem nums_le {l : List Int} (h : ∀ x ∈ l, I64 x) : (numsText l).length ≤ 22 * l.length := by
  induction l with
  | nil => simp [numsText]
  | cons n l ih =>
    have h1 := ih (fun x hx => h x (by simp [hx]))
    have h2 := itoa_le (h n (by simp))
    simp only [numsText, List.flatMap_cons, List.length_append, List.length_cons] at h1 ⊢
    omega
theorem numsTo_le (n : Int) (vs : Nat → Int) (h : ∀ q, I64 (vs q)) : ∀ k, (numsTo n vs k).length ≤ 22 * k
  | 0 => by simp [numsTo]
  | k + 1 => by
    have h1 := numsTo_le n vs h k
    have h2 := itoa_le (h k)
    simp only [numsTo, List.length_append]
    split
    · simp only [List.length_cons]; omega
    · simp only [List.length_nil]; omega
theorem brkd_le (c : Bool) (y : ByteArray) : (brkd c y).length ≤ y.size + 3 := by
  unfold brkd
  split
  · have := size_bl y
    simp only [List.length_cons, List.length_append, List.length_nil]
    omega
  · simp
theorem oText_le {o : OpD} (h1 : I64 o.i ∧ I64 o.t ∧ I64 o.a) (h2 : o.n.size ≤ 100 ∧ o.x.size ≤ 100) : (oText o).length ≤ 600 := by
  unfold oText opText
  split
  · have e1 := shWord_len o.k.toNat
    have e2 := numsTo_le (shNum o.k.toNat) (sel3 o.i o.t o.a) (fun q => by
      match q with
      | 0 => exact h1.1
      | 1 => exact h1.2.1
      | _ + 2 => exact h1.2.2) 3
    have e3 := brkd_le (shName o.k.toNat) o.n
    have e4 := brkd_le (shText o.k.toNat) o.x
    simp only [List.length_append]
    omega
  · simp
theorem opsText_le {l : List OpD} (h1 : ∀ o ∈ l, I64 o.i ∧ I64 o.t ∧ I64 o.a) (h2 : ∀ o ∈ l, o.n.size ≤ 100 ∧ o.x.size ≤ 100) : (opsText l).length ≤ 602 * l.length := by
  induction l with
  | nil => simp [opsText]
  | cons o l ih =>
    have e1 := ih (fun x hx => h1 x (by simp [hx])) (fun x hx => h2 x (by simp [hx]))
    have e2 := oText_le (h1 o (by simp)) (h2 o (by simp))
    simp only [opsText, List.flatMap_cons, List.length_append, List.length_cons] at e1 ⊢
    omega
theorem qText_le {q : QD} (h : I64 q.k ∧ I64 q.i ∧ I64 q.b) (hx : q.x.size ≤ 150) : (qText q).length ≤ 240 := by
  have e1 := itoa_le h.1
  have e2 := itoa_le h.2.1
  have e3 := itoa_le h.2.2
  have e4 := size_bl q.x
  simp only [qText, List.length_append, List.length_cons, List.length_nil]
  omega
theorem tText_le {c : CallD} (h : CB c) (h1 : I64 c.q.k ∧ I64 c.q.i ∧ I64 c.q.b ∧ ∀ o ∈ c.ops, I64 o.i ∧ I64 o.t ∧ I64 o.a) : (tText c).length ≤ 20000 := by
  have e1 := opsText_le h1.2.2.2 h.o
  have e2 := qText_le ⟨h1.1, h1.2.1, h1.2.2.1⟩ h.x
  have e3 := h.l
  unfold tText
  repeat' split
  all_goals (simp only [List.length_append, List.length_cons, List.length_nil]; omega)
theorem callsText_le {l : List CallD} (h : ∀ c ∈ l, CB c ∧ I64 c.q.k ∧ I64 c.q.i ∧ I64 c.q.b ∧ ∀ o ∈ c.ops, I64 o.i ∧ I64 o.t ∧ I64 o.a) : (callsText l).length ≤ 20001 * l.length := by
  induction l with
  | nil => simp [callsText]
  | cons c l ih =>
    have e1 := ih (fun x hx => h x (by simp [hx]))
    have e2 := tText_le (h c (by simp)).1 (h c (by simp)).2
    simp only [callsText, List.flatMap_cons, List.length_append, List.length_cons] at e1 ⊢
    omega
theorem rowsText_le {l : List (List CallD)} (h : ∀ row ∈ l, ∀ c ∈ row, CB c ∧ I64 c.q.k ∧ I64 c.q.i ∧ I64 c.q.b ∧ ∀ o ∈ c.ops, I64 o.i ∧ I64 o.t ∧ I64 o.a) : (rowsText l).length ≤ 7 * l.length + 20001 * tot l := by
  induction l with
  | nil => simp [rowsText]
  | cons r l ih =>
    have e1 := ih (fun x hx => h x (by simp [hx]))
    have e2 := callsText_le (h r (by simp))
    simp only [rowsText, tot, List.flatMap_cons, List.map_cons, List.sum_cons, List.length_append, List.length_cons, List.length_nil] at e1 ⊢
    omega
theorem prText_le {s : ScrD} (h : Bnd s) (h1 : NumOk s) : (prText s).length ≤ 4294967200 := by
  have e1 := rowsText_le (fun row hr c hc => ⟨h.c row hr c hc, h1.c row hr c hc⟩)
  have e2 := nums_le h1.n
  have e3 := nums_le (l := s.picks) (fun x hx => by have := h1.p x hx; exact ⟨by omega, by omega⟩)
  have e4 := h.rows
  have e5 := h.n
  have e6 := h.picks
  simp only [prText, List.length_append, List.length_cons, List.length_nil] at e2 ⊢
  omega
theorem row_le_tot {l : List (List CallD)} {row : List CallD} (h : row ∈ l) : row.length ≤ tot l := by
  induction l with
  | nil => simp at h
  | cons r l ih =>
    simp only [tot, List.map_cons, List.sum_cons]
    rcases List.mem_cons.1 h with rfl | h
    · omega
    · have := ih h
      unfold tot at this
      omega
theorem Bnd.ok {s : ScrD} (h : Bnd s) (h1 : NumOk s) : ScrOk s := by
  refine ⟨h1.n, fun row hr => ⟨by have := row_le_tot hr; have := h.n; omega, fun c hc => ⟨⟨fun o ho => ?_, (h1.c row hr c hc).1, (h1.c row hr c hc).2.1, (h1.c row hr c hc).2.2.1, by have := (h.c row hr c hc).x; omega⟩, by have := (h.c row hr c hc).l; omega⟩⟩, by have := h.rows; omega, h1.p⟩
  have e1 := (h1.c row hr c hc).2.2.2 o ho
  have e2 := (h.c row hr c hc).o o ho
  exact ⟨e1.1, e1.2.1, e1.2.2, Nat.le_trans e2.1 (by decide), Nat.le_trans e2.2 (by decide)⟩
theorem Bnd.small {s : ScrD} (h : Bnd s) : s.calls.length ≤ 1048576 ∧ ∀ row ∈ s.calls, row.length ≤ 1048576 ∧ ∀ c ∈ row, c.ops.length ≤ 1048576 :=
  ⟨by have := h.rows; omega, fun row hr => ⟨by have := row_le_tot hr; have := h.n; omega, fun c hc => by have := (h.c row hr c hc).l; omega⟩⟩
end Go.Proofs.YtjcdpccfhpbccaaGreatDoor
