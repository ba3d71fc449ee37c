/-
  Plain words of the scripts: a line's words, as lists of bytes.
-/
namespace Go.Proofs.YtjcdpccfhpbccaaDoor.Scr

abbrev Bytes := List UInt8

/-- Whether one stands between brackets behind a byte. -/
def brk (b : Bool) (c : UInt8) : Bool := if c = 91 then true else if c = 93 then false else b

/-- The first blank that stands in no brackets. -/
def blankAt : Bool → Bytes → Option Nat
  | _, [] => none
  | b, c :: l => if c = 32 ∧ b = false then some 0 else (blankAt (brk b c) l).map (· + 1)

theorem blankAt_lt : ∀ (l : Bytes) (b : Bool) (i : Nat), blankAt b l = some i → i < l.length := by
  intro l
  induction l with
  | nil => intro b i h; simp [blankAt] at h
  | cons c l ih =>
    intro b i h
    simp only [blankAt] at h
    split at h
    · simp at h; subst h; simp
    · cases h2 : blankAt (brk b c) l with
      | none => simp [h2] at h
      | some j => simp [h2] at h; have := ih _ _ h2; simp; omega

/-- The words of a line. -/
def words (l : Bytes) : List Bytes :=
  match h : blankAt false l with
  | none => [l]
  | some i => l.take i :: words (l.drop (i + 1))
termination_by l.length
decreasing_by have := blankAt_lt l false i h; simp; omega

theorem words_none {l : Bytes} (h : blankAt false l = none) : words l = [l] := by
  rw [words]; split
  · rfl
  · simp_all
theorem words_some {l : Bytes} {i : Nat} (h : blankAt false l = some i) : words l = l.take i :: words (l.drop (i + 1)) := by
  rw [words]; split
  · simp_all
  · simp_all

/-- What is left of a line: its words. -/
def left (s : Bytes) (more : Bool) : List Bytes := if more then words s else []

theorem blankAt_step {l : Bytes} {k : Nat} {b : Bool} {c : UInt8} (hc : l[k]? = some c) (hn : ¬ (c = 32 ∧ b = false)) :
    (blankAt b (l.drop k)).map (· + k) = (blankAt (brk b c) (l.drop (k + 1))).map (· + (k + 1)) := by
  have hlt : k < l.length := (List.getElem?_eq_some_iff.1 hc).1
  have e : l.drop k = c :: l.drop (k + 1) := by
    rw [List.drop_eq_getElem_cons hlt]
    have := (List.getElem?_eq_some_iff.1 hc).2
    rw [this]
  rw [e, blankAt, if_neg hn, Option.map_map]
  congr 1
  funext x
  simp; omega
theorem blankAt_hit {l : Bytes} {k : Nat} {c : UInt8} (hc : l[k]? = some c) (hn : c = 32) :
    (blankAt false (l.drop k)).map (· + k) = some k := by
  have hlt : k < l.length := (List.getElem?_eq_some_iff.1 hc).1
  have e : l.drop k = c :: l.drop (k + 1) := by
    rw [List.drop_eq_getElem_cons hlt]
    have := (List.getElem?_eq_some_iff.1 hc).2
    rw [this]
  rw [e, blankAt, if_pos ⟨hn, rfl⟩]
  simp
theorem blankAt_end {l : Bytes} {b : Bool} : (blankAt b (l.drop l.length)).map (· + l.length) = none := by simp [blankAt]
theorem left_cons {s : Bytes} {more : Bool} {x : Bytes} {ws : List Bytes} (h : left s more = x :: ws) :
    more = true ∧ ((∃ i, blankAt false s = some i ∧ x = s.take i ∧ ws = left (s.drop (i + 1)) true) ∨ (blankAt false s = none ∧ x = s ∧ ws = left [] false)) := by
  cases more with
  | false => simp [left] at h
  | true =>
    refine ⟨rfl, ?_⟩
    simp only [left, if_true] at h
    cases hb : blankAt false s with
    | none =>
      rw [words_none hb] at h
      simp at h
      exact .inr ⟨rfl, h.1.symm, by simp [left, h.2]⟩
    | some i =>
      rw [words_some hb] at h
      simp at h
      exact .inl ⟨i, rfl, h.1.symm, by simp [left, h.2]⟩
theorem left_nil {s : Bytes} {more : Bool} (h : left s more = []) : more = false := by
  cases more with
  | false => rfl
  | true =>
    simp only [left, if_true] at h
    cases hb : blankAt false s with
    | none => rw [words_none hb] at h; simp at h
    | some i => rw [words_some hb] at h; simp at h
theorem words_len : ∀ (n : Nat) (l : Bytes), l.length ≤ n → ∀ x ∈ words l, x.length ≤ l.length := by
  intro n
  induction n with
  | zero =>
    intro l hl x hx
    cases hb : blankAt false l with
    | none => rw [words_none hb] at hx; simp at hx; rw [hx]; exact Nat.le_refl _
    | some i => have := blankAt_lt _ _ _ hb; omega
  | succ n ih =>
    intro l hl x hx
    cases hb : blankAt false l with
    | none => rw [words_none hb] at hx; simp at hx; rw [hx]; exact Nat.le_refl _
    | some i =>
      have h1 := blankAt_lt _ _ _ hb
      rw [words_some hb] at hx
      rcases List.mem_cons.1 hx with rfl | hx
      · simp; omega
      · have h2 := ih (l.drop (i + 1)) (by simp; omega) x hx
        simp at h2
        omega
theorem left_len {s : Bytes} {more : Bool} : ∀ x ∈ left s more, x.length ≤ s.length := by
  intro x hx
  cases more with
  | false => simp [left] at hx
  | true => exact words_len _ _ (Nat.le_refl _) x (by simpa [left] using hx)
theorem left_more {s : Bytes} {x : Bytes} {ws : List Bytes} {more : Bool} (h : left s more = x :: ws) : more = true := (left_cons h).1
end Go.Proofs.YtjcdpccfhpbccaaDoor.Scr
