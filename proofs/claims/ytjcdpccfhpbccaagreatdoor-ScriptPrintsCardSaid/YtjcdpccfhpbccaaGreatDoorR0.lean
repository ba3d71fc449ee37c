/-
  The document's own Parse, plainly: the laws of its steps.
-/
import Derived.Test.YtjcdpccfhpbccaaGreatDoorQ3
namespace Go.Proofs.YtjcdpccfhpbccaaGreatDoor
open Go.RowKit Go.Proofs.YtjcdpccfhpbccaaGreatDoorW.PrintWords

theorem firstB_nil : firstB [] = [] := by kernel_rfl
theorem firstB_cons (c : UInt8) (r : List UInt8) : firstB (c :: r) = if c = 32 then [] else c :: firstB r := by
  have hi : Lib.index (c :: r) [32] = if c = 32 then 0 else if Lib.index r [32] == -1 then -1 else Lib.index r [32] + 1 := by
    rw [Lib.index]
    by_cases h : c = 32
    · subst h
      simp [Lib.occAt]
    · have h2 : (32 == c) = false := beq_eq_false_iff_ne.2 (fun e => h e.symm)
      have h3 : (List.isPrefixOf [32] (c :: r)) = false := by simp [List.isPrefixOf, h2]
      rw [h3, if_neg h]
      simp
  unfold firstB Lib.cut
  rw [hi]
  by_cases h : c = 32
  · rw [if_pos h, if_pos h, if_pos (by omega)]
    rfl
  · rw [if_neg h, if_neg h]
    by_cases h2 : 0 ≤ Lib.index r [32]
    · have h3 : (Lib.index r [32] == -1) = false := beq_eq_false_iff_ne.2 (by omega)
      have h4 : (Lib.index r [32] + 1).toNat = (Lib.index r [32]).toNat + 1 := by omega
      rw [h3]
      simp only [Bool.false_eq_true, if_false]
      rw [if_pos (by omega), if_pos h2, h4]
      simp
    · have h3 : Lib.index r [32] = -1 := by
        rcases Lib.index_spec r [32] with ⟨h5, _⟩ | ⟨i, h5, _⟩
        · exact h5
        · omega
      simp [h3]
theorem firstB_peel {x t : List UInt8} {c : UInt8} (h : firstB x = c :: t) : ∃ r, x = c :: r ∧ firstB r = t := by
  cases x with
  | nil => rw [firstB_nil] at h; cases h
  | cons a r =>
    rw [firstB_cons] at h
    by_cases ha : a = 32
    · rw [if_pos ha] at h; cases h
    · rw [if_neg ha] at h
      injection h with h1 h2
      exact ⟨r, by rw [h1], h2⟩
theorem first_head {x y : List UInt8} {ws : List (List UInt8)} (h : Scr.words x = y :: ws) : y = kPicks ↔ firstB x = kPicks := by
  constructor
  · rintro rfl
    rw [line_text h]
    cases ws with
    | nil => simp [wtext_nil, kPicks, firstB_cons, firstB_nil]
    | cons z r => simp [wtext_cons, kPicks, firstB_cons]
  · intro hf
    obtain ⟨r1, rfl, h1⟩ := firstB_peel hf
    obtain ⟨r2, rfl, h2⟩ := firstB_peel h1
    obtain ⟨r3, rfl, h3⟩ := firstB_peel h2
    obtain ⟨r4, rfl, h4⟩ := firstB_peel h3
    obtain ⟨r5, rfl, h5⟩ := firstB_peel h4
    cases r5 with
    | nil =>
      rw [Scr.words_none (by rfl)] at h
      injection h with h6 _
      exact h6.symm
    | cons c r =>
      rw [firstB_cons] at h5
      by_cases hc : c = 32
      · subst hc
        rw [Scr.words_some (i := 5) (by simp [Scr.blankAt, Scr.brk])] at h
        injection h with h6 _
        rw [← h6]
        rfl
      · rw [if_neg hc] at h5; cases h5
def headOk (x : List UInt8) (a b c d : Int) : Bool := decide (x = kWorld) && mayL a b && decide (0 ≤ c) && decide (c ≤ 500) && decide (0 ≤ d) && decide (d ≤ 500)
theorem head_law (x : List UInt8) (ws : List (List UInt8)) : pHead (x :: ws) = (match aNums ws with
    | some [a, b, c, d] => if headOk x a b c d then some (a, b, c, d) else none
    | _ => none) := by
  unfold headOk
  show (if x = kWorld then _ else none) = _
  by_cases hx : x = kWorld
  rotate_left
  · rw [if_neg hx]
    simp only [hx, decide_false, Bool.false_and, Bool.false_eq_true, if_false]
    split <;> rfl
  rw [if_pos hx]
  simp only [hx, decide_true, Bool.true_and]
  match ws with
  | [] => rfl
  | [a] => cases h1 : num a <;> simp [pNum, aNums, h1]
  | [a, b] => cases h1 : num a <;> cases h2 : num b <;> simp [pNum, pUpTo, aNums, h1, h2]
  | [a, b, c] =>
    cases h1 : num a <;> cases h2 : num b <;> cases h3 : num c <;> simp [pNum, pUpTo, aNums, h1, h2, h3]
  | [a, b, c, d] =>
    cases h1 : num a <;> cases h2 : num b <;> cases h3 : num c <;> cases h4 : num d <;> simp [pNum, pUpTo, aNums, h1, h2, h3, h4]
    rename_i va vb vc vd
    by_cases p1 : 0 ≤ vc ∧ vc ≤ 500
    · rw [if_pos p1]
      simp only [Option.bind_some, h4, Option.map_some]
      by_cases p2 : 0 ≤ vd ∧ vd ≤ 500
      · rw [if_pos p2]
        simp [p1.1, p1.2, p2.1, p2.2]
      · rw [if_neg p2, if_neg (by rintro ⟨⟨⟨⟨_, _⟩, _⟩, q1⟩, q2⟩; exact p2 ⟨q1, q2⟩)]
        rfl
    · rw [if_neg p1, if_neg (by rintro ⟨⟨⟨⟨_, q1⟩, q2⟩, _⟩, _⟩; exact p1 ⟨q1, q2⟩)]
      rfl
  | a :: b :: c :: d :: e :: r =>
    cases h1 : num a <;> cases h2 : num b <;> cases h3 : num c <;> cases h4 : num d <;> simp [pNum, pUpTo, aNums, h1, h2, h3, h4]
    rename_i va vb vc vd
    have hr : ∀ o : Option (List Int), (∀ l, o = some l → 5 ≤ l.length) → (match o with
        | some [a, b, c, d] => if (((mayL a b = true ∧ 0 ≤ c) ∧ c ≤ 500) ∧ 0 ≤ d) ∧ d ≤ 500 then some (a, b, c, d) else none
        | _ => none) = none := fun o ho => by
      match o, ho with
      | none, _ => rfl
      | some [], _ => rfl
      | some [_], _ => rfl
      | some [_, _], _ => rfl
      | some [_, _, _], _ => rfl
      | some [_, _, _, _], ho => exact absurd (ho _ rfl) (by simp)
      | some (_ :: _ :: _ :: _ :: _ :: _), _ => rfl
    rw [hr]
    · by_cases p1 : 0 ≤ vc ∧ vc ≤ 500
      · rw [if_pos p1]
        simp only [Option.bind_some, h4, Option.map_some]
        by_cases p2 : 0 ≤ vd ∧ vd ≤ 500
        · rw [if_pos p2]
          simp
        · rw [if_neg p2]
          rfl
      · rw [if_neg p1]
        rfl
    · intro l hl
      cases h5 : num e with
      | none => rw [h5] at hl; cases hl
      | some k =>
        rw [h5] at hl
        cases h6 : aNums r with
        | none => rw [h6] at hl; cases hl
        | some l2 => rw [h6] at hl; simp at hl; rw [← hl]; simp
def inB (l : List Int) : Bool := l.all fun k => decide (0 ≤ k) && decide (k ≤ 255)
theorem picks_law : ∀ ws : List (List UInt8), pPicks ws = (match aNums ws with | none => none | some l => if inB l then some l else none)
  | [] => rfl
  | x :: ws => by
    rw [pPicks, aNums, picks_law ws]
    cases h1 : num x with
    | none => rfl
    | some k =>
      cases h2 : aNums ws with
      | none => simp
      | some l =>
        by_cases hk : 0 ≤ k ∧ k ≤ 255
        · by_cases hl : inB l = true
          · have : inB (k :: l) = true := by simp [inB, hk.1, hk.2] at hl ⊢; exact hl
            simp [hk, hl, this]
          · have : inB (k :: l) = false := by
              simp only [Bool.not_eq_true] at hl
              simp [inB] at hl ⊢
              intro _ _
              exact hl
            simp [hk, hl, this]
        · have : inB (k :: l) = false := by
            simp only [inB, List.all_cons, Bool.and_eq_false_imp]
            intro h
            simp at h
            exact absurd h hk
          simp [hk, this]
/-- What is left of a script behind its clients, and behind a client's row. -/
def rTail (a b c d : Int) (r : Except Nat (List (List CallD) × List (List UInt8) × Nat)) : Except Nat (ScrD × Nat) := match r with
  | .error m => .error m
  | .ok (rows, ys, m) => match pLast ys m with
    | .error m => .error m
    | .ok ps => .ok (⟨a, b, c, d, rows, ps⟩, m + 1)
def rCl (k : Nat) (rows : List (List CallD)) (r : Except Nat (List CallD × List (List UInt8) × Nat)) : Except Nat (List (List CallD) × List (List UInt8) × Nat) := match r with
  | .error m => .error m
  | .ok (row, ys, m) => pClients k ys m (rows ++ [row])
theorem script_head {x : List UInt8} {xs : List (List UInt8)} {a b c d : Int} (h : pHead (Scr.words x) = some (a, b, c, d)) : pScript (x :: xs) = rTail a b c d (pClients a.toNat xs 1 []) := by
  rw [pScript, h]
  rfl
theorem script_nohead {x : List UInt8} {xs : List (List UInt8)} (h : pHead (Scr.words x) = none) : pScript (x :: xs) = .error 0 := by
  rw [pScript, h]
theorem clients_go {k n : Nat} {xs : List (List UInt8)} {rows : List (List CallD)} : pClients (k + 1) (kClient :: xs) n rows = rCl k rows (pRow xs (n + 1) []) := by
  rw [pClients, if_pos rfl]
  rfl
theorem clients_no {k n : Nat} {x : List UInt8} {xs : List (List UInt8)} {rows : List (List CallD)} (h : x ≠ kClient) : pClients (k + 1) (x :: xs) n rows = .error n := by
  rw [pClients, if_neg h]
theorem parse_error {ps : List (List UInt8)} {m : Nat} (h : pScript ps.dropLast = .error m) : pParse ps = .error m := by
  rw [pParse, h]
theorem parse_ok {ps : List (List UInt8)} {s : ScrD} {m : Nat} (h : pScript ps.dropLast = .ok (s, m)) : pParse ps = if m < ps.length - 1 ∨ ps.getLast? ≠ some [] then .error m else .ok s := by
  rw [pParse, h]
theorem last_law {y : List UInt8} {ls : List (List UInt8)} {n : Nat} {w : List UInt8} {ws : List (List UInt8)} (h : Scr.words y = w :: ws) : pLast (y :: ls) n = (match aNums ws with
    | some l => if w = kPicks ∧ l.length ≤ 1000 ∧ inB l = true then .ok l else .error n
    | none => .error n) := by
  rw [pLast, h]
  dsimp only
  rw [picks_law]
  by_cases hw : w = kPicks
  · simp only [if_pos hw]
    cases aNums ws with
    | none => rfl
    | some l =>
      by_cases hl : inB l = true
      · by_cases h1 : l.length ≤ 1000
        · simp [hl, h1, hw]
        · simp [hl, h1]
      · simp [hl]
  · simp only [if_neg hw]
    cases aNums ws with
    | none => rfl
    | some l => simp [hw]
end Go.Proofs.YtjcdpccfhpbccaaGreatDoor
