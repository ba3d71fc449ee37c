/-
  What a line more, or one less, does to what a text says; plainly.
-/
import Derived.Test.YtjcdpccfhpbccaaGreatDoorG0
namespace Go.Proofs.YtjcdpccfhpbccaaGreatDoor
open Go.RowKit Go.Proofs.YtjcdpccfhpbccaaGreatDoorW.PrintWords

theorem pieces_cons10 (l : List UInt8) : pieces (10 :: l) = [] :: pieces l := by rw [pieces, if_pos rfl]
theorem pieces_cons {c : UInt8} (h : c ≠ 10) (l : List UInt8) {p : List UInt8} {ps : List (List UInt8)} (hp : pieces l = p :: ps) : pieces (c :: l) = (c :: p) :: ps := by rw [pieces, if_neg h, hp]
theorem pieces_snoc : ∀ l : List UInt8, pieces (l ++ [10]) = pieces l ++ [[]]
  | [] => rfl
  | c :: l => by
    by_cases h : c = 10
    · subst h
      rw [List.cons_append, pieces_cons10, pieces_cons10, pieces_snoc l]
      rfl
    · cases hp : pieces l with
      | nil => exact absurd hp (pieces_ne l)
      | cons p ps => rw [List.cons_append, pieces_cons h (l ++ [10]) (by rw [pieces_snoc l, hp]; rfl), pieces_cons h l hp]; rfl
theorem pieces_cnt : ∀ l : List UInt8, (pieces l).length = l.count 10 + 1
  | [] => rfl
  | c :: l => by
    by_cases h : c = 10
    · subst h
      rw [pieces_cons10, List.length_cons, pieces_cnt l, List.count_cons_self]
    · cases hp : pieces l with
      | nil => exact absurd hp (pieces_ne l)
      | cons p ps =>
        have h1 := pieces_cnt l
        rw [hp] at h1
        rw [pieces_cons h l hp, List.count_cons_of_ne (fun e => h e)]
        exact h1
/-- A text whose last piece is empty ends by a line's end, or is empty. -/
theorem pieces_last : ∀ l : List UInt8, (pieces l).getLast? = some [] → l = [] ∨ ∃ u, l = u ++ [10]
  | [], _ => .inl rfl
  | c :: l, hl => by
    refine .inr ?_
    by_cases h : c = 10
    · subst h
      rw [pieces_cons10, List.getLast?_cons] at hl
      cases hp : (pieces l).getLast? with
      | none => exact absurd (List.getLast?_eq_none_iff.1 hp) (pieces_ne l)
      | some q =>
        rw [hp] at hl
        have hq : q = [] := by simpa using hl
        subst hq
        rcases pieces_last l hp with rfl | ⟨u, rfl⟩
        · exact ⟨[], rfl⟩
        · exact ⟨10 :: u, rfl⟩
    · cases hp : pieces l with
      | nil => exact absurd hp (pieces_ne l)
      | cons p ps =>
        rw [pieces_cons h l hp] at hl
        cases ps with
        | nil => simp at hl
        | cons q qs =>
          have h2 : (pieces l).getLast? = some [] := by
            rw [hp]
            simpa using hl
          rcases pieces_last l h2 with rfl | ⟨u, rfl⟩
          · simp [pieces] at hp
          · exact ⟨c :: u, rfl⟩

theorem pRow_len : ∀ (ls : List (List UInt8)) (n : Nat) (row : List CallD), (∀ m, pRow ls n row = .error m → m < n + ls.length) ∧ (∀ row' ys m, pRow ls n row = .ok (row', ys, m) → m + ys.length = n + ls.length) := by
  intro ls
  induction ls with
  | nil =>
    intro n row
    rw [pRow_nil]
    refine ⟨fun m h => by simp at h, fun row' ys m h => ?_⟩
    simp at h
    obtain ⟨_, rfl, rfl⟩ := h
    rfl
  | cons x xs ih =>
    intro n row
    by_cases hs : x = kClient ∨ firstB x = kPicks
    · rw [pRow_stop hs]
      refine ⟨fun m h => by simp at h, fun row' ys m h => ?_⟩
      simp at h
      obtain ⟨_, rfl, rfl⟩ := h
      rfl
    cases hc : pCall (Scr.words x) with
    | none =>
      rw [pRow_bad hs hc]
      exact ⟨fun m h => by simp at h; subst h; simp, fun row' ys m h => by simp at h⟩
    | some c =>
      by_cases hl : 100 < row.length + 1
      · rw [pRow_many hs hc hl]
        exact ⟨fun m h => by simp at h; subst h; simp, fun row' ys m h => by simp at h⟩
      · rw [pRow_more hs hc hl]
        obtain ⟨h1, h2⟩ := ih (n + 1) (row ++ [c])
        exact ⟨fun m h => by have := h1 m h; simp only [List.length_cons]; omega, fun row' ys m h => by have := h2 row' ys m h; simp only [List.length_cons]; omega⟩
theorem pClients_zero (ls : List (List UInt8)) (n : Nat) (rows : List (List CallD)) : pClients 0 ls n rows = .ok (rows, ls, n) := by cases ls <;> rfl
theorem pClients_nil (k n : Nat) (rows : List (List CallD)) : pClients (k + 1) [] n rows = .error n := rfl
theorem pClients_no {k n : Nat} {x : List UInt8} {xs : List (List UInt8)} {rows : List (List CallD)} (h : x ≠ kClient) : pClients (k + 1) (x :: xs) n rows = .error n := by rw [pClients, if_neg h]
theorem pClients_yes (k n : Nat) (xs : List (List UInt8)) (rows : List (List CallD)) : pClients (k + 1) (kClient :: xs) n rows = (match pRow xs (n + 1) [] with | .error m => .error m | .ok (row, ys, m) => pClients k ys m (rows ++ [row])) := by rw [pClients, if_pos rfl]; rfl
theorem pClients_len : ∀ (k : Nat) (ls : List (List UInt8)) (n : Nat) (rows : List (List CallD)), (∀ m, pClients k ls n rows = .error m → m ≤ n + ls.length) ∧ (∀ rows' ys m, pClients k ls n rows = .ok (rows', ys, m) → m + ys.length = n + ls.length) := by
  intro k
  induction k with
  | zero =>
    intro ls n rows
    rw [pClients_zero]
    refine ⟨fun m h => by simp at h, fun rows' ys m h => ?_⟩
    simp at h
    obtain ⟨_, rfl, rfl⟩ := h
    rfl
  | succ k ih =>
    intro ls n rows
    cases ls with
    | nil =>
      rw [pClients_nil]
      exact ⟨fun m h => by simp at h; subst h; simp, fun _ _ _ h => by simp at h⟩
    | cons x xs =>
      by_cases hx : x = kClient
      · subst hx
        rw [pClients_yes]
        obtain ⟨r1, r2⟩ := pRow_len xs (n + 1) []
        cases hr : pRow xs (n + 1) [] with
        | error m =>
          have := r1 m hr
          exact ⟨fun m' h => by simp at h; subst h; simp; omega, fun _ _ _ h => by simp at h⟩
        | ok v =>
          obtain ⟨row, ys, m⟩ := v
          have e := r2 row ys m hr
          obtain ⟨i1, i2⟩ := ih ys m (rows ++ [row])
          exact ⟨fun m' h => by have := i1 m' h; simp only [List.length_cons]; omega, fun rows' ys' m' h => by have := i2 rows' ys' m' h; simp only [List.length_cons]; omega⟩
      · rw [pClients_no hx]
        exact ⟨fun m h => by simp at h; subst h; simp, fun _ _ _ h => by simp at h⟩
theorem pLast_err {ls : List (List UInt8)} {n m : Nat} (h : pLast ls n = .error m) : m = n := by
  cases ls with
  | nil => simp [pLast] at h; exact h.symm
  | cons x xs =>
    simp only [pLast] at h
    repeat' split at h
    all_goals first | (simp at h; exact h.symm) | simp at h
theorem pLast_more {y : List UInt8} {ys zs : List (List UInt8)} {n : Nat} : pLast (y :: (ys ++ zs)) n = pLast (y :: ys) n := rfl
/-- The parts of a script that lines say. -/
theorem pScript_ok {ls : List (List UInt8)} {s : ScrD} {m : Nat} (h : pScript ls = .ok (s, m)) : ∃ x xs a b c d rows y ys m1 ps, ls = x :: xs ∧ pHead (Scr.words x) = some (a, b, c, d) ∧ pClients a.toNat xs 1 [] = .ok (rows, y :: ys, m1) ∧ pLast (y :: ys) m1 = .ok ps ∧ s = ⟨a, b, c, d, rows, ps⟩ ∧ m = m1 + 1 := by
  cases ls with
  | nil => simp [pScript] at h
  | cons x xs =>
    simp only [pScript] at h
    cases hh : pHead (Scr.words x) with
    | none => rw [hh] at h; simp at h
    | some v =>
      obtain ⟨a, b, c, d⟩ := v
      rw [hh] at h
      simp only at h
      cases hc : pClients a.toNat xs 1 [] with
      | error m => rw [hc] at h; simp at h
      | ok v =>
        obtain ⟨rows, ys, m1⟩ := v
        rw [hc] at h
        simp only at h
        cases ys with
        | nil => simp [pLast] at h
        | cons y ys =>
          cases hl : pLast (y :: ys) m1 with
          | error m => rw [hl] at h; simp at h
          | ok ps =>
            rw [hl] at h
            simp at h
            obtain ⟨rfl, rfl⟩ := h
            exact ⟨x, xs, a, b, c, d, rows, y, ys, m1, ps, rfl, hh, hc, hl, rfl, rfl⟩
theorem pScript_make {x : List UInt8} {xs ys : List (List UInt8)} {a b c d : Int} {rows : List (List CallD)} {m1 : Nat} (hh : pHead (Scr.words x) = some (a, b, c, d)) (hc : pClients a.toNat xs 1 [] = .ok (rows, ys, m1)) :
    pScript (x :: xs) = (match pLast ys m1 with | .error m => .error m | .ok ps => .ok (⟨a, b, c, d, rows, ps⟩, m1 + 1)) := by
  simp only [pScript, hh, hc]
  rfl
theorem pScript_len {ls : List (List UInt8)} : (∀ m, pScript ls = .error m → m ≤ ls.length) ∧ (∀ s m, pScript ls = .ok (s, m) → m ≤ ls.length) := by
  refine ⟨fun m h => ?_, fun s m h => ?_⟩
  · cases ls with
    | nil => simp [pScript] at h; subst h; simp
    | cons x xs =>
      simp only [pScript] at h
      cases hh : pHead (Scr.words x) with
      | none => rw [hh] at h; simp at h; subst h; simp
      | some v =>
        obtain ⟨a, b, c, d⟩ := v
        rw [hh] at h
        simp only at h
        obtain ⟨k1, k2⟩ := pClients_len a.toNat xs 1 []
        cases hc : pClients a.toNat xs 1 [] with
        | error m => rw [hc] at h; simp at h; subst h; have := k1 m hc; simp only [List.length_cons]; omega
        | ok v =>
          obtain ⟨rows, ys, m1⟩ := v
          rw [hc] at h
          simp only at h
          have e := k2 rows ys m1 hc
          cases hl : pLast ys m1 with
          | error m => rw [hl] at h; simp at h; subst h; have := pLast_err hl; simp only [List.length_cons]; omega
          | ok ps => rw [hl] at h; simp at h
  · obtain ⟨x, xs, a, b, c, d, rows, y, ys, m1, ps, rfl, hh, hc, hl, rfl, rfl⟩ := pScript_ok h
    have e := (pClients_len a.toNat xs 1 []).2 rows _ m1 hc
    simp only [List.length_cons] at e ⊢
    omega
theorem pParse_err {l : List UInt8} {m : Nat} (h : pParse (pieces l) = .error m) : m ≤ l.count 10 := by
  have e : (pieces l).dropLast.length = l.count 10 := by rw [List.length_dropLast, pieces_cnt]; rfl
  obtain ⟨k1, k2⟩ := pScript_len (ls := (pieces l).dropLast)
  rw [e] at k1 k2
  unfold pParse at h
  cases hs : pScript (pieces l).dropLast with
  | error m1 => rw [hs] at h; simp at h; subst h; exact k1 _ hs
  | ok v =>
    obtain ⟨s, m1⟩ := v
    rw [hs] at h
    simp only at h
    split at h
    · simp at h; subst h; exact k2 _ _ hs
    · simp at h
theorem pParse_ok {l : List UInt8} {s : ScrD} (h : pParse (pieces l) = .ok s) : ∃ u, l = u ++ [10] ∧ pScript (pieces u) = .ok (s, (pieces u).length) := by
  unfold pParse at h
  cases hs : pScript (pieces l).dropLast with
  | error m1 => rw [hs] at h; simp at h
  | ok v =>
    obtain ⟨s1, m1⟩ := v
    rw [hs] at h
    simp only at h
    split at h
    · simp at h
    · rename_i hc
      simp at h
      subst h
      have h1 : (pieces l).getLast? = some [] := Classical.byContradiction fun hx => hc (.inr hx)
      rcases pieces_last l h1 with rfl | ⟨u, rfl⟩
      · simp [pieces, pScript] at hs
      · refine ⟨u, rfl, ?_⟩
        rw [pieces_snoc, List.dropLast_concat] at hs
        have h2 := pScript_len.2 _ _ hs
        have h3 : ¬ m1 < (pieces (u ++ [10])).length - 1 := fun hx => hc (.inl hx)
        rw [pieces_snoc, List.length_append] at h3
        simp at h3
        rw [hs, show m1 = (pieces u).length by omega]
theorem pParse_snoc (u : List UInt8) : pParse (pieces (u ++ [10])) = (match pScript (pieces u) with | .error m => .error m | .ok (s, m) => if m < (pieces u).length then .error m else .ok s) := by
  unfold pParse
  rw [pieces_snoc, List.dropLast_concat]
  cases pScript (pieces u) with
  | error m => rfl
  | ok v =>
    obtain ⟨s, m⟩ := v
    simp only [List.length_append, List.length_cons, List.length_nil, List.getLast?_concat]
    by_cases h : m < (pieces u).length
    · rw [if_pos (.inl (by omega)), if_pos h]
    · rw [if_neg (by simp; omega), if_neg h]
theorem pParse_made {u : List UInt8} {s : ScrD} (h : pScript (pieces u) = .ok (s, (pieces u).length)) : pParse (pieces (u ++ [10])) = .ok s := by
  rw [pParse_snoc, h]
  simp

/-! ### A line more -/
theorem pRow_more_lines {zs : List (List UInt8)} : ∀ (ls : List (List UInt8)) (n : Nat) (row row' : List CallD) (y : List UInt8) (ys : List (List UInt8)) (m : Nat), pRow ls n row = .ok (row', y :: ys, m) → pRow (ls ++ zs) n row = .ok (row', y :: ys ++ zs, m) := by
  intro ls
  induction ls with
  | nil => intro n row row' y ys m h; rw [pRow_nil] at h; simp at h
  | cons x xs ih =>
    intro n row row' y ys m h
    rw [List.cons_append]
    by_cases hs : x = kClient ∨ firstB x = kPicks
    · rw [pRow_stop hs] at h ⊢
      simp at h
      obtain ⟨rfl, ⟨rfl, rfl⟩, rfl⟩ := h
      rfl
    cases hc : pCall (Scr.words x) with
    | none => rw [pRow_bad hs hc] at h; simp at h
    | some c =>
      by_cases hl : 100 < row.length + 1
      · rw [pRow_many hs hc hl] at h; simp at h
      · rw [pRow_more hs hc hl] at h ⊢
        exact ih _ _ _ _ _ _ h
theorem pClients_more_lines {zs : List (List UInt8)} : ∀ (k : Nat) (ls : List (List UInt8)) (n : Nat) (rows rows' : List (List CallD)) (y : List UInt8) (ys : List (List UInt8)) (m : Nat), pClients k ls n rows = .ok (rows', y :: ys, m) → pClients k (ls ++ zs) n rows = .ok (rows', y :: ys ++ zs, m) := by
  intro k
  induction k with
  | zero =>
    intro ls n rows rows' y ys m h
    rw [pClients_zero] at h ⊢
    simp at h
    obtain ⟨rfl, rfl, rfl⟩ := h
    rfl
  | succ k ih =>
    intro ls n rows rows' y ys m h
    cases ls with
    | nil => rw [pClients_nil] at h; simp at h
    | cons x xs =>
      by_cases hx : x = kClient
      · subst hx
        rw [List.cons_append]
        rw [pClients_yes] at h ⊢
        cases hr : pRow xs (n + 1) [] with
        | error m => rw [hr] at h; simp at h
        | ok v =>
          obtain ⟨row, ws, m1⟩ := v
          rw [hr] at h
          simp only at h
          cases ws with
          | nil =>
            cases k with
            | zero => rw [pClients_zero] at h; simp at h
            | succ k => rw [pClients_nil] at h; simp at h
          | cons w ws =>
            rw [pRow_more_lines _ _ _ _ _ _ _ hr]
            exact ih _ _ _ _ _ _ _ h
      · rw [pClients_no hx] at h; simp at h
theorem pScript_more_lines {ls zs : List (List UInt8)} {s : ScrD} {m : Nat} (h : pScript ls = .ok (s, m)) : pScript (ls ++ zs) = .ok (s, m) := by
  obtain ⟨x, xs, a, b, c, d, rows, y, ys, m1, ps, rfl, hh, hc, hl, rfl, rfl⟩ := pScript_ok h
  rw [List.cons_append, pScript_make hh (pClients_more_lines _ _ _ _ _ _ _ _ hc), List.cons_append, pLast_more, hl]
theorem parse_more {l : List UInt8} {s : ScrD} (h : pParse (pieces l) = .ok s) : pParse (pieces (l ++ [10])) = .error (l.count 10) := by
  obtain ⟨u, rfl, h1⟩ := pParse_ok h
  rw [pParse_snoc, pieces_snoc, pScript_more_lines h1]
  simp only [List.length_append, List.length_cons, List.length_nil]
  rw [if_pos (by omega), pieces_cnt, List.count_append]
  rfl
theorem parse_front (l : List UInt8) : pParse (pieces (10 :: l)) = .error 0 := by
  unfold pParse
  rw [pieces_cons10]
  cases hp : pieces l with
  | nil => exact absurd hp (pieces_ne l)
  | cons p ps =>
    rw [List.dropLast_cons_of_ne_nil (by simp)]
    have : pScript ([] :: (p :: ps).dropLast) = .error 0 := pScript_bad (by
      have hw : Scr.words [] = [[]] := by kernel_rfl
      rw [hw]
      exact pHead_word (by decide))
    rw [this]

/-! ### A line less -/
theorem pRow_less (z : List UInt8) : ∀ (ls : List (List UInt8)) (n : Nat) (row row' : List CallD) (ys : List (List UInt8)) (m : Nat), pRow (ls ++ [z]) n row = .ok (row', ys, m) → ys = [] ∨ ∃ ys', ys = ys' ++ [z] ∧ pRow ls n row = .ok (row', ys', m) := by
  intro ls
  induction ls with
  | nil =>
    intro n row row' ys m h
    rw [List.nil_append] at h
    by_cases hs : z = kClient ∨ firstB z = kPicks
    · rw [pRow_stop hs] at h
      simp at h
      obtain ⟨rfl, rfl, rfl⟩ := h
      exact .inr ⟨[], rfl, pRow_nil _ _⟩
    cases hc : pCall (Scr.words z) with
    | none => rw [pRow_bad hs hc] at h; simp at h
    | some c =>
      by_cases hl : 100 < row.length + 1
      · rw [pRow_many hs hc hl] at h; simp at h
      · rw [pRow_more hs hc hl, pRow_nil] at h
        simp at h
        exact .inl h.2.1
  | cons x xs ih =>
    intro n row row' ys m h
    rw [List.cons_append] at h
    by_cases hs : x = kClient ∨ firstB x = kPicks
    · rw [pRow_stop hs] at h
      simp at h
      obtain ⟨rfl, rfl, rfl⟩ := h
      exact .inr ⟨x :: xs, rfl, pRow_stop hs⟩
    cases hc : pCall (Scr.words x) with
    | none => rw [pRow_bad hs hc] at h; simp at h
    | some c =>
      by_cases hl : 100 < row.length + 1
      · rw [pRow_many hs hc hl] at h; simp at h
      · rw [pRow_more hs hc hl] at h ⊢
        exact ih _ _ _ _ _ h
theorem pClients_less (z y : List UInt8) : ∀ (k : Nat) (ls : List (List UInt8)) (n : Nat) (rows rows' : List (List CallD)) (m : Nat), pClients k (ls ++ [z]) n rows = .ok (rows', [y], m) → y = z ∧ pClients k ls n rows = .ok (rows', [], m) := by
  intro k
  induction k with
  | zero =>
    intro ls n rows rows' m h
    rw [pClients_zero] at h ⊢
    simp only [Except.ok.injEq, Prod.mk.injEq] at h
    obtain ⟨rfl, h2, rfl⟩ := h
    obtain ⟨rfl, h3⟩ := List.append_inj' (show ls ++ [z] = [] ++ [y] from h2) rfl
    exact ⟨by simpa using h3.symm, rfl⟩
  | succ k ih =>
    intro ls n rows rows' m h
    cases ls with
    | nil =>
      rw [List.nil_append] at h
      by_cases hx : z = kClient
      · subst hx
        rw [pClients_yes, pRow_nil] at h
        simp only at h
        cases k with
        | zero => rw [pClients_zero] at h; simp at h
        | succ k => rw [pClients_nil] at h; simp at h
      · rw [pClients_no hx] at h; simp at h
    | cons x xs =>
      rw [List.cons_append] at h
      by_cases hx : x = kClient
      · subst hx
        rw [pClients_yes] at h ⊢
        cases hr : pRow (xs ++ [z]) (n + 1) [] with
        | error m => rw [hr] at h; simp at h
        | ok v =>
          obtain ⟨row, ws, m1⟩ := v
          rw [hr] at h
          simp only at h
          rcases pRow_less z _ _ _ _ _ _ hr with rfl | ⟨ws', rfl, hr2⟩
          · cases k with
            | zero => rw [pClients_zero] at h; simp at h
            | succ k => rw [pClients_nil] at h; simp at h
          · rw [hr2]
            exact ih _ _ _ _ _ h
      · rw [pClients_no hx] at h; simp at h
theorem pScript_less {ls : List (List UInt8)} {s : ScrD} (h : pScript ls = .ok (s, ls.length)) : pScript ls.dropLast = .error (ls.length - 1) := by
  obtain ⟨x, xs, a, b, c, d, rows, y, ys, m1, ps, rfl, hh, hc, hl, rfl, hm⟩ := pScript_ok h
  have e := (pClients_len a.toNat xs 1 []).2 rows _ m1 hc
  simp only [List.length_cons] at e hm
  have hy : ys = [] := List.length_eq_zero_iff.1 (by omega)
  subst hy
  have hxs : xs ≠ [] := by
    rintro rfl
    have h1 := mayL_in (pHead_in hh).1
    obtain ⟨k, hk⟩ : ∃ k, a.toNat = k + 1 := ⟨a.toNat - 1, by omega⟩
    rw [hk, pClients_nil] at hc
    simp at hc
  obtain ⟨xs', z, rfl⟩ : ∃ xs' z, xs = xs' ++ [z] := ⟨_, _, (List.dropLast_concat_getLast hxs).symm⟩
  rw [List.dropLast_cons_of_ne_nil hxs, List.dropLast_concat, pScript_make hh (pClients_less _ _ _ _ _ _ _ _ hc).2]
  simp only [pLast, List.length_cons, List.length_append, List.length_nil] at hm ⊢
  congr 1
  omega
theorem parse_less {u : List UInt8} {s : ScrD} (h : pParse (pieces (u ++ [10])) = .ok s) : pParse (pieces u) = .error ((u ++ [10]).count 10 - 1) := by
  obtain ⟨u', hu, h1⟩ := pParse_ok h
  obtain rfl : u = u' := (List.append_inj' hu rfl).1
  unfold pParse
  rw [pScript_less h1, pieces_cnt, List.count_append]
  rfl
end Go.Proofs.YtjcdpccfhpbccaaGreatDoor
