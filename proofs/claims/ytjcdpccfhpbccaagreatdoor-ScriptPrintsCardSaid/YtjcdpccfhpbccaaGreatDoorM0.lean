/-
  What is parsed is printed to the same text; plainly.
-/
import Derived.Test.YtjcdpccfhpbccaaGreatDoorF8
import Derived.Test.YtjcdpccfhpbccaaGreatDoorL0
namespace Go.Proofs.YtjcdpccfhpbccaaGreatDoor
open Go.RowKit Go.Proofs.YtjcdpccfhpbccaaGreatDoorW.PrintWords

/-- Words, each behind a blank. -/
def wtext (ws : List (List UInt8)) : List UInt8 := ws.flatMap fun x => 32 :: x
theorem wtext_cons (x : List UInt8) (ws : List (List UInt8)) : wtext (x :: ws) = 32 :: x ++ wtext ws := rfl
theorem wtext_nil : wtext [] = [] := rfl
theorem blankAt_is : ∀ (l : List UInt8) (b : Bool) (i : Nat), Scr.blankAt b l = some i → l = l.take i ++ 32 :: l.drop (i + 1) := by
  intro l
  induction l with
  | nil => intro b i h; simp [Scr.blankAt] at h
  | cons c l ih =>
    intro b i h
    simp only [Scr.blankAt] at h
    split at h
    · rename_i hc
      simp at h
      subst h
      rw [hc.1]
      rfl
    · cases h2 : Scr.blankAt (Scr.brk b c) l with
      | none => simp [h2] at h
      | some j =>
        simp [h2] at h
        subst h
        have := ih _ _ h2
        rw [List.take_succ_cons, List.drop_succ_cons, List.cons_append, ← this]
theorem words_text : ∀ (n : Nat) (l : List UInt8), l.length ≤ n → ∃ x ws, Scr.words l = x :: ws ∧ l = x ++ wtext ws := by
  intro n
  induction n with
  | zero =>
    intro l hn
    have : l = [] := List.length_eq_zero_iff.1 (by omega)
    subst this
    exact ⟨[], [], Scr.words_none rfl, rfl⟩
  | succ n ih =>
    intro l hn
    cases hb : Scr.blankAt false l with
    | none => exact ⟨l, [], Scr.words_none hb, by simp [wtext]⟩
    | some i =>
      have h1 := blankAt_is l false i hb
      have h2 := Scr.blankAt_lt l false i hb
      obtain ⟨x, ws, e1, e2⟩ := ih (l.drop (i + 1)) (by simp; omega)
      refine ⟨l.take i, x :: ws, by rw [Scr.words_some hb, e1], ?_⟩
      rw [wtext_cons, List.cons_append, ← e2]
      exact h1
theorem line_text {l x : List UInt8} {ws : List (List UInt8)} (h : Scr.words l = x :: ws) : l = x ++ wtext ws := by
  obtain ⟨y, vs, h1, h2⟩ := words_text _ l (Nat.le_refl _)
  rw [h] at h1
  simp at h1
  rw [h1.1, h1.2]
  exact h2
theorem words_ne (l : List UInt8) : ∃ x ws, Scr.words l = x :: ws := by
  obtain ⟨x, ws, h, _⟩ := words_text _ l (Nat.le_refl _)
  exact ⟨x, ws, h⟩
theorem num_text {x : List UInt8} {k : Int} (h : num x = some k) : x = Lib.itoa k := by
  unfold num at h
  split at h
  · split at h
    · rename_i hi
      simp at h
      rw [← h]
      exact hi.symm
    · simp at h
  · simp at h
theorem pNum_text {ws ws' : List (List UInt8)} {k : Int} (h : pNum ws = some (k, ws')) : wtext ws = 32 :: Lib.itoa k ++ wtext ws' := by
  cases ws with
  | nil => simp [pNum] at h
  | cons x ws =>
    simp only [pNum] at h
    cases hx : num x with
    | none => simp [hx] at h
    | some v => simp [hx] at h; obtain ⟨rfl, rfl⟩ := h; rw [wtext_cons, ← num_text hx]
theorem pUpTo_num {m : Int} {ws ws' : List (List UInt8)} {k : Int} (h : pUpTo m ws = some (k, ws')) : pNum ws = some (k, ws') := by
  unfold pUpTo at h
  cases hp : pNum ws with
  | none => rw [hp] at h; simp at h
  | some v =>
    rw [hp] at h
    simp only at h
    split at h
    · exact h
    · simp at h
theorem txt_text {u x y : List UInt8} (h : txt u x = some y) : x = 91 :: (y ++ [93]) := by
  unfold txt at h
  split at h
  · simp at h
  rename_i h1
  split at h
  · simp at h
  rename_i h2
  split at h
  · simp at h
  rename_i h3
  split at h
  · simp at h
  simp at h
  subst h
  obtain ⟨a, x, rfl⟩ : ∃ a x', x = a :: x' := by
    cases x with
    | nil => simp at h1
    | cons a x => exact ⟨a, x, rfl⟩
  have hx : x ≠ [] := by
    rintro rfl
    simp at h1
  obtain ⟨x, b, rfl⟩ : ∃ x' b, x = x' ++ [b] := ⟨_, _, (List.dropLast_concat_getLast hx).symm⟩
  have ha : a = 91 := by simpa using h2
  have hb : b = 93 := by simpa using h3
  subst ha hb
  simp [inner]
theorem pText_text {u y : List UInt8} {ws ws' : List (List UInt8)} (h : pText u ws = some (y, ws')) : wtext ws = 32 :: 91 :: (y ++ [93]) ++ wtext ws' := by
  cases ws with
  | nil => simp [pText] at h
  | cons x ws =>
    simp only [pText] at h
    cases hx : txt u x with
    | none => simp [hx] at h
    | some v => simp [hx] at h; obtain ⟨rfl, rfl⟩ := h; rw [wtext_cons, txt_text hx]
theorem optNum_text {c : Bool} {ws ws' : List (List UInt8)} {k : Int} (h : optNum c ws = some (k, ws')) : wtext ws = (if c then 32 :: Lib.itoa k else []) ++ wtext ws' := by
  unfold optNum at h
  cases c with
  | true => simpa using pNum_text (by simpa using h)
  | false => simp at h; rw [h.2]; rfl
theorem optText_text {c : Bool} {ws ws' : List (List UInt8)} {y : List UInt8} (h : optText c ws = some (y, ws')) : wtext ws = brkd c ⟨y.toArray⟩ ++ wtext ws' := by
  unfold optText at h
  unfold brkd
  cases c with
  | true => simpa [bl] using pText_text (by simpa using h)
  | false => simp at h; rw [h.2]; rfl
theorem idxFromS_get (x : ByteArray) : ∀ (zs : List ByteArray) (i k : Nat), Lib.idxFromS zs x i = k → ∃ j, k = i + j ∧ zs[j]? = some x := by
  intro zs
  induction zs with
  | nil => intro i k h; simp [Lib.idxFromS] at h
  | cons z zs ih =>
    intro i k h
    by_cases hz : z = x
    · subst hz
      simp [Lib.idxFromS] at h
      exact ⟨0, by omega, rfl⟩
    · rw [show Lib.idxFromS (z :: zs) x i = Lib.idxFromS zs x (i + 1) by simp [Lib.idxFromS, hz]] at h
      obtain ⟨j, h1, h2⟩ := ih _ _ h
      exact ⟨j + 1, by omega, by simpa using h2⟩
theorem kind_text {x : List UInt8} {n : Nat} (h : kindOf x = (n + 1 : Nat)) : x = 43 :: bl (shWord (n + 1)) ∧ n < 8 := by
  unfold kindOf Lib.idxOfS at h
  obtain ⟨j, h1, h2⟩ := idxFromS_get ⟨x.toArray⟩ opNames 0 n (by omega)
  obtain rfl : j = n := by omega
  have hlt := (List.getElem?_eq_some_iff.1 h2).1
  have h8 : opNames.length = 8 := rfl
  have key : ∀ y : ByteArray, opNames[j]? = some y → y = ⟨#[43]⟩ ++ shWord (j + 1) := by
    intro y hy
    have hj : j = 0 ∨ j = 1 ∨ j = 2 ∨ j = 3 ∨ j = 4 ∨ j = 5 ∨ j = 6 ∨ j = 7 := by omega
    rcases hj with rfl | rfl | rfl | rfl | rfl | rfl | rfl | rfl <;> (simp [opNames] at hy; subst hy; rfl)
  have h3 := key _ h2
  have h4 : bl (⟨x.toArray⟩ : ByteArray) = bl (⟨#[43]⟩ ++ shWord (j + 1)) := by rw [h3]
  rw [bl_append] at h4
  exact ⟨h4, by omega⟩
theorem pOp_text {ws ws' : List (List UInt8)} {o : OpD} (h : pOp ws = some (o, ws')) : wtext ws = 32 :: 43 :: oText o ++ wtext ws' := by
  cases ws with
  | nil => simp [pOp] at h
  | cons x ws =>
    simp only [pOp, Option.bind_eq_some_iff] at h
    obtain ⟨⟨i, ws1⟩, h1, ⟨t, ws2⟩, h2, ⟨a, ws3⟩, h3, ⟨n, ws4⟩, h4, ⟨y, ws5⟩, h5, h6⟩ := h
    split at h6
    · rename_i hm
      simp only [Option.some.injEq, Prod.mk.injEq] at h6
      obtain ⟨rfl, rfl⟩ := h6
      have e1 := optNum_text h1
      have e2 := optNum_text h2
      have e3 := optNum_text h3
      have e4 := optText_text h4
      have e5 := optText_text h5
      dsimp only at e1 e2 e3 e4 e5 hm
      obtain ⟨m1, m8, _, _⟩ := mayB_in hm
      obtain ⟨k, hk⟩ : ∃ k : Nat, kindOf x = (k + 1 : Nat) := ⟨(kindOf x).toNat - 1, by omega⟩
      obtain ⟨hx, hk8⟩ := kind_text hk
      have hkn : (kindOf x).toNat = k + 1 := by omega
      rw [hkn] at e1 e2 e3 e4 e5 hm ⊢
      rw [wtext_cons, e1, e2, e3, e4, e5, hx]
      unfold oText opText
      dsimp only
      rw [if_pos hm, Int.toNat_natCast]
      have hj : k = 0 ∨ k = 1 ∨ k = 2 ∨ k = 3 ∨ k = 4 ∨ k = 5 ∨ k = 6 ∨ k = 7 := by omega
      rcases hj with rfl | rfl | rfl | rfl | rfl | rfl | rfl | rfl <;> simp [numsTo, shNum, sel3, List.append_assoc]
    · simp at h6
theorem pOps_text : ∀ (n : Nat) (ws : List (List UInt8)), ws.length ≤ n → ∀ l, pOps ws = some l → wtext ws = opsText l := by
  intro n
  induction n with
  | zero =>
    intro ws hn l h
    have : ws = [] := List.length_eq_zero_iff.1 (by omega)
    subst this
    rw [pOps_nil] at h
    simp at h
    subst h
    rfl
  | succ n ih =>
    intro ws hn l h
    by_cases he : ws = []
    · subst he
      rw [pOps_nil] at h
      simp at h
      subst h
      rfl
    cases hp : pOp ws with
    | none => rw [pOps_none he hp] at h; simp at h
    | some v =>
      obtain ⟨o1, ws1⟩ := v
      rw [pOps_some hp] at h
      cases h2 : pOps ws1 with
      | none => rw [h2] at h; simp at h
      | some l1 =>
        rw [h2] at h
        simp at h
        subst h
        have hl := pOp_lt hp
        rw [pOp_text hp, ih ws1 (by omega) l1 h2]
        rfl
theorem pQuery_text {ws : List (List UInt8)} {q : QD} (h : pQuery ws = some q) : wtext ws = qText q := by
  simp only [pQuery, Option.bind_eq_some_iff] at h
  obtain ⟨⟨a, ws1⟩, h1, ⟨b, ws2⟩, h2, ⟨c, ws3⟩, h3, ⟨y, ws4⟩, h4, h5⟩ := h
  split at h5
  · split at h5
    · rename_i hw
      simp at h5
      subst h5
      dsimp only at h1 h2 h3 h4 hw
      subst hw
      rw [pNum_text h1, pNum_text h2, pNum_text h3, pText_text h4]
      simp [qText, bl, wtext, List.append_assoc]
    · simp at h5
  · simp at h5
theorem pCall_text {l : List UInt8} {c : CallD} (h : pCall (Scr.words l) = some c) : l = tText c := by
  obtain ⟨x, ws, hw⟩ := words_ne l
  rw [hw] at h
  have hl := line_text hw
  simp only [pCall] at h
  split at h
  · rename_i hx
    simp only [Option.bind_eq_some_iff] at h
    obtain ⟨ops, h1, h2⟩ := h
    split at h2
    · simp at h2
      subst h2
      rw [hl, hx, pOps_text _ ws (Nat.le_refl _) ops h1]
      rfl
    · simp at h2
  split at h
  · rename_i hx
    simp only [Option.map_eq_some_iff] at h
    obtain ⟨q, h1, rfl⟩ := h
    rw [hl, hx, pQuery_text h1]
    rfl
  split at h
  · rename_i hx
    simp only [Option.map_eq_some_iff] at h
    obtain ⟨q, h1, rfl⟩ := h
    rw [hl, hx, pQuery_text h1]
    rfl
  split at h
  · rename_i hx
    split at h
    · rename_i hws
      simp at h
      subst h
      rw [hl, hx, hws]
      rfl
    · simp at h
  split at h
  · rename_i hx
    split at h
    · rename_i hws
      simp at h
      subst h
      rw [hl, hx, hws]
      rfl
    · simp at h
  · simp at h
/-- Lines, each behind a line's end. -/
def ltext (ls : List (List UInt8)) : List UInt8 := ls.flatMap fun x => 10 :: x
theorem ltext_cons (x : List UInt8) (ls : List (List UInt8)) : ltext (x :: ls) = 10 :: x ++ ltext ls := rfl
theorem pieces_text : ∀ l : List UInt8, ∃ p ps, pieces l = p :: ps ∧ l = p ++ ltext ps
  | [] => ⟨[], [], rfl, rfl⟩
  | c :: l => by
    obtain ⟨p, ps, h1, h2⟩ := pieces_text l
    by_cases h : c = 10
    · subst h
      exact ⟨[], p :: ps, by rw [pieces_cons10, h1], by rw [ltext_cons, List.cons_append, ← h2]; rfl⟩
    · exact ⟨c :: p, ps, pieces_cons h l h1, by rw [List.cons_append, ← h2]⟩
theorem pRow_text : ∀ (ls : List (List UInt8)) (n : Nat) (row row' : List CallD) (ys : List (List UInt8)) (m : Nat), pRow ls n row = .ok (row', ys, m) → ∃ r, row' = row ++ r ∧ ltext ls = callsText r ++ ltext ys := by
  intro ls
  induction ls with
  | nil =>
    intro n row row' ys m h
    rw [pRow_nil] at h
    simp at h
    obtain ⟨rfl, rfl, rfl⟩ := h
    exact ⟨[], by simp, rfl⟩
  | cons x xs ih =>
    intro n row row' ys m h
    by_cases hs : x = kClient ∨ firstB x = kPicks
    · rw [pRow_stop hs] at h
      simp at h
      obtain ⟨rfl, rfl, rfl⟩ := h
      exact ⟨[], by simp, rfl⟩
    cases hc : pCall (Scr.words x) with
    | none => rw [pRow_bad hs hc] at h; simp at h
    | some c =>
      by_cases hl : 100 < row.length + 1
      · rw [pRow_many hs hc hl] at h; simp at h
      · rw [pRow_more hs hc hl] at h
        obtain ⟨r, rfl, h2⟩ := ih _ _ _ _ _ h
        refine ⟨c :: r, by simp, ?_⟩
        rw [ltext_cons, h2, pCall_text hc]
        simp [callsText]
theorem pClients_text : ∀ (k : Nat) (ls : List (List UInt8)) (n : Nat) (rows rows' : List (List CallD)) (ys : List (List UInt8)) (m : Nat), pClients k ls n rows = .ok (rows', ys, m) → ∃ r, rows' = rows ++ r ∧ ltext ls = rowsText r ++ ltext ys := by
  intro k
  induction k with
  | zero =>
    intro ls n rows rows' ys m h
    rw [pClients_zero] at h
    simp at h
    obtain ⟨rfl, rfl, rfl⟩ := h
    exact ⟨[], by simp, rfl⟩
  | succ k ih =>
    intro ls n rows rows' ys m h
    cases ls with
    | nil => rw [pClients_nil] at h; simp at h
    | cons x xs =>
      by_cases hx : x = kClient
      · subst hx
        rw [pClients_yes] at h
        cases hr : pRow xs (n + 1) [] with
        | error m => rw [hr] at h; simp at h
        | ok v =>
          obtain ⟨row, ws, m1⟩ := v
          rw [hr] at h
          simp only at h
          obtain ⟨r1, h1, h2⟩ := pRow_text _ _ _ _ _ _ hr
          obtain ⟨r, rfl, h3⟩ := ih _ _ _ _ _ _ h
          rw [List.nil_append] at h1
          subst h1
          refine ⟨row :: r, by simp, ?_⟩
          rw [ltext_cons, h2, h3]
          simp [rowsText, kClient]
      · rw [pClients_no hx] at h; simp at h
theorem pPicks_text : ∀ (ws : List (List UInt8)) (l : List Int), pPicks ws = some l → wtext ws = numsText l := by
  intro ws
  induction ws with
  | nil => intro l h; simp [pPicks] at h; subst h; rfl
  | cons x ws ih =>
    intro l h
    simp only [pPicks] at h
    split at h
    · split at h
      · rename_i k hx hk
        simp only [Option.map_eq_some_iff] at h
        obtain ⟨l1, h1, rfl⟩ := h
        rw [wtext_cons, ih l1 h1, num_text hx]
        rfl
      · simp at h
    · simp at h
theorem pLast_text {y : List UInt8} {ys : List (List UInt8)} {n : Nat} {ps : List Int} (h : pLast (y :: ys) n = .ok ps) : y = [112, 105, 99, 107, 115] ++ numsText ps := by
  obtain ⟨x, ws, hw⟩ := words_ne y
  simp only [pLast, hw] at h
  split at h
  · rename_i hx
    split at h
    · simp at h
    · rename_i ps1 hp
      split at h
      · simp at h
        subst h
        rw [line_text hw, hx, pPicks_text _ _ hp]
        rfl
      · simp at h
  · simp at h
theorem pHead_text {x : List UInt8} {a b c d : Int} (h : pHead (Scr.words x) = some (a, b, c, d)) : x = [119, 111, 114, 108, 100] ++ numsText [a, b, c, d] := by
  obtain ⟨w, ws, hw⟩ := words_ne x
  rw [hw] at h
  simp only [pHead] at h
  split at h
  · rename_i hx
    simp only [Option.bind_eq_some_iff] at h
    obtain ⟨⟨a1, ws1⟩, h1, ⟨b1, ws2⟩, h2, ⟨c1, ws3⟩, h3, ⟨d1, ws4⟩, h4, h5⟩ := h
    split at h5
    · split at h5
      · rename_i hws
        simp at h5
        obtain ⟨rfl, rfl, rfl, rfl⟩ := h5
        dsimp only at h1 h2 h3 h4 hws
        subst hws
        rw [line_text hw, hx, pNum_text h1, pNum_text h2, pNum_text (pUpTo_num h3), pNum_text (pUpTo_num h4)]
        simp [numsText, wtext, kWorld]
      · simp at h5
    · simp at h5
  · simp at h
/-- What is parsed is printed to the same text. -/
theorem back_text {l : List UInt8} {s : ScrD} (h : pParse (pieces l) = .ok s) : prText s = l := by
  obtain ⟨u, rfl, h1⟩ := pParse_ok h
  obtain ⟨p, ps, hp, hu⟩ := pieces_text u
  rw [hp] at h1
  obtain ⟨x, xs, a, b, c, d, rows, y, ys, m1, pk, he, hh, hc, hl, rfl, hm⟩ := pScript_ok h1
  obtain ⟨rfl, rfl⟩ : p = x ∧ ps = xs := by simpa using he
  have e := (pClients_len a.toNat ps 1 []).2 rows _ m1 hc
  simp only [List.length_cons] at e hm
  have hy : ys = [] := List.length_eq_zero_iff.1 (by omega)
  subst hy
  obtain ⟨r, hr, ht⟩ := pClients_text _ _ _ _ _ _ _ hc
  rw [List.nil_append] at hr
  subst hr
  rw [hu, ht, pHead_text hh, ltext_cons, pLast_text hl]
  simp [prText, ltext, List.append_assoc]
theorem back_print {l : List UInt8} {s : ScrD} (h : pParse (pieces l) = .ok s) : pPrint s = (l, 0) := by
  unfold pPrint
  rw [back_text h, if_pos h]
end Go.Proofs.YtjcdpccfhpbccaaGreatDoor
