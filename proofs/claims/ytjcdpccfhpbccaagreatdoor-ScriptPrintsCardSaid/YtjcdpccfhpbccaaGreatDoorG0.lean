/-
  What a script that lines say is: its sizes; its operations, that may be.
-/
import Derived.Test.YtjcdpccfhpbccaaGreatDoorF1
namespace Go.Proofs.YtjcdpccfhpbccaaGreatDoor
open Go.RowKit Go.Proofs.YtjcdpccfhpbccaaGreatDoorW.PrintWords

structure CallIn (c : CallD) : Prop where
  k1 : 1 ≤ c.k
  k5 : c.k ≤ 5
  l : c.ops.length ≤ 20
  e : c.k ≠ 1 → c.ops = []
  may : ∀ o ∈ c.ops, mayB o.k o.i o.t o.a o.n o.x = true
  ok : CallOk c
structure Sized (s : ScrD) : Prop where
  may : mayL s.clients s.shift = true
  rows : (s.calls.length : Int) = s.clients
  r0 : 0 ≤ s.recs
  r1 : s.recs ≤ 500
  c0 : 0 ≤ s.chunks
  c1 : s.chunks ≤ 500
  p : s.picks.length ≤ 1000
  pv : ∀ x ∈ s.picks, 0 ≤ x ∧ x ≤ 255
  row : ∀ row ∈ s.calls, row.length ≤ 100 ∧ ∀ c ∈ row, CallIn c
theorem mayL_in {a b : Int} (h : mayL a b = true) : 0 < a ∧ a ≤ 4 ∧ 0 < b ∧ b ≤ 4 := by
  unfold mayL at h
  simp only [Bool.and_eq_true, decide_eq_true_eq] at h
  exact ⟨h.1.1.1, h.1.1.2, h.1.2, h.2⟩
theorem pNum_i64 {ws ws' : List (List UInt8)} {k : Int} (h : pNum ws = some (k, ws')) : I64 k := pNum_bounds h
theorem i64_0 : I64 0 := ⟨by decide, by decide⟩
theorem optNum_i64 {c : Bool} {ws ws' : List (List UInt8)} {k : Int} (h : optNum c ws = some (k, ws')) : I64 k := by
  unfold optNum at h
  split at h
  · exact pNum_i64 h
  · simp at h; rw [← h.1]; exact i64_0
theorem pUpTo_in {m : Int} {ws ws' : List (List UInt8)} {k : Int} (h : pUpTo m ws = some (k, ws')) : 0 ≤ k ∧ k ≤ m := by
  unfold pUpTo at h
  cases hp : pNum ws with
  | none => rw [hp] at h; simp at h
  | some v =>
    obtain ⟨v, w2⟩ := v
    rw [hp] at h
    simp only at h
    split at h
    · rename_i hc; simp at h; rw [← h.1]; exact hc
    · simp at h
theorem pOp_in {ws ws' : List (List UInt8)} {o : OpD} (h : pOp ws = some (o, ws')) : mayB o.k o.i o.t o.a o.n o.x = true ∧ OpOk o := by
  cases ws with
  | nil => simp [pOp] at h
  | cons x ws =>
    simp only [pOp, Option.bind_eq_some_iff] at h
    obtain ⟨⟨i, ws1⟩, h1, ⟨t, ws2⟩, h2, ⟨a, ws3⟩, h3, ⟨n, ws4⟩, h4, ⟨y, ws5⟩, h5, h6⟩ := h
    split at h6
    · rename_i hm
      simp only [Option.some.injEq, Prod.mk.injEq] at h6
      obtain ⟨rfl, rfl⟩ := h6
      obtain ⟨_, _, m3, m4⟩ := mayB_in hm
      exact ⟨hm, ⟨optNum_i64 h1, optNum_i64 h2, optNum_i64 h3, Nat.le_trans m3 (by decide), Nat.le_trans m4 (by decide)⟩⟩
    · simp at h6
theorem pOps_in : ∀ (n : Nat) (ws : List (List UInt8)), ws.length ≤ n → ∀ l, pOps ws = some l → ∀ o ∈ l, mayB o.k o.i o.t o.a o.n o.x = true ∧ OpOk o := by
  intro n
  induction n with
  | zero =>
    intro ws hn l h
    have : ws = [] := List.length_eq_zero_iff.1 (by omega)
    subst this
    rw [pOps_nil] at h
    simp at h
    subst h
    simp
  | succ n ih =>
    intro ws hn l h
    by_cases he : ws = []
    · subst he
      rw [pOps_nil] at h
      simp at h
      subst h
      simp
    cases hp : pOp ws with
    | none => rw [pOps_none he hp] at h; simp at h
    | some v =>
      obtain ⟨o1, ws1⟩ := v
      rw [pOps_some hp] at h
      cases h2 : pOps ws1 with
      | none => rw [h2] at h; simp at h
      | some l1 =>
        rw [h2] at h
        simp at h
        subst h
        have hl := pOp_lt hp
        intro o ho
        rcases List.mem_cons.1 ho with rfl | ho
        · exact pOp_in hp
        · exact ih ws1 (by omega) l1 h2 o ho
theorem pQuery_in {ws : List (List UInt8)} {q : QD} (h : pQuery ws = some q) : I64 q.k ∧ I64 q.i ∧ I64 q.b ∧ q.x.size ≤ 100 := by
  simp only [pQuery, Option.bind_eq_some_iff] at h
  obtain ⟨⟨a, ws1⟩, h1, ⟨b, ws2⟩, h2, ⟨c, ws3⟩, h3, ⟨y, ws4⟩, h4, h5⟩ := h
  split at h5
  · rename_i hy
    split at h5
    · simp at h5
      subst h5
      exact ⟨pNum_i64 h1, pNum_i64 h2, pNum_i64 h3, by rw [size_mk]; exact hy⟩
    · simp at h5
  · simp at h5
theorem callIn_none (k : Int) (h1 : 1 ≤ k) (h5 : k ≤ 5) (q : QD) (hq : I64 q.k ∧ I64 q.i ∧ I64 q.b ∧ q.x.size ≤ 100) : CallIn ⟨k, [], q⟩ :=
  ⟨h1, h5, by simp, fun _ => rfl, by simp, ⟨by simp, hq.1, hq.2.1, hq.2.2.1, by have := hq.2.2.2; dsimp only; omega⟩⟩
theorem qZero_in : I64 qZero.k ∧ I64 qZero.i ∧ I64 qZero.b ∧ qZero.x.size ≤ 100 := ⟨i64_0, i64_0, i64_0, by decide⟩
theorem pCall_in {ws : List (List UInt8)} {c : CallD} (h : pCall ws = some c) : CallIn c := by
  cases ws with
  | nil => simp [pCall] at h
  | cons x ws =>
    simp only [pCall] at h
    split at h
    · simp only [Option.bind_eq_some_iff] at h
      obtain ⟨l, h1, h2⟩ := h
      split at h2
      · rename_i hl
        simp at h2
        subst h2
        have hin := pOps_in _ ws (Nat.le_refl _) l h1
        exact ⟨by simp, by simp, hl, by simp, fun o ho => (hin o ho).1, ⟨fun o ho => (hin o ho).2, i64_0, i64_0, i64_0, by simp [qZero, ByteArray.size]⟩⟩
      · simp at h2
    split at h
    · simp only [Option.map_eq_some_iff] at h
      obtain ⟨q, h1, rfl⟩ := h
      exact callIn_none 2 (by decide) (by decide) q (pQuery_in h1)
    split at h
    · simp only [Option.map_eq_some_iff] at h
      obtain ⟨q, h1, rfl⟩ := h
      exact callIn_none 4 (by decide) (by decide) q (pQuery_in h1)
    split at h
    · split at h
      · simp at h; subst h; exact callIn_none 3 (by decide) (by decide) qZero qZero_in
      · simp at h
    split at h
    · split at h
      · simp at h; subst h; exact callIn_none 5 (by decide) (by decide) qZero qZero_in
      · simp at h
    · simp at h
theorem pRow_in : ∀ (ls : List (List UInt8)) (n : Nat) (row : List CallD), row.length ≤ 100 → (∀ c ∈ row, CallIn c) → ∀ row' ys m, pRow ls n row = .ok (row', ys, m) → row'.length ≤ 100 ∧ ∀ c ∈ row', CallIn c := by
  intro ls
  induction ls with
  | nil =>
    intro n row h1 h2 row' ys m h
    rw [pRow_nil] at h
    simp at h
    rw [← h.1]
    exact ⟨h1, h2⟩
  | cons x xs ih =>
    intro n row h1 h2 row' ys m h
    by_cases hs : x = kClient ∨ firstB x = kPicks
    · rw [pRow_stop hs] at h
      simp at h
      rw [← h.1]
      exact ⟨h1, h2⟩
    cases hc : pCall (Scr.words x) with
    | none => rw [pRow_bad hs hc] at h; simp at h
    | some c =>
      by_cases hl : 100 < row.length + 1
      · rw [pRow_many hs hc hl] at h; simp at h
      · rw [pRow_more hs hc hl] at h
        refine ih (n + 1) (row ++ [c]) (by simp; omega) (fun c' h' => ?_) row' ys m h
        rcases List.mem_append.1 h' with h' | h'
        · exact h2 c' h'
        · simp at h'; subst h'; exact pCall_in hc
theorem pClients_in : ∀ (k : Nat) (ls : List (List UInt8)) (n : Nat) (rows : List (List CallD)), (∀ row ∈ rows, row.length ≤ 100 ∧ ∀ c ∈ row, CallIn c) → ∀ rows' ys m, pClients k ls n rows = .ok (rows', ys, m) → rows'.length = rows.length + k ∧ ∀ row ∈ rows', row.length ≤ 100 ∧ ∀ c ∈ row, CallIn c := by
  intro k
  induction k with
  | zero =>
    intro ls n rows h1 rows' ys m h
    simp [pClients] at h
    rw [← h.1]
    exact ⟨rfl, h1⟩
  | succ k ih =>
    intro ls n rows h1 rows' ys m h
    cases ls with
    | nil => simp [pClients] at h
    | cons x xs =>
      simp only [pClients] at h
      split at h
      · cases hr : pRow xs (n + 1) [] with
        | error m => rw [hr] at h; simp at h
        | ok v =>
          obtain ⟨row, ys', m'⟩ := v
          rw [hr] at h
          simp only at h
          have hin := pRow_in xs (n + 1) [] (by simp) (by simp) row ys' m' hr
          have := ih ys' m' (rows ++ [row]) (fun r' h' => by
            rcases List.mem_append.1 h' with h' | h'
            · exact h1 r' h'
            · simp at h'; subst h'; exact hin) rows' ys m h
          refine ⟨by rw [this.1]; simp; omega, this.2⟩
      · simp at h
theorem pPicks_in : ∀ (ws : List (List UInt8)) (l : List Int), pPicks ws = some l → ∀ x ∈ l, 0 ≤ x ∧ x ≤ 255 := by
  intro ws
  induction ws with
  | nil => intro l h; simp [pPicks] at h; subst h; simp
  | cons x ws ih =>
    intro l h
    simp only [pPicks] at h
    split at h
    · split at h
      · rename_i k _ hk
        simp only [Option.map_eq_some_iff] at h
        obtain ⟨l1, h1, rfl⟩ := h
        intro y hy
        rcases List.mem_cons.1 hy with rfl | hy
        · exact hk
        · exact ih l1 h1 y hy
      · simp at h
    · simp at h
theorem pLast_in {ls : List (List UInt8)} {n : Nat} {ps : List Int} (h : pLast ls n = .ok ps) : ps.length ≤ 1000 ∧ ∀ x ∈ ps, 0 ≤ x ∧ x ≤ 255 := by
  cases ls with
  | nil => simp [pLast] at h
  | cons x xs =>
    simp only [pLast] at h
    split at h
    · simp at h
    · split at h
      · split at h
        · simp at h
        · rename_i ps1 hp
          split at h
          · rename_i hl
            simp at h
            subst h
            exact ⟨hl, pPicks_in _ _ hp⟩
          · simp at h
      · simp at h
theorem pHead_in {ws : List (List UInt8)} {a b c d : Int} (h : pHead ws = some (a, b, c, d)) : mayL a b = true ∧ 0 ≤ c ∧ c ≤ 500 ∧ 0 ≤ d ∧ d ≤ 500 := by
  cases ws with
  | nil => simp [pHead] at h
  | cons x ws =>
    simp only [pHead] at h
    split at h
    · simp only [Option.bind_eq_some_iff] at h
      obtain ⟨⟨a1, ws1⟩, h1, ⟨b1, ws2⟩, h2, ⟨c1, ws3⟩, h3, ⟨d1, ws4⟩, h4, h5⟩ := h
      split at h5
      · rename_i hm
        split at h5
        · simp at h5
          obtain ⟨rfl, rfl, rfl, rfl⟩ := h5
          have e1 := pUpTo_in h3
          have e2 := pUpTo_in h4
          exact ⟨hm, e1.1, e1.2, e2.1, e2.2⟩
        · simp at h5
      · simp at h5
    · simp at h
theorem pScript_in {ls : List (List UInt8)} {s : ScrD} {m : Nat} (h : pScript ls = .ok (s, m)) : Sized s := by
  cases ls with
  | nil => simp [pScript] at h
  | cons x xs =>
    simp only [pScript] at h
    cases hh : pHead (Scr.words x) with
    | none => rw [hh] at h; simp at h
    | some v =>
      obtain ⟨a, b, c, d⟩ := v
      rw [hh] at h
      simp only at h
      cases hc : pClients a.toNat xs 1 [] with
      | error m => rw [hc] at h; simp at h
      | ok v =>
        obtain ⟨rows, ys, m1⟩ := v
        rw [hc] at h
        simp only at h
        cases hl : pLast ys m1 with
        | error m => rw [hl] at h; simp at h
        | ok ps =>
          rw [hl] at h
          simp at h
          obtain ⟨rfl, rfl⟩ := h
          obtain ⟨h1, h2, h3, h4, h5⟩ := pHead_in hh
          obtain ⟨g1, g2⟩ := pClients_in _ _ _ _ (by simp) _ _ _ hc
          obtain ⟨f1, f2⟩ := pLast_in hl
          have := mayL_in h1
          exact ⟨h1, by rw [g1]; simp; omega, h2, h3, h4, h5, f1, f2, g2⟩
theorem pParse_in {ls : List (List UInt8)} {s : ScrD} (h : pParse ls = .ok s) : Sized s := by
  unfold pParse at h
  cases hs : pScript ls.dropLast with
  | error m => rw [hs] at h; simp at h
  | ok v =>
    obtain ⟨s1, m⟩ := v
    rw [hs] at h
    simp only at h
    split at h
    · simp at h
    · simp at h
      subst h
      exact pScript_in hs
end Go.Proofs.YtjcdpccfhpbccaaGreatDoor
