/-
  The data of scripts in memory: operations, queries, calls.
  What a call's line says: the plain functions; the end of a line by its words.
-/
import Derived.Test.YtjcdpccfhpbccaaGreatDoorC1
import Derived.Test.YtjcdpccfhpbccaaGreatDoorWWords
namespace Go.Proofs.YtjcdpccfhpbccaaGreatDoor
open Go.RowKit Go.Proofs.YtjcdpccfhpbccaaGreatDoorW.PrintWords

structure QD where
  k : Int
  i : Int
  b : Int
  x : ByteArray
structure CallD where
  k : Int
  ops : List OpD
  q : QD
def kOp : Kd OpD := Kd.iso (Kd.pair (Kd.int .i64) (Kd.pair (Kd.int .i64) (Kd.pair (Kd.int .i64) (Kd.pair (Kd.int .i64) (Kd.pair Kd.string Kd.string))))) (fun o => (o.k, o.i, o.t, o.a, o.n, o.x))
def kQ : Kd QD := Kd.iso (Kd.pair (Kd.int .i64) (Kd.pair (Kd.int .i64) (Kd.pair (Kd.int .i64) Kd.string))) (fun q => (q.k, q.i, q.b, q.x))
/-- A call; e: the type of its operations. -/
def kCall (e : Nat) : Kd CallD := Kd.iso (Kd.pair (Kd.int .i64) (Kd.pair (Kd.slice e kOp) kQ)) (fun c => (c.k, c.ops, c.q))
theorem kOp_sz : kOp.sz = 6 := rfl
theorem kCall_sz (e : Nat) : (kCall e).sz = 6 := rfl
theorem kOp_M (w : World) (base : Nat) (ok : Nat → Prop) (o : OpD) : kOp.M w base ok o [.int .i64 o.k, .int .i64 o.i, .int .i64 o.t, .int .i64 o.a, .string o.n, .string o.x] :=
  ⟨[.int .i64 o.k], [.int .i64 o.i, .int .i64 o.t, .int .i64 o.a, .string o.n, .string o.x], rfl, rfl, ⟨[.int .i64 o.i], [.int .i64 o.t, .int .i64 o.a, .string o.n, .string o.x], rfl, rfl, ⟨[.int .i64 o.t], [.int .i64 o.a, .string o.n, .string o.x], rfl, rfl, ⟨[.int .i64 o.a], [.string o.n, .string o.x], rfl, rfl, ⟨[.string o.n], [.string o.x], rfl, rfl, rfl⟩⟩⟩⟩⟩
theorem kOp_K {w : World} {o : OpD} {cs : List Value} (h : kOp.K w o cs) : cs = [.int .i64 o.k, .int .i64 o.i, .int .i64 o.t, .int .i64 o.a, .string o.n, .string o.x] := by
  obtain ⟨_, _, rfl, rfl, ⟨_, _, rfl, rfl, ⟨_, _, rfl, rfl, ⟨_, _, rfl, rfl, ⟨_, _, rfl, rfl, rfl⟩⟩⟩⟩⟩ := h
  rfl
theorem kCall_M {e : Nat} {w : World} {base : Nat} {ok : Nat → Prop} {c : CallD} {v : Value} (h : kOp.R e w base ok v c.ops) : (kCall e).M w base ok c [.int .i64 c.k, v, .int .i64 c.q.k, .int .i64 c.q.i, .int .i64 c.q.b, .string c.q.x] :=
  ⟨[.int .i64 c.k], [v, .int .i64 c.q.k, .int .i64 c.q.i, .int .i64 c.q.b, .string c.q.x], rfl, rfl, ⟨[v], [.int .i64 c.q.k, .int .i64 c.q.i, .int .i64 c.q.b, .string c.q.x], rfl, ⟨v, rfl, h⟩, ⟨[.int .i64 c.q.k], [.int .i64 c.q.i, .int .i64 c.q.b, .string c.q.x], rfl, rfl, ⟨[.int .i64 c.q.i], [.int .i64 c.q.b, .string c.q.x], rfl, rfl, ⟨[.int .i64 c.q.b], [.string c.q.x], rfl, rfl, rfl⟩⟩⟩⟩⟩
theorem kCall_K {e : Nat} {w : World} {c : CallD} {cs : List Value} (h : (kCall e).K w c cs) : ∃ A cap, cs = [.int .i64 c.k, .slice A c.ops.length cap, .int .i64 c.q.k, .int .i64 c.q.i, .int .i64 c.q.b, .string c.q.x] ∧ c.ops.length ≤ cap ∧ kOp.C w A c.ops.length c.ops := by
  obtain ⟨_, _, rfl, rfl, ⟨_, _, rfl, ⟨A, cap, rfl, h1, h2⟩, ⟨_, _, rfl, rfl, ⟨_, _, rfl, rfl, ⟨_, _, rfl, rfl, rfl⟩⟩⟩⟩⟩ := h
  exact ⟨A, cap, rfl, h1, h2⟩

/-- Any call keeps a row of another type than the blocks that it turns. -/
theorem R_mut {α : Type} {d : Kd α} {e base : Nat} {ok : Nat → Prop} {w w1 : World} {v : Value} {xs : List α} {S : Nat → Prop} (h : d.R e w base ok v xs) (hm : Mut S w w1) (hS : ∀ k, ok k → ¬ S k) : d.R e w1 base ok v xs :=
  Kd.R_step h (fun k hk hlt => hm.block k hlt (hS k hk))
end Go.Proofs.YtjcdpccfhpbccaaGreatDoor
namespace Go.Proofs.YtjcdpccfhpbccaaGreatDoor
open Go.RowKit Go.Proofs.YtjcdpccfhpbccaaGreatDoorW.PrintWords

theorem pNum_lt {ws ws' : List (List UInt8)} {k : Int} (h : pNum ws = some (k, ws')) : ws'.length < ws.length := by
  cases ws with
  | nil => simp [pNum] at h
  | cons x ws =>
    simp only [pNum] at h
    cases hx : num x with
    | none => simp [hx] at h
    | some v => simp [hx] at h; obtain ⟨rfl, rfl⟩ := h; simp
theorem pText_lt {u y : List UInt8} {ws ws' : List (List UInt8)} (h : pText u ws = some (y, ws')) : ws'.length < ws.length := by
  cases ws with
  | nil => simp [pText] at h
  | cons x ws =>
    simp only [pText] at h
    cases hx : txt u x with
    | none => simp [hx] at h
    | some v => simp [hx] at h; obtain ⟨rfl, rfl⟩ := h; simp
theorem optNum_le {c : Bool} {ws ws' : List (List UInt8)} {k : Int} (h : optNum c ws = some (k, ws')) : ws'.length ≤ ws.length := by
  unfold optNum at h
  split at h
  · exact Nat.le_of_lt (pNum_lt h)
  · simp at h; rw [h.2]; exact Nat.le_refl _
theorem optText_le {c : Bool} {ws ws' : List (List UInt8)} {y : List UInt8} (h : optText c ws = some (y, ws')) : ws'.length ≤ ws.length := by
  unfold optText at h
  split at h
  · exact Nat.le_of_lt (pText_lt h)
  · simp at h; rw [h.2]; exact Nat.le_refl _
theorem pOp_lt {ws ws' : List (List UInt8)} {o : OpD} (h : pOp ws = some (o, ws')) : ws'.length < ws.length := by
  cases ws with
  | nil => simp [pOp] at h
  | cons x ws =>
    simp only [pOp, Option.bind_eq_some_iff] at h
    obtain ⟨⟨i, ws1⟩, h1, ⟨t, ws2⟩, h2, ⟨a, ws3⟩, h3, ⟨n, ws4⟩, h4, ⟨y, ws5⟩, h5, h6⟩ := h
    have e1 := optNum_le h1
    have e2 := optNum_le h2
    have e3 := optNum_le h3
    have e4 := optText_le h4
    have e5 := optText_le h5
    dsimp only at e1 e2 e3 e4 e5
    split at h6
    · simp at h6
      rw [← h6.2]
      simp
      omega
    · simp at h6

/-- The operations that words are. -/
def pOps (ws : List (List UInt8)) : Option (List OpD) :=
  match ws with
  | [] => some []
  | x :: ws0 => match h : pOp (x :: ws0) with
    | none => none
    | some (o, ws') => (pOps ws').map (o :: ·)
termination_by ws.length
decreasing_by exact pOp_lt h
theorem pOps_nil : pOps [] = some [] := by rw [pOps]
theorem pOps_none {ws : List (List UInt8)} (hn : ws ≠ []) (h : pOp ws = none) : pOps ws = none := by
  cases ws with
  | nil => exact absurd rfl hn
  | cons x ws =>
    rw [pOps]
    split
    · rfl
    · simp_all
theorem pOps_some {ws ws' : List (List UInt8)} {o : OpD} (h : pOp ws = some (o, ws')) : pOps ws = (pOps ws').map (o :: ·) := by
  cases ws with
  | nil => simp [pOp] at h
  | cons x ws =>
    rw [pOps]
    split
    · simp_all
    · rename_i o2 ws2 h2
      rw [h] at h2
      obtain ⟨rfl, rfl⟩ : o = o2 ∧ ws' = ws2 := by simpa using h2
      rfl

def kSubmit : List UInt8 := [115, 117, 98, 109, 105, 116]
def kRead : List UInt8 := [114, 101, 97, 100]
def kAsk : List UInt8 := [97, 115, 107]
def kOpen : List UInt8 := [111, 112, 101, 110]
def kClose : List UInt8 := [99, 108, 111, 115, 101]
def qZero : QD := ⟨0, 0, 0, ⟨#[]⟩⟩
def pQuery (ws : List (List UInt8)) : Option QD :=
  (pNum ws).bind fun (a, ws1) => (pNum ws1).bind fun (b, ws2) => (pNum ws2).bind fun (c, ws3) => (pText [] ws3).bind fun (y, ws4) =>
    if y.length ≤ 100 then (if ws4 = [] then some ⟨a, b, c, ⟨y.toArray⟩⟩ else none) else none
def pCall : List (List UInt8) → Option CallD
  | [] => none
  | x :: ws =>
    if x = kSubmit then (pOps ws).bind fun l => if l.length ≤ 20 then some ⟨1, l, qZero⟩ else none
    else if x = kRead then (pQuery ws).map fun q => ⟨2, [], q⟩
    else if x = kAsk then (pQuery ws).map fun q => ⟨4, [], q⟩
    else if x = kOpen then (if ws = [] then some ⟨3, [], qZero⟩ else none)
    else if x = kClose then (if ws = [] then some ⟨5, [], qZero⟩ else none)
    else none

theorem LnW.more {w : World} {l r : Nat} {ws : List (List UInt8)} (h : LnW w l r ws) : w.cell? ⟨l, 2, none⟩ = some (.bool (!ws.isEmpty)) := by
  obtain ⟨s, more, h1, h2, h3⟩ := h
  have hc := cell_blk h1 2 (v := .bool more) rfl
  rw [hc]
  cases ws with
  | nil => rw [Scr.left_nil h2]; rfl
  | cons x ws => rw [Scr.left_more h2]; rfl
theorem endW_yes (l r : Nat) (v : Value) (n : Int) (hn0 : 0 ≤ n) (hn : n < 9223372036854775807) (w : World) (hl : LnW w l r []) (hr : RdAt w r v n) :
    Calls Tryz.prog 47 #[.pointer (some ⟨l, 0, none⟩)] w fun e w' => e = .returned (.tuple #[]) ∧ RdAt w' r v (n + 1) ∧ Mut (· = r) w w' := by
  obtain ⟨s, more, h1, h2, h3⟩ := hl
  have h4 := Scr.left_nil h2
  subst h4
  refine (end_yes l r s v n hn0 hn w h1 hr).mono ?_
  rintro e w' ⟨he, rfl⟩
  exact ⟨he, set_blk hr 1 _, Mut.set1 (Mut.refl (· = r) w) 1 _⟩
theorem endW_no (l r : Nat) (x : List UInt8) (ws : List (List UInt8)) (v : Value) (n : Int) (w : World) (hl : LnW w l r (x :: ws)) (hr : RdAt w r v n) :
    Calls Tryz.prog 47 #[.pointer (some ⟨l, 0, none⟩)] w fun e w' => Gave n e ∧ w = w' := by
  obtain ⟨s, more, h1, h2, h3⟩ := hl
  have h4 := Scr.left_more h2
  subst h4
  exact end_no l r s v n w h1 hr
theorem LnW.of {w : World} {l r : Nat} {s : ByteArray} (h : LnAt w l r s true) (hs : s.size ≤ 4294967280) : LnW w l r (Scr.words (bl s)) := ⟨s, true, h, by simp [Scr.left], hs⟩
theorem words_count : ∀ (n : Nat) (l : List UInt8), l.length ≤ n → (Scr.words l).length ≤ l.length + 1 := by
  intro n
  induction n with
  | zero =>
    intro l hl
    cases hb : Scr.blankAt false l with
    | none => rw [Scr.words_none hb]; simp
    | some i => have := Scr.blankAt_lt _ _ _ hb; omega
  | succ n ih =>
    intro l hl
    cases hb : Scr.blankAt false l with
    | none => rw [Scr.words_none hb]; simp
    | some i =>
      have h1 := Scr.blankAt_lt _ _ _ hb
      have h2 := ih (l.drop (i + 1)) (by simp; omega)
      rw [Scr.words_some hb]
      simp at h2 ⊢
      omega
theorem LnW.count {w : World} {l r : Nat} {ws : List (List UInt8)} (h : LnW w l r ws) : ws.length ≤ 4294967281 := by
  obtain ⟨s, more, h1, h2, h3⟩ := h
  rw [← h2]
  cases more with
  | false => simp [Scr.left]
  | true =>
    have h4 := words_count _ (bl s) (Nat.le_refl _)
    rw [← size_bl] at h4
    simp only [Scr.left, if_true]
    omega
end Go.Proofs.YtjcdpccfhpbccaaGreatDoor
