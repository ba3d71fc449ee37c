/-
  Plain words on worlds for the walks over the scripts' parser: what a call keeps (all blocks but some, and what is new), and cells of a block that is known whole.
  The walks of the smallest parts of the scripts' parser: give, next, line, end.
  Plain words of the scripts: a line's words, as lists of bytes.
  The walks of a line's head and of its next word.
-/
import Derived.Test.YtjcdpccfhpbccaaGreatDoorProg
import Derived.WalkKit
import Derived.WalkSpells
import Derived.WalkLawsBesides
import Derived.Lib.Hide
import Derived.Deep.QuietTactic
import Derived.BigQuiet
import Derived.LoopTactic
import Derived.Lib.Strings
namespace Go.Proofs.YtjcdpccfhpbccaaGreatDoor
open Go.RowKit

/-- All blocks but those of S, and what is new since, are as they were. -/
structure Mut (S : Nat → Prop) (w w' : World) : Prop where
  os : w'.os = w.os
  tape : w'.tape = w.tape
  output : w'.output = w.output
  size : w.heap.size ≤ w'.heap.size
  block : ∀ k, k < w.heap.size → ¬ S k → w'.heap[k]? = w.heap[k]?
theorem below_drewN {B : Nat} {a w : World} (h : Below B a w) (n : Nat) : Below B a (w.drewN n) := ⟨h.os, h.tape, h.output, h.size, h.block⟩
theorem below_via {w w1 : World} {o : Obj} (hb : Below (w.alloc o).heap.size (w.alloc o) w1) : Below w.heap.size w w1 := ((Below.refl _ _).alloc (Nat.le_refl _) o).trans (hb.mono (by simp))
namespace Mut
variable {S S' : Nat → Prop} {w w1 w2 : World}
theorem refl (S : Nat → Prop) (w : World) : Mut S w w := ⟨rfl, rfl, rfl, Nat.le_refl _, fun _ _ _ => rfl⟩
theorem trans (h : Mut S w w1) (k : Mut S' w1 w2) (hs : ∀ i, S' i → S i ∨ w.heap.size ≤ i) : Mut S w w2 :=
  ⟨k.os.trans h.os, k.tape.trans h.tape, k.output.trans h.output, Nat.le_trans h.size k.size, fun i hi hn =>
    (k.block i (Nat.lt_of_lt_of_le hi h.size) (fun h2 => (hs i h2).elim hn (fun h3 => by omega))).trans (h.block i hi hn)⟩
theorem mono (h : Mut S w w1) (hs : ∀ i, S i → S' i ∨ w.heap.size ≤ i) : Mut S' w w1 :=
  ⟨h.os, h.tape, h.output, h.size, fun i hi hn => h.block i hi (fun h2 => (hs i h2).elim hn (fun h3 => by omega))⟩
theorem of_below (h : Below w.heap.size w w1) (S : Nat → Prop) : Mut S w w1 := ⟨h.os, h.tape, h.output, h.size, fun i hi _ => h.block i hi⟩
theorem below (h : Mut S w w1) {B : Nat} (hB : B ≤ w.heap.size) (hS : ∀ i, S i → B ≤ i) : Below B w w1 :=
  ⟨h.os, h.tape, h.output, h.size, fun i hi => h.block i (by omega) (fun h2 => by have := hS i h2; omega)⟩
theorem then_below (h : Mut S w w1) (k : Below w1.heap.size w1 w2) : Mut S w w2 := h.trans (of_below k (fun _ => False)) (fun _ h => h.elim)
theorem alloc (h : Mut S w w1) (o : Obj) : Mut S w (w1.alloc o) := h.then_below ((Below.refl _ _).alloc (Nat.le_refl _) o)
theorem drew (h : Mut S w w1) : Mut S w w1.drew := ⟨h.os, h.tape, h.output, h.size, h.block⟩
theorem drewN (h : Mut S w w1) (n : Nat) : Mut S w (w1.drewN n) := ⟨h.os, h.tape, h.output, h.size, h.block⟩
theorem set (h : Mut S w w1) {p : Addr} (hp : S p.block ∨ w.heap.size ≤ p.block) (u : Value) : Mut S w (w1.setCell p u) :=
  h.trans (S' := fun k => k = p.block) ⟨rfl, rfl, rfl, by simp [World.setCell], fun i _ hn => Below.heap_setCell w1 p u i hn⟩ (fun i hi => by rw [hi]; exact hp)
theorem setRow (h : Mut S w w1) {g : Nat} (hp : S g ∨ w.heap.size ≤ g) (cs : Array Value) : Mut S w (w1.setRow g cs) :=
  h.trans (S' := fun k => k = g) ⟨rfl, rfl, rfl, by simp, fun i _ hn => setRow_other w1 g i cs hn⟩ (fun i hi => by rw [hi]; exact hp)
theorem set1 {b : Nat} (h : Mut (· = b) w w1) (j : Nat) (u : Value) : Mut (· = b) w (w1.setCell ⟨b, j, none⟩ u) := h.set (p := ⟨b, j, none⟩) (.inl rfl) u
theorem blk (h : Mut S w w1) {g : Nat} {o : Obj} (hb : w.heap[g]? = some o) (hn : ¬ S g) : w1.heap[g]? = some o := (h.block g (lt_of_block hb) hn).trans hb
theorem cell (h : Mut S w w1) {a : Addr} {v : Value} (hc : w.cell? a = some v) (hn : ¬ S a.block) : w1.cell? a = some v := by
  have := h.block a.block (World.block_lt_of_cell? w a hc) hn
  simpa [World.cell?, this] using hc
end Mut

section
variable {w : World} {b : Nat} {cs : Array Value} {t : TypeId}
theorem cell_blk (h : w.heap[b]? = some (.cells cs t (0, 0))) (j : Nat) {v : Value} (hj : cs[j]? = some v) : w.cell? ⟨b, j, none⟩ = some v := by simp [World.cell?, h, hj]
theorem froz_blk (h : w.heap[b]? = some (.cells cs t (0, 0))) (j : Nat) : w.frozen? ⟨b, j, none⟩ = false := by simp [World.frozen?, h]
theorem set_blk (h : w.heap[b]? = some (.cells cs t (0, 0))) (j : Nat) (u : Value) : (w.setCell ⟨b, j, none⟩ u).heap[b]? = some (.cells (cs.setIfInBounds j u) t (0, 0)) := by
  have hlt := lt_of_block h
  have h' : w.heap[b] = .cells cs t (0, 0) := by simpa [Array.getElem?_eq_getElem hlt] using h
  show (w.heap.modify b _)[b]? = _
  rw [Array.getElem?_eq_getElem (by simpa using hlt), Array.getElem_modify_self, h']
  rfl
theorem set_blk_ne {w : World} {b b' : Nat} {o : Obj} (h : w.heap[b]? = some o) (hne : b ≠ b') (j : Nat) (u : Value) : (w.setCell ⟨b', j, none⟩ u).heap[b]? = some o :=
  (Below.heap_setCell w ⟨b', j, none⟩ u b hne).trans h
theorem alloc_blk {w : World} {b : Nat} {o : Obj} (h : w.heap[b]? = some o) (o' : Obj) : (w.alloc o').heap[b]? = some o := (Below.heap_alloc w o' b (lt_of_block h)).trans h
theorem alloc_new (w : World) (o : Obj) : (w.alloc o).heap[w.heap.size]? = some o := by show (w.heap.push o)[w.heap.size]? = _; simp
end
end Go.Proofs.YtjcdpccfhpbccaaGreatDoor
namespace Go.Proofs.YtjcdpccfhpbccaaGreatDoor
open Go.RowKit

/-- The panic with the number of a line. -/
def Gave (n : Int) (e : Ending) : Prop := e = .panicked [{ v := .iface 55 (.int .i64 n), recovered := false }]

set_option maxHeartbeats 400000 in
theorem give_any (r : Nat) (v : Value) (n : Int) (w : World) (hr : w.heap[r]? = some (.cells #[v, .int .i64 n] 60 (0, 0))) :
    Calls Tryz.prog 18 #[.pointer (some ⟨r, 0, none⟩)] w fun e w' => Gave n e ∧ w = w' := by
  have h1 := cell_blk hr 1 (v := .int .i64 n) rfl
  clear hr
  go_enter Tryz.func18, Tryz.ntmps18
  go_wp2
  exact ⟨rfl, rfl, rfl⟩

/-- A reader of lines, in its block: the lines' value, and how many were read. -/
def RdAt (w : World) (r : Nat) (v : Value) (n : Int) : Prop := w.heap[r]? = some (.cells #[v, .int .i64 n] 60 (0, 0))
/-- What is left of a line, in its block. -/
def LnAt (w : World) (l r : Nat) (s : ByteArray) (more : Bool) : Prop := w.heap[l]? = some (.cells #[.pointer (some ⟨r, 0, none⟩), .string s, .bool more] 116 (0, 0))

set_option maxHeartbeats 400000 in
theorem next_no (r : Nat) (A : Option Addr) (L c : Nat) (n : Int) (w : World) (hr : RdAt w r (.slice A L c) n) (hn : (L : Int) ≤ n) :
    Calls Tryz.prog 48 #[.pointer (some ⟨r, 0, none⟩)] w fun e w' => e = .returned (.tuple #[.string ⟨#[]⟩, .bool false]) ∧ ∃ k, w' = w.drewN k := by
  have h0 := cell_blk hr 0 (v := .slice A L c) rfl
  have h1 := cell_blk hr 1 (v := .int .i64 n) rfl
  clear hr
  go_enter Tryz.func48, Tryz.ntmps48
  go_wp2
  go_quiet (fail)
  go_wp2
  go_ret2
  exact ⟨rfl, _, rfl⟩

set_option maxHeartbeats 400000 in
theorem next_yes (r : Nat) (b off L c : Nat) (n : Nat) (s : ByteArray) (w : World) (hr : RdAt w r (.slice (some ⟨b, off, none⟩) L c) n) (hn : n < L) (hL : L ≤ 9223372036854775807) (hs : w.cell? ⟨b, off + n, none⟩ = some (.string s)) :
    Calls Tryz.prog 48 #[.pointer (some ⟨r, 0, none⟩)] w fun e w' => e = .returned (.tuple #[.string s, .bool true]) ∧ ∃ k, w' = w.drewN k := by
  have h0 := cell_blk hr 0 (v := .slice (some ⟨b, off, none⟩) L c) rfl
  have h1 := cell_blk hr 1 (v := .int .i64 n) rfl
  clear hr
  go_enter Tryz.func48, Tryz.ntmps48
  go_wp2
  go_quiet (fail)
  go_wp2
  go_quiet (fail)
  go_wp2
  go_ret2
  exact ⟨rfl, _, World.drewN_drewN _ _ _⟩

/-- A line is done: one line more was read. -/
theorem end_yes (l r : Nat) (s : ByteArray) (v : Value) (n : Int) (hn0 : 0 ≤ n) (hn : n < 9223372036854775807) (w : World) (hl : LnAt w l r s false) (hr : RdAt w r v n) :
    Calls Tryz.prog 47 #[.pointer (some ⟨l, 0, none⟩)] w fun e w' => e = .returned (.tuple #[]) ∧ w.setCell ⟨r, 1, none⟩ (.int .i64 (n + 1)) = w' := by
  have h0 := cell_blk hl 0 (v := .pointer (some ⟨r, 0, none⟩)) rfl
  have h2 := cell_blk hl 2 (v := .bool false) rfl
  have h1 := cell_blk hr 1 (v := .int .i64 n) rfl
  have hf := froz_blk hr 1
  clear hr hl
  go_enter Tryz.func47, Tryz.ntmps47
  go_wp2
  go_end0
  exact ⟨rfl, rfl⟩

theorem end_no (l r : Nat) (s : ByteArray) (v : Value) (n : Int) (w : World) (hl : LnAt w l r s true) (hr : RdAt w r v n) :
    Calls Tryz.prog 47 #[.pointer (some ⟨l, 0, none⟩)] w fun e w' => Gave n e ∧ w = w' := by
  have h0 := cell_blk hl 0 (v := .pointer (some ⟨r, 0, none⟩)) rfl
  have h2 := cell_blk hl 2 (v := .bool true) rfl
  clear hl
  go_enter Tryz.func47, Tryz.ntmps47
  go_wp2_with fail
  refine (give_any r v n _ hr).mono ?_
  rintro e w' ⟨rfl, rfl⟩
  exact ⟨rfl, rfl, rfl⟩

end Go.Proofs.YtjcdpccfhpbccaaGreatDoor
namespace Go.Proofs.YtjcdpccfhpbccaaGreatDoor.Scr

abbrev Bytes := List UInt8

/-- Whether one stands between brackets behind a byte. -/
def brk (b : Bool) (c : UInt8) : Bool := if c = 91 then true else if c = 93 then false else b

/-- The first blank that stands in no brackets. -/
def blankAt : Bool → Bytes → Option Nat
  | _, [] => none
  | b, c :: l => if c = 32 ∧ b = false then some 0 else (blankAt (brk b c) l).map (· + 1)

theorem blankAt_lt : ∀ (l : Bytes) (b : Bool) (i : Nat), blankAt b l = some i → i < l.length := by
  intro l
  induction l with
  | nil => intro b i h; simp [blankAt] at h
  | cons c l ih =>
    intro b i h
    simp only [blankAt] at h
    split at h
    · simp at h; subst h; simp
    · cases h2 : blankAt (brk b c) l with
      | none => simp [h2] at h
      | some j => simp [h2] at h; have := ih _ _ h2; simp; omega

/-- The words of a line. -/
def words (l : Bytes) : List Bytes :=
  match h : blankAt false l with
  | none => [l]
  | some i => l.take i :: words (l.drop (i + 1))
termination_by l.length
decreasing_by have := blankAt_lt l false i h; simp; omega

theorem words_none {l : Bytes} (h : blankAt false l = none) : words l = [l] := by
  rw [words]; split
  · rfl
  · simp_all
theorem words_some {l : Bytes} {i : Nat} (h : blankAt false l = some i) : words l = l.take i :: words (l.drop (i + 1)) := by
  rw [words]; split
  · simp_all
  · simp_all

/-- What is left of a line: its words. -/
def left (s : Bytes) (more : Bool) : List Bytes := if more then words s else []

theorem blankAt_step {l : Bytes} {k : Nat} {b : Bool} {c : UInt8} (hc : l[k]? = some c) (hn : ¬ (c = 32 ∧ b = false)) :
    (blankAt b (l.drop k)).map (· + k) = (blankAt (brk b c) (l.drop (k + 1))).map (· + (k + 1)) := by
  have hlt : k < l.length := (List.getElem?_eq_some_iff.1 hc).1
  have e : l.drop k = c :: l.drop (k + 1) := by
    rw [List.drop_eq_getElem_cons hlt]
    have := (List.getElem?_eq_some_iff.1 hc).2
    rw [this]
  rw [e, blankAt, if_neg hn, Option.map_map]
  congr 1
  funext x
  simp; omega
theorem blankAt_hit {l : Bytes} {k : Nat} {c : UInt8} (hc : l[k]? = some c) (hn : c = 32) :
    (blankAt false (l.drop k)).map (· + k) = some k := by
  have hlt : k < l.length := (List.getElem?_eq_some_iff.1 hc).1
  have e : l.drop k = c :: l.drop (k + 1) := by
    rw [List.drop_eq_getElem_cons hlt]
    have := (List.getElem?_eq_some_iff.1 hc).2
    rw [this]
  rw [e, blankAt, if_pos ⟨hn, rfl⟩]
  simp
theorem blankAt_end {l : Bytes} {b : Bool} : (blankAt b (l.drop l.length)).map (· + l.length) = none := by simp [blankAt]
theorem left_cons {s : Bytes} {more : Bool} {x : Bytes} {ws : List Bytes} (h : left s more = x :: ws) :
    more = true ∧ ((∃ i, blankAt false s = some i ∧ x = s.take i ∧ ws = left (s.drop (i + 1)) true) ∨ (blankAt false s = none ∧ x = s ∧ ws = left [] false)) := by
  cases more with
  | false => simp [left] at h
  | true =>
    refine ⟨rfl, ?_⟩
    simp only [left, if_true] at h
    cases hb : blankAt false s with
    | none =>
      rw [words_none hb] at h
      simp at h
      exact .inr ⟨rfl, h.1.symm, by simp [left, h.2]⟩
    | some i =>
      rw [words_some hb] at h
      simp at h
      exact .inl ⟨i, rfl, h.1.symm, by simp [left, h.2]⟩
theorem left_nil {s : Bytes} {more : Bool} (h : left s more = []) : more = false := by
  cases more with
  | false => rfl
  | true =>
    simp only [left, if_true] at h
    cases hb : blankAt false s with
    | none => rw [words_none hb] at h; simp at h
    | some i => rw [words_some hb] at h; simp at h
theorem words_len : ∀ (n : Nat) (l : Bytes), l.length ≤ n → ∀ x ∈ words l, x.length ≤ l.length := by
  intro n
  induction n with
  | zero =>
    intro l hl x hx
    cases hb : blankAt false l with
    | none => rw [words_none hb] at hx; simp at hx; rw [hx]; exact Nat.le_refl _
    | some i => have := blankAt_lt _ _ _ hb; omega
  | succ n ih =>
    intro l hl x hx
    cases hb : blankAt false l with
    | none => rw [words_none hb] at hx; simp at hx; rw [hx]; exact Nat.le_refl _
    | some i =>
      have h1 := blankAt_lt _ _ _ hb
      rw [words_some hb] at hx
      rcases List.mem_cons.1 hx with rfl | hx
      · simp; omega
      · have h2 := ih (l.drop (i + 1)) (by simp; omega) x hx
        simp at h2
        omega
theorem left_len {s : Bytes} {more : Bool} : ∀ x ∈ left s more, x.length ≤ s.length := by
  intro x hx
  cases more with
  | false => simp [left] at hx
  | true => exact words_len _ _ (Nat.le_refl _) x (by simpa [left] using hx)
theorem left_more {s : Bytes} {x : Bytes} {ws : List Bytes} {more : Bool} (h : left s more = x :: ws) : more = true := (left_cons h).1
end Go.Proofs.YtjcdpccfhpbccaaGreatDoor.Scr
namespace Go.Proofs.YtjcdpccfhpbccaaGreatDoor
open Go.RowKit

set_option maxHeartbeats 400000 in
theorem line_no (r : Nat) (A : Option Addr) (L c : Nat) (n : Int) (w : World) (hr : RdAt w r (.slice A L c) n) (hn : (L : Int) ≤ n) :
    Calls Tryz.prog 43 #[.pointer (some ⟨r, 0, none⟩)] w fun e w' => Gave n e ∧ ∃ k, w' = w.drewN k := by
  go_enter Tryz.func43, Tryz.ntmps43
  go_wp2_with fail
  refine (next_no r A L c n _ hr hn).mono ?_
  rintro e w' ⟨rfl, k, rfl⟩
  go_wp2_with fail
  refine (give_any r _ n _ (by exact hr)).mono ?_
  rintro e w' ⟨rfl, rfl⟩
  exact ⟨rfl, rfl, _, rfl⟩

set_option maxHeartbeats 400000 in
theorem line_yes (r : Nat) (b off L c : Nat) (n : Nat) (s : ByteArray) (w : World) (hr : RdAt w r (.slice (some ⟨b, off, none⟩) L c) n) (hn : n < L) (hL : L ≤ 9223372036854775807) (hs : w.cell? ⟨b, off + n, none⟩ = some (.string s)) :
    Calls Tryz.prog 43 #[.pointer (some ⟨r, 0, none⟩)] w fun e w' => ∃ l, e = .returned (.pointer (some ⟨l, 0, none⟩)) ∧ w.heap.size ≤ l ∧ LnAt w' l r s true ∧ Below w.heap.size w w' := by
  have H := Lib.hid hr
  clear hr
  go_enter Tryz.func43, Tryz.ntmps43
  go_wp2_with fail
  refine (next_yes r b off L c n s _ H.out hn hL hs).mono ?_
  rintro e w' ⟨rfl, k, rfl⟩
  go_wp2_with fail
  go_ret
  exact ⟨_, rfl, Nat.le_refl _, alloc_new _ _, (below_drewN (Below.refl _ _) k).alloc (Nat.le_refl _) _⟩

abbrev bl (s : ByteArray) : List UInt8 := s.data.toList

theorem byte_at (s : ByteArray) (k : Nat) (h : k < s.size) : (bl s)[k]? = some s[k] := by
  have : k < s.data.toList.length := by rw [← Lib.size_eq]; exact h
  rw [List.getElem?_eq_getElem this]; rfl

theorem u8_of {c d : UInt8} (h : ((c.toNat : Int) == (d.toNat : Int)) = true) : c = d := UInt8.toNat_inj.1 (by have := beq_iff_eq.1 h; omega)
theorem u8_ne {c d : UInt8} (h : ((c.toNat : Int) == (d.toNat : Int)) = false) : c ≠ d := fun e => by subst e; simp at h

set_option maxHeartbeats 400000 in
theorem word_no (l r : Nat) (s : ByteArray) (v : Value) (n : Int) (w : World) (hl : LnAt w l r s false) (hr : RdAt w r v n) :
    Calls Tryz.prog 44 #[.pointer (some ⟨l, 0, none⟩)] w fun e w' => Gave n e ∧ w = w' := by
  have h0 := cell_blk hl 0 (v := .pointer (some ⟨r, 0, none⟩)) rfl
  have h2 := cell_blk hl 2 (v := .bool false) rfl
  clear hl
  go_enter Tryz.func44, Tryz.ntmps44
  go_wp2_with fail
  refine (give_any r v n _ hr).mono ?_
  rintro e w' ⟨rfl, rfl⟩
  exact ⟨rfl, rfl, rfl⟩

set_option maxHeartbeats 400000 in
theorem word_more (l r : Nat) (s : ByteArray) (hs : s.size ≤ 9223372036854775806) (w : World) (hl : LnAt w l r s true) :
    Calls Tryz.prog 44 #[.pointer (some ⟨l, 0, none⟩)] w fun e w' =>
      (∃ i, Scr.blankAt false (bl s) = some i ∧ e = .returned (.string (s.extract 0 i)) ∧ w' = w.setCell ⟨l, 1, none⟩ (.string (s.extract (i + 1) s.size))) ∨
      (Scr.blankAt false (bl s) = none ∧ e = .returned (.string s) ∧ w' = (w.setCell ⟨l, 1, none⟩ (.string ⟨#[]⟩)).setCell ⟨l, 2, none⟩ (.bool false)) := by
  have h0 := cell_blk hl 0 (v := .pointer (some ⟨r, 0, none⟩)) rfl
  have h1 := cell_blk hl 1 (v := .string s) rfl
  have h2 := cell_blk hl 2 (v := .bool true) rfl
  have f1 := froz_blk hl 1
  have f2 := froz_blk hl 2
  clear hl
  go_enter Tryz.func44, Tryz.ntmps44
  go_wp2_with fail
  go_loop [3, 22] (fun b i => ∃ (k : Nat) (q : Bool), k ≤ s.size ∧ i = .int .i64 k ∧ b = .bool q ∧ Hid (Scr.blankAt false (bl s) = (Scr.blankAt q ((bl s).drop k)).map (· + k))) (fun _ i => s.size - (intOf i).toNat)
  case atStart => exact ⟨0, false, Nat.zero_le _, rfl, rfl, by show _ = _; simp⟩
  case round =>
    obtain ⟨k, q, hk, rfl, rfl, HS⟩ := hrel
    by_cases hlt : k < s.size
    · have hc := Lib.hid (byte_at s k hlt)
      go_wp2_with fail
      · have t1 : ((s[k].toNat : Int) == 91) = true := by assumption
        have e1 : s[k] = 91 := u8_of t1
        refine ⟨⟨k + 1, true, by omega, by go_num, rfl, ?_⟩, by simp [intOf]; omega⟩
        have h3 := Scr.blankAt_step (b := q) hc.out (by rw [e1]; simp)
        rw [e1] at h3
        exact (HS.out.trans h3)
      · have t1 : ((s[k].toNat : Int) == 93) = true := by assumption
        have e1 : s[k] = 93 := u8_of t1
        refine ⟨⟨k + 1, false, by omega, by go_num, rfl, ?_⟩, by simp [intOf]; omega⟩
        have h3 := Scr.blankAt_step (b := q) hc.out (by rw [e1]; simp)
        rw [e1] at h3
        exact (HS.out.trans h3)
      · have t1 : ((s[k].toNat : Int) == 32) = true := by assumption
        have e1 : s[k] = 32 := u8_of t1
        have t2 : (!q) = true := by assumption
        have e2 : q = false := by simpa using t2
        subst e2
        have h3 := HS.out.trans (Scr.blankAt_hit hc.out e1)
        go_ret
        exact .inl ⟨k, h3, rfl, rfl⟩
      · have t1 : ((s[k].toNat : Int) == 32) = true := by assumption
        have e1 : s[k] = 32 := u8_of t1
        have t2 : (!q) = false := by assumption
        have e2 : q = true := by simpa using t2
        subst e2
        refine ⟨⟨k + 1, true, by omega, by go_num, rfl, ?_⟩, by simp [intOf]; omega⟩
        have h3 := Scr.blankAt_step (b := true) hc.out (by simp)
        rw [e1] at h3
        exact (HS.out.trans h3)
      · have t1 : ((s[k].toNat : Int) == 91) = false := by assumption
        have t2 : ((s[k].toNat : Int) == 93) = false := by assumption
        have t3 : ((s[k].toNat : Int) == 32) = false := by assumption
        have e1 : s[k] ≠ 91 := u8_ne t1
        have e2 : s[k] ≠ 93 := u8_ne t2
        have e3 : s[k] ≠ 32 := u8_ne t3
        refine ⟨⟨k + 1, q, by omega, by go_num, rfl, ?_⟩, by simp [intOf]; omega⟩
        have h3 := Scr.blankAt_step (b := q) hc.out (fun h => e3 h.1)
        have h4 : Scr.brk q s[k] = q := by simp [Scr.brk, e1, e2]
        rw [h4] at h3
        exact (HS.out.trans h3)
    · have hk2 : k = (bl s).length := by have := Lib.size_eq s; show k = s.data.toList.length; omega
      have hno : Scr.blankAt false (bl s) = none := by rw [HS.out, hk2]; exact Scr.blankAt_end
      have HN := Lib.hid hno
      clear hno hk2 HS
      go_wp2_with fail
      go_ret
      exact .inr ⟨HN.out, rfl, rfl⟩
end Go.Proofs.YtjcdpccfhpbccaaGreatDoor
