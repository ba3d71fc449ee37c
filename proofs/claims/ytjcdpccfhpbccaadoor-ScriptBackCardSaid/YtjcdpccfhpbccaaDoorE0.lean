/-
  What lines say, read as a script: the plain functions; the reader of lines; what holds on the way.
-/
import Derived.Test.YtjcdpccfhpbccaaDoorD4
namespace Go.Proofs.YtjcdpccfhpbccaaDoor
open Go.RowKit Go.Proofs.YtjcdpccfhpbccaaDoorW.PrintWords

structure ScrD where
  clients : Int
  shift : Int
  recs : Int
  chunks : Int
  calls : List (List CallD)
  picks : List Int
def kWorld : List UInt8 := [119, 111, 114, 108, 100]
def kClient : List UInt8 := [99, 108, 105, 101, 110, 116]
def kPicks : List UInt8 := [112, 105, 99, 107, 115]
def mayL (a b : Int) : Bool := decide (0 < a) && decide (a ≤ 4) && decide (0 < b) && decide (b ≤ 4)
def firstB (x : List UInt8) : List UInt8 := (Lib.cut x [32]).1
def pHead : List (List UInt8) → Option (Int × Int × Int × Int)
  | [] => none
  | x :: ws => if x = kWorld then (pNum ws).bind fun (a, ws1) => (pNum ws1).bind fun (b, ws2) => (pUpTo 500 ws2).bind fun (c, ws3) => (pUpTo 500 ws3).bind fun (d, ws4) =>
      if mayL a b then (if ws4 = [] then some (a, b, c, d) else none) else none
    else none
def pRow : List (List UInt8) → Nat → List CallD → Except Nat (List CallD × List (List UInt8) × Nat)
  | [], n, row => .ok (row, [], n)
  | x :: xs, n, row => if x = kClient ∨ firstB x = kPicks then .ok (row, x :: xs, n) else
      match pCall (Scr.words x) with
      | none => .error n
      | some c => if 100 < row.length + 1 then .error n else pRow xs (n + 1) (row ++ [c])
def pClients : Nat → List (List UInt8) → Nat → List (List CallD) → Except Nat (List (List CallD) × List (List UInt8) × Nat)
  | 0, ls, n, rows => .ok (rows, ls, n)
  | _ + 1, [], n, _ => .error n
  | k + 1, x :: xs, n, rows => if x = kClient then
      match pRow xs (n + 1) [] with
      | .error m => .error m
      | .ok (row, ys, m) => pClients k ys m (rows ++ [row])
    else .error n
def pPicks : List (List UInt8) → Option (List Int)
  | [] => some []
  | x :: ws => match num x with
    | some k => if 0 ≤ k ∧ k ≤ 255 then (pPicks ws).map (k :: ·) else none
    | none => none
def pLast : List (List UInt8) → Nat → Except Nat (List Int)
  | [], n => .error n
  | x :: _, n => match Scr.words x with
    | [] => .error n
    | w :: ws => if w = kPicks then
        match pPicks ws with
        | none => .error n
        | some ps => if ps.length ≤ 1000 then .ok ps else .error n
      else .error n
def pScript : List (List UInt8) → Except Nat (ScrD × Nat)
  | [] => .error 0
  | x :: xs => match pHead (Scr.words x) with
    | none => .error 0
    | some (a, b, c, d) => match pClients a.toNat xs 1 [] with
      | .error m => .error m
      | .ok (rows, ys, m) => match pLast ys m with
        | .error m => .error m
        | .ok ps => .ok (⟨a, b, c, d, rows, ps⟩, m + 1)

/-- A reader, and the lines that it reads. -/
structure Rd (w : World) (r b off L c n : Nat) (ls : List ByteArray) : Prop where
  rd : RdAt w r (.slice (some ⟨b, off, none⟩) L c) n
  len : ls.length = L
  max : L ≤ 4294967297
  cells : ∀ i s, ls[i]? = some s → w.cell? ⟨b, off + i, none⟩ = some (.string s)
  size : ∀ s ∈ ls, s.size ≤ 4294967280
  gl : Glob w
  r6 : 6 ≤ r
  br : b ≠ r
  bl : b < w.heap.size
namespace Rd
variable {w w' : World} {r b off L c n m : Nat} {ls : List ByteArray} {S : Nat → Prop}
theorem keep (h : Rd w r b off L c n ls) (hm : Mut S w w') (hb : ¬ S b) (h6 : ∀ k, S k → 6 ≤ k) (hr : RdAt w' r (.slice (some ⟨b, off, none⟩) L c) m) : Rd w' r b off L c m ls :=
  ⟨hr, h.len, h.max, fun i s hi => hm.cell (h.cells i s hi) hb, h.size, h.gl.mut hm h6, h.r6, h.br, Nat.lt_of_lt_of_le h.bl hm.size⟩
theorem move (h : Rd w r b off L c n ls) (hm : Mut S w w') (hb : ¬ S b) (h6 : ∀ k, S k → 6 ≤ k) (hr : ¬ S r) : Rd w' r b off L c n ls := h.keep hm hb h6 (h.rd.mut hm hr)
theorem below (h : Rd w r b off L c n ls) (hb : Below w.heap.size w w') : Rd w' r b off L c n ls := h.move (Mut.of_below hb (fun _ => False)) (fun h => h) (fun _ h => h.elim) (fun h => h)
theorem line (h : Rd w r b off L c n ls) (s : ByteArray) (hs : ls[n]? = some s) : Line w r b off L c n s := by
  obtain ⟨hlt, he⟩ := List.getElem?_eq_some_iff.1 hs
  have := h.len
  exact ⟨h.rd, by omega, h.max, h.cells n s hs, h.size s (he ▸ List.getElem_mem hlt), h.gl, h.r6⟩
theorem drewN (h : Rd w r b off L c n ls) (k : Nat) : Rd (w.drewN k) r b off L c n ls := h.below (below_drewN (Below.refl _ _) k)
end Rd

/-- The line that comes next, if there is one. -/
def nextV (ls : List ByteArray) (n : Nat) : Value := match ls[n]? with | some s => .tuple #[.string s, .bool true] | none => .tuple #[.string ⟨#[]⟩, .bool false]
theorem next_some {r b off L c n : Nat} {ls : List ByteArray} (s : ByteArray) (w : World) (h : Rd w r b off L c n ls) (hs : ls[n]? = some s) :
    Calls Tryd.prog 39 #[.pointer (some ⟨r, 0, none⟩)] w fun e w' => e = .returned (.tuple #[.string s, .bool true]) ∧ ∃ k, w' = w.drewN k := by
  have hl := h.line s hs
  exact next_yes r b off L c n s w h.rd hl.lt (by have := hl.max; omega) hl.cell
theorem next_none {r b off L c n : Nat} {ls : List ByteArray} (w : World) (h : Rd w r b off L c n ls) (hs : ls[n]? = none) :
    Calls Tryd.prog 39 #[.pointer (some ⟨r, 0, none⟩)] w fun e w' => e = .returned (.tuple #[.string ⟨#[]⟩, .bool false]) ∧ ∃ k, w' = w.drewN k := by
  have h1 := List.getElem?_eq_none_iff.1 hs
  have h2 := h.len
  exact next_no r _ L c n w h.rd (by omega)

set_option maxHeartbeats 400000 in
theorem memMay_any (a b : Int) (w : World) :
    Calls Tryd.prog 13 #[.agg #[.int .i64 a, .int .i64 b]] w fun e w' => e = .returned (.bool (mayL a b)) ∧ Below w.heap.size w w' := by
  have hb : ∀ o, Below w.heap.size w (w.alloc o) := fun o => (Below.refl _ _).alloc (Nat.le_refl _) o
  have hv : mayL a b = (decide (0 < a) && decide (a ≤ 4) && decide (0 < b) && decide (b ≤ 4)) := rfl
  have HV := Lib.hid hv
  have HB := Lib.hid hb
  clear hb hv
  by_cases h1 : 0 < a
  · by_cases h2 : a ≤ 4
    · by_cases h3 : 0 < b
      · by_cases h4 : b ≤ 4
        · go_enter Tryd.func13, Tryd.ntmps13
          go_wp2
          go_ret
          exact ⟨by rw [HV.out]; simp [h1, h2, h3, h4], HB.out _⟩
        · go_enter Tryd.func13, Tryd.ntmps13
          go_wp2
          go_ret
          exact ⟨by rw [HV.out]; simp [h1, h2, h3, h4], HB.out _⟩
      · go_enter Tryd.func13, Tryd.ntmps13
        go_wp2
        go_ret
        exact ⟨by rw [HV.out]; simp [h1, h2, h3]; omega, HB.out _⟩
    · go_enter Tryd.func13, Tryd.ntmps13
      go_wp2
      go_ret
      exact ⟨by rw [HV.out]; simp [h1, h2]; omega, HB.out _⟩
  · go_enter Tryd.func13, Tryd.ntmps13
    go_wp2
    go_ret
    exact ⟨by rw [HV.out]; simp [h1]; omega, HB.out _⟩
end Go.Proofs.YtjcdpccfhpbccaaDoor
