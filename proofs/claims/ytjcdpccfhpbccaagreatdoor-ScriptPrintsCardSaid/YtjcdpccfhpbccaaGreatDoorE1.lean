/-
  What lines say, read as a script: the plain functions; the reader of lines; what holds on the way.
  A row of rows whose last row is still being made.
-/
import Derived.Test.YtjcdpccfhpbccaaGreatDoorD4
namespace Go.Proofs.YtjcdpccfhpbccaaGreatDoor
open Go.RowKit Go.Proofs.YtjcdpccfhpbccaaGreatDoorW.PrintWords

structure ScrD where
  clients : Int
  shift : Int
  recs : Int
  chunks : Int
  calls : List (List CallD)
  picks : List Int
def kWorld : List UInt8 := [119, 111, 114, 108, 100]
def kClient : List UInt8 := [99, 108, 105, 101, 110, 116]
def kPicks : List UInt8 := [112, 105, 99, 107, 115]
def mayL (a b : Int) : Bool := decide (0 < a) && decide (a ≤ 4) && decide (0 < b) && decide (b ≤ 4)
def firstB (x : List UInt8) : List UInt8 := (Lib.cut x [32]).1
def pHead : List (List UInt8) → Option (Int × Int × Int × Int)
  | [] => none
  | x :: ws => if x = kWorld then (pNum ws).bind fun (a, ws1) => (pNum ws1).bind fun (b, ws2) => (pUpTo 500 ws2).bind fun (c, ws3) => (pUpTo 500 ws3).bind fun (d, ws4) =>
      if mayL a b then (if ws4 = [] then some (a, b, c, d) else none) else none
    else none
def pRow : List (List UInt8) → Nat → List CallD → Except Nat (List CallD × List (List UInt8) × Nat)
  | [], n, row => .ok (row, [], n)
  | x :: xs, n, row => if x = kClient ∨ firstB x = kPicks then .ok (row, x :: xs, n) else
      match pCall (Scr.words x) with
      | none => .error n
      | some c => if 100 < row.length + 1 then .error n else pRow xs (n + 1) (row ++ [c])
def pClients : Nat → List (List UInt8) → Nat → List (List CallD) → Except Nat (List (List CallD) × List (List UInt8) × Nat)
  | 0, ls, n, rows => .ok (rows, ls, n)
  | _ + 1, [], n, _ => .error n
  | k + 1, x :: xs, n, rows => if x = kClient then
      match pRow xs (n + 1) [] with
      | .error m => .error m
      | .ok (row, ys, m) => pClients k ys m (rows ++ [row])
    else .error n
def pPicks : List (List UInt8) → Option (List Int)
  | [] => some []
  | x :: ws => match num x with
    | some k => if 0 ≤ k ∧ k ≤ 255 then (pPicks ws).map (k :: ·) else none
    | none => none
def pLast : List (List UInt8) → Nat → Except Nat (List Int)
  | [], n => .error n
  | x :: _, n => match Scr.words x with
    | [] => .error n
    | w :: ws => if w = kPicks then
        match pPicks ws with
        | none => .error n
        | some ps => if ps.length ≤ 1000 then .ok ps else .error n
      else .error n
def pScript : List (List UInt8) → Except Nat (ScrD × Nat)
  | [] => .error 0
  | x :: xs => match pHead (Scr.words x) with
    | none => .error 0
    | some (a, b, c, d) => match pClients a.toNat xs 1 [] with
      | .error m => .error m
      | .ok (rows, ys, m) => match pLast ys m with
        | .error m => .error m
        | .ok ps => .ok (⟨a, b, c, d, rows, ps⟩, m + 1)

/-- A reader, and the lines that it reads. -/
structure Rd (w : World) (r b off L c n : Nat) (ls : List ByteArray) : Prop where
  rd : RdAt w r (.slice (some ⟨b, off, none⟩) L c) n
  len : ls.length = L
  max : L ≤ 4294967297
  cells : ∀ i s, ls[i]? = some s → w.cell? ⟨b, off + i, none⟩ = some (.string s)
  size : ∀ s ∈ ls, s.size ≤ 4294967280
  gl : Glob w
  r6 : 6 ≤ r
  br : b ≠ r
  bl : b < w.heap.size
namespace Rd
variable {w w' : World} {r b off L c n m : Nat} {ls : List ByteArray} {S : Nat → Prop}
theorem keep (h : Rd w r b off L c n ls) (hm : Mut S w w') (hb : ¬ S b) (h6 : ∀ k, S k → 6 ≤ k) (hr : RdAt w' r (.slice (some ⟨b, off, none⟩) L c) m) : Rd w' r b off L c m ls :=
  ⟨hr, h.len, h.max, fun i s hi => hm.cell (h.cells i s hi) hb, h.size, h.gl.mut hm h6, h.r6, h.br, Nat.lt_of_lt_of_le h.bl hm.size⟩
theorem move (h : Rd w r b off L c n ls) (hm : Mut S w w') (hb : ¬ S b) (h6 : ∀ k, S k → 6 ≤ k) (hr : ¬ S r) : Rd w' r b off L c n ls := h.keep hm hb h6 (h.rd.mut hm hr)
theorem below (h : Rd w r b off L c n ls) (hb : Below w.heap.size w w') : Rd w' r b off L c n ls := h.move (Mut.of_below hb (fun _ => False)) (fun h => h) (fun _ h => h.elim) (fun h => h)
theorem line (h : Rd w r b off L c n ls) (s : ByteArray) (hs : ls[n]? = some s) : Line w r b off L c n s := by
  obtain ⟨hlt, he⟩ := List.getElem?_eq_some_iff.1 hs
  have := h.len
  exact ⟨h.rd, by omega, h.max, h.cells n s hs, h.size s (he ▸ List.getElem_mem hlt), h.gl, h.r6⟩
theorem drewN (h : Rd w r b off L c n ls) (k : Nat) : Rd (w.drewN k) r b off L c n ls := h.below (below_drewN (Below.refl _ _) k)
end Rd

/-- The line that comes next, if there is one. -/
def nextV (ls : List ByteArray) (n : Nat) : Value := match ls[n]? with | some s => .tuple #[.string s, .bool true] | none => .tuple #[.string ⟨#[]⟩, .bool false]
theorem next_some {r b off L c n : Nat} {ls : List ByteArray} (s : ByteArray) (w : World) (h : Rd w r b off L c n ls) (hs : ls[n]? = some s) :
    Calls Tryz.prog 48 #[.pointer (some ⟨r, 0, none⟩)] w fun e w' => e = .returned (.tuple #[.string s, .bool true]) ∧ ∃ k, w' = w.drewN k := by
  have hl := h.line s hs
  exact next_yes r b off L c n s w h.rd hl.lt (by have := hl.max; omega) hl.cell
theorem next_none {r b off L c n : Nat} {ls : List ByteArray} (w : World) (h : Rd w r b off L c n ls) (hs : ls[n]? = none) :
    Calls Tryz.prog 48 #[.pointer (some ⟨r, 0, none⟩)] w fun e w' => e = .returned (.tuple #[.string ⟨#[]⟩, .bool false]) ∧ ∃ k, w' = w.drewN k := by
  have h1 := List.getElem?_eq_none_iff.1 hs
  have h2 := h.len
  exact next_no r _ L c n w h.rd (by omega)

set_option maxHeartbeats 400000 in
theorem memMay_any (a b : Int) (w : World) :
    Calls Tryz.prog 14 #[.agg #[.int .i64 a, .int .i64 b]] w fun e w' => e = .returned (.bool (mayL a b)) ∧ Below w.heap.size w w' := by
  have hb : ∀ o, Below w.heap.size w (w.alloc o) := fun o => (Below.refl _ _).alloc (Nat.le_refl _) o
  have hv : mayL a b = (decide (0 < a) && decide (a ≤ 4) && decide (0 < b) && decide (b ≤ 4)) := rfl
  have HV := Lib.hid hv
  have HB := Lib.hid hb
  clear hb hv
  by_cases h1 : 0 < a
  · by_cases h2 : a ≤ 4
    · by_cases h3 : 0 < b
      · by_cases h4 : b ≤ 4
        · go_enter Tryz.func14, Tryz.ntmps14
          go_wp2
          go_ret
          exact ⟨by rw [HV.out]; simp [h1, h2, h3, h4], HB.out _⟩
        · go_enter Tryz.func14, Tryz.ntmps14
          go_wp2
          go_ret
          exact ⟨by rw [HV.out]; simp [h1, h2, h3, h4], HB.out _⟩
      · go_enter Tryz.func14, Tryz.ntmps14
        go_wp2
        go_ret
        exact ⟨by rw [HV.out]; simp [h1, h2, h3]; omega, HB.out _⟩
    · go_enter Tryz.func14, Tryz.ntmps14
      go_wp2
      go_ret
      exact ⟨by rw [HV.out]; simp [h1, h2]; omega, HB.out _⟩
  · go_enter Tryz.func14, Tryz.ntmps14
    go_wp2
    go_ret
    exact ⟨by rw [HV.out]; simp [h1]; omega, HB.out _⟩
end Go.Proofs.YtjcdpccfhpbccaaGreatDoor
namespace Go.Proofs.YtjcdpccfhpbccaaGreatDoor
open Go.RowKit Go.Proofs.YtjcdpccfhpbccaaGreatDoorW.PrintWords

def kRow : Kd (List CallD) := Kd.slice 53 (kCall 48)
theorem info_row : (Tryz.prog.info? 45).map (fun i => (i.zero, i.size, i.bytes)) = some (some (.slice none 0 0), 1, 24) := by kernel_rfl
theorem info_call : (Tryz.prog.info? 53).map (fun i => (i.zero, i.size, i.bytes)) = some (some (.agg callZero), 6, 72) := by kernel_rfl

section
variable {W W1 : World} {base e g m cap : Nat} {inner : List Value} {u u1 : Value}
theorem own_last (h : W.ownsRow base e 1 (.slice (some ⟨g, 0, none⟩) (m + 1) cap) (m + 1) (inner ++ [u])) :
    W.cell? ⟨g, m, none⟩ = some u ∧ W.frozen? ⟨g, m, none⟩ = false ∧ inner.length = m ∧ base ≤ g ∧ g < W.heap.size ∧ ∃ cur, W.heap[g]? = some (.cells cur e (0, 0)) := by
  obtain ⟨h1, h2⟩ := h
  have hl : inner.length = m := by simp at h1; omega
  rcases h2 with ⟨h2, _⟩ | ⟨g', cap', cur, hv, hb, hh, hc, hm, hs, ht⟩
  · cases h2
  · injection hv with hv1 hv2 hv3
    injection hv1 with hv1
    injection hv1 with hv1
    subst hv1
    refine ⟨?_, by simp [World.frozen?, hh], hl, hb, lt_of_block hh, cur, hh⟩
    have h3 : (cur.toList.take ((m + 1) * 1))[m]? = some u := by rw [ht, List.getElem?_append_right (by omega), hl]; simp
    have h4 : cur[m]? = some u := by
      rw [List.getElem?_take] at h3
      simpa using h3
    simp [World.cell?, hh, h4]
theorem own_put_last (h : W.ownsRow base e 1 (.slice (some ⟨g, 0, none⟩) (m + 1) cap) (m + 1) (inner ++ [u])) :
    (W.setCell ⟨g, m, none⟩ u1).ownsRow base e 1 (.slice (some ⟨g, 0, none⟩) (m + 1) cap) (m + 1) (inner ++ [u1]) := by
  obtain ⟨_, _, hl, _⟩ := own_last h
  obtain ⟨h1, h2⟩ := h
  refine ⟨by simpa using h1, .inr ?_⟩
  rcases h2 with ⟨h2, _⟩ | ⟨g', cap', cur, hv, hb, hh, hc, hm, hs, ht⟩
  · cases h2
  · injection hv with hv1 hv2 hv3
    injection hv1 with hv1
    injection hv1 with hv1
    subst hv1
    refine ⟨g, cap, cur.setIfInBounds m u1, rfl, hb, set_blk hh m u1, by omega, by omega, by simp; omega, ?_⟩
    have hsz : m < cur.toList.length := by simp; omega
    rw [Array.toList_setIfInBounds]
    have h3 : (m + 1) * 1 = m + 1 := by omega
    rw [h3] at ht ⊢
    have h5 : cur.toList.take m = inner := by
      have := congrArg (List.take m) ht
      rw [List.take_take, Nat.min_eq_left (by omega), List.take_append_of_le_length (by omega), ← hl, List.take_length] at this
      rw [← hl]; exact this
    rw [List.take_add_one, List.take_set_of_le (by omega), h5, List.getElem?_set_self hsz]
    rfl
end

/-- The rows that are done, and the one that is being made. g: their block, u: what the last cell holds. -/
structure RowSt (W : World) (base : Nat) (ok : Nat → Prop) (g cap : Nat) (rows : List (List CallD)) (inner : List Value) (u : Value) (row : List CallD) : Prop where
  own : W.ownsRow base 45 1 (.slice (some ⟨g, 0, none⟩) (rows.length + 1) cap) (rows.length + 1) (inner ++ [u])
  reps : Reps (kRow.M W base (fun k => ok k ∧ k ≠ g ∧ some k ≠ u.ownBlock)) 1 rows inner
  cur : (kCall 48).R 53 W base (fun k => ok k ∧ k ≠ g) u row
  gok : ok g
namespace RowSt
variable {W W1 : World} {base g cap : Nat} {ok S : Nat → Prop} {rows : List (List CallD)} {inner : List Value} {u u1 : Value} {row : List CallD} {c : CallD}
theorem cell (h : RowSt W base ok g cap rows inner u row) : W.cell? ⟨g, rows.length, none⟩ = some u := (own_last h.own).1
theorem froz (h : RowSt W base ok g cap rows inner u row) : W.frozen? ⟨g, rows.length, none⟩ = false := (own_last h.own).2.1
theorem lt (h : RowSt W base ok g cap rows inner u row) : g < W.heap.size := (own_last h.own).2.2.2.2.1
theorem base_le (h : RowSt W base ok g cap rows inner u row) : base ≤ g := (own_last h.own).2.2.2.1
theorem step (h : RowSt W base ok g cap rows inner u row) (hm : Mut S W W1) (hS : ∀ k, ok k → ¬ S k) : RowSt W1 base ok g cap rows inner u row := by
  have hlt := h.lt
  refine ⟨own_move h.own (fun k hk => ?_), h.reps.imp_ (fun _ _ hp => Kd.M_step hp (fun k hk hl => hm.block k hl (hS k hk.1))), R_mut h.cur hm (fun k hk => hS k hk.1), h.gok⟩
  have : g = k := by simpa [Value.ownBlock] using hk
  subst this
  exact hm.block g hlt (hS g h.gok)
theorem below (h : RowSt W base ok g cap rows inner u row) (hb : Below W.heap.size W W1) : RowSt W1 base ok g cap rows inner u row := h.step (Mut.of_below hb (fun _ => False)) (fun _ _ h => h)
theorem une (h : RowSt W base ok g cap rows inner u row) : some g ≠ u.ownBlock := fun he => (h.cur.1 g he.symm).2 rfl
/-- Behind the append: ahead of the store. -/
theorem kept (h : RowSt W base ok g cap rows inner u row) (hg : W.grownBy W1 u.ownBlock) : W1.ownsRow base 45 1 (.slice (some ⟨g, 0, none⟩) (rows.length + 1) cap) (rows.length + 1) (inner ++ [u]) :=
  own_move h.own (fun k hk => by
    have : g = k := by simpa [Value.ownBlock] using hk
    subst this
    exact hg.block g h.lt h.une)
/-- Behind the append and the store. -/
theorem put (h : RowSt W base ok g cap rows inner u row) (hr : (kCall 48).R 53 W1 base (fun k => ok k ∧ k ≠ g) u1 (row ++ [c])) (hg : W.grownBy W1 u.ownBlock) (hat : u1.ownBlock = u.ownBlock ∨ ∃ b, u1.ownBlock = some b ∧ W.heap.size ≤ b) :
    RowSt (W1.setCell ⟨g, rows.length, none⟩ u1) base ok g cap rows inner u1 (row ++ [c]) := by
  refine ⟨own_put_last (h.kept hg), h.reps.imp_ (fun _ _ hp => ?_), R_mut hr ((Mut.refl (· = g) W1).set1 rows.length u1) (fun _ hk he => hk.2 he), h.gok⟩
  have h1 := kRow.M_move (w1 := W1) (fun k hk => hg.block k hk.2.2.1 hk.1.2.2) (kRow.M_bound hp)
  refine Kd.M_step (kRow.M_mono (fun k hk => ⟨hk.1.1, hk.1.2.1, ?_⟩) h1) (fun k hk hl => Below.heap_setCell W1 ⟨g, rows.length, none⟩ u1 k hk.2.1)
  rcases hat with hat | ⟨b, hb, hle⟩
  · rw [hat]; exact hk.1.2.2
  · rw [hb]
    intro he
    injection he with he
    have := hk.2.2.1
    omega
/-- The row is done. -/
theorem close (h : RowSt W base ok g cap rows inner u row) : kRow.R 45 W base ok (.slice (some ⟨g, 0, none⟩) (rows.length + 1) cap) (rows ++ [row]) := by
  refine ⟨fun k hk => ?_, inner ++ [u], by rw [List.length_append, List.length_singleton]; exact h.own, ?_⟩
  · have : g = k := by simpa [Value.ownBlock] using hk
    exact this ▸ h.gok
  · refine Reps.snoc (h.reps.imp_ (fun _ _ hp => kRow.M_mono (fun k hk => ⟨hk.1, ?_⟩) hp)) ?_ rfl
    · simp only [Value.ownBlock]
      intro he
      injection he with he
      exact hk.2.1 he
    · refine ⟨u, rfl, Kd.R_mono h.cur (fun k hk => ⟨hk.1, ?_⟩)⟩
      simp only [Value.ownBlock]
      intro he
      injection he with he
      exact hk.2 he
end RowSt
/-- A row more is begun: behind the append of nil. -/
theorem RowSt.open_ {W W1 : World} {base : Nat} {ok : Nat → Prop} {rows : List (List CallD)} {inner : List Value} {v v1 : Value} (hr : kRow.R 45 W base ok v rows)
    (hin : Reps (kRow.M W base (fun k => ok k ∧ some k ≠ v.ownBlock)) 1 rows inner)
    (ho : W1.ownsRow base 45 1 v1 (rows.length + 1) (inner ++ [.slice none 0 0])) (hg : W.grownBy W1 v.ownBlock) (hat : v1.ownBlock = v.ownBlock ∨ ∃ b, v1.ownBlock = some b ∧ W.heap.size ≤ b)
    (hfresh : ∀ k, W.heap.size ≤ k → ok k) : ∃ g cap, v1 = .slice (some ⟨g, 0, none⟩) (rows.length + 1) cap ∧ RowSt W1 base ok g cap rows inner (.slice none 0 0) [] := by
  rcases ho.2 with ⟨_, h0⟩ | ⟨g, cap, cur, rfl, hb, hh, _⟩
  · omega
  · refine ⟨g, cap, rfl, ho, hin.imp_ (fun _ _ hp => ?_), Kd.R_nil _ _ _ _ _, ?_⟩
    · have h1 := kRow.M_move (w1 := W1) (fun k hk => hg.block k hk.2.2.1 hk.1.2) (kRow.M_bound hp)
      refine kRow.M_mono (fun k hk => ⟨hk.1.1, ?_, by simp [Value.ownBlock]⟩) h1
      rintro rfl
      have e1 : (Value.slice (some ⟨k, 0, none⟩) (rows.length + 1) cap).ownBlock = some k := rfl
      rcases hat with hat | ⟨b, hb2, hle⟩
      · exact hk.1.2 (by rw [← hat, e1])
      · rw [e1] at hb2
        injection hb2 with hb2
        have := hk.2.2.1
        omega
    · have e1 : (Value.slice (some ⟨g, 0, none⟩) (rows.length + 1) cap).ownBlock = some g := rfl
      rcases hat with hat | ⟨b, hb2, hle⟩
      · exact hr.1 g (by rw [← hat, e1])
      · rw [e1] at hb2
        injection hb2 with hb2
        exact hfresh g (by omega)
end Go.Proofs.YtjcdpccfhpbccaaGreatDoor
