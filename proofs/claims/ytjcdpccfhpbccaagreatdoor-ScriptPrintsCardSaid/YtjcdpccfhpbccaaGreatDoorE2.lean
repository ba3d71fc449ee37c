/-
  The walk of the scripts' reader.
-/
import Derived.Test.YtjcdpccfhpbccaaGreatDoorE1
import Derived.WalkMore
namespace Go.Proofs.YtjcdpccfhpbccaaGreatDoor
open Go.RowKit Go.Proofs.YtjcdpccfhpbccaaGreatDoorW.PrintWords

/-- What the reader's walk says at its end. -/
def ScrPost (r : Nat) (v : Value) (w : World) (res : Except Nat (ScrD × Nat)) (e : Ending) (w' : World) : Prop :=
  match res with
  | .error m => Gave m e ∧ Mut (· = r) w w'
  | .ok (s, m) => ∃ vc vp, e = .returned (.agg #[.int .i64 s.clients, .int .i64 s.shift, .int .i64 s.recs, .int .i64 s.chunks, vc, vp]) ∧ kRow.R 45 w' w.heap.size (fun _ => True) vc s.calls ∧ (Kd.int .u8).R 5 w' w.heap.size (fun _ => True) vp s.picks ∧ RdAt w' r v m ∧ Mut (· = r) w w'

structure ScSt (w W : World) (r b off L c n : Nat) (ls : List ByteArray) (cs : Array Value) : Prop where
  rd : Rd W r b off L c n ls
  rs : W.heap[w.heap.size]? = some (.cells cs 28 (0, 0))
  mu : Mut (· = r) w W
  bw : b < w.heap.size
  rw_ : r < w.heap.size
  w6 : 6 ≤ w.heap.size
def okS (w : World) (r : Nat) : Nat → Prop := fun k => k ≠ r ∧ k ≠ w.heap.size
namespace ScSt
variable {w W W1 : World} {r b off L c n m : Nat} {ls : List ByteArray} {cs : Array Value} {S : Nat → Prop}
theorem next (h : ScSt w W r b off L c n ls cs) (hm : Mut S W W1) (hS : ∀ k, S k → w.heap.size < k) : ScSt w W1 r b off L c n ls cs := by
  have h1 := h.bw
  have h2 := h.rw_
  have h3 := h.w6
  refine ⟨h.rd.move hm (fun he => by have := hS _ he; omega) (fun k hk => by have := hS _ hk; omega) (fun he => by have := hS _ he; omega), hm.blk h.rs (fun he => by have := hS _ he; omega), h.mu.trans hm (fun i hi => .inr (by have := hS _ hi; omega)), h.bw, h.rw_, h.w6⟩
theorem below (h : ScSt w W r b off L c n ls cs) (hb : Below W.heap.size W W1) : ScSt w W1 r b off L c n ls cs := h.next (Mut.of_below hb (fun _ => False)) (fun _ hk => hk.elim)
theorem drewN (h : ScSt w W r b off L c n ls cs) (k : Nat) : ScSt w (W.drewN k) r b off L c n ls cs := h.below (below_drewN (Below.refl _ _) k)
theorem read (h : ScSt w W r b off L c n ls cs) (hm : Mut (· = r) W W1) (hr : RdAt W1 r (.slice (some ⟨b, off, none⟩) L c) m) : ScSt w W1 r b off L c m ls cs := by
  have h2 := h.rw_
  refine ⟨h.rd.keep hm h.rd.br (fun k hk => by have := h.rd.r6; omega) hr, hm.blk h.rs (by omega), h.mu.trans hm (fun i hi => .inl hi), h.bw, h.rw_, h.w6⟩
theorem set (h : ScSt w W r b off L c n ls cs) (j : Nat) (u : Value) : ScSt w (W.setCell ⟨w.heap.size, j, none⟩ u) r b off L c n ls (cs.setIfInBounds j u) := by
  have hm : Mut (· = w.heap.size) W (W.setCell ⟨w.heap.size, j, none⟩ u) := (Mut.refl (· = w.heap.size) W).set1 j u
  have h1 := h.bw
  have h2 := h.rw_
  have h3 := h.w6
  exact ⟨h.rd.move hm (by omega) (fun k hk => by omega) (by omega), set_blk h.rs j u, h.mu.set (p := ⟨w.heap.size, j, none⟩) (.inr (Nat.le_refl _)) u, h.bw, h.rw_, h.w6⟩
theorem count (h : ScSt w W r b off L c n ls cs) (m : Nat) : ScSt w (W.setCell ⟨r, 1, none⟩ (.int .i64 m)) r b off L c m ls cs :=
  h.read ((Mut.refl (· = r) W).set1 1 _) (set_blk h.rd.rd 1 _)
theorem lin (h : ScSt w W r b off L c n ls cs) : w.heap.size < W.heap.size := lt_of_block h.rs
theorem grown (h : ScSt w W r b off L c n ls cs) {v : Value} (hg : W.grownBy W1 v.ownBlock) (hv : ∀ k, v.ownBlock = some k → w.heap.size < k) : ScSt w W1 r b off L c n ls cs :=
  h.next (S := fun k => v.ownBlock = some k) ⟨hg.os, hg.tape, hg.output, hg.size, fun k hk hn => hg.block k hk (fun he => hn he.symm)⟩ hv
end ScSt
theorem own_gt {α : Type} {d : Kd α} {e : Nat} {w W : World} {r : Nat} {v : Value} {xs : List α} (h : d.R e W w.heap.size (okS w r) v xs) : ∀ k, v.ownBlock = some k → w.heap.size < k := fun k hk => by
  have h1 := Kd.R_base h k hk
  have h2 := (h.1 k hk).2
  omega
theorem okS_fresh {w W : World} {r b off L c n : Nat} {ls : List ByteArray} {cs : Array Value} (h : ScSt w W r b off L c n ls cs) : ∀ k, W.heap.size ≤ k → okS w r k := fun k hk => by
  have h1 := h.lin
  have h2 := h.rw_
  exact ⟨by omega, by omega⟩

def scCells (a b c d : Int) (vc vp : Value) : Array Value := #[.int .i64 a, .int .i64 b, .int .i64 c, .int .i64 d, vc, vp]
theorem scCells_one (a b c d : Int) (A A' : Option Addr) (n n' k k' : Nat) : (scCells a b c d (.slice A n k) (.slice A' n' k')).all (·.oneCell') = true := by kernel_rfl
theorem scr_info : (Tryz.prog.info? 28).map (·.size) = some 6 := by kernel_rfl
def pTail (a b c d : Int) : Except Nat (List (List CallD) × List (List UInt8) × Nat) → Except Nat (ScrD × Nat)
  | .error m => .error m
  | .ok (rows, ys, m) => match pLast ys m with
    | .error m => .error m
    | .ok ps => .ok (⟨a, b, c, d, rows, ps⟩, m + 1)
theorem pScript_nil : pScript [] = .error 0 := rfl
theorem pScript_bad {x : List UInt8} {xs : List (List UInt8)} (h : pHead (Scr.words x) = none) : pScript (x :: xs) = .error 0 := by rw [pScript, h]
theorem pScript_good {x : List UInt8} {xs : List (List UInt8)} {a b c d : Int} (h : pHead (Scr.words x) = some (a, b, c, d)) : pScript (x :: xs) = pTail a b c d (pClients a.toNat xs 1 []) := by
  rw [pScript, h]
  show _ = pTail a b c d _
  unfold pTail
  rfl
theorem pHead_word {x : List UInt8} {ws : List (List UInt8)} (h : x ≠ kWorld) : pHead (x :: ws) = none := by rw [pHead, if_neg h]
theorem pHead_a {ws : List (List UInt8)} (h : pNum ws = none) : pHead (kWorld :: ws) = none := by rw [pHead, if_pos rfl, h]; rfl
theorem pHead_b {ws ws1 : List (List UInt8)} {a : Int} (h : pNum ws = some (a, ws1)) (h1 : pNum ws1 = none) : pHead (kWorld :: ws) = none := by
  rw [pHead, if_pos rfl, h]; simp only [Option.bind_some]; rw [h1]; rfl
theorem pHead_c {ws ws1 ws2 : List (List UInt8)} {a b : Int} (h : pNum ws = some (a, ws1)) (h1 : pNum ws1 = some (b, ws2)) (h2 : pUpTo 500 ws2 = none) : pHead (kWorld :: ws) = none := by
  rw [pHead, if_pos rfl, h]; simp only [Option.bind_some]; rw [h1]; simp only [Option.bind_some]; rw [h2]; rfl
theorem pHead_d {ws ws1 ws2 ws3 : List (List UInt8)} {a b c : Int} (h : pNum ws = some (a, ws1)) (h1 : pNum ws1 = some (b, ws2)) (h2 : pUpTo 500 ws2 = some (c, ws3)) (h3 : pUpTo 500 ws3 = none) : pHead (kWorld :: ws) = none := by
  rw [pHead, if_pos rfl, h]; simp only [Option.bind_some]; rw [h1]; simp only [Option.bind_some]; rw [h2]; simp only [Option.bind_some]; rw [h3]; rfl
theorem pHead_e {ws ws1 ws2 ws3 ws4 : List (List UInt8)} {a b c d : Int} (h : pNum ws = some (a, ws1)) (h1 : pNum ws1 = some (b, ws2)) (h2 : pUpTo 500 ws2 = some (c, ws3)) (h3 : pUpTo 500 ws3 = some (d, ws4)) :
    pHead (kWorld :: ws) = if mayL a b then (if ws4 = [] then some (a, b, c, d) else none) else none := by
  rw [pHead, if_pos rfl, h]; simp only [Option.bind_some]; rw [h1]; simp only [Option.bind_some]; rw [h2]; simp only [Option.bind_some]; rw [h3]; rfl

theorem wrap_next {n : Nat} (h : n < 4294967297) : IntKind.i64.wrap ((n : Int) + 1) = (n : Int) + 1 := by rw [IntKind.wrap_i64]; omega
theorem wrap_small {n : Nat} (h : n < 4294967297) : wrap64 (n : Int) = n := by unfold wrap64; omega
def pRest (k : Nat) (rows : List (List CallD)) : Except Nat (List CallD × List (List UInt8) × Nat) → Except Nat (List (List CallD) × List (List UInt8) × Nat)
  | .error m => .error m
  | .ok (row, ys, m) => pClients k ys m (rows ++ [row])
theorem pRow_nil (n : Nat) (row : List CallD) : pRow [] n row = .ok (row, [], n) := rfl
theorem pRow_stop {x : List UInt8} {xs : List (List UInt8)} {n : Nat} {row : List CallD} (h : x = kClient ∨ firstB x = kPicks) : pRow (x :: xs) n row = .ok (row, x :: xs, n) := by rw [pRow, if_pos h]
theorem pRow_bad {x : List UInt8} {xs : List (List UInt8)} {n : Nat} {row : List CallD} (h : ¬ (x = kClient ∨ firstB x = kPicks)) (hc : pCall (Scr.words x) = none) : pRow (x :: xs) n row = .error n := by rw [pRow, if_neg h, hc]
theorem pRow_many {x : List UInt8} {xs : List (List UInt8)} {n : Nat} {row : List CallD} {c : CallD} (h : ¬ (x = kClient ∨ firstB x = kPicks)) (hc : pCall (Scr.words x) = some c) (hl : 100 < row.length + 1) : pRow (x :: xs) n row = .error n := by
  rw [pRow, if_neg h, hc]
  show (if 100 < row.length + 1 then _ else _) = _
  rw [if_pos hl]
theorem pRow_more {x : List UInt8} {xs : List (List UInt8)} {n : Nat} {row : List CallD} {c : CallD} (h : ¬ (x = kClient ∨ firstB x = kPicks)) (hc : pCall (Scr.words x) = some c) (hl : ¬ 100 < row.length + 1) : pRow (x :: xs) n row = pRow xs (n + 1) (row ++ [c]) := by
  rw [pRow, if_neg h, hc]
  show (if 100 < row.length + 1 then _ else _) = _
  rw [if_neg hl]
def cdCells (c : CallD) (A : Option Addr) (k : Nat) : Array Value := #[.int .i64 c.k, .slice A c.ops.length k, .int .i64 c.q.k, .int .i64 c.q.i, .int .i64 c.q.b, .string c.q.x]
theorem cdCells_one (c : CallD) (A : Option Addr) (k : Nat) : (cdCells c A k).all (·.oneCell') = true := by kernel_rfl
theorem boxed (W : World) (cs : Array Value) : Below W.heap.size W ((W.alloc (.cells callZero 53)).setRow W.heap.size cs) ∧ ((W.alloc (.cells callZero 53)).setRow W.heap.size cs).heap[W.heap.size]? = some (.cells cs 53 (0, 0)) :=
  ⟨(((Mut.refl (fun _ => False) W).alloc (.cells callZero 53)).setRow (g := W.heap.size) (.inr (Nat.le_refl _)) cs).below (Nat.le_refl _) (fun _ h => h.elim), setRow_heap _ _ _ _ _ _ (alloc_new W (.cells callZero 53))⟩
theorem drop_some {ls : List ByteArray} {n : Nat} {s : ByteArray} (h : ls[n]? = some s) : (ls.drop n).map bl = bl s :: (ls.drop (n + 1)).map bl := by
  obtain ⟨hlt, he⟩ := List.getElem?_eq_some_iff.1 h
  rw [List.drop_eq_getElem_cons hlt, he]
  rfl
theorem drop_none {ls : List ByteArray} {n : Nat} (h : ls[n]? = none) : (ls.drop n).map bl = [] := by
  rw [List.drop_eq_nil_of_le (List.getElem?_eq_none_iff.1 h)]
  rfl
theorem next_x {r b off L c n : Nat} {ls : List ByteArray} (x : List UInt8) (w : World) (h : Rd w r b off L c n ls) (hs : (ls[n]?).map bl = some x) :
    Calls Tryz.prog 48 #[.pointer (some ⟨r, 0, none⟩)] w fun e w' => e = .returned (.tuple #[.string ⟨x.toArray⟩, .bool true]) ∧ ∃ k, w' = w.drewN k := by
  obtain ⟨s, h1, h2⟩ := Option.map_eq_some_iff.1 hs
  subst h2
  rw [mk_bl]
  exact next_some s w h h1
theorem cut_any (x : List UInt8) (hx : x.length ≤ 4294967280) (w : World) (hG : Glob w) :
    Calls Tryz.prog 49 #[.string ⟨x.toArray⟩, .string ⟨#[32]⟩] w fun e w' => ∃ y z, e = .returned (.tuple #[.string ⟨(firstB x).toArray⟩, .string y, .bool z]) ∧ ∃ k, w' = w.drewN k := by
  obtain ⟨m, hm⟩ := hG.big
  refine (Tryz.strings_Cut ⟨x.toArray⟩ ⟨#[32]⟩ m w (by show x.toArray.size < _; simp; omega) hm).mono ?_
  rintro e w' ⟨rfl, h⟩
  exact ⟨_, _, rfl, h⟩

theorem pPicks_none {ws : List (List UInt8)} (hn : ws ≠ []) (h : pUpTo 255 ws = none) : pPicks ws = none := by
  cases ws with
  | nil => exact absurd rfl hn
  | cons x ws =>
    rw [pPicks]
    simp only [pUpTo, pNum] at h
    cases hx : num x with
    | none => rfl
    | some k =>
      simp only [hx, Option.map_some] at h
      by_cases hk : 0 ≤ k ∧ k ≤ 255
      · rw [if_pos hk] at h; cases h
      · simp only [if_neg hk]
theorem pPicks_some {ws ws' : List (List UInt8)} {k : Int} (h : pUpTo 255 ws = some (k, ws')) : pPicks ws = (pPicks ws').map (k :: ·) ∧ ws'.length < ws.length ∧ 0 ≤ k ∧ k ≤ 255 := by
  cases ws with
  | nil => simp [pUpTo, pNum] at h
  | cons x ws =>
    rw [pPicks]
    simp only [pUpTo, pNum] at h
    cases hx : num x with
    | none => simp [hx] at h
    | some j =>
      simp only [hx, Option.map_some] at h
      by_cases hk : 0 ≤ j ∧ j ≤ 255
      · rw [if_pos hk] at h
        injection h with h
        injection h with h1 h2
        subst h1; subst h2
        exact ⟨by simp only [if_pos hk], by simp, hk⟩
      · rw [if_neg hk] at h; cases h
theorem u8_wrap_in {k : Int} (h0 : 0 ≤ k) (h1 : k ≤ 255) : IntKind.u8.wrap k = k := by
  have h : k % 256 = k := by omega
  simp [IntKind.wrap, IntKind.bits, IntKind.signed, h]
theorem info_u8 : (Tryz.prog.info? 5).map (fun i => (i.zero, i.size, i.bytes)) = some (some (.int .u8 0), 1, 1) := by kernel_rfl

/-- What holds in the loop over the picks. -/
structure PkSt (w W : World) (r b off L c n l : Nat) (ls : List ByteArray) (a1 a2 a3 a4 : Int) (rows : List (List CallD)) (vc vp : Value) (ps : List Int) (ws : List (List UInt8)) : Prop where
  st : ScSt w W r b off L c n ls (scCells a1 a2 a3 a4 vc vp)
  ln : LnW W l r ws
  rows : kRow.R 45 W w.heap.size (fun k => (okS w r k ∧ k ≠ l) ∧ some k ≠ vp.ownBlock) vc rows
  own : (Kd.int .u8).R 5 W w.heap.size (fun k => okS w r k ∧ k ≠ l) vp ps
  lw : w.heap.size < l
namespace PkSt
variable {w W W1 : World} {r b off L c n l : Nat} {ls : List ByteArray} {a1 a2 a3 a4 : Int} {rows : List (List CallD)} {vc vp vp1 : Value} {ps : List Int} {ws ws' : List (List UInt8)} {k : Int}
theorem next (h : PkSt w W r b off L c n l ls a1 a2 a3 a4 rows vc vp ps ws) (hl : LnW W1 l r ws') (hm : Mut (· = l) W W1) : PkSt w W1 r b off L c n l ls a1 a2 a3 a4 rows vc vp ps ws' :=
  ⟨h.st.next hm (fun k hk => by have := h.lw; omega), hl, R_mut h.rows hm (fun k hk he => hk.1.2 he), R_mut h.own hm (fun k hk he => hk.2 he), h.lw⟩
theorem below (h : PkSt w W r b off L c n l ls a1 a2 a3 a4 rows vc vp ps ws) (hb : Below W.heap.size W W1) : PkSt w W1 r b off L c n l ls a1 a2 a3 a4 rows vc vp ps ws := h.next (h.ln.below hb) (Mut.of_below hb _)
theorem drew (h : PkSt w W r b off L c n l ls a1 a2 a3 a4 rows vc vp ps ws) : PkSt w W.drew r b off L c n l ls a1 a2 a3 a4 rows vc vp ps ws := h.below (below_drew (Below.refl _ _))
theorem c5 (h : PkSt w W r b off L c n l ls a1 a2 a3 a4 rows vc vp ps ws) : W.cell? ⟨w.heap.size, 5, none⟩ = some vp := cell_blk h.st.rs 5 rfl
theorem f5 (h : PkSt w W r b off L c n l ls a1 a2 a3 a4 rows vc vp ps ws) : W.frozen? ⟨w.heap.size, 5, none⟩ = false := froz_blk h.st.rs 5
theorem gt (h : PkSt w W r b off L c n l ls a1 a2 a3 a4 rows vc vp ps ws) : ∀ k, vp.ownBlock = some k → w.heap.size < k := fun k hk => by
  have h1 := Kd.R_base h.own k hk
  have h2 := (h.own.1 k hk).1.2
  omega
theorem lt_l (h : PkSt w W r b off L c n l ls a1 a2 a3 a4 rows vc vp ps ws) : l < W.heap.size := by
  obtain ⟨s, m, h1, _⟩ := h.ln
  exact lt_of_block h1
theorem hfr (h : PkSt w W r b off L c n l ls a1 a2 a3 a4 rows vc vp ps ws) : ∀ k, W.heap.size ≤ k → okS w r k ∧ k ≠ l := fun k hk => ⟨okS_fresh h.st k hk, by have := h.lt_l; omega⟩
theorem mid (h : PkSt w W r b off L c n l ls a1 a2 a3 a4 rows vc vp ps ws) (hg : W.grownBy W1 vp.ownBlock) : ScSt w W1 r b off L c n ls (scCells a1 a2 a3 a4 vc vp) := h.st.grown hg h.gt
theorem put (h : PkSt w W r b off L c n l ls a1 a2 a3 a4 rows vc vp ps ws) (hr : (Kd.int .u8).R 5 W1 w.heap.size (fun k => okS w r k ∧ k ≠ l) vp1 (ps ++ [k])) (hg : W.grownBy W1 vp.ownBlock) (hat : vp1.ownBlock = vp.ownBlock ∨ ∃ b, vp1.ownBlock = some b ∧ W.heap.size ≤ b) :
    PkSt w (W1.setCell ⟨w.heap.size, 5, none⟩ vp1) r b off L c n l ls a1 a2 a3 a4 rows vc vp1 (ps ++ [k]) ws := by
  have hm : Mut (fun k => some k = vp.ownBlock) W W1 := ⟨hg.os, hg.tape, hg.output, hg.size, fun k hk hn => hg.block k hk hn⟩
  have h5 := (Mut.refl (· = w.heap.size) W1).set1 5 vp1
  refine ⟨(h.mid hg).set 5 vp1, (h.ln.mut hm (fun he => (h.own.1 _ he.symm).2 rfl)).mut h5 (by have := h.lw; omega), ?_, R_mut hr h5 (fun k hk he => hk.1.2 he), h.lw⟩
  exact R_mut (Kd.R_after h.rows hg hat) h5 (fun k hk he => hk.1.1.2 he)
end PkSt

set_option maxRecDepth 100000 in
set_option maxHeartbeats 4000000 in
theorem script_any (r b off L c : Nat) (ls : List ByteArray) (w : World) (res : Except Nat (ScrD × Nat)) (hR : Rd w r b off L c 0 ls) (hres : pScript (ls.map bl) = res) :
    Calls Tryz.prog 17 #[.pointer (some ⟨r, 0, none⟩)] w (ScrPost r (.slice (some ⟨b, off, none⟩) L c) w res) := by
  have HR0 := Lib.hid hR
  have HRES := Lib.hid hres
  have hrw := lt_of_block hR.rd
  clear hR hres
  have HA := Lib.hid (show ScSt w (w.alloc (.cells (scCells 0 0 0 0 (.slice none 0 0) (.slice none 0 0)) 28)) r b off L c 0 ls (scCells 0 0 0 0 (.slice none 0 0) (.slice none 0 0)) from
    ⟨HR0.out.below ((Below.refl _ _).alloc (Nat.le_refl _) _), alloc_new _ _, (Mut.refl _ w).alloc _, HR0.out.bl, hrw, HR0.out.gl.size⟩)
  go_enter Tryz.func17, Tryz.ntmps17
  cases hls : ls with
  | nil =>
    obtain rfl : res = .error 0 := by rw [← HRES.out, hls]; rfl
    have hL : L = 0 := by rw [← HR0.out.len, hls]; rfl
    have HRD := Lib.hid HA.out.rd.rd
    clear hls
    go_wp2_with fail
    go_step3
    go_wp2_with fail
    refine (line_no r _ L c _ _ HRD.out (by omega)).mono ?_
    rintro e w1 ⟨rfl, k, rfl⟩
    exact ⟨rfl, rfl, ((Mut.refl _ w).alloc _).drewN k⟩
  | cons s0 ls0 =>
    have hs0 : ls[0]? = some s0 := by rw [hls]; rfl
    have hmap : ls.map bl = bl s0 :: (ls.drop 1).map bl := by rw [hls]; rfl
    have HL := Lib.hid (HA.out.rd.line s0 hs0)
    have HMAP := Lib.hid hmap
    clear hls hs0 hmap
    go_wp2_with fail
    go_step3
    go_wp2_with fail
    refine (line_yes r b off L c 0 s0 _ HL.out.rd HL.out.lt (by have := HL.out.max; omega) HL.out.cell).mono ?_
    rintro e w1 ⟨l, rfl, hl, hln, hb1⟩
    have hwl : w.heap.size < l := by simp at hl; omega
    have HLN := Lib.hid (LnW.of hln HL.out.size)
    have H1 := Lib.hid (HA.out.below hb1)
    have hl6 : 6 ≤ l := by have := HR0.out.gl.size; omega
    have hrl : r ≠ l := by omega
    clear hl hln hb1
    cases hw : Scr.words (bl s0) with
    | nil =>
      refine absurd hw ?_
      cases hb : Scr.blankAt false (bl s0) with
      | none => rw [Scr.words_none hb]; simp
      | some i => rw [Scr.words_some hb]; simp
    | cons x ws =>
      rw [hw] at HLN
      have HW := Lib.hid hw
      clear hw
      go_wp2_with fail
      refine (wordW_yes l r x ws w1 HLN.out).mono ?_
      rintro e w2 ⟨rfl, hx, hl2, hm2⟩
      have H2 := Lib.hid (H1.out.next hm2 (fun k hk => by omega))
      have L2 := Lib.hid hl2
      clear hl2 hm2 HLN H1 hx
      by_cases hk : x = kWorld
      · have ht : (x == [119, 111, 114, 108, 100]) = true := by rw [hk]; rfl
        have HK := Lib.hid hk
        clear hk
        cases p1 : pNum ws with
        | none =>
          obtain rfl : res = .error 0 := by rw [← HRES.out, HMAP.out]; exact pScript_bad (by rw [HW.out, HK.out]; exact pHead_a p1)
          have P1 := Lib.hid p1
          clear p1
          go_wp2_with fail
          refine (number_n l r ws hrl P1.out _ 0 _ H2.out.rd.gl L2.out H2.out.rd.rd hl6).mono ?_
          rintro e w4 ⟨rfl, hm4⟩
          exact ⟨rfl, rfl, (H2.out.next hm4 (fun k hk => by omega)).mu⟩
        | some q1 =>
          obtain ⟨a1, ws1⟩ := q1
          have P1 := Lib.hid p1
          clear p1
          go_wp2_with fail
          refine (number_y l r ws ws1 hrl a1 P1.out _ H2.out.rd.gl L2.out hl6).mono ?_
          rintro e w4 ⟨rfl, hl4, hm4⟩
          have H4 := Lib.hid (H2.out.next hm4 (fun k hk => by omega))
          have L4 := Lib.hid hl4
          clear hl4 hm4
          cases p2 : pNum ws1 with
          | none =>
            obtain rfl : res = .error 0 := by rw [← HRES.out, HMAP.out]; exact pScript_bad (by rw [HW.out, HK.out]; exact pHead_b P1.out p2)
            have P2 := Lib.hid p2
            clear p2
            go_wp2_with fail
            refine (number_n l r ws1 hrl P2.out _ 0 _ H4.out.rd.gl L4.out H4.out.rd.rd hl6).mono ?_
            rintro e w5 ⟨rfl, hm5⟩
            exact ⟨rfl, rfl, (H4.out.next hm5 (fun k hk => by omega)).mu⟩
          | some q2 =>
            obtain ⟨a2, ws2⟩ := q2
            have P2 := Lib.hid p2
            clear p2
            go_wp2_with fail
            refine (number_y l r ws1 ws2 hrl a2 P2.out _ H4.out.rd.gl L4.out hl6).mono ?_
            rintro e w5 ⟨rfl, hl5, hm5⟩
            have H5 := Lib.hid (H4.out.next hm5 (fun k hk => by omega))
            have L5 := Lib.hid hl5
            have g0 := cell_blk H5.out.rs 0 (v := .int .i64 0) rfl
            have g1 := cell_blk H5.out.rs 1 (v := .int .i64 0) rfl
            have f0 := froz_blk H5.out.rs 0
            have f1 := froz_blk H5.out.rs 1
            have H6 := Lib.hid (show ScSt w ((w5.setCell ⟨w.heap.size, 0, none⟩ (.int .i64 a1)).setCell ⟨w.heap.size, 1, none⟩ (.int .i64 a2)) r b off L c 0 ls (scCells a1 a2 0 0 (.slice none 0 0) (.slice none 0 0)) from (H5.out.set 0 (.int .i64 a1)).set 1 (.int .i64 a2))
            have L6 := Lib.hid (hl5.mut ((((Mut.refl (· = w.heap.size) w5).set1 0 (.int .i64 a1))).set1 1 (.int .i64 a2)) (by omega))
            clear hl5 hm5
            cases p3 : pUpTo 500 ws2 with
            | none =>
              obtain rfl : res = .error 0 := by rw [← HRES.out, HMAP.out]; exact pScript_bad (by rw [HW.out, HK.out]; exact pHead_c P1.out P2.out p3)
              have P3 := Lib.hid p3
              clear p3
              go_wp2_with fail
              refine (upTo_n l r 500 ws2 hrl P3.out _ 0 _ H6.out.rd.gl L6.out H6.out.rd.rd hl6).mono ?_
              rintro e w6 ⟨rfl, hm6⟩
              exact ⟨rfl, rfl, (H6.out.next hm6 (fun k hk => by omega)).mu⟩
            | some q3 =>
              obtain ⟨a3, ws3⟩ := q3
              have P3 := Lib.hid p3
              clear p3
              go_wp2_with fail
              refine (upTo_y l r 500 ws2 ws3 hrl a3 P3.out _ H6.out.rd.gl L6.out hl6).mono ?_
              rintro e w6 ⟨rfl, hl7, hm7⟩
              have H7 := Lib.hid (H6.out.next hm7 (fun k hk => by omega))
              have L7 := Lib.hid hl7
              clear hl7 hm7
              cases p4 : pUpTo 500 ws3 with
              | none =>
                obtain rfl : res = .error 0 := by rw [← HRES.out, HMAP.out]; exact pScript_bad (by rw [HW.out, HK.out]; exact pHead_d P1.out P2.out P3.out p4)
                have P4 := Lib.hid p4
                clear p4
                go_wp2_with fail
                refine (upTo_n l r 500 ws3 hrl P4.out _ 0 _ H7.out.rd.gl L7.out H7.out.rd.rd hl6).mono ?_
                rintro e w7 ⟨rfl, hm8⟩
                exact ⟨rfl, rfl, (H7.out.next hm8 (fun k hk => by omega)).mu⟩
              | some q4 =>
                obtain ⟨a4, ws4⟩ := q4
                have P4 := Lib.hid p4
                clear p4
                go_wp2_with fail
                refine (upTo_y l r 500 ws3 ws4 hrl a4 P4.out _ H7.out.rd.gl L7.out hl6).mono ?_
                rintro e w7 ⟨rfl, hl8, hm8⟩
                have H8 := Lib.hid (H7.out.next hm8 (fun k hk => by omega))
                have g2 := cell_blk H8.out.rs 2 (v := .int .i64 0) rfl
                have g3 := cell_blk H8.out.rs 3 (v := .int .i64 0) rfl
                have f2 := froz_blk H8.out.rs 2
                have f3 := froz_blk H8.out.rs 3
                have H9 := Lib.hid (show ScSt w ((w7.setCell ⟨w.heap.size, 2, none⟩ (.int .i64 a3)).setCell ⟨w.heap.size, 3, none⟩ (.int .i64 a4)) r b off L c 0 ls (scCells a1 a2 a3 a4 (.slice none 0 0) (.slice none 0 0)) from (H8.out.set 2 (.int .i64 a3)).set 3 (.int .i64 a4))
                have L9 := Lib.hid (hl8.mut ((((Mut.refl (· = w.heap.size) w7).set1 2 (.int .i64 a3))).set1 3 (.int .i64 a4)) (by omega))
                have g4 := cell_blk H9.out.rs 0 (v := .int .i64 a1) rfl
                have g5 := cell_blk H9.out.rs 1 (v := .int .i64 a2) rfl
                have PH := Lib.hid (pHead_e P1.out P2.out P3.out P4.out)
                clear hl8 hm8 H2 L2 H4 L4 H5 L5 H6 L6 H7 L7 H8 P1 P2 P3 P4 HL HA
                cases hm : mayL a1 a2 with
                | false =>
                  obtain rfl : res = .error 0 := by rw [← HRES.out, HMAP.out]; exact pScript_bad (by rw [HW.out, HK.out, PH.out, hm]; rfl)
                  have HM := Lib.hid hm
                  clear hm
                  go_wp2_with fail
                  refine (memMay_any a1 a2 _).mono ?_
                  rintro e w9 ⟨rfl, hb9⟩
                  have H10 := Lib.hid (H9.out.below hb9)
                  have hm := HM.out
                  clear hb9
                  go_wp2_with fail
                  refine (give_any r _ 0 _ H10.out.rd.rd).mono ?_
                  rintro e w10 ⟨rfl, rfl⟩
                  exact ⟨rfl, rfl, H10.out.mu⟩
                | true =>
                  have HM := Lib.hid hm
                  clear hm
                  go_wp2_with fail
                  refine (memMay_any a1 a2 _).mono ?_
                  rintro e w9 ⟨rfl, hb9⟩
                  have H10 := Lib.hid (H9.out.below hb9)
                  have L10 := Lib.hid (L9.out.below hb9)
                  have hm := HM.out
                  clear hb9
                  cases ws4 with
                  | cons y ws4 =>
                    obtain rfl : res = .error 0 := by rw [← HRES.out, HMAP.out]; exact pScript_bad (by rw [HW.out, HK.out, PH.out, HM.out]; rfl)
                    go_wp2_with fail
                    refine (endW_no l r y ws4 _ 0 _ L10.out H10.out.rd.rd).mono ?_
                    rintro e w10 ⟨rfl, rfl⟩
                    exact ⟨rfl, rfl, H10.out.mu⟩
                  | nil =>
                    have hres2 : pTail a1 a2 a3 a4 (pClients a1.toNat ((ls.drop 1).map bl) 1 []) = res := by
                      rw [← HRES.out, HMAP.out]
                      exact (pScript_good (by rw [HW.out, HK.out, PH.out, HM.out]; rfl)).symm
                    have HRES2 := Lib.hid hres2
                    clear hres2 HRES HW HMAP PH
                    go_wp2_with fail
                    refine (endW_yes l r _ 0 (by omega) (by omega) _ L10.out H10.out.rd.rd).mono ?_
                    rintro e w10 ⟨rfl, hr10, hm10⟩
                    have H11 := Lib.hid (H10.out.read (m := 1) hm10 hr10)
                    clear hr10 hm10 H10 L10 H9 L9 g0 g1 g2 g3 g4 g5 f0 f1 f2 f3
                    have hN : ∃ N : Nat, a1 = N ∧ N ≤ 4 := by
                      have := HM.out
                      simp only [mayL, Bool.and_eq_true, decide_eq_true_eq] at this
                      exact ⟨a1.toNat, by omega, by omega⟩
                    obtain ⟨N, rfl, hN4⟩ := hN
                    have HN4 := Lib.hid hN4
                    have q0 := cell_blk H11.out.rs 0 (v := .int .i64 N) rfl
                    clear hN4 HM hm
                    go_wp2_with fail
                    go_step3
                    go_wp2_with fail
                    rw [show ((N : Int).toNat) = N from rfl] at HRES2
                    go_loopg [43] N (fun k s43 wr => ∃ (i n : Nat) (rows : List (List CallD)) (vc : Value), s43 = .int .i64 i ∧ k + i = N ∧ Hid (pTail N a2 a3 a4 (pClients k ((ls.drop n).map bl) n rows) = res) ∧ Hid (rows.length = i) ∧
                      Hid (ScSt w wr r b off L c n ls (scCells N a2 a3 a4 vc (.slice none 0 0))) ∧ Hid (kRow.R 45 wr w.heap.size (okS w r) vc rows))
                    case atStart => exact ⟨0, 1, [], _, rfl, by omega, HRES2, Lib.hid rfl, H11, Lib.hid (Kd.R_nil _ _ _ _ _)⟩
                    case round =>
                      clear HRES2 H11 q0
                      obtain ⟨i, n, rows, vc, rfl, hki, HRES2, HLEN, H11, HRW⟩ := hrel
                      obtain ⟨A, cap0, rfl⟩ := Kd.R_slice HRW.out
                      cases gk with
                      | zero =>
                        have hlt : ¬ ((i : Int) < (N : Int)) := by omega
                        cases hn : ls[n]? with
                        | none =>
                          obtain rfl : res = .error n := by rw [← HRES2.out, drop_none hn]; rfl
                          have hnl : (L : Int) ≤ n := by have h1 := List.getElem?_eq_none_iff.1 hn; have h2 := H11.out.rd.len; omega
                          have HNL := Lib.hid hnl
                          clear hn hnl
                          go_wp2_with fail
                          refine (line_no r _ L c _ _ H11.out.rd.rd HNL.out).mono ?_
                          rintro e w12 ⟨rfl, k, rfl⟩
                          exact ⟨rfl, rfl, (H11.out.drewN k).mu⟩
                        | some s =>
                          have HL2 := Lib.hid (H11.out.rd.line s hn)
                          have HD := Lib.hid (drop_some hn)
                          clear hn
                          go_wp2_with fail
                          refine (line_yes r b off L c n s _ HL2.out.rd HL2.out.lt (by have := HL2.out.max; omega) HL2.out.cell).mono ?_
                          rintro e w12 ⟨l2, rfl, hl12, hln12, hb12⟩
                          have hwl2 : w.heap.size < l2 := by have := H11.out.lin; omega
                          have HLN12 := Lib.hid (LnW.of hln12 HL2.out.size)
                          have H12 := Lib.hid (H11.out.below hb12)
                          have HRW12 := Lib.hid (Kd.R_mono (Kd.R_below (Kd.R_bound HRW.out) hb12) (ok' := fun k => (okS w r k ∧ k ≠ l2) ∧ some k ≠ (Value.slice none 0 0).ownBlock) (fun k hk => ⟨⟨hk.1, by have := hk.2.2.1; omega⟩, by simp [Value.ownBlock]⟩))
                          have hl62 : 6 ≤ l2 := by have := HR0.out.gl.size; omega
                          have hrl2 : r ≠ l2 := by omega
                          clear hl12 hln12 hb12 HRW
                          cases hw : Scr.words (bl s) with
                          | nil =>
                            refine absurd hw ?_
                            cases hb : Scr.blankAt false (bl s) with
                            | none => rw [Scr.words_none hb]; simp
                            | some i => rw [Scr.words_some hb]; simp
                          | cons x2 ws2 =>
                            rw [hw] at HLN12
                            have HW2 := Lib.hid hw
                            clear hw
                            go_wp2_with fail
                            refine (wordW_yes l2 r x2 ws2 w12 HLN12.out).mono ?_
                            rintro e w13 ⟨rfl, hx13, hl13, hm13⟩
                            have HP13 := Lib.hid (show PkSt w w13 r b off L c n l2 ls N a2 a3 a4 rows (.slice A rows.length cap0) (.slice none 0 0) [] ws2 from
                              ⟨H12.out.next hm13 (fun k hk => by omega), hl13, R_mut HRW12.out hm13 (fun k hk he => hk.1.2 he), Kd.R_nil _ _ _ _ _, hwl2⟩)
                            clear hl13 hm13 hx13 HLN12 HRW12 H12
                            by_cases hk3 : x2 = kPicks
                            · have hu3 : (x2 == [112, 105, 99, 107, 115]) = true := by rw [hk3]; rfl
                              have HRES5 := Lib.hid (show (match pPicks ws2 with | none => .error n | some ps => if ps.length ≤ 1000 then .ok (⟨N, a2, a3, a4, rows, ps⟩, n + 1) else .error n) = res by
                                rw [← HRES2.out, HD.out, pClients]
                                simp only [pTail, pLast, HW2.out, if_pos hk3]
                                cases pPicks ws2 with
                                | none => rfl
                                | some ps =>
                                  by_cases h1000 : ps.length ≤ 1000
                                  · simp only [if_pos h1000]
                                  · simp only [if_neg h1000])
                              clear hk3
                              have HP13c := Lib.hid HP13.out.ln.count
                              go_wp2_with fail
                              go_loopg [] ws2.length (fun k wr2 => ∃ (wsr : List (List UInt8)) (ps : List Int) (vp : Value), k = wsr.length ∧ Hid (ps.length + wsr.length ≤ ws2.length) ∧ Hid (pPicks ws2 = (pPicks wsr).map (ps ++ ·)) ∧
                                Hid (PkSt w wr2 r b off L c n l2 ls N a2 a3 a4 rows (.slice A rows.length cap0) vp ps wsr))
                              case atStart => exact ⟨ws2, [], _, rfl, Lib.hid (by simp), Lib.hid (by cases pPicks ws2 <;> simp), HP13⟩
                              case round =>
                                clear HRES2 H11 HP13
                                obtain ⟨wsr, ps, vp, hk, HLE, HPP, P⟩ := hrel
                                have HK' := Lib.hid hk
                                clear hk
                                obtain ⟨A5, c5, rfl⟩ := Kd.R_slice P.out.own
                                have hmore := P.out.ln.more
                                have p5 := P.out.c5
                                have p6 := P.out.f5
                                cases wsr with
                                | nil =>
                                  simp only [List.isEmpty_nil, Bool.not_true] at hmore
                                  have hpk : pPicks ws2 = some ps := by rw [HPP.out]; simp [pPicks]
                                  have HRES6 := Lib.hid (show (if ps.length ≤ 1000 then Except.ok (⟨N, a2, a3, a4, rows, ps⟩, n + 1) else Except.error n) = res by rw [← HRES5.out, hpk])
                                  clear hpk HRES5 HPP
                                  by_cases h1000 : ps.length ≤ 1000
                                  · have ht3 : decide (1000 < (ps.length : Int)) = false := decide_eq_false (by omega)
                                    obtain rfl : res = .ok (⟨N, a2, a3, a4, rows, ps⟩, n + 1) := by rw [← HRES6.out, if_pos h1000]
                                    have hn2 : (n : Int) < 9223372036854775807 := by have := HL2.out.lt; have := HL2.out.max; omega
                                    have HN2 := Lib.hid hn2
                                    clear h1000 hn2
                                    go_wp2_with fail
                                    refine (endW_yes l2 r _ n (by omega) HN2.out _ P.out.ln P.out.st.rd.rd).mono ?_
                                    rintro e w15 ⟨rfl, hr15, hm15⟩
                                    have H15 := Lib.hid (P.out.st.read (m := n + 1) hm15 hr15)
                                    have HRW15 := Lib.hid (R_mut P.out.rows hm15 (fun k hk he => hk.1.1.1 he))
                                    have HOW15 := Lib.hid (R_mut P.out.own hm15 (fun k hk he => hk.1.1 he))
                                    clear hr15 hm15
                                    go_wp2_with (first | (refine wpList_load_row rfl 28 _ rfl w.heap.size rfl 28 _ (0, 0) _ H15.out.rs Tryz.underlying28 rfl scr_info ?_) | (refine wpList_store_row rfl 28 _ _ rfl w.heap.size (scCells N a2 a3 a4 (.slice A rows.length cap0) (.slice A5 ps.length c5)) rfl rfl 28 _ H15.out.rs scr_info rfl (scCells_one _ _ _ _ _ _ _ _ _ _) ?_))
                                    refine bodyPost_ret (v := .agg (scCells N a2 a3 a4 (.slice A rows.length cap0) (.slice A5 ps.length c5))) (results_cell_row rfl _ _ w.heap.size 28 (scCells N a2 a3 a4 (.slice A rows.length cap0) (.slice A5 ps.length c5)) (0, 0) _ rfl (setRow_heap w15 w.heap.size _ _ _ _ H15.out.rs) Tryz.underlying28 rfl scr_info) rfl ?_
                                    have hmr := (Mut.refl (· = w.heap.size) w15).setRow (.inl rfl) (scCells N a2 a3 a4 (.slice A rows.length cap0) (.slice A5 ps.length c5))
                                    exact ⟨.slice A rows.length cap0, .slice A5 ps.length c5, rfl, Kd.R_mono (R_mut HRW15.out hmr (fun _ hk he => hk.1.1.2 he)) (fun _ _ => trivial), Kd.R_mono (R_mut HOW15.out hmr (fun _ hk he => hk.1.2 he)) (fun _ _ => trivial), H15.out.rd.rd.mut hmr (by omega), H15.out.mu.setRow (.inr (Nat.le_refl _)) _⟩
                                  · have ht3 : decide (1000 < (ps.length : Int)) = true := decide_eq_true (by omega)
                                    obtain rfl : res = .error n := by rw [← HRES6.out, if_neg h1000]
                                    clear h1000
                                    go_wp2_with fail
                                    refine (give_any r _ n _ P.out.st.rd.rd).mono ?_
                                    rintro e w15 ⟨rfl, rfl⟩
                                    exact ⟨rfl, rfl, P.out.st.mu⟩
                                | cons z wsr =>
                                  simp only [List.isEmpty_cons, Bool.not_false] at hmore
                                  have D := Lib.hid P.out.drew
                                  have d1 := D.out.c5
                                  cases hp : pUpTo 255 (z :: wsr) with
                                  | none =>
                                    obtain rfl : res = .error n := by rw [← HRES5.out, HPP.out, pPicks_none (by simp) hp]; rfl
                                    have HP := Lib.hid hp
                                    clear hp
                                    go_wp2_with fail
                                    go_region_dies
                                    all_goals
                                      refine (upTo_n l2 r 255 _ hrl2 HP.out _ n _ D.out.st.rd.gl D.out.ln D.out.st.rd.rd hl62).mono ?_
                                      rintro e w15 ⟨rfl, hm15⟩
                                      exact ⟨rfl, rfl, D.out.st.mu.trans hm15 (fun i hi => .inr (by omega))⟩
                                  | some q =>
                                    obtain ⟨k, wsr2⟩ := q
                                    have HP := Lib.hid hp
                                    obtain ⟨hp1, hp2, hk0, hk255⟩ := pPicks_some hp
                                    have HP1 := Lib.hid hp1
                                    have HP2 := Lib.hid hp2
                                    have hwrap : IntKind.u8.wrap k = k := u8_wrap_in hk0 hk255
                                    have HB1 : Hid ((ps.length + 1) * 1 ≤ 140737488355328) := Lib.hid (by have h2 := HP13c.out; have h1 := HLE.out; simp only [List.length_cons] at h1; omega)
                                    clear hp hp1 hp2 hk0 hk255
                                    go_wp2_with fail
                                    go_region_law (first
                                      | (go_simp
                                         go_at_call 46
                                         refine (upTo_y l2 r 255 _ _ hrl2 k HP.out _ D.out.st.rd.gl D.out.ln hl62).mono ?_
                                         rintro e w15 ⟨rfl, hl15, hm15⟩
                                         have D3 := Lib.hid (D.out.next hl15 hm15)
                                         have d3 := D3.out.c5
                                         have d5 : ∀ ob, (w15.alloc ob).cell? ⟨w.heap.size, 5, none⟩ = some (.slice A5 ps.length c5) := fun ob => cell_blk (alloc_blk D3.out.st.rs ob) 5 rfl
                                         clear hl15 hm15
                                         dsimp only)
                                      | (refine Kd.R_append_step (Kd.int .u8) (w0 := _) w.heap.size (by rfl) (.tmp 131) (.tmp 135) 26 5 (.int .u8 0) 1 rfl Tryz.underlying26 info_u8 rfl (by decide) (by decide) _ ps k [.int .u8 k] _ (fun _ => False) rfl rfl rfl (fun _ h => h.elim) D3.out.hfr D3.out.own (Below.refl _ _) (Nat.le_of_lt D3.out.st.lin) HB1.out ?_
                                         intro v1 w16 hr16 hb16 hg16 hat16
                                         obtain ⟨A6, c6, rfl⟩ := Kd.R_slice hr16
                                         have D4 := Lib.hid (D3.out.put hr16 hg16 hat16)
                                         have d4 := cell_blk (D3.out.mid hg16).rs 5 (v := .slice A5 ps.length c5) rfl
                                         have e4 := froz_blk (D3.out.mid hg16).rs 5
                                         clear hr16 hb16 hg16 hat16))
                                    all_goals
                                      rw [show (ps ++ [k]).length = ps.length + 1 by simp] at D4
                                      go_wp2_with fail
                                      go_roundg wsr2.length
                                      case measure => rw [HK'.out]; exact HP2.out
                                      case rel => exact ⟨wsr2, ps ++ [k], _, rfl, Lib.hid (by have h1 := HLE.out; have h2 := HP2.out; simp only [List.length_append, List.length_cons, List.length_nil] at h1 h2 ⊢; omega), Lib.hid (by rw [HPP.out, HP1.out]; cases pPicks wsr2 <;> simp), D4⟩
                            · have hu3 : (x2 == [112, 105, 99, 107, 115]) = false := beq_eq_false_iff_ne.2 hk3
                              obtain rfl : res = .error n := by
                                rw [← HRES2.out, HD.out, pClients]
                                simp only [pTail, pLast, HW2.out, if_neg hk3]
                              clear hk3
                              go_wp2_with fail
                              refine (give_any r _ n _ HP13.out.st.rd.rd).mono ?_
                              rintro e w14 ⟨rfl, rfl⟩
                              exact ⟨rfl, rfl, HP13.out.st.mu⟩
                      | succ gk0 =>
                        have hlt : (i : Int) < (N : Int) := by omega
                        have HKI := Lib.hid hki
                        clear hki
                        cases hn : ls[n]? with
                        | none =>
                          obtain rfl : res = .error n := by rw [← HRES2.out, drop_none hn]; rfl
                          have HN := Lib.hid hn
                          clear hn
                          go_wp2_with fail
                          refine (next_none _ H11.out.rd HN.out).mono ?_
                          rintro e w11 ⟨rfl, k, rfl⟩
                          have H12 := Lib.hid (H11.out.drewN k)
                          go_wp2_with fail
                          refine (give_any r _ n _ H12.out.rd.rd).mono ?_
                          rintro e w12 ⟨rfl, rfl⟩
                          exact ⟨rfl, rfl, H12.out.mu⟩
                        | some s =>
                          obtain ⟨y, hy⟩ : ∃ y, bl s = y := ⟨_, rfl⟩
                          have HX := Lib.hid (show (ls[n]?).map bl = some y by rw [hn, ← hy]; rfl)
                          have HLT := Lib.hid (List.getElem?_eq_some_iff.1 hn).1
                          have HD := Lib.hid (show (ls.drop n).map bl = y :: (ls.drop (n + 1)).map bl by rw [drop_some hn, hy])
                          clear hn hy
                          by_cases hk2 : y = kClient
                          · have hu : (y == [99, 108, 105, 101, 110, 116]) = true := by rw [hk2]; rfl
                            have HRES3 := Lib.hid (show pTail N a2 a3 a4 (pRest gk0 rows (pRow ((ls.drop (n + 1)).map bl) (n + 1) [])) = res by
                              rw [← HRES2.out, HD.out, pClients, if_pos hk2]; rfl)
                            clear hk2
                            go_wp2_with fail
                            refine (next_x y _ H11.out.rd HX.out).mono ?_
                            rintro e w11 ⟨rfl, k, rfl⟩
                            have H12 := Lib.hid (H11.out.drewN k)
                            have HRW2 := Lib.hid (Kd.R_drewN HRW.out k)
                            have q1 := cell_blk H12.out.rd.rd 1 (v := .int .i64 n) rfl
                            have q2 := froz_blk H12.out.rd.rd 1
                            have q3 : IntKind.i64.wrap ((n : Int) + 1) = (n : Int) + 1 := wrap_next (by have := H12.out.rd.max; have := H12.out.rd.len; have := HLT.out; omega)
                            have H13 := Lib.hid (show ScSt w ((wr.drewN k).setCell ⟨r, 1, none⟩ (.int .i64 ((n : Int) + 1))) r b off L c (n + 1) ls (scCells N a2 a3 a4 (.slice A rows.length cap0) (.slice none 0 0)) from H12.out.count (n + 1))
                            have HRW3 := Lib.hid (R_mut HRW2.out ((Mut.refl (· = r) _).set1 1 (.int .i64 ((n : Int) + 1))) (fun _ hk he => hk.1 he))
                            obtain ⟨hk0, inner, hown, hreps⟩ := HRW3.out
                            have HOWN := Lib.hid hown
                            have HREPS := Lib.hid hreps
                            have q4 := cell_blk H13.out.rs 4 (v := .slice A rows.length cap0) rfl
                            have HN4' := Lib.hid (show (rows.length + 1) * 24 ≤ 140737488355328 by have := HLEN.out; have := HN4.out; have := HKI.out; omega)
                            clear hk0 hown hreps HRW HRW2
                            go_wp2_with (at_builtin; go_loud (refine print_append_cells w.heap.size rfl (.tmp 62) (.tmp 63) 25 45 (.slice none 0 0) 1 24 rfl Tryz.underlying25 info_row rfl (by decide) (by decide) (.slice A rows.length cap0) rows.length inner [.slice none 0 0] rfl (by show Value.slice (some ⟨_, 0, none⟩) 1 1 = _; simp [World.setCell]) rfl (by simp [Value.oneCell']) HOWN.out (Below.refl _ _) (Nat.le_of_lt H13.out.lin) HN4'.out ?_))
                            intro v1 w14 hown4 hb4 hg4 hat4
                            obtain ⟨g, cap1, rfl, hrow⟩ := RowSt.open_ HRW3.out HREPS.out hown4 hg4 (hat4.imp id (fun ⟨b, h1, h2⟩ => ⟨b, h1, by simpa [World.setCell] using h2⟩)) (okS_fresh H13.out)
                            have H14 := Lib.hid (H13.out.grown hg4 (own_gt HRW3.out))
                            have HROW := Lib.hid hrow
                            have q5 := cell_blk H14.out.rs 4 (v := .slice A rows.length cap0) rfl
                            have q6 := froz_blk H14.out.rs 4
                            have H15 := Lib.hid (show ScSt w (w14.setCell ⟨w.heap.size, 4, none⟩ (.slice (some ⟨g, 0, none⟩) (rows.length + 1) cap1)) r b off L c (n + 1) ls (scCells N a2 a3 a4 (.slice (some ⟨g, 0, none⟩) (rows.length + 1) cap1) (.slice none 0 0)) from H14.out.set 4 _)
                            have HROW2 := Lib.hid (HROW.out.step ((Mut.refl (· = w.heap.size) w14).set1 4 (.slice (some ⟨g, 0, none⟩) (rows.length + 1) cap1)) (fun _ hk he => hk.2 he))
                            have q7 := cell_blk H15.out.rs 4 (v := .slice (some ⟨g, 0, none⟩) (rows.length + 1) cap1) rfl
                            have q8 : wrap64 (rows.length : Int) = rows.length := wrap_small (by have := HLEN.out; have := HN4.out; have := HKI.out; omega)
                            clear hown4 hb4 hg4 hat4 hrow HROW H13 H14 HRW3 HOWN HREPS
                            go_wp2_with fail
                            have q9 : IntKind.i64.wrap ((i : Int) + 1) = (i : Int) + 1 := wrap_next (by have := HN4.out; have := HKI.out; omega)
                            rw [q8]
                            clear q8
                            go_loopg [] (ls.length - (n + 1)) (fun k wr2 => ∃ (m : Nat) (row : List CallD) (u : Value), k + m = ls.length ∧ Hid (pTail N a2 a3 a4 (pRest gk0 rows (pRow ((ls.drop m).map bl) m row)) = res) ∧ Hid (row.length ≤ 100) ∧
                              Hid (ScSt w wr2 r b off L c m ls (scCells N a2 a3 a4 (.slice (some ⟨g, 0, none⟩) (rows.length + 1) cap1) (.slice none 0 0))) ∧ Hid (RowSt wr2 w.heap.size (okS w r) g cap1 rows inner u row))
                            case atStart => exact ⟨n + 1, [], _, by have := HLT.out; omega, HRES3, Lib.hid (Nat.zero_le _), H15, HROW2⟩
                            case round =>
                              clear HRES3 H15 HROW2 q7 HLT HX HD HRES2
                              obtain ⟨m, row, u, hkm, HRES3, HL100, H15, HROW⟩ := hrel
                              obtain ⟨Au, cu, rfl⟩ := Kd.R_slice HROW.out.cur
                              have HKM := Lib.hid hkm
                              clear hkm
                              cases hn : ls[m]? with
                              | none =>
                                have HN := Lib.hid hn
                                have HRES4 := Lib.hid (show pTail N a2 a3 a4 (pClients gk0 ((ls.drop m).map bl) m (rows ++ [row])) = res by rw [← HRES3.out, drop_none hn]; rfl)
                                clear hn
                                go_wp2_with fail
                                refine (next_none _ H15.out.rd HN.out).mono ?_
                                rintro e w16 ⟨rfl, k, rfl⟩
                                have H16 := Lib.hid (H15.out.drewN k)
                                have HROW3 := Lib.hid (HROW.out.below (below_drewN (Below.refl _ _) k))
                                go_wp2_with fail
                                refine (cut_any [] (by simp) _ H16.out.rd.gl).mono ?_
                                rintro e w17 ⟨y1, y2, rfl, k2, rfl⟩
                                have H17 := Lib.hid (H15.out.drewN (k + k2))
                                have HROW4 := Lib.hid (HROW.out.below (below_drewN (Below.refl _ _) (k + k2)))
                                go_wp2_with fail
                                go_roundg gk0
                                case measure => omega
                                case rel => exact ⟨i + 1, m, rows ++ [row], _, rfl, by have := HKI.out; omega, HRES4, Lib.hid (by rw [List.length_append, HLEN.out]; rfl), H17, Lib.hid HROW4.out.close⟩
                              | some s =>
                                obtain ⟨y3, hy⟩ : ∃ y3, bl s = y3 := ⟨_, rfl⟩
                                have HX := Lib.hid (show (ls[m]?).map bl = some y3 by rw [hn, ← hy]; rfl)
                                have HN := Lib.hid hn
                                have HY := Lib.hid hy
                                have HLT := Lib.hid (List.getElem?_eq_some_iff.1 hn).1
                                have HD := Lib.hid (show (ls.drop m).map bl = y3 :: (ls.drop (m + 1)).map bl by rw [drop_some hn, hy])
                                have hsz : y3.length ≤ 4294967280 := by
                                  have := H15.out.rd.size s ((List.getElem?_eq_some_iff.1 hn).2 ▸ List.getElem_mem _)
                                  rw [← hy, ← size_bl]
                                  exact this
                                have HSZ := Lib.hid hsz
                                clear hn hy hsz
                                by_cases hstop : y3 = kClient ∨ firstB y3 = kPicks
                                · have HRES4 := Lib.hid (show pTail N a2 a3 a4 (pClients gk0 ((ls.drop m).map bl) m (rows ++ [row])) = res by rw [← HRES3.out, HD.out, pRow_stop hstop]; rfl)
                                  by_cases hc : y3 = kClient
                                  · have hu2 : (y3 == [99, 108, 105, 101, 110, 116]) = true := by rw [hc]; rfl
                                    clear hstop hc
                                    go_wp2_with fail
                                    refine (next_x y3 _ H15.out.rd HX.out).mono ?_
                                    rintro e w16 ⟨rfl, k, rfl⟩
                                    have H16 := Lib.hid (H15.out.drewN k)
                                    go_wp2_with fail
                                    refine (cut_any y3 HSZ.out _ H16.out.rd.gl).mono ?_
                                    rintro e w17 ⟨y1, y2, rfl, k2, rfl⟩
                                    have H17 := Lib.hid (H15.out.drewN (k + k2))
                                    have HROW4 := Lib.hid (HROW.out.below (below_drewN (Below.refl _ _) (k + k2)))
                                    go_wp2_with fail
                                    go_roundg gk0
                                    case measure => omega
                                    case rel => exact ⟨i + 1, m, rows ++ [row], _, rfl, by have := HKI.out; omega, HRES4, Lib.hid (by rw [List.length_append, HLEN.out]; rfl), H17, Lib.hid HROW4.out.close⟩
                                  · have hu2 : (y3 == [99, 108, 105, 101, 110, 116]) = false := beq_eq_false_iff_ne.2 hc
                                    have hu3 : (firstB y3 == [112, 105, 99, 107, 115]) = true := by rw [hstop.resolve_left hc]; rfl
                                    clear hstop hc
                                    go_wp2_with fail
                                    refine (next_x y3 _ H15.out.rd HX.out).mono ?_
                                    rintro e w16 ⟨rfl, k, rfl⟩
                                    have H16 := Lib.hid (H15.out.drewN k)
                                    go_wp2_with fail
                                    refine (cut_any y3 HSZ.out _ H16.out.rd.gl).mono ?_
                                    rintro e w17 ⟨y1, y2, rfl, k2, rfl⟩
                                    have H17 := Lib.hid (H15.out.drewN (k + k2))
                                    have HROW4 := Lib.hid (HROW.out.below (below_drewN (Below.refl _ _) (k + k2)))
                                    go_wp2_with fail
                                    go_roundg gk0
                                    case measure => omega
                                    case rel => exact ⟨i + 1, m, rows ++ [row], _, rfl, by have := HKI.out; omega, HRES4, Lib.hid (by rw [List.length_append, HLEN.out]; rfl), H17, Lib.hid HROW4.out.close⟩
                                · have hu2 : (y3 == [99, 108, 105, 101, 110, 116]) = false := beq_eq_false_iff_ne.2 (fun he => hstop (.inl he))
                                  have hu3 : (firstB y3 == [112, 105, 99, 107, 115]) = false := beq_eq_false_iff_ne.2 (fun he => hstop (.inr he))
                                  have HST := Lib.hid hstop
                                  clear hstop
                                  go_wp2_with fail
                                  refine (next_x y3 _ H15.out.rd HX.out).mono ?_
                                  rintro e w16 ⟨rfl, k, rfl⟩
                                  have H16 := Lib.hid (H15.out.drewN k)
                                  go_wp2_with fail
                                  refine (cut_any y3 HSZ.out _ H16.out.rd.gl).mono ?_
                                  rintro e w17 ⟨y1, y2, rfl, k2, rfl⟩
                                  have H17 := Lib.hid (H15.out.drewN (k + k2))
                                  have HROW4 := Lib.hid (HROW.out.below (below_drewN (Below.refl _ _) (k + k2)))
                                  go_wp2_with fail
                                  cases hc : pCall (Scr.words y3) with
                                  | none =>
                                    obtain rfl : res = .error m := by rw [← HRES3.out, HD.out, pRow_bad HST.out hc]; rfl
                                    have HC := Lib.hid (show pCall (Scr.words (bl s)) = none by rw [HY.out, hc])
                                    clear hc
                                    refine (call_any r b off L c m s _ (H17.out.rd.line s HN.out)).mono ?_
                                    intro e w18 h18
                                    rw [HC.out] at h18
                                    obtain ⟨rfl, hm18⟩ := h18
                                    exact ⟨rfl, rfl, H17.out.mu.trans hm18 (fun i hi => .inl hi)⟩
                                  | some cd =>
                                    have HC := Lib.hid (show pCall (Scr.words (bl s)) = some cd by rw [HY.out, hc])
                                    have HC2 := Lib.hid hc
                                    clear hc
                                    refine (call_any r b off L c m s _ (H17.out.rd.line s HN.out)).mono ?_
                                    intro e w18 h18
                                    rw [HC.out] at h18
                                    obtain ⟨vo, rfl, hvo, hr18, hm18⟩ := h18
                                    obtain ⟨A2, cap2, rfl⟩ := Kd.R_slice hvo
                                    have H18 := Lib.hid (H17.out.read (m := m + 1) hm18 hr18)
                                    have HROW5 := Lib.hid (HROW4.out.step hm18 (fun _ hk he => hk.1 he))
                                    have HVO := Lib.hid hvo
                                    have HNEW := Lib.hid (alloc_new w18 (.cells callZero 53))
                                    clear hvo hr18 hm18
                                    go_wp2_with (refine wpList_store_row rfl 53 _ _ rfl w18.heap.size (cdCells cd A2 cap2) rfl rfl 53 callZero HNEW.out call_info rfl (cdCells_one _ _ _) ?_)
                                    generalize hW19 : World.setRow _ w18.heap.size (cdCells cd A2 cap2) = w19
                                    have hW : w19 = (w18.alloc (.cells callZero 53)).setRow w18.heap.size (cdCells cd A2 cap2) := hW19.symm
                                    have hbx := boxed w18 (cdCells cd A2 cap2)
                                    rw [← hW] at hbx
                                    have H19 := Lib.hid (H18.out.below hbx.1)
                                    have HROW6 := Lib.hid (HROW5.out.below hbx.1)
                                    have HVO2 := Lib.hid (Kd.R_below HVO.out hbx.1)
                                    have HB19 := Lib.hid hbx.2
                                    have HS19 := Lib.hid hbx.1.size
                                    clear hW19 hW hbx HVO HROW5 H18 HNEW
                                    have b0 := cell_blk (blk_drew HB19.out) 0 (v := .int .i64 cd.k) rfl
                                    have b1 := cell_blk (blk_drew HB19.out) 1 (v := .slice A2 cd.ops.length cap2) rfl
                                    have b2 := cell_blk (blk_drew HB19.out) 2 (v := .int .i64 cd.q.k) rfl
                                    have b3 := cell_blk (blk_drew HB19.out) 3 (v := .int .i64 cd.q.i) rfl
                                    have b4 := cell_blk (blk_drew HB19.out) 4 (v := .int .i64 cd.q.b) rfl
                                    have b5 := cell_blk (blk_drew HB19.out) 5 (v := .string cd.q.x) rfl
                                    have D19 := Lib.hid (HROW6.out.below (below_drew (Below.refl _ _)))
                                    have b6 := D19.out.cell
                                    have b7 : ∀ ob, (w19.drew.alloc ob).cell? ⟨g, rows.length, none⟩ = some (.slice Au row.length cu) := fun ob => (D19.out.below ((Below.refl _ _).alloc (Nat.le_refl _) ob)).cell
                                    have b8 : ∀ ob, (w19.alloc ob).drew.cell? ⟨g, rows.length, none⟩ = some (.slice Au row.length cu) := fun ob => (D19.out.below ((Below.refl _ _).alloc (Nat.le_refl _) ob)).cell
                                    have HUL := Lib.hid (Kd.R_lt HROW4.out.cur)
                                    have HGL := Lib.hid HROW4.out.lt
                                    have HRL := Lib.hid (And.intro H17.out.lin H17.out.rw_)
                                    have HVO3 := Lib.hid (show kOp.R 48 w19.drew w.heap.size (fun k => (okS w r k ∧ k ≠ g) ∧ some k ≠ (Value.slice Au row.length cu).ownBlock) (.slice A2 cd.ops.length cap2) cd.ops from
                                      Kd.R_drew (Kd.R_lower (Kd.R_mono (Kd.R_bound HVO2.out) (fun k3 hk => by
                                        have h0 := HRL.out.1
                                        have h2 := HRL.out.2
                                        have h3 := HGL.out
                                        have h4 := hk.2.1
                                        exact ⟨⟨⟨by omega, by omega⟩, by omega⟩, fun he => by have := HUL.out k3 he.symm; omega⟩)) (Nat.le_of_lt HRL.out.1)))
                                    have HFR := Lib.hid (show ∀ k, w19.drew.heap.size ≤ k → okS w r k ∧ k ≠ g from fun k hk => ⟨okS_fresh H19.out k hk, by have := D19.out.lt; omega⟩)
                                    have H72 := Lib.hid (show (row.length + 1) * 72 ≤ 140737488355328 by have := HL100.out; omega)
                                    have HLE := Lib.hid (show w.heap.size ≤ w19.drew.heap.size from Nat.le_of_lt H19.out.lin)
                                    have HUG := Lib.hid (show ∀ k, (Value.slice Au row.length cu).ownBlock = some k → w.heap.size < k from fun k hk => by
                                      have h1 := Kd.R_base D19.out.cur k hk
                                      have h2 := (D19.out.cur.1 k hk).1.2
                                      omega)
                                    have HGW := Lib.hid (show w.heap.size < g by have h1 := HROW.out.base_le; have h2 := HROW.out.gok.2; omega)
                                    go_region_law (first
                                      | (refine Kd.R_append_step (kCall 48) (w0 := _) w.heap.size (by rfl) (.tmp 99) (.tmp 101) 45 53 (.agg callZero) 72 rfl Tryz.underlying45 info_call rfl (by decide) (by decide) _ row cd [.int .i64 cd.k, .slice A2 cd.ops.length cap2, .int .i64 cd.q.k, .int .i64 cd.q.i, .int .i64 cd.q.b, .string cd.q.x] _ _ rfl rfl (kCall_M HVO3.out) (fun _ h => h) HFR.out D19.out.cur (Below.refl _ _) HLE.out H72.out ?_
                                         intro v1 w20 hr20 hb20 hg20 hat20
                                         obtain ⟨A3, c3, rfl⟩ := Kd.R_slice hr20
                                         have D20 := Lib.hid (D19.out.put hr20 hg20 hat20)
                                         have c20 := (own_last (D19.out.kept hg20)).1
                                         have f20 := (own_last (D19.out.kept hg20)).2.1
                                         have H20 := Lib.hid ((H19.out.below (below_drew (Below.refl _ _))).grown hg20 HUG.out)
                                         clear hr20 hb20 hg20 hat20))
                                    all_goals
                                      rw [show (row ++ [cd]).length = row.length + 1 by simp] at D20
                                      have H21 := Lib.hid (show ScSt w (w20.setCell ⟨g, rows.length, none⟩ (.slice A3 (row.length + 1) c3)) r b off L c (m + 1) ls (scCells N a2 a3 a4 (.slice (some ⟨g, 0, none⟩) (rows.length + 1) cap1) (.slice none 0 0)) from
                                        H20.out.next ((Mut.refl (· = g) w20).set1 rows.length _) (fun k3 hk => by have := HGW.out; omega))
                                      have c21 := D20.out.cell
                                      by_cases h100 : 100 < row.length + 1
                                      · obtain rfl : res = .error m := by rw [← HRES3.out, HD.out, pRow_many HST.out HC2.out h100]; rfl
                                        have ht2 : decide (100 < (row.length : Int) + 1) = true := decide_eq_true (by omega)
                                        have c22 := cell_blk H21.out.rd.rd 1 (v := .int .i64 ((m : Int) + 1)) rfl
                                        have f22 := froz_blk H21.out.rd.rd 1
                                        have q22 : wrap64 (m : Int) = m := wrap_small (by have := H21.out.rd.max; have := H21.out.rd.len; have := HLT.out; omega)
                                        have H22 := Lib.hid (H21.out.count m)
                                        clear h100
                                        go_wp2_with fail
                                        refine (give_any r _ m _ H22.out.rd.rd).mono ?_
                                        rintro e w24 ⟨rfl, rfl⟩
                                        exact ⟨rfl, rfl, H22.out.mu⟩
                                      · have ht2 : decide (100 < (row.length : Int) + 1) = false := decide_eq_false (by omega)
                                        have HRES4 := Lib.hid (show pTail N a2 a3 a4 (pRest gk0 rows (pRow ((ls.drop (m + 1)).map bl) (m + 1) (row ++ [cd]))) = res by rw [← HRES3.out, HD.out, pRow_more HST.out HC2.out h100])
                                        have HL2 := Lib.hid (show (row ++ [cd]).length ≤ 100 by rw [List.length_append]; simp; omega)
                                        clear h100
                                        go_wp2_with fail
                                        go_roundg (gk - 1)
                                        case measure => have h1 := HKM.out; have h2 := HLT.out; omega
                                        case rel => exact ⟨m + 1, row ++ [cd], _, by have h1 := HKM.out; have h2 := HLT.out; omega, HRES4, HL2, H21, D20⟩
                          · have hu : (y == [99, 108, 105, 101, 110, 116]) = false := beq_eq_false_iff_ne.2 hk2
                            obtain rfl : res = .error n := by rw [← HRES2.out, HD.out, pClients, if_neg hk2]; rfl
                            clear hk2
                            go_wp2_with fail
                            refine (next_x y _ H11.out.rd HX.out).mono ?_
                            rintro e w11 ⟨rfl, k, rfl⟩
                            have H12 := Lib.hid (H11.out.drewN k)
                            go_wp2_with fail
                            refine (give_any r _ n _ H12.out.rd.rd).mono ?_
                            rintro e w12 ⟨rfl, rfl⟩
                            exact ⟨rfl, rfl, H12.out.mu⟩
      · have ht : (x == [119, 111, 114, 108, 100]) = false := beq_eq_false_iff_ne.2 hk
        obtain rfl : res = .error 0 := by rw [← HRES.out, HMAP.out]; exact pScript_bad (by rw [HW.out]; exact pHead_word hk)
        clear hk
        go_wp2_with fail
        refine (give_any r _ 0 _ H2.out.rd.rd).mono ?_
        rintro e w4 ⟨rfl, rfl⟩
        exact ⟨rfl, rfl, H2.out.mu⟩
end Go.Proofs.YtjcdpccfhpbccaaGreatDoor
