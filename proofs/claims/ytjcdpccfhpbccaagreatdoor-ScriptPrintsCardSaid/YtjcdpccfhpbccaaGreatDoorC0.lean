/-
  What an operation's words say: the plain function.
-/
import Derived.Test.YtjcdpccfhpbccaaGreatDoorA6
import Derived.Test.YtjcdpccfhpbccaaGreatDoorB6
import Derived.Lib.SlicesS
namespace Go.Proofs.YtjcdpccfhpbccaaGreatDoor
open Go.RowKit

structure OpD where
  k : Int
  i : Int
  t : Int
  a : Int
  n : ByteArray
  x : ByteArray
def opNames : List ByteArray := [⟨#[43, 101, 108, 101, 109, 101, 110, 116]⟩, ⟨#[43, 116, 101, 120, 116]⟩, ⟨#[43, 99, 111, 109, 109, 101, 110, 116]⟩, ⟨#[43, 105, 110, 115, 101, 114, 116]⟩, ⟨#[43, 114, 101, 109, 111, 118, 101]⟩, ⟨#[43, 115, 101, 116]⟩, ⟨#[43, 117, 110, 115, 101, 116]⟩, ⟨#[43, 99, 104, 97, 110, 103, 101]⟩]
def kindOf (x : List UInt8) : Int := 1 + Lib.idxOfS opNames ⟨x.toArray⟩
theorem idxFromS_range (x : ByteArray) : ∀ (zs : List ByteArray) (i : Nat), Lib.idxFromS zs x i = -1 ∨ ∃ k : Nat, i ≤ k ∧ k < i + zs.length ∧ Lib.idxFromS zs x i = k := by
  intro zs
  induction zs with
  | nil => intro i; exact .inl rfl
  | cons z zs ih =>
    intro i
    by_cases h : z = x
    · exact .inr ⟨i, by omega, by simp, by simp [Lib.idxFromS, h]⟩
    · have e : Lib.idxFromS (z :: zs) x i = Lib.idxFromS zs x (i + 1) := by simp [Lib.idxFromS, h]
      rcases ih (i + 1) with h1 | ⟨k, h1, h2, h3⟩
      · exact .inl (by rw [e, h1])
      · exact .inr ⟨k, by omega, by simp at h2 ⊢; omega, by rw [e, h3]⟩
theorem kindOf_range (x : List UInt8) : ∃ k : Nat, k ≤ 8 ∧ kindOf x = k := by
  unfold kindOf Lib.idxOfS
  rcases idxFromS_range ⟨x.toArray⟩ opNames 0 with h | ⟨k, h1, h2, h3⟩
  · exact ⟨0, by omega, by rw [h]; rfl⟩
  · have : opNames.length = 8 := rfl
    exact ⟨k + 1, by omega, by rw [h3]; omega⟩

def optNum (c : Bool) (ws : List (List UInt8)) : Option (Int × List (List UInt8)) := if c then pNum ws else some (0, ws)
def optText (c : Bool) (ws : List (List UInt8)) : Option (List UInt8 × List (List UInt8)) := if c then pText [43] ws else some ([], ws)
def pOp : List (List UInt8) → Option (OpD × List (List UInt8))
  | [] => none
  | x :: ws =>
    let k := (kindOf x).toNat
    (optNum (decide (4 ≤ k)) ws).bind fun (i, ws1) => (optNum (decide (k = 4)) ws1).bind fun (t, ws2) => (optNum (decide (k = 4)) ws2).bind fun (a, ws3) =>
    (optText (shName k) ws3).bind fun (n, ws4) => (optText (shText k) ws4).bind fun (y, ws5) =>
    if mayB k i t a ⟨n.toArray⟩ ⟨y.toArray⟩ then some (⟨k, i, t, a, ⟨n.toArray⟩, ⟨y.toArray⟩⟩, ws5) else none
def opV (o : OpD) : Value := .agg #[.int .i64 o.k, .int .i64 o.i, .int .i64 o.t, .int .i64 o.a, .string o.n, .string o.x]

/-- What an operation's walk says at its end. -/
def OpPost (l r : Nat) (n : Int) (w : World) (ws : List (List UInt8)) (e : Ending) (w' : World) : Prop :=
  match pOp ws with
  | some (o, ws') => LnOk l r w (opV o) ws' e w'
  | none => LnNo l w n e w'

def opZero : Array Value := #[.int .i64 0, .int .i64 0, .int .i64 0, .int .i64 0, .string ⟨#[]⟩, .string ⟨#[]⟩]

/-- What holds on the way: the line, the reader, the operation that is made. -/
structure OpSt (w W : World) (l r o q : Nat) (v : Value) (n : Int) (cs : Array Value) (ws : List (List UInt8)) : Prop where
  ln : LnW W l r ws
  rd : RdAt W r v n
  op : W.heap[o]? = some (.cells cs 48 (0, 0))
  gl : Glob W
  mu : Mut (· = l) w W
  ol : o ≠ l
  or_ : o ≠ r
  rl : r ≠ l
  old : w.heap.size ≤ o
  l6 : 6 ≤ l
  o6 : 6 ≤ o
  rs : W.heap[q]? = some (.cells opZero 48 (0, 0))
  ql : q ≠ l
  qo : q ≠ o
  qw : w.heap.size ≤ q
namespace OpSt
variable {w W W1 : World} {l r o q : Nat} {v : Value} {n : Int} {cs : Array Value} {ws ws' : List (List UInt8)}
theorem next (h : OpSt w W l r o q v n cs ws) (hl : LnW W1 l r ws') (hm : Mut (· = l) W W1) : OpSt w W1 l r o q v n cs ws' :=
  ⟨hl, h.rd.mut hm h.rl, hm.blk h.op h.ol, h.gl.mut hm (fun k hk => by have := h.l6; omega), h.mu.trans hm (fun i hi => .inl hi), h.ol, h.or_, h.rl, h.old, h.l6, h.o6, hm.blk h.rs h.ql, h.ql, h.qo, h.qw⟩
theorem set (h : OpSt w W l r o q v n cs ws) (j : Nat) (u : Value) : OpSt w (W.setCell ⟨o, j, none⟩ u) l r o q v n (cs.setIfInBounds j u) ws := by
  have hm : Mut (· = o) W (W.setCell ⟨o, j, none⟩ u) := (Mut.refl (· = o) W).set1 j u
  have ho := h.ol
  have hor := h.or_
  exact ⟨h.ln.mut hm (fun e => ho e.symm), h.rd.mut hm (fun e => hor e.symm), set_blk h.op j u, h.gl.mut hm (fun k hk => by have := h.o6; omega), h.mu.set (p := ⟨o, j, none⟩) (.inr h.old) u, h.ol, h.or_, h.rl, h.old, h.l6, h.o6, hm.blk h.rs h.qo, h.ql, h.qo, h.qw⟩
theorem below (h : OpSt w W l r o q v n cs ws) (hb : Below W.heap.size W W1) : OpSt w W1 l r o q v n cs ws := h.next (h.ln.below hb) (Mut.of_below hb _)
end OpSt
def namesArr : Array Value := (opNames.map Value.string).toArray
theorem names_index (b : Nat) (x : List UInt8) (k : Nat) (hk : kindOf x = k) (hk8 : k ≤ 8) (w : World) (h : w.heap[b]? = some (.cells namesArr 9 (0, 0))) :
    Calls Tryz.prog 82 #[.slice (some ⟨b, 0, none⟩) 8 8, .string ⟨x.toArray⟩] w fun e w' => e = .returned (.int .i64 ((k : Int) - 1)) ∧ w = w' := by
  refine (Tryz.slices_Index_string b 0 8 8 opNames ⟨x.toArray⟩ w (Nat.le_refl _) (by decide) (fun j hj => ?_)).mono ?_
  · have h1 : namesArr[j]? = some (.string (opNames.getD j ByteArray.empty)) := by
      unfold namesArr
      rw [List.getElem?_toArray, List.getElem?_map, List.getElem?_eq_getElem hj, List.getD_eq_getElem?_getD, List.getElem?_eq_getElem hj]
      rfl
    rw [Nat.zero_add]
    exact cell_blk h j h1
  · rintro e w' ⟨he, hw⟩
    refine ⟨?_, hw.symm⟩
    rw [he]
    have e1 : opNames.take 8 = opNames := rfl
    rw [e1]
    unfold kindOf at hk
    congr 2
    omega
theorem op_none {l r : Nat} {n : Int} {w w' : World} {ws : List (List UInt8)} {e : Ending} (h : pOp ws = none) (h2 : LnNo l w n e w') : OpPost l r n w ws e w' := by
  unfold OpPost
  rw [h]
  exact h2
theorem op_some {l r : Nat} {n : Int} {w w' : World} {ws ws' : List (List UInt8)} {o : OpD} {e : Ending} (h : pOp ws = some (o, ws')) (h2 : LnOk l r w (opV o) ws' e w') : OpPost l r n w ws e w' := by
  unfold OpPost
  rw [h]
  exact h2
theorem op_under : Tryz.prog.underlying 48 = Tryz.prog.underlying 48 := rfl
end Go.Proofs.YtjcdpccfhpbccaaGreatDoor
