/-
  Plain words on worlds for the walks over the scripts' parser: what a call keeps (all blocks but some, and what is new), and cells of a block that is known whole.
-/
import Derived.Test.YtjcdpccfhpbccaaDoorProg
import Derived.WalkKit
import Derived.WalkSpells
import Derived.WalkLawsBesides
import Derived.Lib.Hide
namespace Go.Proofs.YtjcdpccfhpbccaaDoor
open Go.RowKit

/-- All blocks but those of S, and what is new since, are as they were. -/
structure Mut (S : Nat → Prop) (w w' : World) : Prop where
  os : w'.os = w.os
  tape : w'.tape = w.tape
  output : w'.output = w.output
  size : w.heap.size ≤ w'.heap.size
  block : ∀ k, k < w.heap.size → ¬ S k → w'.heap[k]? = w.heap[k]?
theorem below_drewN {B : Nat} {a w : World} (h : Below B a w) (n : Nat) : Below B a (w.drewN n) := ⟨h.os, h.tape, h.output, h.size, h.block⟩
theorem below_via {w w1 : World} {o : Obj} (hb : Below (w.alloc o).heap.size (w.alloc o) w1) : Below w.heap.size w w1 := ((Below.refl _ _).alloc (Nat.le_refl _) o).trans (hb.mono (by simp))
namespace Mut
variable {S S' : Nat → Prop} {w w1 w2 : World}
theorem refl (S : Nat → Prop) (w : World) : Mut S w w := ⟨rfl, rfl, rfl, Nat.le_refl _, fun _ _ _ => rfl⟩
theorem trans (h : Mut S w w1) (k : Mut S' w1 w2) (hs : ∀ i, S' i → S i ∨ w.heap.size ≤ i) : Mut S w w2 :=
  ⟨k.os.trans h.os, k.tape.trans h.tape, k.output.trans h.output, Nat.le_trans h.size k.size, fun i hi hn =>
    (k.block i (Nat.lt_of_lt_of_le hi h.size) (fun h2 => (hs i h2).elim hn (fun h3 => by omega))).trans (h.block i hi hn)⟩
theorem mono (h : Mut S w w1) (hs : ∀ i, S i → S' i ∨ w.heap.size ≤ i) : Mut S' w w1 :=
  ⟨h.os, h.tape, h.output, h.size, fun i hi hn => h.block i hi (fun h2 => (hs i h2).elim hn (fun h3 => by omega))⟩
theorem of_below (h : Below w.heap.size w w1) (S : Nat → Prop) : Mut S w w1 := ⟨h.os, h.tape, h.output, h.size, fun i hi _ => h.block i hi⟩
theorem below (h : Mut S w w1) {B : Nat} (hB : B ≤ w.heap.size) (hS : ∀ i, S i → B ≤ i) : Below B w w1 :=
  ⟨h.os, h.tape, h.output, h.size, fun i hi => h.block i (by omega) (fun h2 => by have := hS i h2; omega)⟩
theorem then_below (h : Mut S w w1) (k : Below w1.heap.size w1 w2) : Mut S w w2 := h.trans (of_below k (fun _ => False)) (fun _ h => h.elim)
theorem alloc (h : Mut S w w1) (o : Obj) : Mut S w (w1.alloc o) := h.then_below ((Below.refl _ _).alloc (Nat.le_refl _) o)
theorem drew (h : Mut S w w1) : Mut S w w1.drew := ⟨h.os, h.tape, h.output, h.size, h.block⟩
theorem drewN (h : Mut S w w1) (n : Nat) : Mut S w (w1.drewN n) := ⟨h.os, h.tape, h.output, h.size, h.block⟩
theorem set (h : Mut S w w1) {p : Addr} (hp : S p.block ∨ w.heap.size ≤ p.block) (u : Value) : Mut S w (w1.setCell p u) :=
  h.trans (S' := fun k => k = p.block) ⟨rfl, rfl, rfl, by simp [World.setCell], fun i _ hn => Below.heap_setCell w1 p u i hn⟩ (fun i hi => by rw [hi]; exact hp)
theorem setRow (h : Mut S w w1) {g : Nat} (hp : S g ∨ w.heap.size ≤ g) (cs : Array Value) : Mut S w (w1.setRow g cs) :=
  h.trans (S' := fun k => k = g) ⟨rfl, rfl, rfl, by simp, fun i _ hn => setRow_other w1 g i cs hn⟩ (fun i hi => by rw [hi]; exact hp)
theorem set1 {b : Nat} (h : Mut (· = b) w w1) (j : Nat) (u : Value) : Mut (· = b) w (w1.setCell ⟨b, j, none⟩ u) := h.set (p := ⟨b, j, none⟩) (.inl rfl) u
theorem blk (h : Mut S w w1) {g : Nat} {o : Obj} (hb : w.heap[g]? = some o) (hn : ¬ S g) : w1.heap[g]? = some o := (h.block g (lt_of_block hb) hn).trans hb
theorem cell (h : Mut S w w1) {a : Addr} {v : Value} (hc : w.cell? a = some v) (hn : ¬ S a.block) : w1.cell? a = some v := by
  have := h.block a.block (World.block_lt_of_cell? w a hc) hn
  simpa [World.cell?, this] using hc
end Mut

section
variable {w : World} {b : Nat} {cs : Array Value} {t : TypeId}
theorem cell_blk (h : w.heap[b]? = some (.cells cs t (0, 0))) (j : Nat) {v : Value} (hj : cs[j]? = some v) : w.cell? ⟨b, j, none⟩ = some v := by simp [World.cell?, h, hj]
theorem froz_blk (h : w.heap[b]? = some (.cells cs t (0, 0))) (j : Nat) : w.frozen? ⟨b, j, none⟩ = false := by simp [World.frozen?, h]
theorem set_blk (h : w.heap[b]? = some (.cells cs t (0, 0))) (j : Nat) (u : Value) : (w.setCell ⟨b, j, none⟩ u).heap[b]? = some (.cells (cs.setIfInBounds j u) t (0, 0)) := by
  have hlt := lt_of_block h
  have h' : w.heap[b] = .cells cs t (0, 0) := by simpa [Array.getElem?_eq_getElem hlt] using h
  show (w.heap.modify b _)[b]? = _
  rw [Array.getElem?_eq_getElem (by simpa using hlt), Array.getElem_modify_self, h']
  rfl
theorem set_blk_ne {w : World} {b b' : Nat} {o : Obj} (h : w.heap[b]? = some o) (hne : b ≠ b') (j : Nat) (u : Value) : (w.setCell ⟨b', j, none⟩ u).heap[b]? = some o :=
  (Below.heap_setCell w ⟨b', j, none⟩ u b hne).trans h
theorem alloc_blk {w : World} {b : Nat} {o : Obj} (h : w.heap[b]? = some o) (o' : Obj) : (w.alloc o').heap[b]? = some o := (Below.heap_alloc w o' b (lt_of_block h)).trans h
theorem alloc_new (w : World) (o : Obj) : (w.alloc o).heap[w.heap.size]? = some o := by show (w.heap.push o)[w.heap.size]? = _; simp
end
end Go.Proofs.YtjcdpccfhpbccaaDoor
