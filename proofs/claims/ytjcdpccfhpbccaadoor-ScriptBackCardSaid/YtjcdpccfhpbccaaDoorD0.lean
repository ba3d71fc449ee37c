/-
  The data of scripts in memory: operations, queries, calls.
-/
import Derived.Test.YtjcdpccfhpbccaaDoorC1
import Derived.Test.YtjcdpccfhpbccaaDoorWWords
namespace Go.Proofs.YtjcdpccfhpbccaaDoor
open Go.RowKit Go.Proofs.YtjcdpccfhpbccaaDoorW.PrintWords

structure QD where
  k : Int
  i : Int
  b : Int
  x : ByteArray
structure CallD where
  k : Int
  ops : List OpD
  q : QD
def kOp : Kd OpD := Kd.iso (Kd.pair (Kd.int .i64) (Kd.pair (Kd.int .i64) (Kd.pair (Kd.int .i64) (Kd.pair (Kd.int .i64) (Kd.pair Kd.string Kd.string))))) (fun o => (o.k, o.i, o.t, o.a, o.n, o.x))
def kQ : Kd QD := Kd.iso (Kd.pair (Kd.int .i64) (Kd.pair (Kd.int .i64) (Kd.pair (Kd.int .i64) Kd.string))) (fun q => (q.k, q.i, q.b, q.x))
/-- A call; e: the type of its operations. -/
def kCall (e : Nat) : Kd CallD := Kd.iso (Kd.pair (Kd.int .i64) (Kd.pair (Kd.slice e kOp) kQ)) (fun c => (c.k, c.ops, c.q))
theorem kOp_sz : kOp.sz = 6 := rfl
theorem kCall_sz (e : Nat) : (kCall e).sz = 6 := rfl
theorem kOp_M (w : World) (base : Nat) (ok : Nat → Prop) (o : OpD) : kOp.M w base ok o [.int .i64 o.k, .int .i64 o.i, .int .i64 o.t, .int .i64 o.a, .string o.n, .string o.x] :=
  ⟨[.int .i64 o.k], [.int .i64 o.i, .int .i64 o.t, .int .i64 o.a, .string o.n, .string o.x], rfl, rfl, ⟨[.int .i64 o.i], [.int .i64 o.t, .int .i64 o.a, .string o.n, .string o.x], rfl, rfl, ⟨[.int .i64 o.t], [.int .i64 o.a, .string o.n, .string o.x], rfl, rfl, ⟨[.int .i64 o.a], [.string o.n, .string o.x], rfl, rfl, ⟨[.string o.n], [.string o.x], rfl, rfl, rfl⟩⟩⟩⟩⟩
theorem kOp_K {w : World} {o : OpD} {cs : List Value} (h : kOp.K w o cs) : cs = [.int .i64 o.k, .int .i64 o.i, .int .i64 o.t, .int .i64 o.a, .string o.n, .string o.x] := by
  obtain ⟨_, _, rfl, rfl, ⟨_, _, rfl, rfl, ⟨_, _, rfl, rfl, ⟨_, _, rfl, rfl, ⟨_, _, rfl, rfl, rfl⟩⟩⟩⟩⟩ := h
  rfl
theorem kCall_M {e : Nat} {w : World} {base : Nat} {ok : Nat → Prop} {c : CallD} {v : Value} (h : kOp.R e w base ok v c.ops) : (kCall e).M w base ok c [.int .i64 c.k, v, .int .i64 c.q.k, .int .i64 c.q.i, .int .i64 c.q.b, .string c.q.x] :=
  ⟨[.int .i64 c.k], [v, .int .i64 c.q.k, .int .i64 c.q.i, .int .i64 c.q.b, .string c.q.x], rfl, rfl, ⟨[v], [.int .i64 c.q.k, .int .i64 c.q.i, .int .i64 c.q.b, .string c.q.x], rfl, ⟨v, rfl, h⟩, ⟨[.int .i64 c.q.k], [.int .i64 c.q.i, .int .i64 c.q.b, .string c.q.x], rfl, rfl, ⟨[.int .i64 c.q.i], [.int .i64 c.q.b, .string c.q.x], rfl, rfl, ⟨[.int .i64 c.q.b], [.string c.q.x], rfl, rfl, rfl⟩⟩⟩⟩⟩
theorem kCall_K {e : Nat} {w : World} {c : CallD} {cs : List Value} (h : (kCall e).K w c cs) : ∃ A cap, cs = [.int .i64 c.k, .slice A c.ops.length cap, .int .i64 c.q.k, .int .i64 c.q.i, .int .i64 c.q.b, .string c.q.x] ∧ c.ops.length ≤ cap ∧ kOp.C w A c.ops.length c.ops := by
  obtain ⟨_, _, rfl, rfl, ⟨_, _, rfl, ⟨A, cap, rfl, h1, h2⟩, ⟨_, _, rfl, rfl, ⟨_, _, rfl, rfl, ⟨_, _, rfl, rfl, rfl⟩⟩⟩⟩⟩ := h
  exact ⟨A, cap, rfl, h1, h2⟩

/-- Any call keeps a row of another type than the blocks that it turns. -/
theorem R_mut {α : Type} {d : Kd α} {e base : Nat} {ok : Nat → Prop} {w w1 : World} {v : Value} {xs : List α} {S : Nat → Prop} (h : d.R e w base ok v xs) (hm : Mut S w w1) (hS : ∀ k, ok k → ¬ S k) : d.R e w1 base ok v xs :=
  Kd.R_step h (fun k hk hlt => hm.block k hlt (hS k hk))
end Go.Proofs.YtjcdpccfhpbccaaDoor
