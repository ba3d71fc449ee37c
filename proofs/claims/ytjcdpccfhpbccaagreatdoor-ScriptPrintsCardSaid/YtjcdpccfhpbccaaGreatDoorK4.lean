/-
  What a script that is read as data is, in memory.
-/
import Derived.Test.YtjcdpccfhpbccaaGreatDoorO0
import Derived.ChangeArms
import Derived.SizedLaws
namespace Go.Proofs.YtjcdpccfhpbccaaGreatDoor
open Go.RowKit Go.Proofs.YtjcdpccfhpbccaaGreatDoorW.PrintWords

theorem list_of {α : Type} {P : Nat → α → Prop} : ∀ n, (∀ i, i < n → ∃ x, P i x) → ∃ xs : List α, xs.length = n ∧ ∀ i x, xs[i]? = some x → P i x
  | 0, _ => ⟨[], rfl, by simp⟩
  | n + 1, h => by
    obtain ⟨xs, h1, h2⟩ := list_of n (fun i hi => h i (by omega))
    obtain ⟨x, hx⟩ := h n (by omega)
    refine ⟨xs ++ [x], by simp [h1], fun i y hy => ?_⟩
    by_cases hi : i < n
    · rw [List.getElem?_append_left (by omega)] at hy
      exact h2 i y hy
    · by_cases he : i = n
      · subst he
        rw [List.getElem?_append_right (by omega), h1, Nat.sub_self] at hy
        simp at hy
        rw [← hy]
        exact hx
      · rw [List.getElem?_eq_none (by simp; omega)] at hy
        cases hy
theorem weights_mem_all {H : Type} {P : Program} {e : TypeId} : ∀ {l : List (DataW H)} {d : DataW H}, d ∈ l → ∀ n ∈ d.weights P e, n ∈ DataW.weightsAll P e l := by
  intro l
  induction l with
  | nil => intro d h; simp at h
  | cons y l ih =>
    intro d h n hn
    simp only [DataW.weightsAll, List.mem_append]
    rcases List.mem_cons.1 h with rfl | h
    · exact .inl hn
    · exact .inr (ih h n hn)
section
variable {H : Type} {enc : TypeId × Value → H} {w : World}
noncomputable abbrev tr (enc : TypeId × Value → H) (w : World) (fuel : Nat) (t : TypeId) (cs : List Value) := DataW.trod enc Tryz.prog w 0 (fun _ => true) true fuel t cs
def Sm (t : TypeId) (d : DataW H) : Prop := ∀ n ∈ d.weights Tryz.prog t, n ≤ reachBytes
theorem rd_slice {α : Type} (d : Kd α) {t e : TypeId} (ht : Tryz.prog.underlying t = some (.slice e)) (hc : Tryz.prog.cellsOf e = d.sz) (hb0 : 0 < Tryz.prog.bytesOf e) (Wf : α → Prop)
    (he : ∀ fuel cs x, tr enc w fuel e cs = some x → Sm e x.1 → ∃ a, d.K w a cs ∧ Wf a) {fuel : Nat} {cs : List Value} {x : DataW H × List MemPlace} (h : tr enc w fuel t cs = some x) (hs : Sm t x.1) :
    ∃ xs : List α, (Kd.slice e d).K w xs cs ∧ (∀ a ∈ xs, Wf a) ∧ xs.length ≤ 140737488351232 := by
  rcases DataW.trod_slice ht h with ⟨rfl, rfl⟩ | ⟨a, len, cap, elems, rest, n, rfl, rfl, rfl, hb, hl, hm, hel, hi, _⟩
  · exact ⟨[], ⟨none, 0, rfl, Nat.le_refl _, Kd.C_nil d w⟩, by simp, by simp⟩
  · have hlen : elems.length * 1 ≤ 140737488351232 := by
      have h1 := hs ((elems.map (·.1)).length * Tryz.prog.bytesOf e + (rest.map (·.1)).length * Tryz.prog.bytesOf e) (by simp [DataW.weights, ht, Nat.add_mul])
      rw [List.length_map] at h1
      have h2 : elems.length * 1 ≤ elems.length * Tryz.prog.bytesOf e := Nat.mul_le_mul_left _ hb0
      have h3 : reachBytes = 140737488351232 := by decide
      omega
    obtain ⟨xs, hx1, hx2⟩ := list_of (P := fun i x => ∃ c, c.length = d.sz ∧ d.K w x c ∧ (∀ j u, c[j]? = some u → w.cell? (a.add (i * d.sz + j)) = some u) ∧ Wf x) len (fun i hlt => by
      have h1 := hi i hlt
      rw [hc] at h1
      obtain ⟨y, hy⟩ : ∃ y, elems[i]? = some y := ⟨_, List.getElem?_eq_getElem (by omega)⟩
      rw [hy] at h1
      obtain ⟨c, h2, h3⟩ := Option.bind_eq_some_iff.1 h1
      obtain ⟨_, h4, h5⟩ := World.cells?_some h2
      obtain ⟨x, k1, k2⟩ := he n c y h3 (fun m hm => hs m (by
        have hmem : y.1 ∈ elems.map (·.1) := List.mem_map.2 ⟨y, List.mem_of_getElem? hy, rfl⟩
        have := weights_mem_all (P := Tryz.prog) (e := e) hmem m hm
        simp only [DataW.weights, ht, List.mem_cons, List.mem_append]
        exact .inr (.inl this)))
      refine ⟨x, c, h4, k1, fun j u hj => ?_, k2⟩
      have hj1 := (List.getElem?_eq_some_iff.1 hj).1
      have h6 := h5 j (by omega)
      rw [hj, ← addr_add2] at h6
      exact h6)
    refine ⟨xs, ⟨some a, cap, by rw [hx1], by omega, ⟨rfl, by have : maxLen = 9223372036854775807 := by decide
                                                              omega, fun _ => ⟨a, rfl, fun j p hj => ?_⟩⟩⟩, fun y hy => ?_, by omega⟩
    · obtain ⟨c, k1, k2, k3, _⟩ := hx2 j p hj
      exact ⟨c, k1, k2, k3⟩
    · obtain ⟨i, hi1, rfl⟩ := List.mem_iff_getElem.1 hy
      obtain ⟨_, _, _, _, k4⟩ := hx2 i _ (List.getElem?_eq_getElem hi1)
      exact k4
theorem cells_int : Tryz.prog.cellsOf 3 = 1 := by kernel_rfl
theorem cells_str' : Tryz.prog.cellsOf 9 = 1 := by kernel_rfl
theorem i64_wf {z : Int} (h : (Lit.int .i64 z).wf = true) : I64 z := by
  simp [Lit.wf, IntKind.min, IntKind.max, IntKind.signed, IntKind.bits] at h
  unfold I64
  omega
theorem u8_wf {z : Int} (h : (Lit.int .u8 z).wf = true) : 0 ≤ z ∧ z ≤ 255 := by
  simp [Lit.wf, IntKind.min, IntKind.max, IntKind.signed, IntKind.bits] at h
  omega
theorem rd_int {fuel : Nat} {v : Value} {y : Option (DataW H × List MemPlace)} (h : tr enc w fuel 3 [v] = y) (hy : y.isSome = true) : ∃ z, v = .int .i64 z ∧ I64 z := by
  obtain ⟨y, rfl⟩ := Option.isSome_iff_exists.1 hy
  obtain ⟨z, h1, _, h2⟩ := DataW.trod_int Tryz.underlying3 h
  exact ⟨z, by simpa using h1, i64_wf h2⟩
theorem rd_str {fuel : Nat} {v : Value} {y : Option (DataW H × List MemPlace)} (h : tr enc w fuel 9 [v] = y) (hy : y.isSome = true) : ∃ s, v = .string s := by
  obtain ⟨y, rfl⟩ := Option.isSome_iff_exists.1 hy
  obtain ⟨s, h1, _, _⟩ := DataW.trod_string Tryz.underlying9 h
  exact ⟨s, by simpa using h1⟩
theorem isSome_at {α : Type} {xs : List α} {i n : Nat} (h : xs.length = n) (hi : i < n) : (xs[i]?).isSome = true := by
  rw [List.getElem?_eq_getElem (by omega)]
  rfl
theorem cells_op : Tryz.prog.cellsOf 48 = 6 := by kernel_rfl
set_option maxRecDepth 100000 in
theorem rd_op (fuel : Nat) (cs : List Value) (x : DataW H × List MemPlace) (h : tr enc w fuel 48 cs = some x) : ∃ o : OpD, kOp.K w o cs ∧ I64 o.i ∧ I64 o.t ∧ I64 o.a := by
  obtain ⟨xs, n, rfl, rfl, hl, hx, hf⟩ := DataW.trod_struct Tryz.underlying48 h
  rw [cells_op] at hl
  match cs, hl with
  | [c0, c1, c2, c3, c4, c5], _ =>
    have f0 : tr enc w n 3 (([c0, c1, c2, c3, c4, c5].drop 0).take (Tryz.prog.cellsOf 3)) = xs[0]? := hf 0 _ rfl
    have f1 : tr enc w n 3 (([c0, c1, c2, c3, c4, c5].drop 1).take (Tryz.prog.cellsOf 3)) = xs[1]? := hf 1 _ rfl
    have f2 : tr enc w n 3 (([c0, c1, c2, c3, c4, c5].drop 2).take (Tryz.prog.cellsOf 3)) = xs[2]? := hf 2 _ rfl
    have f3 : tr enc w n 3 (([c0, c1, c2, c3, c4, c5].drop 3).take (Tryz.prog.cellsOf 3)) = xs[3]? := hf 3 _ rfl
    have f4 : tr enc w n 9 (([c0, c1, c2, c3, c4, c5].drop 4).take (Tryz.prog.cellsOf 9)) = xs[4]? := hf 4 _ rfl
    have f5 : tr enc w n 9 (([c0, c1, c2, c3, c4, c5].drop 5).take (Tryz.prog.cellsOf 9)) = xs[5]? := hf 5 _ rfl
    simp only [cells_int, cells_str', List.drop_succ_cons, List.drop_zero, List.take_succ_cons, List.take_zero] at f0 f1 f2 f3 f4 f5
    obtain ⟨z0, rfl, _⟩ := rd_int f0 (isSome_at hx (by decide))
    obtain ⟨z1, rfl, w1⟩ := rd_int f1 (isSome_at hx (by decide))
    obtain ⟨z2, rfl, w2⟩ := rd_int f2 (isSome_at hx (by decide))
    obtain ⟨z3, rfl, w3⟩ := rd_int f3 (isSome_at hx (by decide))
    obtain ⟨z4, rfl⟩ := rd_str f4 (isSome_at hx (by decide))
    obtain ⟨z5, rfl⟩ := rd_str f5 (isSome_at hx (by decide))
    exact ⟨⟨z0, z1, z2, z3, z4, z5⟩, kOp.K_of_M (kOp_M w 0 (fun _ => True) ⟨z0, z1, z2, z3, z4, z5⟩), w1, w2, w3⟩
theorem sm_field {t : TypeId} {fs : Array Field} (ht : Tryz.prog.underlying t = some (.struct fs)) {xs : List (DataW H × List MemPlace)} (hs : Sm t (.agg (xs.map (·.1)))) {i : Nat} {f : Field} {y : DataW H × List MemPlace} (hf : fs[i]? = some f) (hy : xs[i]? = some y) : Sm f.type y.1 := by
  intro n hn
  refine hs n ?_
  simp only [DataW.weights, ht]
  exact DataW.weights_mem_each (j := i) (t := f.type) (d := y.1) (by rw [List.getElem?_map, Array.getElem?_toList, hf]; rfl) (by rw [List.getElem?_map, hy]; rfl) n hn
theorem cells_q : Tryz.prog.cellsOf 51 = 4 := by kernel_rfl
theorem cells_call : Tryz.prog.cellsOf 53 = 6 := by kernel_rfl
theorem cells_ops : Tryz.prog.cellsOf 49 = 1 := by kernel_rfl
theorem cells_calls : Tryz.prog.cellsOf 45 = 1 := by kernel_rfl
theorem cells_rows : Tryz.prog.cellsOf 25 = 1 := by kernel_rfl
theorem cells_u8s : Tryz.prog.cellsOf 26 = 1 := by kernel_rfl
theorem cells_u8 : Tryz.prog.cellsOf 5 = 1 := by kernel_rfl
theorem cells_lay : Tryz.prog.cellsOf 24 = 2 := by kernel_rfl
theorem cells_scr : Tryz.prog.cellsOf 28 = 6 := by kernel_rfl
set_option maxRecDepth 100000 in
theorem rd_q (fuel : Nat) (cs : List Value) (x : DataW H × List MemPlace) (h : tr enc w fuel 51 cs = some x) : ∃ q : QD, cs = [.int .i64 q.k, .int .i64 q.i, .int .i64 q.b, .string q.x] ∧ I64 q.k ∧ I64 q.i ∧ I64 q.b := by
  obtain ⟨xs, n, rfl, rfl, hl, hx, hf⟩ := DataW.trod_struct Tryz.underlying51 h
  rw [cells_q] at hl
  match cs, hl with
  | [c0, c1, c2, c3], _ =>
    have f0 : tr enc w n 3 (([c0, c1, c2, c3].drop 0).take (Tryz.prog.cellsOf 3)) = xs[0]? := hf 0 _ rfl
    have f1 : tr enc w n 3 (([c0, c1, c2, c3].drop 1).take (Tryz.prog.cellsOf 3)) = xs[1]? := hf 1 _ rfl
    have f2 : tr enc w n 3 (([c0, c1, c2, c3].drop 2).take (Tryz.prog.cellsOf 3)) = xs[2]? := hf 2 _ rfl
    have f3 : tr enc w n 9 (([c0, c1, c2, c3].drop 3).take (Tryz.prog.cellsOf 9)) = xs[3]? := hf 3 _ rfl
    simp only [cells_int, cells_str', List.drop_succ_cons, List.drop_zero, List.take_succ_cons, List.take_zero] at f0 f1 f2 f3
    obtain ⟨z0, rfl, w0⟩ := rd_int f0 (isSome_at hx (by decide))
    obtain ⟨z1, rfl, w1⟩ := rd_int f1 (isSome_at hx (by decide))
    obtain ⟨z2, rfl, w2⟩ := rd_int f2 (isSome_at hx (by decide))
    obtain ⟨z3, rfl⟩ := rd_str f3 (isSome_at hx (by decide))
    exact ⟨⟨z0, z1, z2, z3⟩, rfl, w0, w1, w2⟩
def CallW (c : CallD) : Prop := I64 c.q.k ∧ I64 c.q.i ∧ I64 c.q.b ∧ ∀ o ∈ c.ops, I64 o.i ∧ I64 o.t ∧ I64 o.a
set_option maxRecDepth 100000 in
theorem rd_call (fuel : Nat) (cs : List Value) (x : DataW H × List MemPlace) (h : tr enc w fuel 53 cs = some x) (hs : Sm 53 x.1) : ∃ c : CallD, (kCall 48).K w c cs ∧ CallW c := by
  obtain ⟨xs, n, rfl, rfl, hl, hx, hf⟩ := DataW.trod_struct Tryz.underlying53 h
  rw [cells_call] at hl
  match cs, hl with
  | [c0, c1, c2, c3, c4, c5], _ =>
    have f0 : tr enc w n 3 (([c0, c1, c2, c3, c4, c5].drop 0).take (Tryz.prog.cellsOf 3)) = xs[0]? := hf 0 _ rfl
    have f1 : tr enc w n 49 (([c0, c1, c2, c3, c4, c5].drop 1).take (Tryz.prog.cellsOf 49)) = xs[1]? := hf 1 _ rfl
    have f2 : tr enc w n 51 (([c0, c1, c2, c3, c4, c5].drop 2).take (Tryz.prog.cellsOf 51)) = xs[2]? := hf 2 _ rfl
    simp only [cells_int, cells_ops, cells_q, List.drop_succ_cons, List.drop_zero, List.take_succ_cons, List.take_zero] at f0 f1 f2
    obtain ⟨z0, rfl, _⟩ := rd_int f0 (isSome_at hx (by decide))
    obtain ⟨y1, hy1⟩ := Option.isSome_iff_exists.1 (isSome_at (i := 1) hx (by decide))
    obtain ⟨y2, hy2⟩ := Option.isSome_iff_exists.1 (isSome_at (i := 2) hx (by decide))
    obtain ⟨ops, ⟨A, cap, e1, h1, h2⟩, h3, _⟩ := rd_slice kOp Tryz.underlying49 cells_op (by decide +kernel) (fun o : OpD => I64 o.i ∧ I64 o.t ∧ I64 o.a) (fun fuel cs x h _ => rd_op fuel cs x h) (f1.trans hy1) (sm_field Tryz.underlying53 hs (i := 1) rfl hy1)
    obtain ⟨q, e2, g1, g2, g3⟩ := rd_q n _ _ (f2.trans hy2)
    obtain rfl : c1 = .slice A ops.length cap := by simpa using e1
    obtain ⟨rfl, rfl, rfl, rfl⟩ : c2 = .int .i64 q.k ∧ c3 = .int .i64 q.i ∧ c4 = .int .i64 q.b ∧ c5 = .string q.x := by simpa using e2
    refine ⟨⟨z0, ops, q⟩, ?_, g1, g2, g3, h3⟩
    exact ⟨[.int .i64 z0], [.slice A ops.length cap, .int .i64 q.k, .int .i64 q.i, .int .i64 q.b, .string q.x], rfl, rfl, ⟨[.slice A ops.length cap], [.int .i64 q.k, .int .i64 q.i, .int .i64 q.b, .string q.x], rfl, ⟨A, cap, rfl, h1, h2⟩, ⟨[.int .i64 q.k], [.int .i64 q.i, .int .i64 q.b, .string q.x], rfl, rfl, ⟨[.int .i64 q.i], [.int .i64 q.b, .string q.x], rfl, rfl, ⟨[.int .i64 q.b], [.string q.x], rfl, rfl, rfl⟩⟩⟩⟩⟩
set_option maxRecDepth 100000 in
theorem rd_script (fuel : Nat) (cs : List Value) (x : DataW H × List MemPlace) (h : tr enc w fuel 28 cs = some x) (hs : Sm 28 x.1) :
    ∃ (s : ScrD) (A1 A2 : Option Addr) (c1 c2 : Nat), cs = (scCells s.clients s.shift s.recs s.chunks (.slice A1 s.calls.length c1) (.slice A2 s.picks.length c2)).toList ∧ kRow.C w A1 s.calls.length s.calls ∧ (Kd.int .u8).C w A2 s.picks.length s.picks ∧ NumOk s ∧ ∀ row ∈ s.calls, row.length ≤ 281474976710656 := by
  obtain ⟨xs, n, rfl, rfl, hl, hx, hf⟩ := DataW.trod_struct Tryz.underlying28 h
  rw [cells_scr] at hl
  match cs, hl with
  | [c0, c1, c2, c3, c4, c5], _ =>
    have f0 : tr enc w n 24 (([c0, c1, c2, c3, c4, c5].drop 0).take (Tryz.prog.cellsOf 24)) = xs[0]? := hf 0 _ rfl
    have f1 : tr enc w n 3 (([c0, c1, c2, c3, c4, c5].drop 2).take (Tryz.prog.cellsOf 3)) = xs[1]? := hf 1 _ rfl
    have f2 : tr enc w n 3 (([c0, c1, c2, c3, c4, c5].drop 3).take (Tryz.prog.cellsOf 3)) = xs[2]? := hf 2 _ rfl
    have f3 : tr enc w n 25 (([c0, c1, c2, c3, c4, c5].drop 4).take (Tryz.prog.cellsOf 25)) = xs[3]? := hf 3 _ rfl
    have f4 : tr enc w n 26 (([c0, c1, c2, c3, c4, c5].drop 5).take (Tryz.prog.cellsOf 26)) = xs[4]? := hf 4 _ rfl
    simp only [cells_int, cells_lay, cells_rows, cells_u8s, List.drop_succ_cons, List.drop_zero, List.take_succ_cons, List.take_zero] at f0 f1 f2 f3 f4
    obtain ⟨y0, hy0⟩ := Option.isSome_iff_exists.1 (isSome_at (i := 0) hx (by decide))
    obtain ⟨y3, hy3⟩ := Option.isSome_iff_exists.1 (isSome_at (i := 3) hx (by decide))
    obtain ⟨y4, hy4⟩ := Option.isSome_iff_exists.1 (isSome_at (i := 4) hx (by decide))
    obtain ⟨us, m, rfl, e0, hl0, hx0, hf0⟩ := DataW.trod_struct Tryz.underlying24 (f0.trans hy0)
    have g0 : tr enc w m 3 (([c0, c1].drop 0).take (Tryz.prog.cellsOf 3)) = us[0]? := hf0 0 _ rfl
    have g1 : tr enc w m 3 (([c0, c1].drop 1).take (Tryz.prog.cellsOf 3)) = us[1]? := hf0 1 _ rfl
    simp only [cells_int, List.drop_succ_cons, List.drop_zero, List.take_succ_cons, List.take_zero] at g0 g1
    obtain ⟨z0, rfl, w0⟩ := rd_int g0 (isSome_at hx0 (by decide))
    obtain ⟨z1, rfl, w1⟩ := rd_int g1 (isSome_at hx0 (by decide))
    obtain ⟨z2, rfl, w2⟩ := rd_int f1 (isSome_at hx (by decide))
    obtain ⟨z3, rfl, w3⟩ := rd_int f2 (isSome_at hx (by decide))
    obtain ⟨rows, ⟨A1, k1, e1, _, h1⟩, h2, _⟩ := rd_slice kRow Tryz.underlying25 cells_calls (by decide +kernel) (fun row : List CallD => (∀ c ∈ row, CallW c) ∧ row.length ≤ 140737488351232)
      (fun fuel cs x h hs => by
        obtain ⟨row, k1, k2, k3⟩ := rd_slice (kCall 48) Tryz.underlying45 cells_call (by decide +kernel) CallW (fun fuel cs x h hs => rd_call fuel cs x h hs) h hs
        exact ⟨row, k1, k2, k3⟩) (f3.trans hy3) (sm_field Tryz.underlying28 hs (i := 3) rfl hy3)
    obtain ⟨ps, ⟨A2, k2, e2, _, h3⟩, h4, _⟩ := rd_slice (Kd.int .u8) Tryz.underlying26 cells_u8 (by decide +kernel) (fun z : Int => 0 ≤ z ∧ z ≤ 255)
      (fun fuel cs x h _ => by
        obtain ⟨z, k1, _, k2⟩ := DataW.trod_int Tryz.underlying5 h
        exact ⟨z, k1, u8_wf k2⟩) (f4.trans hy4) (sm_field Tryz.underlying28 hs (i := 4) rfl hy4)
    obtain rfl : c4 = .slice A1 rows.length k1 := by simpa using e1
    obtain rfl : c5 = .slice A2 ps.length k2 := by simpa using e2
    refine ⟨⟨z0, z1, z2, z3, rows, ps⟩, A1, A2, k1, k2, rfl, h1, h3, ⟨fun y hy => ?_, fun row hr c hc => (h2 row hr).1 c hc, h4⟩, fun row hr => Nat.le_trans (h2 row hr).2 (by decide)⟩
    simp only [List.mem_cons, List.not_mem_nil, or_false] at hy
    rcases hy with rfl | rfl | rfl | rfl
    · exact w0
    · exact w1
    · exact w2
    · exact w3
end
end Go.Proofs.YtjcdpccfhpbccaaGreatDoor
