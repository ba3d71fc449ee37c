/-
  The walk of the document's own Parse.
-/
import Derived.Test.YtjcdpccfhpbccaaGreatDoorR0
namespace Go.Proofs.YtjcdpccfhpbccaaGreatDoor
open Go.RowKit Go.Proofs.YtjcdpccfhpbccaaGreatDoorW.PrintWords

def sCells (a b c d : Int) (vc vp : Value) : Array Value := #[.int .i64 a, .int .i64 b, .int .i64 c, .int .i64 d, vc, vp]
def RPost (w : World) (res : Except Nat ScrD) (e : Ending) (w' : World) : Prop := Below w.heap.size w w' ∧ match res with
  | .error m => e = .returned (.tuple #[.agg scrZero, .int .i64 (m : Nat), .int .i64 210])
  | .ok s => ∃ vc vp, e = .returned (.tuple #[.agg (sCells s.clients s.shift s.recs s.chunks vc vp), .int .i64 0, .int .i64 0]) ∧ kRow2.R 69 w' w.heap.size (fun _ => True) vc s.calls ∧ (Kd.int .u8).R 5 w' w.heap.size (fun _ => True) vp s.picks
theorem rparse_results (tmps : Array Value) (w : World) (b : Nat) (cs : Array Value) (m r : Int) (t2 : tmps[2]? = some (.pointer (some ⟨b, 0, none⟩))) (t3 : tmps[3]? = some (.int .i64 m)) (t4 : tmps[4]? = some (.int .i64 r))
    (h0 : w.heap[b]? = some (.cells cs 35 (0, 0))) (hs : cs.size = 6) :
    (results Tryz.f7 tmps).run Tryz.prog w = .ok (.tuple #[.agg cs, .int .i64 m, .int .i64 r]) w := by
  match cs, hs, h0 with
  | ⟨[v0, v1, v2, v3, v4, v5]⟩, _, h0 =>
    have z0 := cell_blk h0 0 (v := v0) rfl
    have z1 := cell_blk h0 1 (v := v1) rfl
    have z2 := cell_blk h0 2 (v := v2) rfl
    have z3 := cell_blk h0 3 (v := v3) rfl
    have z4 := cell_blk h0 4 (v := v4) rfl
    have z5 := cell_blk h0 5 (v := v5) rfl
    simp [results, Tryz.results7, t2, t3, t4, asAddr, go_sem, z0, z1, z2, z3, z4, z5, Result.andThen]
theorem bad_at (n : Int) (m : Nat) (hm : (m : Int) = n) (w : World) : Calls Tryz.prog 20 #[.int .i64 n] w fun e w' => e = .returned (.tuple #[.agg #[.int .i64 0, .int .i64 0, .int .i64 0, .int .i64 0, .slice none 0 0, .slice none 0 0], .int .i64 n, .int .i64 210]) ∧ Below w.heap.size w w' := by
  subst hm
  exact bad_any m w
/-- The script on its way. -/
structure RSt (w0 W : World) (q : Nat) (a b c d : Int) (vc vp : Value) : Prop where
  bx : W.heap[q]? = some (.cells (sCells a b c d vc vp) 35 (0, 0))
  mu : Mut (· = q) w0 W
  lt : q < w0.heap.size
namespace RSt
variable {w0 W W1 : World} {q : Nat} {a b c d : Int} {vc vp : Value}
theorem further (h : RSt w0 W q a b c d vc vp) (hb : Below W.heap.size W W1) : RSt w0 W1 q a b c d vc vp :=
  ⟨(hb.block _ (lt_of_block h.bx)).trans h.bx, h.mu.then_below hb, h.lt⟩
theorem other (h : RSt w0 W q a b c d vc vp) {k : Nat} {o : Obj} (hk : w0.heap[k]? = some o) (hne : k ≠ q) : W.heap[k]? = some o := h.mu.blk hk hne
theorem below {w : World} (h : RSt w0 W q a b c d vc vp) (hb : Below w.heap.size w w0) (hq : w.heap.size ≤ q) : Below w.heap.size w W := hb.trans (h.mu.below hb.size (fun k hk => by omega))
end RSt
theorem int_cell {w : World} {k : IntKind} {A : Option Addr} {n : Nat} {xs : List Int} (h : (Kd.int k).C w A n xs) (i : Nat) (hi : i < n) {x : Int} (hx : xs[i]? = some x) :
    ∃ ad, A = some ad ∧ w.cell? (ad.add i) = some (.int k x) := by
  obtain ⟨ad, h1, h2⟩ := Kd.at_int h i (by omega) (by omega)
  refine ⟨ad, h1, ?_⟩
  have h3 : rd xs i = x := by
    unfold rd
    rw [Int.toNat_natCast, List.getD_eq_getElem?_getD, hx]
    rfl
  rwa [h3, Int.toNat_natCast] at h2
theorem int_row {w : World} {base : Nat} {k : IntKind} {e : Nat} {v : Value} {xs : List Int} (h : (Kd.int k).R e w base (fun _ => True) v xs) {i : Nat} {x : Int} (hx : xs[i]? = some x) :
    ∃ g cap, v = .slice (some ⟨g, 0, none⟩) xs.length cap ∧ base ≤ g ∧ ∀ (i : Nat) (x : Int), xs[i]? = some x → w.cell? ⟨g, i, none⟩ = some (.int k x) := by
  have hlt := (List.getElem?_eq_some_iff.1 hx).1
  obtain ⟨g, cap, rfl, hb, _, _⟩ := Kd.R_form h (by omega)
  refine ⟨g, cap, rfl, hb, fun i x hx => ?_⟩
  obtain ⟨ad, h1, h2⟩ := int_cell (Kd.R_reads' h).2.2 i (List.getElem?_eq_some_iff.1 hx).1 hx
  obtain rfl : (⟨g, 0, none⟩ : Addr) = ad := by simpa using h1
  by_cases h0 : i = 0
  · subst h0; exact h2
  · simpa [Addr.add, h0] using h2
theorem wrap_u8 {k : Int} (h0 : 0 ≤ k) (h1 : k ≤ 255) : IntKind.u8.wrap k = k := by
  simp [IntKind.wrap, IntKind.bits, IntKind.signed]
  omega
namespace RSt
variable {w0 W W1 : World} {q : Nat} {a b c d : Int} {vc vp u : Value}
theorem mid (h : RSt w0 W q a b c d vc vp) (hg : W.grownBy W1 u.ownBlock) (hu : ∀ k, u.ownBlock = some k → w0.heap.size ≤ k) : W1.heap[q]? = some (.cells (sCells a b c d vc vp) 35 (0, 0)) ∧ Mut (· = q) w0 W1 := by
  have hm : Mut (fun k => some k = u.ownBlock) W W1 := ⟨hg.os, hg.tape, hg.output, hg.size, fun k hk hn => hg.block k hk hn⟩
  exact ⟨hm.blk h.bx (fun he => by have := hu _ he.symm; have := h.lt; omega), h.mu.trans hm (fun i hi => .inr (hu _ hi.symm))⟩
theorem putC (h : RSt w0 W q a b c d vc vp) (hg : W.grownBy W1 u.ownBlock) (hu : ∀ k, u.ownBlock = some k → w0.heap.size ≤ k) (v1 : Value) : RSt w0 (W1.setCell ⟨q, 4, none⟩ v1) q a b c d v1 vp :=
  ⟨set_blk (h.mid hg hu).1 4 v1, (h.mid hg hu).2.set1 4 v1, h.lt⟩
theorem putP (h : RSt w0 W q a b c d vc vp) (hg : W.grownBy W1 u.ownBlock) (hu : ∀ k, u.ownBlock = some k → w0.heap.size ≤ k) (v1 : Value) : RSt w0 (W1.setCell ⟨q, 5, none⟩ v1) q a b c d vc v1 :=
  ⟨set_blk (h.mid hg hu).1 5 v1, (h.mid hg hu).2.set1 5 v1, h.lt⟩
theorem drew (h : RSt w0 W q a b c d vc vp) : RSt w0 W.drew q a b c d vc vp := ⟨h.bx, h.mu.drew, h.lt⟩
end RSt
/-- A row whose blocks lie behind q, when only q is written. -/
theorem R_q {α : Type} {dd : Kd α} {e base q : Nat} {w W : World} {v : Value} {xs : List α} (h : dd.R e w base (fun _ => True) v xs) (hq : q < base) (hm : Mut (· = q) w W) : dd.R e W base (fun _ => True) v xs :=
  R_mono_true (R_mut (Kd.R_bound h) hm (fun k hk he => by have := hk.2.1; omega))
theorem drop_at {L : List (List UInt8)} {i : Nat} {x : List UInt8} (h : L[i]? = some x) : L.drop i = x :: L.drop (i + 1) := by
  obtain ⟨h1, h2⟩ := List.getElem?_eq_some_iff.1 h
  rw [List.drop_eq_getElem_cons h1, h2]
set_option maxRecDepth 100000 in
set_option maxHeartbeats 16000000 in
theorem rparse_any (s : ByteArray) (hs : s.size ≤ 4294967280) (res : Except Nat ScrD) (hres : pParse (pieces (bl s)) = res) (w : World) :
    Calls Tryz.prog 7 #[.string s] w (RPost w res) := by
  have HS := Lib.hid hs
  have HRES := Lib.hid hres
  clear hs hres
  go_enter Tryz.func7, Tryz.ntmps7
  go_wp2_with fail
  generalize hW : World.alloc _ _ = w1
  obtain ⟨b, hb⟩ : ∃ b, w.heap.size = b := ⟨_, rfl⟩
  have hR1 : w1.heap[b]? = some (.cells scrZero 35 (0, 0)) := by rw [← hW, ← hb]; exact alloc_new _ _
  have hB1 : Below w.heap.size w w1 := by rw [← hW]; exact (Below.refl _ _).alloc (Nat.le_refl _) _
  have HBB := Lib.hid hb
  rw [hb]
  refine (rlines_any s HS.out w1).mono ?_
  rintro e w2 ⟨v1, outs, rfl, hr1, ho, hb2⟩
  obtain ⟨A1, k1, rfl⟩ := Kd.R_slice hr1
  obtain ⟨fl, hfl⟩ : ∃ fl : Bool, decide ((pieces (bl s)).getLast? = some [] ∧ bl s ≠ []) = fl := ⟨_, rfl⟩
  rw [hfl]
  have HFL := Lib.hid hfl
  have HC2 := Lib.hid (Kd.R_reads' hr1).2.2
  have HR2 := Lib.hid ((hb2.block _ (lt_of_block hR1)).trans hR1)
  have HB2 := Lib.hid (hB1.trans (hb2.mono hB1.size))
  have HLS := Lib.hid ho
  have HSZ := Lib.hid (show ∀ o ∈ outs, o.size ≤ 4294967280 from fun o ho2 => by
    have h1 : bl o ∈ pieces (bl s) := List.dropLast_subset _ (by rw [← ho]; exact List.mem_map_of_mem ho2)
    have h2 := pieces_len _ _ h1
    rw [← size_bl, ← size_bl] at h2
    have := HS.out
    omega)
  obtain ⟨N, hN⟩ : ∃ N, outs.length = N := ⟨_, rfl⟩
  have HN := Lib.hid hN
  have HNN := Lib.hid (show N ≤ 4294967280 by
    have h1 := pieces_count (bl s)
    have h2 : (outs.map bl).length = (pieces (bl s)).length - 1 := by rw [ho, List.length_dropLast]
    rw [List.length_map] at h2
    have := HS.out
    rw [size_bl] at this
    omega)
  have HNP := Lib.hid (show (pieces (bl s)).length - 1 = N by rw [← hN, ← List.length_map (f := bl), ho, List.length_dropLast])
  have hC := HC2.out
  rw [hN] at hC ⊢
  have HC := Lib.hid hC
  clear hW hb hR1 hB1 hr1 hb2 ho hN hC hfl
  go_upto_region 3 with (fail)
  generalize hW3 : World.alloc w2 _ = w3
  obtain ⟨q, hq⟩ : ∃ q, w2.heap.size = q := ⟨_, rfl⟩
  have HQ3 := Lib.hid (show RSt w3 w3 q 0 0 0 0 (.slice none 0 0) (.slice none 0 0) from ⟨by rw [← hW3, ← hq]; exact alloc_new _ _, Mut.refl _ _, by rw [← hW3, ← hq]; simp⟩)
  have HB23 := Lib.hid (show Below w2.heap.size w2 w3 by rw [← hW3]; exact (Below.refl _ _).alloc (Nat.le_refl _) _)
  have HQQ := Lib.hid hq
  have HBQ := Lib.hid (show b < q by rw [← hq]; exact lt_of_block HR2.out)
  have HR3 := Lib.hid ((HB23.out.block _ (lt_of_block HR2.out)).trans HR2.out)
  have HB3 := Lib.hid (HB2.out.trans (HB23.out.mono HB2.out.size))
  -- the cells of the lines, where only q has been written since w3
  have HLN := Lib.hid (show ∀ (i : Nat) (x : ByteArray), outs[i]? = some x → ∃ ad, A1 = some ad ∧ ∀ W, Below w2.heap.size w2 W → W.cell? (ad.add i) = some (.string x) from fun i x hx => str_cell HC.out i (by have := (List.getElem?_eq_some_iff.1 hx).1; have := HN.out; omega) hx)
  rw [hq]
  clear hW3 hq
  by_cases hN0 : N = 0
  · have hnil : outs = [] := List.length_eq_zero_iff.1 (by have := HN.out; omega)
    have HERR := Lib.hid (show res = .error 0 by rw [← HRES.out]; exact parse_error (by rw [← HLS.out, hnil]; rfl))
    subst hN0
    clear hnil
    go_wp2_with fail
    refine (bad_at 0 0 rfl _).mono ?_
    rintro e wz ⟨rfl, hbz⟩
    have HRz := Lib.hid ((hbz.block _ (lt_of_block HR3.out)).trans HR3.out)
    have HBz := Lib.hid (HB3.out.trans (hbz.mono HB3.out.size))
    clear hbz
    have v0 := cell_blk HRz.out 0 (v := .int .i64 0) rfl
    have g0 := froz_blk HRz.out 0
    have v1 := cell_blk HRz.out 1 (v := .int .i64 0) rfl
    have g1 := froz_blk HRz.out 1
    have v2 := cell_blk HRz.out 2 (v := .int .i64 0) rfl
    have g2 := froz_blk HRz.out 2
    have v3 := cell_blk HRz.out 3 (v := .int .i64 0) rfl
    have g3 := froz_blk HRz.out 3
    have v4 := cell_blk HRz.out 4 (v := .slice none 0 0) rfl
    have g4 := froz_blk HRz.out 4
    have v5 := cell_blk HRz.out 5 (v := .slice none 0 0) rfl
    have g5 := froz_blk HRz.out 5
    go_wp2_with fail
    obtain ⟨s1, s2⟩ := six_set HRz.out (.int .i64 0) (.int .i64 0) (.int .i64 0) (.int .i64 0) (.slice none 0 0) (.slice none 0 0)
    refine bodyPost_ret (v := .tuple #[.agg scrZero, .int .i64 0, .int .i64 210]) (rparse_results _ _ b scrZero _ _ rfl rfl rfl s1 rfl) rfl ?_
    have hbe : Below w.heap.size w _ := HBz.out.trans (s2.below HBz.out.size (fun k hk => by have := HBB.out; omega))
    refine ⟨hbe, ?_⟩
    first | (rw [HERR.out]; done) | (rw [HERR.out]; rfl)
  have hn0 : ((N : Int) == 0) = false := beq_eq_false_iff_ne.2 (by omega)
  have hn1 : ¬ (N : Int) = 0 := by omega
  have hn2 : (0 : Int) < (N : Int) := by omega
  obtain ⟨o0, rest, rfl⟩ : ∃ o0 rest, outs = o0 :: rest := by
    cases outs with
    | nil => exact absurd HN.out.symm (by simpa using hN0)
    | cons a r => exact ⟨a, r, rfl⟩
  obtain ⟨ad, rfl, hx0⟩ := HLN.out 0 o0 rfl
  have x0 := hx0 _ HB23.out
  rw [show ad.add 0 = ad by simp [Addr.add]] at x0
  obtain ⟨y0, ws0, hw0⟩ := words_ne (bl o0)
  have HW0 := Lib.hid hw0
  have hz0 := HSZ.out o0 (by simp)
  have HNUM := Lib.hid (rnumbers_any o0 ⟨#[119, 111, 114, 108, 100]⟩ hz0 y0 ws0 hw0 (decide (y0 = kWorld)) rfl w3)
  have HSC := Lib.hid (show pScript ((o0 :: rest).map bl) = pScript (bl o0 :: rest.map bl) from rfl)
  clear hN0 hx0 hw0 hz0
  go_wp2_with fail
  refine HNUM.out.mono ?_
  intro e w4 h4
  clear HNUM x0
  obtain ⟨hd, hhd⟩ : ∃ hd : Bool, decide (y0 = kWorld) = hd := ⟨_, rfl⟩
  rw [hhd] at h4
  have HHD := Lib.hid hhd
  clear hhd
  cases ha : aNums ws0 with
  | none =>
    rw [ha] at h4
    obtain ⟨rfl, hb4⟩ := h4
    have HB4 := Lib.hid (HB3.out.trans (hb4.mono HB3.out.size))
    have HR4 := Lib.hid ((hb4.block _ (lt_of_block HR3.out)).trans HR3.out)
    have HERR := Lib.hid (show res = .error 0 by
      rw [← HRES.out]
      refine parse_error ?_
      rw [← HLS.out]
      exact script_nohead (by rw [HW0.out, head_law, ha]))
    clear hb4 ha
    go_wp2_with fail
    refine (bad_at 0 0 rfl _).mono ?_
    rintro e wz ⟨rfl, hbz⟩
    have HRz := Lib.hid ((hbz.block _ (lt_of_block HR4.out)).trans HR4.out)
    have HBz := Lib.hid (HB4.out.trans (hbz.mono HB4.out.size))
    clear hbz
    have v0 := cell_blk HRz.out 0 (v := .int .i64 0) rfl
    have g0 := froz_blk HRz.out 0
    have v1 := cell_blk HRz.out 1 (v := .int .i64 0) rfl
    have g1 := froz_blk HRz.out 1
    have v2 := cell_blk HRz.out 2 (v := .int .i64 0) rfl
    have g2 := froz_blk HRz.out 2
    have v3 := cell_blk HRz.out 3 (v := .int .i64 0) rfl
    have g3 := froz_blk HRz.out 3
    have v4 := cell_blk HRz.out 4 (v := .slice none 0 0) rfl
    have g4 := froz_blk HRz.out 4
    have v5 := cell_blk HRz.out 5 (v := .slice none 0 0) rfl
    have g5 := froz_blk HRz.out 5
    go_wp2_with fail
    obtain ⟨s1, s2⟩ := six_set HRz.out (.int .i64 0) (.int .i64 0) (.int .i64 0) (.int .i64 0) (.slice none 0 0) (.slice none 0 0)
    refine bodyPost_ret (v := .tuple #[.agg scrZero, .int .i64 0, .int .i64 210]) (rparse_results _ _ b scrZero _ _ rfl rfl rfl s1 rfl) rfl ?_
    have hbe : Below w.heap.size w _ := HBz.out.trans (s2.below HBz.out.size (fun k hk => by have := HBB.out; omega))
    refine ⟨hbe, ?_⟩
    first | (rw [HERR.out]; done) | (rw [HERR.out]; rfl)
  | some l =>
    rw [ha] at h4
    obtain ⟨v4, rfl, hr4, hb4⟩ := h4
    have HA := Lib.hid ha
    have HB4 := Lib.hid (HB3.out.trans (hb4.mono HB3.out.size))
    have HB34 := Lib.hid hb4
    have HR4 := Lib.hid ((hb4.block _ (lt_of_block HR3.out)).trans HR3.out)
    have HQ4 := Lib.hid (HQ3.out.further hb4)
    have HL4 := Lib.hid hr4
    clear hb4 ha
    obtain ⟨A4, k4, rfl⟩ := Kd.R_slice hr4
    obtain ⟨n4, hn4⟩ : ∃ n4, l.length = n4 := ⟨_, rfl⟩
    have HN4 := Lib.hid hn4
    rw [hn4]
    clear hr4 hn4
    by_cases hok : hd = true ∧ n4 = 4
    rotate_left
    · have HERR := Lib.hid (show res = .error 0 by
        rw [← HRES.out]
        refine parse_error ?_
        rw [← HLS.out]
        refine script_nohead ?_
        rw [HW0.out, head_law, HA.out]
        match l, HN4.out with
        | [a, b, c, d], h =>
          have h1 : hd = false := by
            cases hd with
            | false => rfl
            | true => exact absurd ⟨rfl, h.symm⟩ hok
          have h2 := HHD.out
          rw [h1] at h2
          simp only [headOk, h2, Bool.false_and, Bool.false_eq_true, if_false]
        | [], _ => rfl
        | [_], _ => rfl
        | [_, _], _ => rfl
        | [_, _, _], _ => rfl
        | _ :: _ :: _ :: _ :: _ :: _, _ => rfl)
      cases hd with
      | false =>
        clear hok
        go_wp2_with fail
        refine (bad_at 0 0 rfl _).mono ?_
        rintro e wz ⟨rfl, hbz⟩
        have HRz := Lib.hid ((hbz.block _ (lt_of_block HR4.out)).trans HR4.out)
        have HBz := Lib.hid (HB4.out.trans (hbz.mono HB4.out.size))
        clear hbz
        have v0 := cell_blk HRz.out 0 (v := .int .i64 0) rfl
        have g0 := froz_blk HRz.out 0
        have v1 := cell_blk HRz.out 1 (v := .int .i64 0) rfl
        have g1 := froz_blk HRz.out 1
        have v2 := cell_blk HRz.out 2 (v := .int .i64 0) rfl
        have g2 := froz_blk HRz.out 2
        have v3 := cell_blk HRz.out 3 (v := .int .i64 0) rfl
        have g3 := froz_blk HRz.out 3
        have v4 := cell_blk HRz.out 4 (v := .slice none 0 0) rfl
        have g4 := froz_blk HRz.out 4
        have v5 := cell_blk HRz.out 5 (v := .slice none 0 0) rfl
        have g5 := froz_blk HRz.out 5
        go_wp2_with fail
        obtain ⟨s1, s2⟩ := six_set HRz.out (.int .i64 0) (.int .i64 0) (.int .i64 0) (.int .i64 0) (.slice none 0 0) (.slice none 0 0)
        refine bodyPost_ret (v := .tuple #[.agg scrZero, .int .i64 0, .int .i64 210]) (rparse_results _ _ b scrZero _ _ rfl rfl rfl s1 rfl) rfl ?_
        have hbe : Below w.heap.size w _ := HBz.out.trans (s2.below HBz.out.size (fun k hk => by have := HBB.out; omega))
        refine ⟨hbe, ?_⟩
        first | (rw [HERR.out]; done) | (rw [HERR.out]; rfl)
      | true =>
        have hn5 : ((n4 : Int) == 4) = false := beq_eq_false_iff_ne.2 (by intro h; exact hok ⟨rfl, by omega⟩)
        have hn6 : ¬ (n4 : Int) = 4 := by intro h; exact hok ⟨rfl, by omega⟩
        clear hok
        go_wp2_with fail
        refine (bad_at 0 0 rfl _).mono ?_
        rintro e wz ⟨rfl, hbz⟩
        have HRz := Lib.hid ((hbz.block _ (lt_of_block HR4.out)).trans HR4.out)
        have HBz := Lib.hid (HB4.out.trans (hbz.mono HB4.out.size))
        clear hbz
        have v0 := cell_blk HRz.out 0 (v := .int .i64 0) rfl
        have g0 := froz_blk HRz.out 0
        have v1 := cell_blk HRz.out 1 (v := .int .i64 0) rfl
        have g1 := froz_blk HRz.out 1
        have v2 := cell_blk HRz.out 2 (v := .int .i64 0) rfl
        have g2 := froz_blk HRz.out 2
        have v3 := cell_blk HRz.out 3 (v := .int .i64 0) rfl
        have g3 := froz_blk HRz.out 3
        have v4 := cell_blk HRz.out 4 (v := .slice none 0 0) rfl
        have g4 := froz_blk HRz.out 4
        have v5 := cell_blk HRz.out 5 (v := .slice none 0 0) rfl
        have g5 := froz_blk HRz.out 5
        go_wp2_with fail
        obtain ⟨s1, s2⟩ := six_set HRz.out (.int .i64 0) (.int .i64 0) (.int .i64 0) (.int .i64 0) (.slice none 0 0) (.slice none 0 0)
        refine bodyPost_ret (v := .tuple #[.agg scrZero, .int .i64 0, .int .i64 210]) (rparse_results _ _ b scrZero _ _ rfl rfl rfl s1 rfl) rfl ?_
        have hbe : Below w.heap.size w _ := HBz.out.trans (s2.below HBz.out.size (fun k hk => by have := HBB.out; omega))
        refine ⟨hbe, ?_⟩
        first | (rw [HERR.out]; done) | (rw [HERR.out]; rfl)
    obtain ⟨rfl, rfl⟩ := hok
    obtain ⟨a, b', c, d, rfl⟩ : ∃ a b' c d, l = [a, b', c, d] := by
      match l, HN4.out with
      | [a, b, c, d], _ => exact ⟨a, b, c, d, rfl⟩
    have HYW := Lib.hid (show y0 = kWorld from of_decide_eq_true HHD.out)
    obtain ⟨hg, hcap, hve, hgb, hcl⟩ := int_row HL4.out (i := 0) (x := a) rfl
    simp only [Value.slice.injEq] at hve
    obtain ⟨rfl, _, rfl⟩ := hve
    have HGQ := Lib.hid (show q ≠ hg by have := HQ3.out.lt; omega)
    have HCL := Lib.hid (show ∀ W, Mut (· = q) w4 W → W.cell? ⟨hg, 0, none⟩ = some (.int .i64 a) ∧ W.cell? ⟨hg, 1, none⟩ = some (.int .i64 b') ∧ W.cell? ⟨hg, 2, none⟩ = some (.int .i64 c) ∧ W.cell? ⟨hg, 3, none⟩ = some (.int .i64 d) from fun W hm =>
      ⟨hm.cell (hcl 0 a rfl) (Ne.symm HGQ.out), hm.cell (hcl 1 b' rfl) (Ne.symm HGQ.out), hm.cell (hcl 2 c rfl) (Ne.symm HGQ.out), hm.cell (hcl 3 d rfl) (Ne.symm HGQ.out)⟩)
    clear hgb hcl
    have hS1 := HCL.out _ (Mut.refl _ w4)
    have hS2 := fun u0 u1 => HCL.out _ (((Mut.refl (· = q) w4).set1 0 u0).set1 1 u1)
    have z0 := cell_blk HQ4.out.bx 0 (v := .int .i64 0) rfl
    have z1 := cell_blk HQ4.out.bx 1 (v := .int .i64 0) rfl
    have f0 := froz_blk HQ4.out.bx 0
    have f1 := froz_blk HQ4.out.bx 1
    go_upto_region 8 with (fail)
    -- REGION8
    apply Holds.via
    case h =>
      intro KEY
      go_region_held3 (fun w' => w'.cell? ⟨hg, 0, none⟩ = some (.int .i64 a) ∧ w'.cell? ⟨hg, 1, none⟩ = some (.int .i64 b') ∧ w'.cell? ⟨hg, 2, none⟩ = some (.int .i64 c) ∧ w'.cell? ⟨hg, 3, none⟩ = some (.int .i64 d))
        (first | with_reducible exact hS1 | with_reducible assumption | with_reducible exact hS2 _ _ | exact hS1 | exact hS2 _ _) (fail)
      all_goals exact KEY.out
    -- BEHIND8
    generalize hW5 : World.drew _ = w5
    have hM5 : Mut (· = q) w4 w5 := by rw [← hW5]; exact (((Mut.refl (· = q) w4).set1 0 _).set1 1 _).drew
    have HQ5 := Lib.hid (show w5.heap[q]? = some (.cells (sCells a b' 0 0 (.slice none 0 0) (.slice none 0 0)) 35 (0, 0)) by rw [← hW5]; exact set_blk (set_blk HQ4.out.bx 0 _) 1 _)
    have HM5 := Lib.hid hM5
    clear hW5 hM5 hS1 hS2 z0 z1 f0 f1
    obtain ⟨_, _, x2, _⟩ := HCL.out _ HM5.out
    have x3 := fun u => (HCL.out _ (HM5.out.set1 2 u)).2.2.2
    have z2 := cell_blk HQ5.out 2 (v := .int .i64 0) rfl
    have f2 := froz_blk HQ5.out 2
    have z3 := cell_blk HQ5.out 3 (v := .int .i64 0) rfl
    have f3 := froz_blk HQ5.out 3
    go_upto_region 11 with (fail)
    generalize hW6 : World.setCell (World.setCell _ _ _) _ _ = w6
    have hM6 : Mut (· = q) w4 w6 := by rw [← hW6]; exact ((HM5.out.set1 2 _).set1 3 _)
    have HQ6 := Lib.hid (show w6.heap[q]? = some (.cells (sCells a b' c d (.slice none 0 0) (.slice none 0 0)) 35 (0, 0)) by rw [← hW6]; exact set_blk (set_blk HQ5.out 2 _) 3 _)
    have HB46 := Lib.hid (show Mut (· = q) w3 w6 from HQ4.out.mu.trans hM6 (fun i h => .inl h))
    have HR6 := Lib.hid (hM6.blk HR4.out (by have := HBQ.out; omega))
    have HB36 := Lib.hid (show Below w2.heap.size w2 w6 from HB23.out.trans (HB46.out.below HB23.out.size (fun k hk => by have := HQQ.out; omega)))
    have HB6 := Lib.hid (HB2.out.trans (HB36.out.mono HB2.out.size))
    clear hW6 hM6 x2 x3 z2 f2 z3 f3
    have z0 := cell_blk HQ6.out 0 (v := .int .i64 a) rfl
    have z1 := cell_blk HQ6.out 1 (v := .int .i64 b') rfl
    go_wp2_with fail
    refine (may15_any a b' w6).mono ?_
    rintro e w7 ⟨rfl, hb7⟩
    have HQ7 := Lib.hid ((hb7.block _ (lt_of_block HQ6.out)).trans HQ6.out)
    have HR7 := Lib.hid ((hb7.block _ (lt_of_block HR6.out)).trans HR6.out)
    have HB7 := Lib.hid (HB6.out.trans (hb7.mono HB6.out.size))
    have HB37 := Lib.hid (HB36.out.trans (hb7.mono HB36.out.size))
    have HM7 := Lib.hid (show Mut (· = q) w3 w7 from HB46.out.then_below hb7)
    clear hb7 z0 z1
    have z2 := cell_blk HQ7.out 2 (v := .int .i64 c) rfl
    have z3 := cell_blk HQ7.out 3 (v := .int .i64 d) rfl
    have HHL := Lib.hid (show pHead (Scr.words (bl o0)) = if headOk y0 a b' c d then some (a, b', c, d) else none by rw [HW0.out, head_law, HA.out])
    have HNO := Lib.hid (show headOk y0 a b' c d = false → res = .error 0 from fun h => by
      rw [← HRES.out]
      refine parse_error ?_
      rw [← HLS.out]
      exact script_nohead (by rw [HHL.out, h]; rfl))
    cases hm : mayL a b' with
    | false =>
      have HERR := Lib.hid (HNO.out (by simp only [headOk, hm, Bool.and_false, Bool.false_and]))
      clear hm
      go_wp2_with fail
      refine (bad_at 0 0 rfl _).mono ?_
      rintro e wz ⟨rfl, hbz⟩
      have HRz := Lib.hid ((hbz.block _ (lt_of_block HR7.out)).trans HR7.out)
      have HBz := Lib.hid (HB7.out.trans (hbz.mono HB7.out.size))
      clear hbz
      have v0 := cell_blk HRz.out 0 (v := .int .i64 0) rfl
      have g0 := froz_blk HRz.out 0
      have v1 := cell_blk HRz.out 1 (v := .int .i64 0) rfl
      have g1 := froz_blk HRz.out 1
      have v2 := cell_blk HRz.out 2 (v := .int .i64 0) rfl
      have g2 := froz_blk HRz.out 2
      have v3 := cell_blk HRz.out 3 (v := .int .i64 0) rfl
      have g3 := froz_blk HRz.out 3
      have v4 := cell_blk HRz.out 4 (v := .slice none 0 0) rfl
      have g4 := froz_blk HRz.out 4
      have v5 := cell_blk HRz.out 5 (v := .slice none 0 0) rfl
      have g5 := froz_blk HRz.out 5
      go_wp2_with fail
      obtain ⟨s1, s2⟩ := six_set HRz.out (.int .i64 0) (.int .i64 0) (.int .i64 0) (.int .i64 0) (.slice none 0 0) (.slice none 0 0)
      refine bodyPost_ret (v := .tuple #[.agg scrZero, .int .i64 0, .int .i64 210]) (rparse_results _ _ b scrZero _ _ rfl rfl rfl s1 rfl) rfl ?_
      have hbe : Below w.heap.size w _ := HBz.out.trans (s2.below HBz.out.size (fun k hk => by have := HBB.out; omega))
      refine ⟨hbe, ?_⟩
      first | (rw [HERR.out]; done) | (rw [HERR.out]; rfl)
    | true =>
    by_cases hc0 : c < 0
    · have HERR := Lib.hid (HNO.out (by simp only [headOk, show decide (0 ≤ c) = false from decide_eq_false (by omega), Bool.and_false, Bool.false_and]))
      clear hm
      go_wp2_with fail
      refine (bad_at 0 0 rfl _).mono ?_
      rintro e wz ⟨rfl, hbz⟩
      have HRz := Lib.hid ((hbz.block _ (lt_of_block HR7.out)).trans HR7.out)
      have HBz := Lib.hid (HB7.out.trans (hbz.mono HB7.out.size))
      clear hbz
      have v0 := cell_blk HRz.out 0 (v := .int .i64 0) rfl
      have g0 := froz_blk HRz.out 0
      have v1 := cell_blk HRz.out 1 (v := .int .i64 0) rfl
      have g1 := froz_blk HRz.out 1
      have v2 := cell_blk HRz.out 2 (v := .int .i64 0) rfl
      have g2 := froz_blk HRz.out 2
      have v3 := cell_blk HRz.out 3 (v := .int .i64 0) rfl
      have g3 := froz_blk HRz.out 3
      have v4 := cell_blk HRz.out 4 (v := .slice none 0 0) rfl
      have g4 := froz_blk HRz.out 4
      have v5 := cell_blk HRz.out 5 (v := .slice none 0 0) rfl
      have g5 := froz_blk HRz.out 5
      go_wp2_with fail
      obtain ⟨s1, s2⟩ := six_set HRz.out (.int .i64 0) (.int .i64 0) (.int .i64 0) (.int .i64 0) (.slice none 0 0) (.slice none 0 0)
      refine bodyPost_ret (v := .tuple #[.agg scrZero, .int .i64 0, .int .i64 210]) (rparse_results _ _ b scrZero _ _ rfl rfl rfl s1 rfl) rfl ?_
      have hbe : Below w.heap.size w _ := HBz.out.trans (s2.below HBz.out.size (fun k hk => by have := HBB.out; omega))
      refine ⟨hbe, ?_⟩
      first | (rw [HERR.out]; done) | (rw [HERR.out]; rfl)
    by_cases hc1 : 500 < c
    · have HERR := Lib.hid (HNO.out (by simp only [headOk, show decide (c ≤ 500) = false from decide_eq_false (by omega), Bool.and_false, Bool.false_and]))
      clear hm
      go_wp2_with fail
      refine (bad_at 0 0 rfl _).mono ?_
      rintro e wz ⟨rfl, hbz⟩
      have HRz := Lib.hid ((hbz.block _ (lt_of_block HR7.out)).trans HR7.out)
      have HBz := Lib.hid (HB7.out.trans (hbz.mono HB7.out.size))
      clear hbz
      have v0 := cell_blk HRz.out 0 (v := .int .i64 0) rfl
      have g0 := froz_blk HRz.out 0
      have v1 := cell_blk HRz.out 1 (v := .int .i64 0) rfl
      have g1 := froz_blk HRz.out 1
      have v2 := cell_blk HRz.out 2 (v := .int .i64 0) rfl
      have g2 := froz_blk HRz.out 2
      have v3 := cell_blk HRz.out 3 (v := .int .i64 0) rfl
      have g3 := froz_blk HRz.out 3
      have v4 := cell_blk HRz.out 4 (v := .slice none 0 0) rfl
      have g4 := froz_blk HRz.out 4
      have v5 := cell_blk HRz.out 5 (v := .slice none 0 0) rfl
      have g5 := froz_blk HRz.out 5
      go_wp2_with fail
      obtain ⟨s1, s2⟩ := six_set HRz.out (.int .i64 0) (.int .i64 0) (.int .i64 0) (.int .i64 0) (.slice none 0 0) (.slice none 0 0)
      refine bodyPost_ret (v := .tuple #[.agg scrZero, .int .i64 0, .int .i64 210]) (rparse_results _ _ b scrZero _ _ rfl rfl rfl s1 rfl) rfl ?_
      have hbe : Below w.heap.size w _ := HBz.out.trans (s2.below HBz.out.size (fun k hk => by have := HBB.out; omega))
      refine ⟨hbe, ?_⟩
      first | (rw [HERR.out]; done) | (rw [HERR.out]; rfl)
    by_cases hd0 : d < 0
    · have HERR := Lib.hid (HNO.out (by simp only [headOk, show decide (0 ≤ d) = false from decide_eq_false (by omega), Bool.and_false, Bool.false_and]))
      clear hm
      go_wp2_with fail
      refine (bad_at 0 0 rfl _).mono ?_
      rintro e wz ⟨rfl, hbz⟩
      have HRz := Lib.hid ((hbz.block _ (lt_of_block HR7.out)).trans HR7.out)
      have HBz := Lib.hid (HB7.out.trans (hbz.mono HB7.out.size))
      clear hbz
      have v0 := cell_blk HRz.out 0 (v := .int .i64 0) rfl
      have g0 := froz_blk HRz.out 0
      have v1 := cell_blk HRz.out 1 (v := .int .i64 0) rfl
      have g1 := froz_blk HRz.out 1
      have v2 := cell_blk HRz.out 2 (v := .int .i64 0) rfl
      have g2 := froz_blk HRz.out 2
      have v3 := cell_blk HRz.out 3 (v := .int .i64 0) rfl
      have g3 := froz_blk HRz.out 3
      have v4 := cell_blk HRz.out 4 (v := .slice none 0 0) rfl
      have g4 := froz_blk HRz.out 4
      have v5 := cell_blk HRz.out 5 (v := .slice none 0 0) rfl
      have g5 := froz_blk HRz.out 5
      go_wp2_with fail
      obtain ⟨s1, s2⟩ := six_set HRz.out (.int .i64 0) (.int .i64 0) (.int .i64 0) (.int .i64 0) (.slice none 0 0) (.slice none 0 0)
      refine bodyPost_ret (v := .tuple #[.agg scrZero, .int .i64 0, .int .i64 210]) (rparse_results _ _ b scrZero _ _ rfl rfl rfl s1 rfl) rfl ?_
      have hbe : Below w.heap.size w _ := HBz.out.trans (s2.below HBz.out.size (fun k hk => by have := HBB.out; omega))
      refine ⟨hbe, ?_⟩
      first | (rw [HERR.out]; done) | (rw [HERR.out]; rfl)
    by_cases hd1 : 500 < d
    · have HERR := Lib.hid (HNO.out (by simp only [headOk, show decide (d ≤ 500) = false from decide_eq_false (by omega), Bool.and_false, Bool.false_and]))
      clear hm
      go_wp2_with fail
      refine (bad_at 0 0 rfl _).mono ?_
      rintro e wz ⟨rfl, hbz⟩
      have HRz := Lib.hid ((hbz.block _ (lt_of_block HR7.out)).trans HR7.out)
      have HBz := Lib.hid (HB7.out.trans (hbz.mono HB7.out.size))
      clear hbz
      have v0 := cell_blk HRz.out 0 (v := .int .i64 0) rfl
      have g0 := froz_blk HRz.out 0
      have v1 := cell_blk HRz.out 1 (v := .int .i64 0) rfl
      have g1 := froz_blk HRz.out 1
      have v2 := cell_blk HRz.out 2 (v := .int .i64 0) rfl
      have g2 := froz_blk HRz.out 2
      have v3 := cell_blk HRz.out 3 (v := .int .i64 0) rfl
      have g3 := froz_blk HRz.out 3
      have v4 := cell_blk HRz.out 4 (v := .slice none 0 0) rfl
      have g4 := froz_blk HRz.out 4
      have v5 := cell_blk HRz.out 5 (v := .slice none 0 0) rfl
      have g5 := froz_blk HRz.out 5
      go_wp2_with fail
      obtain ⟨s1, s2⟩ := six_set HRz.out (.int .i64 0) (.int .i64 0) (.int .i64 0) (.int .i64 0) (.slice none 0 0) (.slice none 0 0)
      refine bodyPost_ret (v := .tuple #[.agg scrZero, .int .i64 0, .int .i64 210]) (rparse_results _ _ b scrZero _ _ rfl rfl rfl s1 rfl) rfl ?_
      have hbe : Below w.heap.size w _ := HBz.out.trans (s2.below HBz.out.size (fun k hk => by have := HBB.out; omega))
      refine ⟨hbe, ?_⟩
      first | (rw [HERR.out]; done) | (rw [HERR.out]; rfl)
    have hmay : 0 < a ∧ a ≤ 4 := by
      simp only [mayL, Bool.and_eq_true, decide_eq_true_eq] at hm
      exact hm.1.1
    have HSH := Lib.hid (show pScript ((o0 :: rest).map bl) = rTail a b' c d (pClients a.toNat (rest.map bl) 1 []) from script_head (by
      have h1 : headOk y0 a b' c d = true := by
        simp only [headOk, HYW.out, hm, decide_true, Bool.true_and, Bool.and_eq_true, decide_eq_true_eq]
        omega
      rw [HHL.out, h1]
      rfl))
    obtain ⟨an, rfl⟩ : ∃ an : Nat, a = (an : Int) := ⟨a.toNat, by omega⟩
    rw [Int.toNat_natCast] at HSH
    have HAN := Lib.hid (show an ≤ 4 by omega)
    go_upto_region 14 with (fail)
    clear hm hc0 hc1 hd0 hd1 hmay z2 z3
    -- LOOP
    obtain ⟨L, hL⟩ : ∃ L, (o0 :: rest).map bl = L := ⟨_, rfl⟩
    have HLX := Lib.hid (show ∀ (i : Nat) (x : List UInt8), L[i]? = some x → (∀ W, Below w2.heap.size w2 W → W.cell? (ad.add i) = some (.string ⟨x.toArray⟩)) ∧ (⟨x.toArray⟩ : ByteArray).size ≤ 4294967280 from fun i x hx => by
      rw [← hL, List.getElem?_map] at hx
      obtain ⟨o, ho, rfl⟩ := Option.map_eq_some_iff.1 hx
      obtain ⟨ad', h1, h2⟩ := HLN.out i o ho
      obtain rfl : ad = ad' := by simpa using h1
      rw [mk_bl]
      exact ⟨h2, HSZ.out o (List.mem_of_getElem? ho)⟩)
    have HLL := Lib.hid (show L.length = N by rw [← hL, List.length_map]; exact HN.out)
    have HPD := Lib.hid (show (pieces (bl s)).dropLast = L by rw [← HLS.out, hL])
    have HPE := Lib.hid (show ∀ m, pScript L = .error m → res = .error m from fun m h => by
      rw [← HRES.out]
      refine parse_error ?_
      rw [HPD.out]
      exact h)
    have HSP0 := Lib.hid (show pScript L = rTail an b' c d (pClients (an - 0) (L.drop 1) 1 []) by
      rw [← hL]
      exact HSH.out)
    have HRW0 := Lib.hid (Kd.R_nil kRow2 69 w7 w7.heap.size (fun _ => True))
    have HQ70 := Lib.hid (show RSt w7 w7 q an b' c d (.slice none 0 0) (.slice none 0 0) from ⟨HQ7.out, Mut.refl _ _, Nat.lt_of_lt_of_le HQ3.out.lt HM7.out.size⟩)
    have H1N := Lib.hid (show 1 ≤ N by omega)
    clear hL HSH
    go_wp2_with fail
    go_loopg [10, 11] an (fun k s10 s11 wr => ∃ (i j : Nat) (vc : Value) (rows : List (List CallD)), k + j = an ∧ s10 = .int .i64 i ∧ s11 = .int .i64 j ∧ Hid (i ≤ N) ∧ Hid (rows.length = j) ∧ Hid (RSt w7 wr q an b' c d vc (.slice none 0 0)) ∧ Hid (kRow2.R 69 wr w7.heap.size (fun _ => True) vc rows) ∧ Hid (pScript L = rTail an b' c d (pClients (an - j) (L.drop i) i rows)))
    case atStart => exact ⟨1, 0, _, [], by omega, rfl, rfl, H1N, Lib.hid rfl, HQ70, HRW0, HSP0⟩
    case round =>
      clear HSP0 HRW0 HQ70
      obtain ⟨i, j, vc, rows, hkj, rfl, rfl, HI, HRL, HQ, HRW, HSP⟩ := hrel
      obtain ⟨A8, k8, rfl⟩ := Kd.R_slice HRW.out
      have HBr := Lib.hid (HQ.out.below HB37.out (by have := HQQ.out; omega))
      have HBWr := Lib.hid (HB2.out.trans (HBr.out.mono HB2.out.size))
      have HRr := Lib.hid (HQ.out.other HR7.out (by have := HBQ.out; omega))
      have z0 := cell_blk HQ.out.bx 0 (v := .int .i64 an) rfl
      cases gk with
      | zero =>
        have hlt : ¬ (j : Int) < (an : Int) := by omega
        have HLA := Lib.hid (show pScript L = rTail an b' c d (.ok (rows, L.drop i, i)) by
          rw [HSP.out, show an - j = 0 by omega]
          rfl)
        by_cases hiN : i = N
        · have HERR := Lib.hid (HPE.out i (by rw [HLA.out, List.drop_of_length_le (by rw [HLL.out]; omega)]; rfl))
          have heq : ((i : Int) == (N : Int)) = true := by rw [hiN]; simp
          clear hiN
          go_wp2_with fail
          refine (bad_at (i : Int) i rfl _).mono ?_
          rintro e wz ⟨rfl, hbz⟩
          have HRz := Lib.hid ((hbz.block _ (lt_of_block HRr.out)).trans HRr.out)
          have HBz := Lib.hid (HBWr.out.trans (hbz.mono HBWr.out.size))
          clear hbz
          have v0 := cell_blk HRz.out 0 (v := .int .i64 0) rfl
          have g0 := froz_blk HRz.out 0
          have v1 := cell_blk HRz.out 1 (v := .int .i64 0) rfl
          have g1 := froz_blk HRz.out 1
          have v2 := cell_blk HRz.out 2 (v := .int .i64 0) rfl
          have g2 := froz_blk HRz.out 2
          have v3 := cell_blk HRz.out 3 (v := .int .i64 0) rfl
          have g3 := froz_blk HRz.out 3
          have v4 := cell_blk HRz.out 4 (v := .slice none 0 0) rfl
          have g4 := froz_blk HRz.out 4
          have v5 := cell_blk HRz.out 5 (v := .slice none 0 0) rfl
          have g5 := froz_blk HRz.out 5
          go_wp2_with fail
          obtain ⟨s1, s2⟩ := six_set HRz.out (.int .i64 0) (.int .i64 0) (.int .i64 0) (.int .i64 0) (.slice none 0 0) (.slice none 0 0)
          refine bodyPost_ret (v := .tuple #[.agg scrZero, .int .i64 (i : Int), .int .i64 210]) (rparse_results _ _ b scrZero _ _ rfl rfl rfl s1 rfl) rfl ?_
          have hbe : Below w.heap.size w _ := HBz.out.trans (s2.below HBz.out.size (fun k hk => by have := HBB.out; omega))
          refine ⟨hbe, ?_⟩
          first | (rw [HERR.out]; done) | (rw [HERR.out]; rfl)
        have hne : ((i : Int) == (N : Int)) = false := beq_eq_false_iff_ne.2 (by omega)
        have hne2 : ¬ (i : Int) = (N : Int) := by omega
        obtain ⟨x, hx⟩ : ∃ x, L[i]? = some x := ⟨_, List.getElem?_eq_getElem (by have := HLL.out; have := HI.out; omega)⟩
        have HDR := Lib.hid (drop_at hx)
        obtain ⟨hxc, hxz⟩ := HLX.out i x hx
        have x0 := hxc _ HBr.out
        have HIN := Lib.hid (show i < N by have := HI.out; omega)
        obtain ⟨y1, ws1, hw1⟩ := words_ne x
        have HNUM := Lib.hid (rnumbers_any ⟨x.toArray⟩ ⟨#[112, 105, 99, 107, 115]⟩ hxz y1 ws1 hw1 (decide (y1 = kPicks)) rfl wr)
        have HLB := Lib.hid (show pScript L = (match aNums ws1 with | some l => if y1 = kPicks ∧ l.length ≤ 1000 ∧ inB l = true then .ok (⟨an, b', c, d, rows, l⟩, i + 1) else .error i | none => .error i) by
          rw [HLA.out, HDR.out]
          show (match pLast (x :: L.drop (i + 1)) i with | .error m => Except.error m | .ok ps => .ok ((⟨an, b', c, d, rows, ps⟩ : ScrD), i + 1)) = _
          rw [last_law hw1]
          cases aNums ws1 with
          | none => rfl
          | some l =>
            by_cases hc : y1 = kPicks ∧ l.length ≤ 1000 ∧ inB l = true
            · simp only [if_pos hc]
            · simp only [if_neg hc])
        clear hx hxc hxz hiN hw1
        go_wp2_with fail
        refine HNUM.out.mono ?_
        intro e w10 h10
        clear HNUM x0 z0
        obtain ⟨hp, hhp⟩ : ∃ hp : Bool, decide (y1 = kPicks) = hp := ⟨_, rfl⟩
        rw [hhp] at h10
        have HHP := Lib.hid hhp
        clear hhp
        cases ha1 : aNums ws1 with
        | none =>
          rw [ha1] at h10
          obtain ⟨rfl, hb10⟩ := h10
          have HERR := Lib.hid (HPE.out i (by rw [HLB.out, ha1]))
          have HBW10 := Lib.hid (HBWr.out.trans (hb10.mono HBWr.out.size))
          have HR10 := Lib.hid ((hb10.block _ (lt_of_block HRr.out)).trans HRr.out)
          clear hb10 ha1
          go_wp2_with fail
          refine (bad_at (i : Int) i rfl _).mono ?_
          rintro e wz ⟨rfl, hbz⟩
          have HRz := Lib.hid ((hbz.block _ (lt_of_block HR10.out)).trans HR10.out)
          have HBz := Lib.hid (HBW10.out.trans (hbz.mono HBW10.out.size))
          clear hbz
          have v0 := cell_blk HRz.out 0 (v := .int .i64 0) rfl
          have g0 := froz_blk HRz.out 0
          have v1 := cell_blk HRz.out 1 (v := .int .i64 0) rfl
          have g1 := froz_blk HRz.out 1
          have v2 := cell_blk HRz.out 2 (v := .int .i64 0) rfl
          have g2 := froz_blk HRz.out 2
          have v3 := cell_blk HRz.out 3 (v := .int .i64 0) rfl
          have g3 := froz_blk HRz.out 3
          have v4 := cell_blk HRz.out 4 (v := .slice none 0 0) rfl
          have g4 := froz_blk HRz.out 4
          have v5 := cell_blk HRz.out 5 (v := .slice none 0 0) rfl
          have g5 := froz_blk HRz.out 5
          go_wp2_with fail
          obtain ⟨s1, s2⟩ := six_set HRz.out (.int .i64 0) (.int .i64 0) (.int .i64 0) (.int .i64 0) (.slice none 0 0) (.slice none 0 0)
          refine bodyPost_ret (v := .tuple #[.agg scrZero, .int .i64 (i : Int), .int .i64 210]) (rparse_results _ _ b scrZero _ _ rfl rfl rfl s1 rfl) rfl ?_
          have hbe : Below w.heap.size w _ := HBz.out.trans (s2.below HBz.out.size (fun k hk => by have := HBB.out; omega))
          refine ⟨hbe, ?_⟩
          first | (rw [HERR.out]; done) | (rw [HERR.out]; rfl)
        | some l =>
        rw [ha1] at h10
        obtain ⟨v10, rfl, hr10, hb10⟩ := h10
        have HLC := Lib.hid (show pScript L = if y1 = kPicks ∧ l.length ≤ 1000 ∧ inB l = true then .ok (⟨an, b', c, d, rows, l⟩, i + 1) else .error i by rw [HLB.out, ha1])
        have HBW10 := Lib.hid (HBWr.out.trans (hb10.mono HBWr.out.size))
        have HR10 := Lib.hid ((hb10.block _ (lt_of_block HRr.out)).trans HRr.out)
        have HQW := Lib.hid (HQ.out.further hb10)
        have HQ10 := Lib.hid (show RSt w10 w10 q an b' c d (.slice A8 rows.length k8) (.slice none 0 0) from ⟨HQW.out.bx, Mut.refl _ _, Nat.lt_of_lt_of_le HQ.out.lt HQW.out.mu.size⟩)
        have HRW10 := Lib.hid (Kd.R_below HRW.out hb10)
        have HR0 := Lib.hid (show q < wr.heap.size from Nat.lt_of_lt_of_le HQ.out.lt HQ.out.mu.size)
        have HL10 := Lib.hid hr10
        obtain ⟨A10, k10, rfl⟩ := Kd.R_slice hr10
        obtain ⟨n10, hn10⟩ : ∃ n10, l.length = n10 := ⟨_, rfl⟩
        have HN10 := Lib.hid hn10
        rw [hn10]
        clear hb10 ha1 hr10 hn10
        by_cases hok : hp = true ∧ n10 ≤ 1000
        rotate_left
        · have HERR := Lib.hid (HPE.out i (by
            rw [HLC.out, if_neg]
            rintro ⟨h1, h2, _⟩
            refine hok ⟨?_, by rw [← HN10.out]; exact h2⟩
            rw [← HHP.out]
            exact decide_eq_true h1))
          cases hp with
          | false =>
            clear hok
            go_wp2_with fail
            refine (bad_at (i : Int) i rfl _).mono ?_
            rintro e wz ⟨rfl, hbz⟩
            have HRz := Lib.hid ((hbz.block _ (lt_of_block HR10.out)).trans HR10.out)
            have HBz := Lib.hid (HBW10.out.trans (hbz.mono HBW10.out.size))
            clear hbz
            have v0 := cell_blk HRz.out 0 (v := .int .i64 0) rfl
            have g0 := froz_blk HRz.out 0
            have v1 := cell_blk HRz.out 1 (v := .int .i64 0) rfl
            have g1 := froz_blk HRz.out 1
            have v2 := cell_blk HRz.out 2 (v := .int .i64 0) rfl
            have g2 := froz_blk HRz.out 2
            have v3 := cell_blk HRz.out 3 (v := .int .i64 0) rfl
            have g3 := froz_blk HRz.out 3
            have v4 := cell_blk HRz.out 4 (v := .slice none 0 0) rfl
            have g4 := froz_blk HRz.out 4
            have v5 := cell_blk HRz.out 5 (v := .slice none 0 0) rfl
            have g5 := froz_blk HRz.out 5
            go_wp2_with fail
            obtain ⟨s1, s2⟩ := six_set HRz.out (.int .i64 0) (.int .i64 0) (.int .i64 0) (.int .i64 0) (.slice none 0 0) (.slice none 0 0)
            refine bodyPost_ret (v := .tuple #[.agg scrZero, .int .i64 (i : Int), .int .i64 210]) (rparse_results _ _ b scrZero _ _ rfl rfl rfl s1 rfl) rfl ?_
            have hbe : Below w.heap.size w _ := HBz.out.trans (s2.below HBz.out.size (fun k hk => by have := HBB.out; omega))
            refine ⟨hbe, ?_⟩
            first | (rw [HERR.out]; done) | (rw [HERR.out]; rfl)
          | true =>
            have hn5 : 1000 < (n10 : Int) := by
              by_cases h : n10 ≤ 1000
              · exact absurd ⟨rfl, h⟩ hok
              · omega
            clear hok
            go_wp2_with fail
            refine (bad_at (i : Int) i rfl _).mono ?_
            rintro e wz ⟨rfl, hbz⟩
            have HRz := Lib.hid ((hbz.block _ (lt_of_block HR10.out)).trans HR10.out)
            have HBz := Lib.hid (HBW10.out.trans (hbz.mono HBW10.out.size))
            clear hbz
            have v0 := cell_blk HRz.out 0 (v := .int .i64 0) rfl
            have g0 := froz_blk HRz.out 0
            have v1 := cell_blk HRz.out 1 (v := .int .i64 0) rfl
            have g1 := froz_blk HRz.out 1
            have v2 := cell_blk HRz.out 2 (v := .int .i64 0) rfl
            have g2 := froz_blk HRz.out 2
            have v3 := cell_blk HRz.out 3 (v := .int .i64 0) rfl
            have g3 := froz_blk HRz.out 3
            have v4 := cell_blk HRz.out 4 (v := .slice none 0 0) rfl
            have g4 := froz_blk HRz.out 4
            have v5 := cell_blk HRz.out 5 (v := .slice none 0 0) rfl
            have g5 := froz_blk HRz.out 5
            go_wp2_with fail
            obtain ⟨s1, s2⟩ := six_set HRz.out (.int .i64 0) (.int .i64 0) (.int .i64 0) (.int .i64 0) (.slice none 0 0) (.slice none 0 0)
            refine bodyPost_ret (v := .tuple #[.agg scrZero, .int .i64 (i : Int), .int .i64 210]) (rparse_results _ _ b scrZero _ _ rfl rfl rfl s1 rfl) rfl ?_
            have hbe : Below w.heap.size w _ := HBz.out.trans (s2.below HBz.out.size (fun k hk => by have := HBB.out; omega))
            refine ⟨hbe, ?_⟩
            first | (rw [HERR.out]; done) | (rw [HERR.out]; rfl)
        obtain ⟨rfl, h1000⟩ := hok
        have hn5 : ¬ 1000 < (n10 : Int) := by omega
        have HYP := Lib.hid (show y1 = kPicks from of_decide_eq_true HHP.out)
        have H1000 := Lib.hid h1000
        have HOUT := Lib.hid (show inB l = false → res = .error i from fun h => HPE.out i (by rw [HLC.out, if_neg]; rintro ⟨_, _, h3⟩; rw [h] at h3; cases h3))
        have HGOOD := Lib.hid (show inB l = true → pScript L = .ok ((⟨an, b', c, d, rows, l⟩ : ScrD), i + 1) from fun h => by rw [HLC.out, if_pos (show y1 = kPicks ∧ l.length ≤ 1000 ∧ inB l = true from ⟨HYP.out, by rw [HN10.out]; exact h1000, h⟩)])
        clear h1000
        go_wp2_with fail
        go_loopg [16] n10 (fun k s16 wq => ∃ (t : Nat) (vp : Value) (xs : List Int), k + t = n10 ∧ s16 = .int .i64 t ∧ Hid (RSt w10 wq q an b' c d (.slice A8 rows.length k8) vp) ∧ Hid ((Kd.int .u8).R 5 wq w10.heap.size (fun _ => True) vp xs) ∧ Hid (xs = l.take t ∧ inB xs = true))
        case atStart => exact ⟨0, _, [], by omega, rfl, HQ10, Lib.hid (Kd.R_nil _ _ _ _ _), Lib.hid (And.intro (by simp) rfl)⟩
        case round =>
          clear HQ10
          obtain ⟨t, vp, xs, hkt, rfl, HQ, HXP, HXS⟩ := hrel
          rename World => wq
          have HBWq := Lib.hid (HQ.out.below HBW10.out (by have := HBQ.out; have := HBB.out; omega))
          have HRq := Lib.hid (HQ.out.other HR10.out (by have := HBQ.out; omega))
          obtain ⟨A12, k12, rfl⟩ := Kd.R_slice HXP.out
          cases gk with
          | zero =>
            have hlt2 : ¬ (t : Int) < (n10 : Int) := by omega
            have hxl : xs = l := by rw [HXS.out.1, List.take_of_length_le (by rw [HN10.out]; omega)]
            subst hxl
            have HPOK := Lib.hid (HGOOD.out HXS.out.2)
            obtain ⟨i1, hi1⟩ : ∃ i1, i + 1 = i1 := ⟨_, rfl⟩
            rw [hi1] at HPOK
            have q0 : IntKind.i64.wrap ((i : Int) + 1) = (i1 : Int) := by rw [← hi1]; exact wrap_next' (by have := HNN.out; have := HIN.out; omega)
            have HRF := Lib.hid (show res = if i1 < N ∨ fl = false then .error i1 else .ok ⟨an, b', c, d, rows, xs⟩ by
              rw [← HRES.out, parse_ok (by rw [HPD.out]; exact HPOK.out), HNP.out]
              have hne3 : bl s ≠ [] := fun h => by
                have h1 := HNP.out
                rw [h] at h1
                have h2 : (pieces ([] : List UInt8)).length - 1 = 0 := rfl
                have := HIN.out
                omega
              have h4 := HFL.out
              by_cases hl : (pieces (bl s)).getLast? = some []
              · have h5 : fl = true := by rw [← h4]; exact decide_eq_true ⟨hl, hne3⟩
                simp [hl, h5]
              · have h5 : fl = false := by rw [← h4]; exact decide_eq_false (fun h => hl h.1)
                simp [hl, h5])
            clear hi1
            by_cases hlt3 : (i1 : Int) < (N : Int)
            · have HERR := Lib.hid (show res = .error i1 by rw [HRF.out, if_pos (.inl (by omega))])
              go_wp2_with fail
              refine (bad_at (i1 : Int) i1 rfl _).mono ?_
              rintro e wz ⟨rfl, hbz⟩
              have HRz := Lib.hid ((hbz.block _ (lt_of_block HRq.out)).trans HRq.out)
              have HBz := Lib.hid (HBWq.out.trans (hbz.mono HBWq.out.size))
              clear hbz
              have v0 := cell_blk HRz.out 0 (v := .int .i64 0) rfl
              have g0 := froz_blk HRz.out 0
              have v1 := cell_blk HRz.out 1 (v := .int .i64 0) rfl
              have g1 := froz_blk HRz.out 1
              have v2 := cell_blk HRz.out 2 (v := .int .i64 0) rfl
              have g2 := froz_blk HRz.out 2
              have v3 := cell_blk HRz.out 3 (v := .int .i64 0) rfl
              have g3 := froz_blk HRz.out 3
              have v4 := cell_blk HRz.out 4 (v := .slice none 0 0) rfl
              have g4 := froz_blk HRz.out 4
              have v5 := cell_blk HRz.out 5 (v := .slice none 0 0) rfl
              have g5 := froz_blk HRz.out 5
              go_wp2_with fail
              obtain ⟨s1, s2⟩ := six_set HRz.out (.int .i64 0) (.int .i64 0) (.int .i64 0) (.int .i64 0) (.slice none 0 0) (.slice none 0 0)
              refine bodyPost_ret (v := .tuple #[.agg scrZero, .int .i64 (i1 : Int), .int .i64 210]) (rparse_results _ _ b scrZero _ _ rfl rfl rfl s1 rfl) rfl ?_
              have hbe : Below w.heap.size w _ := HBz.out.trans (s2.below HBz.out.size (fun k hk => by have := HBB.out; omega))
              refine ⟨hbe, ?_⟩
              first | (rw [HERR.out]; done) | (rw [HERR.out]; rfl)
            cases fl with
            | false =>
              have HERR := Lib.hid (show res = .error i1 by rw [HRF.out, if_pos (.inr rfl)])
              go_wp2_with fail
              refine (bad_at (i1 : Int) i1 rfl _).mono ?_
              rintro e wz ⟨rfl, hbz⟩
              have HRz := Lib.hid ((hbz.block _ (lt_of_block HRq.out)).trans HRq.out)
              have HBz := Lib.hid (HBWq.out.trans (hbz.mono HBWq.out.size))
              clear hbz
              have v0 := cell_blk HRz.out 0 (v := .int .i64 0) rfl
              have g0 := froz_blk HRz.out 0
              have v1 := cell_blk HRz.out 1 (v := .int .i64 0) rfl
              have g1 := froz_blk HRz.out 1
              have v2 := cell_blk HRz.out 2 (v := .int .i64 0) rfl
              have g2 := froz_blk HRz.out 2
              have v3 := cell_blk HRz.out 3 (v := .int .i64 0) rfl
              have g3 := froz_blk HRz.out 3
              have v4 := cell_blk HRz.out 4 (v := .slice none 0 0) rfl
              have g4 := froz_blk HRz.out 4
              have v5 := cell_blk HRz.out 5 (v := .slice none 0 0) rfl
              have g5 := froz_blk HRz.out 5
              go_wp2_with fail
              obtain ⟨s1, s2⟩ := six_set HRz.out (.int .i64 0) (.int .i64 0) (.int .i64 0) (.int .i64 0) (.slice none 0 0) (.slice none 0 0)
              refine bodyPost_ret (v := .tuple #[.agg scrZero, .int .i64 (i1 : Int), .int .i64 210]) (rparse_results _ _ b scrZero _ _ rfl rfl rfl s1 rfl) rfl ?_
              have hbe : Below w.heap.size w _ := HBz.out.trans (s2.below HBz.out.size (fun k hk => by have := HBB.out; omega))
              refine ⟨hbe, ?_⟩
              first | (rw [HERR.out]; done) | (rw [HERR.out]; rfl)
            | true =>
              have HERR := Lib.hid (show res = .ok ⟨an, b', c, d, rows, xs⟩ by rw [HRF.out, if_neg (by rintro (h | h); omega; cases h)])
              have y0 := cell_blk HQ.out.bx 0 (v := .int .i64 an) rfl
              have y1 := cell_blk HQ.out.bx 1 (v := .int .i64 b') rfl
              have y2 := cell_blk HQ.out.bx 2 (v := .int .i64 c) rfl
              have y3 := cell_blk HQ.out.bx 3 (v := .int .i64 d) rfl
              have y4 := cell_blk HQ.out.bx 4 (v := .slice A8 rows.length k8) rfl
              have y5 := cell_blk HQ.out.bx 5 (v := .slice A12 xs.length k12) rfl
              have v0 := cell_blk HRq.out 0 (v := .int .i64 0) rfl
              have g0 := froz_blk HRq.out 0
              have v1 := cell_blk HRq.out 1 (v := .int .i64 0) rfl
              have g1 := froz_blk HRq.out 1
              have v2 := cell_blk HRq.out 2 (v := .int .i64 0) rfl
              have g2 := froz_blk HRq.out 2
              have v3 := cell_blk HRq.out 3 (v := .int .i64 0) rfl
              have g3 := froz_blk HRq.out 3
              have v4 := cell_blk HRq.out 4 (v := .slice none 0 0) rfl
              have g4 := froz_blk HRq.out 4
              have v5 := cell_blk HRq.out 5 (v := .slice none 0 0) rfl
              have g5 := froz_blk HRq.out 5
              go_wp2_with fail
              obtain ⟨s1, s2⟩ := six_set HRq.out (.int .i64 an) (.int .i64 b') (.int .i64 c) (.int .i64 d) (.slice A8 rows.length k8) (.slice A12 xs.length k12)
              refine bodyPost_ret (v := .tuple #[.agg (sCells an b' c d (.slice A8 rows.length k8) (.slice A12 xs.length k12)), .int .i64 0, .int .i64 0]) (rparse_results _ _ b (sCells an b' c d (.slice A8 rows.length k8) (.slice A12 xs.length k12)) _ _ rfl rfl rfl s1 rfl) rfl ?_
              have hbe : Below w.heap.size w _ := HBWq.out.trans (s2.below HBWq.out.size (fun k hk => by have := HBB.out; omega))
              refine ⟨hbe, ?_⟩
              rw [HERR.out]
              have hq7 := Nat.lt_of_lt_of_le HQ3.out.lt HM7.out.size
              have hrr := R_q (R_q HRW10.out hq7 HQ.out.mu) (by have := HBQ.out; omega) s2
              have hpp := R_q HXP.out (by have := HBQ.out; have := HQ.out.lt; omega) s2
              exact ⟨_, _, rfl, Kd.R_lower hrr HB7.out.size, Kd.R_lower hpp HBW10.out.size⟩
          | succ gk0 =>
            have hlt2 : (t : Int) < (n10 : Int) := by omega
            obtain ⟨kx, hkx⟩ : ∃ kx, l[t]? = some kx := ⟨_, List.getElem?_eq_getElem (by have := HN10.out; omega)⟩
            obtain ⟨pg, pcap, hve, hgb, hcl⟩ := int_row HL10.out hkx
            simp only [Value.slice.injEq] at hve
            obtain ⟨rfl, -, -⟩ := hve
            have HPQ := Lib.hid (show pg ≠ q by have := HR0.out; omega)
            have HKX := Lib.hid hkx
            have x0 := HQ.out.mu.cell (hcl t kx hkx) HPQ.out
            have x0a := fun o => (HQ.out.mu.alloc o).cell (hcl t kx hkx) HPQ.out
            have HKT := Lib.hid hkt
            clear hgb hcl hkx hkt
            by_cases hk0 : kx < 0
            · have HERR := Lib.hid (HOUT.out (by
                have hm := List.mem_of_getElem? HKX.out
                cases h : inB l with
                | false => rfl
                | true =>
                  have := List.all_eq_true.1 h kx hm
                  simp only [Bool.and_eq_true, decide_eq_true_eq] at this
                  omega))
              go_wp2_with fail
              refine (bad_at (i : Int) i rfl _).mono ?_
              rintro e wz ⟨rfl, hbz⟩
              have HRz := Lib.hid ((hbz.block _ (lt_of_block HRq.out)).trans HRq.out)
              have HBz := Lib.hid (HBWq.out.trans (hbz.mono HBWq.out.size))
              clear hbz
              have v0 := cell_blk HRz.out 0 (v := .int .i64 0) rfl
              have g0 := froz_blk HRz.out 0
              have v1 := cell_blk HRz.out 1 (v := .int .i64 0) rfl
              have g1 := froz_blk HRz.out 1
              have v2 := cell_blk HRz.out 2 (v := .int .i64 0) rfl
              have g2 := froz_blk HRz.out 2
              have v3 := cell_blk HRz.out 3 (v := .int .i64 0) rfl
              have g3 := froz_blk HRz.out 3
              have v4 := cell_blk HRz.out 4 (v := .slice none 0 0) rfl
              have g4 := froz_blk HRz.out 4
              have v5 := cell_blk HRz.out 5 (v := .slice none 0 0) rfl
              have g5 := froz_blk HRz.out 5
              go_wp2_with fail
              obtain ⟨s1, s2⟩ := six_set HRz.out (.int .i64 0) (.int .i64 0) (.int .i64 0) (.int .i64 0) (.slice none 0 0) (.slice none 0 0)
              refine bodyPost_ret (v := .tuple #[.agg scrZero, .int .i64 (i : Int), .int .i64 210]) (rparse_results _ _ b scrZero _ _ rfl rfl rfl s1 rfl) rfl ?_
              have hbe : Below w.heap.size w _ := HBz.out.trans (s2.below HBz.out.size (fun k hk => by have := HBB.out; omega))
              refine ⟨hbe, ?_⟩
              first | (rw [HERR.out]; done) | (rw [HERR.out]; rfl)
            by_cases hk1 : 255 < kx
            · have HERR := Lib.hid (HOUT.out (by
                have hm := List.mem_of_getElem? HKX.out
                cases h : inB l with
                | false => rfl
                | true =>
                  have := List.all_eq_true.1 h kx hm
                  simp only [Bool.and_eq_true, decide_eq_true_eq] at this
                  omega))
              go_wp2_with fail
              refine (bad_at (i : Int) i rfl _).mono ?_
              rintro e wz ⟨rfl, hbz⟩
              have HRz := Lib.hid ((hbz.block _ (lt_of_block HRq.out)).trans HRq.out)
              have HBz := Lib.hid (HBWq.out.trans (hbz.mono HBWq.out.size))
              clear hbz
              have v0 := cell_blk HRz.out 0 (v := .int .i64 0) rfl
              have g0 := froz_blk HRz.out 0
              have v1 := cell_blk HRz.out 1 (v := .int .i64 0) rfl
              have g1 := froz_blk HRz.out 1
              have v2 := cell_blk HRz.out 2 (v := .int .i64 0) rfl
              have g2 := froz_blk HRz.out 2
              have v3 := cell_blk HRz.out 3 (v := .int .i64 0) rfl
              have g3 := froz_blk HRz.out 3
              have v4 := cell_blk HRz.out 4 (v := .slice none 0 0) rfl
              have g4 := froz_blk HRz.out 4
              have v5 := cell_blk HRz.out 5 (v := .slice none 0 0) rfl
              have g5 := froz_blk HRz.out 5
              go_wp2_with fail
              obtain ⟨s1, s2⟩ := six_set HRz.out (.int .i64 0) (.int .i64 0) (.int .i64 0) (.int .i64 0) (.slice none 0 0) (.slice none 0 0)
              refine bodyPost_ret (v := .tuple #[.agg scrZero, .int .i64 (i : Int), .int .i64 210]) (rparse_results _ _ b scrZero _ _ rfl rfl rfl s1 rfl) rfl ?_
              have hbe : Below w.heap.size w _ := HBz.out.trans (s2.below HBz.out.size (fun k hk => by have := HBB.out; omega))
              refine ⟨hbe, ?_⟩
              first | (rw [HERR.out]; done) | (rw [HERR.out]; rfl)
            have hwr : IntKind.u8.wrap kx = kx := wrap_u8 (by omega) (by omega)
            have qt : IntKind.i64.wrap ((t : Int) + 1) = (t : Int) + 1 := wrap_next' (by have := H1000.out; have := HKT.out; omega)
            have y5 := cell_blk HQ.out.bx 5 (v := .slice A12 xs.length k12) rfl
            have y5a := fun o => cell_blk (alloc_blk HQ.out.bx o) 5 (v := .slice A12 xs.length k12) rfl
            have HL := Lib.hid (show (xs.length + 1) * 1 ≤ 140737488355328 by rw [HXS.out.1, List.length_take]; have := H1000.out; have := HN10.out; omega)
            have HXB := Lib.hid (show inB (xs ++ [kx]) = true by
              have h1 := HXS.out.2
              simp only [inB, List.all_append, Bool.and_eq_true] at h1 ⊢
              exact ⟨h1, by simp; omega⟩)
            have HHB := Lib.hid (Kd.R_base HXP.out)
            go_wp2_with fail
            -- REGION38
            go_region_law (first
              | (refine Kd.R_append_step (Kd.int .u8) (w0 := _) w10.heap.size (by rfl) (.tmp 224) (.tmp 230) 26 5 (.int .u8 0) 1 rfl Tryz.underlying26 info_u8 rfl (by decide) (by decide) (.slice A12 xs.length k12) xs kx [.int .u8 kx] (fun _ => True) (fun _ => False) rfl rfl rfl (fun _ h => h.elim) (fun _ _ => trivial) (Kd.R_drew HXP.out) (Below.refl _ _) HQ.out.mu.size HL.out ?_
                 intro v1 w14 hr4 hb4 hg4 hat4
                 obtain ⟨A9, k9, rfl⟩ := Kd.R_slice hr4
                 obtain ⟨xl, hxl⟩ : ∃ xl, (xs ++ [kx]).length = xl := ⟨_, rfl⟩
                 rw [hxl] at hr4 ⊢
                 have HQN := Lib.hid (HQ.out.drew.putP hg4 HHB.out (.slice A9 xl k9))
                 have HRN := Lib.hid (R_q hr4 HQ.out.lt ((Mut.refl (· = q) w14).set1 5 (.slice A9 xl k9)))
                 have d4 := cell_blk (HQ.out.drew.mid hg4 HHB.out).1 5 (v := .slice A12 xs.length k12) rfl
                 have e4 := froz_blk (HQ.out.drew.mid hg4 HHB.out).1 5
                 clear hr4 hb4 hg4 hat4 hxl))
            all_goals
              go_wp2_with fail
              go_roundg gk0
              case measure => omega
              case rel => exact ⟨t + 1, .slice A9 xl k9, xs ++ [kx], by have := HKT.out; omega, rfl, HQN, HRN, Lib.hid ⟨by rw [List.take_add_one, HKX.out, HXS.out.1]; rfl, HXB.out⟩⟩
      | succ gk0 =>
        have hlt : (j : Int) < (an : Int) := by omega
        have HKJ := Lib.hid hkj
        have HSP1 := Lib.hid (show pScript L = rTail an b' c d (pClients ((an - (j + 1)) + 1) (L.drop i) i rows) by
          rw [HSP.out, show an - j = (an - (j + 1)) + 1 by omega])
        clear hkj HSP
        by_cases hiN : i = N
        · have HERR := Lib.hid (HPE.out i (by rw [HSP1.out, List.drop_of_length_le (by rw [HLL.out]; omega)]; rfl))
          have heq : ((i : Int) == (N : Int)) = true := by rw [hiN]; simp
          clear hiN
          go_wp2_with fail
          refine (bad_at (i : Int) i rfl _).mono ?_
          rintro e wz ⟨rfl, hbz⟩
          have HRz := Lib.hid ((hbz.block _ (lt_of_block HRr.out)).trans HRr.out)
          have HBz := Lib.hid (HBWr.out.trans (hbz.mono HBWr.out.size))
          clear hbz
          have v0 := cell_blk HRz.out 0 (v := .int .i64 0) rfl
          have g0 := froz_blk HRz.out 0
          have v1 := cell_blk HRz.out 1 (v := .int .i64 0) rfl
          have g1 := froz_blk HRz.out 1
          have v2 := cell_blk HRz.out 2 (v := .int .i64 0) rfl
          have g2 := froz_blk HRz.out 2
          have v3 := cell_blk HRz.out 3 (v := .int .i64 0) rfl
          have g3 := froz_blk HRz.out 3
          have v4 := cell_blk HRz.out 4 (v := .slice none 0 0) rfl
          have g4 := froz_blk HRz.out 4
          have v5 := cell_blk HRz.out 5 (v := .slice none 0 0) rfl
          have g5 := froz_blk HRz.out 5
          go_wp2_with fail
          obtain ⟨s1, s2⟩ := six_set HRz.out (.int .i64 0) (.int .i64 0) (.int .i64 0) (.int .i64 0) (.slice none 0 0) (.slice none 0 0)
          refine bodyPost_ret (v := .tuple #[.agg scrZero, .int .i64 (i : Int), .int .i64 210]) (rparse_results _ _ b scrZero _ _ rfl rfl rfl s1 rfl) rfl ?_
          have hbe : Below w.heap.size w _ := HBz.out.trans (s2.below HBz.out.size (fun k hk => by have := HBB.out; omega))
          refine ⟨hbe, ?_⟩
          first | (rw [HERR.out]; done) | (rw [HERR.out]; rfl)
        have hne : ((i : Int) == (N : Int)) = false := beq_eq_false_iff_ne.2 (by omega)
        have hne2 : ¬ (i : Int) = (N : Int) := by omega
        obtain ⟨x, hx⟩ : ∃ x, L[i]? = some x := ⟨_, List.getElem?_eq_getElem (by have := HLL.out; have := HI.out; omega)⟩
        have HDR := Lib.hid (drop_at hx)
        obtain ⟨hxc, hxz⟩ := HLX.out i x hx
        have x0 := hxc _ HBr.out
        have HIN := Lib.hid (show i < N by have := HI.out; omega)
        clear hx hxc hxz hiN
        by_cases hcl : x = kClient
        rotate_left
        · have HERR := Lib.hid (HPE.out i (by rw [HSP1.out, HDR.out, clients_no hcl]; rfl))
          have t1 : (x == [99, 108, 105, 101, 110, 116]) = false := beq_eq_false_iff_ne.2 hcl
          clear hcl
          go_wp2_with fail
          refine (bad_at (i : Int) i rfl _).mono ?_
          rintro e wz ⟨rfl, hbz⟩
          have HRz := Lib.hid ((hbz.block _ (lt_of_block HRr.out)).trans HRr.out)
          have HBz := Lib.hid (HBWr.out.trans (hbz.mono HBWr.out.size))
          clear hbz
          have v0 := cell_blk HRz.out 0 (v := .int .i64 0) rfl
          have g0 := froz_blk HRz.out 0
          have v1 := cell_blk HRz.out 1 (v := .int .i64 0) rfl
          have g1 := froz_blk HRz.out 1
          have v2 := cell_blk HRz.out 2 (v := .int .i64 0) rfl
          have g2 := froz_blk HRz.out 2
          have v3 := cell_blk HRz.out 3 (v := .int .i64 0) rfl
          have g3 := froz_blk HRz.out 3
          have v4 := cell_blk HRz.out 4 (v := .slice none 0 0) rfl
          have g4 := froz_blk HRz.out 4
          have v5 := cell_blk HRz.out 5 (v := .slice none 0 0) rfl
          have g5 := froz_blk HRz.out 5
          go_wp2_with fail
          obtain ⟨s1, s2⟩ := six_set HRz.out (.int .i64 0) (.int .i64 0) (.int .i64 0) (.int .i64 0) (.slice none 0 0) (.slice none 0 0)
          refine bodyPost_ret (v := .tuple #[.agg scrZero, .int .i64 (i : Int), .int .i64 210]) (rparse_results _ _ b scrZero _ _ rfl rfl rfl s1 rfl) rfl ?_
          have hbe : Below w.heap.size w _ := HBz.out.trans (s2.below HBz.out.size (fun k hk => by have := HBB.out; omega))
          refine ⟨hbe, ?_⟩
          first | (rw [HERR.out]; done) | (rw [HERR.out]; rfl)
        subst hcl
        rw [show (⟨kClient.toArray⟩ : ByteArray) = ⟨#[99, 108, 105, 101, 110, 116]⟩ from rfl] at x0
        obtain ⟨i1, hi1⟩ : ∃ i1, i + 1 = i1 := ⟨_, rfl⟩
        have q0 : IntKind.i64.wrap ((i : Int) + 1) = (i1 : Int) := by rw [← hi1]; exact wrap_next' (by have := HNN.out; have := HIN.out; omega)
        have qj : IntKind.i64.wrap ((j : Int) + 1) = (j : Int) + 1 := wrap_next' (by have := HAN.out; have := HKJ.out; omega)
        have HI1 := Lib.hid (show i1 ≤ N by have := HIN.out; omega)
        have HSI0 := Lib.hid (show pScript L = rTail an b' c d (rCl (an - (j + 1)) rows (pRow (L.drop i1) i1 [])) by rw [HSP1.out, HDR.out, clients_go, hi1])
        clear hi1
        go_wp2_with fail
        have HE2 := Lib.hid (R_empty (kCall 120) wr wr.heap.size 74 (fun _ => True) trivial (Nat.le_refl _))
        have HB2' := Lib.hid (show Below wr.heap.size wr (wr.alloc (.cells #[] 74)) from (Below.refl _ _).alloc (Nat.le_refl _) _)
        clear x0 z0
        obtain ⟨w0, hw0⟩ : ∃ w0, wr = w0 := ⟨_, rfl⟩
        rw [hw0] at HQ HRW HBr HBWr HRr HE2 HB2'
        rw [hw0]
        clear hw0 HSP1 HDR
        have HOK := Lib.hid (show ∀ k, w0.heap.size ≤ k → (fun _ : Nat => True) k ∧ some k ≠ (Value.slice A8 rows.length k8).ownBlock from fun k hk => ⟨trivial, fun he => by have := Kd.R_lt HRW.out k he.symm; omega⟩)
        go_loopg [10, 12] (N - i1) (fun k s10 s12 wr => ∃ (i2 : Nat) (row : List CallD) (v : Value), k + i2 = N ∧ s10 = .int .i64 i2 ∧ s12 = v ∧ Hid ((kCall 120).R 74 wr w0.heap.size (fun _ => True) v row) ∧ Hid (Below w0.heap.size w0 wr) ∧ Hid (row.length ≤ 100) ∧ Hid (pScript L = rTail an b' c d (rCl (an - (j + 1)) rows (pRow (L.drop i2) i2 row))))
        case atStart => exact ⟨i1, [], _, by have := HI1.out; omega, rfl, rfl, HE2, HB2', Lib.hid (by simp), HSI0⟩
        case round =>
          clear HE2 HB2' HSI0
          obtain ⟨i2, row, v, hki, rfl, rfl, P5, B5, HR100, HSI⟩ := hrel
          obtain ⟨A5, k5, rfl⟩ := Kd.R_slice P5.out
          have HBi := Lib.hid (HBr.out.trans (B5.out.mono HBr.out.size))
          have HBWi := Lib.hid (HBWr.out.trans (B5.out.mono HBWr.out.size))
          have HRi := Lib.hid ((B5.out.block _ (lt_of_block HRr.out)).trans HRr.out)
          have HI2 := Lib.hid (show i2 ≤ N by omega)
          have HSX := Lib.hid (show ∀ r : Unit, pRow (L.drop i2) i2 row = .ok (row, L.drop i2, i2) → pScript L = rTail an b' c d (pClients (an - (j + 1)) (L.drop i2) i2 (rows ++ [row])) from fun r h => by rw [HSI.out, h]; rfl)
          cases gk with
          | zero =>
            have hlt2 : ¬ (i2 : Int) < (N : Int) := by omega
            have HSN := Lib.hid (HSX.out () (by rw [List.drop_of_length_le (by rw [HLL.out]; omega)]; rfl))
            -- EXIT0
            have HQW := Lib.hid (HQ.out.further B5.out)
            have HM := Lib.hid (show kRow2.M wr w7.heap.size (fun k => w0.heap.size ≤ k) row [.slice A5 row.length k5] from ⟨.slice A5 row.length k5, rfl, Kd.R_mono (Kd.R_lower (Kd.R_bound P5.out) HQ.out.mu.size) (fun k hk => hk.2.1)⟩)
            have HO := Lib.hid (Kd.R_below HRW.out B5.out)
            have HHB := Lib.hid (Kd.R_base HRW.out)
            have HL := Lib.hid (show (rows.length + 1) * 24 ≤ 140737488355328 by have := HRL.out; have := HAN.out; omega)
            have y4 := cell_blk HQW.out.bx 4 (v := .slice A8 rows.length k8) rfl
            go_wp2_with (at_builtin; go_loud (refine Kd.R_append kRow2 (w0 := wr) w7.heap.size rfl (.tmp 166) (.tmp 168) 33 69 (.slice none 0 0) 24 rfl Tryz.underlying33 info_row2 rfl (by decide) (by decide) (.slice A8 rows.length k8) rows row [.slice A5 row.length k5] (fun _ => True) (fun k => w0.heap.size ≤ k) rfl rfl HM.out HOK.out (fun _ _ => trivial) HO.out (Below.refl _ _) HQW.out.mu.size HL.out ?_))
            intro v1 w14 hr4 hb4 hg4 hat4
            obtain ⟨A9, k9, rfl⟩ := Kd.R_slice hr4
            obtain ⟨xl, hxl⟩ : ∃ xl, (rows ++ [row]).length = xl := ⟨_, rfl⟩
            rw [hxl] at hr4 ⊢
            have HQN := Lib.hid (HQW.out.putC hg4 HHB.out (.slice A9 xl k9))
            have HRN := Lib.hid (R_q hr4 HQ.out.lt ((Mut.refl (· = q) w14).set1 4 (.slice A9 xl k9)))
            have d4 := cell_blk (HQW.out.mid hg4 HHB.out).1 4 (v := .slice A8 rows.length k8) rfl
            have e4 := froz_blk (HQW.out.mid hg4 HHB.out).1 4
            clear hr4 hb4 hg4 hat4 y4 hxl
            go_wp2_with fail
            go_roundg gk0
            case measure => omega
            case rel => exact ⟨i2, j + 1, .slice A9 xl k9, rows ++ [row], by have := HKJ.out; omega, rfl, rfl, HI2, Lib.hid (by have := HRL.out; simp; omega), HQN, HRN, HSN⟩
          | succ gk1 =>
            have hlt2 : (i2 : Int) < (N : Int) := by omega
            have HKI := Lib.hid hki
            obtain ⟨x, hx⟩ : ∃ x, L[i2]? = some x := ⟨_, List.getElem?_eq_getElem (by have := HLL.out; omega)⟩
            have HDR := Lib.hid (drop_at hx)
            obtain ⟨hxc, hxz⟩ := HLX.out i2 x hx
            have x0 := hxc _ HBi.out
            have HXC := Lib.hid hxc
            have HXZ := Lib.hid hxz
            clear hx hxc hxz hki
            by_cases hcl : x = kClient
            · have HSN := Lib.hid (HSX.out () (by rw [HDR.out, pRow_stop (.inl hcl)]))
              subst hcl
              rw [show (⟨kClient.toArray⟩ : ByteArray) = ⟨#[99, 108, 105, 101, 110, 116]⟩ from rfl] at x0
              -- EXIT1
              have HQW := Lib.hid (HQ.out.further B5.out)
              have HM := Lib.hid (show kRow2.M wr w7.heap.size (fun k => w0.heap.size ≤ k) row [.slice A5 row.length k5] from ⟨.slice A5 row.length k5, rfl, Kd.R_mono (Kd.R_lower (Kd.R_bound P5.out) HQ.out.mu.size) (fun k hk => hk.2.1)⟩)
              have HO := Lib.hid (Kd.R_below HRW.out B5.out)
              have HHB := Lib.hid (Kd.R_base HRW.out)
              have HL := Lib.hid (show (rows.length + 1) * 24 ≤ 140737488355328 by have := HRL.out; have := HAN.out; omega)
              have y4 := cell_blk HQW.out.bx 4 (v := .slice A8 rows.length k8) rfl
              go_wp2_with (at_builtin; go_loud (refine Kd.R_append kRow2 (w0 := wr) w7.heap.size rfl (.tmp 166) (.tmp 168) 33 69 (.slice none 0 0) 24 rfl Tryz.underlying33 info_row2 rfl (by decide) (by decide) (.slice A8 rows.length k8) rows row [.slice A5 row.length k5] (fun _ => True) (fun k => w0.heap.size ≤ k) rfl rfl HM.out HOK.out (fun _ _ => trivial) HO.out (Below.refl _ _) HQW.out.mu.size HL.out ?_))
              intro v1 w14 hr4 hb4 hg4 hat4
              obtain ⟨A9, k9, rfl⟩ := Kd.R_slice hr4
              obtain ⟨xl, hxl⟩ : ∃ xl, (rows ++ [row]).length = xl := ⟨_, rfl⟩
              rw [hxl] at hr4 ⊢
              have HQN := Lib.hid (HQW.out.putC hg4 HHB.out (.slice A9 xl k9))
              have HRN := Lib.hid (R_q hr4 HQ.out.lt ((Mut.refl (· = q) w14).set1 4 (.slice A9 xl k9)))
              have d4 := cell_blk (HQW.out.mid hg4 HHB.out).1 4 (v := .slice A8 rows.length k8) rfl
              have e4 := froz_blk (HQW.out.mid hg4 HHB.out).1 4
              clear hr4 hb4 hg4 hat4 y4 hxl
              go_wp2_with fail
              go_roundg gk0
              case measure => omega
              case rel => exact ⟨i2, j + 1, .slice A9 xl k9, rows ++ [row], by have := HKJ.out; omega, rfl, rfl, HI2, Lib.hid (by have := HRL.out; simp; omega), HQN, HRN, HSN⟩
            have t1 : (x == [99, 108, 105, 101, 110, 116]) = false := beq_eq_false_iff_ne.2 hcl
            go_wp2_with fail
            refine (rwords_any ⟨x.toArray⟩ HXZ.out wr).mono ?_
            rintro e w5 ⟨v5, outs5, rfl, hr5, ho5, hb5⟩
            obtain ⟨A6, k6, rfl⟩ := Kd.R_slice hr5
            have hc5 := (Kd.R_reads' hr5).2.2
            rw [bl_mk] at ho5
            obtain ⟨y5, ws5, hw5⟩ := words_ne x
            rw [hw5] at ho5
            obtain ⟨p0, ps, rfl, hp0, hps⟩ : ∃ p0 ps, outs5 = p0 :: ps ∧ bl p0 = y5 ∧ ps.map bl = ws5 := by
              cases outs5 with
              | nil => simp at ho5
              | cons a r => simp at ho5; exact ⟨a, r, rfl, ho5.1, ho5.2⟩
            obtain rfl := mk_of hp0
            obtain ⟨n6, hn6⟩ : ∃ n6, ((⟨y5.toArray⟩ : ByteArray) :: ps).length = n6 := ⟨_, rfl⟩
            rw [hn6] at hc5 ⊢
            have hpos6 : (0 : Int) < (n6 : Int) := by rw [← hn6]; simp
            obtain ⟨ad6, rfl, e6⟩ := str_cell hc5 0 (by omega) (x := ⟨y5.toArray⟩) rfl
            have x6 := e6 _ (Below.refl _ _)
            rw [show ad6.add 0 = ad6 by simp [Addr.add]] at x6
            have HFH := Lib.hid (first_head hw5)
            have HB55 := Lib.hid (B5.out.trans (hb5.mono B5.out.size))
            have HBi5 := Lib.hid (HBi.out.trans (hb5.mono HBi.out.size))
            have HBW5 := Lib.hid (HBWi.out.trans (hb5.mono HBWi.out.size))
            have HR5 := Lib.hid ((hb5.block _ (lt_of_block HRi.out)).trans HRi.out)
            have P55 := Lib.hid (Kd.R_below P5.out hb5)
            have HNC := Lib.hid hcl
            clear hr5 hc5 ho5 hp0 hps hn6 e6 hw5 hb5 x0 hcl
            by_cases hpk : y5 = kPicks
            · have HSN := Lib.hid (HSX.out () (by rw [HDR.out, pRow_stop (.inr (HFH.out.1 hpk))]))
              subst hpk
              rw [show (⟨kPicks.toArray⟩ : ByteArray) = ⟨#[112, 105, 99, 107, 115]⟩ from rfl] at x6
              -- EXIT2
              have HQW := Lib.hid (HQ.out.further HB55.out)
              have HM := Lib.hid (show kRow2.M w5 w7.heap.size (fun k => w0.heap.size ≤ k) row [.slice A5 row.length k5] from ⟨.slice A5 row.length k5, rfl, Kd.R_mono (Kd.R_lower (Kd.R_bound P55.out) HQ.out.mu.size) (fun k hk => hk.2.1)⟩)
              have HO := Lib.hid (Kd.R_below HRW.out HB55.out)
              have HHB := Lib.hid (Kd.R_base HRW.out)
              have HL := Lib.hid (show (rows.length + 1) * 24 ≤ 140737488355328 by have := HRL.out; have := HAN.out; omega)
              have y4 := cell_blk HQW.out.bx 4 (v := .slice A8 rows.length k8) rfl
              go_wp2_with (at_builtin; go_loud (refine Kd.R_append kRow2 (w0 := w5) w7.heap.size rfl (.tmp 166) (.tmp 168) 33 69 (.slice none 0 0) 24 rfl Tryz.underlying33 info_row2 rfl (by decide) (by decide) (.slice A8 rows.length k8) rows row [.slice A5 row.length k5] (fun _ => True) (fun k => w0.heap.size ≤ k) rfl rfl HM.out HOK.out (fun _ _ => trivial) HO.out (Below.refl _ _) HQW.out.mu.size HL.out ?_))
              intro v1 w14 hr4 hb4 hg4 hat4
              obtain ⟨A9, k9, rfl⟩ := Kd.R_slice hr4
              obtain ⟨xl, hxl⟩ : ∃ xl, (rows ++ [row]).length = xl := ⟨_, rfl⟩
              rw [hxl] at hr4 ⊢
              have HQN := Lib.hid (HQW.out.putC hg4 HHB.out (.slice A9 xl k9))
              have HRN := Lib.hid (R_q hr4 HQ.out.lt ((Mut.refl (· = q) w14).set1 4 (.slice A9 xl k9)))
              have d4 := cell_blk (HQW.out.mid hg4 HHB.out).1 4 (v := .slice A8 rows.length k8) rfl
              have e4 := froz_blk (HQW.out.mid hg4 HHB.out).1 4
              clear hr4 hb4 hg4 hat4 y4 hxl
              go_wp2_with fail
              go_roundg gk0
              case measure => omega
              case rel => exact ⟨i2, j + 1, .slice A9 xl k9, rows ++ [row], by have := HKJ.out; omega, rfl, rfl, HI2, Lib.hid (by have := HRL.out; simp; omega), HQN, HRN, HSN⟩
            have t2 : (y5 == [112, 105, 99, 107, 115]) = false := beq_eq_false_iff_ne.2 hpk
            have HNS := Lib.hid (show ¬ (x = kClient ∨ firstB x = kPicks) from fun h => h.elim HNC.out (fun h => hpk (HFH.out.2 h)))
            have x5 := HXC.out _ HBi5.out
            have HCALL := Lib.hid (rcall_any ⟨x.toArray⟩ HXZ.out w5)
            clear hpk
            go_wp2_with fail
            refine HCALL.out.mono ?_
            intro e w6 h6
            clear HCALL x5 x6
            rw [bl_mk] at h6
            cases hc : pCall (Scr.words x) with
            | none =>
              rw [hc] at h6
              obtain ⟨hb6, cc, Ac, nc, kc, rfl⟩ := h6
              have HERR := Lib.hid (HPE.out i2 (by rw [HSI.out, HDR.out, pRow_bad HNS.out hc]; rfl))
              have HBW6 := Lib.hid (HBW5.out.trans (hb6.mono HBW5.out.size))
              have HR6 := Lib.hid ((hb6.block _ (lt_of_block HR5.out)).trans HR5.out)
              clear hb6 hc
              simp only [bxCells]
              go_upto_region 23 with (fail)
              generalize hW8 : World.alloc w6 _ = w8
              have HBW8 := Lib.hid (show Below w.heap.size w w8 by rw [← hW8]; exact HBW6.out.alloc HBW6.out.size _)
              have HR8 := Lib.hid (show w8.heap[b]? = some (.cells scrZero 35 (0, 0)) by rw [← hW8]; exact alloc_blk HR6.out _)
              clear hW8
              go_wp2_with fail
              refine (bad_at (i2 : Int) i2 rfl _).mono ?_
              rintro e wz ⟨rfl, hbz⟩
              have HRz := Lib.hid ((hbz.block _ (lt_of_block HR8.out)).trans HR8.out)
              have HBz := Lib.hid (HBW8.out.trans (hbz.mono HBW8.out.size))
              clear hbz
              have v0 := cell_blk HRz.out 0 (v := .int .i64 0) rfl
              have g0 := froz_blk HRz.out 0
              have v1 := cell_blk HRz.out 1 (v := .int .i64 0) rfl
              have g1 := froz_blk HRz.out 1
              have v2 := cell_blk HRz.out 2 (v := .int .i64 0) rfl
              have g2 := froz_blk HRz.out 2
              have v3 := cell_blk HRz.out 3 (v := .int .i64 0) rfl
              have g3 := froz_blk HRz.out 3
              have v4 := cell_blk HRz.out 4 (v := .slice none 0 0) rfl
              have g4 := froz_blk HRz.out 4
              have v5 := cell_blk HRz.out 5 (v := .slice none 0 0) rfl
              have g5 := froz_blk HRz.out 5
              go_wp2_with fail
              obtain ⟨s1, s2⟩ := six_set HRz.out (.int .i64 0) (.int .i64 0) (.int .i64 0) (.int .i64 0) (.slice none 0 0) (.slice none 0 0)
              refine bodyPost_ret (v := .tuple #[.agg scrZero, .int .i64 (i2 : Int), .int .i64 210]) (rparse_results _ _ b scrZero _ _ rfl rfl rfl s1 rfl) rfl ?_
              have hbe : Below w.heap.size w _ := HBz.out.trans (s2.below HBz.out.size (fun k hk => by have := HBB.out; omega))
              refine ⟨hbe, ?_⟩
              first | (rw [HERR.out]; done) | (rw [HERR.out]; rfl)
            | some cd =>
              rw [hc] at h6
              obtain ⟨hb6, v6, rfl, hr6⟩ := h6
              obtain ⟨A7, k7, rfl⟩ := Kd.R_slice hr6
              have HCD := Lib.hid hc
              have HR6c := Lib.hid hr6
              have HB66 := Lib.hid hb6
              have HB06 := Lib.hid (HB55.out.trans (hb6.mono HB55.out.size))
              have HBW6 := Lib.hid (HBW5.out.trans (hb6.mono HBW5.out.size))
              have HR6 := Lib.hid ((hb6.block _ (lt_of_block HR5.out)).trans HR5.out)
              have P66 := Lib.hid (Kd.R_below P55.out hb6)
              clear hb6 hc hr6
              simp only [bxCells]
              go_upto_region 23 with (fail)
              generalize hW8 : World.alloc w6 _ = w8
              obtain ⟨cb, hcb⟩ : ∃ cb, w6.heap.size = cb := ⟨_, rfl⟩
              have hb68 : Below w6.heap.size w6 w8 := by rw [← hW8]; exact (Below.refl _ _).alloc (Nat.le_refl _) _
              have HBX := Lib.hid (show w8.heap[cb]? = some (.cells (bxCells cd (.slice A7 cd.ops.length k7)) 74 (0, 0)) by rw [← hW8, ← hcb]; exact alloc_new _ _)
              have HB08 := Lib.hid (HB06.out.trans (hb68.mono HB06.out.size))
              have HBW8 := Lib.hid (HBW6.out.trans (hb68.mono HBW6.out.size))
              have HR8 := Lib.hid ((hb68.block _ (lt_of_block HR6.out)).trans HR6.out)
              have P88 := Lib.hid (Kd.R_below P66.out hb68)
              have HRC8 := Lib.hid (Kd.R_below HR6c.out hb68)
              have HCB := Lib.hid (show w5.heap.size ≤ cb by rw [← hcb]; exact HB66.out.size)
              have HW58 := Lib.hid (show w0.heap.size ≤ w5.heap.size from HB55.out.size)
              have HLT5 := Lib.hid (Kd.R_lt P55.out)
              rw [hcb]
              clear hW8 hcb hb68
              by_cases h100 : row.length = 100
              · have HERR := Lib.hid (HPE.out i2 (by rw [HSI.out, HDR.out, pRow_many HNS.out HCD.out (by omega)]; rfl))
                have hn1 : ((row.length : Int) == 100) = true := by rw [h100]; rfl
                have hn3 : (row.length : Int) = 100 := by omega
                clear h100
                go_wp2_with fail
                refine (bad_at (i2 : Int) i2 rfl _).mono ?_
                rintro e wz ⟨rfl, hbz⟩
                have HRz := Lib.hid ((hbz.block _ (lt_of_block HR8.out)).trans HR8.out)
                have HBz := Lib.hid (HBW8.out.trans (hbz.mono HBW8.out.size))
                clear hbz
                have v0 := cell_blk HRz.out 0 (v := .int .i64 0) rfl
                have g0 := froz_blk HRz.out 0
                have v1 := cell_blk HRz.out 1 (v := .int .i64 0) rfl
                have g1 := froz_blk HRz.out 1
                have v2 := cell_blk HRz.out 2 (v := .int .i64 0) rfl
                have g2 := froz_blk HRz.out 2
                have v3 := cell_blk HRz.out 3 (v := .int .i64 0) rfl
                have g3 := froz_blk HRz.out 3
                have v4 := cell_blk HRz.out 4 (v := .slice none 0 0) rfl
                have g4 := froz_blk HRz.out 4
                have v5 := cell_blk HRz.out 5 (v := .slice none 0 0) rfl
                have g5 := froz_blk HRz.out 5
                go_wp2_with fail
                obtain ⟨s1, s2⟩ := six_set HRz.out (.int .i64 0) (.int .i64 0) (.int .i64 0) (.int .i64 0) (.slice none 0 0) (.slice none 0 0)
                refine bodyPost_ret (v := .tuple #[.agg scrZero, .int .i64 (i2 : Int), .int .i64 210]) (rparse_results _ _ b scrZero _ _ rfl rfl rfl s1 rfl) rfl ?_
                have hbe : Below w.heap.size w _ := HBz.out.trans (s2.below HBz.out.size (fun k hk => by have := HBB.out; omega))
                refine ⟨hbe, ?_⟩
                first | (rw [HERR.out]; done) | (rw [HERR.out]; rfl)
              have hn1 : ((row.length : Int) == 100) = false := beq_eq_false_iff_ne.2 (by omega)
              have hn3 : ¬ (row.length : Int) = 100 := by omega
              have HSJ := Lib.hid (show pScript L = rTail an b' c d (rCl (an - (j + 1)) rows (pRow (L.drop (i2 + 1)) (i2 + 1) (row ++ [cd]))) by
                rw [HSI.out, HDR.out, pRow_more HNS.out HCD.out (by have := HR100.out; omega)])
              have HR101 := Lib.hid (show row.length + 1 ≤ 100 by have := HR100.out; omega)
              clear h100
              have y0 := cell_blk HBX.out 0 (v := .int .i64 cd.k) rfl
              have y1 := cell_blk HBX.out 1 (v := .slice A7 cd.ops.length k7) rfl
              have y2 := cell_blk HBX.out 2 (v := .int .i64 cd.q.k) rfl
              have y3 := cell_blk HBX.out 3 (v := .int .i64 cd.q.i) rfl
              have y4 := cell_blk HBX.out 4 (v := .int .i64 cd.q.b) rfl
              have y5 := cell_blk HBX.out 5 (v := .string cd.q.x) rfl
              have HM := Lib.hid (show (kCall 120).M w8 w0.heap.size (fun k => w5.heap.size ≤ k) cd [.int .i64 cd.k, .slice A7 cd.ops.length k7, .int .i64 cd.q.k, .int .i64 cd.q.i, .int .i64 cd.q.b, .string cd.q.x] from
                kCall_M (Kd.R_mono (Kd.R_lower (Kd.R_bound HRC8.out) HW58.out) (fun k hk => hk.2.1)))
              have HOK2 := Lib.hid (show ∀ k, w5.heap.size ≤ k → (fun _ : Nat => True) k ∧ some k ≠ (Value.slice A5 row.length k5).ownBlock from fun k hk => ⟨trivial, fun he => by have := HLT5.out k he.symm; omega⟩)
              have HL := Lib.hid (show (row.length + 1) * 72 ≤ 140737488355328 by have := HR101.out; omega)
              have q2 : IntKind.i64.wrap ((i2 : Int) + 1) = (i2 : Int) + 1 := wrap_next' (by have := HNN.out; have := HI2.out; omega)
              go_wp2_with (at_builtin; go_loud (refine Kd.R_append (kCall 120) (w0 := w8) w0.heap.size rfl (.tmp 159) (.tmp 161) 69 74 (.agg callZero) 72 rfl Tryz.underlying69 info_call2 rfl (by decide) (by decide) (.slice A5 row.length k5) row cd [.int .i64 cd.k, .slice A7 cd.ops.length k7, .int .i64 cd.q.k, .int .i64 cd.q.i, .int .i64 cd.q.b, .string cd.q.x] (fun _ => True) (fun k => w5.heap.size ≤ k) rfl rfl HM.out HOK2.out (fun _ _ => trivial) P88.out (Below.refl _ _) HB08.out.size HL.out ?_))
              intro v9 w9 hr9 hb9 hg9 hat9
              have HRN := Lib.hid hr9
              have HBN := Lib.hid (show Below w0.heap.size w0 w9 from HB08.out.trans hb9)
              clear hr9 hb9 hg9 hat9 y0 y1 y2 y3 y4 y5
              go_wp2_with fail
              go_roundg gk1
              case measure => omega
              case rel => exact ⟨i2 + 1, row ++ [cd], v9, by have := HKI.out; omega, rfl, rfl, HRN, HBN, Lib.hid (by have := HR101.out; simp; omega), HSJ⟩
end Go.Proofs.YtjcdpccfhpbccaaGreatDoor
