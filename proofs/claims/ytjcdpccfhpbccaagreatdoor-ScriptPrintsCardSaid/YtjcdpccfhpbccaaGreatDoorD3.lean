/-
  The walk of a call's line: submit.
-/
import Derived.Test.YtjcdpccfhpbccaaGreatDoorD2
import Derived.Deep.RegionLaw
import Derived.RegionDies
namespace Go.Proofs.YtjcdpccfhpbccaaGreatDoor
open Go.RowKit Go.Proofs.YtjcdpccfhpbccaaGreatDoorW.PrintWords

def subCells (u : Value) : Array Value := #[.int .i64 1, u, .int .i64 0, .int .i64 0, .int .i64 0, .string ⟨#[]⟩]
theorem subCells_one (A : Option Addr) (n c : Nat) : (subCells (.slice A n c)).all (·.oneCell') = true := by kernel_rfl

def pSubmit (ws : List (List UInt8)) : Option CallD := (pOps ws).bind fun l => if l.length ≤ 20 then some ⟨1, l, qZero⟩ else none
theorem info_op : (Tryz.prog.info? 48).map (fun i => (i.zero, i.size, i.bytes)) = some (some (.agg opZero), 6, 64) := by kernel_rfl

/-- What holds in the loop over a call's operations. -/
structure SubSt (w W : World) (r l : Nat) (v : Value) (n : Int) (u : Value) (xs : List OpD) (ws : List (List UInt8)) : Prop where
  st : CallSt w W r l v n (subCells u) ws
  own : kOp.R 48 W w.heap.size (fun k => k ≠ l ∧ k ≠ r ∧ k ≠ w.heap.size) u xs
namespace SubSt
variable {w W W1 : World} {r l : Nat} {v u u1 : Value} {n : Int} {xs : List OpD} {ws ws' : List (List UInt8)} {o : OpD}
theorem next (h : SubSt w W r l v n u xs ws) (hl : LnW W1 l r ws') (hm : Mut (· = l) W W1) : SubSt w W1 r l v n u xs ws' :=
  ⟨h.st.next hl hm, R_mut h.own hm (fun _ hk he => hk.1 he)⟩
theorem below (h : SubSt w W r l v n u xs ws) (hb : Below W.heap.size W W1) : SubSt w W1 r l v n u xs ws := h.next (h.st.ln.below hb) (Mut.of_below hb _)
theorem drew (h : SubSt w W r l v n u xs ws) : SubSt w W.drew r l v n u xs ws := h.below (below_drew (Below.refl _ _))
theorem notc (h : SubSt w W r l v n u xs ws) : some w.heap.size ≠ u.ownBlock := fun he => (h.own.1 _ he.symm).2.2 rfl
theorem c1 (h : SubSt w W r l v n u xs ws) : W.cell? ⟨w.heap.size, 1, none⟩ = some u := cell_blk h.st.rs 1 rfl
theorem f1 (h : SubSt w W r l v n u xs ws) : W.frozen? ⟨w.heap.size, 1, none⟩ = false := froz_blk h.st.rs 1
/-- Behind the append. -/
theorem app (h : SubSt w W r l v n u xs ws) (hr : kOp.R 48 W1 w.heap.size (fun k => k ≠ l ∧ k ≠ r ∧ k ≠ w.heap.size) u1 (xs ++ [o])) (hg : W.grownBy W1 u.ownBlock) :
    LnW W1 l r ws ∧ RdAt W1 r v n ∧ W1.heap[w.heap.size]? = some (.cells (subCells u) 53 (0, 0)) ∧ Glob W1 ∧ Mut (· = r) w W1 := by
  have hm : Mut (fun k => some k = u.ownBlock) W W1 := ⟨hg.os, hg.tape, hg.output, hg.size, fun k hk hn => hg.block k hk hn⟩
  have e0 := h.own
  have hbase : ∀ k, some k = u.ownBlock → w.heap.size ≤ k := fun k hk => by
    rcases Kd.R_base2 h.own with hb | ⟨k2, hk2, hb⟩
    · rw [hb] at hk; cases hk
    · rw [hk2] at hk; injection hk with hk; omega
  refine ⟨h.st.ln.mut hm (fun he => (h.own.1 _ he.symm).1 rfl), h.st.rd.mut hm (fun he => (h.own.1 _ he.symm).2.1 rfl), hm.blk h.st.rs (fun he => (h.own.1 _ he.symm).2.2 rfl), h.st.gl.mut hm (fun k hk => by have := hbase k hk; have := h.st.w6; omega), h.st.mu.trans hm (fun i hi => .inr (hbase i hi))⟩
theorem put (h : SubSt w W r l v n u xs ws) (hr : kOp.R 48 W1 w.heap.size (fun k => k ≠ l ∧ k ≠ r ∧ k ≠ w.heap.size) u1 (xs ++ [o])) (hg : W.grownBy W1 u.ownBlock) :
    SubSt w (W1.setCell ⟨w.heap.size, 1, none⟩ u1) r l v n u1 (xs ++ [o]) ws := by
  obtain ⟨h1, h2, h3, h4, h5⟩ := h.app hr hg
  have hS : CallSt w W1 r l v n (subCells u) ws := ⟨h1, h2, h3, h4, h5, h.st.rl, h.st.l6, h.st.lw, h.st.rw_, h.st.w6⟩
  exact ⟨hS.set 1 u1, R_mut hr ((Mut.refl (· = w.heap.size) W1).set1 1 u1) (fun _ hk he => hk.2.2 he)⟩
theorem lt_l (h : SubSt w W r l v n u xs ws) : l < W.heap.size := by
  obtain ⟨s, m, h1, _⟩ := h.st.ln
  exact lt_of_block h1
theorem hfr (h : SubSt w W r l v n u xs ws) : ∀ k, W.heap.size ≤ k → k ≠ l ∧ k ≠ r ∧ k ≠ w.heap.size := fun k hk => by
  have h1 := h.lt_l
  have h2 := lt_of_block h.st.rd
  have h3 := h.st.lw
  exact ⟨by omega, by omega, by omega⟩
end SubSt

set_option maxRecDepth 100000 in
set_option maxHeartbeats 2000000 in
theorem call_submit (r b off L c n : Nat) (s : ByteArray) (ws : List (List UInt8)) (w : World) (res : Option CallD) (hL : Line w r b off L c n s) (hw : Scr.words (bl s) = kSubmit :: ws) (hres : pSubmit ws = res) :
    Calls Tryz.prog 50 #[.pointer (some ⟨r, 0, none⟩)] w (CallPost r (.slice (some ⟨b, off, none⟩) L c) n w res) := by
  have hlt := lt_of_block hL.rd
  have HL := Lib.hid hL
  have HW := Lib.hid hw
  have HRES := Lib.hid hres
  clear hL hw hres
  go_enter Tryz.func50, Tryz.ntmps50
  go_wp2_with fail
  have HL0 := Lib.hid (HL.out.below ((Below.refl _ _).alloc (Nat.le_refl _) (.cells callZero 53)))
  refine (line_yes r b off L c n s _ HL0.out.rd HL0.out.lt (by have := HL0.out.max; omega) HL0.out.cell).mono ?_
  rintro e w1 ⟨l, rfl, hl, hln, hb1⟩
  have hl2 : w.heap.size < l := by simp at hl; omega
  have S := Lib.hid (show CallSt w w1 r l (.slice (some ⟨b, off, none⟩) L c) n callZero ([115, 117, 98, 109, 105, 116] :: ws) from
    ⟨HW.out ▸ LnW.of hln HL0.out.size, HL0.out.rd.below hb1, (hb1.block _ (by simp)).trans (alloc_new _ _), HL0.out.gl.below hb1, ((Mut.refl _ w).alloc _).then_below hb1, by omega, by have := HL0.out.r6; omega, hl2, hlt, HL.out.gl.size⟩)
  clear hln hb1 hl
  go_wp2_with fail
  refine (wordW_yes l r [115, 117, 98, 109, 105, 116] ws w1 S.out.ln).mono ?_
  rintro e w2 ⟨rfl, hx, hl3, hm3⟩
  have S2 := Lib.hid (S.out.next hl3 hm3)
  have z0 := cell_blk S2.out.rs 0 (v := .int .i64 0) rfl
  have f0 := froz_blk S2.out.rs 0
  have S3 := Lib.hid (show SubSt w (w2.setCell ⟨w.heap.size, 0, none⟩ (.int .i64 1)) r l (.slice (some ⟨b, off, none⟩) L c) n (.slice none 0 0) [] ws from ⟨S2.out.set 0 (.int .i64 1), Kd.R_nil _ _ _ _ _⟩)
  clear hl3 hm3 S
  go_wp2_with fail
  go_loopg [] ws.length (fun k wr => ∃ xs ws1 u, k = ws1.length ∧ Hid (xs.length + ws1.length ≤ ws.length) ∧ Hid (pOps ws = (pOps ws1).map (xs ++ ·)) ∧ Hid (SubSt w wr r l (.slice (some ⟨b, off, none⟩) L c) n u xs ws1))
  case atStart => exact ⟨[], ws, _, rfl, Lib.hid (by simp), Lib.hid (by cases pOps ws <;> simp), S3⟩
  case round =>
    obtain ⟨xs, ws1, u, hk, HLEN, HPO, T⟩ := hrel
    have hk' := Lib.hid hk
    clear hk
    have hm2 := T.out.st.ln.more
    obtain ⟨A, cap, rfl⟩ := Kd.R_slice T.out.own
    have z1 := T.out.c1
    have z2 := cell_blk T.out.st.rs 0 (v := .int .i64 1) rfl
    have f1 := T.out.f1
    cases ws1 with
    | nil =>
      simp only [List.isEmpty_nil, Bool.not_true] at hm2
      have hpo : pOps ws = some xs := by rw [HPO.out, pOps_nil]; simp
      by_cases hgt : 20 < xs.length
      · have hnone : res = none := by
          rw [← HRES.out, pSubmit, hpo]
          show (if xs.length ≤ 20 then some _ else none) = none
          rw [if_neg (by omega)]
        subst hnone
        have ht : decide (20 < (xs.length : Int)) = true := decide_eq_true (by omega)
        clear hpo hgt
        go_wp2_with fail
        refine (give_any r _ n _ T.out.st.rd).mono ?_
        rintro e w4 ⟨rfl, rfl⟩
        exact ⟨rfl, rfl, T.out.st.mu⟩
      · have hsome : res = some ⟨1, xs, qZero⟩ := by
          rw [← HRES.out, pSubmit, hpo]
          show (if xs.length ≤ 20 then some _ else none) = _
          rw [if_pos (by omega)]
        subst hsome
        have ht : decide (20 < (xs.length : Int)) = false := decide_eq_false (by omega)
        have hn0 := HL.out.lt
        have hn1 := HL.out.max
        have hn2 : (n : Int) < 9223372036854775807 := by omega
        have HN := Lib.hid hn2
        clear hn2 hpo hgt
        go_wp2_with fail
        refine (endW_yes l r _ n (by omega) HN.out _ T.out.st.ln T.out.st.rd).mono ?_
        rintro e w4 ⟨rfl, hr4, hm4⟩
        have hs4 := hm4.blk T.out.st.rs (by omega)
        have HS4 := Lib.hid hs4
        have HR4 := Lib.hid hr4
        have HO4 := Lib.hid (R_mut T.out.own hm4 (fun _ hk he => hk.2.1 he))
        have HM4 := Lib.hid (T.out.st.mu.trans hm4 (fun i hi => .inl hi))
        clear hs4 hr4 hm4
        go_wp2_with (first | (refine wpList_load_row rfl 53 _ rfl w.heap.size rfl 53 _ (0, 0) _ HS4.out Tryz.underlying53 rfl call_info ?_) | (refine wpList_store_row rfl 53 _ _ rfl w.heap.size (subCells (.slice A xs.length cap)) rfl rfl 53 _ HS4.out call_info rfl (subCells_one _ _ _) ?_))
        refine bodyPost_ret (v := .agg (subCells (.slice A xs.length cap))) (results_cell_row rfl _ _ w.heap.size 53 (subCells (.slice A xs.length cap)) (0, 0) _ rfl (setRow_heap w4 w.heap.size _ _ _ _ HS4.out) Tryz.underlying53 rfl call_info) rfl ?_
        exact ⟨.slice A xs.length cap, rfl, Kd.R_mono (R_mut HO4.out ((Mut.refl (· = w.heap.size) w4).setRow (.inl rfl) _) (fun _ hk he => hk.2.2 he)) (fun _ _ => trivial), HR4.out.mut ((Mut.refl (· = w.heap.size) w4).setRow (.inl rfl) _) (by omega), HM4.out.setRow (.inr (Nat.le_refl _)) _⟩
    | cons y ws1 =>
      simp only [List.isEmpty_cons, Bool.not_false] at hm2
      have D := Lib.hid T.out.drew
      have d1 := D.out.c1
      cases hp : pOp (y :: ws1) with
      | none =>
        have HP := Lib.hid hp
        clear hp
        have hnone : res = none := by
          rw [← HRES.out, pSubmit, HPO.out, pOps_none (by simp) HP.out]
          rfl
        subst hnone
        go_wp2_with fail
        go_region_dies
        all_goals
          refine (operation_any l r _ _ n _ D.out.st.gl D.out.st.ln D.out.st.rd D.out.st.rl D.out.st.l6).mono ?_
          intro e w3 h3
          unfold OpPost at h3
          rw [HP.out] at h3
          obtain ⟨rfl, hm3⟩ := h3
          exact ⟨rfl, rfl, D.out.st.mu.trans hm3 (fun i hi => .inr (by have := D.out.st.lw; omega))⟩
      | some q =>
        obtain ⟨o, ws2⟩ := q
        have HP := Lib.hid hp
        clear hp
        have HB64 : Hid ((xs.length + 1) * 64 ≤ 140737488355328) := Lib.hid (by have h2 := S3.out.st.ln.count; have h1 := HLEN.out; simp only [List.length_cons] at h1; omega)
        go_wp2_with fail
        go_region_law (first
          | (go_simp
             go_at_call 67
             refine (operation_any l r _ _ n _ D.out.st.gl D.out.st.ln D.out.st.rd D.out.st.rl D.out.st.l6).mono ?_
             intro e w3 h3
             unfold OpPost at h3
             rw [HP.out] at h3
             obtain ⟨rfl, hl3, hm3⟩ := h3
             have D3 := Lib.hid (D.out.next hl3 hm3)
             have d3 := D3.out.c1
             have d5 : ∀ ob, (w3.alloc ob).cell? ⟨w.heap.size, 1, none⟩ = some (.slice A xs.length cap) := fun ob => cell_blk (alloc_blk D3.out.st.rs ob) 1 rfl
             clear hl3 hm3
             simp only [opV])
          | (refine Kd.R_append_step kOp (w0 := _) w.heap.size (by rfl) (.tmp 18) (.tmp 21) 49 48 (.agg opZero) 64 rfl Tryz.underlying49 info_op rfl (by decide) (by decide) _ xs o [.int .i64 o.k, .int .i64 o.i, .int .i64 o.t, .int .i64 o.a, .string o.n, .string o.x] _ (fun _ => False) rfl rfl (kOp_M _ _ _ _) (fun _ h => h.elim) D3.out.hfr D3.out.own (Below.refl _ _) (Nat.le_of_lt (Nat.lt_of_lt_of_le D3.out.st.lw (Nat.le_of_lt D3.out.lt_l))) HB64.out ?_
             intro v1 w4 hr4 hb4 hg4 hat4
             obtain ⟨A1, cap1, rfl⟩ := Kd.R_slice hr4
             have D4 := Lib.hid (D3.out.put hr4 hg4)
             have F4 := Lib.hid (D3.out.app hr4 hg4)
             have d4 := cell_blk F4.out.2.2.1 1 (v := .slice A xs.length cap) rfl
             have e4 := froz_blk F4.out.2.2.1 1
             clear hr4 hb4 hg4 hat4 F4))
        all_goals
          go_wp2_with fail
          go_roundg ws2.length
          case measure => rw [hk'.out]; exact pOp_lt HP.out
          case rel => exact ⟨xs ++ [o], ws2, _, rfl, Lib.hid (by have h1 := HLEN.out; have h2 := pOp_lt HP.out; simp only [List.length_append, List.length_cons, List.length_nil] at h1 h2 ⊢; omega), Lib.hid (by rw [HPO.out, pOps_some HP.out]; cases pOps ws2 <;> simp), by rw [show (xs ++ [o]).length = xs.length + 1 by simp] at D4; exact D4⟩
end Go.Proofs.YtjcdpccfhpbccaaGreatDoor
