/-
  The walk of Parse.
-/
import Derived.Test.YtjcdpccfhpbccaaGreatDoorE4
namespace Go.Proofs.YtjcdpccfhpbccaaGreatDoor
open Go.RowKit Go.Proofs.YtjcdpccfhpbccaaGreatDoorW.PrintWords

set_option maxRecDepth 100000 in
set_option maxHeartbeats 1000000 in
theorem closed_idle (p0 p1 p2 : Nat) (w : World) :
    CallsD Tryz.prog 15 #[.pointer (some ⟨p0, 0, none⟩), .pointer (some ⟨p1, 0, none⟩), .pointer (some ⟨p2, 0, none⟩)] .returning w fun e u' w' =>
      e = .returned (.tuple #[]) ∧ u' = .returning ∧ w' = w := by
  refine callsD_of_wpS Tryz.func15 rfl fun c₀ cs hu => ?_
  apply wpS_seq
  apply wpS_region
  simp [wpOpsS, go_sem, recoverD, hu, Tryz.ntmps15, Exit.thenS]
  refine wpS_of_wp ?_
  show Code.wp _ _ _ { tmps := #[.pointer (some ⟨p0, 0, none⟩), .pointer (some ⟨p1, 0, none⟩), .pointer (some ⟨p2, 0, none⟩), undef, undef, undef, .nilIface, undef, undef, undef, undef, undef, undef, undef], defers := [] } _
  go_wp2_with fail
  simp [bodyPostS, results, Tryz.results15]
  cases c₀
  simp_all

def pParse (ps : List (List UInt8)) : Except Nat ScrD :=
  match pScript ps.dropLast with
  | .error m => .error m
  | .ok (s, m) => if m < ps.length - 1 ∨ ps.getLast? ≠ some [] then .error m else .ok s
/-- What Parse says at its end. -/
def ParsePost (w : World) (res : Except Nat ScrD) (e : Ending) (w' : World) : Prop :=
  match res with
  | .error m => e = .returned (.tuple #[.agg scrZero, .int .i64 m, .int .i64 210]) ∧ Below w.heap.size w w'
  | .ok s => ∃ vc vp, e = .returned (.tuple #[.agg #[.int .i64 s.clients, .int .i64 s.shift, .int .i64 s.recs, .int .i64 s.chunks, vc, vp], .int .i64 0, .int .i64 0]) ∧ kRow.R 45 w' w.heap.size (fun _ => True) vc s.calls ∧ (Kd.int .u8).R 5 w' w.heap.size (fun _ => True) vp s.picks ∧ Below w.heap.size w w'

theorem parse_results (tmps : Array Value) (w : World) (p0 p1 p2 : Nat) (cs : Array Value) (a b : Int) (t2 : tmps[2]? = some (.pointer (some ⟨p0, 0, none⟩))) (t3 : tmps[3]? = some (.pointer (some ⟨p1, 0, none⟩))) (t4 : tmps[4]? = some (.pointer (some ⟨p2, 0, none⟩)))
    (h0 : w.heap[p0]? = some (.cells cs 28 (0, 0))) (hs : cs.size = 6) (h1 : w.heap[p1]? = some (.cells #[.int .i64 a] 3 (0, 0))) (h2 : w.heap[p2]? = some (.cells #[.int .i64 b] 29 (0, 0))) :
    (results Tryz.f6 tmps).run Tryz.prog w = .ok (.tuple #[.agg cs, .int .i64 a, .int .i64 b]) w := by
  have c1 := cell_blk h1 0 (v := .int .i64 a) rfl
  have c2 := cell_blk h2 0 (v := .int .i64 b) rfl
  match cs, hs, h0 with
  | ⟨[v0, v1, v2, v3, v4, v5]⟩, _, h0 =>
    have z0 := cell_blk h0 0 (v := v0) rfl
    have z1 := cell_blk h0 1 (v := v1) rfl
    have z2 := cell_blk h0 2 (v := v2) rfl
    have z3 := cell_blk h0 3 (v := v3) rfl
    have z4 := cell_blk h0 4 (v := v4) rfl
    have z5 := cell_blk h0 5 (v := v5) rfl
    simp [results, Tryz.results6, t2, t3, t4, asAddr, go_sem, z0, z1, z2, z3, z4, z5, c1, c2, Result.andThen]

/-- The end where a line is wrong. -/
theorem parse_gave {m : Nat} (tmps : Array Value) (ds : List Deferred) (w w6 : World) (p0 p1 p2 : Nat) (c0 : Array Value) (x y : Int) (k0 : w6.heap[p0]? = some (.cells c0 28 (0, 0))) (hs : c0.size = 6)
    (k1 : w6.heap[p1]? = some (.cells #[.int .i64 x] 3 (0, 0))) (k2 : w6.heap[p2]? = some (.cells #[.int .i64 y] 29 (0, 0)))
    (b0 : w.heap.size ≤ p0) (b1 : w.heap.size ≤ p1) (b2 : w.heap.size ≤ p2) (h01 : p0 ≠ p1) (h02 : p0 ≠ p2) (h12 : p1 ≠ p2)
    (t2 : tmps[2]? = some (.pointer (some ⟨p0, 0, none⟩))) (t3 : tmps[3]? = some (.pointer (some ⟨p1, 0, none⟩))) (t4 : tmps[4]? = some (.pointer (some ⟨p2, 0, none⟩)))
    (hd : ds = [{ target := .fn (.func 15) #[.pointer (some ⟨p0, 0, none⟩), .pointer (some ⟨p1, 0, none⟩), .pointer (some ⟨p2, 0, none⟩)], args := #[] }]) (hb : Below w.heap.size w w6) :
    bodyPostD Tryz.prog Tryz.f6 (ParsePost w (.error m)) (.panic [{ v := .iface 55 (.int .i64 m), recovered := false }]) { tmps := tmps, defers := ds } w6 := by
  subst hd
  refine leaves_cons (f := 15) (args := #[.pointer (some ⟨p0, 0, none⟩), .pointer (some ⟨p1, 0, none⟩), .pointer (some ⟨p2, 0, none⟩)]) (by simp) (by simp [go_sem]) ?_
  refine (closed_wrong p0 p1 p2 m x y c0 w6 k0 hs k1 k2 h01 h02 h12).mono ?_
  rintro e u' w'' ⟨rfl, rfl, rfl⟩
  have e1 : (w6.setRow p0 scrZero).heap[p1]? = some (.cells #[.int .i64 x] 3 (0, 0)) := (setRow_other w6 p0 p1 scrZero (Ne.symm h01)).trans k1
  have e2 : (w6.setRow p0 scrZero).heap[p2]? = some (.cells #[.int .i64 y] 29 (0, 0)) := (setRow_other w6 p0 p2 scrZero (Ne.symm h02)).trans k2
  have e0 : (w6.setRow p0 scrZero).heap[p0]? = some (.cells scrZero 28 (0, 0)) := setRow_heap w6 p0 _ _ _ _ k0
  refine ⟨_, parse_results tmps _ p0 p1 p2 scrZero m 210 t2 t3 t4 (set_blk_ne (set_blk_ne e0 h01 0 _) h02 0 _) rfl (set_blk_ne (set_blk e1 0 _) h12 0 _) (set_blk (set_blk_ne e2 (Ne.symm h12) 0 _) 0 _), rfl, ?_⟩
  have hm : Mut (fun k => w.heap.size ≤ k) w w6 := ⟨hb.os, hb.tape, hb.output, hb.size, fun k hk _ => hb.block k hk⟩
  exact (((hm.setRow (.inl b0) scrZero).set (p := ⟨p1, 0, none⟩) (.inl b1) _).set (p := ⟨p2, 0, none⟩) (.inl b2) _).below (Nat.le_refl _) (fun _ h => h)

/-- The world in which the lines are read. -/
structure ParseSt (w W : World) (N : Nat) (ls : List ByteArray) (z : ByteArray) : Prop where
  rd : Rd W (w.heap.size + 3 + 1) (w.heap.size + 3) 0 N (N + 1) 0 ls
  p0 : W.heap[w.heap.size]? = some (.cells scrZero 28 (0, 0))
  p1 : W.heap[w.heap.size + 1]? = some (.cells #[.int .i64 0] 3 (0, 0))
  p2 : W.heap[w.heap.size + 1 + 1]? = some (.cells #[.int .i64 0] 29 (0, 0))
  last : W.cell? ⟨w.heap.size + 3, N, none⟩ = some (.string z)
  be : Below w.heap.size w W

set_option maxRecDepth 100000 in
set_option maxHeartbeats 2000000 in
theorem parse_any (s : ByteArray) (hs : s.size ≤ 4294967280) (w : World) (hG : Glob w) (res : Except Nat ScrD) (hres : pParse (pieces (bl s)) = res) :
    Calls Tryz.prog 6 #[.string s] w (ParsePost w res) := by
  have HRES := Lib.hid hres
  have HG := Lib.hid hG
  have HS := Lib.hid hs
  clear hres hG hs
  obtain ⟨M, hM⟩ := HG.out.big
  obtain ⟨N, hN⟩ : ∃ N, Lib.countB s ⟨#[10]⟩ = N := ⟨_, rfl⟩
  obtain ⟨pcs, hpcs⟩ : ∃ pcs, Lib.splitB ⟨#[10]⟩ 0 N s = pcs := ⟨_, rfl⟩
  have hp : pcs.map bl = pieces (bl s) ∧ pcs.length = N + 1 := by
    obtain ⟨e1, e2⟩ := split_pieces _ (bl s) (Nat.le_refl _)
    have e3 : Lib.count (bl s) [10] = N := hN
    rw [e3] at e1 e2
    have e4 : pcs.map bl = pieces (bl s) := by rw [← hpcs]; exact (Lib.splitB_data _ _ _ _).trans e1
    exact ⟨e4, by rw [← e2, ← e4, List.length_map]⟩
  have HP := Lib.hid hp.1
  have hlen := hp.2
  have HSP := Lib.hid (And.intro hN hpcs)
  have hNmax : N ≤ 4294967280 := by
    have h1 := pieces_count (bl s)
    have h2 := HS.out
    rw [← hp.1, List.length_map, hlen, ← size_bl] at h1
    omega
  have HNM := Lib.hid hNmax
  have q8 : wrap64 (N : Int) = N := wrap_small (by omega)
  clear hN hpcs hp hNmax
  have hmf : ∀ (fn : Fn) (first cap : Array Value) (w : World), (Instr.makeFunc fn first cap).run Tryz.prog w = .ok (.func fn first cap) w := fun _ _ _ _ => rfl
  go_enter_defers Tryz.func6, Tryz.ntmps6
  go_wp2_with fail
  generalize hW3 : World.alloc (World.alloc (World.alloc w _) _) _ = w3
  have hW : w3 = ((w.alloc (.cells scrZero 28)).alloc (.cells #[.int .i64 0] 3)).alloc (.cells #[.int .i64 0] 29) := hW3.symm
  have hsz : w3.heap.size = w.heap.size + 3 := by rw [hW]; simp
  have hq : w3.heap[w.heap.size]? = some (.cells scrZero 28 (0, 0)) ∧ w3.heap[w.heap.size + 1]? = some (.cells #[.int .i64 0] 3 (0, 0)) ∧ w3.heap[w.heap.size + 2]? = some (.cells #[.int .i64 0] 29 (0, 0)) := by
    rw [hW]
    refine ⟨alloc_blk (alloc_blk (alloc_new _ _) _) _, ?_, ?_⟩
    · exact alloc_blk (by have := alloc_new (w.alloc (.cells scrZero 28)) (.cells #[.int .i64 0] 3); simpa using this) _
    · have := alloc_new ((w.alloc (.cells scrZero 28)).alloc (.cells #[.int .i64 0] 3)) (.cells #[.int .i64 0] 29)
      simpa using this
  have hbe : Below w.heap.size w w3 := by
    rw [hW]
    exact (((Below.refl _ _).alloc (Nat.le_refl _) _).alloc (by simp) _).alloc (by simp; omega) _
  have HB3 := Lib.hid hbe
  have HQ3 := Lib.hid hq
  have HM3 := Lib.hid ((hbe.cell (p := ⟨0, 0, none⟩) (World.block_lt_of_cell? _ _ hM)).trans hM)
  clear hW3 hW hq hbe
  refine (Tryz.strings_Split s ⟨#[10]⟩ M w3 (by have := HS.out; omega) HM3.out (by decide)).mono ?_
  rintro e w4 ⟨rfl, rfl⟩
  rw [HSP.out.1, HSP.out.2, hsz]
  go_wp2_with fail
  generalize hW5 : World.alloc (World.alloc w3 _) _ = w5
  have hW : w5 = (w3.alloc (.cells (pcs.map Value.string).toArray 9)).alloc (.cells #[.slice (some ⟨w.heap.size + 3, 0, none⟩) N (N + 1), .int .i64 0] 60) := hW5.symm
  have hP : ParseSt w w5 N (pcs.take N) (pcs[N]'(by omega)) := by
    have hb35 : Below w3.heap.size w3 w5 := by
      rw [hW]
      exact ((Below.refl _ _).alloc (Nat.le_refl _) _).alloc (by simp) _
    have hl : w5.heap[w.heap.size + 3]? = some (.cells (pcs.map Value.string).toArray 9 (0, 0)) := by
      rw [hW]
      refine alloc_blk ?_ _
      have := alloc_new w3 (.cells (pcs.map Value.string).toArray 9)
      rw [hsz] at this
      exact this
    have hr : w5.heap[w.heap.size + 3 + 1]? = some (.cells #[.slice (some ⟨w.heap.size + 3, 0, none⟩) N (N + 1), .int .i64 0] 60 (0, 0)) := by
      rw [hW]
      have := alloc_new (w3.alloc (.cells (pcs.map Value.string).toArray 9)) (.cells #[.slice (some ⟨w.heap.size + 3, 0, none⟩) N (N + 1), .int .i64 0] 60)
      simp only [World.alloc, Array.size_push] at this ⊢
      rw [hsz] at this
      exact this
    have hcell : ∀ i z, pcs[i]? = some z → w5.cell? ⟨w.heap.size + 3, i, none⟩ = some (.string z) := fun i z hz => cell_blk hl i (by simp [hz])
    refine ⟨⟨hr, by simp; omega, by have := HNM.out; omega, fun i z hz => ?_, fun z hz => ?_, HG.out.below (HB3.out.trans (hb35.mono (by omega))), by have := HG.out.size; omega, by omega, lt_of_block hl⟩, ?_, ?_, ?_, hcell N _ (List.getElem?_eq_getElem (by omega)), HB3.out.trans (hb35.mono (by omega))⟩
    · rw [Nat.zero_add]
      refine hcell i z ?_
      rw [List.getElem?_take] at hz
      split at hz
      · exact hz
      · cases hz
    · have h1 : bl z ∈ pieces (bl s) := by rw [← HP.out]; exact List.mem_map_of_mem (List.mem_of_mem_take hz)
      have h2 := pieces_len _ _ h1
      rw [← size_bl, ← size_bl] at h2
      have := HS.out
      omega
    · exact (hb35.block _ (by omega)).trans HQ3.out.1
    · exact (hb35.block _ (by omega)).trans HQ3.out.2.1
    · exact (hb35.block _ (by omega)).trans HQ3.out.2.2
  have HPS := Lib.hid hP
  clear hW5 hW hP HQ3 HB3 HM3 HSP hsz
  refine (script_any _ _ 0 N (N + 1) (pcs.take N) w5 _ HPS.out.rd rfl).mono ?_
  intro e w6 h6
  have hdl : (pcs.map bl).dropLast = (pcs.take N).map bl := by rw [List.dropLast_eq_take, List.length_map, hlen, List.map_take]; rfl
  cases hsc : pScript ((pcs.take N).map bl) with
  | error m =>
    rw [hsc] at h6
    obtain ⟨rfl, hm6⟩ := h6
    have HSC := Lib.hid hsc
    clear hsc
    obtain rfl : res = .error m := by
      rw [← HRES.out, pParse, ← HP.out, hdl, HSC.out]
    have k0 := hm6.blk HPS.out.p0 (by omega)
    have k1 := hm6.blk HPS.out.p1 (by omega)
    have k2 := hm6.blk HPS.out.p2 (by omega)
    have HBE := Lib.hid (HPS.out.be.trans (hm6.below (B := w.heap.size) HPS.out.be.size (fun i hi => by omega)))
    have HK := Lib.hid (And.intro k0 (And.intro k1 k2))
    clear k0 k1 k2 hm6
    go_wp2_with fail
    refine parse_gave (m := m) _ _ w w6 _ _ _ scrZero 0 0 HK.out.1 rfl HK.out.2.1 HK.out.2.2 (Nat.le_refl _) (by omega) (by omega) (by omega) (by omega) (by omega) rfl rfl rfl rfl HBE.out
  | ok q =>
    obtain ⟨sc, m⟩ := q
    rw [hsc] at h6
    obtain ⟨vc, vp, rfl, hvc, hvp, hr6, hm6⟩ := h6
    obtain ⟨A1, k1, rfl⟩ := Kd.R_slice hvc
    obtain ⟨A2, k2, rfl⟩ := Kd.R_slice hvp
    obtain ⟨zl, hzl⟩ : ∃ zl, bl (pcs[N]'(by omega)) = zl := ⟨_, rfl⟩
    have hrs : res = if m < N ∨ zl ≠ [] then .error m else .ok sc := by
      have e1 : (pcs.map bl).length - 1 = N := by rw [List.length_map, hlen]; rfl
      have e2 : (pcs.map bl).getLast? = some zl := by
        rw [List.getLast?_eq_getElem?, e1, List.getElem?_map, List.getElem?_eq_getElem (by omega), ← hzl]
        rfl
      rw [← HRES.out, pParse, ← HP.out, hdl, hsc, e1, e2]
      simp
    have HRS := Lib.hid hrs
    have hlast := HPS.out.last
    rw [← mk_bl (pcs[N]'(by omega)), hzl] at hlast
    have g0 := hm6.blk HPS.out.p0 (by omega)
    have g1 := hm6.blk HPS.out.p1 (by omega)
    have g2 := hm6.blk HPS.out.p2 (by omega)
    have g3 : w6.cell? ⟨w.heap.size + 3, N, none⟩ = some (.string ⟨zl.toArray⟩) := hm6.cell hlast (by show ¬ (w.heap.size + 3 = w.heap.size + 3 + 1); omega)
    have HBE := Lib.hid (HPS.out.be.trans (hm6.below (B := w.heap.size) HPS.out.be.size (fun i hi => by omega)))
    have HP0 := Lib.hid g0
    have hms := (Mut.refl (· = w.heap.size) w6).setRow (.inl rfl) (scCells sc.clients sc.shift sc.recs sc.chunks (.slice A1 sc.calls.length k1) (.slice A2 sc.picks.length k2))
    have j0 : (w6.setRow w.heap.size (scCells sc.clients sc.shift sc.recs sc.chunks (.slice A1 sc.calls.length k1) (.slice A2 sc.picks.length k2))).heap[w.heap.size]? = some (.cells (scCells sc.clients sc.shift sc.recs sc.chunks (.slice A1 sc.calls.length k1) (.slice A2 sc.picks.length k2)) 28 (0, 0)) := setRow_heap w6 _ _ _ _ _ g0
    have j1 := hms.blk g1 (by omega)
    have j2 := hms.blk g2 (by omega)
    have j3 := hms.cell g3 (by show ¬ (w.heap.size + 3 = w.heap.size); omega)
    have j4 := cell_blk (hms.blk hr6 (by omega)) 1 (v := .int .i64 m) rfl
    have j5 := hms.blk hr6 (by omega)
    have HBE2 := Lib.hid (HBE.out.trans (hms.below (B := w.heap.size) HBE.out.size (fun i hi => by omega)))
    have HVC := Lib.hid (Kd.R_mono (R_mut (Kd.R_bound hvc) hms (fun k hk he => by have := hk.2.1; have := HPS.out.be.size; have := lt_of_block HPS.out.p0; omega)) (fun _ hk => hk.2.1) (ok' := fun k => w5.heap.size ≤ k))
    have HVP := Lib.hid (Kd.R_mono (R_mut (Kd.R_bound hvp) hms (fun k hk he => by have := hk.2.1; have := HPS.out.be.size; have := lt_of_block HPS.out.p0; omega)) (fun _ hk => hk.2.1) (ok' := fun k => w5.heap.size ≤ k))
    have HJ := Lib.hid (And.intro j0 (And.intro j1 (And.intro j2 j5)))
    clear g0 g1 g2 g3 hlast hm6 hr6 hvc hvp hms hrs hsc hzl j0 j1 j2 j5
    by_cases hmN : m < N
    · obtain rfl : res = .error m := by rw [HRS.out, if_pos (.inl hmN)]
      go_wp2_with (refine wpList_store_row rfl 28 _ _ rfl w.heap.size (scCells sc.clients sc.shift sc.recs sc.chunks (.slice A1 sc.calls.length k1) (.slice A2 sc.picks.length k2)) rfl rfl 28 _ HP0.out scr_info rfl (scCells_one _ _ _ _ _ _ _ _ _ _) ?_)
      go_wp2_with fail
      refine (give_any _ _ m _ HJ.out.2.2.2).mono ?_
      rintro e w8 ⟨rfl, rfl⟩
      refine parse_gave (m := m) _ _ w (w6.setRow w.heap.size (scCells sc.clients sc.shift sc.recs sc.chunks (.slice A1 sc.calls.length k1) (.slice A2 sc.picks.length k2))) _ _ _ (scCells sc.clients sc.shift sc.recs sc.chunks (.slice A1 sc.calls.length k1) (.slice A2 sc.picks.length k2)) 0 0 HJ.out.1 rfl HJ.out.2.1 HJ.out.2.2.1 (Nat.le_refl _) (by omega) (by omega) (by omega) (by omega) (by omega) rfl rfl rfl rfl HBE2.out
    · cases zl with
      | cons z0 zl =>
        obtain rfl : res = .error m := by rw [HRS.out, if_pos (.inr (by simp))]
        go_wp2_with (refine wpList_store_row rfl 28 _ _ rfl w.heap.size (scCells sc.clients sc.shift sc.recs sc.chunks (.slice A1 sc.calls.length k1) (.slice A2 sc.picks.length k2)) rfl rfl 28 _ HP0.out scr_info rfl (scCells_one _ _ _ _ _ _ _ _ _ _) ?_)
        go_wp2_with fail
        refine (give_any _ _ m _ HJ.out.2.2.2).mono ?_
        rintro e w8 ⟨rfl, rfl⟩
        refine parse_gave (m := m) _ _ w (w6.setRow w.heap.size (scCells sc.clients sc.shift sc.recs sc.chunks (.slice A1 sc.calls.length k1) (.slice A2 sc.picks.length k2))) _ _ _ (scCells sc.clients sc.shift sc.recs sc.chunks (.slice A1 sc.calls.length k1) (.slice A2 sc.picks.length k2)) 0 0 HJ.out.1 rfl HJ.out.2.1 HJ.out.2.2.1 (Nat.le_refl _) (by omega) (by omega) (by omega) (by omega) (by omega) rfl rfl rfl rfl HBE2.out
      | nil =>
        obtain rfl : res = .ok sc := by rw [HRS.out, if_neg (by simp; omega)]
        have hm8 := (Mut.refl (· = w.heap.size) (w6.setRow w.heap.size (scCells sc.clients sc.shift sc.recs sc.chunks (.slice A1 sc.calls.length k1) (.slice A2 sc.picks.length k2)))).setRow (.inl rfl) (scCells sc.clients sc.shift sc.recs sc.chunks (.slice A1 sc.calls.length k1) (.slice A2 sc.picks.length k2))
        have n0 : ((w6.setRow w.heap.size (scCells sc.clients sc.shift sc.recs sc.chunks (.slice A1 sc.calls.length k1) (.slice A2 sc.picks.length k2))).setRow w.heap.size (scCells sc.clients sc.shift sc.recs sc.chunks (.slice A1 sc.calls.length k1) (.slice A2 sc.picks.length k2))).heap[w.heap.size]? = some (.cells (scCells sc.clients sc.shift sc.recs sc.chunks (.slice A1 sc.calls.length k1) (.slice A2 sc.picks.length k2)) 28 (0, 0)) := setRow_heap _ _ _ _ _ _ HJ.out.1
        have n1 := hm8.blk HJ.out.2.1 (by omega)
        have n2 := hm8.blk HJ.out.2.2.1 (by omega)
        have n3 := cell_blk n1 0 (v := .int .i64 0) rfl
        have n4 := froz_blk n1 0
        have n5 := set_blk_ne (b' := w.heap.size + 1) n2 (by omega) 0 (.int .i64 0)
        have n6 := cell_blk n5 0 (v := .int .i64 0) rfl
        have n7 := froz_blk n5 0
        have n8 := set_blk_ne (b' := w.heap.size + 1 + 1) (set_blk n1 0 (.int .i64 0)) (by omega) 0 (.int .i64 0)
        have n9 := set_blk n5 0 (.int .i64 0)
        have n10 := set_blk_ne (b' := w.heap.size + 1 + 1) (set_blk_ne (b' := w.heap.size + 1) n0 (by omega) 0 (.int .i64 0)) (by omega) 0 (.int .i64 0)
        have hfin := (((hm8.mono (S' := fun k => k = w.heap.size ∨ k = w.heap.size + 1 ∨ k = w.heap.size + 1 + 1) (fun i hi => .inl (.inl hi))).set (p := ⟨w.heap.size + 1, 0, none⟩) (.inl (.inr (.inl rfl))) (.int .i64 0)).set (p := ⟨w.heap.size + 1 + 1, 0, none⟩) (.inl (.inr (.inr rfl))) (.int .i64 0))
        have HFIN := Lib.hid (And.intro n10 (And.intro n8 (And.intro n9 hfin)))
        clear n0 n1 n2 n5 n8 n9 n10 hfin hm8
        go_wp2_with (first
          | (refine wpList_store_row rfl 28 _ _ rfl w.heap.size (scCells sc.clients sc.shift sc.recs sc.chunks (.slice A1 sc.calls.length k1) (.slice A2 sc.picks.length k2)) rfl rfl 28 _ HP0.out scr_info rfl (scCells_one _ _ _ _ _ _ _ _ _ _) ?_)
          | (refine wpList_load_row rfl 28 _ rfl w.heap.size rfl 28 _ (0, 0) _ HJ.out.1 Tryz.underlying28 rfl scr_info ?_)
          | (refine wpList_store_row rfl 28 _ _ rfl w.heap.size (scCells sc.clients sc.shift sc.recs sc.chunks (.slice A1 sc.calls.length k1) (.slice A2 sc.picks.length k2)) rfl rfl 28 _ HJ.out.1 scr_info rfl (scCells_one _ _ _ _ _ _ _ _ _ _) ?_))
        refine leaves_cons (f := 15) (args := #[.pointer (some ⟨w.heap.size, 0, none⟩), .pointer (some ⟨w.heap.size + 1, 0, none⟩), .pointer (some ⟨w.heap.size + 1 + 1, 0, none⟩)]) (by simp) (by simp [go_sem]) ?_
        refine (closed_idle _ _ _ _).mono ?_
        rintro e u' w'' ⟨rfl, rfl, rfl⟩
        have hmm := HFIN.out.2.2.2
        refine ⟨_, parse_results _ _ w.heap.size (w.heap.size + 1) (w.heap.size + 1 + 1) (scCells sc.clients sc.shift sc.recs sc.chunks (.slice A1 sc.calls.length k1) (.slice A2 sc.picks.length k2)) 0 0 rfl rfl rfl HFIN.out.1 rfl HFIN.out.2.1 HFIN.out.2.2.1, .slice A1 sc.calls.length k1, .slice A2 sc.picks.length k2, rfl, ?_, ?_, ?_⟩
        · exact Kd.R_mono (Kd.R_lower (R_mut HVC.out hmm (fun k hk he => by have := lt_of_block HPS.out.p2; rcases he with he | he | he <;> omega)) HPS.out.be.size) (fun _ _ => trivial)
        · exact Kd.R_mono (Kd.R_lower (R_mut HVP.out hmm (fun k hk he => by have := lt_of_block HPS.out.p2; rcases he with he | he | he <;> omega)) HPS.out.be.size) (fun _ _ => trivial)
        · exact HBE2.out.trans (hmm.below (B := w.heap.size) HBE2.out.size (fun k hk => by rcases hk with hk | hk | hk <;> omega))
end Go.Proofs.YtjcdpccfhpbccaaGreatDoor
