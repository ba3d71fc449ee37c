/-
  The walk of the document's own call that submits, and of any call.
-/
import Derived.Test.YtjcdpccfhpbccaaGreatDoorQ2
namespace Go.Proofs.YtjcdpccfhpbccaaGreatDoor
open Go.RowKit Go.Proofs.YtjcdpccfhpbccaaGreatDoorW.PrintWords

def cSub : CallD := ⟨1, [], qZero⟩
def pSub (ws : List (List UInt8)) : Option CallD := (pOps ws).bind fun l => if l.length ≤ 20 then some ⟨1, l, qZero⟩ else none
theorem words_cut (A : Option Addr) (cp N n : Nat) (hn : n ≤ N) (hc : N ≤ cp) : ∃ A', (∀ W : World, (Instr.slice 56 (.slice A N cp) (some (.int .i64 (n : Int))) none none).run Tryz.prog W = .ok (.slice A' (N - n) (cp - n)) W) ∧ ∀ (w : World) (rs : List ByteArray), rs.length = N → Kd.string.C w A N rs → Kd.string.C w A' (N - n) (rs.drop n) := by
  have hi := info_str
  cases h : Tryz.prog.info? 9 with
  | none => rw [h] at hi; cases hi
  | some i =>
    rw [h] at hi
    have hsz : i.size = 1 := by
      simp only [Option.map_some, Option.some.injEq, Prod.mk.injEq] at hi
      exact hi.2.1
    have h1 := cut_from (P := Tryz.prog) 56 9 .i64 Tryz.underlying56 h 1 hsz A N cp (n : Int) (by omega) (by omega)
    simp only [Int.toNat_natCast] at h1
    refine ⟨_, h1, fun w rs hl hC => ?_⟩
    subst hl
    have h2 := Kd.C_drop (c := cp) hC hn hc
    rw [List.length_drop] at h2
    exact h2
theorem CSt.further {w5 W W1 : World} {cb : Nat} {c : CallD} {v : Value} {xs : List OpD} (h : CSt w5 W cb c v xs) (hb : Below W.heap.size W W1) : CSt w5 W1 cb c v xs :=
  ⟨(hb.block _ (lt_of_block h.bx)).trans h.bx, Kd.R_below h.own hb, h.mu.then_below hb, h.lt⟩
def opCs (o : OpD) : Array Value := #[.int .i64 o.k, .int .i64 o.i, .int .i64 o.t, .int .i64 o.a, .string o.n, .string o.x]
theorem qloads {W : World} {q : Nat} {v : Value} (h : W.heap[q]? = some (.cells (bxCells cSub v) 74 (0, 0))) : W.cell? ⟨q, 0, none⟩ = some (.int .i64 1) ∧ W.cell? ⟨q, 1, none⟩ = some v ∧ W.cell? ⟨q, 2, none⟩ = some (.int .i64 0) ∧ W.cell? ⟨q, 3, none⟩ = some (.int .i64 0) ∧ W.cell? ⟨q, 4, none⟩ = some (.int .i64 0) ∧ W.cell? ⟨q, 5, none⟩ = some (.string ⟨#[]⟩) :=
  ⟨cell_blk h 0 rfl, cell_blk h 1 rfl, cell_blk h 2 rfl, cell_blk h 3 rfl, cell_blk h 4 rfl, cell_blk h 5 rfl⟩
theorem qloads_drew {W : World} {q : Nat} {v : Value} (h : W.heap[q]? = some (.cells (bxCells cSub v) 74 (0, 0))) : W.drew.cell? ⟨q, 0, none⟩ = some (.int .i64 1) ∧ W.drew.cell? ⟨q, 1, none⟩ = some v ∧ W.drew.cell? ⟨q, 2, none⟩ = some (.int .i64 0) ∧ W.drew.cell? ⟨q, 3, none⟩ = some (.int .i64 0) ∧ W.drew.cell? ⟨q, 4, none⟩ = some (.int .i64 0) ∧ W.drew.cell? ⟨q, 5, none⟩ = some (.string ⟨#[]⟩) := qloads (W := W.drew) h
theorem qset6 {W : World} {q b : Nat} {x : Obj} (h : W.heap[q]? = some x) (hne : q ≠ b) (v0 v1 v2 v3 v4 v5 : Value) :
    ((((((W.setCell ⟨b, 0, none⟩ v0).setCell ⟨b, 1, none⟩ v1).setCell ⟨b, 2, none⟩ v2).setCell ⟨b, 3, none⟩ v3).setCell ⟨b, 4, none⟩ v4).setCell ⟨b, 5, none⟩ v5).heap[q]? = some x :=
  set_blk_ne (set_blk_ne (set_blk_ne (set_blk_ne (set_blk_ne (set_blk_ne h hne 0 v0) hne 1 v1) hne 2 v2) hne 3 v3) hne 4 v4) hne 5 v5
theorem R_bnd {α : Type} {d : Kd α} {e base : Nat} {w : World} {v : Value} {xs : List α} (h : d.R e w base (fun _ => True) v xs) : d.R e w base (fun k => base ≤ k) v xs := Kd.R_mono (Kd.R_bound h) (fun _ hk => hk.2.1)
set_option maxRecDepth 100000 in
set_option maxHeartbeats 4000000 in
theorem rcall_submit (line : ByteArray) (hs : line.size ≤ 4294967280) (ws : List (List UInt8)) (hw : Scr.words (bl line) = [115, 117, 98, 109, 105, 116] :: ws) (res : Option CallD) (hres : pSub ws = res) (w : World) :
    Calls Tryz.prog 24 #[.string line] w (CPost w res) := by
  have HRES := Lib.hid hres
  clear hres
  have HS := Lib.hid hs
  have HW := Lib.hid hw
  clear hs hw
  go_enter Tryz.func24, Tryz.ntmps24
  go_wp2_with fail
  generalize hW : World.alloc _ _ = w1
  obtain ⟨b, hb⟩ : ∃ b, w.heap.size = b := ⟨_, rfl⟩
  have hR1 : w1.heap[b]? = some (.cells callZero 74 (0, 0)) := by rw [← hW, ← hb]; exact alloc_new _ _
  have hB1 : Below w.heap.size w w1 := by rw [← hW]; exact (Below.refl _ _).alloc (Nat.le_refl _) _
  have HBB := Lib.hid hb
  rw [hb]
  refine (rwords_any line HS.out w1).mono ?_
  rintro e w2 ⟨v1, outs, rfl, hr1, ho, hb2⟩
  obtain ⟨A1, k1, rfl⟩ := Kd.R_slice hr1
  have HC1 := Lib.hid (Kd.R_reads' hr1).2.2
  have HCK := Lib.hid (Kd.R_reads' hr1).2.1
  have HR2 := Lib.hid ((hb2.block _ (lt_of_block hR1)).trans hR1)
  have HB2 := Lib.hid (hB1.trans (hb2.mono hB1.size))
  rw [HW.out] at ho
  obtain ⟨o0, os, rfl, ho0, hos⟩ : ∃ o0 os, outs = o0 :: os ∧ bl o0 = [115, 117, 98, 109, 105, 116] ∧ os.map bl = ws := by
    cases outs with
    | nil => simp at ho
    | cons o0 os => simp at ho; exact ⟨o0, os, rfl, by simpa using ho.1, ho.2⟩
  obtain rfl := mk_of ho0
  have HOS := Lib.hid hos
  have HSZ := Lib.hid (show ∀ o ∈ os, o.size ≤ 4294967280 from fun o ho2 => by
    have h1 : bl o ∈ Scr.words (bl line) := by rw [HW.out]; exact List.mem_cons_of_mem _ (by rw [← hos]; exact List.mem_map_of_mem ho2)
    have h2 := words_mem h1
    rw [← size_bl, ← size_bl] at h2
    have := HS.out
    omega)
  have HLN := Lib.hid (show os.length ≤ 4294967280 by
    have h1 := words_cnt HW.out
    rw [← hos, List.length_map, ← size_bl] at h1
    have := HS.out
    omega)
  obtain ⟨N, hN⟩ : ∃ N, (⟨([115, 117, 98, 109, 105, 116] : List UInt8).toArray⟩ :: os).length = N := ⟨_, rfl⟩
  have HN := Lib.hid (show N = os.length + 1 by rw [← hN]; rfl)
  rw [hN] at HC1 HCK ⊢
  obtain ⟨ad, rfl, e1⟩ := str_cell HC1.out 0 (by have := HN.out; omega) (x := ⟨([115, 117, 98, 109, 105, 116] : List UInt8).toArray⟩) rfl
  have x0 := e1 _ (Below.refl _ _)
  rw [show ad.add 0 = ad by simp [Addr.add]] at x0
  have hpos : (0 : Int) < (N : Int) := by have := HN.out; omega
  have x0a : ∀ o, (w2.alloc o).cell? ad = some (.string ⟨([115, 117, 98, 109, 105, 116] : List UInt8).toArray⟩) := fun o => by
    have := e1 (w2.alloc o) ((Below.refl _ _).alloc (Nat.le_refl _) o)
    rwa [show ad.add 0 = ad by simp [Addr.add]] at this
  clear hW hb hR1 hB1 hr1 hb2 ho ho0 hos hN e1
  go_upto_region 22 with (fail)
  generalize hW3 : World.alloc w2 _ = w3
  obtain ⟨q, hq⟩ : ∃ q, w2.heap.size = q := ⟨_, rfl⟩
  have HQ := Lib.hid (show CSt w3 w3 q cSub (.slice none 0 0) [] from ⟨by rw [← hW3, ← hq]; exact alloc_new _ _, Kd.R_nil _ _ _ _ _, Mut.refl _ _, by rw [← hW3, ← hq]; simp⟩)
  have HB3 := Lib.hid (show Below w2.heap.size w2 w3 by rw [← hW3]; exact (Below.refl _ _).alloc (Nat.le_refl _) _)
  have HBQ := Lib.hid (show b < q by rw [← hq]; exact lt_of_block HR2.out)
  have HQQ := Lib.hid hq
  have HQ3 := Lib.hid (show q < w3.heap.size from HQ.out.lt)
  have HR3 := Lib.hid ((HB3.out.block _ (lt_of_block HR2.out)).trans HR2.out)
  have HBW := Lib.hid (HB2.out.trans (HB3.out.mono HB2.out.size))
  obtain ⟨A2, hcut, hA2⟩ := words_cut (some ad) k1 N 1 (by have := HN.out; omega) HCK.out
  have hN1 : N - 1 = os.length := by have := HN.out; omega
  obtain ⟨k2, hk2⟩ : ∃ k2, k1 - 1 = k2 := ⟨_, rfl⟩
  rw [hN1, hk2] at hcut
  have HC3 := Lib.hid (show Kd.string.C w2 A2 os.length os by have := hA2 w2 _ (by have := HN.out; simp; omega) HC1.out; rw [hN1] at this; exact this)
  have HK2 := Lib.hid (show os.length ≤ k2 by have := HCK.out; have := HN.out; omega)
  rw [hq]
  clear hW3 hq hA2 hN1 hk2 x0 x0a hpos
  have hcut1 : ∀ W : World, (Instr.slice 56 (.slice (some ad) N k1) (some (.int .i64 1)) none none).run Tryz.prog W = .ok (.slice A2 os.length k2) W := hcut
  clear hcut
  go_wp2_with fail
  clear hcut1
  go_loopg [15] os.length (fun k s15 wr => ∃ (n : Nat) (rs : List ByteArray) (A : Option Addr) (cp : Nat) (xs : List OpD) (u : Value), k = n ∧ s15 = .slice A n cp ∧ Hid (rs.length = n ∧ n ≤ cp ∧ (∀ o ∈ rs, o ∈ os) ∧ xs.length + n ≤ os.length) ∧ Hid (Kd.string.C w2 A n rs) ∧ Hid (pOps ws = (pOps (rs.map bl)).map (xs ++ ·)) ∧ Hid (CSt w3 wr q cSub u xs))
  case atStart => exact ⟨os.length, os, A2, k2, [], _, rfl, rfl, Lib.hid ⟨rfl, HK2.out, fun _ h => h, by simp⟩, HC3, Lib.hid (by rw [HOS.out]; cases pOps ws <;> simp), HQ⟩
  case round =>
    clear HQ HC3 HK2
    obtain ⟨n, rs, A, cp, xs, u, hk, rfl, HZ, HC, HPO, D⟩ := hrel
    have HK := Lib.hid hk
    have HB2r := Lib.hid (D.out.below (w := w2) HB3.out (by have := HQQ.out; omega))
    have HBWr := Lib.hid (HB2.out.trans (HB2r.out.mono HB2.out.size))
    have HRr := Lib.hid (D.out.mu.blk HR3.out (by have := HBQ.out; omega))
    clear hk
    obtain ⟨A8, k8, rfl⟩ := Kd.R_slice D.out.own
    by_cases hn : n = 0
    · subst hn
      have hlt : ¬ (0 : Int) < ((0 : Nat) : Int) := by omega
      have HPX := Lib.hid (show pOps ws = some xs by
        have := HPO.out
        rw [List.length_eq_zero_iff.1 HZ.out.1, List.map_nil, pOps_nil] at this
        simpa using this)
      have HFIN := Lib.hid (show res = if xs.length ≤ 20 then some ⟨1, xs, qZero⟩ else none by rw [← HRES.out, pSub, HPX.out]; rfl)
      have v0 := cell_blk HRr.out 0 (v := .int .i64 0) rfl
      have g0 := froz_blk HRr.out 0
      have v1 := cell_blk HRr.out 1 (v := .slice none 0 0) rfl
      have g1 := froz_blk HRr.out 1
      have v2 := cell_blk HRr.out 2 (v := .int .i64 0) rfl
      have g2 := froz_blk HRr.out 2
      have v3 := cell_blk HRr.out 3 (v := .int .i64 0) rfl
      have g3 := froz_blk HRr.out 3
      have v4 := cell_blk HRr.out 4 (v := .int .i64 0) rfl
      have g4 := froz_blk HRr.out 4
      have v5 := cell_blk HRr.out 5 (v := .string ⟨#[]⟩) rfl
      have g5 := froz_blk HRr.out 5
      have hS1 := qloads_drew D.out.bx
      have hS0 := qloads D.out.bx
      have hne : q ≠ b := by have := HBQ.out; omega
      have hS4 := fun v0 v1 v2 v3 v4 v5 => qloads_drew (qset6 D.out.bx hne v0 v1 v2 v3 v4 v5)
      have HS5 := Lib.hid (six_set HRr.out (.int .i64 1) (.slice A8 xs.length k8) (.int .i64 0) (.int .i64 0) (.int .i64 0) (.string ⟨#[]⟩))
      clear hne
      by_cases h20 : (xs.length : Int) ≤ 20
      · have HF := Lib.hid (show res = some ⟨1, xs, qZero⟩ by rw [HFIN.out, if_pos (by omega)])
        have ht : decide ((xs.length : Int) ≤ 20) = true := decide_eq_true h20
        clear h20
        go_wp2_with fail
        apply Holds.via
        case h =>
          intro KEY
          go_region_held3 (fun w' => w'.cell? ⟨q, 0, none⟩ = some (.int .i64 1) ∧ w'.cell? ⟨q, 1, none⟩ = some (.slice A8 xs.length k8) ∧ w'.cell? ⟨q, 2, none⟩ = some (.int .i64 0) ∧ w'.cell? ⟨q, 3, none⟩ = some (.int .i64 0) ∧ w'.cell? ⟨q, 4, none⟩ = some (.int .i64 0) ∧ w'.cell? ⟨q, 5, none⟩ = some (.string ⟨#[]⟩))
            (first | with_reducible exact hS1 | with_reducible exact hS0 | with_reducible assumption | with_reducible exact hS4 _ _ _ _ _ _) (fail)
          all_goals exact KEY.out
        go_wp2_with fail
        generalize hW9 : World.setCell (World.setCell (World.setCell (World.setCell (World.setCell (World.setCell wr _ _) _ _) _ _) _ _) _ _) _ _ = w9
        have s1 : w9.heap[b]? = some (.cells (bxCells cSub (.slice A8 xs.length k8)) 74 (0, 0)) := by rw [← hW9]; exact HS5.out.1
        have s2 : Mut (· = b) wr w9 := by rw [← hW9]; exact HS5.out.2
        clear hW9
        refine bodyPost_ret (v := .tuple #[.agg (bxCells cSub (.slice A8 xs.length k8)), .bool true]) (call_results _ (World.drew w9) b cSub (.slice A8 xs.length k8) _ rfl rfl s1) rfl ?_
        have hbe : Below w.heap.size w w9 := HBWr.out.trans (s2.below HBWr.out.size (fun k hk => by have := HBB.out; omega))
        have hr9 : kOp.R 120 w9 w3.heap.size (fun _ => True) (.slice A8 xs.length k8) xs := R_mono_true (R_mut (R_bnd D.out.own) s2 (fun k hk he => by have := HBQ.out; have := HQ3.out; omega))
        have hr8 : kOp.R 120 w9.drew w.heap.size (fun _ => True) (.slice A8 xs.length k8) xs := Kd.R_drew (Kd.R_lower hr9 HBW.out.size)
        refine ⟨below_drew hbe, ?_⟩
        rw [HF.out]
        exact ⟨.slice A8 xs.length k8, rfl, hr8⟩
      · have HF := Lib.hid (show res = none by rw [HFIN.out, if_neg (by omega)])
        have ht : decide ((xs.length : Int) ≤ 20) = false := decide_eq_false h20
        clear h20
        go_wp2_with fail
        apply Holds.via
        case h =>
          intro KEY
          go_region_held3 (fun w' => w'.cell? ⟨q, 0, none⟩ = some (.int .i64 1) ∧ w'.cell? ⟨q, 1, none⟩ = some (.slice A8 xs.length k8) ∧ w'.cell? ⟨q, 2, none⟩ = some (.int .i64 0) ∧ w'.cell? ⟨q, 3, none⟩ = some (.int .i64 0) ∧ w'.cell? ⟨q, 4, none⟩ = some (.int .i64 0) ∧ w'.cell? ⟨q, 5, none⟩ = some (.string ⟨#[]⟩))
            (first | with_reducible exact hS1 | with_reducible exact hS0 | with_reducible assumption | with_reducible exact hS4 _ _ _ _ _ _) (fail)
          all_goals exact KEY.out
        go_wp2_with fail
        generalize hW9 : World.setCell (World.setCell (World.setCell (World.setCell (World.setCell (World.setCell wr _ _) _ _) _ _) _ _) _ _) _ _ = w9
        have s1 : w9.heap[b]? = some (.cells (bxCells cSub (.slice A8 xs.length k8)) 74 (0, 0)) := by rw [← hW9]; exact HS5.out.1
        have s2 : Mut (· = b) wr w9 := by rw [← hW9]; exact HS5.out.2
        clear hW9
        refine bodyPost_ret (v := .tuple #[.agg (bxCells cSub (.slice A8 xs.length k8)), .bool false]) (call_results _ (World.drew w9) b cSub (.slice A8 xs.length k8) _ rfl rfl s1) rfl ?_
        have hbe : Below w.heap.size w w9 := HBWr.out.trans (s2.below HBWr.out.size (fun k hk => by have := HBB.out; omega))
        refine ⟨below_drew hbe, ?_⟩
        rw [HF.out]
        exact ⟨cSub, A8, xs.length, k8, rfl⟩
    · have hlt : (0 : Int) < (n : Int) := by omega
      obtain ⟨p0, ps, rfl⟩ : ∃ p0 ps, rs = p0 :: ps := by
        cases rs with
        | nil => exact absurd HZ.out.1.symm hn
        | cons a r => exact ⟨a, r, rfl⟩
      have hpn : ps.length + 1 = n := HZ.out.1
      have hpz : ∀ o ∈ ps, o.size ≤ 4294967280 := fun o ho => HSZ.out o (HZ.out.2.2.1 o (List.mem_cons_of_mem _ ho))
      have hnz : n ≤ 4294967280 := by have := HZ.out.2.2.2; have := HLN.out; omega
      have HCALL := Lib.hid (roperation_any A cp p0 ps n hpn hpz hnz wr (Kd.C_below HC.out HB2r.out))
      have HPN := Lib.hid hpn
      clear hpn hpz hnz hn
      go_wp2_with fail
      refine HCALL.out.mono ?_
      intro e w5 h5
      clear HCALL
      cases hp : pOp (bl p0 :: ps.map bl) with
      | none =>
        rw [hp] at h5
        obtain ⟨hb5, o, m, rfl⟩ := h5
        have HP := Lib.hid (show res = none by
          rw [← HRES.out, pSub, HPO.out, List.map_cons, pOps_none (by simp) hp]
          rfl)
        have HB5 := Lib.hid hb5
        clear hb5 hp
        simp only [opV]
        go_upto_region 25 with (fail)
        generalize hW6 : World.alloc w5 _ = w6
        have HB6 := Lib.hid (show Below wr.heap.size wr w6 by rw [← hW6]; exact HB5.out.trans (((Below.refl _ _).alloc (Nat.le_refl _) _).mono HB5.out.size))
        have D6 := Lib.hid (D.out.further HB6.out)
        have HR6 := Lib.hid ((HB6.out.block _ (lt_of_block HRr.out)).trans HRr.out)
        have HBW6 := Lib.hid (HBWr.out.trans (HB6.out.mono HBWr.out.size))
        have HQ6 := Lib.hid D6.out.bx
        clear hW6
        have k0 := cell_blk HQ6.out 0 (v := .int .i64 1) rfl
        have k1 := cell_blk HQ6.out 1 (v := .slice A8 xs.length k8) rfl
        have k2 := cell_blk HQ6.out 2 (v := .int .i64 0) rfl
        have k3 := cell_blk HQ6.out 3 (v := .int .i64 0) rfl
        have k4 := cell_blk HQ6.out 4 (v := .int .i64 0) rfl
        have k5 := cell_blk HQ6.out 5 (v := .string ⟨#[]⟩) rfl
        have v0 := cell_blk HR6.out 0 (v := .int .i64 0) rfl
        have g0 := froz_blk HR6.out 0
        have v1 := cell_blk HR6.out 1 (v := .slice none 0 0) rfl
        have g1 := froz_blk HR6.out 1
        have v2 := cell_blk HR6.out 2 (v := .int .i64 0) rfl
        have g2 := froz_blk HR6.out 2
        have v3 := cell_blk HR6.out 3 (v := .int .i64 0) rfl
        have g3 := froz_blk HR6.out 3
        have v4 := cell_blk HR6.out 4 (v := .int .i64 0) rfl
        have g4 := froz_blk HR6.out 4
        have v5 := cell_blk HR6.out 5 (v := .string ⟨#[]⟩) rfl
        have g5 := froz_blk HR6.out 5
        go_wp2_with fail
        obtain ⟨s1, s2⟩ := six_set HR6.out (.int .i64 1) (.slice A8 xs.length k8) (.int .i64 0) (.int .i64 0) (.int .i64 0) (.string ⟨#[]⟩)
        refine bodyPost_ret (v := .tuple #[.agg (bxCells cSub (.slice A8 xs.length k8)), .bool false]) (call_results _ _ b cSub _ _ rfl rfl s1) rfl ?_
        have hbe : Below w.heap.size w _ := HBW6.out.trans (s2.below HBW6.out.size (fun k hk => by have := HBB.out; omega))
        refine ⟨hbe, ?_⟩
        rw [HP.out]
        exact ⟨cSub, A8, xs.length, k8, rfl⟩
      | some pr =>
        obtain ⟨o, ws'⟩ := pr
        rw [hp] at h5
        obtain ⟨hb5, rfl⟩ := h5
        have hsf := suffix_drop (pOp_suffix hp)
        have hlt' := pOp_lt hp
        simp only [List.length_cons, List.length_map] at hsf hlt'
        rw [HPN.out] at hsf hlt'
        obtain ⟨mm, hmm⟩ : ∃ mm, n - ws'.length = mm := ⟨_, rfl⟩
        rw [hmm] at hsf ⊢
        obtain ⟨A3, hcut, hA3⟩ := words_cut A cp n mm (by omega) HZ.out.2.1
        obtain ⟨n3, hn3⟩ : ∃ n3, n - mm = n3 := ⟨_, rfl⟩
        obtain ⟨cp3, hcp3⟩ : ∃ cp3, cp - mm = cp3 := ⟨_, rfl⟩
        have hC3 := hA3 w2 (p0 :: ps) HPN.out HC.out
        rw [hn3] at hC3
        rw [hn3, hcp3] at hcut
        have HC3 := Lib.hid hC3
        have HN3 := Lib.hid (show n3 < n ∧ n3 ≤ cp3 ∧ ((p0 :: ps).drop mm).length = n3 by
          have h2 := HZ.out.2.1
          rw [List.length_drop, List.length_cons, HPN.out]
          omega)
        have HPO3 := Lib.hid (show pOps ws = (pOps (((p0 :: ps).drop mm).map bl)).map ((xs ++ [o]) ++ ·) by
          rw [HPO.out, List.map_cons, pOps_some hp, List.map_drop, List.map_cons, ← hsf]
          cases pOps ws' <;> simp)
        have HB5 := Lib.hid hb5
        clear hb5 hp hsf hlt' hmm hn3 hcp3 hA3 hC3
        simp only [opV]
        go_upto_region 25 with (fail)
        generalize hW6 : World.alloc w5 _ = w6
        obtain ⟨ob, hob⟩ : ∃ ob, w5.heap.size = ob := ⟨_, rfl⟩
        have HO6 := Lib.hid (show w6.heap[ob]? = some (.cells (opCs o) 120 (0, 0)) by rw [← hW6, ← hob]; exact alloc_new _ _)
        have HB6 := Lib.hid (show Below wr.heap.size wr w6 by rw [← hW6]; exact HB5.out.trans (((Below.refl _ _).alloc (Nat.le_refl _) _).mono HB5.out.size))
        have D6 := Lib.hid (D.out.further HB6.out)
        rw [hob]
        clear hW6 hob
        have y1 := cell_blk D6.out.bx 1 (v := .slice A8 xs.length k8) rfl
        have c0 := cell_blk HO6.out 0 (v := .int .i64 o.k) rfl
        have c1 := cell_blk HO6.out 1 (v := .int .i64 o.i) rfl
        have c2 := cell_blk HO6.out 2 (v := .int .i64 o.t) rfl
        have c3 := cell_blk HO6.out 3 (v := .int .i64 o.a) rfl
        have c4 := cell_blk HO6.out 4 (v := .string o.n) rfl
        have c5 := cell_blk HO6.out 5 (v := .string o.x) rfl
        have HL := Lib.hid (show (xs.length + 1) * 64 ≤ 140737488355328 by have := HZ.out.2.2.2; have := HLN.out; omega)
        go_wp2_with (at_builtin; go_loud (refine Kd.R_append kOp (w0 := w6) w3.heap.size rfl (.tmp 117) (.tmp 119) 71 120 (.agg opZero) 64 rfl Tryz.underlying71 info_op2 rfl (by decide) (by decide) (.slice A8 xs.length k8) xs o [.int .i64 o.k, .int .i64 o.i, .int .i64 o.t, .int .i64 o.a, .string o.n, .string o.x] (fun _ => True) (fun _ => False) rfl rfl (kOp_M _ _ _ _) (fun _ h => h.elim) (fun _ _ => trivial) D6.out.own (Below.refl _ _) D6.out.mu.size HL.out ?_))
        intro v1 w7 hr4 hb4 hg4 hat4
        obtain ⟨A9, k9, rfl⟩ := Kd.R_slice hr4
        obtain ⟨xl, hxl⟩ : ∃ xl, (xs ++ [o]).length = xl := ⟨_, rfl⟩
        rw [hxl] at hr4 ⊢
        have D7 := Lib.hid (D6.out.put hr4 hg4)
        have d4 := cell_blk (D6.out.mid hg4).1 1 (v := .slice A8 xs.length k8) rfl
        have e4 := froz_blk (D6.out.mid hg4).1 1
        clear hr4 hb4 hg4 hat4 y1 c0 c1 c2 c3 c4 c5 hxl
        go_wp2_with fail
        go_roundg n3
        case measure => have := HN3.out.1; have := HK.out; omega
        case rel => exact ⟨n3, (p0 :: ps).drop mm, A3, cp3, xs ++ [o], .slice A9 xl k9, rfl, rfl, Lib.hid ⟨HN3.out.2.2, HN3.out.2.1, fun o ho => HZ.out.2.2.1 o (List.mem_of_mem_drop ho), by have := HN3.out.1; have := HZ.out.2.2.2; simp; omega⟩, HC3, HPO3, D7⟩
set_option maxRecDepth 100000 in
/-- Any line that is to be a call. -/
theorem rcall_any (line : ByteArray) (hs : line.size ≤ 4294967280) (w : World) : Calls Tryz.prog 24 #[.string line] w (CPost w (pCall (Scr.words (bl line)))) := by
  obtain ⟨x, ws, hw⟩ := words_ne (bl line)
  rw [hw]
  by_cases h1 : x = kSubmit
  · subst h1
    exact rcall_submit line hs ws hw _ (by simp only [pCall, if_pos]; rfl) w
  · by_cases h2 : x = kRead
    · subst h2
      exact rcall_read line hs ws hw _ (by simp only [pCall, if_neg h1, if_pos]) w
    · by_cases h3 : x = kAsk
      · subst h3
        exact rcall_ask line hs ws hw _ (by simp only [pCall, if_neg h1, if_neg h2, if_pos]) w
      · by_cases h4 : x = kOpen
        · subst h4
          exact rcall_open line hs ws hw _ (by simp only [pCall, if_neg h1, if_neg h2, if_neg h3, if_pos]) w
        · by_cases h5 : x = kClose
          · subst h5
            exact rcall_close line hs ws hw _ (by simp only [pCall, if_neg h1, if_neg h2, if_neg h3, if_neg h4, if_pos]) w
          · exact rcall_other line hs x h1 h2 h3 h4 h5 ws hw _ (by simp only [pCall, if_neg h1, if_neg h2, if_neg h3, if_neg h4, if_neg h5]) w
end Go.Proofs.YtjcdpccfhpbccaaGreatDoor
