/-
  The walk of the document's own operation of some words.
-/
import Derived.Test.YtjcdpccfhpbccaaGreatDoorQ0
import Derived.Test.YtjcdpccfhpbccaaGreatDoorM0
namespace Go.Proofs.YtjcdpccfhpbccaaGreatDoor
open Go.RowKit Go.Proofs.YtjcdpccfhpbccaaGreatDoorW.PrintWords

def shapeB (k : Nat) : ByteArray := ⟨(shapeOf k).toArray⟩
def shapesArr : Array Value := #[.string ⟨#[110]⟩, .string ⟨#[120]⟩, .string ⟨#[120]⟩, .string ⟨#[105, 116, 97]⟩, .string ⟨#[105]⟩, .string ⟨#[105, 110, 120]⟩, .string ⟨#[105, 110]⟩, .string ⟨#[105, 120]⟩]
theorem shape_at {k : Nat} (h : k < 8) : shapesArr[k]? = some (.string (shapeB k)) := by
  have hj : k = 0 ∨ k = 1 ∨ k = 2 ∨ k = 3 ∨ k = 4 ∨ k = 5 ∨ k = 6 ∨ k = 7 := by omega
  rcases hj with rfl | rfl | rfl | rfl | rfl | rfl | rfl | rfl <;> rfl
def nameB (k : Nat) : ByteArray := opNames.getD k ⟨#[]⟩
theorem name_at {k : Nat} (h : k < 8) : namesArr[k]? = some (.string (nameB k)) := by
  have hj : k = 0 ∨ k = 1 ∨ k = 2 ∨ k = 3 ∨ k = 4 ∨ k = 5 ∨ k = 6 ∨ k = 7 := by omega
  rcases hj with rfl | rfl | rfl | rfl | rfl | rfl | rfl | rfl <;> rfl
theorem kind_name {k : Nat} (h : k < 8) : kindOf (bl (nameB k)) = (k + 1 : Nat) := by
  have hj : k = 0 ∨ k = 1 ∨ k = 2 ∨ k = 3 ∨ k = 4 ∨ k = 5 ∨ k = 6 ∨ k = 7 := by omega
  rcases hj with rfl | rfl | rfl | rfl | rfl | rfl | rfl | rfl <;> rfl
theorem name_kind {x : ByteArray} {k : Nat} (h : kindOf (bl x) = (k + 1 : Nat)) : k < 8 ∧ x = nameB k := by
  unfold kindOf Lib.idxOfS at h
  obtain ⟨j, h1, h2⟩ := idxFromS_get ⟨(bl x).toArray⟩ opNames 0 k (by omega)
  obtain rfl : j = k := by omega
  have hlt := (List.getElem?_eq_some_iff.1 h2).1
  have h8 : opNames.length = 8 := rfl
  refine ⟨by omega, ?_⟩
  rw [mk_bl] at h2
  unfold nameB
  rw [List.getD_eq_getElem?_getD, h2]
  rfl
/-- What the document says of words that are to be an operation. -/
def Op6Post (w : World) (n : Nat) (r : Option (OpD × List (List UInt8))) (e : Ending) (w' : World) : Prop :=
  Below w.heap.size w w' ∧ match r with
  | some (o, ws) => e = .returned (.tuple #[opV o, .int .i64 ((n - ws.length : Nat) : Int), .bool true])
  | none => ∃ o : OpD, ∃ m : Int, e = .returned (.tuple #[opV o, .int .i64 m, .bool false])
theorem short_none : ∀ (sh : List UInt8) (ws : List (List UInt8)) (o : OpD), ws.length < sh.length → aRun sh ws o = none
  | [], _, _, h => by simp at h
  | c :: sh, [], _, _ => rfl
  | c :: sh, w :: ws, o, h => by
    rw [aRun]
    cases aStep c w o with
    | none => rfl
    | some o1 => exact short_none sh ws o1 (by simpa using h)
theorem op_short {x : List UInt8} {ws : List (List UInt8)} (h : ∀ m, m < 8 → kindOf x = (m + 1 : Nat) → ws.length < (shapeOf m).length) : pOp (x :: ws) = none := by
  obtain ⟨k, hk8, hk⟩ := kindOf_range x
  cases k with
  | zero => exact pOp_no hk ws
  | succ m =>
    rw [pOp_kind (by omega) hk, aOp, short_none _ _ _ (h m (by omega) hk)]
theorem six_set {w : World} {b t : Nat} {c0 c1 c2 c3 c4 c5 : Value} (h : w.heap[b]? = some (.cells #[c0, c1, c2, c3, c4, c5] t (0, 0))) (v0 v1 v2 v3 v4 v5 : Value) :
    ((((((w.setCell ⟨b, 0, none⟩ v0).setCell ⟨b, 1, none⟩ v1).setCell ⟨b, 2, none⟩ v2).setCell ⟨b, 3, none⟩ v3).setCell ⟨b, 4, none⟩ v4).setCell ⟨b, 5, none⟩ v5).heap[b]? = some (.cells #[v0, v1, v2, v3, v4, v5] t (0, 0)) ∧
    Mut (· = b) w ((((((w.setCell ⟨b, 0, none⟩ v0).setCell ⟨b, 1, none⟩ v1).setCell ⟨b, 2, none⟩ v2).setCell ⟨b, 3, none⟩ v3).setCell ⟨b, 4, none⟩ v4).setCell ⟨b, 5, none⟩ v5) :=
  ⟨set_blk (set_blk (set_blk (set_blk (set_blk (set_blk h 0 v0) 1 v1) 2 v2) 3 v3) 4 v4) 5 v5,
   ((((((Mut.refl (· = b) w).set1 0 v0).set1 1 v1).set1 2 v2).set1 3 v3).set1 4 v4).set1 5 v5⟩
theorem op_results (tmps : Array Value) (w : World) (b : Nat) (o : OpD) (n : Int) (r : Bool) (t2 : tmps[2]? = some (.pointer (some ⟨b, 0, none⟩))) (t3 : tmps[3]? = some (.int .i64 n)) (t4 : tmps[4]? = some (.bool r))
    (h : w.heap[b]? = some (.cells #[.int .i64 o.k, .int .i64 o.i, .int .i64 o.t, .int .i64 o.a, .string o.n, .string o.x] 120 (0, 0))) :
    (results Tryz.f53 tmps).run Tryz.prog w = .ok (.tuple #[opV o, .int .i64 n, .bool r]) w := by
  have z0 := cell_blk h 0 (v := .int .i64 o.k) rfl
  have z1 := cell_blk h 1 (v := .int .i64 o.i) rfl
  have z2 := cell_blk h 2 (v := .int .i64 o.t) rfl
  have z3 := cell_blk h 3 (v := .int .i64 o.a) rfl
  have z4 := cell_blk h 4 (v := .string o.n) rfl
  have z5 := cell_blk h 5 (v := .string o.x) rfl
  simp [results, Tryz.results53, t2, t3, t4, asAddr, go_sem, z0, z1, z2, z3, z4, z5, Result.andThen, opV]
structure OAt (w0 W : World) (b ob : Nat) (o : OpD) : Prop where
  be : Below w0.heap.size w0 W
  ho : W.heap[ob]? = some (.cells #[.int .i64 o.k, .int .i64 o.i, .int .i64 o.t, .int .i64 o.a, .string o.n, .string o.x] 120 (0, 0))
  hs : W.heap[b + 2]? = some (.cells shapesArr 9 (0, 0))
theorem OAt.loads {w0 W : World} {b ob : Nat} {o : OpD} (h : OAt w0 W b ob o) {m : Nat} (hm : m < 8) {sb : ByteArray} (hsb : shapeB m = sb) : W.cell? ⟨ob, 0, none⟩ = some (.int .i64 o.k) ∧ W.cell? ⟨ob, 1, none⟩ = some (.int .i64 o.i) ∧ W.cell? ⟨ob, 2, none⟩ = some (.int .i64 o.t) ∧ W.cell? ⟨ob, 3, none⟩ = some (.int .i64 o.a) ∧ W.cell? ⟨ob, 4, none⟩ = some (.string o.n) ∧ W.cell? ⟨ob, 5, none⟩ = some (.string o.x) ∧ W.cell? ⟨b + 2, m, none⟩ = some (.string sb) ∧ Hid (OAt w0 W b ob o) :=
  ⟨cell_blk h.ho 0 rfl, cell_blk h.ho 1 rfl, cell_blk h.ho 2 rfl, cell_blk h.ho 3 rfl, cell_blk h.ho 4 rfl, cell_blk h.ho 5 rfl, hsb ▸ cell_blk h.hs m (shape_at hm), Lib.hid h⟩
theorem OAt.below {w0 W W1 : World} {b ob : Nat} {o : OpD} (h : OAt w0 W b ob o) (hb : Below W.heap.size W W1) : OAt w0 W1 b ob o :=
  ⟨h.be.trans (hb.mono h.be.size), (hb.block _ (lt_of_block h.ho)).trans h.ho, (hb.block _ (lt_of_block h.hs)).trans h.hs⟩
theorem OAt.set {w0 W : World} {b ob : Nat} {o : OpD} (h : OAt w0 W b ob o) (hw : w0.heap.size = b) (hn : b < ob) (j : Nat) (u : Value) : OAt w0 (W.setCell ⟨b, j, none⟩ u) b ob o :=
  ⟨((Mut.of_below h.be (fun _ => False)).set (p := ⟨b, j, none⟩) (.inr (by show w0.heap.size ≤ b; omega)) u).below (Nat.le_refl _) (fun _ h => h.elim), set_blk_ne h.ho (by omega) j u, set_blk_ne h.hs (by omega) j u⟩
def oZero : OpD := ⟨0, 0, 0, 0, ⟨#[]⟩, ⟨#[]⟩⟩
set_option maxRecDepth 100000 in
set_option maxHeartbeats 4000000 in
theorem roperation_any (A : Option Addr) (cp : Nat) (o0 : ByteArray) (os : List ByteArray) (N : Nat) (hN : os.length + 1 = N) (hsz : ∀ o ∈ os, o.size ≤ 4294967280) (hn : N ≤ 4294967280) (w : World) (hC : Kd.string.C w A N (o0 :: os)) :
    Calls Tryz.prog 53 #[.slice A N cp] w (Op6Post w N (pOp (bl o0 :: os.map bl))) := by
  have HC := Lib.hid hC
  have HN := Lib.hid hN
  have HSZ := Lib.hid hsz
  have HNN := Lib.hid hn
  clear hC hN hsz hn
  go_enter Tryz.func53, Tryz.ntmps53
  go_wp2_with fail
  generalize hW : World.alloc (World.alloc (World.alloc _ _) _) _ = w3
  obtain ⟨b, hb⟩ : ∃ b, w.heap.size = b := ⟨_, rfl⟩
  have HB3 := Lib.hid (show Below w.heap.size w w3 by rw [← hW]; exact (((Below.refl _ _).alloc (Nat.le_refl _) _).alloc (by simp) _).alloc (by simp; omega) _)
  have HR := Lib.hid (show w3.heap[b]? = some (.cells opZero 120 (0, 0)) by rw [← hW, ← hb]; exact alloc_blk (alloc_blk (alloc_new _ _) _) _)
  have HNM := Lib.hid (show w3.heap[b + 1]? = some (.cells namesArr 9 (0, 0)) by
    rw [← hW, ← hb]
    have := alloc_new (w.alloc (.cells opZero 120)) (.cells namesArr 9)
    rw [World.size_alloc] at this
    exact alloc_blk this _)
  have HSH := Lib.hid (show w3.heap[b + 2]? = some (.cells shapesArr 9 (0, 0)) by
    rw [← hW, ← hb]
    have := alloc_new ((w.alloc (.cells opZero 120)).alloc (.cells namesArr 9)) (.cells shapesArr 9)
    rw [World.size_alloc, World.size_alloc] at this
    exact this)
  have HBB := Lib.hid hb
  rw [hb]
  clear hW hb
  go_loopg [7] 8 (fun k s7 wr => ∃ (m : Nat), k + m = 8 ∧ s7 = .int .i64 m ∧ Hid (∀ q, q < m → kindOf (bl o0) = (q + 1 : Nat) → os.length < (shapeOf q).length) ∧ Hid (Below w3.heap.size w3 wr))
  case atStart => exact ⟨0, by omega, rfl, Lib.hid (by intro q hq; omega), Lib.hid (Below.refl _ _)⟩
  case round =>
    obtain ⟨m, hkm, rfl, HM, P⟩ := hrel
    have HBW := Lib.hid (HB3.out.trans (P.out.mono HB3.out.size))
    have hrw := (P.out.block _ (lt_of_block HR.out)).trans HR.out
    cases gk with
    | zero =>
      have hlt : ¬ (m : Int) < 8 := by omega
      have HNO := Lib.hid (show pOp (bl o0 :: os.map bl) = none from op_short (fun q hq h => by rw [List.length_map]; exact HM.out q (by omega) h))
      have HRW := Lib.hid hrw
      have r0 := cell_blk hrw 0 (v := .int .i64 0) rfl
      have r1 := cell_blk hrw 1 (v := .int .i64 0) rfl
      have r2 := cell_blk hrw 2 (v := .int .i64 0) rfl
      have r3 := cell_blk hrw 3 (v := .int .i64 0) rfl
      have r4 := cell_blk hrw 4 (v := .string ⟨#[]⟩) rfl
      have r5 := cell_blk hrw 5 (v := .string ⟨#[]⟩) rfl
      have f0 := froz_blk hrw 0
      have f1 := froz_blk hrw 1
      have f2 := froz_blk hrw 2
      have f3 := froz_blk hrw 3
      have f4 := froz_blk hrw 4
      have f5 := froz_blk hrw 5
      clear hrw
      go_wp2_with fail
      obtain ⟨g1, g2⟩ := six_set HRW.out (.int .i64 0) (.int .i64 0) (.int .i64 0) (.int .i64 0) (.string ⟨#[]⟩) (.string ⟨#[]⟩)
      refine bodyPost_ret (v := .tuple #[opV oZero, .int .i64 0, .bool false]) (op_results _ _ b oZero 0 false rfl rfl rfl g1) rfl ?_
      have hb9 : Below w.heap.size w _ := HBW.out.trans (g2.below HBW.out.size (fun k hk => by have := HBB.out; omega))
      exact ⟨hb9, by rw [HNO.out]; exact ⟨oZero, 0, rfl⟩⟩
    | succ gk0 =>
      have hlt : (m : Int) < 8 := by omega
      have hm8 : m < 8 := by omega
      have q9 : IntKind.i64.wrap ((m : Int) + 1) = (m : Int) + 1 := wrap_next' (by omega)
      obtain ⟨ad, rfl, e1⟩ := str_cell HC.out 0 (by have := HN.out; omega) (x := o0) rfl
      rw [show ad.add 0 = ad by simp [Addr.add]] at e1
      have hnw := (P.out.block _ (lt_of_block HNM.out)).trans HNM.out
      have hsw := (P.out.block _ (lt_of_block HSH.out)).trans HSH.out
      have x0 := e1 _ HBW.out
      have x0' := fun q => e1 _ (below_drewN HBW.out q)
      have n0 := cell_blk hnw m (name_at hm8)
      have n0' := fun q => cell_blk (blk_drewN hnw q) m (name_at hm8)
      have s0 := cell_blk hsw m (shape_at hm8)
      have s0' := fun q => cell_blk (blk_drewN hsw q) m (shape_at hm8)
      have hpos : (0 : Int) < (N : Int) := by have := HN.out; omega
      have HKM := Lib.hid hkm
      have HM8 := Lib.hid hm8
      obtain ⟨nb, hnb⟩ : ∃ nb, nameB m = nb := ⟨_, rfl⟩
      obtain ⟨sb, hsb⟩ : ∃ sb, shapeB m = sb := ⟨_, rfl⟩
      have HNB := Lib.hid hnb
      have HSB := Lib.hid hsb
      rw [hnb] at n0
      rw [hsb] at s0
      simp only [hnb] at n0'
      simp only [hsb] at s0'
      clear hrw hnw hsw e1 hkm hm8 hnb hsb
      by_cases hx : o0 = nb
      rotate_left
      · have t1 := bytes_ne hx
        have HM2 := Lib.hid (show ∀ q, q < m + 1 → kindOf (bl o0) = (q + 1 : Nat) → os.length < (shapeOf q).length from fun q hq h => by
          by_cases he : q = m
          · subst he
            exact absurd ((name_kind h).2.trans HNB.out) hx
          · exact HM.out q (by omega) h)
        clear hx
        go_wp2_with fail
        go_quiet (fail)
        go_wp2_with fail
        go_roundg gk0
        case measure => omega
        case rel => exact ⟨m + 1, by have := HKM.out; omega, rfl, HM2, Lib.hid (below_drewN P.out _)⟩
      subst hx
      have HKD := Lib.hid (show kindOf (bl o0) = (m + 1 : Nat) by rw [← HNB.out]; exact kind_name HM8.out)
      by_cases hl : (N : Int) ≤ (sb.size : Int)
      · have HM2 := Lib.hid (show ∀ q, q < m + 1 → kindOf (bl o0) = (q + 1 : Nat) → os.length < (shapeOf q).length from fun q hq h => by
          by_cases he : q = m
          · subst he
            have h2 : sb.size = (shapeOf q).length := by rw [← HSB.out]; exact size_mk _
            have := HN.out
            omega
          · exact HM.out q (by omega) h)
        go_wp2_with fail
        go_quiet (fail)
        go_wp2_with fail
        go_roundg gk0
        case measure => omega
        case rel => exact ⟨m + 1, by have := HKM.out; omega, rfl, HM2, Lib.hid (below_drewN P.out _)⟩
      have HLEN := Lib.hid (show (shapeOf m).length ≤ os.length by
        have h2 : sb.size = (shapeOf m).length := by rw [← HSB.out]; exact size_mk _
        have := HN.out
        omega)
      go_wp2_with fail
      go_quiet (fail)
      generalize hwd : World.drewN wr _ = wd
      have PD := Lib.hid (show Below w3.heap.size w3 wd by rw [← hwd]; exact below_drewN P.out _)
      clear hwd x0 x0' n0 n0' s0 s0' P HBW
      go_wp2_with fail
      generalize hW : World.alloc wd _ = w4
      obtain ⟨ob, hob⟩ : ∃ ob, wd.heap.size = ob := ⟨_, rfl⟩
      have hb4 : Below wd.heap.size wd w4 := by rw [← hW]; exact (Below.refl _ _).alloc (Nat.le_refl _) _
      have HO4 := Lib.hid (show w4.heap[ob]? = some (.cells #[.int .i64 ((m : Int) + 1), .int .i64 0, .int .i64 0, .int .i64 0, .string ⟨#[]⟩, .string ⟨#[]⟩] 120 (0, 0)) by rw [← hW, ← hob]; exact alloc_new wd _)
      have HB34 := Lib.hid (show Below w3.heap.size w3 w4 from PD.out.trans (hb4.mono PD.out.size))
      have HOB := Lib.hid (show w3.heap.size ≤ ob from hob ▸ PD.out.size)
      rw [hob]
      have hd : decide (N ≤ sb.size) = false := decide_eq_false (by omega)
      simp only [hd]
      clear hW hob hb4 hl hd
      go_loopg [9] (shapeOf m).length (fun k s9 wr => ∃ (i : Nat) (o : OpD), k + i = (shapeOf m).length ∧ s9 = .int .i64 i ∧ Hid (wr.heap[ob]? = some (.cells #[.int .i64 o.k, .int .i64 o.i, .int .i64 o.t, .int .i64 o.a, .string o.n, .string o.x] 120 (0, 0))) ∧ Hid (aRun (shapeOf m) (os.map bl) (opStart m) = aRun ((shapeOf m).drop i) ((os.map bl).drop i) o) ∧ Hid (Mut (· = ob) w4 wr) ∧ Hid (o.n.size ≤ 4294967296 ∧ o.x.size ≤ 4294967296))
      case atStart => exact ⟨0, opStart m, by omega, rfl, HO4, Lib.hid (by simp), Lib.hid (Mut.refl _ _), Lib.hid ⟨Nat.zero_le _, Nat.zero_le _⟩⟩
      case round =>
        clear HO4
        obtain ⟨i, o, hki, rfl, HO5, HQ, HMU, HOZ⟩ := hrel
        have P5 := Lib.hid (show Below w3.heap.size w3 wr from HB34.out.trans (HMU.out.below HB34.out.size (fun k hk => by have := HOB.out; omega)))
        have HBW := Lib.hid (HB3.out.trans (P5.out.mono HB3.out.size))
        have HRW := Lib.hid ((P5.out.block _ (lt_of_block HR.out)).trans HR.out)
        have hsw := (P5.out.block _ (lt_of_block HSH.out)).trans HSH.out
        have s0 := cell_blk hsw m (shape_at HM8.out)
        rw [HSB.out] at s0
        have hsz : sb.size = (shapeOf m).length := by rw [← HSB.out]; exact size_mk _
        cases gk with
        | zero =>
          have hlt3 : ¬ (i : Int) < (sb.size : Int) := by omega
          have HI := Lib.hid (show OAt w wr.drew b ob o from OAt.below ⟨HBW.out, HO5.out, hsw⟩ (below_drew (Below.refl _ _)))
          have HSZB := Lib.hid hsz
          have HKI := Lib.hid hki
          have q11 : IntKind.i64.wrap ((sb.size : Int) + 1) = (sb.size : Int) + 1 := wrap_next' (by rw [hsz]; have := HNN.out; have := HN.out; have := HLEN.out; omega)
          have hOB : b < ob := by have h1 := HOB.out; have h2 := lt_of_block HR.out; omega
          have HOBB := Lib.hid hOB
          have hS1 := HI.out.loads HM8.out HSB.out
          clear hsw hsz hki hOB
          go_wp2_with fail
          clear s0
          go_region_held3 (fun w' => w'.cell? ⟨ob, 0, none⟩ = some (.int .i64 o.k) ∧ w'.cell? ⟨ob, 1, none⟩ = some (.int .i64 o.i) ∧ w'.cell? ⟨ob, 2, none⟩ = some (.int .i64 o.t) ∧ w'.cell? ⟨ob, 3, none⟩ = some (.int .i64 o.a) ∧ w'.cell? ⟨ob, 4, none⟩ = some (.string o.n) ∧ w'.cell? ⟨ob, 5, none⟩ = some (.string o.x) ∧ w'.cell? ⟨b + 2, m, none⟩ = some (.string sb) ∧ Hid (OAt w w' b ob o))
            (first | with_reducible exact hS1 | with_reducible assumption | with_reducible exact hS4 _ _ _ _ _ _)
            (first
              | (go_at_call 70
                 refine (may6_any o.k o.i o.t o.a o.n o.x (by have := HOZ.out; omega) (by have := HOZ.out; omega) wr.drew).mono ?_
                 rintro e w2 ⟨rfl, hb2⟩
                 have HI2 := Lib.hid (HI.out.below hb2)
                 have hS2 := HI2.out.loads HM8.out HSB.out
                 have HRW2 : Hid (w2.heap[b]? = some (.cells opZero 120 (0, 0))) := Lib.hid ((hb2.block _ (lt_of_block (w := World.drew wr) HRW.out)).trans HRW.out)
                 have hS4 := fun u0 u1 u2 u3 u4 u5 => ((((((HI2.out.set HBB.out HOBB.out 0 u0).set HBB.out HOBB.out 1 u1).set HBB.out HOBB.out 2 u2).set HBB.out HOBB.out 3 u3).set HBB.out HOBB.out 4 u4).set HBB.out HOBB.out 5 u5).loads HM8.out HSB.out
                 have v0 := cell_blk HRW2.out 0 (v := .int .i64 0) rfl
                 have f0 := froz_blk HRW2.out 0
                 have v1 := cell_blk HRW2.out 1 (v := .int .i64 0) rfl
                 have f1 := froz_blk HRW2.out 1
                 have v2 := cell_blk HRW2.out 2 (v := .int .i64 0) rfl
                 have f2 := froz_blk HRW2.out 2
                 have v3 := cell_blk HRW2.out 3 (v := .int .i64 0) rfl
                 have f3 := froz_blk HRW2.out 3
                 have v4 := cell_blk HRW2.out 4 (v := .string ⟨#[]⟩) rfl
                 have f4 := froz_blk HRW2.out 4
                 have v5 := cell_blk HRW2.out 5 (v := .string ⟨#[]⟩) rfl
                 have f5 := froz_blk HRW2.out 5
                 clear hb2))
          go_wp2_with fail
          obtain ⟨g1, g2⟩ := six_set HRW2.out (.int .i64 o.k) (.int .i64 o.i) (.int .i64 o.t) (.int .i64 o.a) (.string o.n) (.string o.x)
          refine bodyPost_ret (v := .tuple #[opV o, .int .i64 ((sb.size : Int) + 1), .bool (mayB o.k o.i o.t o.a o.n o.x)]) (op_results _ _ b o _ _ rfl rfl rfl g1) rfl ?_
          have hb9 : Below w.heap.size w _ := HI2.out.be.trans (g2.below HI2.out.be.size (fun k hk => by have := HBB.out; omega))
          refine ⟨hb9, ?_⟩
          have h1 : i = (shapeOf m).length := by have := HKI.out; omega
          have h2 : pOp (bl o0 :: os.map bl) = (if mayB o.k o.i o.t o.a o.n o.x then some (o, (os.map bl).drop i) else none) := by
            rw [pOp_kind HM8.out HKD.out, aOp, HQ.out, h1, List.drop_of_length_le (Nat.le_refl _)]
            rfl
          rw [h2]
          cases hmay : mayB o.k o.i o.t o.a o.n o.x with
          | false => exact ⟨o, _, rfl⟩
          | true =>
            have h3 : ((N - ((os.map bl).drop i).length : Nat) : Int) = (sb.size : Int) + 1 := by
              rw [List.length_drop, List.length_map]
              have := HSZB.out; have := HLEN.out; have := HN.out
              omega
            show _ = _
            rw [h3]
        | succ gk1 =>
          have hlt3 : (i : Int) < (sb.size : Int) := by omega
          have hiL : i < (shapeOf m).length := by omega
          obtain ⟨c, hc⟩ : ∃ c, (shapeOf m)[i]? = some c := ⟨_, List.getElem?_eq_getElem hiL⟩
          obtain ⟨wd, hwd⟩ : ∃ wd, os[i]? = some wd := ⟨_, List.getElem?_eq_getElem (by have := HLEN.out; omega)⟩
          have hidx := idx_str sb i c (by rw [← HSB.out]; exact hc)
          obtain ⟨ad', hae, e1⟩ := str_cell HC.out (i + 1) (by have := HN.out; have := HLEN.out; omega) (x := wd) hwd
          obtain rfl : ad = ad' := by simpa using hae
          obtain ⟨i1, hi1⟩ : ∃ i1 : Nat, i + 1 = i1 := ⟨_, rfl⟩
          have q10 : IntKind.i64.wrap ((i : Int) + 1) = (i1 : Int) := by rw [← hi1]; exact wrap_next' (by have := HNN.out; have := HN.out; have := HLEN.out; omega)
          have hltN : (i1 : Int) < (N : Int) := by have := HN.out; have := HLEN.out; omega
          rw [hi1] at e1
          have x1 := e1 _ HBW.out
          have HI1 := Lib.hid hi1
          have HWZ := Lib.hid (HSZ.out wd (List.mem_of_getElem? hwd))
          have HE1 := Lib.hid e1
          have HCH := Lib.hid hc
          have HKI := Lib.hid hki
          have HST := Lib.hid (show aRun ((shapeOf m).drop i) ((os.map bl).drop i) o = (match aStep c (bl wd) o with | none => none | some o1 => aRun ((shapeOf m).drop (i + 1)) ((os.map bl).drop (i + 1)) o1) by
            have h1 := (List.getElem?_eq_some_iff.1 hc).2
            have h2 : (os.map bl)[i]? = some (bl wd) := by rw [List.getElem?_map, hwd]; rfl
            obtain ⟨h3, h4⟩ := List.getElem?_eq_some_iff.1 h2
            rw [List.drop_eq_getElem_cons hiL, List.drop_eq_getElem_cons h3, h1, h4, aRun]
            rfl)
          have HCL := Lib.hid (show c = 105 ∨ c = 116 ∨ c = 97 ∨ c = 110 ∨ c = 120 by
            have hmem := List.mem_of_getElem? hc
            have hj : m = 0 ∨ m = 1 ∨ m = 2 ∨ m = 3 ∨ m = 4 ∨ m = 5 ∨ m = 6 ∨ m = 7 := by have := HM8.out; omega
            rcases hj with rfl | rfl | rfl | rfl | rfl | rfl | rfl | rfl <;> (simp only [shapeOf, List.mem_cons, List.not_mem_nil, or_false] at hmem; first | (rcases hmem with rfl | rfl | rfl <;> simp) | (rcases hmem with rfl | rfl <;> simp) | (subst hmem; simp)))
          clear hsw hsz hc hwd hae e1 hki hiL hi1
          go_wp2_with fail
          refine (rnumber_any wd HWZ.out _ rfl wr).mono ?_
          intro e w5 h5
          have key : ∃ yv r, e = .returned (.tuple #[.int .i64 yv, .bool r]) ∧ (r = true → num (bl wd) = some yv) ∧ (r = false → num (bl wd) = none) ∧ Below wr.heap.size wr w5 := by
            obtain ⟨h5a, h5b⟩ := h5
            cases hn : num (bl wd) with
            | none => rw [hn] at h5a; obtain ⟨yv, _, rfl⟩ := h5a; exact ⟨yv, false, rfl, by simp, by simp, h5b⟩
            | some k => rw [hn] at h5a; exact ⟨k, true, h5a, by simp, by simp, h5b⟩
          obtain ⟨yv, r1, rfl, hr1, hr1', hb5⟩ := key
          have HR1 := Lib.hid (And.intro hr1 hr1')
          have x5 := HE1.out _ (HBW.out.trans (hb5.mono HBW.out.size))
          have HB5 := Lib.hid hb5
          clear h5 hr1 hr1' hb5 x1
          go_wp2_with fail
          refine (rtext_any wd HWZ.out _ rfl w5).mono ?_
          rintro e w6 ⟨rfl, hb6⟩
          have HB6 := Lib.hid (HB5.out.trans (hb6.mono HB5.out.size))
          have key : ∃ (T : ByteArray) (r : Bool), textV (txt [] (bl wd)) = .tuple #[.string T, .bool r] ∧ (r = true → txt [] (bl wd) = some (bl T)) ∧ (r = false → txt [] (bl wd) = none ∧ T = ⟨#[]⟩) := by
            cases hn : txt [] (bl wd) with
            | none => exact ⟨⟨#[]⟩, false, rfl, by simp, by simp⟩
            | some y => exact ⟨⟨y.toArray⟩, true, rfl, by simp [bl], by simp⟩
          obtain ⟨T, r2, hT, hr2, hr2'⟩ := key
          rw [hT]
          have HR2 := Lib.hid (And.intro hr2 hr2')
          have s6 := cell_blk ((HB6.out.block _ (lt_of_block ((P5.out.block _ (lt_of_block HSH.out)).trans HSH.out))).trans ((P5.out.block _ (lt_of_block HSH.out)).trans HSH.out)) m (shape_at HM8.out)
          rw [HSB.out] at s6
          have HO6 := Lib.hid ((HB6.out.block _ (lt_of_block HO5.out)).trans HO5.out)
          clear hb6 hr2 hr2' hT x5
          rcases HCL.out with hcc | hcc | hcc | hcc | hcc
          · have hp : (c.toNat : Int) = 105 := by rw [hcc]; rfl
            have d1 := cell_blk HO6.out 1 (v := .int .i64 o.i) rfl
            have e1 := froz_blk HO6.out 1
            have HO7 := Lib.hid (set_blk HO6.out 1 (.int .i64 yv))
            have HM7 := Lib.hid (show Mut (· = ob) w4 (w6.setCell ⟨ob, 1, none⟩ (.int .i64 yv)) from (HMU.out.then_below HB6.out).trans ((Mut.refl (· = ob) w6).set1 1 (.int .i64 yv)) (fun k hk => .inl hk))
            have P7 := Lib.hid (show Below w3.heap.size w3 (w6.setCell ⟨ob, 1, none⟩ (.int .i64 yv)) from HB34.out.trans (HM7.out.below HB34.out.size (fun k hk => by have := HOB.out; omega)))
            have HBF := Lib.hid (HB3.out.trans (P7.out.mono HB3.out.size))
            have HRW7 := Lib.hid ((P7.out.block _ (lt_of_block HR.out)).trans HR.out)
            have HST2 := Lib.hid (show aRun (shapeOf m) (os.map bl) (opStart m) = (match num (bl wd) with | none => none | some y => aRun ((shapeOf m).drop (i + 1)) ((os.map bl).drop (i + 1)) { o with i := y }) by
              rw [HQ.out, HST.out, hcc]
              simp only [aStep]
              cases num (bl wd) <;> rfl)
            clear hcc
            cases r1 with
            | false =>
              have HNO := Lib.hid (show pOp (bl o0 :: os.map bl) = none by rw [pOp_kind HM8.out HKD.out, aOp, HST2.out, HR1.out.2 rfl])
              have r0 := cell_blk HRW7.out 0 (v := .int .i64 0) rfl
              have f0 := froz_blk HRW7.out 0
              have r1 := cell_blk HRW7.out 1 (v := .int .i64 0) rfl
              have f1 := froz_blk HRW7.out 1
              have r2 := cell_blk HRW7.out 2 (v := .int .i64 0) rfl
              have f2 := froz_blk HRW7.out 2
              have r3 := cell_blk HRW7.out 3 (v := .int .i64 0) rfl
              have f3 := froz_blk HRW7.out 3
              have r4 := cell_blk HRW7.out 4 (v := .string ⟨#[]⟩) rfl
              have f4 := froz_blk HRW7.out 4
              have r5 := cell_blk HRW7.out 5 (v := .string ⟨#[]⟩) rfl
              have f5 := froz_blk HRW7.out 5
              go_wp2_with fail
              obtain ⟨g1, g2⟩ := six_set HRW7.out (.int .i64 0) (.int .i64 0) (.int .i64 0) (.int .i64 0) (.string ⟨#[]⟩) (.string ⟨#[]⟩)
              refine bodyPost_ret (v := .tuple #[opV oZero, .int .i64 0, .bool false]) (op_results _ _ b oZero 0 false rfl rfl rfl g1) rfl ?_
              have hb9 : Below w.heap.size w _ := HBF.out.trans (g2.below HBF.out.size (fun k hk => by have := HBB.out; omega))
              exact ⟨hb9, by rw [HNO.out]; exact ⟨oZero, 0, rfl⟩⟩
            | true =>
              have hnum := HR1.out.1 rfl
              have HQ7 := Lib.hid (show aRun (shapeOf m) (os.map bl) (opStart m) = aRun ((shapeOf m).drop (i + 1)) ((os.map bl).drop (i + 1)) { o with i := yv } by rw [HST2.out, hnum])
              have hnt := num_no_txt hnum
              obtain rfl : r2 = false := by
                cases r2 with
                | false => rfl
                | true => have := HR2.out.1 rfl; rw [hnt] at this; cases this
              obtain rfl : T = ⟨#[]⟩ := (HR2.out.2 rfl).2
              clear hnum hnt
              go_wp2_with fail
              refine (rhas_any ⟨#[]⟩ ⟨#[43]⟩ (by decide) (by decide) _).mono ?_
              rintro e w8 ⟨rfl, hb8⟩
              rw [show hasB (bl ⟨#[43]⟩) (bl ⟨#[]⟩) = false from rfl]
              have HO8 := Lib.hid ((hb8.block _ (lt_of_block HO7.out)).trans HO7.out)
              have HM8' := Lib.hid (HM7.out.then_below hb8)
              clear hb8
              go_wp2_with fail
              go_roundg gk1
              case measure => omega
              case rel => exact ⟨i + 1, { o with i := yv }, by have := HKI.out; omega, by rw [← HI1.out], HO8, HQ7, HM8', HOZ⟩
          · have hp : (c.toNat : Int) = 116 := by rw [hcc]; rfl
            have d1 := cell_blk HO6.out 2 (v := .int .i64 o.t) rfl
            have e1 := froz_blk HO6.out 2
            have HO7 := Lib.hid (set_blk HO6.out 2 (.int .i64 yv))
            have HM7 := Lib.hid (show Mut (· = ob) w4 (w6.setCell ⟨ob, 2, none⟩ (.int .i64 yv)) from (HMU.out.then_below HB6.out).trans ((Mut.refl (· = ob) w6).set1 2 (.int .i64 yv)) (fun k hk => .inl hk))
            have P7 := Lib.hid (show Below w3.heap.size w3 (w6.setCell ⟨ob, 2, none⟩ (.int .i64 yv)) from HB34.out.trans (HM7.out.below HB34.out.size (fun k hk => by have := HOB.out; omega)))
            have HBF := Lib.hid (HB3.out.trans (P7.out.mono HB3.out.size))
            have HRW7 := Lib.hid ((P7.out.block _ (lt_of_block HR.out)).trans HR.out)
            have HST2 := Lib.hid (show aRun (shapeOf m) (os.map bl) (opStart m) = (match num (bl wd) with | none => none | some y => aRun ((shapeOf m).drop (i + 1)) ((os.map bl).drop (i + 1)) { o with t := y }) by
              rw [HQ.out, HST.out, hcc]
              simp only [aStep]
              cases num (bl wd) <;> rfl)
            clear hcc
            cases r1 with
            | false =>
              have HNO := Lib.hid (show pOp (bl o0 :: os.map bl) = none by rw [pOp_kind HM8.out HKD.out, aOp, HST2.out, HR1.out.2 rfl])
              have r0 := cell_blk HRW7.out 0 (v := .int .i64 0) rfl
              have f0 := froz_blk HRW7.out 0
              have r1 := cell_blk HRW7.out 1 (v := .int .i64 0) rfl
              have f1 := froz_blk HRW7.out 1
              have r2 := cell_blk HRW7.out 2 (v := .int .i64 0) rfl
              have f2 := froz_blk HRW7.out 2
              have r3 := cell_blk HRW7.out 3 (v := .int .i64 0) rfl
              have f3 := froz_blk HRW7.out 3
              have r4 := cell_blk HRW7.out 4 (v := .string ⟨#[]⟩) rfl
              have f4 := froz_blk HRW7.out 4
              have r5 := cell_blk HRW7.out 5 (v := .string ⟨#[]⟩) rfl
              have f5 := froz_blk HRW7.out 5
              go_wp2_with fail
              obtain ⟨g1, g2⟩ := six_set HRW7.out (.int .i64 0) (.int .i64 0) (.int .i64 0) (.int .i64 0) (.string ⟨#[]⟩) (.string ⟨#[]⟩)
              refine bodyPost_ret (v := .tuple #[opV oZero, .int .i64 0, .bool false]) (op_results _ _ b oZero 0 false rfl rfl rfl g1) rfl ?_
              have hb9 : Below w.heap.size w _ := HBF.out.trans (g2.below HBF.out.size (fun k hk => by have := HBB.out; omega))
              exact ⟨hb9, by rw [HNO.out]; exact ⟨oZero, 0, rfl⟩⟩
            | true =>
              have hnum := HR1.out.1 rfl
              have HQ7 := Lib.hid (show aRun (shapeOf m) (os.map bl) (opStart m) = aRun ((shapeOf m).drop (i + 1)) ((os.map bl).drop (i + 1)) { o with t := yv } by rw [HST2.out, hnum])
              have hnt := num_no_txt hnum
              obtain rfl : r2 = false := by
                cases r2 with
                | false => rfl
                | true => have := HR2.out.1 rfl; rw [hnt] at this; cases this
              obtain rfl : T = ⟨#[]⟩ := (HR2.out.2 rfl).2
              clear hnum hnt
              go_wp2_with fail
              refine (rhas_any ⟨#[]⟩ ⟨#[43]⟩ (by decide) (by decide) _).mono ?_
              rintro e w8 ⟨rfl, hb8⟩
              rw [show hasB (bl ⟨#[43]⟩) (bl ⟨#[]⟩) = false from rfl]
              have HO8 := Lib.hid ((hb8.block _ (lt_of_block HO7.out)).trans HO7.out)
              have HM8' := Lib.hid (HM7.out.then_below hb8)
              clear hb8
              go_wp2_with fail
              go_roundg gk1
              case measure => omega
              case rel => exact ⟨i + 1, { o with t := yv }, by have := HKI.out; omega, by rw [← HI1.out], HO8, HQ7, HM8', HOZ⟩
          · have hp : (c.toNat : Int) = 97 := by rw [hcc]; rfl
            have d1 := cell_blk HO6.out 3 (v := .int .i64 o.a) rfl
            have e1 := froz_blk HO6.out 3
            have HO7 := Lib.hid (set_blk HO6.out 3 (.int .i64 yv))
            have HM7 := Lib.hid (show Mut (· = ob) w4 (w6.setCell ⟨ob, 3, none⟩ (.int .i64 yv)) from (HMU.out.then_below HB6.out).trans ((Mut.refl (· = ob) w6).set1 3 (.int .i64 yv)) (fun k hk => .inl hk))
            have P7 := Lib.hid (show Below w3.heap.size w3 (w6.setCell ⟨ob, 3, none⟩ (.int .i64 yv)) from HB34.out.trans (HM7.out.below HB34.out.size (fun k hk => by have := HOB.out; omega)))
            have HBF := Lib.hid (HB3.out.trans (P7.out.mono HB3.out.size))
            have HRW7 := Lib.hid ((P7.out.block _ (lt_of_block HR.out)).trans HR.out)
            have HST2 := Lib.hid (show aRun (shapeOf m) (os.map bl) (opStart m) = (match num (bl wd) with | none => none | some y => aRun ((shapeOf m).drop (i + 1)) ((os.map bl).drop (i + 1)) { o with a := y }) by
              rw [HQ.out, HST.out, hcc]
              simp only [aStep]
              cases num (bl wd) <;> rfl)
            clear hcc
            cases r1 with
            | false =>
              have HNO := Lib.hid (show pOp (bl o0 :: os.map bl) = none by rw [pOp_kind HM8.out HKD.out, aOp, HST2.out, HR1.out.2 rfl])
              have r0 := cell_blk HRW7.out 0 (v := .int .i64 0) rfl
              have f0 := froz_blk HRW7.out 0
              have r1 := cell_blk HRW7.out 1 (v := .int .i64 0) rfl
              have f1 := froz_blk HRW7.out 1
              have r2 := cell_blk HRW7.out 2 (v := .int .i64 0) rfl
              have f2 := froz_blk HRW7.out 2
              have r3 := cell_blk HRW7.out 3 (v := .int .i64 0) rfl
              have f3 := froz_blk HRW7.out 3
              have r4 := cell_blk HRW7.out 4 (v := .string ⟨#[]⟩) rfl
              have f4 := froz_blk HRW7.out 4
              have r5 := cell_blk HRW7.out 5 (v := .string ⟨#[]⟩) rfl
              have f5 := froz_blk HRW7.out 5
              go_wp2_with fail
              obtain ⟨g1, g2⟩ := six_set HRW7.out (.int .i64 0) (.int .i64 0) (.int .i64 0) (.int .i64 0) (.string ⟨#[]⟩) (.string ⟨#[]⟩)
              refine bodyPost_ret (v := .tuple #[opV oZero, .int .i64 0, .bool false]) (op_results _ _ b oZero 0 false rfl rfl rfl g1) rfl ?_
              have hb9 : Below w.heap.size w _ := HBF.out.trans (g2.below HBF.out.size (fun k hk => by have := HBB.out; omega))
              exact ⟨hb9, by rw [HNO.out]; exact ⟨oZero, 0, rfl⟩⟩
            | true =>
              have hnum := HR1.out.1 rfl
              have HQ7 := Lib.hid (show aRun (shapeOf m) (os.map bl) (opStart m) = aRun ((shapeOf m).drop (i + 1)) ((os.map bl).drop (i + 1)) { o with a := yv } by rw [HST2.out, hnum])
              have hnt := num_no_txt hnum
              obtain rfl : r2 = false := by
                cases r2 with
                | false => rfl
                | true => have := HR2.out.1 rfl; rw [hnt] at this; cases this
              obtain rfl : T = ⟨#[]⟩ := (HR2.out.2 rfl).2
              clear hnum hnt
              go_wp2_with fail
              refine (rhas_any ⟨#[]⟩ ⟨#[43]⟩ (by decide) (by decide) _).mono ?_
              rintro e w8 ⟨rfl, hb8⟩
              rw [show hasB (bl ⟨#[43]⟩) (bl ⟨#[]⟩) = false from rfl]
              have HO8 := Lib.hid ((hb8.block _ (lt_of_block HO7.out)).trans HO7.out)
              have HM8' := Lib.hid (HM7.out.then_below hb8)
              clear hb8
              go_wp2_with fail
              go_roundg gk1
              case measure => omega
              case rel => exact ⟨i + 1, { o with a := yv }, by have := HKI.out; omega, by rw [← HI1.out], HO8, HQ7, HM8', HOZ⟩
          · have hp : (c.toNat : Int) = 110 := by rw [hcc]; rfl
            have d1 := cell_blk HO6.out 4 (v := .string o.n) rfl
            have e1 := froz_blk HO6.out 4
            have HO7 := Lib.hid (set_blk HO6.out 4 (.string T))
            have HM7 := Lib.hid (show Mut (· = ob) w4 (w6.setCell ⟨ob, 4, none⟩ (.string T)) from (HMU.out.then_below HB6.out).trans ((Mut.refl (· = ob) w6).set1 4 (.string T)) (fun k hk => .inl hk))
            have P7 := Lib.hid (show Below w3.heap.size w3 (w6.setCell ⟨ob, 4, none⟩ (.string T)) from HB34.out.trans (HM7.out.below HB34.out.size (fun k hk => by have := HOB.out; omega)))
            have HBF := Lib.hid (HB3.out.trans (P7.out.mono HB3.out.size))
            have HRW7 := Lib.hid ((P7.out.block _ (lt_of_block HR.out)).trans HR.out)
            have HST2 := Lib.hid (show aRun (shapeOf m) (os.map bl) (opStart m) = (match txt [43] (bl wd) with | none => none | some y => aRun ((shapeOf m).drop (i + 1)) ((os.map bl).drop (i + 1)) { o with n := ⟨y.toArray⟩ }) by
              rw [HQ.out, HST.out, hcc]
              simp only [aStep]
              cases txt [43] (bl wd) <;> rfl)
            clear hcc
            cases r2 with
            | false =>
              have HNO := Lib.hid (show pOp (bl o0 :: os.map bl) = none by rw [pOp_kind HM8.out HKD.out, aOp, HST2.out, txt_plus, (HR2.out.2 rfl).1])
              have r0 := cell_blk HRW7.out 0 (v := .int .i64 0) rfl
              have f0 := froz_blk HRW7.out 0
              have r1 := cell_blk HRW7.out 1 (v := .int .i64 0) rfl
              have f1 := froz_blk HRW7.out 1
              have r2 := cell_blk HRW7.out 2 (v := .int .i64 0) rfl
              have f2 := froz_blk HRW7.out 2
              have r3 := cell_blk HRW7.out 3 (v := .int .i64 0) rfl
              have f3 := froz_blk HRW7.out 3
              have r4 := cell_blk HRW7.out 4 (v := .string ⟨#[]⟩) rfl
              have f4 := froz_blk HRW7.out 4
              have r5 := cell_blk HRW7.out 5 (v := .string ⟨#[]⟩) rfl
              have f5 := froz_blk HRW7.out 5
              go_wp2_with fail
              obtain ⟨g1, g2⟩ := six_set HRW7.out (.int .i64 0) (.int .i64 0) (.int .i64 0) (.int .i64 0) (.string ⟨#[]⟩) (.string ⟨#[]⟩)
              refine bodyPost_ret (v := .tuple #[opV oZero, .int .i64 0, .bool false]) (op_results _ _ b oZero 0 false rfl rfl rfl g1) rfl ?_
              have hb9 : Below w.heap.size w _ := HBF.out.trans (g2.below HBF.out.size (fun k hk => by have := HBB.out; omega))
              exact ⟨hb9, by rw [HNO.out]; exact ⟨oZero, 0, rfl⟩⟩
            | true =>
              have hty := HR2.out.1 rfl
              have HTZ := Lib.hid (show T.size ≤ 4294967296 by
                have h1 : bl wd = 91 :: (bl T ++ [93]) := txt_text hty
                have h2 := HWZ.out
                rw [size_bl, h1] at h2
                simp only [List.length_cons, List.length_append, List.length_nil] at h2
                rw [size_bl]
                omega)
              have HTP := Lib.hid (show txt [43] (bl wd) = if hasB [43] (bl T) = true then none else some (bl T) by rw [txt_plus, hty])
              clear hty
              go_wp2_with fail
              refine (rhas_any T ⟨#[43]⟩ HTZ.out (by decide) _).mono ?_
              rintro e w8 ⟨rfl, hb8⟩
              have HO8 := Lib.hid ((hb8.block _ (lt_of_block HO7.out)).trans HO7.out)
              have HM8' := Lib.hid (HM7.out.then_below hb8)
              have HRW7 := Lib.hid ((hb8.block _ (lt_of_block HRW7.out)).trans HRW7.out)
              have HBF := Lib.hid (HBF.out.trans (hb8.mono HBF.out.size))
              clear hb8
              cases hh : hasB (bl ⟨#[43]⟩) (bl T) with
              | true =>
                have HNO := Lib.hid (show pOp (bl o0 :: os.map bl) = none by rw [pOp_kind HM8.out HKD.out, aOp, HST2.out, HTP.out, if_pos hh])
                clear hh
                have r0 := cell_blk HRW7.out 0 (v := .int .i64 0) rfl
                have f0 := froz_blk HRW7.out 0
                have r1 := cell_blk HRW7.out 1 (v := .int .i64 0) rfl
                have f1 := froz_blk HRW7.out 1
                have r2 := cell_blk HRW7.out 2 (v := .int .i64 0) rfl
                have f2 := froz_blk HRW7.out 2
                have r3 := cell_blk HRW7.out 3 (v := .int .i64 0) rfl
                have f3 := froz_blk HRW7.out 3
                have r4 := cell_blk HRW7.out 4 (v := .string ⟨#[]⟩) rfl
                have f4 := froz_blk HRW7.out 4
                have r5 := cell_blk HRW7.out 5 (v := .string ⟨#[]⟩) rfl
                have f5 := froz_blk HRW7.out 5
                go_wp2_with fail
                obtain ⟨g1, g2⟩ := six_set HRW7.out (.int .i64 0) (.int .i64 0) (.int .i64 0) (.int .i64 0) (.string ⟨#[]⟩) (.string ⟨#[]⟩)
                refine bodyPost_ret (v := .tuple #[opV oZero, .int .i64 0, .bool false]) (op_results _ _ b oZero 0 false rfl rfl rfl g1) rfl ?_
                have hb9 : Below w.heap.size w _ := HBF.out.trans (g2.below HBF.out.size (fun k hk => by have := HBB.out; omega))
                exact ⟨hb9, by rw [HNO.out]; exact ⟨oZero, 0, rfl⟩⟩
              | false =>
                have HQ7 := Lib.hid (show aRun (shapeOf m) (os.map bl) (opStart m) = aRun ((shapeOf m).drop (i + 1)) ((os.map bl).drop (i + 1)) { o with n := T } by
                  have h0 : ¬ hasB [43] (bl T) = true := fun h => by
                    have h1 : hasB [43] (bl T) = false := hh
                    rw [h1] at h
                    cases h
                  rw [HST2.out, HTP.out, if_neg h0])
                clear hh
                go_wp2_with fail
                go_roundg gk1
                case measure => omega
                case rel => exact ⟨i + 1, { o with n := T }, by have := HKI.out; omega, by rw [← HI1.out], HO8, HQ7, HM8', Lib.hid ⟨HTZ.out, HOZ.out.2⟩⟩
          · have hp : (c.toNat : Int) = 120 := by rw [hcc]; rfl
            have d1 := cell_blk HO6.out 5 (v := .string o.x) rfl
            have e1 := froz_blk HO6.out 5
            have HO7 := Lib.hid (set_blk HO6.out 5 (.string T))
            have HM7 := Lib.hid (show Mut (· = ob) w4 (w6.setCell ⟨ob, 5, none⟩ (.string T)) from (HMU.out.then_below HB6.out).trans ((Mut.refl (· = ob) w6).set1 5 (.string T)) (fun k hk => .inl hk))
            have P7 := Lib.hid (show Below w3.heap.size w3 (w6.setCell ⟨ob, 5, none⟩ (.string T)) from HB34.out.trans (HM7.out.below HB34.out.size (fun k hk => by have := HOB.out; omega)))
            have HBF := Lib.hid (HB3.out.trans (P7.out.mono HB3.out.size))
            have HRW7 := Lib.hid ((P7.out.block _ (lt_of_block HR.out)).trans HR.out)
            have HST2 := Lib.hid (show aRun (shapeOf m) (os.map bl) (opStart m) = (match txt [43] (bl wd) with | none => none | some y => aRun ((shapeOf m).drop (i + 1)) ((os.map bl).drop (i + 1)) { o with x := ⟨y.toArray⟩ }) by
              rw [HQ.out, HST.out, hcc]
              simp only [aStep]
              cases txt [43] (bl wd) <;> rfl)
            clear hcc
            cases r2 with
            | false =>
              have HNO := Lib.hid (show pOp (bl o0 :: os.map bl) = none by rw [pOp_kind HM8.out HKD.out, aOp, HST2.out, txt_plus, (HR2.out.2 rfl).1])
              have r0 := cell_blk HRW7.out 0 (v := .int .i64 0) rfl
              have f0 := froz_blk HRW7.out 0
              have r1 := cell_blk HRW7.out 1 (v := .int .i64 0) rfl
              have f1 := froz_blk HRW7.out 1
              have r2 := cell_blk HRW7.out 2 (v := .int .i64 0) rfl
              have f2 := froz_blk HRW7.out 2
              have r3 := cell_blk HRW7.out 3 (v := .int .i64 0) rfl
              have f3 := froz_blk HRW7.out 3
              have r4 := cell_blk HRW7.out 4 (v := .string ⟨#[]⟩) rfl
              have f4 := froz_blk HRW7.out 4
              have r5 := cell_blk HRW7.out 5 (v := .string ⟨#[]⟩) rfl
              have f5 := froz_blk HRW7.out 5
              go_wp2_with fail
              obtain ⟨g1, g2⟩ := six_set HRW7.out (.int .i64 0) (.int .i64 0) (.int .i64 0) (.int .i64 0) (.string ⟨#[]⟩) (.string ⟨#[]⟩)
              refine bodyPost_ret (v := .tuple #[opV oZero, .int .i64 0, .bool false]) (op_results _ _ b oZero 0 false rfl rfl rfl g1) rfl ?_
              have hb9 : Below w.heap.size w _ := HBF.out.trans (g2.below HBF.out.size (fun k hk => by have := HBB.out; omega))
              exact ⟨hb9, by rw [HNO.out]; exact ⟨oZero, 0, rfl⟩⟩
            | true =>
              have hty := HR2.out.1 rfl
              have HTZ := Lib.hid (show T.size ≤ 4294967296 by
                have h1 : bl wd = 91 :: (bl T ++ [93]) := txt_text hty
                have h2 := HWZ.out
                rw [size_bl, h1] at h2
                simp only [List.length_cons, List.length_append, List.length_nil] at h2
                rw [size_bl]
                omega)
              have HTP := Lib.hid (show txt [43] (bl wd) = if hasB [43] (bl T) = true then none else some (bl T) by rw [txt_plus, hty])
              clear hty
              go_wp2_with fail
              refine (rhas_any T ⟨#[43]⟩ HTZ.out (by decide) _).mono ?_
              rintro e w8 ⟨rfl, hb8⟩
              have HO8 := Lib.hid ((hb8.block _ (lt_of_block HO7.out)).trans HO7.out)
              have HM8' := Lib.hid (HM7.out.then_below hb8)
              have HRW7 := Lib.hid ((hb8.block _ (lt_of_block HRW7.out)).trans HRW7.out)
              have HBF := Lib.hid (HBF.out.trans (hb8.mono HBF.out.size))
              clear hb8
              cases hh : hasB (bl ⟨#[43]⟩) (bl T) with
              | true =>
                have HNO := Lib.hid (show pOp (bl o0 :: os.map bl) = none by rw [pOp_kind HM8.out HKD.out, aOp, HST2.out, HTP.out, if_pos hh])
                clear hh
                have r0 := cell_blk HRW7.out 0 (v := .int .i64 0) rfl
                have f0 := froz_blk HRW7.out 0
                have r1 := cell_blk HRW7.out 1 (v := .int .i64 0) rfl
                have f1 := froz_blk HRW7.out 1
                have r2 := cell_blk HRW7.out 2 (v := .int .i64 0) rfl
                have f2 := froz_blk HRW7.out 2
                have r3 := cell_blk HRW7.out 3 (v := .int .i64 0) rfl
                have f3 := froz_blk HRW7.out 3
                have r4 := cell_blk HRW7.out 4 (v := .string ⟨#[]⟩) rfl
                have f4 := froz_blk HRW7.out 4
                have r5 := cell_blk HRW7.out 5 (v := .string ⟨#[]⟩) rfl
                have f5 := froz_blk HRW7.out 5
                go_wp2_with fail
                obtain ⟨g1, g2⟩ := six_set HRW7.out (.int .i64 0) (.int .i64 0) (.int .i64 0) (.int .i64 0) (.string ⟨#[]⟩) (.string ⟨#[]⟩)
                refine bodyPost_ret (v := .tuple #[opV oZero, .int .i64 0, .bool false]) (op_results _ _ b oZero 0 false rfl rfl rfl g1) rfl ?_
                have hb9 : Below w.heap.size w _ := HBF.out.trans (g2.below HBF.out.size (fun k hk => by have := HBB.out; omega))
                exact ⟨hb9, by rw [HNO.out]; exact ⟨oZero, 0, rfl⟩⟩
              | false =>
                have HQ7 := Lib.hid (show aRun (shapeOf m) (os.map bl) (opStart m) = aRun ((shapeOf m).drop (i + 1)) ((os.map bl).drop (i + 1)) { o with x := T } by
                  have h0 : ¬ hasB [43] (bl T) = true := fun h => by
                    have h1 : hasB [43] (bl T) = false := hh
                    rw [h1] at h
                    cases h
                  rw [HST2.out, HTP.out, if_neg h0])
                clear hh
                go_wp2_with fail
                go_roundg gk1
                case measure => omega
                case rel => exact ⟨i + 1, { o with x := T }, by have := HKI.out; omega, by rw [← HI1.out], HO8, HQ7, HM8', Lib.hid ⟨HOZ.out.1, HTZ.out⟩⟩
end Go.Proofs.YtjcdpccfhpbccaaGreatDoor
