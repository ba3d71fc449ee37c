/-
  The walk of the document's own numbers of a line.
  The walks of the document's own layout that may be, and of its word for a bad line.
  The document's own operations, letter by letter; plainly.
-/
import Derived.Test.YtjcdpccfhpbccaaGreatDoorP7
import Derived.Test.YtjcdpccfhpbccaaGreatDoorM0
namespace Go.Proofs.YtjcdpccfhpbccaaGreatDoor
open Go.RowKit Go.Proofs.YtjcdpccfhpbccaaGreatDoorW.PrintWords

def aNums : List (List UInt8) → Option (List Int)
  | [] => some []
  | x :: r => match num x with
    | none => none
    | some k => (aNums r).map (k :: ·)
def NumsPost (w : World) (hd : Bool) (r : Option (List Int)) (e : Ending) (w' : World) : Prop :=
  match r with
  | none => e = .returned (.tuple #[.slice none 0 0, .bool false]) ∧ Below w.heap.size w w'
  | some l => ∃ v, e = .returned (.tuple #[v, .bool hd]) ∧ (Kd.int .i64).R 3 w' w.heap.size (fun _ => True) v l ∧ Below w.heap.size w w'
theorem wtext_mem {x : List UInt8} : ∀ {ws : List (List UInt8)}, x ∈ ws → x.length ≤ (wtext ws).length := by
  intro ws
  induction ws with
  | nil => intro h; simp at h
  | cons y ws ih =>
    intro h
    rw [wtext_cons, List.length_append, List.length_cons]
    rcases List.mem_cons.1 h with rfl | h
    · omega
    · have := ih h; omega
theorem words_mem {l x : List UInt8} (h : x ∈ Scr.words l) : x.length ≤ l.length := by
  obtain ⟨y, ws, hw⟩ := words_ne l
  have hl := line_text hw
  have hlen : l.length = y.length + (wtext ws).length := by
    conv => lhs; rw [hl]
    exact List.length_append
  rw [hw] at h
  rcases List.mem_cons.1 h with rfl | h
  · omega
  · have := wtext_mem h; omega
theorem wtext_cnt : ∀ ws : List (List UInt8), ws.length ≤ (wtext ws).length
  | [] => Nat.zero_le _
  | x :: ws => by
    have := wtext_cnt ws
    rw [wtext_cons, List.length_append, List.length_cons, List.length_cons]
    omega
theorem words_cnt {l x : List UInt8} {ws : List (List UInt8)} (h : Scr.words l = x :: ws) : ws.length ≤ l.length := by
  have hl := line_text h
  have h2 := wtext_cnt ws
  have hlen : l.length = x.length + (wtext ws).length := by
    conv => lhs; rw [hl]
    exact List.length_append
  omega
theorem str_cell {w : World} {A : Option Addr} {n : Nat} {xs : List ByteArray} (h : Kd.string.C w A n xs) (i : Nat) (hi : i < n) {x : ByteArray} (hx : xs[i]? = some x) :
    ∃ ad, A = some ad ∧ ∀ W, Below w.heap.size w W → W.cell? (ad.add i) = some (.string x) := by
  obtain ⟨ad, h1, h2⟩ := Kd.at_string h i (by omega) (by omega)
  refine ⟨ad, h1, fun W hb => ?_⟩
  have h3 : rdOf ByteArray.empty xs i = x := by
    unfold rdOf
    rw [Int.toNat_natCast, List.getD_eq_getElem?_getD, hx]
    rfl
  rw [h3, Int.toNat_natCast] at h2
  exact (hb.cell (World.block_lt_of_cell? _ _ h2)).trans h2
theorem info_int : (Tryz.prog.info? 3).map (fun i => (i.zero, i.size, i.bytes)) = some (some (.int .i64 0), 1, 8) := by kernel_rfl
theorem aNums_step {l : List (List UInt8)} {j : Nat} {x : List UInt8} (h : l[j]? = some x) : aNums (l.drop j) = match num x with | none => none | some k => (aNums (l.drop (j + 1))).map (k :: ·) := by
  obtain ⟨hlt, he⟩ := List.getElem?_eq_some_iff.1 h
  rw [List.drop_eq_getElem_cons hlt, he, aNums]
set_option maxRecDepth 100000 in
set_option maxHeartbeats 4000000 in
theorem rnumbers_any (line word : ByteArray) (hs : line.size ≤ 4294967280) (x : List UInt8) (ws : List (List UInt8)) (hw : Scr.words (bl line) = x :: ws) (hd : Bool) (hhd : decide (x = bl word) = hd) (w : World) :
    Calls Tryz.prog 21 #[.string line, .string word] w (NumsPost w hd (aNums ws)) := by
  have HS := Lib.hid hs
  have HW := Lib.hid hw
  have HHD := Lib.hid hhd
  clear hs hw hhd
  go_enter Tryz.func21, Tryz.ntmps21
  go_wp2_with fail
  refine (rwords_any line HS.out w).mono ?_
  rintro e w1 ⟨v1, outs, rfl, hr1, ho, hb1⟩
  obtain ⟨A1, k1, rfl⟩ := Kd.R_slice hr1
  have HC1 := Lib.hid (Kd.R_reads' hr1).2.2
  have HB1 := Lib.hid hb1
  rw [HW.out] at ho
  obtain ⟨o0, os, rfl, ho0, hos⟩ : ∃ o0 os, outs = o0 :: os ∧ bl o0 = x ∧ os.map bl = ws := by
    cases outs with
    | nil => simp at ho
    | cons o0 os => simp at ho; exact ⟨o0, os, rfl, ho.1, ho.2⟩
  have HO0 := Lib.hid ho0
  have HOS := Lib.hid hos
  have HSZ := Lib.hid (show ∀ o ∈ os, o.size ≤ 4294967280 from fun o ho2 => by
    have h1 : bl o ∈ Scr.words (bl line) := by rw [HW.out]; exact List.mem_cons_of_mem _ (by rw [← hos]; exact List.mem_map_of_mem ho2)
    have h2 := words_mem h1
    rw [← size_bl, ← size_bl] at h2
    have := HS.out
    omega)
  have HLN := Lib.hid (show os.length ≤ 4294967280 by
    have h1 := words_cnt HW.out
    rw [← hos, List.length_map, ← size_bl] at h1
    have := HS.out
    omega)
  obtain ⟨N, hN⟩ : ∃ N, (o0 :: os).length = N := ⟨_, rfl⟩
  have HN := Lib.hid (show N = os.length + 1 by rw [← hN]; rfl)
  rw [hN] at HC1 ⊢
  clear hr1 hb1 ho ho0 hos hN
  go_wp2_with fail
  have HE := Lib.hid (R_empty (Kd.int .i64) w1 w1.heap.size 3 (fun _ => True) trivial (Nat.le_refl _))
  have HB2 := Lib.hid (show Below w1.heap.size w1 (w1.alloc (.cells #[] 3)) from (Below.refl _ _).alloc (Nat.le_refl _) _)
  go_loopg [7, 8] os.length (fun k s7 s8 wr => ∃ (j : Nat) (l : List Int), k + j = os.length ∧ s8 = .int .i64 (1 + j : Nat) ∧ Hid ((Kd.int .i64).R 3 wr w1.heap.size (fun _ => True) s7 l) ∧ Hid (l.length ≤ j) ∧ Hid (aNums ws = (aNums (ws.drop j)).map (l ++ ·)) ∧ Hid (Below w1.heap.size w1 wr))
  case atStart => exact ⟨0, [], by omega, rfl, HE, Lib.hid (Nat.le_refl _), Lib.hid (by rw [List.drop_zero]; cases aNums ws <;> rfl), HB2⟩
  case round =>
    clear HE HB2
    obtain ⟨j, l, hkj, rfl, R, HL, HQ, P⟩ := hrel
    have HBW := Lib.hid (HB1.out.trans (P.out.mono HB1.out.size))
    obtain ⟨m, hm⟩ : ∃ m, 1 + j = m := ⟨_, rfl⟩
    rw [hm]
    cases gk with
    | zero =>
      have hlt : ¬ (m : Int) < (N : Int) := by have := HN.out; omega
      have HF := Lib.hid (show aNums ws = some l by
        have := HQ.out
        rw [List.drop_of_length_le (by rw [← HOS.out, List.length_map]; omega)] at this
        simpa [aNums] using this)
      obtain ⟨ad, rfl, e1⟩ := str_cell HC1.out 0 (by have := HN.out; omega) (x := o0) rfl
      have x0 := e1 _ P.out
      have x0' := fun q => e1 _ (below_drewN P.out q)
      rw [show ad.add 0 = ad by simp [Addr.add]] at x0
      simp only [show ad.add 0 = ad by simp [Addr.add]] at x0'
      have hpos : (0 : Int) < (N : Int) := by have := HN.out; omega
      have HRR := Lib.hid (show ∀ r : Bool, r = hd → ∀ W v, (Kd.int .i64).R 3 W w.heap.size (fun _ => True) v l → Below w.heap.size w W → NumsPost w hd (aNums ws) (.returned (.tuple #[v, .bool r])) W from fun r hr W v h1 h2 => by
        rw [HF.out, hr]
        exact ⟨v, rfl, h1, h2⟩)
      clear e1 hm hkj
      by_cases hx : o0 = word
      · subst hx
        have HD := Lib.hid (show true = hd by rw [← HHD.out, ← HO0.out]; simp)
        go_wp2_with fail
        go_quiet (fail)
        go_wp2_with fail
        go_ret2
        exact HRR.out _ HD.out _ _ (Kd.R_lower (Kd.R_drewN R.out _) HB1.out.size) (below_drewN HBW.out _)
      · have hb := bytes_ne hx
        have HD := Lib.hid (show false = hd by
          rw [← HHD.out, ← HO0.out]
          exact (decide_eq_false (fun h => hx (by rw [← mk_bl o0, ← mk_bl word, h]))).symm)
        clear hx
        go_wp2_with fail
        go_quiet (fail)
        go_wp2_with fail
        go_ret2
        exact HRR.out _ HD.out _ _ (Kd.R_lower (Kd.R_drewN R.out _) HB1.out.size) (below_drewN HBW.out _)
    | succ gk =>
      have hlt : (m : Int) < (N : Int) := by have := HN.out; omega
      obtain ⟨o, ho⟩ : ∃ o, os[j]? = some o := ⟨_, List.getElem?_eq_getElem (by omega)⟩
      obtain ⟨ad, rfl, e1⟩ := str_cell HC1.out m (by have := HN.out; omega) (x := o) (by rw [← hm, Nat.add_comm]; exact ho)
      have x0 := e1 _ P.out
      have q0 : IntKind.i64.wrap ((m : Int) + 1) = (m : Int) + 1 := wrap_next' (by have := HLN.out; omega)
      have hwj : ws[j]? = some (bl o) := by rw [← HOS.out, List.getElem?_map, ho]; rfl
      have hst := aNums_step hwj
      have HOZ := Lib.hid (HSZ.out o (List.mem_of_getElem? ho))
      have HM := Lib.hid hm
      have HKJ := Lib.hid hkj
      clear e1 hm hkj ho hwj
      go_wp2_with fail
      refine (rnumber_any o HOZ.out _ rfl wr).mono ?_
      intro e w2 h2
      cases hn : num (bl o) with
      | none =>
        rw [hn] at h2 hst
        obtain ⟨⟨y, _, rfl⟩, hb2⟩ := h2
        have HB2 := Lib.hid (HBW.out.trans (hb2.mono HBW.out.size))
        have HF := Lib.hid (show aNums ws = none by rw [HQ.out, hst]; rfl)
        clear hn hst hb2
        go_wp2_with fail
        go_ret2
        exact (show NumsPost w hd (aNums ws) _ _ by rw [HF.out]; exact ⟨rfl, HB2.out⟩)
      | some k =>
        rw [hn] at h2 hst
        obtain ⟨rfl, hb2⟩ := h2
        have HB2 := Lib.hid (HBW.out.trans (hb2.mono HBW.out.size))
        have HB12 := Lib.hid (P.out.trans (hb2.mono P.out.size))
        have R2 := Lib.hid (Kd.R_below R.out hb2)
        have HL2 := Lib.hid (show (l.length + 1) * 8 ≤ 140737488355328 by have := HL.out; have := HLN.out; have := HKJ.out; omega)
        have HQ2 := Lib.hid (show aNums ws = (aNums (ws.drop (j + 1))).map ((l ++ [k]) ++ ·) by
          rw [HQ.out, hst]
          cases aNums (ws.drop (j + 1)) <;> simp)
        clear hn hst hb2
        go_wp2_with (at_builtin; go_loud (refine Kd.R_append (Kd.int .i64) w1.heap.size rfl (.tmp 30) (.tmp 32) 65 3 (.int .i64 0) 8 rfl Tryz.underlying65 info_int rfl (by decide) (by decide) _ l k [.int .i64 k] (fun _ => True) (fun _ => False) rfl rfl rfl (fun _ h => h.elim) (fun _ _ => trivial) R2.out HB12.out HB12.out.size HL2.out ?_))
        intro v3 w3 hr3 hb3 hg3 hat3
        have HR3 := Lib.hid hr3
        have HB3 := Lib.hid hb3
        clear hr3 hb3 hg3 hat3
        go_wp2_with fail
        go_roundg gk
        case measure => omega
        case rel => exact ⟨j + 1, l ++ [k], by have := HKJ.out; omega, by rw [← HM.out]; rfl, HR3, Lib.hid (by have := HL.out; simp; omega), HQ2, HB3⟩
end Go.Proofs.YtjcdpccfhpbccaaGreatDoor
namespace Go.Proofs.YtjcdpccfhpbccaaGreatDoor
open Go.RowKit Go.Proofs.YtjcdpccfhpbccaaGreatDoorW.PrintWords

theorem may15_any (a b : Int) (w : World) :
    Calls Tryz.prog 22 #[.agg #[.int .i64 a, .int .i64 b]] w fun e w' => e = .returned (.bool (mayL a b)) ∧ Below w.heap.size w w' := by
  have hb : ∀ o, Below w.heap.size w (w.alloc o) := fun o => (Below.refl _ _).alloc (Nat.le_refl _) o
  have hv : mayL a b = (decide (0 < a) && decide (a ≤ 4) && decide (0 < b) && decide (b ≤ 4)) := rfl
  have HV := Lib.hid hv
  have HB := Lib.hid hb
  clear hb hv
  by_cases h1 : 0 < a
  · by_cases h2 : a ≤ 4
    · by_cases h3 : 0 < b
      · by_cases h4 : b ≤ 4
        · go_enter Tryz.func22, Tryz.ntmps22
          go_wp2
          go_ret
          exact ⟨by rw [HV.out]; simp [h1, h2, h3, h4], HB.out _⟩
        · go_enter Tryz.func22, Tryz.ntmps22
          go_wp2
          go_ret
          exact ⟨by rw [HV.out]; simp [h1, h2, h3, h4], HB.out _⟩
      · go_enter Tryz.func22, Tryz.ntmps22
        go_wp2
        go_ret
        exact ⟨by rw [HV.out]; simp [h1, h2, h3]; omega, HB.out _⟩
    · go_enter Tryz.func22, Tryz.ntmps22
      go_wp2
      go_ret
      exact ⟨by rw [HV.out]; simp [h1, h2]; omega, HB.out _⟩
  · go_enter Tryz.func22, Tryz.ntmps22
    go_wp2
    go_ret
    exact ⟨by rw [HV.out]; simp [h1]; omega, HB.out _⟩
set_option maxRecDepth 100000 in
set_option maxHeartbeats 1000000 in
theorem bad_any (n : Nat) (w : World) : Calls Tryz.prog 20 #[.int .i64 n] w fun e w' => e = .returned (.tuple #[.agg scrZero, .int .i64 n, .int .i64 210]) ∧ Below w.heap.size w w' := by
  have HB := Lib.hid (show ∀ o, Below w.heap.size w (w.alloc o) from fun o => (Below.refl _ _).alloc (Nat.le_refl _) o)
  go_enter Tryz.func20, Tryz.ntmps20
  go_wp2_with fail
  refine bodyPost_ret (v := .tuple #[.agg scrZero, .int .i64 n, .int .i64 210]) (by simp [results, Tryz.results20, asAddr, go_sem, Result.andThen, scrZero]) rfl ⟨rfl, HB.out _⟩
end Go.Proofs.YtjcdpccfhpbccaaGreatDoor
namespace Go.Proofs.YtjcdpccfhpbccaaGreatDoor
open Go.RowKit Go.Proofs.YtjcdpccfhpbccaaGreatDoorW.PrintWords

/-- The letters of a kind, in the order of the words behind it. -/
def shapeOf : Nat → List UInt8
  | 0 => [110]
  | 1 => [120]
  | 2 => [120]
  | 3 => [105, 116, 97]
  | 4 => [105]
  | 5 => [105, 110, 120]
  | 6 => [105, 110]
  | 7 => [105, 120]
  | _ => []
def aStep (c : UInt8) (w : List UInt8) (o : OpD) : Option OpD :=
  if c = 105 then (num w).map fun k => { o with i := k }
  else if c = 116 then (num w).map fun k => { o with t := k }
  else if c = 97 then (num w).map fun k => { o with a := k }
  else if c = 110 then (txt [43] w).map fun y => { o with n := ⟨y.toArray⟩ }
  else if c = 120 then (txt [43] w).map fun y => { o with x := ⟨y.toArray⟩ }
  else none
def aRun : List UInt8 → List (List UInt8) → OpD → Option (OpD × List (List UInt8))
  | [], ws, o => some (o, ws)
  | _ :: _, [], _ => none
  | c :: sh, w :: ws, o => match aStep c w o with
    | none => none
    | some o1 => aRun sh ws o1
def opStart (k : Nat) : OpD := ⟨(k : Int) + 1, 0, 0, 0, ⟨#[]⟩, ⟨#[]⟩⟩
def aOp (k : Nat) (ws : List (List UInt8)) : Option (OpD × List (List UInt8)) :=
  match aRun (shapeOf k) ws (opStart k) with
  | none => none
  | some (o, ws') => if mayB o.k o.i o.t o.a o.n o.x then some (o, ws') else none
theorem pOp_kind {x : List UInt8} {k : Nat} (hk : k < 8) (h : kindOf x = (k + 1 : Nat)) (ws : List (List UInt8)) : pOp (x :: ws) = aOp k ws := by
  have hn : (kindOf x).toNat = k + 1 := by omega
  simp only [pOp, hn]
  have hj : k = 0 ∨ k = 1 ∨ k = 2 ∨ k = 3 ∨ k = 4 ∨ k = 5 ∨ k = 6 ∨ k = 7 := by omega
  rcases hj with rfl | rfl | rfl | rfl | rfl | rfl | rfl | rfl
  · cases ws with
    | nil => rfl
    | cons a ws =>
      cases h1 : txt [43] a <;> simp [optNum, optText, shName, shText, pText, aOp, shapeOf, aRun, aStep, opStart, h1]
  · cases ws with
    | nil => rfl
    | cons a ws =>
      cases h1 : txt [43] a <;> simp [optNum, optText, shName, shText, pText, aOp, shapeOf, aRun, aStep, opStart, h1]
  · cases ws with
    | nil => rfl
    | cons a ws =>
      cases h1 : txt [43] a <;> simp [optNum, optText, shName, shText, pText, aOp, shapeOf, aRun, aStep, opStart, h1]
  · cases ws with
    | nil => rfl
    | cons a ws =>
      cases h1 : num a with
      | none => simp [optNum, optText, shName, shText, pNum, aOp, shapeOf, aRun, aStep, opStart, h1]
      | some ka =>
        cases ws with
        | nil => simp [optNum, optText, shName, shText, pNum, aOp, shapeOf, aRun, aStep, opStart, h1]
        | cons b ws =>
          cases h2 : num b with
          | none => simp [optNum, optText, shName, shText, pNum, aOp, shapeOf, aRun, aStep, opStart, h1, h2]
          | some kb =>
            cases ws with
            | nil => simp [optNum, optText, shName, shText, pNum, aOp, shapeOf, aRun, aStep, opStart, h1, h2]
            | cons d ws =>
              cases h3 : num d <;> simp [optNum, optText, shName, shText, pNum, aOp, shapeOf, aRun, aStep, opStart, h1, h2, h3]
  · cases ws with
    | nil => rfl
    | cons a ws =>
      cases h1 : num a <;> simp [optNum, optText, shName, shText, pNum, aOp, shapeOf, aRun, aStep, opStart, h1]
  · cases ws with
    | nil => rfl
    | cons a ws =>
      cases h1 : num a with
      | none => simp [optNum, optText, shName, shText, pNum, aOp, shapeOf, aRun, aStep, opStart, h1]
      | some ka =>
        cases ws with
        | nil => simp [optNum, optText, shName, shText, pNum, pText, aOp, shapeOf, aRun, aStep, opStart, h1]
        | cons b ws =>
          cases h2 : txt [43] b with
          | none => simp [optNum, optText, shName, shText, pNum, pText, aOp, shapeOf, aRun, aStep, opStart, h1, h2]
          | some kb =>
            cases ws with
            | nil => simp [optNum, optText, shName, shText, pNum, pText, aOp, shapeOf, aRun, aStep, opStart, h1, h2]
            | cons d ws =>
              cases h3 : txt [43] d <;> simp [optNum, optText, shName, shText, pNum, pText, aOp, shapeOf, aRun, aStep, opStart, h1, h2, h3]
  · cases ws with
    | nil => rfl
    | cons a ws =>
      cases h1 : num a with
      | none => simp [optNum, optText, shName, shText, pNum, aOp, shapeOf, aRun, aStep, opStart, h1]
      | some ka =>
        cases ws with
        | nil => simp [optNum, optText, shName, shText, pNum, pText, aOp, shapeOf, aRun, aStep, opStart, h1]
        | cons b ws =>
          cases h2 : txt [43] b <;> simp [optNum, optText, shName, shText, pNum, pText, aOp, shapeOf, aRun, aStep, opStart, h1, h2]
  · cases ws with
    | nil => rfl
    | cons a ws =>
      cases h1 : num a with
      | none => simp [optNum, optText, shName, shText, pNum, aOp, shapeOf, aRun, aStep, opStart, h1]
      | some ka =>
        cases ws with
        | nil => simp [optNum, optText, shName, shText, pNum, pText, aOp, shapeOf, aRun, aStep, opStart, h1]
        | cons b ws =>
          cases h2 : txt [43] b <;> simp [optNum, optText, shName, shText, pNum, pText, aOp, shapeOf, aRun, aStep, opStart, h1, h2]
theorem pOp_no {x : List UInt8} (h : kindOf x = 0) (ws : List (List UInt8)) : pOp (x :: ws) = none := by
  have hn : (kindOf x).toNat = 0 := by omega
  simp [pOp, hn, optNum, optText, shName, shText, mayB]
theorem txt_plus (w : List UInt8) : txt [43] w = match txt [] w with | none => none | some y => if hasB [43] y = true then none else some y := by
  unfold txt
  split
  · rfl
  split
  · rfl
  split
  · rfl
  have e : hasB (91 :: 93 :: [43]) (inner w) = (hasB [91, 93] (inner w) || hasB [43] (inner w)) := by
    unfold hasB
    induction inner w with
    | nil => rfl
    | cons c l ih =>
      simp only [List.any_cons, ih]
      have : [91, 93, 43].contains c = ([91, 93].contains c || [43].contains c) := by
        simp only [List.contains_cons, List.contains_nil, Bool.or_false, Bool.or_assoc]
      rw [this]
      cases [91, 93].contains c <;> cases [43].contains c <;> cases (l.any fun c => [91, 93].contains c) <;> simp
  rw [e]
  cases h1 : hasB [91, 93] (inner w) <;> cases h2 : hasB [43] (inner w) <;> simp [h2]
theorem num_no_txt {w : List UInt8} {k : Int} (h : num w = some k) : txt [] w = none := by
  obtain ⟨_, h2⟩ := num_some.1 h
  have h0 : w[0]? ≠ some 91 := by
    rw [h2]
    by_cases hk : k < 0
    · rw [Lib.itoa, if_pos hk]; simp
    · rw [Lib.itoa, if_neg hk]
      cases hd : Lib.decDigits k.toNat with
      | nil => simp
      | cons c r =>
        have h3 := (dec_val k.toNat).2 c (by rw [hd]; simp)
        intro he
        have : c = 91 := by simpa using he
        rw [this] at h3
        exact absurd h3.2 (by decide)
  unfold txt
  by_cases hl : w.length < 2
  · rw [if_pos hl]
  · rw [if_neg hl, if_pos h0]
end Go.Proofs.YtjcdpccfhpbccaaGreatDoor
