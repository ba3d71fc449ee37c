/-
  The walks of the document's own call of a line.
-/
import Derived.Test.YtjcdpccfhpbccaaGreatDoorQ1
import Derived.Test.YtjcdpccfhpbccaaGreatDoorN1
import Derived.Test.YtjcdpccfhpbccaaGreatDoorD4
namespace Go.Proofs.YtjcdpccfhpbccaaGreatDoor
open Go.RowKit Go.Proofs.YtjcdpccfhpbccaaGreatDoorW.PrintWords

/-- What the document says of a line that is to be a call. -/
def CPost (w : World) (r : Option CallD) (e : Ending) (w' : World) : Prop := Below w.heap.size w w' ∧ match r with
  | some c => ∃ v, e = .returned (.tuple #[.agg (bxCells c v), .bool true]) ∧ kOp.R 120 w' w.heap.size (fun _ => True) v c.ops
  | none => ∃ (c : CallD) (A : Option Addr) (n k : Nat), e = .returned (.tuple #[.agg (bxCells c (.slice A n k)), .bool false])
theorem call_info2 : (Tryz.prog.info? 74).map (·.size) = some 6 := by kernel_rfl
theorem bx_one (c : CallD) (A : Option Addr) (n k : Nat) : (bxCells c (.slice A n k)).all (·.oneCell') = true := by
  simp [bxCells, Value.oneCell']
theorem call_results (tmps : Array Value) (w : World) (b : Nat) (c : CallD) (v : Value) (r : Bool) (t2 : tmps[2]? = some (.pointer (some ⟨b, 0, none⟩))) (t3 : tmps[3]? = some (.bool r))
    (h : w.heap[b]? = some (.cells (bxCells c v) 74 (0, 0))) :
    (results Tryz.f24 tmps).run Tryz.prog w = .ok (.tuple #[.agg (bxCells c v), .bool r]) w := by
  have z0 := cell_blk h 0 (v := .int .i64 c.k) rfl
  have z1 := cell_blk h 1 (v := v) rfl
  have z2 := cell_blk h 2 (v := .int .i64 c.q.k) rfl
  have z3 := cell_blk h 3 (v := .int .i64 c.q.i) rfl
  have z4 := cell_blk h 4 (v := .int .i64 c.q.b) rfl
  have z5 := cell_blk h 5 (v := .string c.q.x) rfl
  simp [results, Tryz.results24, t2, t3, asAddr, go_sem, z0, z1, z2, z3, z4, z5, Result.andThen, bxCells]
def cZero (k : Int) : CallD := ⟨k, [], qZero⟩
theorem aRun_suffix : ∀ (sh : List UInt8) (ws ws' : List (List UInt8)) (o o' : OpD), aRun sh ws o = some (o', ws') → ws' <:+ ws
  | [], ws, ws', o, o', h => by
    simp only [aRun, Option.some.injEq, Prod.mk.injEq] at h
    rw [h.2]
    exact List.suffix_refl _
  | c :: sh, [], ws', o, o', h => by simp [aRun] at h
  | c :: sh, w :: ws, ws', o, o', h => by
    rw [aRun] at h
    cases h1 : aStep c w o with
    | none => rw [h1] at h; cases h
    | some o1 =>
      rw [h1] at h
      exact (aRun_suffix sh ws ws' o1 o' h).trans (List.suffix_cons _ _)
theorem pOp_suffix {ws ws' : List (List UInt8)} {o : OpD} (h : pOp ws = some (o, ws')) : ws' <:+ ws := by
  cases ws with
  | nil => simp [pOp] at h
  | cons x ws =>
    obtain ⟨k, hk8, hk⟩ := kindOf_range x
    cases k with
    | zero => rw [pOp_no hk] at h; cases h
    | succ m =>
      rw [pOp_kind (by omega) hk, aOp] at h
      cases h1 : aRun (shapeOf m) ws (opStart m) with
      | none => rw [h1] at h; cases h
      | some p =>
        obtain ⟨o1, ws1⟩ := p
        rw [h1] at h
        simp only at h
        split at h
        · simp only [Option.some.injEq, Prod.mk.injEq] at h
          rw [← h.2]
          exact (aRun_suffix _ _ _ _ _ h1).trans (List.suffix_cons _ _)
        · cases h
theorem suffix_drop {α : Type} {l m : List α} (h : l <:+ m) : l = m.drop (m.length - l.length) := by
  obtain ⟨t, rfl⟩ := h
  simp
theorem pQuery_four (a b c d : List UInt8) : pQuery [a, b, c, d] = (num a).bind fun x => (num b).bind fun y => (num c).bind fun z => (txt [] d).bind fun t => if t.length ≤ 100 then some ⟨x, y, z, ⟨t.toArray⟩⟩ else none := by
  unfold pQuery
  cases h1 : num a <;> cases h2 : num b <;> cases h3 : num c <;> cases h4 : txt [] d <;> simp [pNum, pText, h1, h2, h3, h4]
theorem pQuery_len {ws : List (List UInt8)} (h : ws.length ≠ 4) : pQuery ws = none := by
  unfold pQuery
  match ws, h with
  | [], _ => rfl
  | [a], _ => cases h1 : num a <;> simp [pNum, h1]
  | [a, b], _ => cases h1 : num a <;> cases h2 : num b <;> simp [pNum, h1, h2]
  | [a, b, c], _ => cases h1 : num a <;> cases h2 : num b <;> cases h3 : num c <;> simp [pNum, pText, h1, h2, h3]
  | [a, b, c, d], h => simp at h
  | a :: b :: c :: d :: e :: r, _ => cases h1 : num a <;> cases h2 : num b <;> cases h3 : num c <;> cases h4 : txt [] d <;> simp [pNum, pText, h1, h2, h3, h4]
set_option maxRecDepth 100000 in
set_option maxHeartbeats 4000000 in
theorem rcall_other (line : ByteArray) (hs : line.size ≤ 4294967280) (x : List UInt8) (h1 : x ≠ kSubmit) (h2 : x ≠ kRead) (h3 : x ≠ kAsk) (h4 : x ≠ kOpen) (h5 : x ≠ kClose) (ws : List (List UInt8)) (hw : Scr.words (bl line) = x :: ws) (res : Option CallD) (hres : none = res) (w : World) :
    Calls Tryz.prog 24 #[.string line] w (CPost w res) := by
  have HRES := Lib.hid hres
  clear hres
  have t1 : (x == [115, 117, 98, 109, 105, 116]) = false := beq_eq_false_iff_ne.2 h1
  have t2 : (x == [114, 101, 97, 100]) = false := beq_eq_false_iff_ne.2 h2
  have t3 : (x == [97, 115, 107]) = false := beq_eq_false_iff_ne.2 h3
  have t4 : (x == [111, 112, 101, 110]) = false := beq_eq_false_iff_ne.2 h4
  have t5 : (x == [99, 108, 111, 115, 101]) = false := beq_eq_false_iff_ne.2 h5
  clear h1 h2 h3 h4 h5
  have HS := Lib.hid hs
  have HW := Lib.hid hw
  clear hs hw
  go_enter Tryz.func24, Tryz.ntmps24
  go_wp2_with fail
  generalize hW : World.alloc _ _ = w1
  obtain ⟨b, hb⟩ : ∃ b, w.heap.size = b := ⟨_, rfl⟩
  have hR1 : w1.heap[b]? = some (.cells callZero 74 (0, 0)) := by rw [← hW, ← hb]; exact alloc_new _ _
  have hB1 : Below w.heap.size w w1 := by rw [← hW]; exact (Below.refl _ _).alloc (Nat.le_refl _) _
  have HBB := Lib.hid hb
  rw [hb]
  refine (rwords_any line HS.out w1).mono ?_
  rintro e w2 ⟨v1, outs, rfl, hr1, ho, hb2⟩
  obtain ⟨A1, k1, rfl⟩ := Kd.R_slice hr1
  have HC1 := Lib.hid (Kd.R_reads' hr1).2.2
  have HCK := Lib.hid (Kd.R_reads' hr1).2.1
  have HR2 := Lib.hid ((hb2.block _ (lt_of_block hR1)).trans hR1)
  have HB2 := Lib.hid (hB1.trans (hb2.mono hB1.size))
  rw [HW.out] at ho
  obtain ⟨o0, os, rfl, ho0, hos⟩ : ∃ o0 os, outs = o0 :: os ∧ bl o0 = x ∧ os.map bl = ws := by
    cases outs with
    | nil => simp at ho
    | cons o0 os => simp at ho; exact ⟨o0, os, rfl, by simpa using ho.1, ho.2⟩
  obtain rfl := mk_of ho0
  have HOS := Lib.hid hos
  have HSZ := Lib.hid (show ∀ o ∈ os, o.size ≤ 4294967280 from fun o ho2 => by
    have h1 : bl o ∈ Scr.words (bl line) := by rw [HW.out]; exact List.mem_cons_of_mem _ (by rw [← hos]; exact List.mem_map_of_mem ho2)
    have h2 := words_mem h1
    rw [← size_bl, ← size_bl] at h2
    have := HS.out
    omega)
  have HLN := Lib.hid (show os.length ≤ 4294967280 by
    have h1 := words_cnt HW.out
    rw [← hos, List.length_map, ← size_bl] at h1
    have := HS.out
    omega)
  obtain ⟨N, hN⟩ : ∃ N, (⟨(x : List UInt8).toArray⟩ :: os).length = N := ⟨_, rfl⟩
  have HN := Lib.hid (show N = os.length + 1 by rw [← hN]; rfl)
  rw [hN] at HC1 HCK ⊢
  obtain ⟨ad, rfl, e1⟩ := str_cell HC1.out 0 (by have := HN.out; omega) (x := ⟨(x : List UInt8).toArray⟩) rfl
  have x0 := e1 _ (Below.refl _ _)
  rw [show ad.add 0 = ad by simp [Addr.add]] at x0
  have hpos : (0 : Int) < (N : Int) := by have := HN.out; omega
  have x0a : ∀ o, (w2.alloc o).cell? ad = some (.string ⟨(x : List UInt8).toArray⟩) := fun o => by
    have := e1 (w2.alloc o) ((Below.refl _ _).alloc (Nat.le_refl _) o)
    rwa [show ad.add 0 = ad by simp [Addr.add]] at this
  clear hW hb hR1 hB1 hr1 hb2 ho ho0 hos hN e1
  go_wp2_with (first | (refine wpList_store_row rfl 74 _ _ rfl b (bxCells (cZero 0) (.slice none 0 0)) rfl rfl 74 _ HR2.out call_info2 rfl (bx_one _ _ _ _) ?_))
  refine bodyPost_ret (v := .tuple #[.agg (bxCells (cZero 0) (.slice none 0 0)), .bool false]) (call_results _ _ b (cZero 0) _ _ rfl rfl (setRow_heap _ b _ _ _ _ HR2.out)) rfl ?_
  have hmu := (Mut.refl (· = b) w2).setRow (.inl rfl) (bxCells (cZero 0) (.slice none 0 0))
  have hbe : Below w.heap.size w _ := HB2.out.trans (hmu.below HB2.out.size (fun k hk => by have := HBB.out; omega))
  exact ⟨hbe, by rw [← HRES.out]; exact ⟨cZero 0, none, 0, 0, rfl⟩⟩
set_option maxRecDepth 100000 in
set_option maxHeartbeats 4000000 in
theorem rcall_open (line : ByteArray) (hs : line.size ≤ 4294967280) (ws : List (List UInt8)) (hw : Scr.words (bl line) = [111, 112, 101, 110] :: ws) (res : Option CallD) (hres : (if ws = [] then some ⟨3, [], qZero⟩ else none) = res) (w : World) :
    Calls Tryz.prog 24 #[.string line] w (CPost w res) := by
  have HRES := Lib.hid hres
  clear hres
  have HS := Lib.hid hs
  have HW := Lib.hid hw
  clear hs hw
  go_enter Tryz.func24, Tryz.ntmps24
  go_wp2_with fail
  generalize hW : World.alloc _ _ = w1
  obtain ⟨b, hb⟩ : ∃ b, w.heap.size = b := ⟨_, rfl⟩
  have hR1 : w1.heap[b]? = some (.cells callZero 74 (0, 0)) := by rw [← hW, ← hb]; exact alloc_new _ _
  have hB1 : Below w.heap.size w w1 := by rw [← hW]; exact (Below.refl _ _).alloc (Nat.le_refl _) _
  have HBB := Lib.hid hb
  rw [hb]
  refine (rwords_any line HS.out w1).mono ?_
  rintro e w2 ⟨v1, outs, rfl, hr1, ho, hb2⟩
  obtain ⟨A1, k1, rfl⟩ := Kd.R_slice hr1
  have HC1 := Lib.hid (Kd.R_reads' hr1).2.2
  have HCK := Lib.hid (Kd.R_reads' hr1).2.1
  have HR2 := Lib.hid ((hb2.block _ (lt_of_block hR1)).trans hR1)
  have HB2 := Lib.hid (hB1.trans (hb2.mono hB1.size))
  rw [HW.out] at ho
  obtain ⟨o0, os, rfl, ho0, hos⟩ : ∃ o0 os, outs = o0 :: os ∧ bl o0 = [111, 112, 101, 110] ∧ os.map bl = ws := by
    cases outs with
    | nil => simp at ho
    | cons o0 os => simp at ho; exact ⟨o0, os, rfl, by simpa using ho.1, ho.2⟩
  obtain rfl := mk_of ho0
  have HOS := Lib.hid hos
  have HSZ := Lib.hid (show ∀ o ∈ os, o.size ≤ 4294967280 from fun o ho2 => by
    have h1 : bl o ∈ Scr.words (bl line) := by rw [HW.out]; exact List.mem_cons_of_mem _ (by rw [← hos]; exact List.mem_map_of_mem ho2)
    have h2 := words_mem h1
    rw [← size_bl, ← size_bl] at h2
    have := HS.out
    omega)
  have HLN := Lib.hid (show os.length ≤ 4294967280 by
    have h1 := words_cnt HW.out
    rw [← hos, List.length_map, ← size_bl] at h1
    have := HS.out
    omega)
  obtain ⟨N, hN⟩ : ∃ N, (⟨([111, 112, 101, 110] : List UInt8).toArray⟩ :: os).length = N := ⟨_, rfl⟩
  have HN := Lib.hid (show N = os.length + 1 by rw [← hN]; rfl)
  rw [hN] at HC1 HCK ⊢
  obtain ⟨ad, rfl, e1⟩ := str_cell HC1.out 0 (by have := HN.out; omega) (x := ⟨([111, 112, 101, 110] : List UInt8).toArray⟩) rfl
  have x0 := e1 _ (Below.refl _ _)
  rw [show ad.add 0 = ad by simp [Addr.add]] at x0
  have hpos : (0 : Int) < (N : Int) := by have := HN.out; omega
  have x0a : ∀ o, (w2.alloc o).cell? ad = some (.string ⟨([111, 112, 101, 110] : List UInt8).toArray⟩) := fun o => by
    have := e1 (w2.alloc o) ((Below.refl _ _).alloc (Nat.le_refl _) o)
    rwa [show ad.add 0 = ad by simp [Addr.add]] at this
  clear hW hb hR1 hB1 hr1 hb2 ho ho0 hos hN e1
  by_cases h1 : N = 1
  · have HE := Lib.hid (show ws = [] by
      have h2 : os.length = 0 := by have := HN.out; omega
      rw [← HOS.out, List.length_eq_zero_iff.1 h2]; rfl)
    subst h1
    go_wp2_with (first | (refine wpList_store_row rfl 74 _ _ rfl b (bxCells (cZero 3) (.slice none 0 0)) rfl rfl 74 _ HR2.out call_info2 rfl (bx_one _ _ _ _) ?_))
    refine bodyPost_ret (v := .tuple #[.agg (bxCells (cZero 3) (.slice none 0 0)), .bool true]) (call_results _ _ b (cZero 3) _ _ rfl rfl (setRow_heap _ b _ _ _ _ HR2.out)) rfl ?_
    have hmu := (Mut.refl (· = b) w2).setRow (.inl rfl) (bxCells (cZero 3) (.slice none 0 0))
    have hbe : Below w.heap.size w _ := HB2.out.trans (hmu.below HB2.out.size (fun k hk => by have := HBB.out; omega))
    exact ⟨hbe, by rw [← HRES.out, if_pos HE.out]; exact ⟨.slice none 0 0, rfl, Kd.R_nil _ _ _ _ _⟩⟩
  · have HE := Lib.hid (show ws ≠ [] from fun h => h1 (by
      have h2 : os.length = ws.length := by rw [← HOS.out, List.length_map]
      rw [h, List.length_nil] at h2
      have := HN.out
      omega))
    have hn1 : ((N : Int) == 1) = false := beq_eq_false_iff_ne.2 (by omega)
    clear h1
    go_wp2_with (first | (refine wpList_store_row rfl 74 _ _ rfl b (bxCells (cZero 3) (.slice none 0 0)) rfl rfl 74 _ HR2.out call_info2 rfl (bx_one _ _ _ _) ?_))
    refine bodyPost_ret (v := .tuple #[.agg (bxCells (cZero 3) (.slice none 0 0)), .bool false]) (call_results _ _ b (cZero 3) _ _ rfl rfl (setRow_heap _ b _ _ _ _ HR2.out)) rfl ?_
    have hmu := (Mut.refl (· = b) w2).setRow (.inl rfl) (bxCells (cZero 3) (.slice none 0 0))
    have hbe : Below w.heap.size w _ := HB2.out.trans (hmu.below HB2.out.size (fun k hk => by have := HBB.out; omega))
    exact ⟨hbe, by rw [← HRES.out, if_neg HE.out]; exact ⟨cZero 3, none, 0, 0, rfl⟩⟩
set_option maxRecDepth 100000 in
set_option maxHeartbeats 4000000 in
theorem rcall_close (line : ByteArray) (hs : line.size ≤ 4294967280) (ws : List (List UInt8)) (hw : Scr.words (bl line) = [99, 108, 111, 115, 101] :: ws) (res : Option CallD) (hres : (if ws = [] then some ⟨5, [], qZero⟩ else none) = res) (w : World) :
    Calls Tryz.prog 24 #[.string line] w (CPost w res) := by
  have HRES := Lib.hid hres
  clear hres
  have HS := Lib.hid hs
  have HW := Lib.hid hw
  clear hs hw
  go_enter Tryz.func24, Tryz.ntmps24
  go_wp2_with fail
  generalize hW : World.alloc _ _ = w1
  obtain ⟨b, hb⟩ : ∃ b, w.heap.size = b := ⟨_, rfl⟩
  have hR1 : w1.heap[b]? = some (.cells callZero 74 (0, 0)) := by rw [← hW, ← hb]; exact alloc_new _ _
  have hB1 : Below w.heap.size w w1 := by rw [← hW]; exact (Below.refl _ _).alloc (Nat.le_refl _) _
  have HBB := Lib.hid hb
  rw [hb]
  refine (rwords_any line HS.out w1).mono ?_
  rintro e w2 ⟨v1, outs, rfl, hr1, ho, hb2⟩
  obtain ⟨A1, k1, rfl⟩ := Kd.R_slice hr1
  have HC1 := Lib.hid (Kd.R_reads' hr1).2.2
  have HCK := Lib.hid (Kd.R_reads' hr1).2.1
  have HR2 := Lib.hid ((hb2.block _ (lt_of_block hR1)).trans hR1)
  have HB2 := Lib.hid (hB1.trans (hb2.mono hB1.size))
  rw [HW.out] at ho
  obtain ⟨o0, os, rfl, ho0, hos⟩ : ∃ o0 os, outs = o0 :: os ∧ bl o0 = [99, 108, 111, 115, 101] ∧ os.map bl = ws := by
    cases outs with
    | nil => simp at ho
    | cons o0 os => simp at ho; exact ⟨o0, os, rfl, by simpa using ho.1, ho.2⟩
  obtain rfl := mk_of ho0
  have HOS := Lib.hid hos
  have HSZ := Lib.hid (show ∀ o ∈ os, o.size ≤ 4294967280 from fun o ho2 => by
    have h1 : bl o ∈ Scr.words (bl line) := by rw [HW.out]; exact List.mem_cons_of_mem _ (by rw [← hos]; exact List.mem_map_of_mem ho2)
    have h2 := words_mem h1
    rw [← size_bl, ← size_bl] at h2
    have := HS.out
    omega)
  have HLN := Lib.hid (show os.length ≤ 4294967280 by
    have h1 := words_cnt HW.out
    rw [← hos, List.length_map, ← size_bl] at h1
    have := HS.out
    omega)
  obtain ⟨N, hN⟩ : ∃ N, (⟨([99, 108, 111, 115, 101] : List UInt8).toArray⟩ :: os).length = N := ⟨_, rfl⟩
  have HN := Lib.hid (show N = os.length + 1 by rw [← hN]; rfl)
  rw [hN] at HC1 HCK ⊢
  obtain ⟨ad, rfl, e1⟩ := str_cell HC1.out 0 (by have := HN.out; omega) (x := ⟨([99, 108, 111, 115, 101] : List UInt8).toArray⟩) rfl
  have x0 := e1 _ (Below.refl _ _)
  rw [show ad.add 0 = ad by simp [Addr.add]] at x0
  have hpos : (0 : Int) < (N : Int) := by have := HN.out; omega
  have x0a : ∀ o, (w2.alloc o).cell? ad = some (.string ⟨([99, 108, 111, 115, 101] : List UInt8).toArray⟩) := fun o => by
    have := e1 (w2.alloc o) ((Below.refl _ _).alloc (Nat.le_refl _) o)
    rwa [show ad.add 0 = ad by simp [Addr.add]] at this
  clear hW hb hR1 hB1 hr1 hb2 ho ho0 hos hN e1
  by_cases h1 : N = 1
  · have HE := Lib.hid (show ws = [] by
      have h2 : os.length = 0 := by have := HN.out; omega
      rw [← HOS.out, List.length_eq_zero_iff.1 h2]; rfl)
    subst h1
    go_wp2_with (first | (refine wpList_store_row rfl 74 _ _ rfl b (bxCells (cZero 5) (.slice none 0 0)) rfl rfl 74 _ HR2.out call_info2 rfl (bx_one _ _ _ _) ?_))
    refine bodyPost_ret (v := .tuple #[.agg (bxCells (cZero 5) (.slice none 0 0)), .bool true]) (call_results _ _ b (cZero 5) _ _ rfl rfl (setRow_heap _ b _ _ _ _ HR2.out)) rfl ?_
    have hmu := (Mut.refl (· = b) w2).setRow (.inl rfl) (bxCells (cZero 5) (.slice none 0 0))
    have hbe : Below w.heap.size w _ := HB2.out.trans (hmu.below HB2.out.size (fun k hk => by have := HBB.out; omega))
    exact ⟨hbe, by rw [← HRES.out, if_pos HE.out]; exact ⟨.slice none 0 0, rfl, Kd.R_nil _ _ _ _ _⟩⟩
  · have HE := Lib.hid (show ws ≠ [] from fun h => h1 (by
      have h2 : os.length = ws.length := by rw [← HOS.out, List.length_map]
      rw [h, List.length_nil] at h2
      have := HN.out
      omega))
    have hn1 : ((N : Int) == 1) = false := beq_eq_false_iff_ne.2 (by omega)
    clear h1
    go_wp2_with (first | (refine wpList_store_row rfl 74 _ _ rfl b (bxCells (cZero 5) (.slice none 0 0)) rfl rfl 74 _ HR2.out call_info2 rfl (bx_one _ _ _ _) ?_))
    refine bodyPost_ret (v := .tuple #[.agg (bxCells (cZero 5) (.slice none 0 0)), .bool false]) (call_results _ _ b (cZero 5) _ _ rfl rfl (setRow_heap _ b _ _ _ _ HR2.out)) rfl ?_
    have hmu := (Mut.refl (· = b) w2).setRow (.inl rfl) (bxCells (cZero 5) (.slice none 0 0))
    have hbe : Below w.heap.size w _ := HB2.out.trans (hmu.below HB2.out.size (fun k hk => by have := HBB.out; omega))
    exact ⟨hbe, by rw [← HRES.out, if_neg HE.out]; exact ⟨cZero 5, none, 0, 0, rfl⟩⟩
/-- What the document's number and text say, as one row. -/
theorem rnum_flat (s : ByteArray) (hs : s.size ≤ 4294967280) (w : World) : Calls Tryz.prog 51 #[.string s] w fun e w' => ∃ (y : Int) (r : Bool), e = .returned (.tuple #[.int .i64 y, .bool r]) ∧ (r = true → num (bl s) = some y) ∧ (r = false → num (bl s) = none) ∧ Below w.heap.size w w' := by
  refine (rnumber_any s hs _ rfl w).mono ?_
  intro e w5 h5
  obtain ⟨h5a, h5b⟩ := h5
  cases hn : num (bl s) with
  | none => rw [hn] at h5a; obtain ⟨yv, _, rfl⟩ := h5a; exact ⟨yv, false, rfl, by simp, by simp, h5b⟩
  | some k => rw [hn] at h5a; exact ⟨k, true, h5a, by simp, by simp, h5b⟩
theorem rtext_flat (s : ByteArray) (hs : s.size ≤ 4294967280) (w : World) : Calls Tryz.prog 52 #[.string s] w fun e w' => ∃ (T : ByteArray) (r : Bool), e = .returned (.tuple #[.string T, .bool r]) ∧ (r = true → txt [] (bl s) = some (bl T)) ∧ (r = false → txt [] (bl s) = none) ∧ Below w.heap.size w w' := by
  refine (rtext_any s hs _ rfl w).mono ?_
  rintro e w6 ⟨rfl, hb6⟩
  cases hn : txt [] (bl s) with
  | none => exact ⟨⟨#[]⟩, false, rfl, by simp, by simp, hb6⟩
  | some y => exact ⟨⟨y.toArray⟩, true, rfl, by simp [bl], by simp, hb6⟩
set_option maxRecDepth 100000 in
set_option maxHeartbeats 4000000 in
theorem rcall_read (line : ByteArray) (hs : line.size ≤ 4294967280) (ws : List (List UInt8)) (hw : Scr.words (bl line) = [114, 101, 97, 100] :: ws) (res : Option CallD) (hres : ((pQuery ws).map fun q => ⟨2, [], q⟩) = res) (w : World) :
    Calls Tryz.prog 24 #[.string line] w (CPost w res) := by
  have HRES := Lib.hid hres
  clear hres
  have HS := Lib.hid hs
  have HW := Lib.hid hw
  clear hs hw
  go_enter Tryz.func24, Tryz.ntmps24
  go_wp2_with fail
  generalize hW : World.alloc _ _ = w1
  obtain ⟨b, hb⟩ : ∃ b, w.heap.size = b := ⟨_, rfl⟩
  have hR1 : w1.heap[b]? = some (.cells callZero 74 (0, 0)) := by rw [← hW, ← hb]; exact alloc_new _ _
  have hB1 : Below w.heap.size w w1 := by rw [← hW]; exact (Below.refl _ _).alloc (Nat.le_refl _) _
  have HBB := Lib.hid hb
  rw [hb]
  refine (rwords_any line HS.out w1).mono ?_
  rintro e w2 ⟨v1, outs, rfl, hr1, ho, hb2⟩
  obtain ⟨A1, k1, rfl⟩ := Kd.R_slice hr1
  have HC1 := Lib.hid (Kd.R_reads' hr1).2.2
  have HCK := Lib.hid (Kd.R_reads' hr1).2.1
  have HR2 := Lib.hid ((hb2.block _ (lt_of_block hR1)).trans hR1)
  have HB2 := Lib.hid (hB1.trans (hb2.mono hB1.size))
  rw [HW.out] at ho
  obtain ⟨o0, os, rfl, ho0, hos⟩ : ∃ o0 os, outs = o0 :: os ∧ bl o0 = [114, 101, 97, 100] ∧ os.map bl = ws := by
    cases outs with
    | nil => simp at ho
    | cons o0 os => simp at ho; exact ⟨o0, os, rfl, by simpa using ho.1, ho.2⟩
  obtain rfl := mk_of ho0
  have HOS := Lib.hid hos
  have HSZ := Lib.hid (show ∀ o ∈ os, o.size ≤ 4294967280 from fun o ho2 => by
    have h1 : bl o ∈ Scr.words (bl line) := by rw [HW.out]; exact List.mem_cons_of_mem _ (by rw [← hos]; exact List.mem_map_of_mem ho2)
    have h2 := words_mem h1
    rw [← size_bl, ← size_bl] at h2
    have := HS.out
    omega)
  have HLN := Lib.hid (show os.length ≤ 4294967280 by
    have h1 := words_cnt HW.out
    rw [← hos, List.length_map, ← size_bl] at h1
    have := HS.out
    omega)
  obtain ⟨N, hN⟩ : ∃ N, (⟨([114, 101, 97, 100] : List UInt8).toArray⟩ :: os).length = N := ⟨_, rfl⟩
  have HN := Lib.hid (show N = os.length + 1 by rw [← hN]; rfl)
  rw [hN] at HC1 HCK ⊢
  obtain ⟨ad, rfl, e1⟩ := str_cell HC1.out 0 (by have := HN.out; omega) (x := ⟨([114, 101, 97, 100] : List UInt8).toArray⟩) rfl
  have x0 := e1 _ (Below.refl _ _)
  rw [show ad.add 0 = ad by simp [Addr.add]] at x0
  have hpos : (0 : Int) < (N : Int) := by have := HN.out; omega
  have x0a : ∀ o, (w2.alloc o).cell? ad = some (.string ⟨([114, 101, 97, 100] : List UInt8).toArray⟩) := fun o => by
    have := e1 (w2.alloc o) ((Below.refl _ _).alloc (Nat.le_refl _) o)
    rwa [show ad.add 0 = ad by simp [Addr.add]] at this
  clear hW hb hR1 hB1 hr1 hb2 ho ho0 hos hN e1
  go_upto_region 12 with (fail)
  generalize hW3 : World.alloc w2 _ = w3
  obtain ⟨q, hq⟩ : ∃ q, w2.heap.size = q := ⟨_, rfl⟩
  have HQ := Lib.hid (show w3.heap[q]? = some (.cells (bxCells (cZero 2) (.slice none 0 0)) 74 (0, 0)) by rw [← hW3, ← hq]; exact alloc_new _ _)
  have HB3 := Lib.hid (show Below w2.heap.size w2 w3 by rw [← hW3]; exact (Below.refl _ _).alloc (Nat.le_refl _) _)
  have HBQ := Lib.hid (show b < q by rw [← hq]; exact lt_of_block HR2.out)
  have HR3 := Lib.hid ((HB3.out.block _ (lt_of_block HR2.out)).trans HR2.out)
  have HBW := Lib.hid (HB2.out.trans (HB3.out.mono HB2.out.size))
  rw [hq]
  clear hW3 hq x0 x0a
  by_cases h1 : N = 5
  rotate_left
  · have HE := Lib.hid (show pQuery ws = none from pQuery_len (fun h => h1 (by
      have h2 : os.length = ws.length := by rw [← HOS.out, List.length_map]
      rw [h] at h2
      have := HN.out
      omega)))
    have hn3 : ¬ (N : Int) = 5 := by omega
    clear h1
    have k0 := cell_blk HQ.out 0 (v := .int .i64 2) rfl
    have k1 := cell_blk HQ.out 1 (v := .slice none 0 0) rfl
    have k2 := cell_blk HQ.out 2 (v := .int .i64 0) rfl
    have k3 := cell_blk HQ.out 3 (v := .int .i64 0) rfl
    have k4 := cell_blk HQ.out 4 (v := .int .i64 0) rfl
    have k5 := cell_blk HQ.out 5 (v := .string ⟨#[]⟩) rfl
    have v0 := cell_blk HR3.out 0 (v := .int .i64 0) rfl
    have g0 := froz_blk HR3.out 0
    have v1 := cell_blk HR3.out 1 (v := .slice none 0 0) rfl
    have g1 := froz_blk HR3.out 1
    have v2 := cell_blk HR3.out 2 (v := .int .i64 0) rfl
    have g2 := froz_blk HR3.out 2
    have v3 := cell_blk HR3.out 3 (v := .int .i64 0) rfl
    have g3 := froz_blk HR3.out 3
    have v4 := cell_blk HR3.out 4 (v := .int .i64 0) rfl
    have g4 := froz_blk HR3.out 4
    have v5 := cell_blk HR3.out 5 (v := .string ⟨#[]⟩) rfl
    have g5 := froz_blk HR3.out 5
    go_wp2_with fail
    obtain ⟨s1, s2⟩ := six_set HR3.out (.int .i64 2) (.slice none 0 0) (.int .i64 0) (.int .i64 0) (.int .i64 0) (.string ⟨#[]⟩)
    refine bodyPost_ret (v := .tuple #[.agg (bxCells (cZero 2) (.slice none 0 0)), .bool false]) (call_results _ _ b (cZero 2) _ _ rfl rfl s1) rfl ?_
    have hbe : Below w.heap.size w _ := HBW.out.trans (s2.below HBW.out.size (fun k hk => by have := HBB.out; omega))
    exact ⟨hbe, by rw [← HRES.out, HE.out]; exact ⟨cZero 2, none, 0, 0, rfl⟩⟩
  subst h1
  obtain ⟨o1, o2, o3, o4, rfl⟩ : ∃ o1 o2 o3 o4, os = [o1, o2, o3, o4] := by
    have h2 : os.length = 4 := by have := HN.out; omega
    match os, h2 with
    | [a, b, c, d], _ => exact ⟨a, b, c, d, rfl⟩
  obtain ⟨hz1, hz2, hz3, hz4⟩ : o1.size ≤ 4294967280 ∧ o2.size ≤ 4294967280 ∧ o3.size ≤ 4294967280 ∧ o4.size ≤ 4294967280 := ⟨HSZ.out _ (by simp), HSZ.out _ (by simp), HSZ.out _ (by simp), HSZ.out _ (by simp)⟩
  have HZ1 := Lib.hid hz1
  have HZ2 := Lib.hid hz2
  have HZ3 := Lib.hid hz3
  have HZ4 := Lib.hid hz4
  have HEE := Lib.hid (show ∀ W, Below w3.heap.size w3 W → (W.cell? (ad.add 1) = some (.string o1) ∧ W.cell? ⟨ad.block, ad.off + 1, none⟩ = some (.string o1)) ∧ (W.cell? (ad.add 2) = some (.string o2) ∧ W.cell? ⟨ad.block, ad.off + 2, none⟩ = some (.string o2)) ∧ (W.cell? (ad.add 3) = some (.string o3) ∧ W.cell? ⟨ad.block, ad.off + 3, none⟩ = some (.string o3)) ∧ (W.cell? (ad.add 4) = some (.string o4) ∧ W.cell? ⟨ad.block, ad.off + 4, none⟩ = some (.string o4)) from fun W hb => by
    have hb' := HB3.out.trans (hb.mono HB3.out.size)
    obtain ⟨a1, h1, e1⟩ := str_cell HC1.out 1 (by omega) (x := o1) rfl
    obtain ⟨a2, h2, e2⟩ := str_cell HC1.out 2 (by omega) (x := o2) rfl
    obtain ⟨a3, h3, e3⟩ := str_cell HC1.out 3 (by omega) (x := o3) rfl
    obtain ⟨a4, h4, e4⟩ := str_cell HC1.out 4 (by omega) (x := o4) rfl
    cases h1; cases h2; cases h3; cases h4
    exact ⟨⟨e1 _ hb', e1 _ hb'⟩, ⟨e2 _ hb', e2 _ hb'⟩, ⟨e3 _ hb', e3 _ hb'⟩, ⟨e4 _ hb', e4 _ hb'⟩⟩)
  clear hz1 hz2 hz3 hz4
  obtain ⟨⟨x1, x1'⟩, ⟨x2, x2'⟩, ⟨x3, x3'⟩, ⟨x4, x4'⟩⟩ := HEE.out w3 (Below.refl _ _)
  go_wp2_with fail
  refine (rnum_flat o1 HZ1.out _).mono ?_
  rintro e w4 ⟨y1, r1, rfl, hp1, hf1, hb4⟩
  have HB4 := Lib.hid (show Below w3.heap.size w3 w4 from hb4)
  have HP1 := Lib.hid (And.intro hp1 hf1)
  clear x1 x2 x3 x4 x1' x2' x3' x4' hb4 hp1 hf1
  obtain ⟨⟨x1, x1'⟩, ⟨x2, x2'⟩, ⟨x3, x3'⟩, ⟨x4, x4'⟩⟩ := HEE.out _ HB4.out
  go_wp2_with fail
  refine (rnum_flat o2 HZ2.out _).mono ?_
  rintro e w5 ⟨y2, r2, rfl, hp1, hf1, hb5⟩
  have HB5 := Lib.hid (HB4.out.trans (hb5.mono HB4.out.size))
  have HP2 := Lib.hid (And.intro hp1 hf1)
  clear x1 x2 x3 x4 x1' x2' x3' x4' hb5 hp1 hf1
  obtain ⟨⟨x1, x1'⟩, ⟨x2, x2'⟩, ⟨x3, x3'⟩, ⟨x4, x4'⟩⟩ := HEE.out _ HB5.out
  go_wp2_with fail
  refine (rnum_flat o3 HZ3.out _).mono ?_
  rintro e w6 ⟨y3, r3, rfl, hp1, hf1, hb6⟩
  have HB6 := Lib.hid (HB5.out.trans (hb6.mono HB5.out.size))
  have HP3 := Lib.hid (And.intro hp1 hf1)
  clear x1 x2 x3 x4 x1' x2' x3' x4' hb6 hp1 hf1
  obtain ⟨⟨x1, x1'⟩, ⟨x2, x2'⟩, ⟨x3, x3'⟩, ⟨x4, x4'⟩⟩ := HEE.out _ HB6.out
  go_wp2_with fail
  refine (rtext_flat o4 HZ4.out _).mono ?_
  rintro e w7 ⟨tx, r4, rfl, hp1, hf1, hb7⟩
  have HB7 := Lib.hid (HB6.out.trans (hb7.mono HB6.out.size))
  have HP4 := Lib.hid (And.intro hp1 hf1)
  have HQ7 := Lib.hid ((HB7.out.block _ (lt_of_block HQ.out)).trans HQ.out)
  have HR7 := Lib.hid ((HB7.out.block _ (lt_of_block HR3.out)).trans HR3.out)
  clear x1 x2 x3 x4 x1' x2' x3' x4' hb7 hp1 hf1
  have z2 := cell_blk HQ7.out 2 (v := .int .i64 0) rfl
  have z3 := cell_blk HQ7.out 3 (v := .int .i64 0) rfl
  have z4 := cell_blk HQ7.out 4 (v := .int .i64 0) rfl
  have z5 := cell_blk HQ7.out 5 (v := .string ⟨#[]⟩) rfl
  have f2 := froz_blk HQ7.out 2
  have f3 := froz_blk HQ7.out 3
  have f4 := froz_blk HQ7.out 4
  have f5 := froz_blk HQ7.out 5
  go_upto_region 19 with (fail)
  generalize hW8 : World.setCell (World.setCell (World.setCell (World.setCell w7 _ _) _ _) _ _) _ _ = w8
  have hm8 : Mut (· = q) w7 w8 := by rw [← hW8]; exact ((((Mut.refl (· = q) w7).set1 2 _).set1 3 _).set1 4 _).set1 5 _
  have HQ8 := Lib.hid (show w8.heap[q]? = some (.cells (bxCells ⟨2, [], ⟨y1, y2, y3, tx⟩⟩ (.slice none 0 0)) 74 (0, 0)) by rw [← hW8]; exact set_blk (set_blk (set_blk (set_blk HQ7.out 2 _) 3 _) 4 _) 5 _)
  have HR8 := Lib.hid (hm8.blk HR7.out (by have := HBQ.out; omega))
  have HB78 := HBW.out.trans (HB7.out.mono HBW.out.size)
  have HBW8 := Lib.hid (HB78.trans (hm8.below HB78.size (fun k hk => by have := HBQ.out; have := HBB.out; omega)))
  have HFIN := Lib.hid (show res = if (r1 && r2 && r3 && r4 && decide ((tx.size : Int) ≤ 100)) then some ⟨2, [], ⟨y1, y2, y3, tx⟩⟩ else none by
    rw [← HRES.out, ← HOS.out]
    show Option.map _ (pQuery [bl o1, bl o2, bl o3, bl o4]) = _
    rw [pQuery_four]
    cases r1 with
    | false => rw [HP1.out.2 rfl]; rfl
    | true =>
      rw [HP1.out.1 rfl]
      cases r2 with
      | false => rw [HP2.out.2 rfl]; rfl
      | true =>
        rw [HP2.out.1 rfl]
        cases r3 with
        | false => rw [HP3.out.2 rfl]; rfl
        | true =>
          rw [HP3.out.1 rfl]
          cases r4 with
          | false => rw [HP4.out.2 rfl]; rfl
          | true =>
            rw [HP4.out.1 rfl]
            simp only [Option.bind_some, Bool.true_and, decide_eq_true_eq]
            have hz := size_bl tx
            by_cases h : (bl tx).length ≤ 100
            · rw [if_pos h, if_pos (by omega)]; rfl
            · rw [if_neg h, if_neg (by omega)]; rfl)
  clear hW8 z2 z3 z4 z5 f2 f3 f4 f5 hm8 HB78
  cases r1 with
  | false =>
    have k0 := cell_blk HQ8.out 0 (v := .int .i64 2) rfl
    have k1 := cell_blk HQ8.out 1 (v := .slice none 0 0) rfl
    have k2 := cell_blk HQ8.out 2 (v := .int .i64 y1) rfl
    have k3 := cell_blk HQ8.out 3 (v := .int .i64 y2) rfl
    have k4 := cell_blk HQ8.out 4 (v := .int .i64 y3) rfl
    have k5 := cell_blk HQ8.out 5 (v := .string tx) rfl
    have v0 := cell_blk HR8.out 0 (v := .int .i64 0) rfl
    have g0 := froz_blk HR8.out 0
    have v1 := cell_blk HR8.out 1 (v := .slice none 0 0) rfl
    have g1 := froz_blk HR8.out 1
    have v2 := cell_blk HR8.out 2 (v := .int .i64 0) rfl
    have g2 := froz_blk HR8.out 2
    have v3 := cell_blk HR8.out 3 (v := .int .i64 0) rfl
    have g3 := froz_blk HR8.out 3
    have v4 := cell_blk HR8.out 4 (v := .int .i64 0) rfl
    have g4 := froz_blk HR8.out 4
    have v5 := cell_blk HR8.out 5 (v := .string ⟨#[]⟩) rfl
    have g5 := froz_blk HR8.out 5
    go_wp2_with fail
    obtain ⟨s1, s2⟩ := six_set HR8.out (.int .i64 2) (.slice none 0 0) (.int .i64 y1) (.int .i64 y2) (.int .i64 y3) (.string tx)
    refine bodyPost_ret (v := .tuple #[.agg (bxCells ⟨2, [], ⟨y1, y2, y3, tx⟩⟩ (.slice none 0 0)), .bool false]) (call_results _ _ b ⟨2, [], ⟨y1, y2, y3, tx⟩⟩ _ _ rfl rfl s1) rfl ?_
    have hbe : Below w.heap.size w _ := HBW8.out.trans (s2.below HBW8.out.size (fun k hk => by have := HBB.out; omega))
    exact ⟨hbe, by rw [HFIN.out]; exact ⟨⟨2, [], ⟨y1, y2, y3, tx⟩⟩, none, 0, 0, rfl⟩⟩
  | true =>
    cases r2 with
    | false =>
      have k0 := cell_blk HQ8.out 0 (v := .int .i64 2) rfl
      have k1 := cell_blk HQ8.out 1 (v := .slice none 0 0) rfl
      have k2 := cell_blk HQ8.out 2 (v := .int .i64 y1) rfl
      have k3 := cell_blk HQ8.out 3 (v := .int .i64 y2) rfl
      have k4 := cell_blk HQ8.out 4 (v := .int .i64 y3) rfl
      have k5 := cell_blk HQ8.out 5 (v := .string tx) rfl
      have v0 := cell_blk HR8.out 0 (v := .int .i64 0) rfl
      have g0 := froz_blk HR8.out 0
      have v1 := cell_blk HR8.out 1 (v := .slice none 0 0) rfl
      have g1 := froz_blk HR8.out 1
      have v2 := cell_blk HR8.out 2 (v := .int .i64 0) rfl
      have g2 := froz_blk HR8.out 2
      have v3 := cell_blk HR8.out 3 (v := .int .i64 0) rfl
      have g3 := froz_blk HR8.out 3
      have v4 := cell_blk HR8.out 4 (v := .int .i64 0) rfl
      have g4 := froz_blk HR8.out 4
      have v5 := cell_blk HR8.out 5 (v := .string ⟨#[]⟩) rfl
      have g5 := froz_blk HR8.out 5
      go_wp2_with fail
      obtain ⟨s1, s2⟩ := six_set HR8.out (.int .i64 2) (.slice none 0 0) (.int .i64 y1) (.int .i64 y2) (.int .i64 y3) (.string tx)
      refine bodyPost_ret (v := .tuple #[.agg (bxCells ⟨2, [], ⟨y1, y2, y3, tx⟩⟩ (.slice none 0 0)), .bool false]) (call_results _ _ b ⟨2, [], ⟨y1, y2, y3, tx⟩⟩ _ _ rfl rfl s1) rfl ?_
      have hbe : Below w.heap.size w _ := HBW8.out.trans (s2.below HBW8.out.size (fun k hk => by have := HBB.out; omega))
      exact ⟨hbe, by rw [HFIN.out]; exact ⟨⟨2, [], ⟨y1, y2, y3, tx⟩⟩, none, 0, 0, rfl⟩⟩
    | true =>
      cases r3 with
      | false =>
        have k0 := cell_blk HQ8.out 0 (v := .int .i64 2) rfl
        have k1 := cell_blk HQ8.out 1 (v := .slice none 0 0) rfl
        have k2 := cell_blk HQ8.out 2 (v := .int .i64 y1) rfl
        have k3 := cell_blk HQ8.out 3 (v := .int .i64 y2) rfl
        have k4 := cell_blk HQ8.out 4 (v := .int .i64 y3) rfl
        have k5 := cell_blk HQ8.out 5 (v := .string tx) rfl
        have v0 := cell_blk HR8.out 0 (v := .int .i64 0) rfl
        have g0 := froz_blk HR8.out 0
        have v1 := cell_blk HR8.out 1 (v := .slice none 0 0) rfl
        have g1 := froz_blk HR8.out 1
        have v2 := cell_blk HR8.out 2 (v := .int .i64 0) rfl
        have g2 := froz_blk HR8.out 2
        have v3 := cell_blk HR8.out 3 (v := .int .i64 0) rfl
        have g3 := froz_blk HR8.out 3
        have v4 := cell_blk HR8.out 4 (v := .int .i64 0) rfl
        have g4 := froz_blk HR8.out 4
        have v5 := cell_blk HR8.out 5 (v := .string ⟨#[]⟩) rfl
        have g5 := froz_blk HR8.out 5
        go_wp2_with fail
        obtain ⟨s1, s2⟩ := six_set HR8.out (.int .i64 2) (.slice none 0 0) (.int .i64 y1) (.int .i64 y2) (.int .i64 y3) (.string tx)
        refine bodyPost_ret (v := .tuple #[.agg (bxCells ⟨2, [], ⟨y1, y2, y3, tx⟩⟩ (.slice none 0 0)), .bool false]) (call_results _ _ b ⟨2, [], ⟨y1, y2, y3, tx⟩⟩ _ _ rfl rfl s1) rfl ?_
        have hbe : Below w.heap.size w _ := HBW8.out.trans (s2.below HBW8.out.size (fun k hk => by have := HBB.out; omega))
        exact ⟨hbe, by rw [HFIN.out]; exact ⟨⟨2, [], ⟨y1, y2, y3, tx⟩⟩, none, 0, 0, rfl⟩⟩
      | true =>
        cases r4 with
        | false =>
          have k0 := cell_blk HQ8.out 0 (v := .int .i64 2) rfl
          have k1 := cell_blk HQ8.out 1 (v := .slice none 0 0) rfl
          have k2 := cell_blk HQ8.out 2 (v := .int .i64 y1) rfl
          have k3 := cell_blk HQ8.out 3 (v := .int .i64 y2) rfl
          have k4 := cell_blk HQ8.out 4 (v := .int .i64 y3) rfl
          have k5 := cell_blk HQ8.out 5 (v := .string tx) rfl
          have v0 := cell_blk HR8.out 0 (v := .int .i64 0) rfl
          have g0 := froz_blk HR8.out 0
          have v1 := cell_blk HR8.out 1 (v := .slice none 0 0) rfl
          have g1 := froz_blk HR8.out 1
          have v2 := cell_blk HR8.out 2 (v := .int .i64 0) rfl
          have g2 := froz_blk HR8.out 2
          have v3 := cell_blk HR8.out 3 (v := .int .i64 0) rfl
          have g3 := froz_blk HR8.out 3
          have v4 := cell_blk HR8.out 4 (v := .int .i64 0) rfl
          have g4 := froz_blk HR8.out 4
          have v5 := cell_blk HR8.out 5 (v := .string ⟨#[]⟩) rfl
          have g5 := froz_blk HR8.out 5
          go_wp2_with fail
          obtain ⟨s1, s2⟩ := six_set HR8.out (.int .i64 2) (.slice none 0 0) (.int .i64 y1) (.int .i64 y2) (.int .i64 y3) (.string tx)
          refine bodyPost_ret (v := .tuple #[.agg (bxCells ⟨2, [], ⟨y1, y2, y3, tx⟩⟩ (.slice none 0 0)), .bool false]) (call_results _ _ b ⟨2, [], ⟨y1, y2, y3, tx⟩⟩ _ _ rfl rfl s1) rfl ?_
          have hbe : Below w.heap.size w _ := HBW8.out.trans (s2.below HBW8.out.size (fun k hk => by have := HBB.out; omega))
          exact ⟨hbe, by rw [HFIN.out]; exact ⟨⟨2, [], ⟨y1, y2, y3, tx⟩⟩, none, 0, 0, rfl⟩⟩
        | true =>
          by_cases h100 : (tx.size : Int) ≤ 100
          · have HD := Lib.hid (show decide ((tx.size : Int) ≤ 100) = true from decide_eq_true h100)
            rw [HD.out] at HFIN
            have k0 := cell_blk HQ8.out 0 (v := .int .i64 2) rfl
            have k1 := cell_blk HQ8.out 1 (v := .slice none 0 0) rfl
            have k2 := cell_blk HQ8.out 2 (v := .int .i64 y1) rfl
            have k3 := cell_blk HQ8.out 3 (v := .int .i64 y2) rfl
            have k4 := cell_blk HQ8.out 4 (v := .int .i64 y3) rfl
            have k5 := cell_blk HQ8.out 5 (v := .string tx) rfl
            have v0 := cell_blk HR8.out 0 (v := .int .i64 0) rfl
            have g0 := froz_blk HR8.out 0
            have v1 := cell_blk HR8.out 1 (v := .slice none 0 0) rfl
            have g1 := froz_blk HR8.out 1
            have v2 := cell_blk HR8.out 2 (v := .int .i64 0) rfl
            have g2 := froz_blk HR8.out 2
            have v3 := cell_blk HR8.out 3 (v := .int .i64 0) rfl
            have g3 := froz_blk HR8.out 3
            have v4 := cell_blk HR8.out 4 (v := .int .i64 0) rfl
            have g4 := froz_blk HR8.out 4
            have v5 := cell_blk HR8.out 5 (v := .string ⟨#[]⟩) rfl
            have g5 := froz_blk HR8.out 5
            go_wp2_with fail
            obtain ⟨s1, s2⟩ := six_set HR8.out (.int .i64 2) (.slice none 0 0) (.int .i64 y1) (.int .i64 y2) (.int .i64 y3) (.string tx)
            refine bodyPost_ret (v := .tuple #[.agg (bxCells ⟨2, [], ⟨y1, y2, y3, tx⟩⟩ (.slice none 0 0)), .bool true]) (call_results _ _ b ⟨2, [], ⟨y1, y2, y3, tx⟩⟩ _ _ rfl rfl s1) rfl ?_
            have hbe : Below w.heap.size w _ := HBW8.out.trans (s2.below HBW8.out.size (fun k hk => by have := HBB.out; omega))
            exact ⟨hbe, by rw [HFIN.out]; exact ⟨.slice none 0 0, rfl, Kd.R_nil _ _ _ _ _⟩⟩
          · have HD := Lib.hid (show decide ((tx.size : Int) ≤ 100) = false from decide_eq_false h100)
            rw [HD.out] at HFIN
            have k0 := cell_blk HQ8.out 0 (v := .int .i64 2) rfl
            have k1 := cell_blk HQ8.out 1 (v := .slice none 0 0) rfl
            have k2 := cell_blk HQ8.out 2 (v := .int .i64 y1) rfl
            have k3 := cell_blk HQ8.out 3 (v := .int .i64 y2) rfl
            have k4 := cell_blk HQ8.out 4 (v := .int .i64 y3) rfl
            have k5 := cell_blk HQ8.out 5 (v := .string tx) rfl
            have v0 := cell_blk HR8.out 0 (v := .int .i64 0) rfl
            have g0 := froz_blk HR8.out 0
            have v1 := cell_blk HR8.out 1 (v := .slice none 0 0) rfl
            have g1 := froz_blk HR8.out 1
            have v2 := cell_blk HR8.out 2 (v := .int .i64 0) rfl
            have g2 := froz_blk HR8.out 2
            have v3 := cell_blk HR8.out 3 (v := .int .i64 0) rfl
            have g3 := froz_blk HR8.out 3
            have v4 := cell_blk HR8.out 4 (v := .int .i64 0) rfl
            have g4 := froz_blk HR8.out 4
            have v5 := cell_blk HR8.out 5 (v := .string ⟨#[]⟩) rfl
            have g5 := froz_blk HR8.out 5
            go_wp2_with fail
            obtain ⟨s1, s2⟩ := six_set HR8.out (.int .i64 2) (.slice none 0 0) (.int .i64 y1) (.int .i64 y2) (.int .i64 y3) (.string tx)
            refine bodyPost_ret (v := .tuple #[.agg (bxCells ⟨2, [], ⟨y1, y2, y3, tx⟩⟩ (.slice none 0 0)), .bool false]) (call_results _ _ b ⟨2, [], ⟨y1, y2, y3, tx⟩⟩ _ _ rfl rfl s1) rfl ?_
            have hbe : Below w.heap.size w _ := HBW8.out.trans (s2.below HBW8.out.size (fun k hk => by have := HBB.out; omega))
            exact ⟨hbe, by rw [HFIN.out]; exact ⟨⟨2, [], ⟨y1, y2, y3, tx⟩⟩, none, 0, 0, rfl⟩⟩
set_option maxRecDepth 100000 in
set_option maxHeartbeats 4000000 in
theorem rcall_ask (line : ByteArray) (hs : line.size ≤ 4294967280) (ws : List (List UInt8)) (hw : Scr.words (bl line) = [97, 115, 107] :: ws) (res : Option CallD) (hres : ((pQuery ws).map fun q => ⟨4, [], q⟩) = res) (w : World) :
    Calls Tryz.prog 24 #[.string line] w (CPost w res) := by
  have HRES := Lib.hid hres
  clear hres
  have HS := Lib.hid hs
  have HW := Lib.hid hw
  clear hs hw
  go_enter Tryz.func24, Tryz.ntmps24
  go_wp2_with fail
  generalize hW : World.alloc _ _ = w1
  obtain ⟨b, hb⟩ : ∃ b, w.heap.size = b := ⟨_, rfl⟩
  have hR1 : w1.heap[b]? = some (.cells callZero 74 (0, 0)) := by rw [← hW, ← hb]; exact alloc_new _ _
  have hB1 : Below w.heap.size w w1 := by rw [← hW]; exact (Below.refl _ _).alloc (Nat.le_refl _) _
  have HBB := Lib.hid hb
  rw [hb]
  refine (rwords_any line HS.out w1).mono ?_
  rintro e w2 ⟨v1, outs, rfl, hr1, ho, hb2⟩
  obtain ⟨A1, k1, rfl⟩ := Kd.R_slice hr1
  have HC1 := Lib.hid (Kd.R_reads' hr1).2.2
  have HCK := Lib.hid (Kd.R_reads' hr1).2.1
  have HR2 := Lib.hid ((hb2.block _ (lt_of_block hR1)).trans hR1)
  have HB2 := Lib.hid (hB1.trans (hb2.mono hB1.size))
  rw [HW.out] at ho
  obtain ⟨o0, os, rfl, ho0, hos⟩ : ∃ o0 os, outs = o0 :: os ∧ bl o0 = [97, 115, 107] ∧ os.map bl = ws := by
    cases outs with
    | nil => simp at ho
    | cons o0 os => simp at ho; exact ⟨o0, os, rfl, by simpa using ho.1, ho.2⟩
  obtain rfl := mk_of ho0
  have HOS := Lib.hid hos
  have HSZ := Lib.hid (show ∀ o ∈ os, o.size ≤ 4294967280 from fun o ho2 => by
    have h1 : bl o ∈ Scr.words (bl line) := by rw [HW.out]; exact List.mem_cons_of_mem _ (by rw [← hos]; exact List.mem_map_of_mem ho2)
    have h2 := words_mem h1
    rw [← size_bl, ← size_bl] at h2
    have := HS.out
    omega)
  have HLN := Lib.hid (show os.length ≤ 4294967280 by
    have h1 := words_cnt HW.out
    rw [← hos, List.length_map, ← size_bl] at h1
    have := HS.out
    omega)
  obtain ⟨N, hN⟩ : ∃ N, (⟨([97, 115, 107] : List UInt8).toArray⟩ :: os).length = N := ⟨_, rfl⟩
  have HN := Lib.hid (show N = os.length + 1 by rw [← hN]; rfl)
  rw [hN] at HC1 HCK ⊢
  obtain ⟨ad, rfl, e1⟩ := str_cell HC1.out 0 (by have := HN.out; omega) (x := ⟨([97, 115, 107] : List UInt8).toArray⟩) rfl
  have x0 := e1 _ (Below.refl _ _)
  rw [show ad.add 0 = ad by simp [Addr.add]] at x0
  have hpos : (0 : Int) < (N : Int) := by have := HN.out; omega
  have x0a : ∀ o, (w2.alloc o).cell? ad = some (.string ⟨([97, 115, 107] : List UInt8).toArray⟩) := fun o => by
    have := e1 (w2.alloc o) ((Below.refl _ _).alloc (Nat.le_refl _) o)
    rwa [show ad.add 0 = ad by simp [Addr.add]] at this
  clear hW hb hR1 hB1 hr1 hb2 ho ho0 hos hN e1
  go_upto_region 12 with (fail)
  generalize hW3 : World.alloc w2 _ = w3
  obtain ⟨q, hq⟩ : ∃ q, w2.heap.size = q := ⟨_, rfl⟩
  have HQ := Lib.hid (show w3.heap[q]? = some (.cells (bxCells (cZero 4) (.slice none 0 0)) 74 (0, 0)) by rw [← hW3, ← hq]; exact alloc_new _ _)
  have HB3 := Lib.hid (show Below w2.heap.size w2 w3 by rw [← hW3]; exact (Below.refl _ _).alloc (Nat.le_refl _) _)
  have HBQ := Lib.hid (show b < q by rw [← hq]; exact lt_of_block HR2.out)
  have HR3 := Lib.hid ((HB3.out.block _ (lt_of_block HR2.out)).trans HR2.out)
  have HBW := Lib.hid (HB2.out.trans (HB3.out.mono HB2.out.size))
  rw [hq]
  clear hW3 hq x0 x0a
  by_cases h1 : N = 5
  rotate_left
  · have HE := Lib.hid (show pQuery ws = none from pQuery_len (fun h => h1 (by
      have h2 : os.length = ws.length := by rw [← HOS.out, List.length_map]
      rw [h] at h2
      have := HN.out
      omega)))
    have hn3 : ¬ (N : Int) = 5 := by omega
    clear h1
    have k0 := cell_blk HQ.out 0 (v := .int .i64 4) rfl
    have k1 := cell_blk HQ.out 1 (v := .slice none 0 0) rfl
    have k2 := cell_blk HQ.out 2 (v := .int .i64 0) rfl
    have k3 := cell_blk HQ.out 3 (v := .int .i64 0) rfl
    have k4 := cell_blk HQ.out 4 (v := .int .i64 0) rfl
    have k5 := cell_blk HQ.out 5 (v := .string ⟨#[]⟩) rfl
    have v0 := cell_blk HR3.out 0 (v := .int .i64 0) rfl
    have g0 := froz_blk HR3.out 0
    have v1 := cell_blk HR3.out 1 (v := .slice none 0 0) rfl
    have g1 := froz_blk HR3.out 1
    have v2 := cell_blk HR3.out 2 (v := .int .i64 0) rfl
    have g2 := froz_blk HR3.out 2
    have v3 := cell_blk HR3.out 3 (v := .int .i64 0) rfl
    have g3 := froz_blk HR3.out 3
    have v4 := cell_blk HR3.out 4 (v := .int .i64 0) rfl
    have g4 := froz_blk HR3.out 4
    have v5 := cell_blk HR3.out 5 (v := .string ⟨#[]⟩) rfl
    have g5 := froz_blk HR3.out 5
    go_wp2_with fail
    obtain ⟨s1, s2⟩ := six_set HR3.out (.int .i64 4) (.slice none 0 0) (.int .i64 0) (.int .i64 0) (.int .i64 0) (.string ⟨#[]⟩)
    refine bodyPost_ret (v := .tuple #[.agg (bxCells (cZero 4) (.slice none 0 0)), .bool false]) (call_results _ _ b (cZero 4) _ _ rfl rfl s1) rfl ?_
    have hbe : Below w.heap.size w _ := HBW.out.trans (s2.below HBW.out.size (fun k hk => by have := HBB.out; omega))
    exact ⟨hbe, by rw [← HRES.out, HE.out]; exact ⟨cZero 4, none, 0, 0, rfl⟩⟩
  subst h1
  obtain ⟨o1, o2, o3, o4, rfl⟩ : ∃ o1 o2 o3 o4, os = [o1, o2, o3, o4] := by
    have h2 : os.length = 4 := by have := HN.out; omega
    match os, h2 with
    | [a, b, c, d], _ => exact ⟨a, b, c, d, rfl⟩
  obtain ⟨hz1, hz2, hz3, hz4⟩ : o1.size ≤ 4294967280 ∧ o2.size ≤ 4294967280 ∧ o3.size ≤ 4294967280 ∧ o4.size ≤ 4294967280 := ⟨HSZ.out _ (by simp), HSZ.out _ (by simp), HSZ.out _ (by simp), HSZ.out _ (by simp)⟩
  have HZ1 := Lib.hid hz1
  have HZ2 := Lib.hid hz2
  have HZ3 := Lib.hid hz3
  have HZ4 := Lib.hid hz4
  have HEE := Lib.hid (show ∀ W, Below w3.heap.size w3 W → (W.cell? (ad.add 1) = some (.string o1) ∧ W.cell? ⟨ad.block, ad.off + 1, none⟩ = some (.string o1)) ∧ (W.cell? (ad.add 2) = some (.string o2) ∧ W.cell? ⟨ad.block, ad.off + 2, none⟩ = some (.string o2)) ∧ (W.cell? (ad.add 3) = some (.string o3) ∧ W.cell? ⟨ad.block, ad.off + 3, none⟩ = some (.string o3)) ∧ (W.cell? (ad.add 4) = some (.string o4) ∧ W.cell? ⟨ad.block, ad.off + 4, none⟩ = some (.string o4)) from fun W hb => by
    have hb' := HB3.out.trans (hb.mono HB3.out.size)
    obtain ⟨a1, h1, e1⟩ := str_cell HC1.out 1 (by omega) (x := o1) rfl
    obtain ⟨a2, h2, e2⟩ := str_cell HC1.out 2 (by omega) (x := o2) rfl
    obtain ⟨a3, h3, e3⟩ := str_cell HC1.out 3 (by omega) (x := o3) rfl
    obtain ⟨a4, h4, e4⟩ := str_cell HC1.out 4 (by omega) (x := o4) rfl
    cases h1; cases h2; cases h3; cases h4
    exact ⟨⟨e1 _ hb', e1 _ hb'⟩, ⟨e2 _ hb', e2 _ hb'⟩, ⟨e3 _ hb', e3 _ hb'⟩, ⟨e4 _ hb', e4 _ hb'⟩⟩)
  clear hz1 hz2 hz3 hz4
  obtain ⟨⟨x1, x1'⟩, ⟨x2, x2'⟩, ⟨x3, x3'⟩, ⟨x4, x4'⟩⟩ := HEE.out w3 (Below.refl _ _)
  go_wp2_with fail
  refine (rnum_flat o1 HZ1.out _).mono ?_
  rintro e w4 ⟨y1, r1, rfl, hp1, hf1, hb4⟩
  have HB4 := Lib.hid (show Below w3.heap.size w3 w4 from hb4)
  have HP1 := Lib.hid (And.intro hp1 hf1)
  clear x1 x2 x3 x4 x1' x2' x3' x4' hb4 hp1 hf1
  obtain ⟨⟨x1, x1'⟩, ⟨x2, x2'⟩, ⟨x3, x3'⟩, ⟨x4, x4'⟩⟩ := HEE.out _ HB4.out
  go_wp2_with fail
  refine (rnum_flat o2 HZ2.out _).mono ?_
  rintro e w5 ⟨y2, r2, rfl, hp1, hf1, hb5⟩
  have HB5 := Lib.hid (HB4.out.trans (hb5.mono HB4.out.size))
  have HP2 := Lib.hid (And.intro hp1 hf1)
  clear x1 x2 x3 x4 x1' x2' x3' x4' hb5 hp1 hf1
  obtain ⟨⟨x1, x1'⟩, ⟨x2, x2'⟩, ⟨x3, x3'⟩, ⟨x4, x4'⟩⟩ := HEE.out _ HB5.out
  go_wp2_with fail
  refine (rnum_flat o3 HZ3.out _).mono ?_
  rintro e w6 ⟨y3, r3, rfl, hp1, hf1, hb6⟩
  have HB6 := Lib.hid (HB5.out.trans (hb6.mono HB5.out.size))
  have HP3 := Lib.hid (And.intro hp1 hf1)
  clear x1 x2 x3 x4 x1' x2' x3' x4' hb6 hp1 hf1
  obtain ⟨⟨x1, x1'⟩, ⟨x2, x2'⟩, ⟨x3, x3'⟩, ⟨x4, x4'⟩⟩ := HEE.out _ HB6.out
  go_wp2_with fail
  refine (rtext_flat o4 HZ4.out _).mono ?_
  rintro e w7 ⟨tx, r4, rfl, hp1, hf1, hb7⟩
  have HB7 := Lib.hid (HB6.out.trans (hb7.mono HB6.out.size))
  have HP4 := Lib.hid (And.intro hp1 hf1)
  have HQ7 := Lib.hid ((HB7.out.block _ (lt_of_block HQ.out)).trans HQ.out)
  have HR7 := Lib.hid ((HB7.out.block _ (lt_of_block HR3.out)).trans HR3.out)
  clear x1 x2 x3 x4 x1' x2' x3' x4' hb7 hp1 hf1
  have z2 := cell_blk HQ7.out 2 (v := .int .i64 0) rfl
  have z3 := cell_blk HQ7.out 3 (v := .int .i64 0) rfl
  have z4 := cell_blk HQ7.out 4 (v := .int .i64 0) rfl
  have z5 := cell_blk HQ7.out 5 (v := .string ⟨#[]⟩) rfl
  have f2 := froz_blk HQ7.out 2
  have f3 := froz_blk HQ7.out 3
  have f4 := froz_blk HQ7.out 4
  have f5 := froz_blk HQ7.out 5
  go_upto_region 19 with (fail)
  generalize hW8 : World.setCell (World.setCell (World.setCell (World.setCell w7 _ _) _ _) _ _) _ _ = w8
  have hm8 : Mut (· = q) w7 w8 := by rw [← hW8]; exact ((((Mut.refl (· = q) w7).set1 2 _).set1 3 _).set1 4 _).set1 5 _
  have HQ8 := Lib.hid (show w8.heap[q]? = some (.cells (bxCells ⟨4, [], ⟨y1, y2, y3, tx⟩⟩ (.slice none 0 0)) 74 (0, 0)) by rw [← hW8]; exact set_blk (set_blk (set_blk (set_blk HQ7.out 2 _) 3 _) 4 _) 5 _)
  have HR8 := Lib.hid (hm8.blk HR7.out (by have := HBQ.out; omega))
  have HB78 := HBW.out.trans (HB7.out.mono HBW.out.size)
  have HBW8 := Lib.hid (HB78.trans (hm8.below HB78.size (fun k hk => by have := HBQ.out; have := HBB.out; omega)))
  have HFIN := Lib.hid (show res = if (r1 && r2 && r3 && r4 && decide ((tx.size : Int) ≤ 100)) then some ⟨4, [], ⟨y1, y2, y3, tx⟩⟩ else none by
    rw [← HRES.out, ← HOS.out]
    show Option.map _ (pQuery [bl o1, bl o2, bl o3, bl o4]) = _
    rw [pQuery_four]
    cases r1 with
    | false => rw [HP1.out.2 rfl]; rfl
    | true =>
      rw [HP1.out.1 rfl]
      cases r2 with
      | false => rw [HP2.out.2 rfl]; rfl
      | true =>
        rw [HP2.out.1 rfl]
        cases r3 with
        | false => rw [HP3.out.2 rfl]; rfl
        | true =>
          rw [HP3.out.1 rfl]
          cases r4 with
          | false => rw [HP4.out.2 rfl]; rfl
          | true =>
            rw [HP4.out.1 rfl]
            simp only [Option.bind_some, Bool.true_and, decide_eq_true_eq]
            have hz := size_bl tx
            by_cases h : (bl tx).length ≤ 100
            · rw [if_pos h, if_pos (by omega)]; rfl
            · rw [if_neg h, if_neg (by omega)]; rfl)
  clear hW8 z2 z3 z4 z5 f2 f3 f4 f5 hm8 HB78
  cases r1 with
  | false =>
    have k0 := cell_blk HQ8.out 0 (v := .int .i64 4) rfl
    have k1 := cell_blk HQ8.out 1 (v := .slice none 0 0) rfl
    have k2 := cell_blk HQ8.out 2 (v := .int .i64 y1) rfl
    have k3 := cell_blk HQ8.out 3 (v := .int .i64 y2) rfl
    have k4 := cell_blk HQ8.out 4 (v := .int .i64 y3) rfl
    have k5 := cell_blk HQ8.out 5 (v := .string tx) rfl
    have v0 := cell_blk HR8.out 0 (v := .int .i64 0) rfl
    have g0 := froz_blk HR8.out 0
    have v1 := cell_blk HR8.out 1 (v := .slice none 0 0) rfl
    have g1 := froz_blk HR8.out 1
    have v2 := cell_blk HR8.out 2 (v := .int .i64 0) rfl
    have g2 := froz_blk HR8.out 2
    have v3 := cell_blk HR8.out 3 (v := .int .i64 0) rfl
    have g3 := froz_blk HR8.out 3
    have v4 := cell_blk HR8.out 4 (v := .int .i64 0) rfl
    have g4 := froz_blk HR8.out 4
    have v5 := cell_blk HR8.out 5 (v := .string ⟨#[]⟩) rfl
    have g5 := froz_blk HR8.out 5
    go_wp2_with fail
    obtain ⟨s1, s2⟩ := six_set HR8.out (.int .i64 4) (.slice none 0 0) (.int .i64 y1) (.int .i64 y2) (.int .i64 y3) (.string tx)
    refine bodyPost_ret (v := .tuple #[.agg (bxCells ⟨4, [], ⟨y1, y2, y3, tx⟩⟩ (.slice none 0 0)), .bool false]) (call_results _ _ b ⟨4, [], ⟨y1, y2, y3, tx⟩⟩ _ _ rfl rfl s1) rfl ?_
    have hbe : Below w.heap.size w _ := HBW8.out.trans (s2.below HBW8.out.size (fun k hk => by have := HBB.out; omega))
    exact ⟨hbe, by rw [HFIN.out]; exact ⟨⟨4, [], ⟨y1, y2, y3, tx⟩⟩, none, 0, 0, rfl⟩⟩
  | true =>
    cases r2 with
    | false =>
      have k0 := cell_blk HQ8.out 0 (v := .int .i64 4) rfl
      have k1 := cell_blk HQ8.out 1 (v := .slice none 0 0) rfl
      have k2 := cell_blk HQ8.out 2 (v := .int .i64 y1) rfl
      have k3 := cell_blk HQ8.out 3 (v := .int .i64 y2) rfl
      have k4 := cell_blk HQ8.out 4 (v := .int .i64 y3) rfl
      have k5 := cell_blk HQ8.out 5 (v := .string tx) rfl
      have v0 := cell_blk HR8.out 0 (v := .int .i64 0) rfl
      have g0 := froz_blk HR8.out 0
      have v1 := cell_blk HR8.out 1 (v := .slice none 0 0) rfl
      have g1 := froz_blk HR8.out 1
      have v2 := cell_blk HR8.out 2 (v := .int .i64 0) rfl
      have g2 := froz_blk HR8.out 2
      have v3 := cell_blk HR8.out 3 (v := .int .i64 0) rfl
      have g3 := froz_blk HR8.out 3
      have v4 := cell_blk HR8.out 4 (v := .int .i64 0) rfl
      have g4 := froz_blk HR8.out 4
      have v5 := cell_blk HR8.out 5 (v := .string ⟨#[]⟩) rfl
      have g5 := froz_blk HR8.out 5
      go_wp2_with fail
      obtain ⟨s1, s2⟩ := six_set HR8.out (.int .i64 4) (.slice none 0 0) (.int .i64 y1) (.int .i64 y2) (.int .i64 y3) (.string tx)
      refine bodyPost_ret (v := .tuple #[.agg (bxCells ⟨4, [], ⟨y1, y2, y3, tx⟩⟩ (.slice none 0 0)), .bool false]) (call_results _ _ b ⟨4, [], ⟨y1, y2, y3, tx⟩⟩ _ _ rfl rfl s1) rfl ?_
      have hbe : Below w.heap.size w _ := HBW8.out.trans (s2.below HBW8.out.size (fun k hk => by have := HBB.out; omega))
      exact ⟨hbe, by rw [HFIN.out]; exact ⟨⟨4, [], ⟨y1, y2, y3, tx⟩⟩, none, 0, 0, rfl⟩⟩
    | true =>
      cases r3 with
      | false =>
        have k0 := cell_blk HQ8.out 0 (v := .int .i64 4) rfl
        have k1 := cell_blk HQ8.out 1 (v := .slice none 0 0) rfl
        have k2 := cell_blk HQ8.out 2 (v := .int .i64 y1) rfl
        have k3 := cell_blk HQ8.out 3 (v := .int .i64 y2) rfl
        have k4 := cell_blk HQ8.out 4 (v := .int .i64 y3) rfl
        have k5 := cell_blk HQ8.out 5 (v := .string tx) rfl
        have v0 := cell_blk HR8.out 0 (v := .int .i64 0) rfl
        have g0 := froz_blk HR8.out 0
        have v1 := cell_blk HR8.out 1 (v := .slice none 0 0) rfl
        have g1 := froz_blk HR8.out 1
        have v2 := cell_blk HR8.out 2 (v := .int .i64 0) rfl
        have g2 := froz_blk HR8.out 2
        have v3 := cell_blk HR8.out 3 (v := .int .i64 0) rfl
        have g3 := froz_blk HR8.out 3
        have v4 := cell_blk HR8.out 4 (v := .int .i64 0) rfl
        have g4 := froz_blk HR8.out 4
        have v5 := cell_blk HR8.out 5 (v := .string ⟨#[]⟩) rfl
        have g5 := froz_blk HR8.out 5
        go_wp2_with fail
        obtain ⟨s1, s2⟩ := six_set HR8.out (.int .i64 4) (.slice none 0 0) (.int .i64 y1) (.int .i64 y2) (.int .i64 y3) (.string tx)
        refine bodyPost_ret (v := .tuple #[.agg (bxCells ⟨4, [], ⟨y1, y2, y3, tx⟩⟩ (.slice none 0 0)), .bool false]) (call_results _ _ b ⟨4, [], ⟨y1, y2, y3, tx⟩⟩ _ _ rfl rfl s1) rfl ?_
        have hbe : Below w.heap.size w _ := HBW8.out.trans (s2.below HBW8.out.size (fun k hk => by have := HBB.out; omega))
        exact ⟨hbe, by rw [HFIN.out]; exact ⟨⟨4, [], ⟨y1, y2, y3, tx⟩⟩, none, 0, 0, rfl⟩⟩
      | true =>
        cases r4 with
        | false =>
          have k0 := cell_blk HQ8.out 0 (v := .int .i64 4) rfl
          have k1 := cell_blk HQ8.out 1 (v := .slice none 0 0) rfl
          have k2 := cell_blk HQ8.out 2 (v := .int .i64 y1) rfl
          have k3 := cell_blk HQ8.out 3 (v := .int .i64 y2) rfl
          have k4 := cell_blk HQ8.out 4 (v := .int .i64 y3) rfl
          have k5 := cell_blk HQ8.out 5 (v := .string tx) rfl
          have v0 := cell_blk HR8.out 0 (v := .int .i64 0) rfl
          have g0 := froz_blk HR8.out 0
          have v1 := cell_blk HR8.out 1 (v := .slice none 0 0) rfl
          have g1 := froz_blk HR8.out 1
          have v2 := cell_blk HR8.out 2 (v := .int .i64 0) rfl
          have g2 := froz_blk HR8.out 2
          have v3 := cell_blk HR8.out 3 (v := .int .i64 0) rfl
          have g3 := froz_blk HR8.out 3
          have v4 := cell_blk HR8.out 4 (v := .int .i64 0) rfl
          have g4 := froz_blk HR8.out 4
          have v5 := cell_blk HR8.out 5 (v := .string ⟨#[]⟩) rfl
          have g5 := froz_blk HR8.out 5
          go_wp2_with fail
          obtain ⟨s1, s2⟩ := six_set HR8.out (.int .i64 4) (.slice none 0 0) (.int .i64 y1) (.int .i64 y2) (.int .i64 y3) (.string tx)
          refine bodyPost_ret (v := .tuple #[.agg (bxCells ⟨4, [], ⟨y1, y2, y3, tx⟩⟩ (.slice none 0 0)), .bool false]) (call_results _ _ b ⟨4, [], ⟨y1, y2, y3, tx⟩⟩ _ _ rfl rfl s1) rfl ?_
          have hbe : Below w.heap.size w _ := HBW8.out.trans (s2.below HBW8.out.size (fun k hk => by have := HBB.out; omega))
          exact ⟨hbe, by rw [HFIN.out]; exact ⟨⟨4, [], ⟨y1, y2, y3, tx⟩⟩, none, 0, 0, rfl⟩⟩
        | true =>
          by_cases h100 : (tx.size : Int) ≤ 100
          · have HD := Lib.hid (show decide ((tx.size : Int) ≤ 100) = true from decide_eq_true h100)
            rw [HD.out] at HFIN
            have k0 := cell_blk HQ8.out 0 (v := .int .i64 4) rfl
            have k1 := cell_blk HQ8.out 1 (v := .slice none 0 0) rfl
            have k2 := cell_blk HQ8.out 2 (v := .int .i64 y1) rfl
            have k3 := cell_blk HQ8.out 3 (v := .int .i64 y2) rfl
            have k4 := cell_blk HQ8.out 4 (v := .int .i64 y3) rfl
            have k5 := cell_blk HQ8.out 5 (v := .string tx) rfl
            have v0 := cell_blk HR8.out 0 (v := .int .i64 0) rfl
            have g0 := froz_blk HR8.out 0
            have v1 := cell_blk HR8.out 1 (v := .slice none 0 0) rfl
            have g1 := froz_blk HR8.out 1
            have v2 := cell_blk HR8.out 2 (v := .int .i64 0) rfl
            have g2 := froz_blk HR8.out 2
            have v3 := cell_blk HR8.out 3 (v := .int .i64 0) rfl
            have g3 := froz_blk HR8.out 3
            have v4 := cell_blk HR8.out 4 (v := .int .i64 0) rfl
            have g4 := froz_blk HR8.out 4
            have v5 := cell_blk HR8.out 5 (v := .string ⟨#[]⟩) rfl
            have g5 := froz_blk HR8.out 5
            go_wp2_with fail
            obtain ⟨s1, s2⟩ := six_set HR8.out (.int .i64 4) (.slice none 0 0) (.int .i64 y1) (.int .i64 y2) (.int .i64 y3) (.string tx)
            refine bodyPost_ret (v := .tuple #[.agg (bxCells ⟨4, [], ⟨y1, y2, y3, tx⟩⟩ (.slice none 0 0)), .bool true]) (call_results _ _ b ⟨4, [], ⟨y1, y2, y3, tx⟩⟩ _ _ rfl rfl s1) rfl ?_
            have hbe : Below w.heap.size w _ := HBW8.out.trans (s2.below HBW8.out.size (fun k hk => by have := HBB.out; omega))
            exact ⟨hbe, by rw [HFIN.out]; exact ⟨.slice none 0 0, rfl, Kd.R_nil _ _ _ _ _⟩⟩
          · have HD := Lib.hid (show decide ((tx.size : Int) ≤ 100) = false from decide_eq_false h100)
            rw [HD.out] at HFIN
            have k0 := cell_blk HQ8.out 0 (v := .int .i64 4) rfl
            have k1 := cell_blk HQ8.out 1 (v := .slice none 0 0) rfl
            have k2 := cell_blk HQ8.out 2 (v := .int .i64 y1) rfl
            have k3 := cell_blk HQ8.out 3 (v := .int .i64 y2) rfl
            have k4 := cell_blk HQ8.out 4 (v := .int .i64 y3) rfl
            have k5 := cell_blk HQ8.out 5 (v := .string tx) rfl
            have v0 := cell_blk HR8.out 0 (v := .int .i64 0) rfl
            have g0 := froz_blk HR8.out 0
            have v1 := cell_blk HR8.out 1 (v := .slice none 0 0) rfl
            have g1 := froz_blk HR8.out 1
            have v2 := cell_blk HR8.out 2 (v := .int .i64 0) rfl
            have g2 := froz_blk HR8.out 2
            have v3 := cell_blk HR8.out 3 (v := .int .i64 0) rfl
            have g3 := froz_blk HR8.out 3
            have v4 := cell_blk HR8.out 4 (v := .int .i64 0) rfl
            have g4 := froz_blk HR8.out 4
            have v5 := cell_blk HR8.out 5 (v := .string ⟨#[]⟩) rfl
            have g5 := froz_blk HR8.out 5
            go_wp2_with fail
            obtain ⟨s1, s2⟩ := six_set HR8.out (.int .i64 4) (.slice none 0 0) (.int .i64 y1) (.int .i64 y2) (.int .i64 y3) (.string tx)
            refine bodyPost_ret (v := .tuple #[.agg (bxCells ⟨4, [], ⟨y1, y2, y3, tx⟩⟩ (.slice none 0 0)), .bool false]) (call_results _ _ b ⟨4, [], ⟨y1, y2, y3, tx⟩⟩ _ _ rfl rfl s1) rfl ?_
            have hbe : Below w.heap.size w _ := HBW8.out.trans (s2.below HBW8.out.size (fun k hk => by have := HBB.out; omega))
            exact ⟨hbe, by rw [HFIN.out]; exact ⟨⟨4, [], ⟨y1, y2, y3, tx⟩⟩, none, 0, 0, rfl⟩⟩
end Go.Proofs.YtjcdpccfhpbccaaGreatDoor
