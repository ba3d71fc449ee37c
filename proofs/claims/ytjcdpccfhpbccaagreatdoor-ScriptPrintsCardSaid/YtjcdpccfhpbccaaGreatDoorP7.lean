/-
  The walks of the document's own words and lines.
  The walk of the document's own lines.
  The walks of the document's own operations: what may be.
-/
import Derived.Test.YtjcdpccfhpbccaaGreatDoorP4
import Derived.Test.YtjcdpccfhpbccaaGreatDoorE4
import Derived.Test.YtjcdpccfhpbccaaGreatDoorN0
namespace Go.Proofs.YtjcdpccfhpbccaaGreatDoor
open Go.RowKit Go.Proofs.YtjcdpccfhpbccaaGreatDoorW.PrintWords

/-- The words of a line, byte by byte. -/
def wgo : Bool → List UInt8 → List UInt8 → List (List UInt8)
  | _, cur, [] => [cur]
  | b, cur, c :: r => if c = 32 ∧ b = false then cur :: wgo false [] r else wgo (Scr.brk b c) (cur ++ [c]) r
theorem wgo_words : ∀ (n : Nat) (l : List UInt8), l.length ≤ n → ∀ b cur, wgo b cur l = (match Scr.blankAt b l with | none => [cur ++ l] | some i => (cur ++ l.take i) :: Scr.words (l.drop (i + 1))) := by
  intro n
  induction n with
  | zero =>
    intro l hn b cur
    have : l = [] := List.length_eq_zero_iff.1 (by omega)
    subst this
    simp [wgo, Scr.blankAt]
  | succ n ih =>
    intro l hn b cur
    cases l with
    | nil => simp [wgo, Scr.blankAt]
    | cons c r =>
      simp only [List.length_cons] at hn
      by_cases h : c = 32 ∧ b = false
      · rw [wgo, if_pos h, Scr.blankAt, if_pos h]
        simp only [List.take_zero, List.append_nil, Nat.zero_add, List.drop_succ_cons, List.drop_zero]
        rw [ih r (by omega) false []]
        cases hb : Scr.blankAt false r with
        | none => rw [Scr.words_none hb]; simp
        | some i => rw [Scr.words_some hb]; simp
      · rw [wgo, if_neg h, Scr.blankAt, if_neg h, ih r (by omega)]
        cases hb : Scr.blankAt (Scr.brk b c) r with
        | none => simp
        | some i => simp
theorem wgo_is (l : List UInt8) : wgo false [] l = Scr.words l := by
  rw [wgo_words _ l (Nat.le_refl _)]
  cases hb : Scr.blankAt false l with
  | none => rw [Scr.words_none hb]; simp
  | some i => rw [Scr.words_some hb]; simp
theorem wgo_end (b : Bool) (cur : List UInt8) : wgo b cur [] = [cur] := by rw [wgo]
theorem wgo_step {l : List UInt8} {i : Nat} {c : UInt8} (h : l[i]? = some c) (b : Bool) (cur : List UInt8) : wgo b cur (l.drop i) = if c = 32 ∧ b = false then cur :: wgo false [] (l.drop (i + 1)) else wgo (Scr.brk b c) (cur ++ [c]) (l.drop (i + 1)) := by
  obtain ⟨hlt, he⟩ := List.getElem?_eq_some_iff.1 h
  rw [List.drop_eq_getElem_cons hlt, he, wgo]
/-- The lines of a text, byte by byte: those that end, and what is left. -/
def lgo : List UInt8 → List UInt8 → List (List UInt8)
  | cur, [] => [cur]
  | cur, c :: r => if c = 10 then cur :: lgo [] r else lgo (cur ++ [c]) r
theorem lgo_pieces : ∀ (l : List UInt8) (cur : List UInt8), ∃ p ps, pieces l = p :: ps ∧ lgo cur l = (cur ++ p) :: ps
  | [], cur => ⟨[], [], rfl, by simp [lgo]⟩
  | c :: l, cur => by
    by_cases h : c = 10
    · subst h
      obtain ⟨p, ps, h1, h2⟩ := lgo_pieces l []
      refine ⟨[], p :: ps, by rw [pieces, if_pos rfl, h1], ?_⟩
      rw [lgo, if_pos rfl, h2]
      simp
    · obtain ⟨p, ps, h1, h2⟩ := lgo_pieces l (cur ++ [c])
      refine ⟨c :: p, ps, by rw [pieces, if_neg h, h1], ?_⟩
      rw [lgo, if_neg h, h2]
      simp
theorem lgo_is (l : List UInt8) : lgo [] l = pieces l := by
  obtain ⟨p, ps, h1, h2⟩ := lgo_pieces l []
  rw [h1, h2]
  rfl
theorem lgo_end (cur : List UInt8) : lgo cur [] = [cur] := by rw [lgo]
theorem lgo_step {l : List UInt8} {i : Nat} {c : UInt8} (h : l[i]? = some c) (cur : List UInt8) : lgo cur (l.drop i) = if c = 10 then cur :: lgo [] (l.drop (i + 1)) else lgo (cur ++ [c]) (l.drop (i + 1)) := by
  obtain ⟨hlt, he⟩ := List.getElem?_eq_some_iff.1 h
  rw [List.drop_eq_getElem_cons hlt, he, lgo]
theorem sub_one (s : ByteArray) (i : Nat) (c : UInt8) (h : (bl s)[i]? = some c) (w : World) :
    (Instr.slice 9 (.string s) (some (.int .i64 i)) (some (.int .i64 ((i : Int) + 1))) none).run Tryz.prog w = .ok (.string ⟨#[c]⟩) w := by
  obtain ⟨hlt, he⟩ := List.getElem?_eq_some_iff.1 h
  have hi : i < s.size := by rw [size_bl]; exact hlt
  have e : s.extract i (i + 1) = ⟨#[c]⟩ := by
    rw [← mk_bl (s.extract i (i + 1))]
    congr 1
    have e1 : bl (s.extract i (i + 1)) = [c] := by
      show (s.extract i (i + 1)).data.toList = _
      rw [Lib.extract_data]
      show ((bl s).drop i).take (i + 1 - i) = [c]
      rw [List.drop_eq_getElem_cons hlt, he, show i + 1 - i = 1 by omega]
      rfl
    rw [e1]
  have h0 : (0 : Int) ≤ i := by omega
  have h1 : (i : Int) ≤ (i : Int) + 1 := by omega
  have h2 : (i : Int) + 1 ≤ s.size := by omega
  have e2 : ((i : Int) + 1).toNat = i + 1 := by omega
  simp [go_sem, Tryz.underlying9, h0, h1, h2, e, e2]
theorem snoc_bytes (T : ByteArray) (c : UInt8) : bl (T ++ ⟨#[c]⟩) = bl T ++ [c] := bl_app T ⟨#[c]⟩
def WordsPost (w : World) (ws : List (List UInt8)) (e : Ending) (w' : World) : Prop := ∃ v outs, e = .returned v ∧ Kd.string.R 9 w' w.heap.size (fun _ => True) v outs ∧ outs.map bl = ws ∧ Below w.heap.size w w'
def LinesPost (w : World) (l : List UInt8) (e : Ending) (w' : World) : Prop := ∃ v outs, e = .returned (.tuple #[v, .bool (decide ((pieces l).getLast? = some [] ∧ l ≠ []))]) ∧ Kd.string.R 9 w' w.heap.size (fun _ => True) v outs ∧ outs.map bl = (pieces l).dropLast ∧ Below w.heap.size w w'
theorem info_str : (Tryz.prog.info? 9).map (fun i => (i.zero, i.size, i.bytes)) = some (some (.string ⟨#[]⟩), 1, 16) := by kernel_rfl
set_option maxRecDepth 100000 in
set_option maxHeartbeats 4000000 in
theorem rwords_any (s : ByteArray) (hs : s.size ≤ 4294967280) (w : World) :
    Calls Tryz.prog 23 #[.string s] w fun e w' => WordsPost w (Scr.words (bl s)) e w' := by
  have HS := Lib.hid hs
  clear hs
  go_enter Tryz.func23, Tryz.ntmps23
  go_wp2_with fail
  have HE := Lib.hid (R_empty Kd.string w w.heap.size 9 (fun _ => True) trivial (Nat.le_refl _))
  have HB := Lib.hid (show Below w.heap.size w (w.alloc (.cells #[] 9)) from (Below.refl _ _).alloc (Nat.le_refl _) _)
  go_loopg [3, 4, 5, 6] s.size (fun k s3 s4 s5 s6 wr => ∃ (i : Nat) (outs : List ByteArray) (T : ByteArray) (b : Bool) , k + i = s.size ∧ s6 = .int .i64 i ∧ s4 = .string T ∧ s5 = .bool b ∧ Hid (Kd.string.R 9 wr w.heap.size (fun _ => True) s3 outs) ∧ Hid (outs.map bl ++ wgo b (bl T) ((bl s).drop i) = Scr.words (bl s)) ∧ Hid (T.size ≤ i ∧ outs.length ≤ i) ∧ Hid (Below w.heap.size w wr))
  case atStart => exact ⟨0, [], ⟨#[]⟩, false, by omega, rfl, rfl, rfl, HE, Lib.hid (by show wgo false ([]) (bl s) = _; exact wgo_is _), Lib.hid ⟨by decide, by simp⟩, HB⟩
  case round =>
    clear HE HB
    obtain ⟨i, outs, T, b, hki, rfl, rfl, rfl, P, HQ, HZ, HBW⟩ := hrel
    have HL := Lib.hid (show (outs.length + 1) * 16 ≤ 140737488355328 by have := HS.out; have := HZ.out.2; omega)
    cases gk with
    | zero =>
      have hlt : ¬ ((i : Int) < (s.size : Int)) := by omega
      have HF := Lib.hid (show (outs ++ [T]).map bl = Scr.words (bl s) by
        have := HQ.out
        rw [List.drop_of_length_le (by rw [← size_bl]; omega), wgo_end] at this
        simpa using this)
      go_wp2_with (at_builtin; go_loud (refine Kd.R_append Kd.string w.heap.size rfl (.tmp 41) (.tmp 43) 56 9 (.string ⟨#[]⟩) 16 rfl Tryz.underlying56 info_str rfl (by decide) (by decide) _ outs T [.string T] (fun _ => True) (fun _ => False) rfl rfl rfl (fun _ h => h.elim) (fun _ _ => trivial) P.out HBW.out HBW.out.size HL.out ?_))
      intro v1 w4 hr4 hb4 hg4 hat4
      have HR4 := Lib.hid hr4
      have HB4 := Lib.hid hb4
      clear hr4 hb4 hg4 hat4
      go_wp2_with fail
      go_ret
      exact ⟨_, _, rfl, HR4.out, HF.out, HB4.out⟩
    | succ gk =>
      have hlt : (i : Int) < (s.size : Int) := by omega
      obtain ⟨c, hc⟩ : ∃ c, (bl s)[i]? = some c := ⟨_, List.getElem?_eq_getElem (by rw [← size_bl]; omega)⟩
      have hidx := idx_str s i c hc
      have hsub := sub_one s i c hc
      have hst := wgo_step hc b (bl T)
      have q0 : IntKind.i64.wrap ((i : Int) + 1) = (i : Int) + 1 := wrap_next' (by have := HS.out; omega)
      have n1 : ¬ 9223372036854775807 < T.size + 1 := by have := HS.out; have := HZ.out.1; omega
      have HKI := Lib.hid hki
      obtain ⟨T2, hT2⟩ : ∃ T2 : ByteArray, T ++ ⟨#[c]⟩ = T2 := ⟨_, rfl⟩
      have HT2 := Lib.hid (show bl T2 = bl T ++ [c] by rw [← hT2]; exact snoc_bytes T c)
      have HZ2 := Lib.hid (show T2.size ≤ i + 1 ∧ outs.length ≤ i + 1 by have := HZ.out; rw [size_bl, HT2.out, List.length_append, ← size_bl]; simp only [List.length_cons, List.length_nil]; omega)
      clear hc hki
      by_cases hcb : c = 32 ∧ b = false
      · obtain ⟨h1, rfl⟩ := hcb
        have hp : (c.toNat : Int) = 32 := by rw [h1]; rfl
        have HQ2 := Lib.hid (show (outs ++ [T]).map bl ++ wgo false (bl ⟨#[]⟩) ((bl s).drop (i + 1)) = Scr.words (bl s) by
          have := HQ.out
          rw [hst, if_pos ⟨h1, rfl⟩] at this
          simpa using this)
        clear hst h1 hT2
        go_wp2_with (at_builtin; go_loud (refine Kd.R_append Kd.string w.heap.size rfl (.tmp 22) (.tmp 24) 56 9 (.string ⟨#[]⟩) 16 rfl Tryz.underlying56 info_str rfl (by decide) (by decide) _ outs T [.string T] (fun _ => True) (fun _ => False) rfl rfl rfl (fun _ h => h.elim) (fun _ _ => trivial) P.out HBW.out HBW.out.size HL.out ?_))
        intro v1 w4 hr4 hb4 hg4 hat4
        have HR4 := Lib.hid hr4
        have HB4 := Lib.hid hb4
        clear hr4 hb4 hg4 hat4
        go_wp2_with fail
        go_roundg gk
        case measure => omega
        case rel => exact ⟨i + 1, outs ++ [T], ⟨#[]⟩, false, by have := HKI.out; omega, rfl, rfl, rfl, HR4, HQ2, Lib.hid ⟨by simp [ByteArray.size], by have := HZ.out.2; simp; omega⟩, HB4⟩
      have HQ2 := Lib.hid (show outs.map bl ++ wgo (Scr.brk b c) (bl T2) ((bl s).drop (i + 1)) = Scr.words (bl s) by
        have := HQ.out
        rw [hst, if_neg hcb, ← HT2.out] at this
        exact this)
      clear hst
      by_cases h32 : c = 32
      · have hb : b = true := by cases b with | true => rfl | false => exact absurd ⟨h32, rfl⟩ hcb
        subst hb
        have hp : (c.toNat : Int) = 32 := by rw [h32]; rfl
        have HBK := Lib.hid (show Scr.brk true c = true by rw [h32]; rfl)
        clear hcb h32
        rw [HBK.out] at HQ2
        go_wp2_with fail
        go_roundg gk
        case measure => omega
        case rel => exact ⟨i + 1, outs, T2, true, by have := HKI.out; omega, rfl, rfl, rfl, P, HQ2, HZ2, HBW⟩
      have n32 : ¬ (c.toNat : Int) = 32 := fun h => h32 (UInt8.toNat_inj.1 (by show c.toNat = 32; omega))
      by_cases h91 : c = 91
      · have hp : (c.toNat : Int) = 91 := by rw [h91]; rfl
        have HBK := Lib.hid (show Scr.brk b c = true by rw [h91]; rfl)
        clear hcb h32 h91
        rw [HBK.out] at HQ2
        go_wp2_with fail
        go_roundg gk
        case measure => omega
        case rel => exact ⟨i + 1, outs, T2, true, by have := HKI.out; omega, rfl, rfl, rfl, P, HQ2, HZ2, HBW⟩
      have n91 : ¬ (c.toNat : Int) = 91 := fun h => h91 (UInt8.toNat_inj.1 (by show c.toNat = 91; omega))
      by_cases h93 : c = 93
      · have hp : (c.toNat : Int) = 93 := by rw [h93]; rfl
        have HBK := Lib.hid (show Scr.brk b c = false by rw [h93]; rfl)
        clear hcb h32 h91 h93
        rw [HBK.out] at HQ2
        go_wp2_with fail
        go_roundg gk
        case measure => omega
        case rel => exact ⟨i + 1, outs, T2, false, by have := HKI.out; omega, rfl, rfl, rfl, P, HQ2, HZ2, HBW⟩
      have n93 : ¬ (c.toNat : Int) = 93 := fun h => h93 (UInt8.toNat_inj.1 (by show c.toNat = 93; omega))
      have HBK := Lib.hid (show Scr.brk b c = b by rw [Scr.brk, if_neg h91, if_neg h93])
      clear hcb h32 h91 h93
      rw [HBK.out] at HQ2
      go_wp2_with fail
      go_roundg gk
      case measure => omega
      case rel => exact ⟨i + 1, outs, T2, b, by have := HKI.out; omega, rfl, rfl, rfl, P, HQ2, HZ2, HBW⟩
end Go.Proofs.YtjcdpccfhpbccaaGreatDoor
namespace Go.Proofs.YtjcdpccfhpbccaaGreatDoor
open Go.RowKit Go.Proofs.YtjcdpccfhpbccaaGreatDoorW.PrintWords

theorem empty_facts {s : ByteArray} (h : bl s ≠ []) : (s.toList == []) = false ∧ s.toList.isEmpty = false := by
  rw [ByteArray.toList_eq]
  exact ⟨beq_eq_false_iff_ne.2 h, by cases hb : bl s with | nil => exact absurd hb h | cons c r => show (bl s).isEmpty = false; rw [hb]; rfl⟩
set_option maxRecDepth 100000 in
set_option maxHeartbeats 4000000 in
theorem rlines_any (s : ByteArray) (hs : s.size ≤ 4294967280) (w : World) :
    Calls Tryz.prog 19 #[.string s] w fun e w' => LinesPost w (bl s) e w' := by
  have HS := Lib.hid hs
  clear hs
  go_enter Tryz.func19, Tryz.ntmps19
  go_wp2_with fail
  have HE := Lib.hid (R_empty Kd.string w w.heap.size 9 (fun _ => True) trivial (Nat.le_refl _))
  have HB := Lib.hid (show Below w.heap.size w (w.alloc (.cells #[] 9)) from (Below.refl _ _).alloc (Nat.le_refl _) _)
  go_loopg [4, 5, 6] s.size (fun k s3 s4 s6 wr => ∃ (i : Nat) (outs : List ByteArray) (T : ByteArray) , k + i = s.size ∧ s6 = .int .i64 i ∧ s4 = .string T ∧ Hid (Kd.string.R 9 wr w.heap.size (fun _ => True) s3 outs) ∧ Hid (outs.map bl ++ lgo (bl T) ((bl s).drop i) = pieces (bl s)) ∧ Hid (T.size ≤ i ∧ outs.length ≤ i) ∧ Hid (Below w.heap.size w wr))
  case atStart => exact ⟨0, [], ⟨#[]⟩, by omega, rfl, rfl, HE, Lib.hid (by show lgo ([]) (bl s) = _; exact lgo_is _), Lib.hid ⟨by decide, by simp⟩, HB⟩
  case round =>
    clear HE HB
    obtain ⟨i, outs, T, hki, rfl, rfl, P, HQ, HZ, HBW⟩ := hrel
    have HL := Lib.hid (show (outs.length + 1) * 16 ≤ 140737488355328 by have := HS.out; have := HZ.out.2; omega)
    cases gk with
    | zero =>
      have hlt : ¬ ((i : Int) < (s.size : Int)) := by omega
      have HF := Lib.hid (show outs.map bl ++ [bl T] = pieces (bl s) by
        have := HQ.out
        rw [List.drop_of_length_le (by rw [← size_bl]; omega), lgo_end] at this
        exact this)
      have HDR := Lib.hid (show outs.map bl = (pieces (bl s)).dropLast by rw [← HF.out, List.dropLast_concat])
      have HLA := Lib.hid (show (pieces (bl s)).getLast? = some (bl T) by rw [← HF.out, List.getLast?_concat])
      by_cases hT : bl T = []
      · by_cases hS : bl s = []
        · have HD := Lib.hid (show decide ((pieces (bl s)).getLast? = some [] ∧ bl s ≠ []) = false from decide_eq_false (fun h => h.2 hS))
          obtain rfl : T = ⟨#[]⟩ := mk_of hT
          have hs2 : s = ⟨#[]⟩ := mk_of hS
          have e1 : s.toList = [] := by rw [hs2]; exact ByteArray.toList_mk []
          clear hS hT hs2
          go_wp2_with fail
          go_ret2
          exact ⟨_, outs, by rw [HD.out]; rfl, P.out, HDR.out, HBW.out⟩
        · have HD := Lib.hid (show decide ((pieces (bl s)).getLast? = some [] ∧ bl s ≠ []) = true from decide_eq_true ⟨by rw [HLA.out, hT], hS⟩)
          obtain rfl : T = ⟨#[]⟩ := mk_of hT
          obtain ⟨e1, e2⟩ := empty_facts hS
          clear hS hT
          go_wp2_with fail
          go_ret2
          exact ⟨_, outs, by rw [HD.out]; rfl, P.out, HDR.out, HBW.out⟩
      · have HD := Lib.hid (show decide ((pieces (bl s)).getLast? = some [] ∧ bl s ≠ []) = false from decide_eq_false (fun h => hT (by have := h.1; rw [HLA.out] at this; injection this)))
        obtain ⟨e1, e2⟩ := empty_facts hT
        clear hT
        go_wp2_with fail
        go_ret2
        exact ⟨_, outs, by rw [HD.out]; rfl, P.out, HDR.out, HBW.out⟩
    | succ gk =>
      have hlt : (i : Int) < (s.size : Int) := by omega
      obtain ⟨c, hc⟩ : ∃ c, (bl s)[i]? = some c := ⟨_, List.getElem?_eq_getElem (by rw [← size_bl]; omega)⟩
      have hidx := idx_str s i c hc
      have hsub := sub_one s i c hc
      have hst := lgo_step hc (bl T)
      have q0 : IntKind.i64.wrap ((i : Int) + 1) = (i : Int) + 1 := wrap_next' (by have := HS.out; omega)
      have n1 : ¬ 9223372036854775807 < T.size + 1 := by have := HS.out; have := HZ.out.1; omega
      have HKI := Lib.hid hki
      obtain ⟨T2, hT2⟩ : ∃ T2 : ByteArray, T ++ ⟨#[c]⟩ = T2 := ⟨_, rfl⟩
      have HT2 := Lib.hid (show bl T2 = bl T ++ [c] by rw [← hT2]; exact snoc_bytes T c)
      have HZ2 := Lib.hid (show T2.size ≤ i + 1 ∧ outs.length ≤ i + 1 by have := HZ.out; rw [size_bl, HT2.out, List.length_append, ← size_bl]; simp only [List.length_cons, List.length_nil]; omega)
      clear hc hki
      by_cases h10 : c = 10
      · have hp : (c.toNat : Int) = 10 := by rw [h10]; rfl
        have HQ2 := Lib.hid (show (outs ++ [T]).map bl ++ lgo (bl ⟨#[]⟩) ((bl s).drop (i + 1)) = pieces (bl s) by
          have := HQ.out
          rw [hst, if_pos h10] at this
          simpa using this)
        clear hst h10 hT2
        go_wp2_with (at_builtin; go_loud (refine Kd.R_append Kd.string w.heap.size rfl (.tmp 18) (.tmp 20) 56 9 (.string ⟨#[]⟩) 16 rfl Tryz.underlying56 info_str rfl (by decide) (by decide) _ outs T [.string T] (fun _ => True) (fun _ => False) rfl rfl rfl (fun _ h => h.elim) (fun _ _ => trivial) P.out HBW.out HBW.out.size HL.out ?_))
        intro v1 w4 hr4 hb4 hg4 hat4
        have HR4 := Lib.hid hr4
        have HB4 := Lib.hid hb4
        clear hr4 hb4 hg4 hat4
        go_wp2_with fail
        go_roundg gk
        case measure => omega
        case rel => exact ⟨i + 1, outs ++ [T], ⟨#[]⟩, by have := HKI.out; omega, rfl, rfl, HR4, HQ2, Lib.hid ⟨by simp [ByteArray.size], by have := HZ.out.2; simp; omega⟩, HB4⟩
      have n10 : ¬ (c.toNat : Int) = 10 := fun h => h10 (UInt8.toNat_inj.1 (by show c.toNat = 10; omega))
      have HQ2 := Lib.hid (show outs.map bl ++ lgo (bl T2) ((bl s).drop (i + 1)) = pieces (bl s) by
        have := HQ.out
        rw [hst, if_neg h10, ← HT2.out] at this
        exact this)
      clear hst h10
      go_wp2_with fail
      go_roundg gk
      case measure => omega
      case rel => exact ⟨i + 1, outs, T2, by have := HKI.out; omega, rfl, rfl, P, HQ2, HZ2, HBW⟩
end Go.Proofs.YtjcdpccfhpbccaaGreatDoor
namespace Go.Proofs.YtjcdpccfhpbccaaGreatDoor
open Go.RowKit Go.Proofs.YtjcdpccfhpbccaaGreatDoorW.PrintWords

def h6 (k : Int) : ByteArray := if k = 1 then ⟨#[110]⟩ else if k = 2 then ⟨#[120]⟩ else if k = 3 then ⟨#[120]⟩ else if k = 4 then ⟨#[105, 116, 97]⟩ else if k = 5 then ⟨#[105]⟩ else if k = 6 then ⟨#[105, 110, 120]⟩ else if k = 7 then ⟨#[105, 110]⟩ else if k = 8 then ⟨#[105, 120]⟩ else ⟨#[]⟩
set_option maxRecDepth 100000 in
theorem has6_any (k : Int) (w : World) : Calls Tryz.prog 75 #[.int .i64 k] w fun e w' => e = .returned (.string (h6 k)) ∧ w' = w := by
  by_cases h1 : k = 1
  · subst h1
    go_enter Tryz.func75, Tryz.ntmps75
    go_wp2_with fail
    go_ret
    exact ⟨rfl, rfl⟩
  by_cases h2 : k = 2
  · subst h2
    go_enter Tryz.func75, Tryz.ntmps75
    go_wp2_with fail
    go_ret
    exact ⟨rfl, rfl⟩
  by_cases h3 : k = 3
  · subst h3
    go_enter Tryz.func75, Tryz.ntmps75
    go_wp2_with fail
    go_ret
    exact ⟨rfl, rfl⟩
  by_cases h4 : k = 4
  · subst h4
    go_enter Tryz.func75, Tryz.ntmps75
    go_wp2_with fail
    go_ret
    exact ⟨rfl, rfl⟩
  by_cases h5 : k = 5
  · subst h5
    go_enter Tryz.func75, Tryz.ntmps75
    go_wp2_with fail
    go_ret
    exact ⟨rfl, rfl⟩
  by_cases h6' : k = 6
  · subst h6'
    go_enter Tryz.func75, Tryz.ntmps75
    go_wp2_with fail
    go_ret
    exact ⟨rfl, rfl⟩
  by_cases h7 : k = 7
  · subst h7
    go_enter Tryz.func75, Tryz.ntmps75
    go_wp2_with fail
    go_ret
    exact ⟨rfl, rfl⟩
  by_cases h8 : k = 8
  · subst h8
    go_enter Tryz.func75, Tryz.ntmps75
    go_wp2_with fail
    go_ret
    exact ⟨rfl, rfl⟩
  have HH := Lib.hid (show h6 k = ⟨#[]⟩ by simp [h6, h1, h2, h3, h4, h5, h6', h7, h8])
  go_enter Tryz.func75, Tryz.ntmps75
  go_wp2_with fail
  go_ret
  exact ⟨by rw [HH.out]; rfl, rfl⟩
theorem size_nil : (⟨#[]⟩ : ByteArray).size = 0 := rfl
theorem in_at (s : ByteArray) (b : UInt8) (n : Int) (hn : (b.toNat : Int) = n) (hs : s.size ≤ 4294967296) (r : Bool) (hr : (bl s).contains b = r) (w : World) :
    Calls Tryz.prog 84 #[.string s, .int .u8 n] w fun e w' => e = .returned (.bool r) ∧ w' = w := by
  subst hn
  exact in_any s b hs r hr w
set_option maxRecDepth 100000 in
set_option maxHeartbeats 4000000 in
theorem may6_any (k i t a : Int) (nm tx : ByteArray) (hn : nm.size ≤ 9223372036854775807) (ht : tx.size ≤ 9223372036854775807) (w : World) :
    Calls Tryz.prog 70 #[.agg #[.int .i64 k, .int .i64 i, .int .i64 t, .int .i64 a, .string nm, .string tx]] w fun e w' => e = .returned (.bool (mayB k i t a nm tx)) ∧ Below w.heap.size w w' := by
  have HB := Lib.hid (show ∀ o, Below w.heap.size w (w.alloc o) from fun o => (Below.refl _ _).alloc (Nat.le_refl _) o)
  clear hn ht
  by_cases hk1 : k = 1
  · subst hk1
    go_enter Tryz.func70, Tryz.ntmps70
    go_wp2_with fail
    refine (has6_any 1 _).mono ?_
    rintro e w1 ⟨rfl, rfl⟩
    rw [show h6 1 = ⟨#[110]⟩ from rfl]
    go_wp2_with fail
    refine (in_at ⟨#[110]⟩ 105 105 rfl (by decide) false rfl _).mono ?_
    rintro e w2 ⟨rfl, rfl⟩
    by_cases qi : i = 0
    rotate_left
    · have HV := Lib.hid (show mayB 1 i t a nm tx = false by simp [mayB, zer, emp, shNum, shName, shText, size_nil, qi])
      have e1 : (i == 0) = false := beq_eq_false_iff_ne.2 qi
      clear qi
      go_wp2_with fail
      go_ret
      exact ⟨by rw [HV.out]; rfl, HB.out _⟩
    subst qi
    go_wp2_with fail
    refine (in_at ⟨#[110]⟩ 116 116 rfl (by decide) false rfl _).mono ?_
    rintro e w3 ⟨rfl, rfl⟩
    by_cases qt : t = 0
    rotate_left
    · have HV := Lib.hid (show mayB 1 0 t a nm tx = false by simp [mayB, zer, emp, shNum, shName, shText, size_nil, qt])
      have e1 : (t == 0) = false := beq_eq_false_iff_ne.2 qt
      clear qt
      go_wp2_with fail
      go_ret
      exact ⟨by rw [HV.out]; rfl, HB.out _⟩
    subst qt
    go_wp2_with fail
    refine (in_at ⟨#[110]⟩ 97 97 rfl (by decide) false rfl _).mono ?_
    rintro e w4 ⟨rfl, rfl⟩
    by_cases qa : a = 0
    rotate_left
    · have HV := Lib.hid (show mayB 1 0 0 a nm tx = false by simp [mayB, zer, emp, shNum, shName, shText, size_nil, qa])
      have e1 : (a == 0) = false := beq_eq_false_iff_ne.2 qa
      clear qa
      go_wp2_with fail
      go_ret
      exact ⟨by rw [HV.out]; rfl, HB.out _⟩
    subst qa
    go_wp2_with fail
    refine (in_at ⟨#[110]⟩ 110 110 rfl (by decide) true rfl _).mono ?_
    rintro e w5 ⟨rfl, rfl⟩
    go_wp2_with fail
    refine (in_at ⟨#[110]⟩ 120 120 rfl (by decide) false rfl _).mono ?_
    rintro e w6 ⟨rfl, rfl⟩
    by_cases qtx : bl tx = []
    rotate_left
    · obtain ⟨e1, e2⟩ := empty_facts qtx
      have HV := Lib.hid (show mayB 1 0 0 0 nm tx = false by
        have e3 : ¬ tx.toList = [] := fun h => by rw [h] at e1; simp at e1
        simp [mayB, zer, emp, shNum, shName, shText, size_nil, e3])
      clear qtx
      go_wp2_with fail
      go_ret
      exact ⟨by rw [HV.out]; rfl, HB.out _⟩
    obtain rfl : tx = ⟨#[]⟩ := mk_of qtx
    by_cases l1 : (nm.size : Int) ≤ 255
    rotate_left
    · have HV := Lib.hid (show mayB 1 0 0 0 nm ⟨#[]⟩ = false by
        have e3 : ¬ nm.size ≤ 255 := by omega
        simp [mayB, zer, emp, shNum, shName, shText, size_nil, e3])
      have e4 : decide ((nm.size : Int) ≤ 255) = false := decide_eq_false l1
      clear l1
      go_wp2_with fail
      go_ret
      exact ⟨by rw [HV.out]; rfl, HB.out _⟩
    have el1 : decide ((nm.size : Int) ≤ 255) = true := decide_eq_true l1
    have nl1 : nm.size ≤ 255 := by omega
    clear l1
    have HV := Lib.hid (show mayB 1 0 0 0 nm ⟨#[]⟩ = true by simp [mayB, zer, emp, shNum, shName, shText, size_nil, nl1])
    go_wp2_with fail
    go_ret
    exact ⟨by rw [HV.out]; rfl, HB.out _⟩
  by_cases hk2 : k = 2
  · subst hk2
    go_enter Tryz.func70, Tryz.ntmps70
    go_wp2_with fail
    refine (has6_any 2 _).mono ?_
    rintro e w1 ⟨rfl, rfl⟩
    rw [show h6 2 = ⟨#[120]⟩ from rfl]
    go_wp2_with fail
    refine (in_at ⟨#[120]⟩ 105 105 rfl (by decide) false rfl _).mono ?_
    rintro e w2 ⟨rfl, rfl⟩
    by_cases qi : i = 0
    rotate_left
    · have HV := Lib.hid (show mayB 2 i t a nm tx = false by simp [mayB, zer, emp, shNum, shName, shText, size_nil, qi])
      have e1 : (i == 0) = false := beq_eq_false_iff_ne.2 qi
      clear qi
      go_wp2_with fail
      go_ret
      exact ⟨by rw [HV.out]; rfl, HB.out _⟩
    subst qi
    go_wp2_with fail
    refine (in_at ⟨#[120]⟩ 116 116 rfl (by decide) false rfl _).mono ?_
    rintro e w3 ⟨rfl, rfl⟩
    by_cases qt : t = 0
    rotate_left
    · have HV := Lib.hid (show mayB 2 0 t a nm tx = false by simp [mayB, zer, emp, shNum, shName, shText, size_nil, qt])
      have e1 : (t == 0) = false := beq_eq_false_iff_ne.2 qt
      clear qt
      go_wp2_with fail
      go_ret
      exact ⟨by rw [HV.out]; rfl, HB.out _⟩
    subst qt
    go_wp2_with fail
    refine (in_at ⟨#[120]⟩ 97 97 rfl (by decide) false rfl _).mono ?_
    rintro e w4 ⟨rfl, rfl⟩
    by_cases qa : a = 0
    rotate_left
    · have HV := Lib.hid (show mayB 2 0 0 a nm tx = false by simp [mayB, zer, emp, shNum, shName, shText, size_nil, qa])
      have e1 : (a == 0) = false := beq_eq_false_iff_ne.2 qa
      clear qa
      go_wp2_with fail
      go_ret
      exact ⟨by rw [HV.out]; rfl, HB.out _⟩
    subst qa
    go_wp2_with fail
    refine (in_at ⟨#[120]⟩ 110 110 rfl (by decide) false rfl _).mono ?_
    rintro e w5 ⟨rfl, rfl⟩
    by_cases qnm : bl nm = []
    rotate_left
    · obtain ⟨e1, e2⟩ := empty_facts qnm
      have HV := Lib.hid (show mayB 2 0 0 0 nm tx = false by
        have e3 : ¬ nm.toList = [] := fun h => by rw [h] at e1; simp at e1
        simp [mayB, zer, emp, shNum, shName, shText, size_nil, e3])
      clear qnm
      go_wp2_with fail
      go_ret
      exact ⟨by rw [HV.out]; rfl, HB.out _⟩
    obtain rfl : nm = ⟨#[]⟩ := mk_of qnm
    go_wp2_with fail
    refine (in_at ⟨#[120]⟩ 120 120 rfl (by decide) true rfl _).mono ?_
    rintro e w6 ⟨rfl, rfl⟩
    by_cases l2 : (tx.size : Int) ≤ 255
    rotate_left
    · have HV := Lib.hid (show mayB 2 0 0 0 ⟨#[]⟩ tx = false by
        have e3 : ¬ tx.size ≤ 255 := by omega
        simp [mayB, zer, emp, shNum, shName, shText, size_nil, e3])
      have e4 : decide ((tx.size : Int) ≤ 255) = false := decide_eq_false l2
      clear l2
      go_wp2_with fail
      go_ret
      exact ⟨by rw [HV.out]; rfl, HB.out _⟩
    have el2 : decide ((tx.size : Int) ≤ 255) = true := decide_eq_true l2
    have nl2 : tx.size ≤ 255 := by omega
    clear l2
    have HV := Lib.hid (show mayB 2 0 0 0 ⟨#[]⟩ tx = true by simp [mayB, zer, emp, shNum, shName, shText, size_nil, nl2])
    go_wp2_with fail
    go_ret
    exact ⟨by rw [HV.out]; rfl, HB.out _⟩
  by_cases hk3 : k = 3
  · subst hk3
    go_enter Tryz.func70, Tryz.ntmps70
    go_wp2_with fail
    refine (has6_any 3 _).mono ?_
    rintro e w1 ⟨rfl, rfl⟩
    rw [show h6 3 = ⟨#[120]⟩ from rfl]
    go_wp2_with fail
    refine (in_at ⟨#[120]⟩ 105 105 rfl (by decide) false rfl _).mono ?_
    rintro e w2 ⟨rfl, rfl⟩
    by_cases qi : i = 0
    rotate_left
    · have HV := Lib.hid (show mayB 3 i t a nm tx = false by simp [mayB, zer, emp, shNum, shName, shText, size_nil, qi])
      have e1 : (i == 0) = false := beq_eq_false_iff_ne.2 qi
      clear qi
      go_wp2_with fail
      go_ret
      exact ⟨by rw [HV.out]; rfl, HB.out _⟩
    subst qi
    go_wp2_with fail
    refine (in_at ⟨#[120]⟩ 116 116 rfl (by decide) false rfl _).mono ?_
    rintro e w3 ⟨rfl, rfl⟩
    by_cases qt : t = 0
    rotate_left
    · have HV := Lib.hid (show mayB 3 0 t a nm tx = false by simp [mayB, zer, emp, shNum, shName, shText, size_nil, qt])
      have e1 : (t == 0) = false := beq_eq_false_iff_ne.2 qt
      clear qt
      go_wp2_with fail
      go_ret
      exact ⟨by rw [HV.out]; rfl, HB.out _⟩
    subst qt
    go_wp2_with fail
    refine (in_at ⟨#[120]⟩ 97 97 rfl (by decide) false rfl _).mono ?_
    rintro e w4 ⟨rfl, rfl⟩
    by_cases qa : a = 0
    rotate_left
    · have HV := Lib.hid (show mayB 3 0 0 a nm tx = false by simp [mayB, zer, emp, shNum, shName, shText, size_nil, qa])
      have e1 : (a == 0) = false := beq_eq_false_iff_ne.2 qa
      clear qa
      go_wp2_with fail
      go_ret
      exact ⟨by rw [HV.out]; rfl, HB.out _⟩
    subst qa
    go_wp2_with fail
    refine (in_at ⟨#[120]⟩ 110 110 rfl (by decide) false rfl _).mono ?_
    rintro e w5 ⟨rfl, rfl⟩
    by_cases qnm : bl nm = []
    rotate_left
    · obtain ⟨e1, e2⟩ := empty_facts qnm
      have HV := Lib.hid (show mayB 3 0 0 0 nm tx = false by
        have e3 : ¬ nm.toList = [] := fun h => by rw [h] at e1; simp at e1
        simp [mayB, zer, emp, shNum, shName, shText, size_nil, e3])
      clear qnm
      go_wp2_with fail
      go_ret
      exact ⟨by rw [HV.out]; rfl, HB.out _⟩
    obtain rfl : nm = ⟨#[]⟩ := mk_of qnm
    go_wp2_with fail
    refine (in_at ⟨#[120]⟩ 120 120 rfl (by decide) true rfl _).mono ?_
    rintro e w6 ⟨rfl, rfl⟩
    by_cases l2 : (tx.size : Int) ≤ 255
    rotate_left
    · have HV := Lib.hid (show mayB 3 0 0 0 ⟨#[]⟩ tx = false by
        have e3 : ¬ tx.size ≤ 255 := by omega
        simp [mayB, zer, emp, shNum, shName, shText, size_nil, e3])
      have e4 : decide ((tx.size : Int) ≤ 255) = false := decide_eq_false l2
      clear l2
      go_wp2_with fail
      go_ret
      exact ⟨by rw [HV.out]; rfl, HB.out _⟩
    have el2 : decide ((tx.size : Int) ≤ 255) = true := decide_eq_true l2
    have nl2 : tx.size ≤ 255 := by omega
    clear l2
    have HV := Lib.hid (show mayB 3 0 0 0 ⟨#[]⟩ tx = true by simp [mayB, zer, emp, shNum, shName, shText, size_nil, nl2])
    go_wp2_with fail
    go_ret
    exact ⟨by rw [HV.out]; rfl, HB.out _⟩
  by_cases hk4 : k = 4
  · subst hk4
    go_enter Tryz.func70, Tryz.ntmps70
    go_wp2_with fail
    refine (has6_any 4 _).mono ?_
    rintro e w1 ⟨rfl, rfl⟩
    rw [show h6 4 = ⟨#[105, 116, 97]⟩ from rfl]
    go_wp2_with fail
    refine (in_at ⟨#[105, 116, 97]⟩ 105 105 rfl (by decide) true rfl _).mono ?_
    rintro e w2 ⟨rfl, rfl⟩
    go_wp2_with fail
    refine (in_at ⟨#[105, 116, 97]⟩ 116 116 rfl (by decide) true rfl _).mono ?_
    rintro e w3 ⟨rfl, rfl⟩
    go_wp2_with fail
    refine (in_at ⟨#[105, 116, 97]⟩ 97 97 rfl (by decide) true rfl _).mono ?_
    rintro e w4 ⟨rfl, rfl⟩
    go_wp2_with fail
    refine (in_at ⟨#[105, 116, 97]⟩ 110 110 rfl (by decide) false rfl _).mono ?_
    rintro e w5 ⟨rfl, rfl⟩
    by_cases qnm : bl nm = []
    rotate_left
    · obtain ⟨e1, e2⟩ := empty_facts qnm
      have HV := Lib.hid (show mayB 4 i t a nm tx = false by
        have e3 : ¬ nm.toList = [] := fun h => by rw [h] at e1; simp at e1
        simp [mayB, zer, emp, shNum, shName, shText, size_nil, e3])
      clear qnm
      go_wp2_with fail
      go_ret
      exact ⟨by rw [HV.out]; rfl, HB.out _⟩
    obtain rfl : nm = ⟨#[]⟩ := mk_of qnm
    go_wp2_with fail
    refine (in_at ⟨#[105, 116, 97]⟩ 120 120 rfl (by decide) false rfl _).mono ?_
    rintro e w6 ⟨rfl, rfl⟩
    by_cases qtx : bl tx = []
    rotate_left
    · obtain ⟨e1, e2⟩ := empty_facts qtx
      have HV := Lib.hid (show mayB 4 i t a ⟨#[]⟩ tx = false by
        have e3 : ¬ tx.toList = [] := fun h => by rw [h] at e1; simp at e1
        simp [mayB, zer, emp, shNum, shName, shText, size_nil, e3])
      clear qtx
      go_wp2_with fail
      go_ret
      exact ⟨by rw [HV.out]; rfl, HB.out _⟩
    obtain rfl : tx = ⟨#[]⟩ := mk_of qtx
    have HV := Lib.hid (show mayB 4 i t a ⟨#[]⟩ ⟨#[]⟩ = true by simp [mayB, zer, emp, shNum, shName, shText, size_nil])
    go_wp2_with fail
    go_ret
    exact ⟨by rw [HV.out]; rfl, HB.out _⟩
  by_cases hk5 : k = 5
  · subst hk5
    go_enter Tryz.func70, Tryz.ntmps70
    go_wp2_with fail
    refine (has6_any 5 _).mono ?_
    rintro e w1 ⟨rfl, rfl⟩
    rw [show h6 5 = ⟨#[105]⟩ from rfl]
    go_wp2_with fail
    refine (in_at ⟨#[105]⟩ 105 105 rfl (by decide) true rfl _).mono ?_
    rintro e w2 ⟨rfl, rfl⟩
    go_wp2_with fail
    refine (in_at ⟨#[105]⟩ 116 116 rfl (by decide) false rfl _).mono ?_
    rintro e w3 ⟨rfl, rfl⟩
    by_cases qt : t = 0
    rotate_left
    · have HV := Lib.hid (show mayB 5 i t a nm tx = false by simp [mayB, zer, emp, shNum, shName, shText, size_nil, qt])
      have e1 : (t == 0) = false := beq_eq_false_iff_ne.2 qt
      clear qt
      go_wp2_with fail
      go_ret
      exact ⟨by rw [HV.out]; rfl, HB.out _⟩
    subst qt
    go_wp2_with fail
    refine (in_at ⟨#[105]⟩ 97 97 rfl (by decide) false rfl _).mono ?_
    rintro e w4 ⟨rfl, rfl⟩
    by_cases qa : a = 0
    rotate_left
    · have HV := Lib.hid (show mayB 5 i 0 a nm tx = false by simp [mayB, zer, emp, shNum, shName, shText, size_nil, qa])
      have e1 : (a == 0) = false := beq_eq_false_iff_ne.2 qa
      clear qa
      go_wp2_with fail
      go_ret
      exact ⟨by rw [HV.out]; rfl, HB.out _⟩
    subst qa
    go_wp2_with fail
    refine (in_at ⟨#[105]⟩ 110 110 rfl (by decide) false rfl _).mono ?_
    rintro e w5 ⟨rfl, rfl⟩
    by_cases qnm : bl nm = []
    rotate_left
    · obtain ⟨e1, e2⟩ := empty_facts qnm
      have HV := Lib.hid (show mayB 5 i 0 0 nm tx = false by
        have e3 : ¬ nm.toList = [] := fun h => by rw [h] at e1; simp at e1
        simp [mayB, zer, emp, shNum, shName, shText, size_nil, e3])
      clear qnm
      go_wp2_with fail
      go_ret
      exact ⟨by rw [HV.out]; rfl, HB.out _⟩
    obtain rfl : nm = ⟨#[]⟩ := mk_of qnm
    go_wp2_with fail
    refine (in_at ⟨#[105]⟩ 120 120 rfl (by decide) false rfl _).mono ?_
    rintro e w6 ⟨rfl, rfl⟩
    by_cases qtx : bl tx = []
    rotate_left
    · obtain ⟨e1, e2⟩ := empty_facts qtx
      have HV := Lib.hid (show mayB 5 i 0 0 ⟨#[]⟩ tx = false by
        have e3 : ¬ tx.toList = [] := fun h => by rw [h] at e1; simp at e1
        simp [mayB, zer, emp, shNum, shName, shText, size_nil, e3])
      clear qtx
      go_wp2_with fail
      go_ret
      exact ⟨by rw [HV.out]; rfl, HB.out _⟩
    obtain rfl : tx = ⟨#[]⟩ := mk_of qtx
    have HV := Lib.hid (show mayB 5 i 0 0 ⟨#[]⟩ ⟨#[]⟩ = true by simp [mayB, zer, emp, shNum, shName, shText, size_nil])
    go_wp2_with fail
    go_ret
    exact ⟨by rw [HV.out]; rfl, HB.out _⟩
  by_cases hk6 : k = 6
  · subst hk6
    go_enter Tryz.func70, Tryz.ntmps70
    go_wp2_with fail
    refine (has6_any 6 _).mono ?_
    rintro e w1 ⟨rfl, rfl⟩
    rw [show h6 6 = ⟨#[105, 110, 120]⟩ from rfl]
    go_wp2_with fail
    refine (in_at ⟨#[105, 110, 120]⟩ 105 105 rfl (by decide) true rfl _).mono ?_
    rintro e w2 ⟨rfl, rfl⟩
    go_wp2_with fail
    refine (in_at ⟨#[105, 110, 120]⟩ 116 116 rfl (by decide) false rfl _).mono ?_
    rintro e w3 ⟨rfl, rfl⟩
    by_cases qt : t = 0
    rotate_left
    · have HV := Lib.hid (show mayB 6 i t a nm tx = false by simp [mayB, zer, emp, shNum, shName, shText, size_nil, qt])
      have e1 : (t == 0) = false := beq_eq_false_iff_ne.2 qt
      clear qt
      go_wp2_with fail
      go_ret
      exact ⟨by rw [HV.out]; rfl, HB.out _⟩
    subst qt
    go_wp2_with fail
    refine (in_at ⟨#[105, 110, 120]⟩ 97 97 rfl (by decide) false rfl _).mono ?_
    rintro e w4 ⟨rfl, rfl⟩
    by_cases qa : a = 0
    rotate_left
    · have HV := Lib.hid (show mayB 6 i 0 a nm tx = false by simp [mayB, zer, emp, shNum, shName, shText, size_nil, qa])
      have e1 : (a == 0) = false := beq_eq_false_iff_ne.2 qa
      clear qa
      go_wp2_with fail
      go_ret
      exact ⟨by rw [HV.out]; rfl, HB.out _⟩
    subst qa
    go_wp2_with fail
    refine (in_at ⟨#[105, 110, 120]⟩ 110 110 rfl (by decide) true rfl _).mono ?_
    rintro e w5 ⟨rfl, rfl⟩
    go_wp2_with fail
    refine (in_at ⟨#[105, 110, 120]⟩ 120 120 rfl (by decide) true rfl _).mono ?_
    rintro e w6 ⟨rfl, rfl⟩
    by_cases l1 : (nm.size : Int) ≤ 255
    rotate_left
    · have HV := Lib.hid (show mayB 6 i 0 0 nm tx = false by
        have e3 : ¬ nm.size ≤ 255 := by omega
        simp [mayB, zer, emp, shNum, shName, shText, size_nil, e3])
      have e4 : decide ((nm.size : Int) ≤ 255) = false := decide_eq_false l1
      clear l1
      go_wp2_with fail
      go_ret
      exact ⟨by rw [HV.out]; rfl, HB.out _⟩
    have el1 : decide ((nm.size : Int) ≤ 255) = true := decide_eq_true l1
    have nl1 : nm.size ≤ 255 := by omega
    clear l1
    by_cases l2 : (tx.size : Int) ≤ 255
    rotate_left
    · have HV := Lib.hid (show mayB 6 i 0 0 nm tx = false by
        have e3 : ¬ tx.size ≤ 255 := by omega
        simp [mayB, zer, emp, shNum, shName, shText, size_nil, e3])
      have e4 : decide ((tx.size : Int) ≤ 255) = false := decide_eq_false l2
      clear l2
      go_wp2_with fail
      go_ret
      exact ⟨by rw [HV.out]; rfl, HB.out _⟩
    have el2 : decide ((tx.size : Int) ≤ 255) = true := decide_eq_true l2
    have nl2 : tx.size ≤ 255 := by omega
    clear l2
    have HV := Lib.hid (show mayB 6 i 0 0 nm tx = true by simp [mayB, zer, emp, shNum, shName, shText, size_nil, nl1, nl2])
    go_wp2_with fail
    go_ret
    exact ⟨by rw [HV.out]; rfl, HB.out _⟩
  by_cases hk7 : k = 7
  · subst hk7
    go_enter Tryz.func70, Tryz.ntmps70
    go_wp2_with fail
    refine (has6_any 7 _).mono ?_
    rintro e w1 ⟨rfl, rfl⟩
    rw [show h6 7 = ⟨#[105, 110]⟩ from rfl]
    go_wp2_with fail
    refine (in_at ⟨#[105, 110]⟩ 105 105 rfl (by decide) true rfl _).mono ?_
    rintro e w2 ⟨rfl, rfl⟩
    go_wp2_with fail
    refine (in_at ⟨#[105, 110]⟩ 116 116 rfl (by decide) false rfl _).mono ?_
    rintro e w3 ⟨rfl, rfl⟩
    by_cases qt : t = 0
    rotate_left
    · have HV := Lib.hid (show mayB 7 i t a nm tx = false by simp [mayB, zer, emp, shNum, shName, shText, size_nil, qt])
      have e1 : (t == 0) = false := beq_eq_false_iff_ne.2 qt
      clear qt
      go_wp2_with fail
      go_ret
      exact ⟨by rw [HV.out]; rfl, HB.out _⟩
    subst qt
    go_wp2_with fail
    refine (in_at ⟨#[105, 110]⟩ 97 97 rfl (by decide) false rfl _).mono ?_
    rintro e w4 ⟨rfl, rfl⟩
    by_cases qa : a = 0
    rotate_left
    · have HV := Lib.hid (show mayB 7 i 0 a nm tx = false by simp [mayB, zer, emp, shNum, shName, shText, size_nil, qa])
      have e1 : (a == 0) = false := beq_eq_false_iff_ne.2 qa
      clear qa
      go_wp2_with fail
      go_ret
      exact ⟨by rw [HV.out]; rfl, HB.out _⟩
    subst qa
    go_wp2_with fail
    refine (in_at ⟨#[105, 110]⟩ 110 110 rfl (by decide) true rfl _).mono ?_
    rintro e w5 ⟨rfl, rfl⟩
    go_wp2_with fail
    refine (in_at ⟨#[105, 110]⟩ 120 120 rfl (by decide) false rfl _).mono ?_
    rintro e w6 ⟨rfl, rfl⟩
    by_cases qtx : bl tx = []
    rotate_left
    · obtain ⟨e1, e2⟩ := empty_facts qtx
      have HV := Lib.hid (show mayB 7 i 0 0 nm tx = false by
        have e3 : ¬ tx.toList = [] := fun h => by rw [h] at e1; simp at e1
        simp [mayB, zer, emp, shNum, shName, shText, size_nil, e3])
      clear qtx
      go_wp2_with fail
      go_ret
      exact ⟨by rw [HV.out]; rfl, HB.out _⟩
    obtain rfl : tx = ⟨#[]⟩ := mk_of qtx
    by_cases l1 : (nm.size : Int) ≤ 255
    rotate_left
    · have HV := Lib.hid (show mayB 7 i 0 0 nm ⟨#[]⟩ = false by
        have e3 : ¬ nm.size ≤ 255 := by omega
        simp [mayB, zer, emp, shNum, shName, shText, size_nil, e3])
      have e4 : decide ((nm.size : Int) ≤ 255) = false := decide_eq_false l1
      clear l1
      go_wp2_with fail
      go_ret
      exact ⟨by rw [HV.out]; rfl, HB.out _⟩
    have el1 : decide ((nm.size : Int) ≤ 255) = true := decide_eq_true l1
    have nl1 : nm.size ≤ 255 := by omega
    clear l1
    have HV := Lib.hid (show mayB 7 i 0 0 nm ⟨#[]⟩ = true by simp [mayB, zer, emp, shNum, shName, shText, size_nil, nl1])
    go_wp2_with fail
    go_ret
    exact ⟨by rw [HV.out]; rfl, HB.out _⟩
  by_cases hk8 : k = 8
  · subst hk8
    go_enter Tryz.func70, Tryz.ntmps70
    go_wp2_with fail
    refine (has6_any 8 _).mono ?_
    rintro e w1 ⟨rfl, rfl⟩
    rw [show h6 8 = ⟨#[105, 120]⟩ from rfl]
    go_wp2_with fail
    refine (in_at ⟨#[105, 120]⟩ 105 105 rfl (by decide) true rfl _).mono ?_
    rintro e w2 ⟨rfl, rfl⟩
    go_wp2_with fail
    refine (in_at ⟨#[105, 120]⟩ 116 116 rfl (by decide) false rfl _).mono ?_
    rintro e w3 ⟨rfl, rfl⟩
    by_cases qt : t = 0
    rotate_left
    · have HV := Lib.hid (show mayB 8 i t a nm tx = false by simp [mayB, zer, emp, shNum, shName, shText, size_nil, qt])
      have e1 : (t == 0) = false := beq_eq_false_iff_ne.2 qt
      clear qt
      go_wp2_with fail
      go_ret
      exact ⟨by rw [HV.out]; rfl, HB.out _⟩
    subst qt
    go_wp2_with fail
    refine (in_at ⟨#[105, 120]⟩ 97 97 rfl (by decide) false rfl _).mono ?_
    rintro e w4 ⟨rfl, rfl⟩
    by_cases qa : a = 0
    rotate_left
    · have HV := Lib.hid (show mayB 8 i 0 a nm tx = false by simp [mayB, zer, emp, shNum, shName, shText, size_nil, qa])
      have e1 : (a == 0) = false := beq_eq_false_iff_ne.2 qa
      clear qa
      go_wp2_with fail
      go_ret
      exact ⟨by rw [HV.out]; rfl, HB.out _⟩
    subst qa
    go_wp2_with fail
    refine (in_at ⟨#[105, 120]⟩ 110 110 rfl (by decide) false rfl _).mono ?_
    rintro e w5 ⟨rfl, rfl⟩
    by_cases qnm : bl nm = []
    rotate_left
    · obtain ⟨e1, e2⟩ := empty_facts qnm
      have HV := Lib.hid (show mayB 8 i 0 0 nm tx = false by
        have e3 : ¬ nm.toList = [] := fun h => by rw [h] at e1; simp at e1
        simp [mayB, zer, emp, shNum, shName, shText, size_nil, e3])
      clear qnm
      go_wp2_with fail
      go_ret
      exact ⟨by rw [HV.out]; rfl, HB.out _⟩
    obtain rfl : nm = ⟨#[]⟩ := mk_of qnm
    go_wp2_with fail
    refine (in_at ⟨#[105, 120]⟩ 120 120 rfl (by decide) true rfl _).mono ?_
    rintro e w6 ⟨rfl, rfl⟩
    by_cases l2 : (tx.size : Int) ≤ 255
    rotate_left
    · have HV := Lib.hid (show mayB 8 i 0 0 ⟨#[]⟩ tx = false by
        have e3 : ¬ tx.size ≤ 255 := by omega
        simp [mayB, zer, emp, shNum, shName, shText, size_nil, e3])
      have e4 : decide ((tx.size : Int) ≤ 255) = false := decide_eq_false l2
      clear l2
      go_wp2_with fail
      go_ret
      exact ⟨by rw [HV.out]; rfl, HB.out _⟩
    have el2 : decide ((tx.size : Int) ≤ 255) = true := decide_eq_true l2
    have nl2 : tx.size ≤ 255 := by omega
    clear l2
    have HV := Lib.hid (show mayB 8 i 0 0 ⟨#[]⟩ tx = true by simp [mayB, zer, emp, shNum, shName, shText, size_nil, nl2])
    go_wp2_with fail
    go_ret
    exact ⟨by rw [HV.out]; rfl, HB.out _⟩
  have HH := Lib.hid (show h6 k = ⟨#[]⟩ by simp [h6, hk1, hk2, hk3, hk4, hk5, hk6, hk7, hk8])
  have HV := Lib.hid (show mayB k i t a nm tx = false by
    have : ¬ (1 ≤ k ∧ k ≤ 8) := by omega
    simp [mayB, this])
  clear hk1 hk2 hk3 hk4 hk5 hk6 hk7 hk8
  go_enter Tryz.func70, Tryz.ntmps70
  go_wp2_with fail
  refine (has6_any k _).mono ?_
  rintro e w1 ⟨rfl, rfl⟩
  rw [HH.out]
  go_wp2_with fail
  go_ret
  exact ⟨by rw [HV.out]; rfl, HB.out _⟩
end Go.Proofs.YtjcdpccfhpbccaaGreatDoor
