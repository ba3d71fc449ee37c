/-
  The walk of ScriptLines.
-/
import Derived.Test.YtjcdpccfhpbccaaDoorH1
import Derived.Test.YtjcdpccfhpbccaaDoorL0
namespace Go.Proofs.YtjcdpccfhpbccaaDoor
open Go.RowKit Go.Proofs.YtjcdpccfhpbccaaDoorW.PrintWords

theorem idx_str (t : ByteArray) (i : Nat) (c : UInt8) (h : (bl t)[i]? = some c) (w : World) :
    (Instr.index 9 (.string t) (.int .i64 i)).run Tryd.prog w = .ok (.int .u8 c.toNat) w := by
  obtain ⟨hlt, he⟩ := List.getElem?_eq_some_iff.1 h
  have hi : i < t.size := by rw [size_bl]; exact hlt
  rw [run_index_string w 9 t .i64 i Tryd.underlying9, dif_pos ⟨by omega, by omega⟩]
  have e1 : t[(i : Int).toNat]'(by rw [Int.toNat_natCast]; exact hi) = c := by
    rw [← he]
    rfl
  rw [e1]
theorem count_step {l : List UInt8} {i : Nat} {c : UInt8} (h : l[i]? = some c) : (l.take (i + 1)).count 10 = (l.take i).count 10 + (if c = 10 then 1 else 0) := by
  rw [List.take_add_one, h, List.count_append]
  congr 1
  by_cases hc : c = 10
  · subst hc; simp
  · simp [hc]
theorem parse_err_at (T : ByteArray) (hs : T.size ≤ 4294967280) (m : Nat) (h : pParse (pieces (bl T)) = .error m) (w : World) (hG : Glob w) :
    Calls Tryd.prog 8 #[.string T] w fun e w' => e = .returned (.tuple #[.agg #[.int .i64 0, .int .i64 0, .int .i64 0, .int .i64 0, .slice none 0 0, .slice none 0 0], .int .i64 m, .int .i64 210]) ∧ Below w.heap.size w w' := by
  refine (parse_any T hs w hG _ h).mono ?_
  rintro e w1 ⟨rfl, hb1⟩
  exact ⟨rfl, hb1⟩
set_option maxRecDepth 100000 in
set_option maxHeartbeats 4000000 in
theorem lines_walk (t : ByteArray) (ht : t.size ≤ 4294967280) (w : World) (hG : Glob w) :
    Calls Tryd.prog 4 #[.string t] w fun e w' => e = .returned (.bool true) ∧ Below w.heap.size w w' := by
  have HG := Lib.hid hG
  have HT := Lib.hid ht
  clear hG ht
  go_enter Tryd.func4, Tryd.ntmps4
  go_wp2_with fail
  refine (parse_any t HT.out w HG.out _ rfl).mono ?_
  intro e w1 h1
  obtain ⟨cs, im, er, rfl, hcs, HRES⟩ : ∃ (cs : Array Value) (im er : Int), e = .returned (.tuple #[.agg cs, .int .i64 im, .int .i64 er]) ∧ (∃ a b c d A3 n3 k3 A4 n4 k4, cs = scCells a b c d (.slice A3 n3 k3) (.slice A4 n4 k4) ∧ (er ≠ 0 → n3 = 0)) ∧ Hid ((∃ m : Nat, pParse (pieces (bl t)) = .error m ∧ im = m ∧ er = 210) ∨ ((∃ s, pParse (pieces (bl t)) = .ok s) ∧ im = 0 ∧ er = 0)) := by
    cases hp : pParse (pieces (bl t)) with
    | error m =>
      rw [hp] at h1
      obtain ⟨rfl, _⟩ := h1
      exact ⟨_, _, _, rfl, ⟨0, 0, 0, 0, none, 0, 0, none, 0, 0, rfl, fun _ => rfl⟩, Lib.hid (.inl ⟨m, rfl, rfl, rfl⟩)⟩
    | ok x =>
      rw [hp] at h1
      obtain ⟨vc, vp, rfl, hvc, hvp, _⟩ := h1
      obtain ⟨A3, k3, rfl⟩ := Kd.R_slice hvc
      obtain ⟨A4, k4, rfl⟩ := Kd.R_slice hvp
      exact ⟨_, _, _, rfl, ⟨_, _, _, _, _, _, _, _, _, _, rfl, fun h => absurd rfl h⟩, Lib.hid (.inr ⟨⟨x, rfl⟩, rfl, rfl⟩)⟩
  have HB1 : Hid (Below w.heap.size w w1) := Lib.hid (by
    cases hp : pParse (pieces (bl t)) with
    | error m => rw [hp] at h1; exact h1.2
    | ok x => rw [hp] at h1; obtain ⟨_, _, _, _, _, hb⟩ := h1; exact hb)
  obtain ⟨a, b, c, d, A3, n3, k3, A4, n4, k4, rfl, hn3⟩ := hcs
  have HN3 := Lib.hid hn3
  clear h1 hn3
  unfold scCells
  by_cases hl : 600 < (t.size : Int)
  · go_wp2_with fail
    generalize hW : World.alloc w1 _ = w2
    have HB2 := Lib.hid (show Below w.heap.size w w2 by rw [← hW]; exact HB1.out.alloc HB1.out.size _)
    clear hW
    refine (shown_any w2 (HG.out.below HB2.out)).mono ?_
    rintro e w3 ⟨rfl, hb3⟩
    have HB3 := Lib.hid (HB2.out.trans (hb3.mono HB2.out.size))
    clear hb3
    go_wp2_with fail
    go_ret
    exact ⟨rfl, HB3.out⟩
  go_wp2_with fail
  generalize hW : World.alloc w1 _ = w2
  obtain ⟨b2, hb2⟩ : ∃ b, w1.heap.size = b := ⟨_, rfl⟩
  have HX := Lib.hid (show w2.heap[b2]? = some (.cells (scCells a b c d (.slice A3 n3 k3) (.slice A4 n4 k4)) 27 (0, 0)) from by rw [← hW, ← hb2]; exact alloc_new _ _)
  have HB2 := Lib.hid (show Below w.heap.size w w2 by rw [← hW]; exact HB1.out.alloc HB1.out.size _)
  rw [hb2]
  clear hW hb2
  refine (shown_any w2 (HG.out.below HB2.out)).mono ?_
  rintro e w3 ⟨rfl, hb3⟩
  have HB3 := Lib.hid (HB2.out.trans (hb3.mono HB2.out.size))
  have HX3 := Lib.hid ((hb3.block _ (lt_of_block HX.out)).trans HX.out)
  clear hb3
  have HLT := Lib.hid hl
  clear hl
  go_wp2_with fail
  go_loopg [6, 7] t.size (fun k s6 s7 wr => ∃ (i : Nat), k + i = t.size ∧ s7 = .int .i64 i ∧ s6 = .int .i64 (((bl t).take i).count 10 : Nat) ∧ Hid (Below w3.heap.size w3 wr))
  case atStart => exact ⟨0, by omega, rfl, rfl, Lib.hid (Below.refl _ _)⟩
  case round =>
    obtain ⟨i, hki, rfl, rfl, P⟩ := hrel
    have HBW := Lib.hid (HB3.out.trans (P.out.mono HB3.out.size))
    cases gk with
    | succ gk =>
      have hlt : (i : Int) < (t.size : Int) := by omega
      obtain ⟨ch, hch⟩ : ∃ ch, (bl t)[i]? = some ch := ⟨_, List.getElem?_eq_getElem (by rw [← size_bl]; omega)⟩
      have hidx := idx_str t i ch hch
      have hst := count_step hch
      have hle := List.count_le_length (a := (10 : UInt8)) (l := (bl t).take i)
      rw [List.length_take] at hle
      obtain ⟨n, hn⟩ : ∃ n : Nat, ((bl t).take i).count 10 = n := ⟨_, rfl⟩
      have q9 : IntKind.i64.wrap ((i : Int) + 1) = (i : Int) + 1 := wrap_next (by have := HLT.out; omega)
      have q10 : IntKind.i64.wrap ((n : Int) + 1) = (n : Int) + 1 := wrap_next (by have := HLT.out; omega)
      rw [hn] at hst ⊢
      clear hle hn
      by_cases hc : ch = 10
      · rw [if_pos hc] at hst
        have hc1 : ((ch.toNat : Int) == 10) = true := by rw [hc]; rfl
        have HST := Lib.hid hst
        clear hst hch hc
        go_wp2_with fail
        go_roundg gk
        case measure => omega
        case rel => exact ⟨i + 1, by omega, rfl, by rw [HST.out]; rfl, P⟩
      · rw [if_neg hc] at hst
        have hc1 : ((ch.toNat : Int) == 10) = false := by
          refine beq_eq_false_iff_ne.2 (fun h => hc (UInt8.toNat_inj.1 ?_))
          have : ch.toNat = 10 := by omega
          rw [this]
          rfl
        have HST := Lib.hid hst
        clear hst hch hc
        go_wp2_with fail
        go_roundg gk
        case measure => omega
        case rel => exact ⟨i + 1, by omega, rfl, by rw [HST.out]; rfl, P⟩
    | zero =>
      have hlt : ¬ (i : Int) < (t.size : Int) := by omega
      obtain ⟨n, hn⟩ : ∃ n : Nat, (bl t).count 10 = n := ⟨_, rfl⟩
      have e1 : ((bl t).take i).count 10 = n := by rw [List.take_of_length_le (by rw [← size_bl]; omega)]; exact hn
      rw [e1]
      have HN := Lib.hid hn
      clear e1 hn
      have HXW := Lib.hid ((P.out.block _ (lt_of_block HX3.out)).trans HX3.out)
      rcases HRES.out with ⟨m, hp, rfl, rfl⟩ | ⟨⟨s, hp⟩, rfl, rfl⟩
      · have hm := pParse_err hp
        rw [HN.out] at hm
        have y4 := cell_blk HXW.out 4 (v := .slice A3 n3 k3) rfl
        have hz : n3 = 0 := HN3.out (by decide)
        subst hz
        have g1 : ¬ (m : Int) < 0 := by omega
        have g2 : (m : Int) ≤ (n : Int) := by omega
        clear hp hm
        go_wp2_with fail
        go_ret
        exact ⟨rfl, HBW.out⟩
      · obtain ⟨u, hu, hu2⟩ := pParse_ok hp
        have hsz : t.size = u.length + 1 := by rw [size_bl, hu]; simp
        have p1 := parse_more hp
        have p3 := parse_front (bl t)
        have p2 : pParse (pieces u) = .error (n - 1) := by
          rw [hu] at hp
          have := parse_less hp
          rw [this, ← hu, HN.out]
        have hn1 : 1 ≤ n := by
          rw [← HN.out, hu, List.count_append]
          simp
        rw [HN.out] at p1
        have P1 := Lib.hid p1
        have P2 := Lib.hid p2
        have P3 := Lib.hid p3
        have HU := Lib.hid hu
        obtain ⟨T, hT⟩ : ∃ T : ByteArray, t ++ ⟨#[10]⟩ = T := ⟨_, rfl⟩
        obtain ⟨V, hV⟩ : ∃ V : ByteArray, ⟨#[10]⟩ ++ t = V := ⟨_, rfl⟩
        have HT2 := Lib.hid (show bl T = bl t ++ [10] by rw [← hT, bl_append])
        have HV2 := Lib.hid (show bl V = 10 :: bl t by rw [← hV, bl_append]; rfl)
        have n1 : ¬ 9223372036854775807 < t.size + 1 := by have := HLT.out; omega
        have n2 : ¬ 9223372036854775807 < 1 + t.size := by have := HLT.out; omega
        have q1 : IntKind.i64.wrap ((t.size : Int) - 1) = ((t.size - 1 : Nat) : Int) := by rw [IntKind.wrap_i64]; have := HLT.out; omega
        have hnle : n ≤ t.size := by
          rw [← HN.out, size_bl]
          exact List.count_le_length
        have HQ2 := Lib.hid (show IntKind.i64.wrap ((n : Int) - 1) = ((n - 1 : Nat) : Int) by rw [IntKind.wrap_i64]; have := HLT.out; omega)
        clear p1 p2 p3 hp hu hu2 P HX3 HXW hnle
        go_wp2_with fail
        have TS := Lib.hid (show T.size ≤ 4294967280 by have := HLT.out; rw [size_bl, HT2.out, List.length_append, ← size_bl]; simp; omega)
        have VS := Lib.hid (show V.size ≤ 4294967280 by have := HLT.out; rw [size_bl, HV2.out, List.length_cons, ← size_bl]; omega)
        refine (parse_err_at T TS.out n (by rw [HT2.out]; exact P1.out) wr (HG.out.below HBW.out)).mono ?_
        rintro e w4 ⟨rfl, hb4⟩
        have HB4 := Lib.hid (HBW.out.trans (hb4.mono HBW.out.size))
        clear hb4
        go_wp2_with fail
        generalize hW : World.alloc w4 _ = w5
        have HB5 := Lib.hid (show Below w.heap.size w w5 by rw [← hW]; exact HB4.out.alloc HB4.out.size _)
        clear hW
        have HUX := Lib.hid (show bl (t.extract 0 u.length) = u by
          show (t.extract 0 u.length).data.toList = _
          rw [Lib.extract_data]
          show ((bl t).drop 0).take (u.length - 0) = u
          rw [HU.out]
          simp)
        have US := Lib.hid (show (t.extract 0 u.length).size ≤ 4294967280 by rw [size_bl, HUX.out]; have := HLT.out; omega)
        refine (parse_err_at (t.extract 0 u.length) US.out (n - 1) (by rw [HUX.out]; exact P2.out) w5 (HG.out.below HB5.out)).mono ?_
        rintro e w6 ⟨rfl, hb6⟩
        have HB6 := Lib.hid (HB5.out.trans (hb6.mono HB5.out.size))
        clear hb6
        go_wp2_with fail
        generalize hW : World.alloc w6 _ = w7
        have HB7 := Lib.hid (show Below w.heap.size w w7 by rw [← hW]; exact HB6.out.alloc HB6.out.size _)
        clear hW
        refine (parse_err_at V VS.out 0 (by rw [HV2.out]; exact P3.out) w7 (HG.out.below HB7.out)).mono ?_
        rintro e w8 ⟨rfl, hb8⟩
        have HB8 := Lib.hid (HB7.out.trans (hb8.mono HB7.out.size))
        clear hb8
        have q2 := HQ2.out
        go_wp2_with fail
        generalize hW : World.alloc w8 _ = w9
        have HB9 := Lib.hid (show Below w.heap.size w w9 by rw [← hW]; exact HB8.out.alloc HB8.out.size _)
        clear hW
        go_ret
        exact ⟨rfl, HB9.out⟩
end Go.Proofs.YtjcdpccfhpbccaaDoor
