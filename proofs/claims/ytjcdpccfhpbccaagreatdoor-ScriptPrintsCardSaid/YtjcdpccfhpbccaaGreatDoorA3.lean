/-
  The words of a line as a list; what stands in package-level variables; strconv's two calls.
-/
import Derived.Test.YtjcdpccfhpbccaaGreatDoorA2
import Derived.Test.YtjcdpccfhpbccaaGreatDoorShelf
import Derived.Lib.AtoiAllCases
import Derived.Lib.AppendIntMem
import Derived.Lib.AtoiErrMem
namespace Go.Proofs.YtjcdpccfhpbccaaGreatDoor
open Go.RowKit

theorem bl_mk (l : List UInt8) : bl ⟨l.toArray⟩ = l := rfl
theorem mk_bl (s : ByteArray) : (⟨(bl s).toArray⟩ : ByteArray) = s := Lib.mk_data s
theorem mk_of {s : ByteArray} {l : List UInt8} (h : bl s = l) : s = ⟨l.toArray⟩ := by rw [← h]
theorem size_mk (l : List UInt8) : (⟨l.toArray⟩ : ByteArray).size = l.length := by rw [Lib.size_eq]
theorem size_bl (s : ByteArray) : s.size = (bl s).length := Lib.size_eq s

/-- A line in its block: the words that are left of it. -/
def LnW (w : World) (l r : Nat) (ws : List (List UInt8)) : Prop := ∃ s more, LnAt w l r s more ∧ Scr.left (bl s) more = ws ∧ s.size ≤ 4294967280
theorem LnW.mut {w w' : World} {l r : Nat} {ws : List (List UInt8)} {S : Nat → Prop} (h : LnW w l r ws) (hm : Mut S w w') (hn : ¬ S l) : LnW w' l r ws := by
  obtain ⟨s, more, h1, h2, h3⟩ := h
  exact ⟨s, more, hm.blk h1 hn, h2, h3⟩
theorem LnW.c0 {w : World} {l r : Nat} {ws : List (List UInt8)} (h : LnW w l r ws) : w.cell? ⟨l, 0, none⟩ = some (.pointer (some ⟨r, 0, none⟩)) := by
  obtain ⟨s, more, h1, h2, h3⟩ := h
  exact cell_blk h1 0 rfl
theorem LnW.below {w w' : World} {l r : Nat} {ws : List (List UInt8)} (h : LnW w l r ws) (hb : Below w.heap.size w w') : LnW w' l r ws := h.mut (Mut.of_below hb (fun _ => False)) (fun h => h)
theorem RdAt.mut {w w' : World} {r : Nat} {v : Value} {n : Int} {S : Nat → Prop} (h : RdAt w r v n) (hm : Mut S w w') (hn : ¬ S r) : RdAt w' r v n := hm.blk h hn
theorem RdAt.below {w w' : World} {r : Nat} {v : Value} {n : Int} (h : RdAt w r v n) (hb : Below w.heap.size w w') : RdAt w' r v n := h.mut (Mut.of_below hb (fun _ => False)) (fun h => h)
theorem LnW.lt {w : World} {l r : Nat} {ws : List (List UInt8)} (h : LnW w l r ws) : l < w.heap.size := by
  obtain ⟨s, more, h1, h2, h3⟩ := h
  exact lt_of_block h1

theorem wordW_no (l r : Nat) (v : Value) (n : Int) (w : World) (hl : LnW w l r []) (hr : RdAt w r v n) :
    Calls Tryz.prog 44 #[.pointer (some ⟨l, 0, none⟩)] w fun e w' => Gave n e ∧ w = w' := by
  obtain ⟨s, more, h1, h2, h3⟩ := hl
  have h4 := Scr.left_nil h2
  subst h4
  exact word_no l r s v n w h1 hr

theorem wordW_yes (l r : Nat) (x : List UInt8) (ws : List (List UInt8)) (w : World) (hl : LnW w l r (x :: ws)) :
    Calls Tryz.prog 44 #[.pointer (some ⟨l, 0, none⟩)] w fun e w' => e = .returned (.string ⟨x.toArray⟩) ∧ x.length ≤ 4294967280 ∧ LnW w' l r ws ∧ Mut (· = l) w w' := by
  obtain ⟨s, more, h1, h2, h3⟩ := hl
  obtain ⟨h4, h5⟩ := Scr.left_cons h2
  subst h4
  refine (word_more l r s (by omega) w h1).mono ?_
  rintro e w' h6
  have hz := size_bl s
  rcases h5 with ⟨i, hb, hx, hw⟩ | ⟨hb, hx, hw⟩
  · rcases h6 with ⟨j, hj, he, hw'⟩ | ⟨hj, _⟩
    · rw [hb] at hj
      obtain rfl : i = j := by simpa using hj
      have hlt := Scr.blankAt_lt _ _ _ hb
      have e1 : bl (s.extract 0 i) = x := by rw [hx]; show (s.extract 0 i).data.toList = _; rw [Lib.extract_data]; simp
      have e2 : bl (s.extract (i + 1) s.size) = (bl s).drop (i + 1) := by
        show (s.extract (i + 1) s.size).data.toList = _
        rw [Lib.extract_data]
        rw [List.take_of_length_le]
        rw [List.length_drop, size_bl]
        exact Nat.le_refl _
      refine ⟨by rw [he, mk_of e1], by rw [hx]; simp; omega, ⟨s.extract (i + 1) s.size, true, ?_, ?_, ?_⟩, ?_⟩
      · rw [hw']; exact set_blk h1 1 _
      · rw [e2, hw]
      · rw [size_bl, e2]; simp; omega
      · rw [hw']; exact (Mut.refl (· = l) w).set (p := ⟨l, 1, none⟩) (.inl rfl) _
    · rw [hb] at hj; simp at hj
  · rcases h6 with ⟨j, hj, _⟩ | ⟨_, he, hw'⟩
    · rw [hb] at hj; simp at hj
    · refine ⟨by rw [he, hx, mk_bl], by rw [hx]; omega, ⟨⟨#[]⟩, false, ?_, ?_, by simp [ByteArray.size]⟩, ?_⟩
      · rw [hw']; exact set_blk (set_blk h1 1 _) 2 _
      · rw [hw]
      · rw [hw']; exact ((Mut.refl (· = l) w).set (p := ⟨l, 1, none⟩) (.inl rfl) _).set (p := ⟨l, 2, none⟩) (.inl rfl) _

/-- What the library's variables hold. -/
structure Glob (w : World) : Prop where
  tab : Lib.TabIs Tryz.prog w "internal/strconv.uint64pow10" .u64 Lib.pow10Tab
  syn : ∃ te pe, w.cell? ⟨4, 0, none⟩ = some (.iface te pe)
  rng : ∃ te pe, w.cell? ⟨5, 0, none⟩ = some (.iface te pe)
  big : ∃ m, w.cell? ⟨0, 0, none⟩ = some (.int .i64 m)
  size : 6 ≤ w.heap.size
theorem pow_glob : Tryz.prog.globalNamed "internal/strconv.uint64pow10" = some 1 := by kernel_rfl
theorem Glob.mut {w w' : World} {S : Nat → Prop} (h : Glob w) (hm : Mut S w w') (hS : ∀ k, S k → 6 ≤ k) : Glob w' := by
  obtain ⟨h1, ⟨a, b, h2⟩, ⟨c, d, h3⟩, ⟨m, h4⟩, h5⟩ := h
  have hn : ∀ k, k < 6 → ¬ S k := fun k hk hs => by have := hS k hs; omega
  refine ⟨?_, ⟨a, b, hm.cell h2 (hn _ (by decide))⟩, ⟨c, d, hm.cell h3 (hn _ (by decide))⟩, ⟨m, hm.cell h4 (hn _ (by decide))⟩, Nat.le_trans h5 hm.size⟩
  exact var?_below (B := 6) (hm.below (B := 6) h5 hS) pow_glob (by decide) h1
theorem Glob.below {w w' : World} (h : Glob w) (hb : Below w.heap.size w w') : Glob w' := h.mut (Mut.of_below hb (fun _ => False)) (fun _ hk => hk.elim)

theorem atoi_ok (x : List UInt8) (hx : x.length ≤ 4294967280) (v : Int) (h : Lib.atoiAll x = .ok v) (w : World) :
    Calls Tryz.prog 65 #[.string ⟨x.toArray⟩] w fun e w' => e = .returned (.tuple #[.int .i64 v, .nilIface]) ∧ Below w.heap.size w w' := by
  refine (Tryz.strconv_Atoi_ok ⟨x.toArray⟩ (by rw [size_mk]; omega) v (by simpa using h) w).mono ?_
  rintro e w' ⟨he, hw⟩
  refine ⟨he, ?_⟩
  rcases hw with rfl | ⟨t, rfl⟩
  · exact Below.refl _ _
  · exact Lib.bytesWorld_below _ _ _
theorem atoi_bad (x : List UInt8) (hx : x.length ≤ 4294967280) (h : ∀ v, Lib.atoiAll x ≠ .ok v) (w : World) (hG : Glob w) :
    Calls Tryz.prog 65 #[.string ⟨x.toArray⟩] w fun e w' => ∃ v T N, e = .returned (.tuple #[.int .i64 v, .iface T (.pointer (some ⟨N, 0, none⟩))]) ∧ Below w.heap.size w w' := by
  cases hx2 : Lib.atoiAll x with
  | ok v => exact absurd hx2 (h v)
  | range =>
    obtain ⟨a, b, h2⟩ := hG.rng
    refine (Tryz.strconv_Atoi_range ⟨x.toArray⟩ (by rw [size_mk]; omega) (by simpa using hx2) _ w h2 (.inr ⟨a, b, rfl⟩)).mono ?_
    rintro e w' ⟨N, he, _, _, hb⟩
    exact ⟨_, _, N, he, hb⟩
  | _ =>
    obtain ⟨a, b, h2⟩ := hG.syn
    refine (Tryz.strconv_Atoi_syntax ⟨x.toArray⟩ (by rw [size_mk]; omega) (show Lib.atoiAll x = Lib.atoiAll [] from hx2.trans rfl) _ w h2 (.inr ⟨a, b, rfl⟩)).mono ?_
    rintro e w' ⟨N, he, _, _, hb⟩
    exact ⟨_, _, N, he, hb⟩
theorem itoa_any (v : Int) (h0 : -9223372036854775808 ≤ v) (h1 : v ≤ 9223372036854775807) (w : World) (hG : Glob w) :
    Calls Tryz.prog 28 #[.int .i64 v] w fun e w' => e = .returned (.string ⟨(Lib.itoa v).toArray⟩) ∧ Below w.heap.size w w' := by
  refine (Tryz.strconv_Itoa v h0 h1 w hG.tab).mono ?_
  rintro e w' ⟨he, k, os, rfl⟩
  exact ⟨he, Lib.below_grow _ _ (Nat.le_refl _) _ _⟩
/-- What a method of a line says where it goes well: its answer, and the words that are left. -/
def LnOk (l r : Nat) (w : World) (v : Value) (ws : List (List UInt8)) (e : Ending) (w' : World) : Prop := e = .returned v ∧ LnW w' l r ws ∧ Mut (· = l) w w'
/-- .. and where it gives up. -/
def LnNo (l : Nat) (w : World) (n : Int) (e : Ending) (w' : World) : Prop := Gave n e ∧ Mut (· = l) w w'

/-- The number that a word is, told just so. -/
def num (x : List UInt8) : Option Int := match Lib.atoiAll x with | .ok v => if Lib.itoa v = x then some v else none | _ => none

set_option maxHeartbeats 400000 in
theorem number_nil (l r : Nat) (v : Value) (n : Int) (w : World) (hl : LnW w l r []) (hr : RdAt w r v n) :
    Calls Tryz.prog 45 #[.pointer (some ⟨l, 0, none⟩)] w (LnNo l w n) := by
  have HL := Lib.hid hl
  have HR := Lib.hid hr
  clear hl hr
  go_enter Tryz.func45, Tryz.ntmps45
  go_wp2_with fail
  refine (wordW_no l r v n w HL.out HR.out).mono ?_
  rintro e w' ⟨rfl, rfl⟩
  exact ⟨rfl, rfl, Mut.refl _ _⟩

set_option maxHeartbeats 400000 in
theorem number_yes (l r : Nat) (x : List UInt8) (ws : List (List UInt8)) (hlr : l ≠ r) (k : Int) (h : num x = some k) (w : World) (hG : Glob w) (hl : LnW w l r (x :: ws)) (hl6 : 6 ≤ l) :
    Calls Tryz.prog 45 #[.pointer (some ⟨l, 0, none⟩)] w (LnOk l r w (.int .i64 k) ws) := by
  have HL := Lib.hid hl
  obtain ⟨h1, h2⟩ : Lib.atoiAll x = .ok k ∧ Lib.itoa k = x := by
    unfold num at h
    cases hx : Lib.atoiAll x with
    | ok v => simp only [hx] at h; split at h <;> simp_all
    | _ => simp [hx] at h
  have hb := Lib.atoiAll_bounds h1
  have H1 := Lib.hid h1
  have H2 := Lib.hid h2
  clear h1 h2 h hl
  go_enter Tryz.func45, Tryz.ntmps45
  go_wp2_with fail
  refine (wordW_yes l r x ws w HL.out).mono ?_
  rintro e w1 ⟨rfl, hx, hl1, hm1⟩
  have HL1 := Lib.hid hl1
  have hG1 := hG.mut hm1 (fun k hk => by omega)
  clear hl1
  go_wp2_with fail
  refine (atoi_ok x hx k H1.out w1).mono ?_
  rintro e w2 ⟨rfl, hb2⟩
  have hG2 := hG1.below hb2
  go_wp2_with fail
  refine (itoa_any k hb.1 hb.2 w2 hG2).mono ?_
  rintro e w3 ⟨rfl, hb3⟩
  rw [H2.out]
  have hxx : (x != x) = false := by simp
  go_wp2_with fail
  go_ret
  exact ⟨rfl, (HL1.out.below hb2).below hb3, (hm1.then_below hb2).then_below hb3⟩

set_option maxHeartbeats 400000 in
theorem number_no (l r : Nat) (x : List UInt8) (ws : List (List UInt8)) (hlr : r ≠ l) (h : num x = none) (v : Value) (n : Int) (w : World) (hG : Glob w) (hl : LnW w l r (x :: ws)) (hr : RdAt w r v n) (hl6 : 6 ≤ l) :
    Calls Tryz.prog 45 #[.pointer (some ⟨l, 0, none⟩)] w (LnNo l w n) := by
  have HL := Lib.hid hl
  have HR := Lib.hid hr
  clear hl hr
  by_cases hok : ∃ k, Lib.atoiAll x = .ok k
  · obtain ⟨k, h1⟩ := hok
    have h2 : Lib.itoa k ≠ x := by
      intro h2
      unfold num at h
      simp [h1, h2] at h
    have hb := Lib.atoiAll_bounds h1
    have H1 := Lib.hid h1
    have hne : (Lib.itoa k == x) = false := by simpa using h2
    clear h1 h2 h
    go_enter Tryz.func45, Tryz.ntmps45
    go_wp2_with fail
    refine (wordW_yes l r x ws w HL.out).mono ?_
    rintro e w1 ⟨rfl, hx, hl1, hm1⟩
    have HL1 := Lib.hid hl1
    have hG1 := hG.mut hm1 (fun k hk => by omega)
    clear hl1
    go_wp2_with fail
    refine (atoi_ok x hx k H1.out w1).mono ?_
    rintro e w2 ⟨rfl, hb2⟩
    have hG2 := hG1.below hb2
    go_wp2_with fail
    refine (itoa_any k hb.1 hb.2 w2 hG2).mono ?_
    rintro e w3 ⟨rfl, hb3⟩
    have c0 := ((HL1.out.below hb2).below hb3).c0
    have HR3 := Lib.hid (((HR.out.mut hm1 hlr).below hb2).below hb3)
    go_wp2_with fail
    refine (give_any r v n w3 HR3.out).mono ?_
    rintro e w4 ⟨rfl, rfl⟩
    exact ⟨rfl, rfl, (hm1.then_below hb2).then_below hb3⟩
  · have h1 : ∀ k, Lib.atoiAll x ≠ .ok k := fun k hk => hok ⟨k, hk⟩
    have H1 := Lib.hid h1
    clear hok h h1
    go_enter Tryz.func45, Tryz.ntmps45
    go_wp2_with fail
    refine (wordW_yes l r x ws w HL.out).mono ?_
    rintro e w1 ⟨rfl, hx, hl1, hm1⟩
    have HL1 := Lib.hid hl1
    have hG1 := hG.mut hm1 (fun k hk => by omega)
    clear hl1
    go_wp2_with fail
    refine (atoi_bad x hx H1.out w1 hG1).mono ?_
    rintro e w2 ⟨u, T, N, rfl, hb2⟩
    have c0 := (HL1.out.below hb2).c0
    have HR3 := Lib.hid ((HR.out.mut hm1 hlr).below hb2)
    go_wp2_with fail
    refine (give_any r v n w2 HR3.out).mono ?_
    rintro e w4 ⟨rfl, rfl⟩
    exact ⟨rfl, rfl, hm1.then_below hb2⟩
end Go.Proofs.YtjcdpccfhpbccaaGreatDoor
