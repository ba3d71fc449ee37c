/-
  The walk of each with Print's closures; Print.
-/
import Derived.Test.YtjcdpccfhpbccaaGreatDoorB4
namespace Go.Proofs.YtjcdpccfhpbccaaGreatDoor
open Go.RowKit

def sel3 (i t a : Int) : Nat → Int | 0 => i | 1 => t | _ => a
def numsTo (n : Int) (vs : Nat → Int) : Nat → List UInt8
  | 0 => []
  | q + 1 => numsTo n vs q ++ (if (q : Int) < n then 32 :: Lib.itoa (vs q) else [])
def brkd (c : Bool) (y : ByteArray) : List UInt8 := if c then 32 :: 91 :: (bl y ++ [93]) else []
/-- A string's cell: what it holds. -/
def StrAt (w : World) (s : Nat) (l : List UInt8) : Prop := ∃ x : ByteArray, w.heap[s]? = some (.cells #[.string x] 9 (0, 0)) ∧ bl x = l
theorem StrAt.mut {w w' : World} {s : Nat} {l : List UInt8} {S : Nat → Prop} (h : StrAt w s l) (hm : Mut S w w') (hn : ¬ S s) : StrAt w' s l := by
  obtain ⟨x, h1, h2⟩ := h
  exact ⟨x, hm.blk h1 hn, h2⟩
theorem bl_app (a b : ByteArray) : bl (a ++ b) = bl a ++ bl b := by simp [bl, ByteArray.data_append]
theorem print1_str (s b j : Nat) (cs : Array Value) (t : TypeId) (v : Int) (l : List UInt8) (hx : l.length ≤ 4294967280) (h0 : -9223372036854775808 ≤ v) (h1 : v ≤ 9223372036854775807) (w : World) (hG : Glob w)
    (h : w.heap[b]? = some (.cells cs t (0, 0))) (hj : cs[j]? = some (.int .i64 v)) (hs : StrAt w s l) :
    Calls Tryz.prog 73 #[.pointer (some ⟨b, j, none⟩), .pointer (some ⟨s, 0, none⟩)] w fun e w' => e = .returned (.tuple #[]) ∧ StrAt w' s (l ++ (32 :: Lib.itoa v)) ∧ Mut (· = s) w w' := by
  obtain ⟨x, hx1, hx2⟩ := hs
  refine (print1_any s b j cs t v x (by rw [size_bl, hx2]; exact hx) h0 h1 w hG h hj hx1).mono ?_
  rintro e w' ⟨he, hs, hm⟩
  refine ⟨he, ⟨_, hs, ?_⟩, hm⟩
  rw [bl_app, bl_app, hx2]
  rfl
theorem print2_str (s b j : Nat) (cs : Array Value) (t : TypeId) (l : List UInt8) (y : ByteArray) (hx : l.length ≤ 4294967280) (hy : y.size ≤ 4294967280) (w : World)
    (h : w.heap[b]? = some (.cells cs t (0, 0))) (hj : cs[j]? = some (.string y)) (hs : StrAt w s l) :
    Calls Tryz.prog 74 #[.pointer (some ⟨b, j, none⟩), .pointer (some ⟨s, 0, none⟩)] w fun e w' => e = .returned (.tuple #[]) ∧ StrAt w' s (l ++ brkd true y) ∧ Mut (· = s) w w' := by
  obtain ⟨x, hx1, hx2⟩ := hs
  refine (print2_any s b j cs t x y (by rw [size_bl, hx2]; exact hx) hy w h hj hx1).mono ?_
  rintro e w' ⟨he, hs, hm⟩
  refine ⟨he, ⟨_, hs, ?_⟩, hm⟩
  rw [bl_app, bl_app, bl_app, hx2]
  rfl
theorem numsTo_len (n i t a : Int) (hi : -9223372036854775808 ≤ i ∧ i ≤ 9223372036854775807) (ht : -9223372036854775808 ≤ t ∧ t ≤ 9223372036854775807) (ha : -9223372036854775808 ≤ a ∧ a ≤ 9223372036854775807) : ∀ q, (numsTo n (sel3 i t a) q).length ≤ 22 * q := by
  intro q
  induction q with
  | zero => simp [numsTo]
  | succ q ih =>
    have h1 : (Lib.itoa (sel3 i t a q)).length ≤ 21 := by
      unfold sel3
      split
      · exact Lib.itoa_length_le _ hi.1 hi.2
      · exact Lib.itoa_length_le _ ht.1 ht.2
      · exact Lib.itoa_length_le _ ha.1 ha.2
    simp only [numsTo, List.length_append]
    split
    · simp only [List.length_cons]; omega
    · simp only [List.length_nil]; omega

set_option maxRecDepth 100000 in
set_option maxHeartbeats 1000000 in
theorem each_print (b s : Nat) (k i t a : Int) (hi : -9223372036854775808 ≤ i ∧ i ≤ 9223372036854775807) (ht : -9223372036854775808 ≤ t ∧ t ≤ 9223372036854775807) (ha : -9223372036854775808 ≤ a ∧ a ≤ 9223372036854775807)
    (nm tx word : ByteArray) (hnm : nm.size ≤ 255) (htx : tx.size ≤ 255) (l : List UInt8) (hl : l.length ≤ 255) (n : Int) (hn0 : 0 ≤ n) (c d : Bool) (w : World) (hG : Glob w) (h : OpAt w b k i t a nm tx) (hs : StrAt w s l) (hsb : b ≠ s) (hs6 : 6 ≤ s) :
    Calls Tryz.prog 39 #[.pointer (some ⟨b, 0, none⟩), .agg #[.string word, .int .i64 n, .bool c, .bool d], .func (.func 73) #[] #[.pointer (some ⟨s, 0, none⟩)], .func (.func 74) #[] #[.pointer (some ⟨s, 0, none⟩)]] w fun e w' =>
      e = .returned (.tuple #[]) ∧ StrAt w' s (l ++ numsTo n (sel3 i t a) 3 ++ brkd c nm ++ brkd d tx) ∧ Mut (· = s) w w' := by
  have hlen := numsTo_len n i t a hi ht ha
  have HLEN := Lib.hid hlen
  have HO := Lib.hid h
  have HS := Lib.hid hs
  have hlt := lt_of_block h
  have hlts : s < w.heap.size := by obtain ⟨x, h1, h2⟩ := hs; exact lt_of_block h1
  clear h hs hlen
  have i0 : ∀ (x0 x1 x2 : Value) w, (Instr.index 133 (.agg #[x0, x1, x2]) (.int .i64 0)).run Tryz.prog w = .ok x0 w := fun _ _ _ _ => by kernel_rfl
  have i1 : ∀ (x0 x1 x2 : Value) w, (Instr.index 133 (.agg #[x0, x1, x2]) (.int .i64 1)).run Tryz.prog w = .ok x1 w := fun _ _ _ _ => by kernel_rfl
  have i2 : ∀ (x0 x1 x2 : Value) w, (Instr.index 133 (.agg #[x0, x1, x2]) (.int .i64 2)).run Tryz.prog w = .ok x2 w := fun _ _ _ _ => by kernel_rfl
  go_enter Tryz.func39, Tryz.ntmps39
  go_wp2_with fail
  go_quiet (fail)
  go_wp2_with fail
  go_loopw [20] (fun u wr => ∃ q : Nat, q ≤ 3 ∧ u = .int .i64 q ∧ Hid (StrAt wr s (l ++ numsTo n (sel3 i t a) q)) ∧ Hid (wr.heap[w.heap.size]? = some (.cells #[.string word, .int .i64 n, .bool c, .bool d] 96 (0, 0))) ∧ Hid (Mut (· = s) w wr)) (fun u _ => 3 - (intOf u).toNat)
  case atStart => exact ⟨0, by omega, rfl, by rw [numsTo, List.append_nil]; exact (HS.out.mut (((Mut.refl (fun _ => False) w).alloc _).drewN _) (fun h => h)), alloc_new _ _, ((Mut.refl _ _).alloc _).drewN _⟩
  case round =>
    obtain ⟨q, hq, rfl, H1, H2, H3⟩ := hrel
    have c1 := cell_blk H2.out 1 (v := .int .i64 n) rfl
    have c2 := cell_blk H2.out 2 (v := .bool c) rfl
    have c3 := cell_blk H2.out 3 (v := .bool d) rfl
    have HB := Lib.hid (H3.out.blk HO.out hsb)
    have hG1 := hG.mut H3.out (fun k hk => by omega)
    have hlq := HLEN.out q
    by_cases hq3 : q < 3
    · by_cases hqn : (q : Int) < n
      · have hcase : q = 0 ∨ q = 1 ∨ q = 2 := by omega
        rcases hcase with rfl | rfl | rfl
        · go_wp2_with fail
          refine (print1_str s b 1 _ _ i _ (by rw [List.length_append]; omega) hi.1 hi.2 wr hG1 HB.out rfl H1.out).mono ?_
          rintro e w' ⟨rfl, h5, h6⟩
          have H5 := Lib.hid h5
          clear h5
          go_wp2_with fail
          refine ⟨⟨1, by omega, by go_num, ?_, (h6.blk H2.out (by omega)), H3.out.trans h6 (fun k hk => .inl hk)⟩, by simp [intOf]⟩
          rw [numsTo, if_pos hqn, ← List.append_assoc]
          exact H5.out
        · go_wp2_with fail
          refine (print1_str s b 2 _ _ t _ (by rw [List.length_append]; omega) ht.1 ht.2 wr hG1 HB.out rfl H1.out).mono ?_
          rintro e w' ⟨rfl, h5, h6⟩
          have H5 := Lib.hid h5
          clear h5
          go_wp2_with fail
          refine ⟨⟨2, by omega, by go_num, ?_, (h6.blk H2.out (by omega)), H3.out.trans h6 (fun k hk => .inl hk)⟩, by simp [intOf]⟩
          rw [numsTo, if_pos hqn, ← List.append_assoc]
          exact H5.out
        · go_wp2_with fail
          refine (print1_str s b 3 _ _ a _ (by rw [List.length_append]; omega) ha.1 ha.2 wr hG1 HB.out rfl H1.out).mono ?_
          rintro e w' ⟨rfl, h5, h6⟩
          have H5 := Lib.hid h5
          clear h5
          go_wp2_with fail
          refine ⟨⟨3, by omega, by go_num, ?_, (h6.blk H2.out (by omega)), H3.out.trans h6 (fun k hk => .inl hk)⟩, by simp [intOf]⟩
          rw [numsTo, if_pos hqn, ← List.append_assoc]
          exact H5.out
      · have hcase : q = 0 ∨ q = 1 ∨ q = 2 := by omega
        rcases hcase with rfl | rfl | rfl
        · go_wp2_with fail
          refine ⟨⟨1, by omega, by go_num, ?_, H2, H3⟩, by simp [intOf]⟩
          rw [numsTo, if_neg hqn, List.append_nil]
          exact H1
        · go_wp2_with fail
          refine ⟨⟨2, by omega, by go_num, ?_, H2, H3⟩, by simp [intOf]⟩
          rw [numsTo, if_neg hqn, List.append_nil]
          exact H1
        · go_wp2_with fail
          refine ⟨⟨3, by omega, by go_num, ?_, H2, H3⟩, by simp [intOf]⟩
          rw [numsTo, if_neg hqn, List.append_nil]
          exact H1
    · obtain rfl : q = 3 := by omega
      have hln : (l ++ numsTo n (sel3 i t a) 3).length ≤ 400 := by rw [List.length_append]; omega
      generalize hL : l ++ numsTo n (sel3 i t a) 3 = L at *
      have HLL := Lib.hid hL
      clear hL HLEN hlq
      cases c
      · cases d
        · go_wp2_with fail
          go_end0
          refine ⟨rfl, ?_, H3.out⟩
          simp only [brkd, Bool.false_eq_true, if_false, List.append_nil]
          rw [HLL.out]
          exact H1.out
        · go_wp2_with fail
          refine (print2_str s b 5 _ _ L tx (by omega) (by omega) wr HB.out rfl H1.out).mono ?_
          rintro e w' ⟨rfl, h5, h6⟩
          have H5 := Lib.hid h5
          clear h5
          go_wp2_with fail
          go_end0
          refine ⟨rfl, ?_, H3.out.trans h6 (fun k hk => .inl hk)⟩
          have e1 : brkd false nm = [] := rfl
          rw [HLL.out, e1, List.append_nil]
          exact H5.out
      · go_wp2_with fail
        refine (print2_str s b 4 _ _ L nm (by omega) (by omega) wr HB.out rfl H1.out).mono ?_
        rintro e w' ⟨rfl, h5, h6⟩
        have H5 := Lib.hid h5
        have H6 := Lib.hid (H3.out.trans h6 (fun k hk => .inl hk))
        have HB6 := Lib.hid (h6.blk HB.out hsb)
        have H26 := h6.blk H2.out (by omega)
        have c4 := cell_blk H26 3 (v := .bool d) rfl
        clear h5 H26
        cases d
        · go_wp2_with fail
          go_end0
          refine ⟨rfl, ?_, H6.out⟩
          have e1 : brkd false tx = [] := rfl
          rw [HLL.out, e1, List.append_nil]
          exact H5.out
        · have hln2 : (L ++ brkd true nm).length ≤ 4294967280 := by
            rw [List.length_append]
            simp only [brkd, if_true, List.length_cons, List.length_append, List.length_nil, ← size_bl]
            omega
          go_wp2_with fail
          refine (print2_str s b 5 _ _ (L ++ brkd true nm) tx hln2 (by omega) _ HB6.out rfl H5.out).mono ?_
          rintro e w'' ⟨rfl, h7, h8⟩
          have H7 := Lib.hid h7
          clear h7
          go_wp2_with fail
          go_end0
          exact ⟨rfl, by rw [HLL.out]; exact H7.out, H6.out.trans h8 (fun k hk => .inl hk)⟩
end Go.Proofs.YtjcdpccfhpbccaaGreatDoor
