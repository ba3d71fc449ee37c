/-
  The walks of what is done with each number and each text of an operation: May's two closures, and each with them.
-/
import Derived.Test.YtjcdpccfhpbccaaDoorA3
namespace Go.Proofs.YtjcdpccfhpbccaaDoor
open Go.RowKit

/-- An operation in its block. -/
def OpAt (w : World) (b : Nat) (k i t a : Int) (n x : ByteArray) : Prop := w.heap[b]? = some (.cells #[.int .i64 k, .int .i64 i, .int .i64 t, .int .i64 a, .string n, .string x] 51 (0, 0))

set_option maxHeartbeats 400000 in
theorem may1_any (b j : Nat) (cs : Array Value) (t : TypeId) (v : Value) (w : World) (h : w.heap[b]? = some (.cells cs t (0, 0))) (hj : cs[j]? = some v) :
    Calls Tryd.prog 31 #[.pointer (some ⟨b, j, none⟩)] w fun e w' => e = .returned (.tuple #[]) ∧ w' = w.setCell ⟨b, j, none⟩ (.int .i64 0) := by
  have h1 := cell_blk h j hj
  have f1 := froz_blk h j
  clear h hj
  go_enter Tryd.func31, Tryd.ntmps31
  go_wp2
  go_end0
  exact ⟨rfl, rfl⟩
set_option maxHeartbeats 400000 in
theorem may2_any (b j : Nat) (cs : Array Value) (t : TypeId) (v : Value) (w : World) (h : w.heap[b]? = some (.cells cs t (0, 0))) (hj : cs[j]? = some v) :
    Calls Tryd.prog 32 #[.pointer (some ⟨b, j, none⟩)] w fun e w' => e = .returned (.tuple #[]) ∧ w' = w.setCell ⟨b, j, none⟩ (.string ⟨#[]⟩) := by
  have h1 := cell_blk h j hj
  have f1 := froz_blk h j
  clear h hj
  go_enter Tryd.func32, Tryd.ntmps32
  go_wp2
  go_end0
  exact ⟨rfl, rfl⟩

def zer (n : Int) (k i : Nat) (v : Int) : Int := if i < k ∧ (i : Int) < n then 0 else v
theorem zer_hit {n : Int} {q : Nat} (h : (q : Int) < n) (v : Int) : zer n (q + 1) q v = 0 := if_pos ⟨by omega, h⟩
theorem zer_keep {n : Int} {q j : Nat} (h : j ≠ q) (v : Int) : zer n (q + 1) j v = zer n q j v := by
  unfold zer
  by_cases h1 : j < q
  · by_cases h2 : (j : Int) < n
    · rw [if_pos ⟨by omega, h2⟩, if_pos ⟨h1, h2⟩]
    · rw [if_neg (fun h => h2 h.2), if_neg (fun h => h2 h.2)]
  · rw [if_neg (fun h => by omega), if_neg (fun h => by omega)]
theorem zer_past {n : Int} {q : Nat} (h : ¬ (q : Int) < n) (j : Nat) (v : Int) : zer n (q + 1) j v = zer n q j v := by
  by_cases hj : j = q
  · subst hj; unfold zer; rw [if_neg (fun h2 => h h2.2), if_neg (fun h2 => by omega)]
  · exact zer_keep hj v
theorem zer_none (n : Int) (j : Nat) (v : Int) : zer n 0 j v = v := if_neg (fun h => by omega)
def emp (c : Bool) (v : ByteArray) : ByteArray := if c then ⟨#[]⟩ else v

set_option maxRecDepth 100000 in
set_option maxHeartbeats 1000000 in
theorem each_may (b : Nat) (k i t a : Int) (nm tx word : ByteArray) (n : Int) (hn0 : 0 ≤ n) (c d : Bool) (w : World) (h : OpAt w b k i t a nm tx) :
    Calls Tryd.prog 30 #[.pointer (some ⟨b, 0, none⟩), .agg #[.string word, .int .i64 n, .bool c, .bool d], .func (.func 31) #[] #[], .func (.func 32) #[] #[]] w fun e w' =>
      e = .returned (.tuple #[]) ∧ OpAt w' b k (zer n 3 0 i) (zer n 3 1 t) (zer n 3 2 a) (emp c nm) (emp d tx) ∧ Mut (· = b) w w' := by
  have H := Lib.hid h
  have hlt := lt_of_block h
  clear h
  have i0 : ∀ (x0 x1 x2 : Value) w, (Instr.index 113 (.agg #[x0, x1, x2]) (.int .i64 0)).run Tryd.prog w = .ok x0 w := fun _ _ _ _ => by kernel_rfl
  have i1 : ∀ (x0 x1 x2 : Value) w, (Instr.index 113 (.agg #[x0, x1, x2]) (.int .i64 1)).run Tryd.prog w = .ok x1 w := fun _ _ _ _ => by kernel_rfl
  have i2 : ∀ (x0 x1 x2 : Value) w, (Instr.index 113 (.agg #[x0, x1, x2]) (.int .i64 2)).run Tryd.prog w = .ok x2 w := fun _ _ _ _ => by kernel_rfl
  go_enter Tryd.func30, Tryd.ntmps30
  go_wp2_with fail
  go_quiet (fail)
  go_wp2_with fail
  go_loopw [20] (fun u wr => ∃ q : Nat, q ≤ 3 ∧ u = .int .i64 q ∧ Hid (OpAt wr b k (zer n q 0 i) (zer n q 1 t) (zer n q 2 a) nm tx) ∧ Hid (wr.heap[w.heap.size]? = some (.cells #[.string word, .int .i64 n, .bool c, .bool d] 84 (0, 0))) ∧ Hid (Mut (· = b) w wr)) (fun u _ => 3 - (intOf u).toNat)
  case atStart => exact ⟨0, by omega, rfl, by rw [zer_none, zer_none, zer_none]; exact alloc_blk H.out _, alloc_new _ _, ((Mut.refl _ _).alloc _).drewN _⟩
  case round =>
    obtain ⟨q, hq, rfl, H1, H2, H3⟩ := hrel
    have c1 := cell_blk H2.out 1 (v := .int .i64 n) rfl
    have c2 := cell_blk H2.out 2 (v := .bool c) rfl
    have c3 := cell_blk H2.out 3 (v := .bool d) rfl
    by_cases hq3 : q < 3
    · by_cases hqn : (q : Int) < n
      · have hcase : q = 0 ∨ q = 1 ∨ q = 2 := by omega
        rcases hcase with rfl | rfl | rfl
        · go_wp2_with fail
          refine (may1_any b 1 _ _ _ wr H1.out rfl).mono ?_
          rintro e w' ⟨rfl, rfl⟩
          go_wp2_with fail
          refine ⟨⟨1, by omega, by go_num, ?_, ?_, ?_⟩, by simp [intOf]⟩
          · rw [zer_hit (q := 0) hqn, zer_keep (q := 0) (by decide), zer_keep (q := 0) (by decide)]
            exact set_blk H1.out 1 (.int .i64 0)
          · exact set_blk_ne H2.out (by omega) _ _
          · exact H3.out.set (.inl rfl) _
        · go_wp2_with fail
          refine (may1_any b 2 _ _ _ wr H1.out rfl).mono ?_
          rintro e w' ⟨rfl, rfl⟩
          go_wp2_with fail
          refine ⟨⟨2, by omega, by go_num, ?_, ?_, ?_⟩, by simp [intOf]⟩
          · rw [zer_keep (q := 1) (by decide), zer_hit (q := 1) hqn, zer_keep (q := 1) (by decide)]
            exact set_blk H1.out 2 (.int .i64 0)
          · exact set_blk_ne H2.out (by omega) _ _
          · exact H3.out.set (.inl rfl) _
        · go_wp2_with fail
          refine (may1_any b 3 _ _ _ wr H1.out rfl).mono ?_
          rintro e w' ⟨rfl, rfl⟩
          go_wp2_with fail
          refine ⟨⟨3, by omega, by go_num, ?_, ?_, ?_⟩, by simp [intOf]⟩
          · rw [zer_keep (q := 2) (by decide), zer_keep (q := 2) (by decide), zer_hit (q := 2) hqn]
            exact set_blk H1.out 3 (.int .i64 0)
          · exact set_blk_ne H2.out (by omega) _ _
          · exact H3.out.set (.inl rfl) _
      · have hcase : q = 0 ∨ q = 1 ∨ q = 2 := by omega
        rcases hcase with rfl | rfl | rfl
        · go_wp2_with fail
          refine ⟨⟨1, by omega, by go_num, ?_, H2, H3⟩, by simp [intOf]⟩
          rw [zer_past hqn, zer_past hqn, zer_past hqn]
          exact H1
        · go_wp2_with fail
          refine ⟨⟨2, by omega, by go_num, ?_, H2, H3⟩, by simp [intOf]⟩
          rw [zer_past hqn, zer_past hqn, zer_past hqn]
          exact H1
        · go_wp2_with fail
          refine ⟨⟨3, by omega, by go_num, ?_, H2, H3⟩, by simp [intOf]⟩
          rw [zer_past hqn, zer_past hqn, zer_past hqn]
          exact H1
    · obtain rfl : q = 3 := by omega
      cases c
      · cases d
        · go_wp2_with fail
          go_end0
          exact ⟨rfl, H1.out, H3.out⟩
        · go_wp2_with fail
          refine (may2_any b 5 _ _ _ wr H1.out rfl).mono ?_
          rintro e w' ⟨rfl, rfl⟩
          go_wp2_with fail
          go_end0
          exact ⟨rfl, set_blk H1.out 5 _, H3.out.set (.inl rfl) _⟩
      · go_wp2_with fail
        refine (may2_any b 4 _ _ _ wr H1.out rfl).mono ?_
        rintro e w' ⟨rfl, rfl⟩
        have H5 := Lib.hid (set_blk H1.out 4 (.string ⟨#[]⟩))
        have H6 := Lib.hid (H3.out.set (p := ⟨b, 4, none⟩) (.inl rfl) (.string ⟨#[]⟩))
        cases d
        · go_wp2_with fail
          go_end0
          exact ⟨rfl, H5.out, H6.out⟩
        · go_wp2_with fail
          refine (may2_any b 5 _ _ _ _ H5.out rfl).mono ?_
          rintro e w' ⟨rfl, rfl⟩
          go_wp2_with fail
          go_end0
          exact ⟨rfl, set_blk H5.out 5 _, H6.out.set (.inl rfl) _⟩
end Go.Proofs.YtjcdpccfhpbccaaDoor
