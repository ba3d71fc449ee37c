/-
  The walks of what is done with each number and each text of an operation: May's two closures, and each with them.
  The walk of the shapes of operations.
  The walk of May: whether an operation has just what its kind has.
  The walks of an operation's text: Print's two closures, each with them, Print.
-/
import Derived.Test.YtjcdpccfhpbccaaGreatDoorA3
import Derived.Deep.WholeRow
import Derived.Deep.RegionWith
import Derived.Lib.ItoaLen
namespace Go.Proofs.YtjcdpccfhpbccaaGreatDoor
open Go.RowKit

/-- An operation in its block. -/
def OpAt (w : World) (b : Nat) (k i t a : Int) (n x : ByteArray) : Prop := w.heap[b]? = some (.cells #[.int .i64 k, .int .i64 i, .int .i64 t, .int .i64 a, .string n, .string x] 48 (0, 0))

set_option maxHeartbeats 400000 in
theorem may1_any (b j : Nat) (cs : Array Value) (t : TypeId) (v : Value) (w : World) (h : w.heap[b]? = some (.cells cs t (0, 0))) (hj : cs[j]? = some v) :
    Calls Tryz.prog 40 #[.pointer (some ⟨b, j, none⟩)] w fun e w' => e = .returned (.tuple #[]) ∧ w' = w.setCell ⟨b, j, none⟩ (.int .i64 0) := by
  have h1 := cell_blk h j hj
  have f1 := froz_blk h j
  clear h hj
  go_enter Tryz.func40, Tryz.ntmps40
  go_wp2
  go_end0
  exact ⟨rfl, rfl⟩
set_option maxHeartbeats 400000 in
theorem may2_any (b j : Nat) (cs : Array Value) (t : TypeId) (v : Value) (w : World) (h : w.heap[b]? = some (.cells cs t (0, 0))) (hj : cs[j]? = some v) :
    Calls Tryz.prog 41 #[.pointer (some ⟨b, j, none⟩)] w fun e w' => e = .returned (.tuple #[]) ∧ w' = w.setCell ⟨b, j, none⟩ (.string ⟨#[]⟩) := by
  have h1 := cell_blk h j hj
  have f1 := froz_blk h j
  clear h hj
  go_enter Tryz.func41, Tryz.ntmps41
  go_wp2
  go_end0
  exact ⟨rfl, rfl⟩

def zer (n : Int) (k i : Nat) (v : Int) : Int := if i < k ∧ (i : Int) < n then 0 else v
theorem zer_hit {n : Int} {q : Nat} (h : (q : Int) < n) (v : Int) : zer n (q + 1) q v = 0 := if_pos ⟨by omega, h⟩
theorem zer_keep {n : Int} {q j : Nat} (h : j ≠ q) (v : Int) : zer n (q + 1) j v = zer n q j v := by
  unfold zer
  by_cases h1 : j < q
  · by_cases h2 : (j : Int) < n
    · rw [if_pos ⟨by omega, h2⟩, if_pos ⟨h1, h2⟩]
    · rw [if_neg (fun h => h2 h.2), if_neg (fun h => h2 h.2)]
  · rw [if_neg (fun h => by omega), if_neg (fun h => by omega)]
theorem zer_past {n : Int} {q : Nat} (h : ¬ (q : Int) < n) (j : Nat) (v : Int) : zer n (q + 1) j v = zer n q j v := by
  by_cases hj : j = q
  · subst hj; unfold zer; rw [if_neg (fun h2 => h h2.2), if_neg (fun h2 => by omega)]
  · exact zer_keep hj v
theorem zer_none (n : Int) (j : Nat) (v : Int) : zer n 0 j v = v := if_neg (fun h => by omega)
def emp (c : Bool) (v : ByteArray) : ByteArray := if c then ⟨#[]⟩ else v

set_option maxRecDepth 100000 in
set_option maxHeartbeats 1000000 in
theorem each_may (b : Nat) (k i t a : Int) (nm tx word : ByteArray) (n : Int) (hn0 : 0 ≤ n) (c d : Bool) (w : World) (h : OpAt w b k i t a nm tx) :
    Calls Tryz.prog 39 #[.pointer (some ⟨b, 0, none⟩), .agg #[.string word, .int .i64 n, .bool c, .bool d], .func (.func 40) #[] #[], .func (.func 41) #[] #[]] w fun e w' =>
      e = .returned (.tuple #[]) ∧ OpAt w' b k (zer n 3 0 i) (zer n 3 1 t) (zer n 3 2 a) (emp c nm) (emp d tx) ∧ Mut (· = b) w w' := by
  have H := Lib.hid h
  have hlt := lt_of_block h
  clear h
  have i0 : ∀ (x0 x1 x2 : Value) w, (Instr.index 133 (.agg #[x0, x1, x2]) (.int .i64 0)).run Tryz.prog w = .ok x0 w := fun _ _ _ _ => by kernel_rfl
  have i1 : ∀ (x0 x1 x2 : Value) w, (Instr.index 133 (.agg #[x0, x1, x2]) (.int .i64 1)).run Tryz.prog w = .ok x1 w := fun _ _ _ _ => by kernel_rfl
  have i2 : ∀ (x0 x1 x2 : Value) w, (Instr.index 133 (.agg #[x0, x1, x2]) (.int .i64 2)).run Tryz.prog w = .ok x2 w := fun _ _ _ _ => by kernel_rfl
  go_enter Tryz.func39, Tryz.ntmps39
  go_wp2_with fail
  go_quiet (fail)
  go_wp2_with fail
  go_loopw [20] (fun u wr => ∃ q : Nat, q ≤ 3 ∧ u = .int .i64 q ∧ Hid (OpAt wr b k (zer n q 0 i) (zer n q 1 t) (zer n q 2 a) nm tx) ∧ Hid (wr.heap[w.heap.size]? = some (.cells #[.string word, .int .i64 n, .bool c, .bool d] 96 (0, 0))) ∧ Hid (Mut (· = b) w wr)) (fun u _ => 3 - (intOf u).toNat)
  case atStart => exact ⟨0, by omega, rfl, by rw [zer_none, zer_none, zer_none]; exact alloc_blk H.out _, alloc_new _ _, ((Mut.refl _ _).alloc _).drewN _⟩
  case round =>
    obtain ⟨q, hq, rfl, H1, H2, H3⟩ := hrel
    have c1 := cell_blk H2.out 1 (v := .int .i64 n) rfl
    have c2 := cell_blk H2.out 2 (v := .bool c) rfl
    have c3 := cell_blk H2.out 3 (v := .bool d) rfl
    by_cases hq3 : q < 3
    · by_cases hqn : (q : Int) < n
      · have hcase : q = 0 ∨ q = 1 ∨ q = 2 := by omega
        rcases hcase with rfl | rfl | rfl
        · go_wp2_with fail
          refine (may1_any b 1 _ _ _ wr H1.out rfl).mono ?_
          rintro e w' ⟨rfl, rfl⟩
          go_wp2_with fail
          refine ⟨⟨1, by omega, by go_num, ?_, ?_, ?_⟩, by simp [intOf]⟩
          · rw [zer_hit (q := 0) hqn, zer_keep (q := 0) (by decide), zer_keep (q := 0) (by decide)]
            exact set_blk H1.out 1 (.int .i64 0)
          · exact set_blk_ne H2.out (by omega) _ _
          · exact H3.out.set (.inl rfl) _
        · go_wp2_with fail
          refine (may1_any b 2 _ _ _ wr H1.out rfl).mono ?_
          rintro e w' ⟨rfl, rfl⟩
          go_wp2_with fail
          refine ⟨⟨2, by omega, by go_num, ?_, ?_, ?_⟩, by simp [intOf]⟩
          · rw [zer_keep (q := 1) (by decide), zer_hit (q := 1) hqn, zer_keep (q := 1) (by decide)]
            exact set_blk H1.out 2 (.int .i64 0)
          · exact set_blk_ne H2.out (by omega) _ _
          · exact H3.out.set (.inl rfl) _
        · go_wp2_with fail
          refine (may1_any b 3 _ _ _ wr H1.out rfl).mono ?_
          rintro e w' ⟨rfl, rfl⟩
          go_wp2_with fail
          refine ⟨⟨3, by omega, by go_num, ?_, ?_, ?_⟩, by simp [intOf]⟩
          · rw [zer_keep (q := 2) (by decide), zer_keep (q := 2) (by decide), zer_hit (q := 2) hqn]
            exact set_blk H1.out 3 (.int .i64 0)
          · exact set_blk_ne H2.out (by omega) _ _
          · exact H3.out.set (.inl rfl) _
      · have hcase : q = 0 ∨ q = 1 ∨ q = 2 := by omega
        rcases hcase with rfl | rfl | rfl
        · go_wp2_with fail
          refine ⟨⟨1, by omega, by go_num, ?_, H2, H3⟩, by simp [intOf]⟩
          rw [zer_past hqn, zer_past hqn, zer_past hqn]
          exact H1
        · go_wp2_with fail
          refine ⟨⟨2, by omega, by go_num, ?_, H2, H3⟩, by simp [intOf]⟩
          rw [zer_past hqn, zer_past hqn, zer_past hqn]
          exact H1
        · go_wp2_with fail
          refine ⟨⟨3, by omega, by go_num, ?_, H2, H3⟩, by simp [intOf]⟩
          rw [zer_past hqn, zer_past hqn, zer_past hqn]
          exact H1
    · obtain rfl : q = 3 := by omega
      cases c
      · cases d
        · go_wp2_with fail
          go_end0
          exact ⟨rfl, H1.out, H3.out⟩
        · go_wp2_with fail
          refine (may2_any b 5 _ _ _ wr H1.out rfl).mono ?_
          rintro e w' ⟨rfl, rfl⟩
          go_wp2_with fail
          go_end0
          exact ⟨rfl, set_blk H1.out 5 _, H3.out.set (.inl rfl) _⟩
      · go_wp2_with fail
        refine (may2_any b 4 _ _ _ wr H1.out rfl).mono ?_
        rintro e w' ⟨rfl, rfl⟩
        have H5 := Lib.hid (set_blk H1.out 4 (.string ⟨#[]⟩))
        have H6 := Lib.hid (H3.out.set (p := ⟨b, 4, none⟩) (.inl rfl) (.string ⟨#[]⟩))
        cases d
        · go_wp2_with fail
          go_end0
          exact ⟨rfl, H5.out, H6.out⟩
        · go_wp2_with fail
          refine (may2_any b 5 _ _ _ _ H5.out rfl).mono ?_
          rintro e w' ⟨rfl, rfl⟩
          go_wp2_with fail
          go_end0
          exact ⟨rfl, set_blk H5.out 5 _, H6.out.set (.inl rfl) _⟩
end Go.Proofs.YtjcdpccfhpbccaaGreatDoor
namespace Go.Proofs.YtjcdpccfhpbccaaGreatDoor
open Go.RowKit

def shWord : Nat → ByteArray
  | 1 => ⟨#[101, 108, 101, 109, 101, 110, 116]⟩
  | 2 => ⟨#[116, 101, 120, 116]⟩
  | 3 => ⟨#[99, 111, 109, 109, 101, 110, 116]⟩
  | 4 => ⟨#[105, 110, 115, 101, 114, 116]⟩
  | 5 => ⟨#[114, 101, 109, 111, 118, 101]⟩
  | 6 => ⟨#[115, 101, 116]⟩
  | 7 => ⟨#[117, 110, 115, 101, 116]⟩
  | 8 => ⟨#[99, 104, 97, 110, 103, 101]⟩
  | _ => ⟨#[]⟩
def shNum : Nat → Int | 4 => 3 | 5 => 1 | 6 => 1 | 7 => 1 | 8 => 1 | _ => 0
def shName : Nat → Bool | 1 => true | 6 => true | 7 => true | _ => false
def shText : Nat → Bool | 2 => true | 3 => true | 6 => true | 8 => true | _ => false
def shv (k : Nat) : Value := .agg #[.string (shWord k), .int .i64 (shNum k), .bool (shName k), .bool (shText k)]

def shCells : Array Value := #[.string ⟨#[]⟩, .int .i64 0, .bool false, .bool false, .string ⟨#[101, 108, 101, 109, 101, 110, 116]⟩, .int .i64 0, .bool true, .bool false, .string ⟨#[116, 101, 120, 116]⟩, .int .i64 0, .bool false, .bool true, .string ⟨#[99, 111, 109, 109, 101, 110, 116]⟩, .int .i64 0, .bool false, .bool true, .string ⟨#[105, 110, 115, 101, 114, 116]⟩, .int .i64 3, .bool false, .bool false, .string ⟨#[114, 101, 109, 111, 118, 101]⟩, .int .i64 1, .bool false, .bool false, .string ⟨#[115, 101, 116]⟩, .int .i64 1, .bool true, .bool true, .string ⟨#[117, 110, 115, 101, 116]⟩, .int .i64 1, .bool true, .bool false, .string ⟨#[99, 104, 97, 110, 103, 101]⟩, .int .i64 1, .bool false, .bool true]
def shZero : Array Value := #[.string ⟨#[]⟩, .int .i64 0, .bool false, .bool false, .string ⟨#[]⟩, .int .i64 0, .bool false, .bool false, .string ⟨#[]⟩, .int .i64 0, .bool false, .bool false, .string ⟨#[]⟩, .int .i64 0, .bool false, .bool false, .string ⟨#[]⟩, .int .i64 0, .bool false, .bool false, .string ⟨#[]⟩, .int .i64 0, .bool false, .bool false, .string ⟨#[]⟩, .int .i64 0, .bool false, .bool false, .string ⟨#[]⟩, .int .i64 0, .bool false, .bool false, .string ⟨#[]⟩, .int .i64 0, .bool false, .bool false]
theorem sh_size : shCells.size = 36 := rfl
theorem shz_size : shZero.size = shCells.size := rfl
theorem sh_one : shCells.all (·.oneCell') = true := by kernel_rfl
theorem sh_info : (Tryz.prog.info? 131).map (·.size) = some shCells.size := by kernel_rfl

theorem sh_row (w : World) (A : Obj) (t : TypeId) : ((w.alloc A).alloc (.cells shZero t)).setRow (w.heap.size + 1) shCells = (w.alloc A).alloc (.cells shCells t) := by
  have h := World.setRow_alloc_new (w.alloc A) shZero shCells t
  rw [World.size_alloc] at h
  exact h

theorem wp_store_sh {ops : Array Oper} {rest : List Oper} {o : Oper} {a : Act} {Q : Exit → Act → World → Prop} {w : World} {A : Obj} (hgd : o.guard = none) (x y : Operand) (ho : o.op = .store 131 x y)
    (hx : a.eval x = .pointer (some ⟨w.heap.size + 1, 0, none⟩)) (hy : a.eval y = .agg shCells)
    (h : wpList Tryz.prog ops Q rest (a.put o.dst undef) ((w.alloc A).alloc (.cells shCells 131))) : wpList Tryz.prog ops Q (o :: rest) a ((w.alloc A).alloc (.cells shZero 131)) :=
  wpList_store_row hgd _ x y ho (w.heap.size + 1) shCells hx hy 131 shZero (heap_alloc2_new _ _ _) sh_info shz_size sh_one (by rw [sh_row]; exact h)

def ShEnd (k : Int) (w : World) (e : Ending) (w' : World) : Prop :=
  (∀ n : Nat, k = n → 1 ≤ n → n ≤ 8 → e = .returned (.tuple #[shv n, .bool true])) ∧ (k < 1 ∨ 8 < k → e = .returned (.tuple #[.agg #[.string ⟨#[]⟩, .int .i64 0, .bool false, .bool false], .bool false])) ∧ Below w.heap.size w w'
theorem sh_same {m n : Nat} (h : m = n) : Ending.returned (.tuple #[shv m, .bool true]) = .returned (.tuple #[shv n, .bool true]) := by rw [h]
theorem sh_b2 (w : World) (A B : Obj) : Below w.heap.size w ((w.alloc A).alloc B) := ((Below.refl _ _).alloc (Nat.le_refl _) _).alloc (by simp) _

set_option maxRecDepth 100000 in
set_option maxHeartbeats 2000000 in
theorem shaped_any (k : Int) (w : World) : Calls Tryz.prog 38 #[.int .i64 k] w (ShEnd k w) := by
  go_enter Tryz.func38, Tryz.ntmps38
  go_upto_region 2 with (refine wp_store_sh rfl _ _ rfl rfl rfl ?_)
  by_cases h : k < 1
  · go_wp2_with fail
    refine bodyPost_ret (v := .tuple #[.agg #[.string ⟨#[]⟩, .int .i64 0, .bool false, .bool false], .bool false]) (by simp [results, Tryz.results38, go_sem]) rfl ⟨fun n hn h1 h2 => by omega, fun _ => rfl, sh_b2 _ _ _⟩
  by_cases h2 : 8 < k
  · go_wp2_with fail
    refine bodyPost_ret (v := .tuple #[.agg #[.string ⟨#[]⟩, .int .i64 0, .bool false, .bool false], .bool false]) (by simp [results, Tryz.results38, go_sem]) rfl ⟨fun n hn h1 h2 => by omega, fun _ => rfl, sh_b2 _ _ _⟩
  · have hc : k = 1 ∨ k = 2 ∨ k = 3 ∨ k = 4 ∨ k = 5 ∨ k = 6 ∨ k = 7 ∨ k = 8 := by omega
    rcases hc with rfl | rfl | rfl | rfl | rfl | rfl | rfl | rfl
    · have q0 : shCells[4]? = some (.string ⟨#[101, 108, 101, 109, 101, 110, 116]⟩) := rfl
      have q1 : shCells[5]? = some (.int .i64 0) := rfl
      have q2 : shCells[6]? = some (.bool true) := rfl
      have q3 : shCells[7]? = some (.bool false) := rfl
      go_wp2_with fail
      refine bodyPost_ret (v := .tuple #[shv 1, .bool true]) (by simp [results, Tryz.results38, go_sem, shv, shWord, shNum, shName, shText]) rfl ⟨fun n hn _ _ => sh_same (m := 1) (by omega), fun h => by omega, sh_b2 _ _ _⟩
    · have q0 : shCells[8]? = some (.string ⟨#[116, 101, 120, 116]⟩) := rfl
      have q1 : shCells[9]? = some (.int .i64 0) := rfl
      have q2 : shCells[10]? = some (.bool false) := rfl
      have q3 : shCells[11]? = some (.bool true) := rfl
      go_wp2_with fail
      refine bodyPost_ret (v := .tuple #[shv 2, .bool true]) (by simp [results, Tryz.results38, go_sem, shv, shWord, shNum, shName, shText]) rfl ⟨fun n hn _ _ => sh_same (m := 2) (by omega), fun h => by omega, sh_b2 _ _ _⟩
    · have q0 : shCells[12]? = some (.string ⟨#[99, 111, 109, 109, 101, 110, 116]⟩) := rfl
      have q1 : shCells[13]? = some (.int .i64 0) := rfl
      have q2 : shCells[14]? = some (.bool false) := rfl
      have q3 : shCells[15]? = some (.bool true) := rfl
      go_wp2_with fail
      refine bodyPost_ret (v := .tuple #[shv 3, .bool true]) (by simp [results, Tryz.results38, go_sem, shv, shWord, shNum, shName, shText]) rfl ⟨fun n hn _ _ => sh_same (m := 3) (by omega), fun h => by omega, sh_b2 _ _ _⟩
    · have q0 : shCells[16]? = some (.string ⟨#[105, 110, 115, 101, 114, 116]⟩) := rfl
      have q1 : shCells[17]? = some (.int .i64 3) := rfl
      have q2 : shCells[18]? = some (.bool false) := rfl
      have q3 : shCells[19]? = some (.bool false) := rfl
      go_wp2_with fail
      refine bodyPost_ret (v := .tuple #[shv 4, .bool true]) (by simp [results, Tryz.results38, go_sem, shv, shWord, shNum, shName, shText]) rfl ⟨fun n hn _ _ => sh_same (m := 4) (by omega), fun h => by omega, sh_b2 _ _ _⟩
    · have q0 : shCells[20]? = some (.string ⟨#[114, 101, 109, 111, 118, 101]⟩) := rfl
      have q1 : shCells[21]? = some (.int .i64 1) := rfl
      have q2 : shCells[22]? = some (.bool false) := rfl
      have q3 : shCells[23]? = some (.bool false) := rfl
      go_wp2_with fail
      refine bodyPost_ret (v := .tuple #[shv 5, .bool true]) (by simp [results, Tryz.results38, go_sem, shv, shWord, shNum, shName, shText]) rfl ⟨fun n hn _ _ => sh_same (m := 5) (by omega), fun h => by omega, sh_b2 _ _ _⟩
    · have q0 : shCells[24]? = some (.string ⟨#[115, 101, 116]⟩) := rfl
      have q1 : shCells[25]? = some (.int .i64 1) := rfl
      have q2 : shCells[26]? = some (.bool true) := rfl
      have q3 : shCells[27]? = some (.bool true) := rfl
      go_wp2_with fail
      refine bodyPost_ret (v := .tuple #[shv 6, .bool true]) (by simp [results, Tryz.results38, go_sem, shv, shWord, shNum, shName, shText]) rfl ⟨fun n hn _ _ => sh_same (m := 6) (by omega), fun h => by omega, sh_b2 _ _ _⟩
    · have q0 : shCells[28]? = some (.string ⟨#[117, 110, 115, 101, 116]⟩) := rfl
      have q1 : shCells[29]? = some (.int .i64 1) := rfl
      have q2 : shCells[30]? = some (.bool true) := rfl
      have q3 : shCells[31]? = some (.bool false) := rfl
      go_wp2_with fail
      refine bodyPost_ret (v := .tuple #[shv 7, .bool true]) (by simp [results, Tryz.results38, go_sem, shv, shWord, shNum, shName, shText]) rfl ⟨fun n hn _ _ => sh_same (m := 7) (by omega), fun h => by omega, sh_b2 _ _ _⟩
    · have q0 : shCells[32]? = some (.string ⟨#[99, 104, 97, 110, 103, 101]⟩) := rfl
      have q1 : shCells[33]? = some (.int .i64 1) := rfl
      have q2 : shCells[34]? = some (.bool false) := rfl
      have q3 : shCells[35]? = some (.bool true) := rfl
      go_wp2_with fail
      refine bodyPost_ret (v := .tuple #[shv 8, .bool true]) (by simp [results, Tryz.results38, go_sem, shv, shWord, shNum, shName, shText]) rfl ⟨fun n hn _ _ => sh_same (m := 8) (by omega), fun h => by omega, sh_b2 _ _ _⟩

theorem shaped_yes (k : Nat) (h : 1 ≤ k) (h2 : k ≤ 8) (w : World) :
    Calls Tryz.prog 38 #[.int .i64 k] w fun e w' => e = .returned (.tuple #[shv k, .bool true]) ∧ Below w.heap.size w w' :=
  (shaped_any k w).mono fun _ _ ⟨h3, _, h4⟩ => ⟨h3 k rfl h h2, h4⟩
theorem shaped_no (k : Int) (h : k < 1 ∨ 8 < k) (w : World) :
    Calls Tryz.prog 38 #[.int .i64 k] w fun e w' => e = .returned (.tuple #[.agg #[.string ⟨#[]⟩, .int .i64 0, .bool false, .bool false], .bool false]) ∧ Below w.heap.size w w' :=
  (shaped_any k w).mono fun _ _ ⟨_, h3, h4⟩ => ⟨h3 h, h4⟩
end Go.Proofs.YtjcdpccfhpbccaaGreatDoor
namespace Go.Proofs.YtjcdpccfhpbccaaGreatDoor
open Go.RowKit

def mayB (k i t a : Int) (nm tx : ByteArray) : Bool :=
  decide (1 ≤ k ∧ k ≤ 8) && (decide (nm.size ≤ 255) && (decide (tx.size ≤ 255) &&
    (decide (zer (shNum k.toNat) 3 0 i = 0) && (decide (zer (shNum k.toNat) 3 1 t = 0) && (decide (zer (shNum k.toNat) 3 2 a = 0) && (decide ((emp (shName k.toNat) nm).toList = []) && decide ((emp (shText k.toNat) tx).toList = [])))))))

set_option maxRecDepth 100000 in
set_option maxHeartbeats 1000000 in
theorem may_out (k i t a : Int) (nm tx : ByteArray) (hn : nm.size ≤ 9223372036854775807) (ht : tx.size ≤ 9223372036854775807) (w : World) (h : ¬ (1 ≤ k ∧ k ≤ 8) ∨ 255 < nm.size ∨ 255 < tx.size) :
    Calls Tryz.prog 13 #[.agg #[.int .i64 k, .int .i64 i, .int .i64 t, .int .i64 a, .string nm, .string tx]] w fun e w' => e = .returned (.bool false) ∧ Below w.heap.size w w' := by
  by_cases h1 : 1 ≤ k ∧ k ≤ 8
  · obtain ⟨n, rfl⟩ : ∃ n : Nat, k = n := ⟨k.toNat, by omega⟩
    have h2 : 255 < nm.size ∨ nm.size ≤ 255 ∧ 255 < tx.size := by
      rcases h with h | h | h
      · exact absurd h1 h
      · exact .inl h
      · by_cases h3 : 255 < nm.size
        · exact .inl h3
        · exact .inr ⟨by omega, h⟩
    clear h
    rcases h2 with h2 | ⟨h2, h3⟩
    all_goals
      go_enter Tryz.func13, Tryz.ntmps13
      go_wp2_with fail
      refine (shaped_yes n (by omega) (by omega) _).mono ?_
      rintro e w1 ⟨rfl, hb⟩
      have hc := (hb.cell (p := ⟨w.heap.size, 4, none⟩) (by simp)).trans (cell_blk (alloc_new w _) 4 (v := .string nm) rfl)
      have hd := (hb.cell (p := ⟨w.heap.size, 5, none⟩) (by simp)).trans (cell_blk (alloc_new w _) 5 (v := .string tx) rfl)
      have hs : w.heap.size < w1.heap.size := by have := hb.size; simp at this; omega
      have HB := Lib.hid hb
      clear hb
      unfold shv
      go_wp2_with fail
      go_ret
      exact ⟨rfl, (below_via HB.out).alloc (by omega) _⟩
  · go_enter Tryz.func13, Tryz.ntmps13
    go_wp2_with fail
    refine (shaped_no k (by omega) _).mono ?_
    rintro e w1 ⟨rfl, hb⟩
    have hs : w.heap.size < w1.heap.size := by have := hb.size; simp at this; omega
    have HB := Lib.hid hb
    clear hb h
    go_wp2_with fail
    go_ret
    exact ⟨rfl, (below_via HB.out).alloc (by omega) _⟩

set_option maxRecDepth 100000 in
set_option maxHeartbeats 1000000 in
theorem may_in (n : Nat) (i t a : Int) (nm tx : ByteArray) (h1 : 1 ≤ n) (h8 : n ≤ 8) (hn : nm.size ≤ 255) (ht : tx.size ≤ 255) (w : World) :
    Calls Tryz.prog 13 #[.agg #[.int .i64 n, .int .i64 i, .int .i64 t, .int .i64 a, .string nm, .string tx]] w fun e w' => e = .returned (.bool (mayB n i t a nm tx)) ∧ Below w.heap.size w w' := by
  go_enter Tryz.func13, Tryz.ntmps13
  go_wp2_with fail
  refine (shaped_yes n h1 h8 _).mono ?_
  rintro e w1 ⟨rfl, hb⟩
  have hk := (hb.cell (p := ⟨w.heap.size, 0, none⟩) (by simp)).trans (cell_blk (alloc_new w _) 0 (v := .int .i64 n) rfl)
  have hi := (hb.cell (p := ⟨w.heap.size, 1, none⟩) (by simp)).trans (cell_blk (alloc_new w _) 1 (v := .int .i64 i) rfl)
  have htt := (hb.cell (p := ⟨w.heap.size, 2, none⟩) (by simp)).trans (cell_blk (alloc_new w _) 2 (v := .int .i64 t) rfl)
  have ha := (hb.cell (p := ⟨w.heap.size, 3, none⟩) (by simp)).trans (cell_blk (alloc_new w _) 3 (v := .int .i64 a) rfl)
  have hc := (hb.cell (p := ⟨w.heap.size, 4, none⟩) (by simp)).trans (cell_blk (alloc_new w _) 4 (v := .string nm) rfl)
  have hd := (hb.cell (p := ⟨w.heap.size, 5, none⟩) (by simp)).trans (cell_blk (alloc_new w _) 5 (v := .string tx) rfl)
  have hs : w.heap.size < w1.heap.size := by have := hb.size; simp at this; omega
  have HB := Lib.hid hb
  clear hb
  unfold shv
  go_wp2_with fail
  refine (each_may (w1.heap.size + 1) n i t a nm tx (shWord n) (shNum n) (by unfold shNum; split <;> decide) (shName n) (shText n) _ (by exact heap_alloc2_new _ _ _)).mono ?_
  rintro e w2 ⟨rfl, ho, hm⟩
  have k0 := cell_blk ho 0 (v := .int .i64 n) rfl
  have k1 := cell_blk ho 1 (v := .int .i64 (zer (shNum n) 3 0 i)) rfl
  have k2 := cell_blk ho 2 (v := .int .i64 (zer (shNum n) 3 1 t)) rfl
  have k3 := cell_blk ho 3 (v := .int .i64 (zer (shNum n) 3 2 a)) rfl
  have k4 := cell_blk ho 4 (v := .string (emp (shName n) nm)) rfl
  have k5 := cell_blk ho 5 (v := .string (emp (shText n) tx)) rfl
  have hk2 := hm.cell (a := ⟨w.heap.size, 0, none⟩) (((sh_b2 w1 _ _).cell (p := ⟨w.heap.size, 0, none⟩) hs).trans hk) (by show ¬ w.heap.size = _; omega)
  have HM := Lib.hid hm
  clear ho hk hi htt ha hc hd hm
  have hmay : mayB n i t a nm tx = (decide (zer (shNum n) 3 0 i = 0) && (decide (zer (shNum n) 3 1 t = 0) && (decide (zer (shNum n) 3 2 a = 0) && (decide ((emp (shName n) nm).toList = []) && decide ((emp (shText n) tx).toList = []))))) := by
    have e1 : (1 : Int) ≤ n ∧ (n : Int) ≤ 8 := by omega
    simp only [mayB, Int.toNat_natCast, e1, hn, ht, and_self, decide_true, Bool.true_and]
  have HMAY := Lib.hid hmay
  clear hmay
  generalize zer (shNum n) 3 0 i = z0 at *
  generalize zer (shNum n) 3 1 t = z1 at *
  generalize zer (shNum n) 3 2 a = z2 at *
  generalize emp (shName n) nm = z3 at *
  generalize emp (shText n) tx = z4 at *
  go_wp2_with fail
  all_goals
    go_ret
    refine ⟨?_, (((below_via HB.out).trans ((sh_b2 w1 _ _).mono (by omega))).trans (HM.out.below (B := w.heap.size) (by simp; omega) (fun k hk => by omega)))⟩
    rw [HMAY.out]
    simp [*]
    done
theorem mayB_out {k i t a : Int} {nm tx : ByteArray} (h : ¬ (1 ≤ k ∧ k ≤ 8) ∨ 255 < nm.size ∨ 255 < tx.size) : mayB k i t a nm tx = false := by
  unfold mayB
  rcases h with h | h | h
  · simp [h]
  · simp [show ¬ nm.size ≤ 255 from by omega]
  · simp [show ¬ tx.size ≤ 255 from by omega]
theorem may_any (k i t a : Int) (nm tx : ByteArray) (hn : nm.size ≤ 9223372036854775807) (ht : tx.size ≤ 9223372036854775807) (w : World) :
    Calls Tryz.prog 13 #[.agg #[.int .i64 k, .int .i64 i, .int .i64 t, .int .i64 a, .string nm, .string tx]] w fun e w' => e = .returned (.bool (mayB k i t a nm tx)) ∧ Below w.heap.size w w' := by
  by_cases h : ¬ (1 ≤ k ∧ k ≤ 8) ∨ 255 < nm.size ∨ 255 < tx.size
  · rw [mayB_out h]
    exact may_out k i t a nm tx hn ht w h
  · have h1 : 1 ≤ k ∧ k ≤ 8 ∧ nm.size ≤ 255 ∧ tx.size ≤ 255 := by omega
    obtain ⟨n, rfl⟩ : ∃ n : Nat, k = n := ⟨k.toNat, by omega⟩
    exact may_in n i t a nm tx (by omega) (by omega) h1.2.2.1 h1.2.2.2 w
end Go.Proofs.YtjcdpccfhpbccaaGreatDoor
namespace Go.Proofs.YtjcdpccfhpbccaaGreatDoor
open Go.RowKit

theorem Glob.drew {w : World} (h : Glob w) : Glob w.drew := ⟨h.tab, h.syn, h.rng, h.big, h.size⟩

set_option maxRecDepth 100000 in
set_option maxHeartbeats 1000000 in
theorem print1_any (s b j : Nat) (cs : Array Value) (t : TypeId) (v : Int) (x : ByteArray) (hx : x.size ≤ 4294967280) (h0 : -9223372036854775808 ≤ v) (h1 : v ≤ 9223372036854775807) (w : World) (hG : Glob w)
    (h : w.heap[b]? = some (.cells cs t (0, 0))) (hj : cs[j]? = some (.int .i64 v)) (hs : w.heap[s]? = some (.cells #[.string x] 9 (0, 0))) :
    Calls Tryz.prog 73 #[.pointer (some ⟨b, j, none⟩), .pointer (some ⟨s, 0, none⟩)] w fun e w' => e = .returned (.tuple #[]) ∧ w'.heap[s]? = some (.cells #[.string (x ++ (⟨#[32]⟩ ++ ⟨(Lib.itoa v).toArray⟩))] 9 (0, 0)) ∧ Mut (· = s) w w' := by
  have c1 := cell_blk h j hj
  have c2 := cell_blk hs 0 (v := .string x) rfl
  have f2 := froz_blk hs 0
  have l1 := lt_of_block h
  have l2 := lt_of_block hs
  have hl := Lib.itoa_length_le v h0 h1
  have hz := size_mk (Lib.itoa v)
  generalize hT : (⟨(Lib.itoa v).toArray⟩ : ByteArray) = T at *
  have HT := Lib.hid hT
  have hz2 : T.size ≤ 21 := by omega
  have HS := Lib.hid hs
  clear h hj hs hz hT hl
  go_enter Tryz.func73, Tryz.ntmps73
  go_wp2_with fail
  go_region_with ((go_at_call 28; refine (itoa_any v h0 h1 _ hG.drew).mono ?_; rintro e w1 ⟨rfl, hb⟩; rw [HT.out]; have c3 := (hb.cell (p := ⟨s, 0, none⟩) l2).trans c2; have f3 := (hb.frozen (p := ⟨s, 0, none⟩) l2).trans f2))
  all_goals
    go_end0
    exact ⟨rfl, set_blk ((hb.block s l2).trans HS.out) 0 _, Mut.set1 ((Mut.refl (· = s) w).drew.then_below hb) 0 _⟩

set_option maxRecDepth 100000 in
set_option maxHeartbeats 1000000 in
theorem print2_any (s b j : Nat) (cs : Array Value) (t : TypeId) (x y : ByteArray) (hx : x.size ≤ 4294967280) (hy : y.size ≤ 4294967280) (w : World)
    (h : w.heap[b]? = some (.cells cs t (0, 0))) (hj : cs[j]? = some (.string y)) (hs : w.heap[s]? = some (.cells #[.string x] 9 (0, 0))) :
    Calls Tryz.prog 74 #[.pointer (some ⟨b, j, none⟩), .pointer (some ⟨s, 0, none⟩)] w fun e w' => e = .returned (.tuple #[]) ∧ w'.heap[s]? = some (.cells #[.string (x ++ ((⟨#[32, 91]⟩ ++ y) ++ ⟨#[93]⟩))] 9 (0, 0)) ∧ Mut (· = s) w w' := by
  have c1 := cell_blk h j hj
  have c2 := cell_blk hs 0 (v := .string x) rfl
  have f2 := froz_blk hs 0
  have HS := Lib.hid hs
  clear h hj hs
  go_enter Tryz.func74, Tryz.ntmps74
  go_wp2_with fail
  go_region
  all_goals
    go_end0
    exact ⟨rfl, set_blk HS.out 0 _, Mut.set1 (Mut.refl (· = s) w).drew 0 _⟩
end Go.Proofs.YtjcdpccfhpbccaaGreatDoor
