/-
  The walk of the shapes of operations.
-/
import Derived.Test.YtjcdpccfhpbccaaDoorA3
import Derived.Deep.WholeRow
namespace Go.Proofs.YtjcdpccfhpbccaaDoor
open Go.RowKit

def shWord : Nat → ByteArray
  | 1 => ⟨#[101, 108, 101, 109, 101, 110, 116]⟩
  | 2 => ⟨#[116, 101, 120, 116]⟩
  | 3 => ⟨#[99, 111, 109, 109, 101, 110, 116]⟩
  | 4 => ⟨#[105, 110, 115, 101, 114, 116]⟩
  | 5 => ⟨#[114, 101, 109, 111, 118, 101]⟩
  | 6 => ⟨#[115, 101, 116]⟩
  | 7 => ⟨#[117, 110, 115, 101, 116]⟩
  | 8 => ⟨#[99, 104, 97, 110, 103, 101]⟩
  | _ => ⟨#[]⟩
def shNum : Nat → Int | 4 => 3 | 5 => 1 | 6 => 1 | 7 => 1 | 8 => 1 | _ => 0
def shName : Nat → Bool | 1 => true | 6 => true | 7 => true | _ => false
def shText : Nat → Bool | 2 => true | 3 => true | 6 => true | 8 => true | _ => false
def shv (k : Nat) : Value := .agg #[.string (shWord k), .int .i64 (shNum k), .bool (shName k), .bool (shText k)]

def shCells : Array Value := #[.string ⟨#[]⟩, .int .i64 0, .bool false, .bool false, .string ⟨#[101, 108, 101, 109, 101, 110, 116]⟩, .int .i64 0, .bool true, .bool false, .string ⟨#[116, 101, 120, 116]⟩, .int .i64 0, .bool false, .bool true, .string ⟨#[99, 111, 109, 109, 101, 110, 116]⟩, .int .i64 0, .bool false, .bool true, .string ⟨#[105, 110, 115, 101, 114, 116]⟩, .int .i64 3, .bool false, .bool false, .string ⟨#[114, 101, 109, 111, 118, 101]⟩, .int .i64 1, .bool false, .bool false, .string ⟨#[115, 101, 116]⟩, .int .i64 1, .bool true, .bool true, .string ⟨#[117, 110, 115, 101, 116]⟩, .int .i64 1, .bool true, .bool false, .string ⟨#[99, 104, 97, 110, 103, 101]⟩, .int .i64 1, .bool false, .bool true]
def shZero : Array Value := #[.string ⟨#[]⟩, .int .i64 0, .bool false, .bool false, .string ⟨#[]⟩, .int .i64 0, .bool false, .bool false, .string ⟨#[]⟩, .int .i64 0, .bool false, .bool false, .string ⟨#[]⟩, .int .i64 0, .bool false, .bool false, .string ⟨#[]⟩, .int .i64 0, .bool false, .bool false, .string ⟨#[]⟩, .int .i64 0, .bool false, .bool false, .string ⟨#[]⟩, .int .i64 0, .bool false, .bool false, .string ⟨#[]⟩, .int .i64 0, .bool false, .bool false, .string ⟨#[]⟩, .int .i64 0, .bool false, .bool false]
theorem sh_size : shCells.size = 36 := rfl
theorem shz_size : shZero.size = shCells.size := rfl
theorem sh_one : shCells.all (·.oneCell') = true := by kernel_rfl
theorem sh_info : (Tryd.prog.info? 111).map (·.size) = some shCells.size := by kernel_rfl

theorem sh_row (w : World) (A : Obj) (t : TypeId) : ((w.alloc A).alloc (.cells shZero t)).setRow (w.heap.size + 1) shCells = (w.alloc A).alloc (.cells shCells t) := by
  have h := World.setRow_alloc_new (w.alloc A) shZero shCells t
  rw [World.size_alloc] at h
  exact h

theorem wp_store_sh {ops : Array Oper} {rest : List Oper} {o : Oper} {a : Act} {Q : Exit → Act → World → Prop} {w : World} {A : Obj} (hgd : o.guard = none) (x y : Operand) (ho : o.op = .store 111 x y)
    (hx : a.eval x = .pointer (some ⟨w.heap.size + 1, 0, none⟩)) (hy : a.eval y = .agg shCells)
    (h : wpList Tryd.prog ops Q rest (a.put o.dst undef) ((w.alloc A).alloc (.cells shCells 111))) : wpList Tryd.prog ops Q (o :: rest) a ((w.alloc A).alloc (.cells shZero 111)) :=
  wpList_store_row hgd _ x y ho (w.heap.size + 1) shCells hx hy 111 shZero (heap_alloc2_new _ _ _) sh_info shz_size sh_one (by rw [sh_row]; exact h)

def ShEnd (k : Int) (w : World) (e : Ending) (w' : World) : Prop :=
  (∀ n : Nat, k = n → 1 ≤ n → n ≤ 8 → e = .returned (.tuple #[shv n, .bool true])) ∧ (k < 1 ∨ 8 < k → e = .returned (.tuple #[.agg #[.string ⟨#[]⟩, .int .i64 0, .bool false, .bool false], .bool false])) ∧ Below w.heap.size w w'
theorem sh_same {m n : Nat} (h : m = n) : Ending.returned (.tuple #[shv m, .bool true]) = .returned (.tuple #[shv n, .bool true]) := by rw [h]
theorem sh_b2 (w : World) (A B : Obj) : Below w.heap.size w ((w.alloc A).alloc B) := ((Below.refl _ _).alloc (Nat.le_refl _) _).alloc (by simp) _

set_option maxRecDepth 100000 in
set_option maxHeartbeats 2000000 in
theorem shaped_any (k : Int) (w : World) : Calls Tryd.prog 29 #[.int .i64 k] w (ShEnd k w) := by
  go_enter Tryd.func29, Tryd.ntmps29
  go_upto_region 2 with (refine wp_store_sh rfl _ _ rfl rfl rfl ?_)
  by_cases h : k < 1
  · go_wp2_with fail
    refine bodyPost_ret (v := .tuple #[.agg #[.string ⟨#[]⟩, .int .i64 0, .bool false, .bool false], .bool false]) (by simp [results, Tryd.results29, go_sem]) rfl ⟨fun n hn h1 h2 => by omega, fun _ => rfl, sh_b2 _ _ _⟩
  by_cases h2 : 8 < k
  · go_wp2_with fail
    refine bodyPost_ret (v := .tuple #[.agg #[.string ⟨#[]⟩, .int .i64 0, .bool false, .bool false], .bool false]) (by simp [results, Tryd.results29, go_sem]) rfl ⟨fun n hn h1 h2 => by omega, fun _ => rfl, sh_b2 _ _ _⟩
  · have hc : k = 1 ∨ k = 2 ∨ k = 3 ∨ k = 4 ∨ k = 5 ∨ k = 6 ∨ k = 7 ∨ k = 8 := by omega
    rcases hc with rfl | rfl | rfl | rfl | rfl | rfl | rfl | rfl
    · have q0 : shCells[4]? = some (.string ⟨#[101, 108, 101, 109, 101, 110, 116]⟩) := rfl
      have q1 : shCells[5]? = some (.int .i64 0) := rfl
      have q2 : shCells[6]? = some (.bool true) := rfl
      have q3 : shCells[7]? = some (.bool false) := rfl
      go_wp2_with fail
      refine bodyPost_ret (v := .tuple #[shv 1, .bool true]) (by simp [results, Tryd.results29, go_sem, shv, shWord, shNum, shName, shText]) rfl ⟨fun n hn _ _ => sh_same (m := 1) (by omega), fun h => by omega, sh_b2 _ _ _⟩
    · have q0 : shCells[8]? = some (.string ⟨#[116, 101, 120, 116]⟩) := rfl
      have q1 : shCells[9]? = some (.int .i64 0) := rfl
      have q2 : shCells[10]? = some (.bool false) := rfl
      have q3 : shCells[11]? = some (.bool true) := rfl
      go_wp2_with fail
      refine bodyPost_ret (v := .tuple #[shv 2, .bool true]) (by simp [results, Tryd.results29, go_sem, shv, shWord, shNum, shName, shText]) rfl ⟨fun n hn _ _ => sh_same (m := 2) (by omega), fun h => by omega, sh_b2 _ _ _⟩
    · have q0 : shCells[12]? = some (.string ⟨#[99, 111, 109, 109, 101, 110, 116]⟩) := rfl
      have q1 : shCells[13]? = some (.int .i64 0) := rfl
      have q2 : shCells[14]? = some (.bool false) := rfl
      have q3 : shCells[15]? = some (.bool true) := rfl
      go_wp2_with fail
      refine bodyPost_ret (v := .tuple #[shv 3, .bool true]) (by simp [results, Tryd.results29, go_sem, shv, shWord, shNum, shName, shText]) rfl ⟨fun n hn _ _ => sh_same (m := 3) (by omega), fun h => by omega, sh_b2 _ _ _⟩
    · have q0 : shCells[16]? = some (.string ⟨#[105, 110, 115, 101, 114, 116]⟩) := rfl
      have q1 : shCells[17]? = some (.int .i64 3) := rfl
      have q2 : shCells[18]? = some (.bool false) := rfl
      have q3 : shCells[19]? = some (.bool false) := rfl
      go_wp2_with fail
      refine bodyPost_ret (v := .tuple #[shv 4, .bool true]) (by simp [results, Tryd.results29, go_sem, shv, shWord, shNum, shName, shText]) rfl ⟨fun n hn _ _ => sh_same (m := 4) (by omega), fun h => by omega, sh_b2 _ _ _⟩
    · have q0 : shCells[20]? = some (.string ⟨#[114, 101, 109, 111, 118, 101]⟩) := rfl
      have q1 : shCells[21]? = some (.int .i64 1) := rfl
      have q2 : shCells[22]? = some (.bool false) := rfl
      have q3 : shCells[23]? = some (.bool false) := rfl
      go_wp2_with fail
      refine bodyPost_ret (v := .tuple #[shv 5, .bool true]) (by simp [results, Tryd.results29, go_sem, shv, shWord, shNum, shName, shText]) rfl ⟨fun n hn _ _ => sh_same (m := 5) (by omega), fun h => by omega, sh_b2 _ _ _⟩
    · have q0 : shCells[24]? = some (.string ⟨#[115, 101, 116]⟩) := rfl
      have q1 : shCells[25]? = some (.int .i64 1) := rfl
      have q2 : shCells[26]? = some (.bool true) := rfl
      have q3 : shCells[27]? = some (.bool true) := rfl
      go_wp2_with fail
      refine bodyPost_ret (v := .tuple #[shv 6, .bool true]) (by simp [results, Tryd.results29, go_sem, shv, shWord, shNum, shName, shText]) rfl ⟨fun n hn _ _ => sh_same (m := 6) (by omega), fun h => by omega, sh_b2 _ _ _⟩
    · have q0 : shCells[28]? = some (.string ⟨#[117, 110, 115, 101, 116]⟩) := rfl
      have q1 : shCells[29]? = some (.int .i64 1) := rfl
      have q2 : shCells[30]? = some (.bool true) := rfl
      have q3 : shCells[31]? = some (.bool false) := rfl
      go_wp2_with fail
      refine bodyPost_ret (v := .tuple #[shv 7, .bool true]) (by simp [results, Tryd.results29, go_sem, shv, shWord, shNum, shName, shText]) rfl ⟨fun n hn _ _ => sh_same (m := 7) (by omega), fun h => by omega, sh_b2 _ _ _⟩
    · have q0 : shCells[32]? = some (.string ⟨#[99, 104, 97, 110, 103, 101]⟩) := rfl
      have q1 : shCells[33]? = some (.int .i64 1) := rfl
      have q2 : shCells[34]? = some (.bool false) := rfl
      have q3 : shCells[35]? = some (.bool true) := rfl
      go_wp2_with fail
      refine bodyPost_ret (v := .tuple #[shv 8, .bool true]) (by simp [results, Tryd.results29, go_sem, shv, shWord, shNum, shName, shText]) rfl ⟨fun n hn _ _ => sh_same (m := 8) (by omega), fun h => by omega, sh_b2 _ _ _⟩

theorem shaped_yes (k : Nat) (h : 1 ≤ k) (h2 : k ≤ 8) (w : World) :
    Calls Tryd.prog 29 #[.int .i64 k] w fun e w' => e = .returned (.tuple #[shv k, .bool true]) ∧ Below w.heap.size w w' :=
  (shaped_any k w).mono fun _ _ ⟨h3, _, h4⟩ => ⟨h3 k rfl h h2, h4⟩
theorem shaped_no (k : Int) (h : k < 1 ∨ 8 < k) (w : World) :
    Calls Tryd.prog 29 #[.int .i64 k] w fun e w' => e = .returned (.tuple #[.agg #[.string ⟨#[]⟩, .int .i64 0, .bool false, .bool false], .bool false]) ∧ Below w.heap.size w w' :=
  (shaped_any k w).mono fun _ _ ⟨_, h3, h4⟩ => ⟨h3 h, h4⟩
end Go.Proofs.YtjcdpccfhpbccaaDoor
