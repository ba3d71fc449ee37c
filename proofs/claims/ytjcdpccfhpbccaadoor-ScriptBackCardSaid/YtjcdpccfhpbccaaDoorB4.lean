/-
  The walks of an operation's text: Print's two closures, each with them, Print.
-/
import Derived.Test.YtjcdpccfhpbccaaDoorB3
import Derived.Deep.RegionWith
import Derived.Lib.ItoaLen
namespace Go.Proofs.YtjcdpccfhpbccaaDoor
open Go.RowKit

theorem Glob.drew {w : World} (h : Glob w) : Glob w.drew := ⟨h.tab, h.syn, h.rng, h.big, h.size⟩

set_option maxRecDepth 100000 in
set_option maxHeartbeats 1000000 in
theorem print1_any (s b j : Nat) (cs : Array Value) (t : TypeId) (v : Int) (x : ByteArray) (hx : x.size ≤ 4294967280) (h0 : -9223372036854775808 ≤ v) (h1 : v ≤ 9223372036854775807) (w : World) (hG : Glob w)
    (h : w.heap[b]? = some (.cells cs t (0, 0))) (hj : cs[j]? = some (.int .i64 v)) (hs : w.heap[s]? = some (.cells #[.string x] 9 (0, 0))) :
    Calls Tryd.prog 57 #[.pointer (some ⟨b, j, none⟩), .pointer (some ⟨s, 0, none⟩)] w fun e w' => e = .returned (.tuple #[]) ∧ w'.heap[s]? = some (.cells #[.string (x ++ (⟨#[32]⟩ ++ ⟨(Lib.itoa v).toArray⟩))] 9 (0, 0)) ∧ Mut (· = s) w w' := by
  have c1 := cell_blk h j hj
  have c2 := cell_blk hs 0 (v := .string x) rfl
  have f2 := froz_blk hs 0
  have l1 := lt_of_block h
  have l2 := lt_of_block hs
  have hl := Lib.itoa_length_le v h0 h1
  have hz := size_mk (Lib.itoa v)
  generalize hT : (⟨(Lib.itoa v).toArray⟩ : ByteArray) = T at *
  have HT := Lib.hid hT
  have hz2 : T.size ≤ 21 := by omega
  have HS := Lib.hid hs
  clear h hj hs hz hT hl
  go_enter Tryd.func57, Tryd.ntmps57
  go_wp2_with fail
  go_region_with ((go_at_call 19; refine (itoa_any v h0 h1 _ hG.drew).mono ?_; rintro e w1 ⟨rfl, hb⟩; rw [HT.out]; have c3 := (hb.cell (p := ⟨s, 0, none⟩) l2).trans c2; have f3 := (hb.frozen (p := ⟨s, 0, none⟩) l2).trans f2))
  all_goals
    go_end0
    exact ⟨rfl, set_blk ((hb.block s l2).trans HS.out) 0 _, Mut.set1 ((Mut.refl (· = s) w).drew.then_below hb) 0 _⟩

set_option maxRecDepth 100000 in
set_option maxHeartbeats 1000000 in
theorem print2_any (s b j : Nat) (cs : Array Value) (t : TypeId) (x y : ByteArray) (hx : x.size ≤ 4294967280) (hy : y.size ≤ 4294967280) (w : World)
    (h : w.heap[b]? = some (.cells cs t (0, 0))) (hj : cs[j]? = some (.string y)) (hs : w.heap[s]? = some (.cells #[.string x] 9 (0, 0))) :
    Calls Tryd.prog 58 #[.pointer (some ⟨b, j, none⟩), .pointer (some ⟨s, 0, none⟩)] w fun e w' => e = .returned (.tuple #[]) ∧ w'.heap[s]? = some (.cells #[.string (x ++ ((⟨#[32, 91]⟩ ++ y) ++ ⟨#[93]⟩))] 9 (0, 0)) ∧ Mut (· = s) w w' := by
  have c1 := cell_blk h j hj
  have c2 := cell_blk hs 0 (v := .string x) rfl
  have f2 := froz_blk hs 0
  have HS := Lib.hid hs
  clear h hj hs
  go_enter Tryd.func58, Tryd.ntmps58
  go_wp2_with fail
  go_region
  all_goals
    go_end0
    exact ⟨rfl, set_blk HS.out 0 _, Mut.set1 (Mut.refl (· = s) w).drew 0 _⟩
end Go.Proofs.YtjcdpccfhpbccaaDoor
