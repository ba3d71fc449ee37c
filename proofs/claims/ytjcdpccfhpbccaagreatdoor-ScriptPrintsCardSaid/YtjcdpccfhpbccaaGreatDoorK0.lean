/-
  What the library's variables hold, from what a row says of its listed variables.
-/
import Derived.Test.YtjcdpccfhpbccaaGreatDoorA3
import Derived.Test.YtjcdpccfhpbccaaGreatDoorRows
import Derived.Stop.LaidErr
import Derived.Stop.ErrReads
import Derived.Lib.LaidTab
import Derived.Shelf.Vars
import Derived.MakeChecks
namespace Go.Proofs.YtjcdpccfhpbccaaGreatDoor
open Go.RowKit

abbrev laid7 : List (String × DataW Unit) := [("math/bits.deBruijn32tab", Rows.laid_math_bits_deBruijn32tab), ("math/bits.deBruijn64tab", Rows.laid_math_bits_deBruijn64tab), ("internal/strconv.uint64pow10", Rows.laid_internal_strconv_uint64pow10), ("unicode/utf8.acceptRanges", Rows.laid_unicode_utf8_acceptRanges), ("strconv.ErrRange", Rows.laid_strconv_ErrRange), ("strconv.ErrSyntax", Rows.laid_strconv_ErrSyntax), ("unicode/utf8.first", Rows.laid_unicode_utf8_first)]
theorem laid_plain (W : World) : laidMetH Tryz.prog laid7 W = laidMet Tryz.prog laid7 W := MakeChecks.laidMetH_plain _ _ _ (by kernel_rfl)
theorem es_star : "*" ++ "errors.errorString" = "*errors.errorString" := by decide
theorem es_row (u : TypeId) (h : Tryz.prog.typeName? 3 u = some "*errors.errorString") : u = 181 :=
  typeName_ptr_named (nm := "errors.errorString") (by rw [es_star]; kernel_rfl) (by kernel_rfl) (by decide) u (by rw [es_star]; exact h)
theorem cells_es : Tryz.prog.cellsOf 183 = 1 := by kernel_rfl
theorem cells_str : Tryz.prog.cellsOf 9 = 1 := by kernel_rfl
theorem g_pow : Tryz.prog.globalNamed "internal/strconv.uint64pow10" = some 1 := by kernel_rfl
theorem g_powT : (Tryz.prog.globals[1]?).map (·.type) = some 163 := by kernel_rfl
theorem g_rng : Tryz.prog.globalNamed "strconv.ErrRange" = some 5 := by kernel_rfl
theorem g_rngT : (Tryz.prog.globals[5]?).map (·.type) = some 83 := by kernel_rfl
theorem g_syn : Tryz.prog.globalNamed "strconv.ErrSyntax" = some 4 := by kernel_rfl
theorem g_synT : (Tryz.prog.globals[4]?).map (·.type) = some 83 := by kernel_rfl
theorem row_max : ((begin Tryz.prog (fun _ _ => 0) default).world.heap[0]?).bind Obj.row? = some (#[.int .i64 0], 3) := by kernel_rfl
theorem cells_u64 : Tryz.prog.cellsOf 129 = 1 := by kernel_rfl
theorem cells_pow : Tryz.prog.cellsOf 163 = 20 := by kernel_rfl

theorem cell_lt {W : World} {b o : Nat} {v : Value} (h : W.cell? ⟨b, o, none⟩ = some v) : b < W.heap.size := by
  by_cases hb : b < W.heap.size
  · exact hb
  · have : W.heap[b]? = none := Array.getElem?_eq_none (by omega)
    simp [World.cell?, this] at h
theorem glob_of {W : World} (hL : laidMet Tryz.prog laid7 W) (hS : W.ShapedOpen Tryz.prog) : Glob W := by
  have h3 := hL.tail.tail
  have h5 := h3.tail.tail
  have h6 := h5.tail
  obtain ⟨a1, s1, v1, _⟩ := laid_sentinel h5 g_rng g_rngT Tryz.underlying83 es_row Tryz.underlying181 Tryz.underlying183 rfl rfl Tryz.underlying9 cells_es cells_str
  obtain ⟨a2, s2, v2, _⟩ := laid_sentinel h6 g_syn g_synT Tryz.underlying83 es_row Tryz.underlying181 Tryz.underlying183 rfl rfl Tryz.underlying9 cells_es cells_str
  obtain ⟨m, hm⟩ := cell_of_shapedOpen_int hS (by decide) row_max rfl (by kernel_rfl) (by kernel_rfl) Tryz.underlying3
  have c1 : W.cell? ⟨5, 0, none⟩ = some (.iface 181 (.pointer (some a1))) := by simpa using World.var?_cell g_rng v1 0
  have c2 : W.cell? ⟨4, 0, none⟩ = some (.iface 181 (.pointer (some a2))) := by simpa using World.var?_cell g_syn v2 0
  refine ⟨Lib.tabIs_of_head (rest := laid7.drop 3) g_pow g_powT Tryz.underlying163 Tryz.underlying129 cells_u64 cells_pow h3, ⟨_, _, c2⟩, ⟨_, _, c1⟩, ⟨m, hm⟩, ?_⟩
  have s1 := cell_lt c1
  have s2 := cell_lt c2
  omega
end Go.Proofs.YtjcdpccfhpbccaaGreatDoor
