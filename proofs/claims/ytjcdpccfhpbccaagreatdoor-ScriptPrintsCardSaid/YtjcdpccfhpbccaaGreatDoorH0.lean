/-
  The text that a law shows, read as a script: plainly.
-/
import Derived.Test.YtjcdpccfhpbccaaGreatDoorE5
namespace Go.Proofs.YtjcdpccfhpbccaaGreatDoor
open Go.RowKit Go.Proofs.YtjcdpccfhpbccaaGreatDoorW.PrintWords

def tShown : List UInt8 := [119, 111, 114, 108, 100, 32, 49, 32, 50, 32, 51, 48, 32, 52, 48, 10, 99, 108, 105, 101, 110, 116, 10, 115, 117, 98, 109, 105, 116, 32, 43, 101, 108, 101, 109, 101, 110, 116, 32, 91, 97, 93, 32, 43, 105, 110, 115, 101, 114, 116, 32, 49, 32, 48, 32, 48, 10, 114, 101, 97, 100, 32, 57, 32, 48, 32, 45, 49, 32, 91, 120, 32, 121, 93, 10, 111, 112, 101, 110, 10, 112, 105, 99, 107, 115, 32, 48, 32, 49, 32, 50, 53, 53, 10]
def tBad : List UInt8 := [119, 111, 114, 108, 100, 32, 49, 32, 50, 32, 51, 48, 32, 52, 48, 10, 99, 108, 105, 101, 110, 116, 10, 122, 10]
def oShown : OpD := ⟨1, 0, 0, 0, ⟨#[97]⟩, ⟨#[]⟩⟩
def sShown : ScrD := ⟨1, 2, 30, 40, [[⟨1, [oShown, ⟨4, 1, 0, 0, ⟨#[]⟩, ⟨#[]⟩⟩], qZero⟩, ⟨2, [], ⟨9, 0, -1, ⟨#[120, 32, 121]⟩⟩⟩, ⟨3, [], qZero⟩]], [0, 1, 255]⟩
theorem sh_w0 : Scr.words [119, 111, 114, 108, 100, 32, 49, 32, 50, 32, 51, 48, 32, 52, 48] = [[119, 111, 114, 108, 100], [49], [50], [51, 48], [52, 48]] := by kernel_rfl
theorem sh_w1 : Scr.words [99, 108, 105, 101, 110, 116] = [[99, 108, 105, 101, 110, 116]] := by kernel_rfl
theorem sh_w2 : Scr.words [115, 117, 98, 109, 105, 116, 32, 43, 101, 108, 101, 109, 101, 110, 116, 32, 91, 97, 93, 32, 43, 105, 110, 115, 101, 114, 116, 32, 49, 32, 48, 32, 48] = [[115, 117, 98, 109, 105, 116], [43, 101, 108, 101, 109, 101, 110, 116], [91, 97, 93], [43, 105, 110, 115, 101, 114, 116], [49], [48], [48]] := by kernel_rfl
theorem sh_w3 : Scr.words [114, 101, 97, 100, 32, 57, 32, 48, 32, 45, 49, 32, 91, 120, 32, 121, 93] = [[114, 101, 97, 100], [57], [48], [45, 49], [91, 120, 32, 121, 93]] := by kernel_rfl
theorem sh_w4 : Scr.words [111, 112, 101, 110] = [[111, 112, 101, 110]] := by kernel_rfl
theorem sh_w5 : Scr.words [112, 105, 99, 107, 115, 32, 48, 32, 49, 32, 50, 53, 53] = [[112, 105, 99, 107, 115], [48], [49], [50, 53, 53]] := by kernel_rfl
theorem sh_pieces : pieces tShown = [[119, 111, 114, 108, 100, 32, 49, 32, 50, 32, 51, 48, 32, 52, 48], [99, 108, 105, 101, 110, 116], [115, 117, 98, 109, 105, 116, 32, 43, 101, 108, 101, 109, 101, 110, 116, 32, 91, 97, 93, 32, 43, 105, 110, 115, 101, 114, 116, 32, 49, 32, 48, 32, 48], [114, 101, 97, 100, 32, 57, 32, 48, 32, 45, 49, 32, 91, 120, 32, 121, 93], [111, 112, 101, 110], [112, 105, 99, 107, 115, 32, 48, 32, 49, 32, 50, 53, 53], []] := by kernel_rfl
theorem sh_head : pHead [[119, 111, 114, 108, 100], [49], [50], [51, 48], [52, 48]] = some (1, 2, 30, 40) := by kernel_rfl
theorem sh_op1 : pOp [[43, 101, 108, 101, 109, 101, 110, 116], [91, 97, 93], [43, 105, 110, 115, 101, 114, 116], [49], [48], [48]] = some (oShown, [[43, 105, 110, 115, 101, 114, 116], [49], [48], [48]]) := by kernel_rfl
theorem sh_op2 : pOp [[43, 105, 110, 115, 101, 114, 116], [49], [48], [48]] = some (⟨4, 1, 0, 0, ⟨#[]⟩, ⟨#[]⟩⟩, []) := by kernel_rfl
theorem sh_q : pQuery [[57], [48], [45, 49], [91, 120, 32, 121, 93]] = some ⟨9, 0, -1, ⟨#[120, 32, 121]⟩⟩ := by kernel_rfl
theorem sh_p : pPicks [[48], [49], [50, 53, 53]] = some [0, 1, 255] := by kernel_rfl
theorem sh_f2 : firstB [115, 117, 98, 109, 105, 116, 32, 43, 101, 108, 101, 109, 101, 110, 116, 32, 91, 97, 93, 32, 43, 105, 110, 115, 101, 114, 116, 32, 49, 32, 48, 32, 48] = kSubmit := by kernel_rfl
theorem sh_f3 : firstB [114, 101, 97, 100, 32, 57, 32, 48, 32, 45, 49, 32, 91, 120, 32, 121, 93] = kRead := by kernel_rfl
theorem sh_f4 : firstB [111, 112, 101, 110] = kOpen := by kernel_rfl
theorem sh_f5 : firstB [112, 105, 99, 107, 115, 32, 48, 32, 49, 32, 50, 53, 53] = kPicks := by kernel_rfl
theorem sh_c2 : pCall (Scr.words [115, 117, 98, 109, 105, 116, 32, 43, 101, 108, 101, 109, 101, 110, 116, 32, 91, 97, 93, 32, 43, 105, 110, 115, 101, 114, 116, 32, 49, 32, 48, 32, 48]) = some ⟨1, [oShown, ⟨4, 1, 0, 0, ⟨#[]⟩, ⟨#[]⟩⟩], qZero⟩ := by
  rw [sh_w2]
  simp only [pCall]
  rw [if_pos (by rfl), pOps_some sh_op1, pOps_some sh_op2, pOps_nil]
  rfl
theorem sh_c3 : pCall (Scr.words [114, 101, 97, 100, 32, 57, 32, 48, 32, 45, 49, 32, 91, 120, 32, 121, 93]) = some ⟨2, [], ⟨9, 0, -1, ⟨#[120, 32, 121]⟩⟩⟩ := by
  rw [sh_w3]
  simp only [pCall]
  rw [if_neg (by decide), if_pos (by rfl), sh_q]
  rfl
theorem sh_c4 : pCall (Scr.words [111, 112, 101, 110]) = some ⟨3, [], qZero⟩ := by kernel_rfl
theorem shown_row : pRow [[115, 117, 98, 109, 105, 116, 32, 43, 101, 108, 101, 109, 101, 110, 116, 32, 91, 97, 93, 32, 43, 105, 110, 115, 101, 114, 116, 32, 49, 32, 48, 32, 48], [114, 101, 97, 100, 32, 57, 32, 48, 32, 45, 49, 32, 91, 120, 32, 121, 93], [111, 112, 101, 110], [112, 105, 99, 107, 115, 32, 48, 32, 49, 32, 50, 53, 53]] 2 [] = .ok ([⟨1, [oShown, ⟨4, 1, 0, 0, ⟨#[]⟩, ⟨#[]⟩⟩], qZero⟩, ⟨2, [], ⟨9, 0, -1, ⟨#[120, 32, 121]⟩⟩⟩, ⟨3, [], qZero⟩], [[112, 105, 99, 107, 115, 32, 48, 32, 49, 32, 50, 53, 53]], 5) := by
  rw [pRow, if_neg (by rw [sh_f2]; decide), sh_c2]
  simp only []
  rw [if_neg (by decide), pRow, if_neg (by rw [sh_f3]; decide), sh_c3]
  simp only []
  rw [if_neg (by decide), pRow, if_neg (by rw [sh_f4]; decide), sh_c4]
  simp only []
  rw [if_neg (by decide), pRow, if_pos (by rw [sh_f5]; decide)]
  rfl
theorem sh_last : pLast [[112, 105, 99, 107, 115, 32, 48, 32, 49, 32, 50, 53, 53]] 5 = .ok [0, 1, 255] := by
  rw [pLast, sh_w5]
  simp only []
  rw [if_pos (by rfl), sh_p]
  rfl
theorem shown_parse : pParse (pieces tShown) = .ok sShown := by
  rw [sh_pieces]
  unfold pParse
  simp only [List.dropLast]
  rw [pScript, sh_w0, sh_head]
  simp only []
  rw [show (1 : Int).toNat = 1 from rfl, pClients, if_pos (by rfl), shown_row]
  simp only []
  rw [pClients]
  simp only []
  rw [sh_last]
  simp [sShown]
theorem bad_parse : pParse (pieces tBad) = .error 2 := by kernel_rfl
end Go.Proofs.YtjcdpccfhpbccaaGreatDoor
