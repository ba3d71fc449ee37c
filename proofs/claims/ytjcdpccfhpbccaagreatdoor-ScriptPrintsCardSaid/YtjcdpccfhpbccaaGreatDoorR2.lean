/-
  The walk of the document's own text of an operation.
-/
import Derived.Test.YtjcdpccfhpbccaaGreatDoorP7
import Derived.Test.YtjcdpccfhpbccaaGreatDoorF1
import Derived.Test.YtjcdpccfhpbccaaGreatDoorM0
namespace Go.Proofs.YtjcdpccfhpbccaaGreatDoor
open Go.RowKit Go.Proofs.YtjcdpccfhpbccaaGreatDoorW.PrintWords

def oLet (o : OpD) (c : UInt8) : List UInt8 :=
  if c = 105 then 32 :: Lib.itoa o.i else if c = 116 then 32 :: Lib.itoa o.t else if c = 97 then 32 :: Lib.itoa o.a else if c = 110 then 32 :: 91 :: (bl o.n ++ [93]) else if c = 120 then 32 :: 91 :: (bl o.x ++ [93]) else []
theorem h6_in {m : Nat} (hm : m < 8) : (h6 ((m : Int) + 1)).size ≤ 3 ∧ ∀ c ∈ bl (h6 ((m : Int) + 1)), c = 105 ∨ c = 116 ∨ c = 97 ∨ c = 110 ∨ c = 120 := by
  have hj : m = 0 ∨ m = 1 ∨ m = 2 ∨ m = 3 ∨ m = 4 ∨ m = 5 ∨ m = 6 ∨ m = 7 := by omega
  rcases hj with rfl | rfl | rfl | rfl | rfl | rfl | rfl | rfl <;> exact ⟨by decide, by decide⟩
theorem oText_let (o : OpD) {m : Nat} (hm : m < 8) (hk : o.k = (m : Int) + 1) (hb : mayB o.k o.i o.t o.a o.n o.x = true) : oText o = bl (shWord (m + 1)) ++ (bl (h6 o.k)).flatMap (oLet o) := by
  rw [oText, opText, if_pos hb, hk]
  have hj : m = 0 ∨ m = 1 ∨ m = 2 ∨ m = 3 ∨ m = 4 ∨ m = 5 ∨ m = 6 ∨ m = 7 := by omega
  rcases hj with rfl | rfl | rfl | rfl | rfl | rfl | rfl | rfl <;> simp [h6, oLet, bl, shWord, shNum, shName, shText, numsTo, sel3, brkd]
theorem let_next {l : List UInt8} {i : Nat} {c : UInt8} (h : l[i]? = some c) (f : UInt8 → List UInt8) : (l.take (i + 1)).flatMap f = (l.take i).flatMap f ++ f c := by
  rw [List.take_add_one, h]
  simp
def wordsV : Array Value := #[.string ⟨#[101, 108, 101, 109, 101, 110, 116]⟩, .string ⟨#[116, 101, 120, 116]⟩, .string ⟨#[99, 111, 109, 109, 101, 110, 116]⟩, .string ⟨#[105, 110, 115, 101, 114, 116]⟩, .string ⟨#[114, 101, 109, 111, 118, 101]⟩, .string ⟨#[115, 101, 116]⟩, .string ⟨#[117, 110, 115, 101, 116]⟩, .string ⟨#[99, 104, 97, 110, 103, 101]⟩]
theorem words_at {m : Nat} (h : m < 8) : wordsV[m]? = some (.string (shWord (m + 1))) := by
  have hj : m = 0 ∨ m = 1 ∨ m = 2 ∨ m = 3 ∨ m = 4 ∨ m = 5 ∨ m = 6 ∨ m = 7 := by omega
  rcases hj with rfl | rfl | rfl | rfl | rfl | rfl | rfl | rfl <;> rfl
theorem shWord_size (m : Nat) : (shWord m).size ≤ 255 := by rw [size_bl]; exact shWord_len m
set_option maxRecDepth 100000 in
set_option maxHeartbeats 4000000 in
theorem rprint6_any (o : OpD) (hok : OpOk o) (w : World) :
    Calls Tryz.prog 61 #[.agg #[.int .i64 o.k, .int .i64 o.i, .int .i64 o.t, .int .i64 o.a, .string o.n, .string o.x]] w fun e w' => e = .returned (.string ⟨(oText o).toArray⟩) ∧ Below w.heap.size w w' := by
  have HOK := Lib.hid hok
  clear hok
  go_enter Tryz.func61, Tryz.ntmps61
  go_wp2_with fail
  generalize hW : World.alloc w _ = w1
  obtain ⟨b, hb⟩ : ∃ b, w.heap.size = b := ⟨_, rfl⟩
  have HX1 := Lib.hid (show w1.heap[b]? = some (.cells #[.int .i64 o.k, .int .i64 o.i, .int .i64 o.t, .int .i64 o.a, .string o.n, .string o.x] 120 (0, 0)) by rw [← hW, ← hb]; exact alloc_new _ _)
  have HB1 := Lib.hid (show Below w.heap.size w w1 by rw [← hW]; exact (Below.refl _ _).alloc (Nat.le_refl _) _)
  rw [hb]
  clear hW hb
  refine (may6_any o.k o.i o.t o.a o.n o.x HOK.out.n HOK.out.x w1).mono ?_
  rintro e w2 ⟨rfl, hb2⟩
  have HX2 := Lib.hid ((hb2.block _ (lt_of_block HX1.out)).trans HX1.out)
  have HB2 := Lib.hid (HB1.out.trans (hb2.mono HB1.out.size))
  clear hb2
  cases hm : mayB o.k o.i o.t o.a o.n o.x with
  | false =>
    have HT := Lib.hid (show oText o = [] by rw [oText, opText, hm]; rfl)
    clear hm
    go_wp2_with fail
    go_ret
    exact ⟨by rw [HT.out]; rfl, HB2.out⟩
  | true =>
    have hin := mayB_in hm
    obtain ⟨m, hmk⟩ : ∃ m : Nat, o.k = (m : Int) + 1 := ⟨(o.k - 1).toNat, by omega⟩
    have hm8 : m < 8 := by omega
    have HT := Lib.hid (oText_let o hm8 hmk hm)
    have HMK := Lib.hid hmk
    have HNX := Lib.hid (show o.n.size ≤ 255 ∧ o.x.size ≤ 255 from ⟨hin.2.2.1, hin.2.2.2⟩)
    have HI6 := Lib.hid (h6_in hm8)
    have HM8 := Lib.hid hm8
    have hlt8 : (m : Int) < 8 := by omega
    have qk : IntKind.i64.wrap (o.k - 1) = (m : Int) := by rw [IntKind.wrap_i64]; omega
    obtain ⟨wd, hwd⟩ : ∃ wd, shWord (m + 1) = wd := ⟨_, rfl⟩
    have y0 := cell_blk HX2.out 0 (v := .int .i64 o.k) rfl
    have y0a := fun ob => cell_blk (alloc_blk HX2.out ob) 0 (v := .int .i64 o.k) rfl
    have hnm : (w2.alloc (.cells #[.string ⟨#[101, 108, 101, 109, 101, 110, 116]⟩, .string ⟨#[116, 101, 120, 116]⟩, .string ⟨#[99, 111, 109, 109, 101, 110, 116]⟩, .string ⟨#[105, 110, 115, 101, 114, 116]⟩, .string ⟨#[114, 101, 109, 111, 118, 101]⟩, .string ⟨#[115, 101, 116]⟩, .string ⟨#[117, 110, 115, 101, 116]⟩, .string ⟨#[99, 104, 97, 110, 103, 101]⟩] 9)).cell? ⟨w2.heap.size, m, none⟩ = some (.string wd) := by rw [← hwd]; exact cell_blk (alloc_new _ _) m (words_at hm8)
    have HWD := Lib.hid hwd
    clear hm hin hmk hm8 hwd
    go_upto_region 4 with (fail)
    generalize hW : World.alloc w2 _ = w3
    have HX3 := Lib.hid (show w3.heap[b]? = some (.cells #[.int .i64 o.k, .int .i64 o.i, .int .i64 o.t, .int .i64 o.a, .string o.n, .string o.x] 120 (0, 0)) by rw [← hW]; exact alloc_blk HX2.out _)
    have HB3 := Lib.hid (show Below w.heap.size w w3 by rw [← hW]; exact HB2.out.alloc HB2.out.size _)
    clear hW y0 y0a hnm qk hlt8
    have y0 := cell_blk HX3.out 0 (v := .int .i64 o.k) rfl
    go_wp2_with fail
    refine (has6_any o.k w3).mono ?_
    rintro e w3b ⟨rfl, rfl⟩
    obtain ⟨sb, hsb⟩ : ∃ sb, h6 o.k = sb := ⟨_, rfl⟩
    rw [hsb]
    have HT2 := Lib.hid (show oText o = bl wd ++ (bl sb).flatMap (oLet o) by rw [HT.out, HWD.out, hsb])
    have HS3 := Lib.hid (show sb.size ≤ 3 ∧ ∀ c ∈ bl sb, c = 105 ∨ c = 116 ∨ c = 97 ∨ c = 110 ∨ c = 120 by rw [← hsb, HMK.out]; exact HI6.out)
    have HWZ := Lib.hid (show wd.size ≤ 255 by rw [← HWD.out]; exact shWord_size _)
    clear hsb y0 HT HI6
    go_wp2_with fail
    go_loopg [3, 5] sb.size (fun k s3 s5 wr => ∃ (i : Nat) (T : ByteArray), k + i = sb.size ∧ s5 = .int .i64 i ∧ s3 = .string T ∧ Hid (bl T = bl wd ++ ((bl sb).take i).flatMap (oLet o)) ∧ Hid (T.size ≤ 255 + i * 300) ∧ Hid (Below w3b.heap.size w3b wr))
    case atStart => exact ⟨0, wd, by omega, rfl, rfl, Lib.hid (by simp), Lib.hid (by have := HWZ.out; omega), Lib.hid (Below.refl _ _)⟩
    case round =>
      obtain ⟨i, T, hki, rfl, rfl, HTT, HTZ, HBR⟩ := hrel
      have HXR := Lib.hid ((HBR.out.block _ (lt_of_block HX3.out)).trans HX3.out)
      cases gk with
      | zero =>
        have hlt : ¬ ((i : Int) < (sb.size : Int)) := by omega
        have HF := Lib.hid (show (⟨(oText o).toArray⟩ : ByteArray) = T by
          have h1 := HTT.out
          rw [List.take_of_length_le (by rw [← size_bl]; omega)] at h1
          rw [HT2.out, ← h1, mk_bl])
        go_wp2_with fail
        go_ret
        exact ⟨by rw [HF.out]; rfl, HB3.out.trans (HBR.out.mono HB3.out.size)⟩
      | succ gk =>
        have hlt : (i : Int) < (sb.size : Int) := by omega
        obtain ⟨c, hc⟩ : ∃ c, (bl sb)[i]? = some c := ⟨_, List.getElem?_eq_getElem (by rw [← size_bl]; omega)⟩
        have hidx := idx_str sb i c hc
        have HNE := Lib.hid (let_next hc (oLet o))
        have HCL := Lib.hid (HS3.out.2 c (List.mem_of_getElem? hc))
        have HKI := Lib.hid hki
        have HIZ := Lib.hid (show i < 3 by have := HS3.out.1; omega)
        have hTz : T.size ≤ 2000 := by have := HTZ.out; have := HIZ.out; omega
        have q0 : IntKind.i64.wrap ((i : Int) + 1) = (i : Int) + 1 := wrap_next' (by have := HIZ.out; omega)
        clear hc hki
        rcases HCL.out with hcc | hcc | hcc | hcc | hcc
        · have hp : (c.toNat : Int) = 105 := by rw [hcc]; rfl
          have HLT := Lib.hid (show oLet o c = 32 :: Lib.itoa o.i by rw [hcc]; rfl)
          have y1 := cell_blk HXR.out 1 (v := .int .i64 o.i) rfl
          obtain ⟨D, hD⟩ : ∃ D : ByteArray, ⟨(Lib.itoa o.i).toArray⟩ = D := ⟨_, rfl⟩
          have hDz : D.size ≤ 21 := by rw [← hD, size_mk]; exact Lib.itoa_length_le _ HOK.out.i.1 HOK.out.i.2
          have HD := Lib.hid hD
          have n1 : ¬ 9223372036854775807 < T.size + 1 := by omega
          have n2 : ¬ 9223372036854775807 < T.size + 1 + D.size := by omega
          have HDZ := Lib.hid (And.intro hDz hTz)
          clear hcc hD hDz hTz
          go_wp2_with fail
          refine (digits_any o.i HOK.out.i _).mono ?_
          rintro e w4 ⟨rfl, hb4⟩
          rw [HD.out]
          have HB4 := Lib.hid (HBR.out.trans (hb4.mono HBR.out.size))
          clear hb4 y1
          go_wp2_with fail
          go_roundg gk
          case measure => omega
          case rel => exact ⟨i + 1, _, by have := HKI.out; omega, rfl, rfl, Lib.hid (by rw [HNE.out, HLT.out, bl_append, bl_append, HTT.out, ← HD.out]; simp [bl]), Lib.hid (by have := HDZ.out.1; have := HTZ.out; rw [ByteArray.size_append, ByteArray.size_append, show (⟨#[32]⟩ : ByteArray).size = 1 from rfl]; omega), HB4⟩
        · have hp : (c.toNat : Int) = 116 := by rw [hcc]; rfl
          have HLT := Lib.hid (show oLet o c = 32 :: Lib.itoa o.t by rw [hcc]; rfl)
          have y1 := cell_blk HXR.out 2 (v := .int .i64 o.t) rfl
          obtain ⟨D, hD⟩ : ∃ D : ByteArray, ⟨(Lib.itoa o.t).toArray⟩ = D := ⟨_, rfl⟩
          have hDz : D.size ≤ 21 := by rw [← hD, size_mk]; exact Lib.itoa_length_le _ HOK.out.t.1 HOK.out.t.2
          have HD := Lib.hid hD
          have n1 : ¬ 9223372036854775807 < T.size + 1 := by omega
          have n2 : ¬ 9223372036854775807 < T.size + 1 + D.size := by omega
          have HDZ := Lib.hid (And.intro hDz hTz)
          clear hcc hD hDz hTz
          go_wp2_with fail
          refine (digits_any o.t HOK.out.t _).mono ?_
          rintro e w4 ⟨rfl, hb4⟩
          rw [HD.out]
          have HB4 := Lib.hid (HBR.out.trans (hb4.mono HBR.out.size))
          clear hb4 y1
          go_wp2_with fail
          go_roundg gk
          case measure => omega
          case rel => exact ⟨i + 1, _, by have := HKI.out; omega, rfl, rfl, Lib.hid (by rw [HNE.out, HLT.out, bl_append, bl_append, HTT.out, ← HD.out]; simp [bl]), Lib.hid (by have := HDZ.out.1; have := HTZ.out; rw [ByteArray.size_append, ByteArray.size_append, show (⟨#[32]⟩ : ByteArray).size = 1 from rfl]; omega), HB4⟩
        · have hp : (c.toNat : Int) = 97 := by rw [hcc]; rfl
          have HLT := Lib.hid (show oLet o c = 32 :: Lib.itoa o.a by rw [hcc]; rfl)
          have y1 := cell_blk HXR.out 3 (v := .int .i64 o.a) rfl
          obtain ⟨D, hD⟩ : ∃ D : ByteArray, ⟨(Lib.itoa o.a).toArray⟩ = D := ⟨_, rfl⟩
          have hDz : D.size ≤ 21 := by rw [← hD, size_mk]; exact Lib.itoa_length_le _ HOK.out.a.1 HOK.out.a.2
          have HD := Lib.hid hD
          have n1 : ¬ 9223372036854775807 < T.size + 1 := by omega
          have n2 : ¬ 9223372036854775807 < T.size + 1 + D.size := by omega
          have HDZ := Lib.hid (And.intro hDz hTz)
          clear hcc hD hDz hTz
          go_wp2_with fail
          refine (digits_any o.a HOK.out.a _).mono ?_
          rintro e w4 ⟨rfl, hb4⟩
          rw [HD.out]
          have HB4 := Lib.hid (HBR.out.trans (hb4.mono HBR.out.size))
          clear hb4 y1
          go_wp2_with fail
          go_roundg gk
          case measure => omega
          case rel => exact ⟨i + 1, _, by have := HKI.out; omega, rfl, rfl, Lib.hid (by rw [HNE.out, HLT.out, bl_append, bl_append, HTT.out, ← HD.out]; simp [bl]), Lib.hid (by have := HDZ.out.1; have := HTZ.out; rw [ByteArray.size_append, ByteArray.size_append, show (⟨#[32]⟩ : ByteArray).size = 1 from rfl]; omega), HB4⟩
        · have hp : (c.toNat : Int) = 110 := by rw [hcc]; rfl
          have HLT := Lib.hid (show oLet o c = 32 :: 91 :: (bl o.n ++ [93]) by rw [hcc]; rfl)
          have y1 := cell_blk HXR.out 4 (v := .string o.n) rfl
          have hDz : o.n.size ≤ 255 := HNX.out.1
          have n1 : ¬ 9223372036854775807 < T.size + 2 := by omega
          have n2 : ¬ 9223372036854775807 < T.size + 2 + o.n.size := by omega
          have n3 : ¬ 9223372036854775807 < T.size + 2 + o.n.size + 1 := by omega
          clear hcc hDz hTz
          go_wp2_with fail
          go_roundg gk
          case measure => omega
          case rel => exact ⟨i + 1, _, by have := HKI.out; omega, rfl, rfl, Lib.hid (by rw [HNE.out, HLT.out, bl_append, bl_append, bl_append, HTT.out]; simp [bl]), Lib.hid (by have := HNX.out.1; have := HTZ.out; rw [ByteArray.size_append, ByteArray.size_append, ByteArray.size_append, show (⟨#[32, 91]⟩ : ByteArray).size = 2 from rfl, show (⟨#[93]⟩ : ByteArray).size = 1 from rfl]; omega), HBR⟩
        · have hp : (c.toNat : Int) = 120 := by rw [hcc]; rfl
          have HLT := Lib.hid (show oLet o c = 32 :: 91 :: (bl o.x ++ [93]) by rw [hcc]; rfl)
          have y1 := cell_blk HXR.out 5 (v := .string o.x) rfl
          have hDz : o.x.size ≤ 255 := HNX.out.2
          have n1 : ¬ 9223372036854775807 < T.size + 2 := by omega
          have n2 : ¬ 9223372036854775807 < T.size + 2 + o.x.size := by omega
          have n3 : ¬ 9223372036854775807 < T.size + 2 + o.x.size + 1 := by omega
          clear hcc hDz hTz
          go_wp2_with fail
          go_roundg gk
          case measure => omega
          case rel => exact ⟨i + 1, _, by have := HKI.out; omega, rfl, rfl, Lib.hid (by rw [HNE.out, HLT.out, bl_append, bl_append, bl_append, HTT.out]; simp [bl]), Lib.hid (by have := HNX.out.2; have := HTZ.out; rw [ByteArray.size_append, ByteArray.size_append, ByteArray.size_append, show (⟨#[32, 91]⟩ : ByteArray).size = 2 from rfl, show (⟨#[93]⟩ : ByteArray).size = 1 from rfl]; omega), HBR⟩
end Go.Proofs.YtjcdpccfhpbccaaGreatDoor
