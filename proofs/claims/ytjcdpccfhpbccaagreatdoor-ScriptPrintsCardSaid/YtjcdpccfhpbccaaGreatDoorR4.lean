/-
  The walk of the document's own Print.
-/
import Derived.Test.YtjcdpccfhpbccaaGreatDoorR3
import Derived.Test.YtjcdpccfhpbccaaGreatDoorS1
namespace Go.Proofs.YtjcdpccfhpbccaaGreatDoor
open Go.RowKit Go.Proofs.YtjcdpccfhpbccaaGreatDoorW.PrintWords

structure SHeld (w0 : World) (sb : Nat) (cs : Array Value) (W : World) : Prop where
  bx : W.heap[sb]? = some (.cells cs 35 (0, 0))
  be : Below w0.heap.size w0 W
theorem SHeld.below {w0 W W1 : World} {sb : Nat} {cs : Array Value} (h : SHeld w0 sb cs W) (hb : Below W.heap.size W W1) : SHeld w0 sb cs W1 :=
  ⟨(hb.block _ (lt_of_block h.bx)).trans h.bx, h.be.trans (hb.mono h.be.size)⟩
theorem SHeld.loads {w0 W : World} {sb : Nat} {a1 a2 a3 a4 : Int} {rows : List (List CallD)} {pk : List Int} {A1 A2 : Option Addr} {c1 c2 : Nat} (h : SHeld w0 sb #[.int .i64 a1, .int .i64 a2, .int .i64 a3, .int .i64 a4, .slice A1 rows.length c1, .slice A2 pk.length c2] W) : W.cell? ⟨sb, 0, none⟩ = some (.int .i64 a1) ∧ W.cell? ⟨sb, 1, none⟩ = some (.int .i64 a2) ∧ W.cell? ⟨sb, 2, none⟩ = some (.int .i64 a3) ∧ W.cell? ⟨sb, 3, none⟩ = some (.int .i64 a4) ∧ W.cell? ⟨sb, 4, none⟩ = some (.slice A1 rows.length c1) ∧ W.cell? ⟨sb, 5, none⟩ = some (.slice A2 pk.length c2) ∧ Hid (SHeld w0 sb #[.int .i64 a1, .int .i64 a2, .int .i64 a3, .int .i64 a4, .slice A1 rows.length c1, .slice A2 pk.length c2] W) :=
  ⟨cell_blk h.bx 0 rfl, cell_blk h.bx 1 rfl, cell_blk h.bx 2 rfl, cell_blk h.bx 3 rfl, cell_blk h.bx 4 rfl, cell_blk h.bx 5 rfl, Lib.hid h⟩
theorem digits_sheld {w0 W : World} {sb : Nat} {a1 a2 a3 a4 : Int} {rows : List (List CallD)} {pk : List Int} {A1 A2 : Option Addr} {c1 c2 : Nat} (v : Int) (hv : I64 v) (h : W.cell? ⟨sb, 0, none⟩ = some (.int .i64 a1) ∧ W.cell? ⟨sb, 1, none⟩ = some (.int .i64 a2) ∧ W.cell? ⟨sb, 2, none⟩ = some (.int .i64 a3) ∧ W.cell? ⟨sb, 3, none⟩ = some (.int .i64 a4) ∧ W.cell? ⟨sb, 4, none⟩ = some (.slice A1 rows.length c1) ∧ W.cell? ⟨sb, 5, none⟩ = some (.slice A2 pk.length c2) ∧ Hid (SHeld w0 sb #[.int .i64 a1, .int .i64 a2, .int .i64 a3, .int .i64 a4, .slice A1 rows.length c1, .slice A2 pk.length c2] W)) :
    Calls Tryz.prog 36 #[.int .i64 v] W fun e w' => e = .returned (.string ⟨(Lib.itoa v).toArray⟩) ∧ w'.cell? ⟨sb, 0, none⟩ = some (.int .i64 a1) ∧ w'.cell? ⟨sb, 1, none⟩ = some (.int .i64 a2) ∧ w'.cell? ⟨sb, 2, none⟩ = some (.int .i64 a3) ∧ w'.cell? ⟨sb, 3, none⟩ = some (.int .i64 a4) ∧ w'.cell? ⟨sb, 4, none⟩ = some (.slice A1 rows.length c1) ∧ w'.cell? ⟨sb, 5, none⟩ = some (.slice A2 pk.length c2) ∧ Hid (SHeld w0 sb #[.int .i64 a1, .int .i64 a2, .int .i64 a3, .int .i64 a4, .slice A1 rows.length c1, .slice A2 pk.length c2] w') := by
  refine (digits_any v hv W).mono ?_
  rintro e w' ⟨he, hb⟩
  exact ⟨he, (h.2.2.2.2.2.2.out.below hb).loads⟩
theorem send {w0 W : World} {sb : Nat} {a1 a2 a3 a4 : Int} {rows : List (List CallD)} {pk : List Int} {A1 A2 : Option Addr} {c1 c2 : Nat} (h : W.cell? ⟨sb, 0, none⟩ = some (.int .i64 a1) ∧ W.cell? ⟨sb, 1, none⟩ = some (.int .i64 a2) ∧ W.cell? ⟨sb, 2, none⟩ = some (.int .i64 a3) ∧ W.cell? ⟨sb, 3, none⟩ = some (.int .i64 a4) ∧ W.cell? ⟨sb, 4, none⟩ = some (.slice A1 rows.length c1) ∧ W.cell? ⟨sb, 5, none⟩ = some (.slice A2 pk.length c2) ∧ Hid (SHeld w0 sb #[.int .i64 a1, .int .i64 a2, .int .i64 a3, .int .i64 a4, .slice A1 rows.length c1, .slice A2 pk.length c2] W)) : SHeld w0 sb #[.int .i64 a1, .int .i64 a2, .int .i64 a3, .int .i64 a4, .slice A1 rows.length c1, .slice A2 pk.length c2] W := h.2.2.2.2.2.2.out
theorem app10 (T D : ByteArray) : bl (T ++ D ++ ⟨#[10]⟩) = bl T ++ bl D ++ [10] := by rw [bl_append, bl_append]
theorem app32 (T D : ByteArray) : bl (T ++ ⟨#[32]⟩ ++ D) = bl T ++ (32 :: bl D) := by rw [bl_append, bl_append]; simp [bl]
set_option maxRecDepth 100000 in
set_option maxHeartbeats 8000000 in
theorem rprint_go (a1 a2 a3 a4 : Int) (rows : List (List CallD)) (pk : List Int) (A1 A2 : Option Addr) (c1 c2 : Nat) (w0 : World) (hC : kRow.C w0 A1 rows.length rows) (hP : (Kd.int .u8).C w0 A2 pk.length pk) (hok : ScrOk (⟨a1, a2, a3, a4, rows, pk⟩ : ScrD)) (hlen : (prText (⟨a1, a2, a3, a4, rows, pk⟩ : ScrD)).length ≤ 4294967200) (res : List UInt8 × Int) (hres : pPrint (⟨a1, a2, a3, a4, rows, pk⟩ : ScrD) = res) :
    Calls Tryz.prog 12 #[.agg #[.int .i64 a1, .int .i64 a2, .int .i64 a3, .int .i64 a4, .slice A1 rows.length c1, .slice A2 pk.length c2]] w0 fun e w' => e = .returned (.tuple #[.string ⟨res.1.toArray⟩, .int .i64 res.2]) ∧ Below w0.heap.size w0 w' := by
  have k1 : I64 a1 := hok.n _ (by simp)
  have l1 := Lib.itoa_length_le a1 k1.1 k1.2
  have s1 := size_mk (Lib.itoa a1)
  obtain ⟨T1, h1⟩ : ∃ T : ByteArray, ⟨(Lib.itoa a1).toArray⟩ = T := ⟨_, rfl⟩
  rw [h1] at s1
  have z1 : T1.size ≤ 21 := by omega
  have H1 := Lib.hid (And.intro k1 h1)
  have k2 : I64 a2 := hok.n _ (by simp)
  have l2 := Lib.itoa_length_le a2 k2.1 k2.2
  have s2 := size_mk (Lib.itoa a2)
  obtain ⟨T2, h2⟩ : ∃ T : ByteArray, ⟨(Lib.itoa a2).toArray⟩ = T := ⟨_, rfl⟩
  rw [h2] at s2
  have z2 : T2.size ≤ 21 := by omega
  have H2 := Lib.hid (And.intro k2 h2)
  have k3 : I64 a3 := hok.n _ (by simp)
  have l3 := Lib.itoa_length_le a3 k3.1 k3.2
  have s3 := size_mk (Lib.itoa a3)
  obtain ⟨T3, h3⟩ : ∃ T : ByteArray, ⟨(Lib.itoa a3).toArray⟩ = T := ⟨_, rfl⟩
  rw [h3] at s3
  have z3 : T3.size ≤ 21 := by omega
  have H3 := Lib.hid (And.intro k3 h3)
  have k4 : I64 a4 := hok.n _ (by simp)
  have l4 := Lib.itoa_length_le a4 k4.1 k4.2
  have s4 := size_mk (Lib.itoa a4)
  obtain ⟨T4, h4⟩ : ∃ T : ByteArray, ⟨(Lib.itoa a4).toArray⟩ = T := ⟨_, rfl⟩
  rw [h4] at s4
  have z4 : T4.size ≤ 21 := by omega
  have H4 := Lib.hid (And.intro k4 h4)
  have HC := Lib.hid hC
  have HPK := Lib.hid hP
  have HOK := Lib.hid hok
  have HLEN := Lib.hid hlen
  have HRES := Lib.hid hres
  have HQ := Lib.hid (show bl (⟨#[119, 111, 114, 108, 100, 32]⟩ ++ T1 ++ ⟨#[32]⟩ ++ T2 ++ ⟨#[32]⟩ ++ T3 ++ ⟨#[32]⟩ ++ T4 ++ ⟨#[10]⟩ : ByteArray) = [119, 111, 114, 108, 100] ++ numsText [a1, a2, a3, a4] ++ [10] by
    rw [← h1, ← h2, ← h3, ← h4]
    simp [numsText, bl, ByteArray.data_append])
  have HZ := Lib.hid (And.intro z1 (And.intro z2 (And.intro z3 z4)))
  have n1 : ¬9223372036854775807 < 6 + T1.size := by omega
  have n2 : ¬9223372036854775807 < 6 + T1.size + 1 := by omega
  have n3 : ¬9223372036854775807 < 6 + T1.size + 1 + T2.size := by omega
  have n4 : ¬9223372036854775807 < 6 + T1.size + 1 + T2.size + 1 := by omega
  have n5 : ¬9223372036854775807 < 6 + T1.size + 1 + T2.size + 1 + T3.size := by omega
  have n6 : ¬9223372036854775807 < 6 + T1.size + 1 + T2.size + 1 + T3.size + 1 := by omega
  have n7 : ¬9223372036854775807 < 6 + T1.size + 1 + T2.size + 1 + T3.size + 1 + T4.size := by omega
  have n8 : ¬9223372036854775807 < 6 + T1.size + 1 + T2.size + 1 + T3.size + 1 + T4.size + 1 := by omega
  clear k1 k2 k3 k4 l1 l2 l3 l4 s1 s2 s3 s4 z1 z2 z3 z4 h1 h2 h3 h4 hC hP hok hlen hres
  go_enter Tryz.func12, Tryz.ntmps12
  go_wp2_with fail
  generalize hW : World.alloc w0 _ = w1
  obtain ⟨sb, hsb⟩ : ∃ sb, w0.heap.size = sb := ⟨_, rfl⟩
  have hb0 : w1.heap[sb]? = some (.cells #[.int .i64 a1, .int .i64 a2, .int .i64 a3, .int .i64 a4, .slice A1 rows.length c1, .slice A2 pk.length c2] 35 (0, 0)) := by rw [← hW, ← hsb]; exact alloc_new _ _
  have hbe : Below w0.heap.size w0 w1 := by rw [← hW]; exact (Below.refl _ _).alloc (Nat.le_refl _) _
  have hS0 : SHeld w0 sb #[.int .i64 a1, .int .i64 a2, .int .i64 a3, .int .i64 a4, .slice A1 rows.length c1, .slice A2 pk.length c2] w1.drew := SHeld.mk (blk_drew hb0) (below_drewN hbe 1)
  rw [hsb]
  clear hW hsb hb0 hbe
  have HS0 := Lib.hid hS0
  have hS1 := hS0.loads
  clear hS0
  apply Holds.via2 (P := fun W => W.cell? ⟨sb, 0, none⟩ = some (.int .i64 a1) ∧ W.cell? ⟨sb, 1, none⟩ = some (.int .i64 a2) ∧ W.cell? ⟨sb, 2, none⟩ = some (.int .i64 a3) ∧ W.cell? ⟨sb, 3, none⟩ = some (.int .i64 a4) ∧ W.cell? ⟨sb, 4, none⟩ = some (.slice A1 rows.length c1) ∧ W.cell? ⟨sb, 5, none⟩ = some (.slice A2 pk.length c2) ∧ Hid (SHeld w0 sb #[.int .i64 a1, .int .i64 a2, .int .i64 a3, .int .i64 a4, .slice A1 rows.length c1, .slice A2 pk.length c2] W))
  case h =>
    intro KEY
    go_region_held3 (fun w' => w'.cell? ⟨sb, 0, none⟩ = some (.int .i64 a1) ∧ w'.cell? ⟨sb, 1, none⟩ = some (.int .i64 a2) ∧ w'.cell? ⟨sb, 2, none⟩ = some (.int .i64 a3) ∧ w'.cell? ⟨sb, 3, none⟩ = some (.int .i64 a4) ∧ w'.cell? ⟨sb, 4, none⟩ = some (.slice A1 rows.length c1) ∧ w'.cell? ⟨sb, 5, none⟩ = some (.slice A2 pk.length c2) ∧ Hid (SHeld w0 sb #[.int .i64 a1, .int .i64 a2, .int .i64 a3, .int .i64 a4, .slice A1 rows.length c1, .slice A2 pk.length c2] w'))
      (first | exact hS1 | assumption)
      (first
        | (go_at_call 36; with_reducible refine Calls.mono (digits_sheld (w0 := w0) (sb := sb) (a1 := a1) (a2 := a2) (a3 := a3) (a4 := a4) (rows := rows) (pk := pk) (A1 := A1) (A2 := A2) (c1 := c1) (c2 := c2) a1 H1.out.1 (by assumption)) ?_; rintro e w2 ⟨rfl, hS2⟩; rw [H1.out.2])
        | (go_at_call 36; with_reducible refine Calls.mono (digits_sheld (w0 := w0) (sb := sb) (a1 := a1) (a2 := a2) (a3 := a3) (a4 := a4) (rows := rows) (pk := pk) (A1 := A1) (A2 := A2) (c1 := c1) (c2 := c2) a2 H2.out.1 (by assumption)) ?_; rintro e w2 ⟨rfl, hS2⟩; rw [H2.out.2])
        | (go_at_call 36; with_reducible refine Calls.mono (digits_sheld (w0 := w0) (sb := sb) (a1 := a1) (a2 := a2) (a3 := a3) (a4 := a4) (rows := rows) (pk := pk) (A1 := A1) (A2 := A2) (c1 := c1) (c2 := c2) a3 H3.out.1 (by assumption)) ?_; rintro e w2 ⟨rfl, hS2⟩; rw [H3.out.2])
        | (go_at_call 36; with_reducible refine Calls.mono (digits_sheld (w0 := w0) (sb := sb) (a1 := a1) (a2 := a2) (a3 := a3) (a4 := a4) (rows := rows) (pk := pk) (A1 := A1) (A2 := A2) (c1 := c1) (c2 := c2) a4 H4.out.1 (by assumption)) ?_; rintro e w2 ⟨rfl, hS2⟩; rw [H4.out.2]))
    all_goals exact (KEY _ (by assumption)).out
  case g =>
    intro w2 hS
    have HP := Lib.hid (send hS)
    clear hS hS1 HS0 n1 n2 n3 n4 n5 n6 n7 n8
    obtain ⟨QT, hQT⟩ : ∃ QT : ByteArray, ⟨#[119, 111, 114, 108, 100, 32]⟩ ++ T1 ++ ⟨#[32]⟩ ++ T2 ++ ⟨#[32]⟩ ++ T3 ++ ⟨#[32]⟩ ++ T4 ++ ⟨#[10]⟩ = QT := ⟨_, rfl⟩
    have HQT := Lib.hid (show bl QT = [119, 111, 114, 108, 100] ++ numsText [a1, a2, a3, a4] ++ [10] by rw [← hQT]; exact HQ.out)
    rw [hQT]
    clear hQT
    go_wp2_with fail
    go_loopg [4, 5] rows.length (fun k s4 s5 wr => ∃ (i : Nat) (T : ByteArray), k + i = rows.length ∧ s5 = .int .i64 i ∧ s4 = .string T ∧ Hid (bl T = [119, 111, 114, 108, 100] ++ numsText [a1, a2, a3, a4] ++ rowsText (rows.take i) ++ [10]) ∧ Hid (SHeld w0 sb #[.int .i64 a1, .int .i64 a2, .int .i64 a3, .int .i64 a4, .slice A1 rows.length c1, .slice A2 pk.length c2] wr))
    case atStart => exact ⟨0, QT, by omega, rfl, rfl, Lib.hid (by rw [HQT.out]; simp [rowsText]), HP⟩
    case round =>
      clear HP
      obtain ⟨i, T, hki, rfl, rfl, HT, HP⟩ := hrel
      have x4 := cell_blk HP.out.bx 4 (v := .slice A1 rows.length c1) rfl
      cases gk with
      | zero =>
        have hlt : ¬ ((i : Int) < (rows.length : Int)) := by omega
        have HTF := Lib.hid (show bl T = [119, 111, 114, 108, 100] ++ numsText [a1, a2, a3, a4] ++ rowsText rows ++ [10] by rw [HT.out, List.take_of_length_le (by omega)])
        have hTz : T.size + 5 ≤ 4294967280 := by
          have h1 := HLEN.out
          rw [size_bl, HTF.out]
          rw [prText] at h1
          simp only [List.length_append, List.length_cons, List.length_nil] at h1 ⊢
          omega
        have n1 : ¬ 9223372036854775807 < T.size + 5 := by omega
        clear hTz
        go_wp2_with fail
        go_loopg [4, 7] pk.length (fun k s4 s7 wr => ∃ (j : Nat) (T : ByteArray), k + j = pk.length ∧ s7 = .int .i64 j ∧ s4 = .string T ∧ Hid (bl T = [119, 111, 114, 108, 100] ++ numsText [a1, a2, a3, a4] ++ rowsText rows ++ [10, 112, 105, 99, 107, 115] ++ numsText (pk.take j)) ∧ Hid (SHeld w0 sb #[.int .i64 a1, .int .i64 a2, .int .i64 a3, .int .i64 a4, .slice A1 rows.length c1, .slice A2 pk.length c2] wr))
        case atStart => exact ⟨0, _, by omega, rfl, rfl, Lib.hid (by rw [bl_append, HTF.out]; simp [numsText, bl]), HP⟩
        case round =>
          clear HP HT HTF hlt hki x4 n1
          obtain ⟨j, T, hkj, rfl, rfl, HT, HP⟩ := hrel
          have x5 := cell_blk HP.out.bx 5 (v := .slice A2 pk.length c2) rfl
          cases gk with
          | zero =>
            have hlt : ¬ ((j : Int) < (pk.length : Int)) := by omega
            obtain ⟨F, hF⟩ : ∃ F : ByteArray, T ++ ⟨#[10]⟩ = F := ⟨_, rfl⟩
            have HF := Lib.hid (show bl F = prText (⟨a1, a2, a3, a4, rows, pk⟩ : ScrD) by
              have h1 := HT.out
              rw [List.take_of_length_le (by omega)] at h1
              rw [← hF, bl_append, h1, prText]
              first | done | rfl)
            have HFZ := Lib.hid (show F.size ≤ 4294967200 by rw [size_bl, HF.out]; exact HLEN.out)
            have hTz : T.size + 1 ≤ 4294967280 := by
              have h1 := HFZ.out
              rw [← hF, size_bl, bl_append, List.length_append] at h1
              have h2 : (bl (⟨#[10]⟩ : ByteArray)).length = 1 := rfl
              rw [size_bl]
              omega
            have n1 : ¬ 9223372036854775807 < T.size + 1 := by omega
            obtain ⟨⟨x, im, er⟩, hx⟩ : ∃ r, outP (pParse (pieces (bl F))) = r := ⟨_, rfl⟩
            have HX := Lib.hid hx
            clear hTz hx
            go_wp2_with fail
            refine (parsed_ref F (by have := HFZ.out; omega) wr x im er HX.out).mono ?_
            rintro e w7 ⟨D1, D2, j1, j2, rfl, HD7, HQ7, hb7⟩
            have HP7 := Lib.hid (HP.out.below hb7)
            have HFA := Lib.hid (show F = ⟨(prText (⟨a1, a2, a3, a4, rows, pk⟩ : ScrD)).toArray⟩ from mk_of HF.out)
            clear hb7 x5 n1 hF
            cases hp : pParse (pieces (bl F)) with
            | error m =>
              have h1 := HX.out
              rw [hp] at h1
              obtain ⟨_, _, rfl⟩ : (⟨0, 0, 0, 0, [], []⟩ : ScrD) = x ∧ (m : Int) = im ∧ (210 : Int) = er := by simpa [outP] using h1
              have HR := Lib.hid (show res = ([], 1) by
                rw [← HRES.out, pPrint, if_neg]
                intro h
                rw [← HF.out, hp] at h
                cases h)
              have HBE := Lib.hid (fun o => HP7.out.be.alloc HP7.out.be.size o)
              clear h1 hp
              go_wp2_with fail
              go_ret2
              exact ⟨by rw [HR.out]; rfl, HBE.out _⟩
            | ok y =>
              have h1 := HX.out
              rw [hp] at h1
              obtain ⟨rfl, _, rfl⟩ : y = x ∧ (0 : Int) = im ∧ (0 : Int) = er := by simpa [outP] using h1
              have HSZ := Lib.hid (pParse_in hp)
              have HPY := Lib.hid (show pParse (pieces (prText (⟨a1, a2, a3, a4, rows, pk⟩ : ScrD))) = .ok y by rw [← HF.out]; exact hp)
              clear h1 hp
              have b0 := fun ob => cell_blk (alloc_blk HP7.out.bx ob) 0 (v := .int .i64 a1) rfl
              have b1 := fun ob => cell_blk (alloc_blk HP7.out.bx ob) 1 (v := .int .i64 a2) rfl
              have b2 := fun ob => cell_blk (alloc_blk HP7.out.bx ob) 2 (v := .int .i64 a3) rfl
              have b3 := fun ob => cell_blk (alloc_blk HP7.out.bx ob) 3 (v := .int .i64 a4) rfl
              have b4 := fun ob => cell_blk (alloc_blk HP7.out.bx ob) 4 (v := .slice A1 rows.length c1) rfl
              have b5 := fun ob => cell_blk (alloc_blk HP7.out.bx ob) 5 (v := .slice A2 pk.length c2) rfl
              go_wp2_with fail
              generalize hW : World.alloc w7 _ = w8
              have hbb : Below w7.heap.size w7 w8 := by rw [← hW]; exact (Below.refl _ _).alloc (Nat.le_refl _) _
              have HP8 := Lib.hid (HP7.out.below hbb)
              have HD8 := Lib.hid (Kd.C_below HD7.out hbb)
              have HQ8 := Lib.hid (Kd.C_below HQ7.out hbb)
              clear hW hbb b0 b1 b2 b3 b4 b5
              refine (sameS_any (⟨a1, a2, a3, a4, rows, pk⟩ : ScrD) y A1 A2 D1 D2 c1 c2 j1 j2 w8 (Kd.C_below HC.out HP8.out.be) (Kd.C_below HPK.out HP8.out.be) HD8.out HQ8.out HOK.out.picks HSZ.out.pv HOK.out.rows (fun row hr => ⟨(HOK.out.calls row hr).1, fun c hc => ((HOK.out.calls row hr).2 c hc).2⟩)).mono ?_
              rintro e w9 ⟨⟨r, rfl, hr⟩, hb9⟩
              have HBE := Lib.hid (HP8.out.be.trans (hb9.mono HP8.out.be.size))
              have HRR := Lib.hid hr
              clear hb9 hr
              cases r with
              | false =>
                have HR := Lib.hid (show res = ([], 1) by
                  rw [← HRES.out, pPrint, if_neg]
                  intro h
                  rw [HPY.out] at h
                  injection h with h
                  have := HRR.out.2 h.symm
                  cases this)
                go_wp2_with fail
                go_ret2
                exact ⟨by rw [HR.out]; rfl, HBE.out⟩
              | true =>
                have HR := Lib.hid (show res = (prText (⟨a1, a2, a3, a4, rows, pk⟩ : ScrD), 0) by
                  rw [← HRES.out, pPrint, if_pos]
                  rw [HPY.out, HRR.out.1 rfl])
                go_wp2_with fail
                go_ret2
                exact ⟨by rw [HR.out, HFA.out]; rfl, HBE.out⟩
          | succ gk =>
            have hlt : (j : Int) < (pk.length : Int) := by omega
            obtain ⟨v, hv⟩ : ∃ v, pk[j]? = some v := ⟨_, List.getElem?_eq_getElem (by omega)⟩
            obtain ⟨ad, rfl, e3⟩ := u8_cells HPK.out j (by omega) hv
            have x0 := e3 _ HP.out.be
            obtain ⟨hv0, hv1⟩ := HOK.out.picks v (List.mem_of_getElem? hv)
            have hI : I64 v := ⟨by omega, by omega⟩
            have HI := Lib.hid hI
            have q10 : IntKind.i64.wrap v = v := by rw [IntKind.wrap_i64]; omega
            have q9 : IntKind.i64.wrap ((j : Int) + 1) = (j : Int) + 1 := wrap_next (by
              have h1 := HLEN.out
              have h2 := nums_len pk
              rw [prText] at h1
              simp only [List.length_append] at h1
              omega)
            obtain ⟨D, hD⟩ : ∃ D : ByteArray, ⟨(Lib.itoa v).toArray⟩ = D := ⟨_, rfl⟩
            have hTz : T.size + 1 + D.size ≤ 4294967280 := by
              have h1 := HLEN.out
              have h2 := nums_at hv
              have h3 : D.size = (Lib.itoa v).length := by rw [← hD, size_mk]
              rw [prText, h2] at h1
              rw [size_bl T, HT.out, h3]
              simp only [List.length_append, List.length_cons, List.length_nil] at h1 ⊢
              omega
            have n1 : ¬ 9223372036854775807 < T.size + 1 := by omega
            have n2 : ¬ 9223372036854775807 < T.size + 1 + D.size := by omega
            have HNX := Lib.hid (nums_next hv)
            have HD := Lib.hid hD
            have HKJ := Lib.hid hkj
            clear hv hI hD hTz hv0 hv1 e3 hkj
            go_wp2_with fail
            refine (digits_any v HI.out wr).mono ?_
            rintro e w4 ⟨rfl, hb2⟩
            rw [HD.out]
            have HP4 := Lib.hid (HP.out.below hb2)
            clear hb2 x0 x5
            go_wp2_with fail
            go_roundg gk
            case measure => omega
            case rel => exact ⟨j + 1, _, by have := HKJ.out; omega, rfl, rfl, Lib.hid (by rw [app32, HT.out, HNX.out, ← HD.out]; simp [bl]), HP4⟩
      | succ gk0 =>
        have hlt : (i : Int) < (rows.length : Int) := by omega
        obtain ⟨row, hrow⟩ : ∃ row, rows[i]? = some row := ⟨_, List.getElem?_eq_getElem (by omega)⟩
        obtain ⟨ad, A3, k3, rfl, hC3, e3⟩ := row_cells HC.out i (by omega) hrow
        have q9 : IntKind.i64.wrap ((i : Int) + 1) = (i : Int) + 1 := wrap_next (by have h : rows.length ≤ 4294967296 := HOK.out.rows; omega)
        have HC3 := Lib.hid hC3
        have HE3 := Lib.hid e3
        have HROW := Lib.hid hrow
        have HRK := Lib.hid (HOK.out.calls row (List.mem_of_getElem? hrow))
        have HKI := Lib.hid hki
        have hTz : T.size + 7 ≤ 4294967280 := by
          have h1 := HLEN.out
          rw [prText, rows_at hrow] at h1
          rw [size_bl T, HT.out]
          simp only [List.length_append, List.length_cons, List.length_nil] at h1 ⊢
          omega
        have n1 : ¬ 9223372036854775807 < T.size + 7 := by omega
        clear e3 hC3 hrow hki hTz
        go_wp2_with fail
        go_loopg [4, 6] row.length (fun k s4 s6 wr => ∃ (j : Nat) (T : ByteArray), k + j = row.length ∧ s6 = .int .i64 j ∧ s4 = .string T ∧ Hid (bl T = [119, 111, 114, 108, 100] ++ numsText [a1, a2, a3, a4] ++ rowsText (rows.take i) ++ ([10, 99, 108, 105, 101, 110, 116] ++ callsText (row.take j)) ++ [10]) ∧ Hid (SHeld w0 sb #[.int .i64 a1, .int .i64 a2, .int .i64 a3, .int .i64 a4, .slice (some ad) rows.length c1, .slice A2 pk.length c2] wr))
        case atStart => exact ⟨0, _, by omega, rfl, rfl, Lib.hid (by rw [bl_append, HT.out]; simp [callsText, bl]), HP⟩
        case round =>
          clear HP HT n1 x4
          obtain ⟨j, T, hkj, rfl, rfl, HT, HP⟩ := hrel
          have x4 := cell_blk HP.out.bx 4 (v := .slice (some ad) rows.length c1) rfl
          have x0 := HE3.out _ HP.out.be
          cases gk with
          | zero =>
            have hlt2 : ¬ ((j : Int) < (row.length : Int)) := by omega
            go_wp2_with fail
            go_roundg gk0
            case measure => omega
            case rel => exact ⟨i + 1, T, by have := HKI.out; omega, rfl, rfl, Lib.hid (by rw [HT.out, rows_next HROW.out, List.take_of_length_le (l := row) (i := j) (by omega)]; simp), HP⟩
          | succ gk1 =>
            have hlt2 : (j : Int) < (row.length : Int) := by omega
            obtain ⟨c, hc⟩ : ∃ c, row[j]? = some c := ⟨_, List.getElem?_eq_getElem (by omega)⟩
            obtain ⟨ad2, A6, k6, rfl, hC6, e6⟩ := call_cells HC3.out j (by omega) hc
            obtain ⟨⟨b1, o1, p1⟩, hB1⟩ : ∃ B, ad2.add (j * 6) = B := ⟨_, rfl⟩
            rw [hB1] at e6
            have f0 := (e6 _ HP.out.be).1
            have f1 := (e6 _ HP.out.be).2 0 _ rfl
            have f2 := (e6 _ HP.out.be).2 1 _ rfl
            have f3 := (e6 _ HP.out.be).2 2 _ rfl
            have f4 := (e6 _ HP.out.be).2 3 _ rfl
            have f5 := (e6 _ HP.out.be).2 4 _ rfl
            have HC6 := Lib.hid hC6
            have HCK := Lib.hid (HRK.out.2 c (List.mem_of_getElem? hc))
            have q10 : IntKind.i64.wrap ((j : Int) + 1) = (j : Int) + 1 := wrap_next (by have := HRK.out.1; omega)
            obtain ⟨D, hD⟩ : ∃ D : ByteArray, ⟨(tText c).toArray⟩ = D := ⟨_, rfl⟩
            have hDz : D.size = (tText c).length := by rw [← hD, size_mk]
            have hTz : T.size + D.size + 1 ≤ 4294967280 ∧ (tText c).length ≤ 4294967200 := by
              have h1 := HLEN.out
              rw [prText, rows_at HROW.out, calls_at hc] at h1
              rw [size_bl T, HT.out, hDz]
              simp only [List.length_append, List.length_cons, List.length_nil] at h1 ⊢
              omega
            have HTL := Lib.hid hTz.2
            have n1 : ¬ 9223372036854775807 < T.size + D.size := by omega
            have n2 : ¬ 9223372036854775807 < T.size + D.size + 1 := by omega
            have HNX := Lib.hid (calls_next hc)
            have HD := Lib.hid hD
            have HKJ := Lib.hid hkj
            clear e6 hC6 hc hD hDz hTz hkj
            go_wp2_with fail
            refine (rprinted_any c A6 k6 wr (Kd.C_below HC6.out HP.out.be) HCK.out.1 HTL.out HCK.out.2).mono ?_
            rintro e w4 ⟨rfl, hb4⟩
            rw [HD.out]
            have HP4 := Lib.hid (HP.out.below hb4)
            clear hb4 f0 f1 f2 f3 f4 f5 x0 x4
            go_wp2_with fail
            go_roundg gk1
            case measure => omega
            case rel => exact ⟨j + 1, _, by have := HKJ.out; omega, rfl, rfl, Lib.hid (by rw [app10, HT.out, HNX.out, ← HD.out]; simp [bl]), HP4⟩
theorem rprint_any (s : ScrD) (A1 A2 : Option Addr) (c1 c2 : Nat) (w0 : World) (hC : kRow.C w0 A1 s.calls.length s.calls) (hP : (Kd.int .u8).C w0 A2 s.picks.length s.picks) (hok : ScrOk s) (hlen : (prText s).length ≤ 4294967200) (res : List UInt8 × Int) (hres : pPrint s = res) :
    Calls Tryz.prog 12 #[.agg (scCells s.clients s.shift s.recs s.chunks (.slice A1 s.calls.length c1) (.slice A2 s.picks.length c2))] w0 fun e w' => e = .returned (.tuple #[.string ⟨res.1.toArray⟩, .int .i64 res.2]) ∧ Below w0.heap.size w0 w' :=
  rprint_go s.clients s.shift s.recs s.chunks s.calls s.picks A1 A2 c1 c2 w0 hC hP hok hlen res hres
end Go.Proofs.YtjcdpccfhpbccaaGreatDoor
