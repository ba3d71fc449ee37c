/-
  The walks of a script's text: a call's.
-/
import Derived.Test.YtjcdpccfhpbccaaGreatDoorF0
namespace Go.Proofs.YtjcdpccfhpbccaaGreatDoor
open Go.RowKit Go.Proofs.YtjcdpccfhpbccaaGreatDoorW.PrintWords

def oText (o : OpD) : List UInt8 := opText o.k o.i o.t o.a o.n o.x
def opsText (l : List OpD) : List UInt8 := l.flatMap fun o => 32 :: 43 :: oText o
def tText (c : CallD) : List UInt8 :=
  if c.k = 1 then [115, 117, 98, 109, 105, 116] ++ opsText c.ops
  else if c.k = 2 then [114, 101, 97, 100] ++ qText c.q
  else if c.k = 4 then [97, 115, 107] ++ qText c.q
  else if c.k = 3 then [111, 112, 101, 110]
  else if c.k = 5 then [99, 108, 111, 115, 101]
  else []
/-- Numbers and texts that Go's own types hold. -/
structure OpOk (o : OpD) : Prop where
  i : I64 o.i
  t : I64 o.t
  a : I64 o.a
  n : o.n.size ≤ 9223372036854775807
  x : o.x.size ≤ 9223372036854775807
structure CallOk (c : CallD) : Prop where
  ops : ∀ o ∈ c.ops, OpOk o
  k : I64 c.q.k
  i : I64 c.q.i
  b : I64 c.q.b
  x : c.q.x.size ≤ 4294967280
theorem addr_add2 (ad : Addr) (i j : Nat) : ad.add (i + j) = (ad.add i).add j := by
  unfold Addr.add
  by_cases hi : i = 0 <;> by_cases hj : j = 0 <;> simp [hi, hj, Nat.add_assoc]

theorem bl_append (a b : ByteArray) : bl (a ++ b) = bl a ++ bl b := by simp [bl, ByteArray.data_append]
theorem opsText_at {ops : List OpD} {i : Nat} {o : OpD} (h : ops[i]? = some o) : opsText ops = opsText (ops.take i) ++ (32 :: 43 :: oText o) ++ opsText (ops.drop (i + 1)) := by
  obtain ⟨hlt, he⟩ := List.getElem?_eq_some_iff.1 h
  conv => lhs; rw [← List.take_append_drop i ops, List.drop_eq_getElem_cons hlt, he]
  simp [opsText]
theorem opsText_next {ops : List OpD} {i : Nat} {o : OpD} (h : ops[i]? = some o) : opsText (ops.take (i + 1)) = opsText (ops.take i) ++ (32 :: 43 :: oText o) := by
  rw [List.take_add_one, h]
  simp [opsText]
set_option maxRecDepth 100000 in
set_option maxHeartbeats 2000000 in
theorem told_submit (A : Option Addr) (cap : Nat) (ops : List OpD) (q : QD) (w : World) (hG : Glob w) (hC : kOp.C w A ops.length ops) (hok : ∀ o ∈ ops, OpOk o) (hlen : (opsText ops).length ≤ 4294967200) (hn : ops.length ≤ 4294967296) :
    Calls Tryz.prog 29 #[.agg #[.int .i64 1, .slice A ops.length cap, .int .i64 q.k, .int .i64 q.i, .int .i64 q.b, .string q.x]] w fun e w' => e = .returned (.string ⟨(tText ⟨1, ops, q⟩).toArray⟩) ∧ Below w.heap.size w w' := by
  have HG := Lib.hid hG
  have HC := Lib.hid hC
  have HOK := Lib.hid hok
  have HLEN := Lib.hid hlen
  have HN := Lib.hid hn
  clear hG hC hok hlen hn
  go_enter Tryz.func29, Tryz.ntmps29
  go_wp2_with fail
  generalize hW : World.alloc w _ = w1
  have hbe : Below w.heap.size w w1 := by rw [← hW]; exact (Below.refl _ _).alloc (Nat.le_refl _) _
  have HBE := Lib.hid hbe
  clear hW hbe
  go_loopg [3, 13] ops.length (fun k s3 s13 wr => ∃ (i : Nat) (T : ByteArray), k + i = ops.length ∧ s13 = .int .i64 i ∧ s3 = .string T ∧ Hid (bl T = [115, 117, 98, 109, 105, 116] ++ opsText (ops.take i)) ∧ Hid (Below w.heap.size w wr))
  case atStart => exact ⟨0, ⟨#[115, 117, 98, 109, 105, 116]⟩, by omega, rfl, rfl, Lib.hid (by simp [opsText]), HBE⟩
  case round =>
    clear HBE
    obtain ⟨i, T, hki, rfl, rfl, HT, HBE⟩ := hrel
    cases gk with
    | zero =>
      have hlt : ¬ ((i : Int) < (ops.length : Int)) := by omega
      go_wp2_with fail
      go_ret
      refine ⟨?_, HBE.out⟩
      have h2 := HT.out
      rw [List.take_of_length_le (by omega)] at h2
      rw [show (⟨(tText ⟨1, ops, q⟩).toArray⟩ : ByteArray) = T by rw [← mk_bl T, h2]; rfl]
      rfl
    | succ gk =>
      have hlt : (i : Int) < (ops.length : Int) := by omega
      obtain ⟨ad, c, rfl, hcl, hK, hcell⟩ := Kd.C_get HC.out ⟨0, 0, 0, 0, ⟨#[]⟩, ⟨#[]⟩⟩ i (by omega) hlt
      have hKc := kOp_K hK
      subst hKc
      obtain ⟨o, ho⟩ : ∃ o, ops.getD (i : Int).toNat ⟨0, 0, 0, 0, ⟨#[]⟩, ⟨#[]⟩⟩ = o := ⟨_, rfl⟩
      rw [ho] at hcell hcl hK
      have y0 := hcell 0 _ rfl
      have y1 := hcell 1 _ rfl
      have y2 := hcell 2 _ rfl
      have y3 := hcell 3 _ rfl
      have y4 := hcell 4 _ rfl
      have y5 := hcell 5 _ rfl
      have x0 := (HBE.out.cell (World.block_lt_of_cell? _ _ y0)).trans y0
      have x1 := (HBE.out.cell (World.block_lt_of_cell? _ _ y1)).trans y1
      have x2 := (HBE.out.cell (World.block_lt_of_cell? _ _ y2)).trans y2
      have x3 := (HBE.out.cell (World.block_lt_of_cell? _ _ y3)).trans y3
      have x4 := (HBE.out.cell (World.block_lt_of_cell? _ _ y4)).trans y4
      have x5 := (HBE.out.cell (World.block_lt_of_cell? _ _ y5)).trans y5
      clear hcell hcl hK y0 y1 y2 y3 y4 y5
      have HX := Lib.hid (And.intro x0 (And.intro x1 (And.intro x2 (And.intro x3 (And.intro x4 x5)))))
      clear x0 x1 x2 x3 x4 x5
      obtain ⟨B, hB⟩ : ∃ B, ad.add (i * 6) = B := ⟨_, rfl⟩
      have hadd : ∀ j, ad.add ((i : Int).toNat * kOp.sz + j) = B.add j := fun j => by rw [← hB, Int.toNat_natCast, kOp_sz]; exact addr_add2 ad _ _
      simp only [hadd] at HX
      clear hadd
      obtain ⟨x0, x1, x2, x3, x4, x5⟩ := HX.out
      obtain ⟨bb, bo, bs⟩ := B
      simp [Addr.add] at x0 x1 x2 x3 x4 x5
      have hget : ops[i]? = some o := by
        have h2 : i < ops.length := by omega
        rw [List.getElem?_eq_getElem h2, ← ho, Int.toNat_natCast, List.getD_eq_getElem?_getD, List.getElem?_eq_getElem h2]
        rfl
      have hop := opsText_at hget
      have HOo := Lib.hid (HOK.out o (List.mem_of_getElem? hget))
      obtain ⟨P, hP⟩ : ∃ P : ByteArray, ⟨(opText o.k o.i o.t o.a o.n o.x).toArray⟩ = P := ⟨_, rfl⟩
      have hPs : bl P = oText o := by rw [← hP]; rfl
      have hlenT : (bl T).length + 2 + (bl P).length ≤ 4294967280 := by
        have h1 := HLEN.out
        rw [hop] at h1
        rw [HT.out, hPs]
        simp only [List.length_append, List.length_cons, List.length_nil] at h1 ⊢
        omega
      rw [← size_bl, ← size_bl] at hlenT
      have n1 : ¬9223372036854775807 < 2 + P.size := by omega
      have n2 : ¬9223372036854775807 < T.size + (2 + P.size) := by omega
      have q9 : IntKind.i64.wrap ((i : Int) + 1) = (i : Int) + 1 := wrap_next (by have := HN.out; omega)
      have HP := Lib.hid hP
      have HPS := Lib.hid hPs
      have HTK := Lib.hid (opsText_next hget)
      clear hget hop hP hPs hlenT ho
      go_wp2_with fail
      refine (print_any o.k o.i o.t o.a HOo.out.i HOo.out.t HOo.out.a o.n o.x HOo.out.n HOo.out.x _ (HG.out.below (HBE.out.alloc HBE.out.size _))).mono ?_
      rintro e w4 ⟨rfl, hb4⟩
      rw [HP.out]
      have HB4 := Lib.hid ((HBE.out.alloc HBE.out.size _).trans (hb4.mono (by have := HBE.out.size; simp; omega)))
      clear hb4
      go_wp2_with fail
      go_roundg gk
      case measure => omega
      case rel => exact ⟨i + 1, _, by omega, rfl, rfl, Lib.hid (by rw [HTK.out, bl_append, bl_append, HPS.out, HT.out]; simp [bl]), HB4⟩

set_option maxRecDepth 100000 in
set_option maxHeartbeats 2000000 in
theorem told_read (v : Value) (q : QD) (w : World) (hG : Glob w) (hk : I64 q.k) (hi : I64 q.i) (hb : I64 q.b) (hx : q.x.size ≤ 4294967280) (hl : (qText q).length ≤ 4294967280) (ops : List OpD) (A : Option Addr) (cap : Nat) :
    Calls Tryz.prog 29 #[.agg #[.int .i64 2, .slice A ops.length cap, .int .i64 q.k, .int .i64 q.i, .int .i64 q.b, .string q.x]] w fun e w' => e = .returned (.string ⟨(tText ⟨2, ops, q⟩).toArray⟩) ∧ Below w.heap.size w w' := by
  have HG := Lib.hid hG
  have HQ := Lib.hid (And.intro hk (And.intro hi (And.intro hb hx)))
  obtain ⟨P, hP⟩ : ∃ P : ByteArray, ⟨(qText q).toArray⟩ = P := ⟨_, rfl⟩
  have hPs : bl P = qText q := by rw [← hP]
  have n0 : P.size ≤ 4294967280 := by rw [size_bl, hPs]; exact hl
  have n1 : ¬9223372036854775807 < 4 + P.size := by omega
  have HP := Lib.hid hP
  have HF := Lib.hid (show (⟨#[114, 101, 97, 100]⟩ ++ P : ByteArray) = ⟨(tText ⟨2, ops, q⟩).toArray⟩ by
    rw [← mk_bl (⟨#[114, 101, 97, 100]⟩ ++ P), bl_append, hPs]
    rfl)
  clear hG hk hi hb hx hl hP hPs n0
  go_enter Tryz.func29, Tryz.ntmps29
  go_wp2_with fail
  generalize hW : World.alloc w _ = w1
  have hbe : Below w.heap.size w w1 := by rw [← hW]; exact (Below.refl _ _).alloc (Nat.le_refl _) _
  have HBE := Lib.hid hbe
  clear hW hbe
  refine (query_any q.k q.i q.b HQ.out.1 HQ.out.2.1 HQ.out.2.2.1 q.x HQ.out.2.2.2 w1 (HG.out.below HBE.out)).mono ?_
  rintro e w2 ⟨rfl, hb2⟩
  have HB2 := Lib.hid (HBE.out.trans (hb2.mono HBE.out.size))
  clear hb2
  rw [show (⟨(qText ⟨q.k, q.i, q.b, q.x⟩).toArray⟩ : ByteArray) = P from HP.out]
  go_wp2_with fail
  go_ret
  exact ⟨by rw [HF.out]; rfl, HB2.out⟩

set_option maxRecDepth 100000 in
set_option maxHeartbeats 2000000 in
theorem told_ask (v : Value) (q : QD) (w : World) (hG : Glob w) (hk : I64 q.k) (hi : I64 q.i) (hb : I64 q.b) (hx : q.x.size ≤ 4294967280) (hl : (qText q).length ≤ 4294967280) (ops : List OpD) (A : Option Addr) (cap : Nat) :
    Calls Tryz.prog 29 #[.agg #[.int .i64 4, .slice A ops.length cap, .int .i64 q.k, .int .i64 q.i, .int .i64 q.b, .string q.x]] w fun e w' => e = .returned (.string ⟨(tText ⟨4, ops, q⟩).toArray⟩) ∧ Below w.heap.size w w' := by
  have HG := Lib.hid hG
  have HQ := Lib.hid (And.intro hk (And.intro hi (And.intro hb hx)))
  obtain ⟨P, hP⟩ : ∃ P : ByteArray, ⟨(qText q).toArray⟩ = P := ⟨_, rfl⟩
  have hPs : bl P = qText q := by rw [← hP]
  have n0 : P.size ≤ 4294967280 := by rw [size_bl, hPs]; exact hl
  have n1 : ¬9223372036854775807 < 3 + P.size := by omega
  have HP := Lib.hid hP
  have HF := Lib.hid (show (⟨#[97, 115, 107]⟩ ++ P : ByteArray) = ⟨(tText ⟨4, ops, q⟩).toArray⟩ by
    rw [← mk_bl (⟨#[97, 115, 107]⟩ ++ P), bl_append, hPs]
    rfl)
  clear hG hk hi hb hx hl hP hPs n0
  go_enter Tryz.func29, Tryz.ntmps29
  go_wp2_with fail
  generalize hW : World.alloc w _ = w1
  have hbe : Below w.heap.size w w1 := by rw [← hW]; exact (Below.refl _ _).alloc (Nat.le_refl _) _
  have HBE := Lib.hid hbe
  clear hW hbe
  refine (query_any q.k q.i q.b HQ.out.1 HQ.out.2.1 HQ.out.2.2.1 q.x HQ.out.2.2.2 w1 (HG.out.below HBE.out)).mono ?_
  rintro e w2 ⟨rfl, hb2⟩
  have HB2 := Lib.hid (HBE.out.trans (hb2.mono HBE.out.size))
  clear hb2
  rw [show (⟨(qText ⟨q.k, q.i, q.b, q.x⟩).toArray⟩ : ByteArray) = P from HP.out]
  go_wp2_with fail
  go_ret
  exact ⟨by rw [HF.out]; rfl, HB2.out⟩

set_option maxRecDepth 100000 in
set_option maxHeartbeats 2000000 in
theorem told_rest (k : Int) (q : QD) (w : World) (h1 : k ≠ 1) (h2 : k ≠ 2) (h4 : k ≠ 4) (ops : List OpD) (A : Option Addr) (cap : Nat) :
    Calls Tryz.prog 29 #[.agg #[.int .i64 k, .slice A ops.length cap, .int .i64 q.k, .int .i64 q.i, .int .i64 q.b, .string q.x]] w fun e w' => e = .returned (.string ⟨(tText ⟨k, ops, q⟩).toArray⟩) ∧ Below w.heap.size w w' := by
  have HBE := Lib.hid (show ∀ o, Below w.heap.size w (w.alloc o) from fun o => (Below.refl _ _).alloc (Nat.le_refl _) o)
  have HF := Lib.hid (show tText ⟨k, ops, q⟩ = if k = 3 then [111, 112, 101, 110] else if k = 5 then [99, 108, 111, 115, 101] else [] by rw [tText, if_neg h1, if_neg h2, if_neg h4])
  have t1 : (k == 1) = false := beq_eq_false_iff_ne.2 h1
  have t2 : (k == 2) = false := beq_eq_false_iff_ne.2 h2
  have t4 : (k == 4) = false := beq_eq_false_iff_ne.2 h4
  clear h1 h2 h4
  by_cases h3 : k = 3
  · subst h3
    go_enter Tryz.func29, Tryz.ntmps29
    go_wp2_with fail
    go_ret
    exact ⟨by rw [HF.out]; rfl, HBE.out _⟩
  · by_cases h5 : k = 5
    · subst h5
      go_enter Tryz.func29, Tryz.ntmps29
      go_wp2_with fail
      go_ret
      exact ⟨by rw [HF.out]; rfl, HBE.out _⟩
    · have t3 : (k == 3) = false := beq_eq_false_iff_ne.2 h3
      have t5 : (k == 5) = false := beq_eq_false_iff_ne.2 h5
      have HF2 := Lib.hid (show tText ⟨k, ops, q⟩ = [] by rw [HF.out, if_neg h3, if_neg h5])
      clear h3 h5
      go_enter Tryz.func29, Tryz.ntmps29
      go_wp2_with fail
      go_ret
      exact ⟨by rw [HF2.out]; rfl, HBE.out _⟩
end Go.Proofs.YtjcdpccfhpbccaaGreatDoor
