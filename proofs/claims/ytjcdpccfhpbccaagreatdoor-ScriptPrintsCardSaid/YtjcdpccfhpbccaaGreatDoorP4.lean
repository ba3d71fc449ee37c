/-
  The walks of the document's own digits.
  The walks of the document's own searches in texts.
  What number a text is; plainly.
  The walk of the document's own numbers.
  The walk of the document's own text between brackets.
-/
import Derived.Test.YtjcdpccfhpbccaaGreatDoorB6
import Derived.Test.YtjcdpccfhpbccaaGreatDoorWWords
import Derived.Lib.ItoaLen
import Derived.Deep.RegionLaw
import Derived.Test.YtjcdpccfhpbccaaGreatDoorA6
namespace Go.Proofs.YtjcdpccfhpbccaaGreatDoor
open Go.RowKit Go.Proofs.YtjcdpccfhpbccaaGreatDoorW.PrintWords

def dg (d : Nat) : UInt8 := UInt8.ofNat (48 + d)
def digB : ByteArray := ⟨#[48, 49, 50, 51, 52, 53, 54, 55, 56, 57]⟩
theorem digit_at (d : Nat) (h : d < 10) : digB.extract d (d + 1) = ⟨[dg d].toArray⟩ := by
  have hd : d = 0 ∨ d = 1 ∨ d = 2 ∨ d = 3 ∨ d = 4 ∨ d = 5 ∨ d = 6 ∨ d = 7 ∨ d = 8 ∨ d = 9 := by omega
  rcases hd with rfl | rfl | rfl | rfl | rfl | rfl | rfl | rfl | rfl | rfl <;> rfl
theorem digit_run (d : Nat) (h : d < 10) (w : World) : (Instr.slice 9 (.string ⟨#[48, 49, 50, 51, 52, 53, 54, 55, 56, 57]⟩) (some (.int .u64 d)) (some (.int .u64 ((d : Int) + 1))) none).run Tryz.prog w = .ok (.string ⟨[dg d].toArray⟩) w := by
  have e := digit_at d h
  have h0 : (0 : Int) ≤ d := by omega
  have h1 : (d : Int) ≤ (d : Int) + 1 := by omega
  have h2 : (d : Int) + 1 ≤ 10 := by omega
  have e2 : ((d : Int) + 1).toNat = d + 1 := by omega
  have e3 : (⟨#[48, 49, 50, 51, 52, 53, 54, 55, 56, 57]⟩ : ByteArray).size = 10 := rfl
  rw [show (⟨#[48, 49, 50, 51, 52, 53, 54, 55, 56, 57]⟩ : ByteArray) = digB from rfl] at e3 ⊢
  simp [go_sem, Tryz.underlying9, h0, h1, h2, e, e2, e3]
theorem wrap_u64 {n : Nat} (h : n < 18446744073709551616) : IntKind.u64.wrap (n : Int) = n := by
  simp [IntKind.wrap, IntKind.bits, IntKind.signed]
  omega
set_option maxRecDepth 100000 in
set_option maxHeartbeats 1000000 in
theorem natural_any : ∀ (n : Nat), n < 18446744073709551616 → ∀ w : World, Calls Tryz.prog 60 #[.int .u64 n] w fun e w' => e = .returned (.string ⟨(Lib.decDigits n).toArray⟩) ∧ Below w.heap.size w w' := by
  intro n
  induction n using Nat.strongRecOn with
  | ind n ih =>
    intro hn w
    have HN := Lib.hid hn
    by_cases h : n < 10
    · have hlt : (n : Int) < 10 := by omega
      have hr := digit_run n h
      have q : IntKind.u64.wrap ((n : Int) + 1) = (n : Int) + 1 := wrap_u64 (n := n + 1) (by omega)
      have e : Lib.decDigits n = [dg n] := by rw [Lib.decDigits, dif_pos h]; rfl
      have HE := Lib.hid e
      clear e hn ih
      go_enter Tryz.func60, Tryz.ntmps60
      go_wp2_with fail
      go_ret
      exact ⟨by rw [HE.out]; rfl, Below.refl _ _⟩
    · have hlt : ¬ (n : Int) < 10 := by omega
      have e : Lib.decDigits n = Lib.decDigits (n / 10) ++ [dg (n % 10)] := by rw [Lib.decDigits, dif_neg h]; rfl
      have HE := Lib.hid e
      have IH := Lib.hid (ih (n / 10) (by omega) (by omega))
      obtain ⟨m, hm⟩ : ∃ m, n / 10 = m := ⟨_, rfl⟩
      obtain ⟨d, hd⟩ : ∃ d, n % 10 = d := ⟨_, rfl⟩
      have hr := digit_run d (by omega)
      have q1 : IntKind.u64.wrap ((n : Int) / 10) = (m : Int) := by
        rw [show (n : Int) / 10 = (m : Int) by omega]
        exact wrap_u64 (by omega)
      have q2 : (n : Int).tmod 10 = (d : Int) := by
        rw [Int.tmod_eq_emod_of_nonneg (by omega)]
        omega
      have q3 : IntKind.u64.wrap ((d : Int) + 1) = (d : Int) + 1 := wrap_u64 (n := d + 1) (by omega)
      rw [hm, hd] at HE
      rw [hm] at IH
      have hsz := size_mk (Lib.decDigits m)
      obtain ⟨T, hT⟩ : ∃ T : ByteArray, ⟨(Lib.decDigits m).toArray⟩ = T := ⟨_, rfl⟩
      have hlen : (Lib.decDigits m).length ≤ 20 := by rw [Lib.decDigits_length]; exact Lib.nDigits_le20 m (by omega)
      rw [hT] at hsz
      have n1 : ¬ 9223372036854775807 < T.size + 1 := by omega
      have hcat : T ++ (⟨#[dg d]⟩ : ByteArray) = ⟨(Lib.decDigits m ++ [dg d]).toArray⟩ := by
        rw [← mk_bl (T ++ ⟨#[dg d]⟩), ← hT]
        congr 1
      have HTT := Lib.hid hT
      clear e hn ih hm hd hsz hlen hT
      go_enter Tryz.func60, Tryz.ntmps60
      go_wp2_with fail
      go_region_law (first
        | (go_simp
           go_at_call 60
           refine (IH.out _).mono ?_
           rintro e w2 ⟨rfl, hb2⟩
           rw [HTT.out]
           have HB2 := Lib.hid hb2
           clear hb2
           dsimp only))
      all_goals
        go_wp2_with fail
        go_ret
        exact ⟨by rw [HE.out]; rfl, (below_drew (Below.refl w.heap.size w)).trans HB2.out⟩
theorem natural_at (n : Nat) (v : Int) (hv : v = n) (hn : n < 18446744073709551616) (w : World) : Calls Tryz.prog 60 #[.int .u64 v] w fun e w' => e = .returned (.string ⟨(Lib.decDigits n).toArray⟩) ∧ Below w.heap.size w w' := by
  subst hv
  exact natural_any n hn w
set_option maxRecDepth 100000 in
set_option maxHeartbeats 1000000 in
theorem digits_any (v : Int) (hv : I64 v) (w : World) : Calls Tryz.prog 36 #[.int .i64 v] w fun e w' => e = .returned (.string ⟨(Lib.itoa v).toArray⟩) ∧ Below w.heap.size w w' := by
  obtain ⟨h1, h2⟩ := hv
  by_cases h : v < 0
  · have e : Lib.itoa v = 45 :: Lib.decDigits v.natAbs := by rw [Lib.itoa, if_pos h]
    have HE := Lib.hid e
    obtain ⟨m, hm⟩ : ∃ m, v.natAbs = m := ⟨_, rfl⟩
    have q1 : IntKind.i64.wrap (v + 1) = v + 1 := by rw [IntKind.wrap_i64]; omega
    have q2 : IntKind.i64.wrap (-(v + 1)) = -(v + 1) := by rw [IntKind.wrap_i64]; omega
    have q3 : IntKind.u64.wrap (-(v + 1)) = -(v + 1) := by
      rw [show -(v + 1) = ((m - 1 : Nat) : Int) by omega]
      exact wrap_u64 (by omega)
    have q4 : IntKind.u64.wrap (-(v + 1) + 1) = (m : Int) := by
      rw [show -(v + 1) + 1 = (m : Int) by omega]
      exact wrap_u64 (by omega)
    have hlen : (Lib.decDigits m).length ≤ 20 := by rw [Lib.decDigits_length]; exact Lib.nDigits_le20 m (by omega)
    have hsz := size_mk (Lib.decDigits m)
    obtain ⟨T, hT⟩ : ∃ T : ByteArray, ⟨(Lib.decDigits m).toArray⟩ = T := ⟨_, rfl⟩
    rw [hT] at hsz
    have n1 : ¬ 9223372036854775807 < 1 + T.size := by omega
    have hcat : (⟨#[45]⟩ : ByteArray) ++ T = ⟨(45 :: Lib.decDigits m).toArray⟩ := by
      rw [← mk_bl (⟨#[45]⟩ ++ T), ← hT]
      congr 1
    have HTT := Lib.hid hT
    have HM := Lib.hid (show m < 18446744073709551616 by omega)
    rw [hm] at HE
    clear e hm hlen hsz hT h1 h2
    go_enter Tryz.func36, Tryz.ntmps36
    go_wp2_with fail
    refine (natural_any m HM.out w).mono ?_
    rintro e w2 ⟨rfl, hb2⟩
    rw [HTT.out]
    have HB2 := Lib.hid hb2
    clear hb2
    go_wp2_with fail
    go_ret
    exact ⟨by rw [HE.out]; rfl, HB2.out⟩
  · have e : Lib.itoa v = Lib.decDigits v.toNat := by rw [Lib.itoa, if_neg h]
    obtain ⟨m, hm⟩ : ∃ m : Nat, v = m := ⟨v.toNat, by omega⟩
    subst hm
    rw [Int.toNat_natCast] at e
    have HE := Lib.hid e
    have q1 : IntKind.u64.wrap (m : Int) = m := wrap_u64 (by omega)
    have HM := Lib.hid (show m < 18446744073709551616 by omega)
    clear e h1 h2
    go_enter Tryz.func36, Tryz.ntmps36
    go_wp2_with fail
    refine (natural_any m HM.out w).mono ?_
    rintro e w2 ⟨rfl, hb2⟩
    have HB2 := Lib.hid hb2
    clear hb2
    go_wp2_with fail
    go_ret
    exact ⟨by rw [HE.out]; rfl, HB2.out⟩
end Go.Proofs.YtjcdpccfhpbccaaGreatDoor
namespace Go.Proofs.YtjcdpccfhpbccaaGreatDoor
open Go.RowKit Go.Proofs.YtjcdpccfhpbccaaGreatDoorW.PrintWords

theorem wrap_next' {n : Nat} (h : n < 4294967297) : IntKind.i64.wrap ((n : Int) + 1) = (n : Int) + 1 := by rw [IntKind.wrap_i64]; omega
theorem idx_str (t : ByteArray) (i : Nat) (c : UInt8) (h : (bl t)[i]? = some c) (w : World) :
    (Instr.index 9 (.string t) (.int .i64 i)).run Tryz.prog w = .ok (.int .u8 c.toNat) w := by
  obtain ⟨hlt, he⟩ := List.getElem?_eq_some_iff.1 h
  have hi : i < t.size := by rw [size_bl]; exact hlt
  rw [run_index_string w 9 t .i64 i Tryz.underlying9, dif_pos ⟨by omega, by omega⟩]
  have e1 : t[(i : Int).toNat]'(by rw [Int.toNat_natCast]; exact hi) = c := by
    rw [← he]
    rfl
  rw [e1]
theorem u8_beq (c d : UInt8) : ((c.toNat : Int) == (d.toNat : Int)) = (c == d) := by
  by_cases h : c = d
  · subst h; simp
  · have h1 : ¬ (c.toNat : Int) = d.toNat := fun e => h (UInt8.toNat_inj.1 (by omega))
    rw [beq_eq_false_iff_ne.2 h1, beq_eq_false_iff_ne.2 h]
theorem contains_step {l : List UInt8} {j : Nat} {c d : UInt8} (h : l[j]? = some d) (h1 : (l.take j).contains c = false) (h2 : (c == d) = false) : (l.take (j + 1)).contains c = false := by
  rw [List.take_add_one, h]
  simp only [List.contains_eq_mem, List.mem_append, decide_eq_false_iff_not, Option.toList_some, List.mem_singleton] at h1 ⊢
  rintro (h3 | h3)
  · exact h1 h3
  · rw [h3] at h2; simp at h2
theorem contains_hit {l : List UInt8} {j : Nat} {c d : UInt8} (h : l[j]? = some d) (h2 : (c == d) = true) : l.contains c = true := by
  have : c = d := by simpa using h2
  subst this
  simp only [List.contains_eq_mem, decide_eq_true_eq]
  exact List.mem_of_getElem? h
theorem hasB_step {bs l : List UInt8} {i : Nat} {c : UInt8} (h : l[i]? = some c) (h1 : hasB bs (l.take i) = false) (h2 : bs.contains c = false) : hasB bs (l.take (i + 1)) = false := by
  rw [List.take_add_one, h]
  simp only [hasB, List.any_append, Bool.or_eq_false_iff, Option.toList_some, List.any_cons, List.any_nil, Bool.or_false] at h1 ⊢
  exact ⟨h1, h2⟩
theorem hasB_hit2 {bs l : List UInt8} {i : Nat} {c : UInt8} (h : l[i]? = some c) (h2 : bs.contains c = true) : hasB bs l = true := by
  simp only [hasB, List.any_eq_true]
  exact ⟨c, List.mem_of_getElem? h, h2⟩
set_option maxRecDepth 100000 in
set_option maxHeartbeats 2000000 in
theorem rhas_any (s bs : ByteArray) (hs : s.size ≤ 4294967296) (hb : bs.size ≤ 4294967296) (w : World) :
    Calls Tryz.prog 69 #[.string s, .string bs] w fun e w' => e = .returned (.bool (hasB (bl bs) (bl s))) ∧ Below w.heap.size w w' := by
  have HS := Lib.hid hs
  have HB := Lib.hid hb
  clear hs hb
  go_enter Tryz.func69, Tryz.ntmps69
  go_wp2_with fail
  go_loopg [5] s.size (fun k s5 wr => ∃ (i : Nat), k + i = s.size ∧ s5 = .int .i64 i ∧ Hid (hasB (bl bs) ((bl s).take i) = false) ∧ Hid (Below w.heap.size w wr))
  case atStart => exact ⟨0, by omega, rfl, Lib.hid (by simp [hasB]), Lib.hid (Below.refl _ _)⟩
  case round =>
    obtain ⟨i, hki, rfl, HT, P⟩ := hrel
    cases gk with
    | zero =>
      have hlt : ¬ ((i : Int) < (s.size : Int)) := by omega
      have HF := Lib.hid (show hasB (bl bs) (bl s) = false by have := HT.out; rwa [List.take_of_length_le (by rw [← size_bl]; omega)] at this)
      go_wp2_with fail
      go_ret
      exact ⟨by rw [HF.out]; rfl, P.out⟩
    | succ gk0 =>
      have hlt : (i : Int) < (s.size : Int) := by omega
      obtain ⟨c, hc⟩ : ∃ c, (bl s)[i]? = some c := ⟨_, List.getElem?_eq_getElem (by rw [← size_bl]; omega)⟩
      have hidx := idx_str s i c hc
      have HC := Lib.hid hc
      have HKI := Lib.hid hki
      have q9 : IntKind.i64.wrap ((i : Int) + 1) = (i : Int) + 1 := wrap_next' (by have := HS.out; omega)
      clear hc hki
      go_wp2_with fail
      go_loopg [6] bs.size (fun k s6 wr => ∃ (j : Nat), k + j = bs.size ∧ s6 = .int .i64 j ∧ Hid (((bl bs).take j).contains c = false) ∧ Hid (Below w.heap.size w wr))
      case atStart => exact ⟨0, by omega, rfl, Lib.hid (by simp), P⟩
      case round =>
        clear P
        obtain ⟨j, hkj, rfl, HTJ, P⟩ := hrel
        cases gk with
        | zero =>
          have hlt2 : ¬ ((j : Int) < (bs.size : Int)) := by omega
          have HF := Lib.hid (show (bl bs).contains c = false by have := HTJ.out; rwa [List.take_of_length_le (by rw [← size_bl]; omega)] at this)
          go_wp2_with fail
          go_roundg gk0
          case measure => omega
          case rel => exact ⟨i + 1, by have := HKI.out; omega, rfl, Lib.hid (hasB_step HC.out HT.out HF.out), P⟩
        | succ gk1 =>
          have hlt2 : (j : Int) < (bs.size : Int) := by omega
          obtain ⟨d, hd⟩ : ∃ d, (bl bs)[j]? = some d := ⟨_, List.getElem?_eq_getElem (by rw [← size_bl]; omega)⟩
          have hidx2 := idx_str bs j d hd
          have HD := Lib.hid hd
          have HKJ := Lib.hid hkj
          have q10 : IntKind.i64.wrap ((j : Int) + 1) = (j : Int) + 1 := wrap_next' (by have := HB.out; omega)
          have he := u8_beq c d
          clear hd hkj
          cases hcd : (c == d) with
          | true =>
            rw [hcd] at he
            have HR := Lib.hid (hasB_hit2 HC.out (contains_hit HD.out hcd))
            clear hcd
            go_wp2_with fail
            go_quiet (fail)
            go_wp2_with fail
            go_ret
            exact ⟨by rw [HR.out]; rfl, below_drewN P.out _⟩
          | false =>
            rw [hcd] at he
            have HR := Lib.hid (contains_step HD.out HTJ.out hcd)
            clear hcd
            go_wp2_with fail
            go_quiet (fail)
            go_wp2_with fail
            go_roundg gk1
            case measure => omega
            case rel => exact ⟨j + 1, by have := HKJ.out; omega, rfl, HR, Lib.hid (below_drewN P.out _)⟩
set_option maxRecDepth 100000 in
set_option maxHeartbeats 2000000 in
theorem in_any (s : ByteArray) (b : UInt8) (hs : s.size ≤ 4294967296) (r : Bool) (hr : (bl s).contains b = r) (w : World) :
    Calls Tryz.prog 84 #[.string s, .int .u8 b.toNat] w fun e w' => e = .returned (.bool r) ∧ w' = w := by
  have HS := Lib.hid hs
  have HRR := Lib.hid hr
  clear hs hr
  go_enter Tryz.func84, Tryz.ntmps84
  go_wp2_with fail
  go_loopg [5] s.size (fun k s5 wr => ∃ (i : Nat), k + i = s.size ∧ s5 = .int .i64 i ∧ Hid (((bl s).take i).contains b = false) ∧ wr = w)
  case atStart => exact ⟨0, by omega, rfl, Lib.hid (by simp), rfl⟩
  case round =>
    obtain ⟨i, hki, rfl, HT, rfl⟩ := hrel
    cases gk with
    | zero =>
      have hlt : ¬ ((i : Int) < (s.size : Int)) := by omega
      have HF := Lib.hid (show (bl s).contains b = false by have := HT.out; rwa [List.take_of_length_le (by rw [← size_bl]; omega)] at this)
      go_wp2_with fail
      go_ret
      exact ⟨by rw [← HRR.out, HF.out]; rfl, rfl⟩
    | succ gk0 =>
      have hlt : (i : Int) < (s.size : Int) := by omega
      obtain ⟨c, hc⟩ : ∃ c, (bl s)[i]? = some c := ⟨_, List.getElem?_eq_getElem (by rw [← size_bl]; omega)⟩
      have hidx := idx_str s i c hc
      have HC := Lib.hid hc
      have q9 : IntKind.i64.wrap ((i : Int) + 1) = (i : Int) + 1 := wrap_next' (by have := HS.out; omega)
      have he := u8_beq c b
      clear hc
      cases hcd : (c == b) with
      | true =>
        rw [hcd] at he
        have hcb : c = b := by simpa using hcd
        have HR := Lib.hid (show (bl s).contains b = true from contains_hit HC.out (by rw [hcb]; simp))
        clear hcb
        clear hcd
        go_wp2_with fail
        go_ret
        exact ⟨by rw [← HRR.out, HR.out]; rfl, rfl⟩
      | false =>
        rw [hcd] at he
        have hbc : (b == c) = false := beq_eq_false_iff_ne.2 (fun h => by rw [h] at hcd; simp at hcd)
        have HR := Lib.hid (show ((bl s).take (i + 1)).contains b = false from contains_step HC.out HT.out hbc)
        clear hbc
        clear hcd
        go_wp2_with fail
        go_roundg gk0
        case measure => omega
        case rel => exact ⟨i + 1, by omega, rfl, HR, rfl⟩
end Go.Proofs.YtjcdpccfhpbccaaGreatDoor
namespace Go.Proofs.YtjcdpccfhpbccaaGreatDoor
open Go.RowKit Go.Proofs.YtjcdpccfhpbccaaGreatDoorW.PrintWords

def val : Nat → List UInt8 → Nat
  | acc, [] => acc
  | acc, c :: r => val (acc * 10 + (c.toNat - 48)) r
def IsDig (c : UInt8) : Prop := 48 ≤ c.toNat ∧ c.toNat ≤ 57
theorem val_snoc : ∀ (l : List UInt8) (acc : Nat) (c : UInt8), val acc (l ++ [c]) = val acc l * 10 + (c.toNat - 48)
  | [], _, _ => rfl
  | _ :: r, acc, c => val_snoc r _ c
theorem val_ge : ∀ (l : List UInt8) (acc : Nat), acc ≤ val acc l
  | [], _ => Nat.le_refl _
  | c :: r, acc => by
    have := val_ge r (acc * 10 + (c.toNat - 48))
    show acc ≤ val (acc * 10 + (c.toNat - 48)) r
    omega
theorem val_app : ∀ (l m : List UInt8) (acc : Nat), val acc (l ++ m) = val (val acc l) m
  | [], _, _ => rfl
  | _ :: r, m, _ => val_app r m _
theorem val_take {l : List UInt8} {j : Nat} (h : j < l.length) : val 0 (l.take j) * 10 ≤ val 0 l := by
  conv => rhs; rw [← List.take_append_drop j l, val_app, List.drop_eq_getElem_cons h]
  have := val_ge (l.drop (j + 1)) (val 0 (l.take j) * 10 + (l[j].toNat - 48))
  show _ ≤ val (val 0 (l.take j) * 10 + (l[j].toNat - 48)) (l.drop (j + 1))
  omega
theorem dg_nat {d : Nat} (h : d < 10) : (UInt8.ofNat (48 + d)).toNat = 48 + d := by
  simp only [UInt8.toNat_ofNat']
  omega
theorem dec_val : ∀ (u : Nat), val 0 (Lib.decDigits u) = u ∧ ∀ c ∈ Lib.decDigits u, IsDig c := by
  intro u
  induction u using Nat.strongRecOn with
  | ind u ih =>
    by_cases h : u < 10
    · have e : Lib.decDigits u = [UInt8.ofNat (48 + u)] := by rw [Lib.decDigits, dif_pos h]
      rw [e]
      have h1 := dg_nat h
      refine ⟨?_, fun c hc => ?_⟩
      · show 0 * 10 + ((UInt8.ofNat (48 + u)).toNat - 48) = u
        omega
      · rw [List.mem_singleton.1 hc]
        exact ⟨by omega, by omega⟩
    · have e : Lib.decDigits u = Lib.decDigits (u / 10) ++ [UInt8.ofNat (48 + u % 10)] := by rw [Lib.decDigits, dif_neg h]
      rw [e]
      obtain ⟨i1, i2⟩ := ih (u / 10) (by omega)
      have h1 := dg_nat (d := u % 10) (by omega)
      refine ⟨by rw [val_snoc, i1, h1]; omega, fun c hc => ?_⟩
      rcases List.mem_append.1 hc with hc | hc
      · exact i2 c hc
      · rw [List.mem_singleton.1 hc]
        exact ⟨by omega, by omega⟩
theorem dec_ne (u : Nat) : Lib.decDigits u ≠ [] := by
  intro h
  have h1 := Lib.decDigits_length u
  have h2 := Lib.nDigits_pos u
  rw [h] at h1
  simp at h1
  omega
theorem parse_val : ∀ (l : List UInt8) (acc : Nat), (∀ c ∈ l, IsDig c) → val acc l < 18446744073709551616 → Lib.parseUint10 acc l = .ok (val acc l)
  | [], _, _, _ => rfl
  | c :: r, acc, hd, hv => by
    have h1 := hd c (by simp)
    have h2 := val_ge r (acc * 10 + (c.toNat - 48))
    have h3 : val acc (c :: r) = val (acc * 10 + (c.toNat - 48)) r := rfl
    rw [h3] at hv
    rw [Lib.parseUint10, if_pos (show 48 ≤ c.toNat ∧ c.toNat ≤ 57 from h1), if_neg (by omega), if_neg (by omega), h3]
    exact parse_val r _ (fun x hx => hd x (by simp [hx])) hv
def negB (l : List UInt8) : Bool := l.head? == some 45
def digs (l : List UInt8) : List UInt8 := if negB l then l.drop 1 else l
theorem itoa_split (k : Int) : negB (Lib.itoa k) = decide (k < 0) ∧ digs (Lib.itoa k) = Lib.decDigits k.natAbs := by
  by_cases h : k < 0
  · have e : Lib.itoa k = 45 :: Lib.decDigits k.natAbs := by rw [Lib.itoa, if_pos h]
    rw [e]
    exact ⟨by simp [negB, h], by simp [digs, negB]⟩
  · have e : Lib.itoa k = Lib.decDigits k.natAbs := by rw [Lib.itoa, if_neg h, show k.toNat = k.natAbs by omega]
    rw [e]
    have hn : negB (Lib.decDigits k.natAbs) = false := by
      cases hd : Lib.decDigits k.natAbs with
      | nil => exact absurd hd (dec_ne _)
      | cons c r =>
        have h1 := (dec_val k.natAbs).2 c (by rw [hd]; simp)
        refine beq_eq_false_iff_ne.2 (fun he => ?_)
        have : c = 45 := by simpa using he
        rw [this] at h1
        exact absurd h1.1 (by decide)
    exact ⟨by rw [hn]; simp [h], by rw [digs, hn]; rfl⟩
theorem num_itoa {k : Int} (hk : I64 k) : num (Lib.itoa k) = some k := by
  obtain ⟨h1, h2⟩ := hk
  have key : Lib.atoiAll (Lib.itoa k) = .ok k := by
    obtain ⟨v1, v2⟩ := dec_val k.natAbs
    by_cases h : k < 0
    · have e : Lib.itoa k = 45 :: Lib.decDigits k.natAbs := by rw [Lib.itoa, if_pos h]
      rw [e]
      have hp : Lib.parseMag (Lib.decDigits k.natAbs) = .ok k.natAbs := by
        rw [Lib.parseMag, if_neg (dec_ne _), parse_val _ _ v2 (by rw [v1]; omega), v1]
      have h45 : (45 : UInt8).toNat = 45 := rfl
      simp only [Lib.atoiAll, h45, or_true, if_true, hp, not_true, false_and, if_false, true_and]
      rw [if_neg (by omega)]
      congr 1
      omega
    · have e : Lib.itoa k = Lib.decDigits k.natAbs := by rw [Lib.itoa, if_neg h, show k.toNat = k.natAbs by omega]
      rw [e]
      have hp : Lib.parseMag (Lib.decDigits k.natAbs) = .ok k.natAbs := by
        rw [Lib.parseMag, if_neg (dec_ne _), parse_val _ _ v2 (by rw [v1]; omega), v1]
      cases hd : Lib.decDigits k.natAbs with
      | nil => exact absurd hd (dec_ne _)
      | cons c r =>
        have hc := v2 c (by rw [hd]; simp)
        rw [hd] at hp
        have n1 : ¬ (c.toNat = 43 ∨ c.toNat = 45) := by have := hc.1; omega
        have n2 : ¬ c.toNat = 45 := fun h => n1 (.inr h)
        simp only [Lib.atoiAll, if_neg n1, hp]
        rw [if_neg (show ¬ (¬ c.toNat = 45 ∧ 9223372036854775808 ≤ k.natAbs) by omega), if_neg (fun h => n2 h.1), if_neg n2]
        congr 1
        omega
  unfold num
  rw [key]
  simp
theorem num_some {x : List UInt8} {k : Int} : num x = some k ↔ I64 k ∧ x = Lib.itoa k := by
  constructor
  · intro h
    refine ⟨num_bounds h, ?_⟩
    unfold num at h
    split at h
    · split at h
      · rename_i hi
        simp at h
        rw [← h]
        exact hi.symm
      · simp at h
    · simp at h
  · rintro ⟨h, rfl⟩
    exact num_itoa h
/-- What a number's text must be. -/
theorem num_parts {l : List UInt8} {k : Int} (h : num l = some k) : (∀ c ∈ digs l, IsDig c) ∧ val 0 (digs l) = k.natAbs ∧ negB l = decide (k < 0) ∧ I64 k ∧ l = Lib.itoa k := by
  obtain ⟨h1, rfl⟩ := num_some.1 h
  obtain ⟨s1, s2⟩ := itoa_split k
  obtain ⟨v1, v2⟩ := dec_val k.natAbs
  rw [s2]
  exact ⟨v2, v1, s1, h1, rfl⟩
theorem num_none {l : List UInt8} (h : ∀ k, num l ≠ some k) : num l = none := by
  cases hn : num l with
  | none => rfl
  | some k => exact absurd hn (h k)
theorem no_digit {l : List UInt8} {j : Nat} {c : UInt8} (hc : (digs l)[j]? = some c) (h : ¬ IsDig c) : num l = none :=
  num_none fun k hk => h ((num_parts hk).1 c (List.mem_of_getElem? hc))
theorem no_big {l : List UInt8} {j : Nat} (hj : j < (digs l).length) (h : 922337203685477580 < val 0 ((digs l).take j)) : num l = none :=
  num_none fun k hk => by
    obtain ⟨_, h2, _, h4, _⟩ := num_parts hk
    have h3 := val_take hj
    obtain ⟨b1, b2⟩ := h4
    omega
theorem no_over {l : List UInt8} (h : 9223372036854775808 < val 0 (digs l) ∨ (val 0 (digs l) = 9223372036854775808 ∧ negB l = false)) : num l = none :=
  num_none fun k hk => by
    obtain ⟨_, h2, h3, ⟨b1, b2⟩, _⟩ := num_parts hk
    rcases h with h | ⟨h, hn⟩
    · omega
    · rw [hn] at h3
      have : ¬ k < 0 := fun hx => by rw [decide_eq_true hx] at h3; cases h3
      omega
def numX (l : List UInt8) : Int := if negB l then -(val 0 (digs l) : Int) else val 0 (digs l)
theorem num_x {l : List UInt8} {k : Int} (h : num l = some k) : k = numX l := by
  obtain ⟨_, h2, h3, _, _⟩ := num_parts h
  unfold numX
  rw [h2, h3]
  by_cases hk : k < 0
  · rw [if_pos (by simp [hk])]; omega
  · rw [if_neg (by simp [hk])]; omega
theorem num_is {l : List UInt8} (hx : I64 (numX l)) : num l = if Lib.itoa (numX l) = l then some (numX l) else none := by
  split
  · rename_i h
    have := num_itoa hx
    rw [h] at this
    exact this
  · rename_i h
    exact num_none fun k hk => h (by rw [← num_x hk]; exact (num_parts hk).2.2.2.2.symm)
end Go.Proofs.YtjcdpccfhpbccaaGreatDoor
namespace Go.Proofs.YtjcdpccfhpbccaaGreatDoor
open Go.RowKit Go.Proofs.YtjcdpccfhpbccaaGreatDoorW.PrintWords

def NumPost (r : Option Int) (e : Ending) : Prop := match r with | some k => e = .returned (.tuple #[.int .i64 k, .bool true]) | none => ∃ x, I64 x ∧ e = .returned (.tuple #[.int .i64 x, .bool false])
theorem wrap_u64i {x : Int} (h0 : 0 ≤ x) (h : x < 18446744073709551616) : IntKind.u64.wrap x = x := by
  obtain ⟨n, rfl⟩ : ∃ n : Nat, x = n := ⟨x.toNat, by omega⟩
  exact wrap_u64 (by omega)
theorem wrap_u8i {x : Int} (h0 : 0 ≤ x) (h : x < 256) : IntKind.u8.wrap x = x := by
  obtain ⟨n, rfl⟩ : ∃ n : Nat, x = n := ⟨x.toNat, by omega⟩
  simp [IntKind.wrap, IntKind.bits, IntKind.signed]
  omega
theorem val_next {l : List UInt8} {j : Nat} {c : UInt8} (h : l[j]? = some c) : val 0 (l.take (j + 1)) = val 0 (l.take j) * 10 + (c.toNat - 48) := by
  rw [List.take_add_one, h]
  exact val_snoc _ _ _
theorem mk_ne {l : List UInt8} {s : ByteArray} (h : l ≠ bl s) : ((⟨l.toArray⟩ : ByteArray).toList == s.toList) = false := by
  refine beq_eq_false_iff_ne.2 (fun he => h ?_)
  rw [ByteArray.toList_eq, ByteArray.toList_eq] at he
  exact he
theorem num_nil : num [] = none := rfl
set_option maxRecDepth 100000 in
set_option maxHeartbeats 1000000 in
theorem rnumber_nil (w : World) : Calls Tryz.prog 51 #[.string ⟨#[]⟩] w fun e w' => NumPost none e ∧ Below w.heap.size w w' := by
  go_enter Tryz.func51, Tryz.ntmps51
  go_wp2_with fail
  go_loopg [4, 7] 0 (fun k s4 s7 wr => s7 = .int .i64 0 ∧ s4 = .int .u64 0 ∧ wr = w)
  case atStart => exact ⟨rfl, rfl, rfl⟩
  case round =>
    obtain ⟨rfl, rfl, rfl⟩ := hrel
    go_wp2_with fail
    refine (digits_any 0 ⟨by decide, by decide⟩ wr).mono ?_
    rintro e w2 ⟨rfl, hb2⟩
    have HB2 := Lib.hid hb2
    clear hb2
    rw [show (Lib.itoa 0) = [48] by kernel_rfl]
    go_wp2_with fail
    go_ret2
    exact ⟨⟨0, ⟨by decide, by decide⟩, rfl⟩, HB2.out⟩
set_option maxRecDepth 100000 in
set_option maxHeartbeats 4000000 in
theorem rnumber_any (s : ByteArray) (hs : s.size ≤ 4294967280) (res : Option Int) (hres : num (bl s) = res) (w : World) :
    Calls Tryz.prog 51 #[.string s] w fun e w' => NumPost res e ∧ Below w.heap.size w w' := by
  have HS := Lib.hid hs
  have HRES := Lib.hid hres
  have NO := Lib.hid (show ∀ W : World, num (bl s) = none → Below w.heap.size w W → NumPost res (.returned (.tuple #[.int .i64 0, .bool false])) ∧ Below w.heap.size w W from fun W h hb => ⟨by rw [← HRES.out, h]; exact ⟨0, ⟨by decide, by decide⟩, rfl⟩, hb⟩)
  clear hs hres
  obtain ⟨D, hD⟩ : ∃ D, digs (bl s) = D := ⟨_, rfl⟩
  have HD := Lib.hid hD
  cases hb : bl s with
  | nil =>
    obtain rfl : s = ⟨#[]⟩ := mk_of hb
    rw [show res = none from HRES.out.symm.trans num_nil]
    exact rnumber_nil w
  | cons c0 r0 =>
    have h0 : (bl s)[0]? = some c0 := by rw [hb]; rfl
    have hne : (s.toList == []) = false := beq_eq_false_iff_ne.2 (fun h => by
      rw [ByteArray.toList_eq] at h
      have h2 : bl s = [] := h
      rw [hb] at h2
      cases h2)
    have i0 : ∀ w, (Instr.index 9 (.string s) (.int .i64 0)).run Tryz.prog w = .ok (.int .u8 c0.toNat) w := idx_str s 0 c0 h0
    have hsz : 1 ≤ s.size := by rw [size_bl, hb]; simp
    by_cases hc : c0 = 45
    · have hng : negB (bl s) = true := by rw [hb, hc]; rfl
      have hp : (c0.toNat : Int) = 45 := by rw [hc]; rfl
      clear hb h0 hc
      have HNG := Lib.hid hng
      have HDL := Lib.hid (show D = (bl s).drop 1 by rw [← HD.out, digs, HNG.out]; rfl)
      have HLEN := Lib.hid (show D.length + 1 = s.size by rw [HDL.out, List.length_drop, ← size_bl]; have := hsz; omega)
      clear hng hsz hD
      go_enter Tryz.func51, Tryz.ntmps51
      go_wp2_with fail
      go_loopg [4, 7] D.length (fun k s4 s7 wr => ∃ (j : Nat), k + j = D.length ∧ s7 = .int .i64 (1 + j : Nat) ∧ s4 = .int .u64 (val 0 (D.take j) : Nat) ∧ Hid (val 0 (D.take j) ≤ 9223372036854775809) ∧ wr = w)
      case atStart => exact ⟨0, by omega, rfl, rfl, Lib.hid (by show 0 ≤ 9223372036854775809; omega), rfl⟩
      case round =>
        obtain ⟨j, hkj, rfl, rfl, HV, rfl⟩ := hrel
        obtain ⟨V, hV⟩ : ∃ V, val 0 (D.take j) = V := ⟨_, rfl⟩
        rw [hV] at HV ⊢
        have HVV := Lib.hid hV
        obtain ⟨m, hm⟩ : ∃ m, 1 + j = m := ⟨_, rfl⟩
        rw [hm]
        cases gk with
        | succ gk =>
          have hlt : (m : Int) < (s.size : Int) := by have := HLEN.out; omega
          obtain ⟨c, hc⟩ : ∃ c, D[j]? = some c := ⟨_, List.getElem?_eq_getElem (by omega)⟩
          have hidx := idx_str s m c (by have := hc; rw [HDL.out, List.getElem?_drop, hm] at this; exact this)
          have q0 : IntKind.i64.wrap ((m : Int) + 1) = (m : Int) + 1 := wrap_next' (by have := HS.out; omega)
          have HC := Lib.hid hc
          have HM := Lib.hid hm
          have HKJ := Lib.hid hkj
          have hc8 := c.toNat_lt
          obtain ⟨cn, hcn⟩ : ∃ cn, c.toNat = cn := ⟨_, rfl⟩
          have HCN := Lib.hid hcn
          rw [hcn] at hidx hc8
          clear hc hm hV hkj hcn
          by_cases h1 : (cn : Int) < 48
          · have HN := Lib.hid (show num (bl s) = none from no_digit (by rw [HD.out]; exact HC.out) (fun h => by have := h.1; have := HCN.out; omega))
            go_wp2_with fail
            go_ret2
            exact NO.out _ HN.out (Below.refl _ _)
          by_cases h2 : 57 < (cn : Int)
          · have HN := Lib.hid (show num (bl s) = none from no_digit (by rw [HD.out]; exact HC.out) (fun h => by have := h.2; have := HCN.out; omega))
            go_wp2_with fail
            go_ret2
            exact NO.out _ HN.out (Below.refl _ _)
          by_cases h3 : 922337203685477580 < (V : Int)
          · have HN := Lib.hid (show num (bl s) = none from no_big (j := j) (by rw [HD.out]; have := HKJ.out; omega) (by rw [HD.out, HVV.out]; omega))
            go_wp2_with fail
            go_ret2
            exact NO.out _ HN.out (Below.refl _ _)
          have q1 : IntKind.u64.wrap ((V : Int) * 10) = (V : Int) * 10 := wrap_u64i (by omega) (by omega)
          have q2 : IntKind.u8.wrap ((cn : Int) - 48) = (cn : Int) - 48 := wrap_u8i (by omega) (by omega)
          have q3 : IntKind.u64.wrap ((cn : Int) - 48) = (cn : Int) - 48 := wrap_u64i (by omega) (by omega)
          obtain ⟨M, hM⟩ : ∃ M : Nat, V * 10 + (cn - 48) = M := ⟨_, rfl⟩
          have q4 : IntKind.u64.wrap ((V : Int) * 10 + ((cn : Int) - 48)) = (M : Int) := by
            rw [wrap_u64i (by omega) (by omega)]
            omega
          have HMM := Lib.hid (show val 0 (D.take (j + 1)) = M by rw [val_next HC.out, HVV.out, HCN.out, hM])
          have HMB := Lib.hid (show M ≤ 9223372036854775809 by omega)
          clear hM hc8
          go_wp2_with fail
          go_roundg gk
          case measure => omega
          case rel => exact ⟨j + 1, by have := HKJ.out; omega, by rw [← HM.out]; rfl, by rw [HMM.out], Lib.hid (by rw [HMM.out]; exact HMB.out), rfl⟩
        | zero =>
          have hlt : ¬ (m : Int) < (s.size : Int) := by have := HLEN.out; omega
          have HVD := Lib.hid (show val 0 (digs (bl s)) = V by rw [HD.out, ← hV, List.take_of_length_le (by omega)])
          clear hm hV hkj
          by_cases h1 : 9223372036854775808 < (V : Int)
          · have HN := Lib.hid (show num (bl s) = none from no_over (.inl (by rw [HVD.out]; omega)))
            go_wp2_with fail
            go_ret2
            exact NO.out _ HN.out (Below.refl _ _)
          have HI := Lib.hid (show I64 (-(V : Int)) from ⟨by omega, by omega⟩)
          have HX := Lib.hid (show numX (bl s) = -(V : Int) by rw [numX, HNG.out, HVD.out]; rfl)
          by_cases h3 : 0 < (V : Int)
          · by_cases h4 : (V : Int) = 9223372036854775808
            · obtain rfl : V = 9223372036854775808 := by omega
              have HI0 := Lib.hid (show I64 (-9223372036854775808) from ⟨by decide, by decide⟩)
              have HX0 := Lib.hid (show numX (bl s) = -9223372036854775808 from HX.out)
              clear HI HX
              go_wp2_with fail
              with_reducible refine Calls.mono (digits_any (-9223372036854775808) HI0.out wr) ?_
              rintro e w2 ⟨rfl, hb2⟩
              have HB2 := Lib.hid hb2
              clear hb2
              by_cases he : Lib.itoa (-9223372036854775808) = bl s
              · have hee : (⟨(Lib.itoa (-9223372036854775808)).toArray⟩ : ByteArray) = s := by rw [he, mk_bl]
                have HY := Lib.hid (show res = some (-9223372036854775808) by rw [← HRES.out, num_is (by rw [HX0.out]; exact HI0.out), HX0.out, if_pos he])
                rw [hee]
                clear he hee
                go_wp2_with fail
                go_ret2
                exact ⟨by rw [HY.out]; rfl, HB2.out⟩
              · have hee := mk_ne he
                have HY := Lib.hid (show res = none by rw [← HRES.out, num_is (by rw [HX0.out]; exact HI0.out), HX0.out, if_neg he])
                obtain ⟨T, hT⟩ : ∃ T : ByteArray, ⟨(Lib.itoa (-9223372036854775808)).toArray⟩ = T := ⟨_, rfl⟩
                rw [hT] at hee ⊢
                clear he hT
                go_wp2_with fail
                go_ret2
                exact ⟨by rw [HY.out]; exact ⟨_, HI0.out, rfl⟩, HB2.out⟩
            obtain ⟨Y, hY⟩ : ∃ Y : Int, (V : Int) - 1 = Y := ⟨_, rfl⟩
            obtain ⟨Z, hZ⟩ : ∃ Z : Int, -Y = Z := ⟨_, rfl⟩
            obtain ⟨X, hX⟩ : ∃ X : Int, -(V : Int) = X := ⟨_, rfl⟩
            have q1 : IntKind.u64.wrap ((V : Int) - 1) = Y := by rw [wrap_u64i (by omega) (by omega)]; exact hY
            have q2 : IntKind.i64.wrap Y = Y := by rw [IntKind.wrap_i64]; omega
            have q3 : IntKind.i64.wrap (-Y) = Z := by rw [IntKind.wrap_i64]; omega
            have q4 : IntKind.i64.wrap (Z - 1) = X := by rw [IntKind.wrap_i64]; omega
            rw [hX] at HI HX
            clear hX hY hZ
            go_wp2_with fail
            with_reducible refine Calls.mono (digits_any (X) HI.out wr) ?_
            rintro e w2 ⟨rfl, hb2⟩
            have HB2 := Lib.hid hb2
            clear hb2
            by_cases he : Lib.itoa (X) = bl s
            · have hee : (⟨(Lib.itoa (X)).toArray⟩ : ByteArray) = s := by rw [he, mk_bl]
              have HY := Lib.hid (show res = some (X) by rw [← HRES.out, num_is (by rw [HX.out]; exact HI.out), HX.out, if_pos he])
              rw [hee]
              clear he hee
              go_wp2_with fail
              go_ret2
              exact ⟨by rw [HY.out]; rfl, HB2.out⟩
            · have hee := mk_ne he
              have HY := Lib.hid (show res = none by rw [← HRES.out, num_is (by rw [HX.out]; exact HI.out), HX.out, if_neg he])
              obtain ⟨T, hT⟩ : ∃ T : ByteArray, ⟨(Lib.itoa (X)).toArray⟩ = T := ⟨_, rfl⟩
              rw [hT] at hee ⊢
              clear he hT
              go_wp2_with fail
              go_ret2
              exact ⟨by rw [HY.out]; exact ⟨_, HI.out, rfl⟩, HB2.out⟩
          · obtain rfl : V = 0 := by omega
            have HI0 := Lib.hid (show I64 0 from ⟨by decide, by decide⟩)
            have HX0 := Lib.hid (show numX (bl s) = 0 from HX.out)
            clear HI HX
            go_wp2_with fail
            with_reducible refine Calls.mono (digits_any (0) HI0.out wr) ?_
            rintro e w2 ⟨rfl, hb2⟩
            have HB2 := Lib.hid hb2
            clear hb2
            by_cases he : Lib.itoa (0) = bl s
            · have hee : (⟨(Lib.itoa (0)).toArray⟩ : ByteArray) = s := by rw [he, mk_bl]
              have HY := Lib.hid (show res = some (0) by rw [← HRES.out, num_is (by rw [HX0.out]; exact HI0.out), HX0.out, if_pos he])
              rw [hee]
              clear he hee
              go_wp2_with fail
              go_ret2
              exact ⟨by rw [HY.out]; rfl, HB2.out⟩
            · have hee := mk_ne he
              have HY := Lib.hid (show res = none by rw [← HRES.out, num_is (by rw [HX0.out]; exact HI0.out), HX0.out, if_neg he])
              obtain ⟨T, hT⟩ : ∃ T : ByteArray, ⟨(Lib.itoa (0)).toArray⟩ = T := ⟨_, rfl⟩
              rw [hT] at hee ⊢
              clear he hT
              go_wp2_with fail
              go_ret2
              exact ⟨by rw [HY.out]; exact ⟨_, HI0.out, rfl⟩, HB2.out⟩
    · have hng : negB (bl s) = false := by
        rw [hb]
        exact beq_eq_false_iff_ne.2 (fun h => hc (by simpa using h))
      have hp : ¬ (c0.toNat : Int) = 45 := fun h => hc (UInt8.toNat_inj.1 (by show c0.toNat = 45; omega))
      have hq : ((c0.toNat : Int) == 45) = false := beq_eq_false_iff_ne.2 hp
      clear hb h0 hc
      have HNG := Lib.hid hng
      have HDL := Lib.hid (show D = (bl s).drop 0 by rw [← HD.out, digs, HNG.out]; rfl)
      have HLEN := Lib.hid (show D.length + 0 = s.size by rw [HDL.out, List.length_drop, ← size_bl]; have := hsz; omega)
      clear hng hsz hD
      go_enter Tryz.func51, Tryz.ntmps51
      go_wp2_with fail
      go_loopg [4, 7] D.length (fun k s4 s7 wr => ∃ (j : Nat), k + j = D.length ∧ s7 = .int .i64 (0 + j : Nat) ∧ s4 = .int .u64 (val 0 (D.take j) : Nat) ∧ Hid (val 0 (D.take j) ≤ 9223372036854775809) ∧ wr = w)
      case atStart => exact ⟨0, by omega, rfl, rfl, Lib.hid (by show 0 ≤ 9223372036854775809; omega), rfl⟩
      case round =>
        obtain ⟨j, hkj, rfl, rfl, HV, rfl⟩ := hrel
        obtain ⟨V, hV⟩ : ∃ V, val 0 (D.take j) = V := ⟨_, rfl⟩
        rw [hV] at HV ⊢
        have HVV := Lib.hid hV
        obtain ⟨m, hm⟩ : ∃ m, 0 + j = m := ⟨_, rfl⟩
        rw [hm]
        cases gk with
        | succ gk =>
          have hlt : (m : Int) < (s.size : Int) := by have := HLEN.out; omega
          obtain ⟨c, hc⟩ : ∃ c, D[j]? = some c := ⟨_, List.getElem?_eq_getElem (by omega)⟩
          have hidx := idx_str s m c (by have := hc; rw [HDL.out, List.getElem?_drop, hm] at this; exact this)
          have q0 : IntKind.i64.wrap ((m : Int) + 1) = (m : Int) + 1 := wrap_next' (by have := HS.out; omega)
          have HC := Lib.hid hc
          have HM := Lib.hid hm
          have HKJ := Lib.hid hkj
          have hc8 := c.toNat_lt
          obtain ⟨cn, hcn⟩ : ∃ cn, c.toNat = cn := ⟨_, rfl⟩
          have HCN := Lib.hid hcn
          rw [hcn] at hidx hc8
          clear hc hm hV hkj hcn
          by_cases h1 : (cn : Int) < 48
          · have HN := Lib.hid (show num (bl s) = none from no_digit (by rw [HD.out]; exact HC.out) (fun h => by have := h.1; have := HCN.out; omega))
            go_wp2_with fail
            go_ret2
            exact NO.out _ HN.out (Below.refl _ _)
          by_cases h2 : 57 < (cn : Int)
          · have HN := Lib.hid (show num (bl s) = none from no_digit (by rw [HD.out]; exact HC.out) (fun h => by have := h.2; have := HCN.out; omega))
            go_wp2_with fail
            go_ret2
            exact NO.out _ HN.out (Below.refl _ _)
          by_cases h3 : 922337203685477580 < (V : Int)
          · have HN := Lib.hid (show num (bl s) = none from no_big (j := j) (by rw [HD.out]; have := HKJ.out; omega) (by rw [HD.out, HVV.out]; omega))
            go_wp2_with fail
            go_ret2
            exact NO.out _ HN.out (Below.refl _ _)
          have q1 : IntKind.u64.wrap ((V : Int) * 10) = (V : Int) * 10 := wrap_u64i (by omega) (by omega)
          have q2 : IntKind.u8.wrap ((cn : Int) - 48) = (cn : Int) - 48 := wrap_u8i (by omega) (by omega)
          have q3 : IntKind.u64.wrap ((cn : Int) - 48) = (cn : Int) - 48 := wrap_u64i (by omega) (by omega)
          obtain ⟨M, hM⟩ : ∃ M : Nat, V * 10 + (cn - 48) = M := ⟨_, rfl⟩
          have q4 : IntKind.u64.wrap ((V : Int) * 10 + ((cn : Int) - 48)) = (M : Int) := by
            rw [wrap_u64i (by omega) (by omega)]
            omega
          have HMM := Lib.hid (show val 0 (D.take (j + 1)) = M by rw [val_next HC.out, HVV.out, HCN.out, hM])
          have HMB := Lib.hid (show M ≤ 9223372036854775809 by omega)
          clear hM hc8
          go_wp2_with fail
          go_roundg gk
          case measure => omega
          case rel => exact ⟨j + 1, by have := HKJ.out; omega, by rw [← HM.out]; rfl, by rw [HMM.out], Lib.hid (by rw [HMM.out]; exact HMB.out), rfl⟩
        | zero =>
          have hlt : ¬ (m : Int) < (s.size : Int) := by have := HLEN.out; omega
          have HVD := Lib.hid (show val 0 (digs (bl s)) = V by rw [HD.out, ← hV, List.take_of_length_le (by omega)])
          clear hm hV hkj
          by_cases h1 : 9223372036854775808 < (V : Int)
          · have HN := Lib.hid (show num (bl s) = none from no_over (.inl (by rw [HVD.out]; omega)))
            go_wp2_with fail
            go_ret2
            exact NO.out _ HN.out (Below.refl _ _)
          by_cases h2 : (V : Int) = 9223372036854775808
          · have HN := Lib.hid (show num (bl s) = none from no_over (.inr ⟨by rw [HVD.out]; omega, HNG.out⟩))
            obtain rfl : V = 9223372036854775808 := by omega
            clear h1 h2
            go_wp2_with fail
            go_ret2
            exact NO.out _ HN.out (Below.refl _ _)
          have hv2 : ((V : Int) == 9223372036854775808) = false := beq_eq_false_iff_ne.2 h2
          have q1 : IntKind.i64.wrap (V : Int) = V := by rw [IntKind.wrap_i64]; omega
          have HX := Lib.hid (show numX (bl s) = V by rw [numX, HNG.out, HVD.out]; rfl)
          have HI := Lib.hid (show I64 (V : Int) from ⟨by omega, by omega⟩)
          go_wp2_with fail
          with_reducible refine Calls.mono (digits_any (V : Int) HI.out wr) ?_
          rintro e w2 ⟨rfl, hb2⟩
          have HB2 := Lib.hid hb2
          clear hb2
          by_cases he : Lib.itoa (V : Int) = bl s
          · have hee : (⟨(Lib.itoa (V : Int)).toArray⟩ : ByteArray) = s := by rw [he, mk_bl]
            have HY := Lib.hid (show res = some (V : Int) by rw [← HRES.out, num_is (by rw [HX.out]; exact HI.out), HX.out, if_pos he])
            rw [hee]
            clear he hee
            go_wp2_with fail
            go_ret2
            exact ⟨by rw [HY.out]; rfl, HB2.out⟩
          · have hee := mk_ne he
            have HY := Lib.hid (show res = none by rw [← HRES.out, num_is (by rw [HX.out]; exact HI.out), HX.out, if_neg he])
            obtain ⟨T, hT⟩ : ∃ T : ByteArray, ⟨(Lib.itoa (V : Int)).toArray⟩ = T := ⟨_, rfl⟩
            rw [hT] at hee ⊢
            clear he hT
            go_wp2_with fail
            go_ret2
            exact ⟨by rw [HY.out]; exact ⟨_, HI.out, rfl⟩, HB2.out⟩
end Go.Proofs.YtjcdpccfhpbccaaGreatDoor
namespace Go.Proofs.YtjcdpccfhpbccaaGreatDoor
open Go.RowKit Go.Proofs.YtjcdpccfhpbccaaGreatDoorW.PrintWords

def textV (r : Option (List UInt8)) : Value := match r with | some y => .tuple #[.string ⟨y.toArray⟩, .bool true] | none => .tuple #[.string ⟨#[]⟩, .bool false]
theorem inner_at (s : ByteArray) (h : ¬ s.size < 2) : bl (s.extract 1 (s.size - 1)) = inner (bl s) := by
  show (s.extract 1 (s.size - 1)).data.toList = _
  rw [Lib.extract_data]
  unfold inner
  rw [← size_bl]
  show List.take (s.size - 1 - 1) (List.drop 1 (bl s)) = _
  rw [show s.size - 1 - 1 = s.size - 2 by omega]
set_option maxRecDepth 100000 in
set_option maxHeartbeats 2000000 in
theorem rtext_any (s : ByteArray) (hs : s.size ≤ 4294967280) (res : Option (List UInt8)) (hres : txt [] (bl s) = res) (w : World) :
    Calls Tryz.prog 52 #[.string s] w fun e w' => e = .returned (textV res) ∧ Below w.heap.size w w' := by
  have HS := Lib.hid hs
  have HRES := Lib.hid hres
  have NO := Lib.hid (show ∀ W : World, res = none → Below w.heap.size w W → Ending.returned (.tuple #[.string ⟨#[]⟩, .bool false]) = .returned (textV res) ∧ Below w.heap.size w W from fun W h hb => ⟨by rw [h]; rfl, hb⟩)
  clear hs hres
  go_enter Tryz.func52, Tryz.ntmps52
  by_cases h1 : (s.size : Int) < 2
  · have HN := Lib.hid (show res = none by rw [← HRES.out, txt, if_pos (by rw [← size_bl]; omega)])
    go_wp2_with fail
    go_ret2
    exact NO.out _ HN.out (Below.refl _ _)
  have h2 : ¬ s.size < 2 := by omega
  have hl : ¬ (bl s).length < 2 := by rw [← size_bl]; exact h2
  obtain ⟨c, hc⟩ : ∃ c, (bl s)[0]? = some c := ⟨_, List.getElem?_eq_getElem (by omega)⟩
  obtain ⟨d, hd⟩ : ∃ d, (bl s)[(bl s).length - 1]? = some d := ⟨_, List.getElem?_eq_getElem (by omega)⟩
  have i0 : ∀ w, (Instr.index 9 (.string s) (.int .i64 0)).run Tryz.prog w = .ok (.int .u8 c.toNat) w := idx_str s 0 c hc
  have i1 := idx_str s (s.size - 1) d (by rw [size_bl]; exact hd)
  have q1 : IntKind.i64.wrap ((s.size : Int) - 1) = ((s.size - 1 : Nat) : Int) := by rw [IntKind.wrap_i64]; have := HS.out; omega
  obtain ⟨m, hm⟩ : ∃ m, s.size - 1 = m := ⟨_, rfl⟩
  have hin := inner_at s h2
  rw [hm] at i1 q1 hin
  have g1 : (1 : Int) ≤ m := by omega
  have g2 : (m : Int) ≤ s.size := by omega
  have HIN := Lib.hid hin
  have HTX := Lib.hid (show txt [] (bl s) = if c ≠ 91 then none else if d ≠ 93 then none else if hasB [91, 93] (inner (bl s)) = true then none else some (inner (bl s)) by
    unfold txt
    rw [if_neg hl, hc, hd]
    simp)
  clear hin hm hc hd h2 hl
  by_cases hc1 : c = 91
  rotate_left
  · have he : ((c.toNat : Int) != 91) = true := by
      have := u8_beq c 91
      rw [beq_eq_false_iff_ne.2 hc1] at this
      simp only [bne]
      rw [show ((91 : UInt8).toNat : Int) = 91 from rfl] at this
      rw [this]
      rfl
    have HN := Lib.hid (show res = none by rw [← HRES.out, HTX.out, if_pos hc1])
    clear hc1
    go_wp2_with fail
    all_goals
      go_ret2
      exact NO.out _ HN.out (Below.refl _ _)
  have hp1 : (c.toNat : Int) = 91 := by rw [hc1]; rfl
  by_cases hd1 : d = 93
  rotate_left
  · have he2 : ((d.toNat : Int) != 93) = true := by
      have := u8_beq d 93
      rw [beq_eq_false_iff_ne.2 hd1] at this
      simp only [bne]
      rw [show ((93 : UInt8).toNat : Int) = 93 from rfl] at this
      rw [this]
      rfl
    have HN := Lib.hid (show res = none by rw [← HRES.out, HTX.out, if_neg (by simp [hc1]), if_pos hd1])
    clear hd1 hc1
    go_wp2_with fail
    all_goals
      go_ret2
      exact NO.out _ HN.out (Below.refl _ _)
  have hp2 : (d.toNat : Int) = 93 := by rw [hd1]; rfl
  have HT2 := Lib.hid (show txt [] (bl s) = if hasB [91, 93] (inner (bl s)) = true then none else some (inner (bl s)) by rw [HTX.out, if_neg (by simp [hc1]), if_neg (by simp [hd1])])
  clear hc1 hd1
  go_wp2_with fail
  have HIS := Lib.hid (show (s.extract 1 m).size ≤ 4294967296 by rw [size_bl, HIN.out]; unfold inner; rw [List.length_take, List.length_drop, ← size_bl]; have := HS.out; omega)
  refine (rhas_any (s.extract 1 m) ⟨#[91, 93]⟩ HIS.out (by decide) w).mono ?_
  rintro e w2 ⟨rfl, hb2⟩
  have HB2 := Lib.hid hb2
  have HT3 := Lib.hid (show txt [] (bl s) = if hasB (bl ⟨#[91, 93]⟩) (bl (s.extract 1 m)) = true then none else some (inner (bl s)) by rw [HT2.out, HIN.out])
  clear hb2
  cases hh : hasB (bl ⟨#[91, 93]⟩) (bl (s.extract 1 m)) with
  | true =>
    have HN := Lib.hid (show res = none by rw [← HRES.out, HT3.out, if_pos hh])
    clear hh
    go_wp2_with fail
    go_ret2
    exact NO.out _ HN.out HB2.out
  | false =>
    have HY := Lib.hid (show res = some (bl (s.extract 1 m)) by rw [← HRES.out, HT3.out, if_neg (by rw [hh]; simp), HIN.out])
    clear hh
    go_wp2_with fail
    go_ret2
    exact ⟨by rw [HY.out]; show _ = Ending.returned (.tuple #[.string ⟨(bl (s.extract 1 m)).toArray⟩, .bool true]); rw [mk_bl]; rfl, HB2.out⟩
end Go.Proofs.YtjcdpccfhpbccaaGreatDoor
