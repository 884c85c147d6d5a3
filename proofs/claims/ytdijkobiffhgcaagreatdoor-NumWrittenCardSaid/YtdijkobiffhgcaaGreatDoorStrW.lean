/-
  The reference's zeros, dotted, small, Odd: small texts. Conditions: as each says.
-/
import Derived.Test.YtdijkobiffhgcaaGreatDoorDigW
import Derived.Test.YtdijkobiffhgcaaGreatDoorFltW
import Derived.BigQuiet
import Derived.Deep.QuietTactic
namespace Go.Proofs.YtdijkobiffhgcaaGreatDoor.Nu
open Go.RowKit Go.Lib

/-- bytes as a string. -/
def bs (l : List UInt8) : ByteArray := ⟨l.toArray⟩
theorem bs_size (l : List UInt8) : (bs l).size = l.length := by simp [bs, ByteArray.size]
theorem bs_append (a b : List UInt8) : bs a ++ bs b = bs (a ++ b) := by unfold bs; rw [ByteArray.mk_append_mk]
theorem bs_extract (l : List UInt8) (a b : Nat) : (bs l).extract a b = bs ((l.take b).drop a) := by
  apply ByteArray.ext
  simp [bs, ByteArray.data_extract, List.drop_take]

set_option maxRecDepth 100000 in
set_option maxHeartbeats 1000000 in
theorem zeros_any (k : Nat) (w : World) (hk : k ≤ 1000) : Calls Tryz.prog 17 #[.int .i64 (k : Int)] w fun r w' => r = .returned (.string (bs (List.replicate k 48))) ∧ w = w' := by
  go_enter Tryz.func17, Tryz.ntmps17
  go_wp2_with fail
  go_loop [3, 4] (fun sv iv => ∃ (i : Nat) (S : ByteArray), sv = .string S ∧ iv = .int .i64 i ∧ i ≤ k ∧ S = bs (List.replicate i 48)) (fun _ iv => k - (RowKit.intOf iv).toNat)
  case atStart => exact ⟨0, _, rfl, rfl, Nat.zero_le _, rfl⟩
  case round =>
    obtain ⟨i, S, rfl, rfl, hi, hS⟩ := hrel
    have hsz : S.size ≤ 1000 := by rw [hS, bs_size, List.length_replicate]; omega
    have HS := hideIt hS
    clear hS
    by_cases hlt : i < k
    · have hlt' : (i : Int) < (k : Int) := by omega
      go_wp2_with fail
      go_round
      case rel =>
        refine ⟨i + 1, _, rfl, by first | rfl | go_num, by omega, ?_⟩
        rw [HS.out]
        show bs _ ++ bs [48] = _
        rw [bs_append, List.replicate_succ']
      case measure => simp only [RowKit.intOf]; omega
    · have hlt' : ¬ (i : Int) < (k : Int) := by omega
      obtain rfl : i = k := by omega
      go_wp2_with fail
      go_ret
      exact ⟨by rw [HS.out]; rfl, rfl⟩

set_option maxRecDepth 100000 in
set_option maxHeartbeats 1000000 in
theorem dotted_one (x : UInt8) (w : World) : Calls Tryz.prog 18 #[.string (bs [x])] w fun r w' => r = .returned (.string (bs [x])) ∧ Below w.heap.size w w' := by
  obtain ⟨S, hS⟩ : ∃ S, bs [x] = S := ⟨_, rfl⟩
  have hsz : ((S.size : Int) == 1) = true := by rw [← hS, bs_size]; rfl
  rw [hS]
  clear hS
  go_enter Tryz.func18, Tryz.ntmps18
  go_wp2_with fail
  go_ret
  exact ⟨rfl, Below.refl _ _⟩

set_option maxRecDepth 100000 in
set_option maxHeartbeats 1000000 in
theorem dotted_more (l : List UInt8) (h1 : 1 < l.length) (h2 : l.length ≤ 1000) (w : World) : Calls Tryz.prog 18 #[.string (bs l)] w fun r w' => r = .returned (.string (bs (l.take 1 ++ 46 :: l.drop 1))) ∧ Below w.heap.size w w' := by
  obtain ⟨S, hS⟩ : ∃ S, bs l = S := ⟨_, rfl⟩
  have hz := bs_size l
  have hsz : ((S.size : Int) == 1) = false := by rw [← hS, beq_eq_false_iff_ne, hz]; omega
  have hs2 : 1 < S.size ∧ S.size ≤ 1000 := by rw [← hS, hz]; omega
  have HS := hideIt hS
  rw [hS]
  clear hS h1 h2 hz
  go_enter Tryz.func18, Tryz.ntmps18
  go_wp2_with fail
  go_quiet (fail)
  go_wp2_with fail
  go_ret
  refine ⟨?_, below_draws (Below.refl _ _) _⟩
  show Ending.returned (.string (S.extract 0 1 ++ bs [46] ++ S.extract 1 S.size)) = _
  have e : S.extract 0 1 ++ bs [46] ++ S.extract 1 S.size = bs (l.take 1 ++ 46 :: l.drop 1) := by
    rw [← HS.out, bs_extract, bs_extract, bs_append, bs_append, bs_size, List.take_length]
    simp
  rw [e]

set_option maxRecDepth 100000 in
set_option maxHeartbeats 1000000 in
theorem small_pos (m : Nat) (h0 : 0 < m) (h : m ≤ 100000) (w : World) : Calls Tryz.prog 19 #[.int .i64 (m : Int)] w fun r w' => r = .returned (.string (bs (43 :: dec m))) ∧ Below w.heap.size w w' := by
  have e0 : ¬ (m : Int) < 0 := by omega
  have e1 : IntKind.u64.wrap (m : Int) = (m : Int) := by exact Int.emod_eq_of_lt (by omega) (by show (m : Int) < 18446744073709551616; omega)
  have FM : Fit m 4 := Fit.u64 (by omega)
  have hl := decB_length m 4 FM
  have hsz : (dec m).length ≤ 1000 := by rw [dec_eq, List.length_reverse]; omega
  have cn := fun w => nat_any m w (by omega)
  clear hl
  go_enter Tryz.func19, Tryz.ntmps19
  go_wp2_with fail
  refine (cn w).mono ?_
  rintro r w1 ⟨v1, rfl, N1, hb1⟩
  go_wp2_with fail
  refine (digits_pos _ m w1 (by omega) (FM.le (by omega)) N1).mono ?_
  rintro r w2 ⟨rfl, hb2⟩
  obtain ⟨l, hl⟩ : ∃ l, dec m = l := ⟨_, rfl⟩
  rw [hl] at hsz ⊢
  have HL := hideIt hl
  clear hl
  go_wp2_with fail
  go_ret
  refine ⟨?_, hb1.trans (hb2.mono hb1.size)⟩
  show Ending.returned (.string (bs [43] ++ bs l)) = _
  rw [bs_append, HL.out]
  rfl

set_option maxRecDepth 100000 in
set_option maxHeartbeats 1000000 in
theorem small_neg (m : Nat) (h0 : 0 < m) (h : m ≤ 100000) (w : World) : Calls Tryz.prog 19 #[.int .i64 (-(m : Int))] w fun r w' => r = .returned (.string (bs (45 :: dec m))) ∧ Below w.heap.size w w' := by
  have e0 : -(m : Int) < 0 := by omega
  have e3 : IntKind.i64.wrap (- -(m : Int)) = (m : Int) := by rw [Int.neg_neg]; exact IntWalk.i64_in _ (by omega)
  have e1 : IntKind.u64.wrap (m : Int) = (m : Int) := by exact Int.emod_eq_of_lt (by omega) (by show (m : Int) < 18446744073709551616; omega)
  have FM : Fit m 4 := Fit.u64 (by omega)
  have hl := decB_length m 4 FM
  have hsz : (dec m).length ≤ 1000 := by rw [dec_eq, List.length_reverse]; omega
  have cn := fun w => nat_any m w (by omega)
  clear hl
  go_enter Tryz.func19, Tryz.ntmps19
  go_wp2_with fail
  refine (cn w).mono ?_
  rintro r w1 ⟨v1, rfl, N1, hb1⟩
  go_wp2_with fail
  refine (digits_pos _ m w1 (by omega) (FM.le (by omega)) N1).mono ?_
  rintro r w2 ⟨rfl, hb2⟩
  obtain ⟨l, hl⟩ : ∃ l, dec m = l := ⟨_, rfl⟩
  rw [hl] at hsz ⊢
  have HL := hideIt hl
  clear hl
  go_wp2_with fail
  go_ret
  refine ⟨?_, hb1.trans (hb2.mono hb1.size)⟩
  show Ending.returned (.string (bs [45] ++ bs l)) = _
  rw [bs_append, HL.out]
  rfl

/-- what stands behind the digits. -/
def signOf (z : Int) : List UInt8 := (if z < 0 then 45 else 43) :: dec z.natAbs
theorem small_text (z : Int) (h0 : z ≠ 0) (h : -100000 ≤ z ∧ z ≤ 100000) (w : World) : Calls Tryz.prog 19 #[.int .i64 z] w fun r w' => r = .returned (.string (bs (signOf z))) ∧ Below w.heap.size w w' := by
  unfold signOf
  by_cases hz : z < 0
  · obtain ⟨m, rfl⟩ : ∃ m : Nat, z = -(m : Int) := ⟨(-z).toNat, by omega⟩
    rw [if_pos hz, show (-(m : Int)).natAbs = m by omega]
    exact small_neg m (by omega) (by omega) w
  · obtain ⟨m, rfl⟩ : ∃ m : Nat, z = (m : Int) := ⟨z.toNat, by omega⟩
    rw [if_neg hz, show ((m : Int)).natAbs = m by omega]
    exact small_pos m (by omega) (by omega) w

theorem dotted_any (l : List UInt8) (h1 : 0 < l.length) (h2 : l.length ≤ 1000) (w : World) : Calls Tryz.prog 18 #[.string (bs l)] w fun r w' => r = .returned (.string (bs (if l.length = 1 then l else l.take 1 ++ 46 :: l.drop 1))) ∧ Below w.heap.size w w' := by
  by_cases h : l.length = 1
  · rw [if_pos h]
    match l, h with
    | [x], _ => exact dotted_one x w
  · rw [if_neg h]
    exact dotted_more l (by omega) h2 w
end Go.Proofs.YtdijkobiffhgcaaGreatDoor.Nu
