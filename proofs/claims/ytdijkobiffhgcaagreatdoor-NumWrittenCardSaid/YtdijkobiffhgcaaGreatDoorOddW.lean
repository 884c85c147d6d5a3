/-
  The reference's Odd and Trunc; whole numbers. Conditions: as each says.
-/
import Derived.Test.YtdijkobiffhgcaaGreatDoorStrW
import Derived.Test.YtdijkobiffhgcaaGreatDoorCls
import Derived.Test.YtdijkobiffhgcaaGreatDoorGuess
namespace Go.Proofs.YtdijkobiffhgcaaGreatDoor.Nu
open Go.RowKit Go.Lib

def sNaN : List UInt8 := [78, 97, 78]
def sInf : List UInt8 := [73, 110, 102, 105, 110, 105, 116, 121]
def sNInf : List UInt8 := [45, 73, 110, 102, 105, 110, 105, 116, 121]
def oddS (nan zero pinf ninf : Bool) : List UInt8 := if nan then sNaN else if zero then [48] else if pinf then sInf else if ninf then sNInf else []

set_option maxRecDepth 100000 in
set_option maxHeartbeats 4000000 in
theorem odd_ref {b : Nat} {nan zero pinf ninf neg : Bool} (T : Tests b nan zero pinf ninf neg) (w : World) :
    Calls Tryz.prog 12 #[.float .f64 b] w fun r w' => r = .returned (.tuple #[.string (bs (oddS nan zero pinf ninf)), .bool (nan || zero || pinf || ninf)]) ∧ w = w' := by
  obtain ⟨t1, t2, t3, t4, t5, t6⟩ := T
  clear t5 t6
  cases nan
  · cases zero
    · cases pinf
      · cases ninf
        all_goals
          go_enter Tryz.func12, Tryz.ntmps12
          go_wp2_with fail
          go_ret2
          exact ⟨rfl, rfl⟩
      · clear t4
        go_enter Tryz.func12, Tryz.ntmps12
        go_wp2_with fail
        go_ret2
        exact ⟨rfl, rfl⟩
    · clear t3 t4
      go_enter Tryz.func12, Tryz.ntmps12
      go_wp2_with fail
      go_ret2
      exact ⟨rfl, rfl⟩
  · clear t2 t3 t4
    go_enter Tryz.func12, Tryz.ntmps12
    go_wp2_with fail
    go_ret2
    exact ⟨rfl, rfl⟩

set_option maxRecDepth 100000 in
theorem trunc_any (b n : Nat) (e : Int) (h : Ieee.double.read b = .number false n e) (w : World) :
    Calls Tryz.prog 13 #[.float .f64 b] w fun r w' => r = .returned (.float .f64 (Ieee.double.write ((Ieee.Datum.number false n e).integral .zero))) ∧ w = w' := by
  have hrun := run_trunc b n false e h
  obtain ⟨q, hq⟩ : ∃ q, Ieee.double.write ((Ieee.Datum.number false n e).integral .zero) = q := ⟨_, rfl⟩
  rw [hq] at hrun ⊢
  clear hq h
  go_enter Tryz.func13, Tryz.ntmps13
  go_wp2
  go_ret
  exact ⟨rfl, rfl⟩

/-- below 2^53. -/
theorem below53 {n : Nat} {e : Int} (h : Parts n e) (hw : wordOf n e < 4845873199050653696) : e ≤ 0 := by
  have := h.ge; have := h.full; unfold wordOf at hw; omega
theorem word_inj {n n' : Nat} {e e' : Int} (h : Parts n e) (h' : Parts n' e') (hw : wordOf n e = wordOf n' e') : n = n' ∧ e = e' := by
  obtain ⟨x1, x2, x3, x4, x5⟩ := h
  obtain ⟨y1, y2, y3, y4, y5⟩ := h'
  unfold wordOf at hw
  omega
theorem cut_floor (m j : Nat) : Ieee.Toward.cut .zero false m j = m / 2 ^ j := by
  unfold Ieee.Toward.cut
  rw [Nat.shiftLeft_eq, Nat.one_mul]
  show m / 2 ^ min j (m.log2 + 2) + 0 = _
  rw [Nat.add_zero]
  by_cases hj : j ≤ m.log2 + 2
  · rw [show min j (m.log2 + 2) = j by omega]
  · have hm : m < 2 ^ (m.log2 + 1) := by
      by_cases h0 : m = 0
      · subst h0; exact Nat.pow_pos (by omega)
      · exact ((Nat.log2_eq_iff h0 (k := m.log2)).1 rfl).2
    have a1 : 2 ^ (m.log2 + 1) ≤ 2 ^ min j (m.log2 + 2) := Nat.pow_le_pow_right (by omega) (by omega)
    have a2 : 2 ^ (m.log2 + 1) ≤ 2 ^ j := Nat.pow_le_pow_right (by omega) (by omega)
    rw [Nat.div_eq_of_lt (by omega), Nat.div_eq_of_lt (by omega)]

theorem integral_floor (n : Nat) (e : Int) (he : e ≤ 0) (q : Nat) (hq : n / 2 ^ (-e).toNat = q) : (Ieee.Datum.number false n e).integral .zero = .number false q 0 := by
  have hint : (Ieee.Datum.number false n e).integral .zero = .number false (Ieee.Toward.cut .zero false (n <<< e.toNat) (-e).toNat) 0 := rfl
  rw [hint, show e.toNat = 0 by omega, Nat.shiftLeft_zero, cut_floor, hq]
theorem toInt_floor (b n : Nat) (e : Int) (hb : Ieee.double.read b = .number false n e) (he : e ≤ 0) (q : Nat) (hq : n / 2 ^ (-e).toNat = q) (hl : q < 9007199254740993) : floatToIntVal .f64 b .u64 = some (q : Int) := by
  have hint := integral_floor n e he q hq
  have ht : (FloatKind.f64.decode b).toInt .zero = some (q : Int) := by
    have hd : FloatKind.f64.decode b = .number false n e := hb
    rw [hd]
    unfold Ieee.Datum.toInt
    rw [hint]
    have : Ieee.signed false q 0 = (q : Int) := by rw [signed_pos, Nat.pow_zero, Nat.mul_one]
    exact congrArg some this
  unfold floatToIntVal
  rw [ht]
  have e1 : IntKind.u64.min = 0 := by decide
  have e2 : IntKind.u64.max = 18446744073709551615 := by decide
  have : IntKind.u64.min ≤ (q : Int) ∧ (q : Int) ≤ IntKind.u64.max := by rw [e1, e2]; omega
  exact if_pos this

/-- x is its own Trunc: it is whole. -/
theorem whole_of {n : Nat} {e : Int} (h : Parts n e) (he : e ≤ 0) (ht : wordOf n e = Ieee.double.write ((Ieee.Datum.number false n e).integral .zero)) :
    ∃ q, q * 2 ^ (-e).toNat = n ∧ 0 < q ∧ q ≤ n ∧ floatToIntVal .f64 (wordOf n e) .u64 = some (q : Int) := by
  obtain ⟨q, hq⟩ : ∃ q, n / 2 ^ (-e).toNat = q := ⟨_, rfl⟩
  rw [integral_floor n e he q hq] at ht
  have hqn : q ≤ n := by rw [← hq]; exact Nat.div_le_self _ _
  have hlt := h.lt
  have hw : wordOf n e = Ieee.double.nearest false q 0 := ht
  have hq0 : 0 < q := by
    rcases Nat.eq_zero_or_pos q with g | g
    · rw [g] at hw
      have z : Ieee.double.nearest false 0 0 = 0 := by decide
      rw [z] at hw
      have := word_pos h
      omega
    · exact g
  obtain ⟨n', e', hp', hv', _, _⟩ := parts_nat q hq0 (by omega)
  have hw2 : wordOf n e = wordOf n' e' := hw.trans (nearest_exact false q 0 n' e' hp' hv')
  obtain ⟨i1, i2⟩ := word_inj h hp' hw2
  have hqe : q * 2 ^ (-e).toNat = n := by
    rcases hv' with ⟨j, h1, h2⟩ | ⟨j, h1, h2⟩
    · have hj : j = 0 := by omega
      rw [hj, Nat.pow_zero, Nat.mul_one] at h1
      rw [show (-e).toNat = 0 by omega, Nat.pow_zero, Nat.mul_one]
      omega
    · rw [show (-e).toNat = j by omega, i1]; exact h1.symm
  exact ⟨q, hqe, hq0, hqn, toInt_floor _ n e (read_word n e h) he q hq (by omega)⟩
end Go.Proofs.YtdijkobiffhgcaaGreatDoor.Nu
