/-
  The seven kinds of words of a float64, and what the tests say of each. Plain: no program in sight.
-/
import Derived.Test.YtdijkobiffhgcaaGreatDoorFloat
import GoSem.Op.Unary
import GoSem.Core.Float
namespace Go.Proofs.YtdijkobiffhgcaaGreatDoor.Nu
open Ieee

theorem xor63 (b : Nat) (h : b < 9223372036854775808) : b ^^^ 9223372036854775808 = 9223372036854775808 + b := by
  have e : 9223372036854775808 + b = 9223372036854775808 ||| b := by
    have := Nat.shiftLeft_add_eq_or_of_lt (show b < 2 ^ 63 by omega) 1
    rwa [Nat.one_shiftLeft, show (2 : Nat) ^ 63 = 9223372036854775808 by decide] at this
  rw [e, show (9223372036854775808 : Nat) = 2 ^ 63 by decide]
  apply Nat.eq_of_testBit_eq
  intro i
  rw [Nat.testBit_xor, Nat.testBit_or, Nat.testBit_two_pow]
  by_cases h63 : 63 = i
  · subst h63
    have : b.testBit 63 = false := Nat.testBit_lt_two_pow (by omega)
    rw [this]; rfl
  · simp [h63]
theorem xor63' (b : Nat) (h : b < 9223372036854775808) : (9223372036854775808 + b) ^^^ 9223372036854775808 = b := by
  rw [← xor63 b h, Nat.xor_assoc, Nat.xor_self, Nat.xor_zero]

theorem negf (b : Nat) : Op.negFloat .f64 b = b ^^^ 9223372036854775808 := rfl

structure Tests (b : Nat) (nan zero pinf ninf neg : Bool) : Prop where
  t1 : (FloatKind.f64.format.order b b != some .eq) = nan
  t2 : (FloatKind.f64.format.order b 0 == some .eq) = zero
  t3 : (FloatKind.f64.format.order b 9218868437227405311 == some .gt) = pinf
  t4 : (FloatKind.f64.format.order b 18442240474082181119 == some .lt) = ninf
  t5 : (FloatKind.f64.format.order b 0 == some .lt) = neg
  t6 : (FloatKind.f64.format.order (Op.negFloat .f64 b) 9218868437227405311 == some .gt) = ninf

theorem max_parts : Parts 9007199254740991 971 := ⟨by omega, by omega, by omega, by omega, .inl (by omega)⟩
theorem max_word : wordOf 9007199254740991 971 = 9218868437227405311 := by decide

theorem tests_pinf : Tests 9218868437227405312 false false true false false := ⟨by decide, by decide, by decide, by decide, by decide, by decide⟩
theorem tests_ninf : Tests 18442240474082181120 false false false true true := ⟨by decide, by decide, by decide, by decide, by decide, by decide⟩
theorem tests_zero : Tests 0 false true false false false := ⟨by decide, by decide, by decide, by decide, by decide, by decide⟩
theorem tests_nzero : Tests 9223372036854775808 false true false false false := ⟨by decide, by decide, by decide, by decide, by decide, by decide⟩

theorem cmp_gt_false {a b : Nat} (h : a ≤ b) : ((some (compare a b) : Option Ordering) == some .gt) = false := by
  have : compare a b ≠ .gt := fun hc => by have := Nat.compare_eq_gt.1 hc; omega
  revert this
  cases compare a b <;> simp
theorem cmp_lt_false {a b : Nat} (h : b ≤ a) : ((some (compare a b) : Option Ordering) == some .lt) = false := by
  have : compare a b ≠ .lt := fun hc => by have := Nat.compare_eq_lt.1 hc; omega
  revert this
  cases compare a b <;> simp
theorem cmp_eq_false {a b : Nat} (h : a ≠ b) : ((some (compare a b) : Option Ordering) == some .eq) = false := by
  have : compare a b ≠ .eq := fun hc => h (Nat.compare_eq_eq.1 hc)
  revert this
  cases compare a b <;> simp

theorem tests_pos {n : Nat} {e : Int} (h : Parts n e) : Tests (wordOf n e) false false false false false := by
  have hw := word_lt h
  have h0 := word_pos h
  have hneg : Op.negFloat .f64 (wordOf n e) = 9223372036854775808 + wordOf n e := by rw [negf, xor63 _ (by omega)]
  refine ⟨?_, ?_, ?_, ?_, ?_, ?_⟩
  · show (double.order _ _ != some .eq) = false
    rw [order_self h]; rfl
  · show (double.order _ _ == some .eq) = false
    rw [order_pos _ _ (by omega) (by omega)]
    exact cmp_eq_false (by omega)
  · show (double.order _ _ == some .gt) = false
    rw [order_pos _ _ (by omega) (by omega)]
    exact cmp_gt_false (by omega)
  · show (double.order _ _ == some .lt) = false
    have : (18442240474082181119 : Nat) = 9223372036854775808 + wordOf 9007199254740991 971 := by rw [max_word]
    rw [this, order_pn max_parts _ (by omega)]
    rfl
  · show (double.order _ _ == some .lt) = false
    rw [order_pos _ _ (by omega) (by omega)]
    exact cmp_lt_false (by omega)
  · rw [hneg]
    show (double.order _ _ == some .gt) = false
    rw [order_np h _ (by omega)]
    rfl

theorem tests_neg {n : Nat} {e : Int} (h : Parts n e) : Tests (9223372036854775808 + wordOf n e) false false false false true := by
  have hw := word_lt h
  have h0 := word_pos h
  have hneg : Op.negFloat .f64 (9223372036854775808 + wordOf n e) = wordOf n e := by rw [negf, xor63' _ (by omega)]
  refine ⟨?_, ?_, ?_, ?_, ?_, ?_⟩
  · show (double.order _ _ != some .eq) = false
    rw [order_nn h h, Nat.compare_eq_eq.2 rfl]; rfl
  · show (double.order _ _ == some .eq) = false
    rw [order_np h _ (by omega)]; rfl
  · show (double.order _ _ == some .gt) = false
    rw [order_np h _ (by omega)]; rfl
  · show (double.order _ _ == some .lt) = false
    have : (18442240474082181119 : Nat) = 9223372036854775808 + wordOf 9007199254740991 971 := by rw [max_word]
    rw [this, order_nn h max_parts]
    exact cmp_lt_false (by rw [max_word]; omega)
  · show (double.order _ _ == some .lt) = true
    rw [order_np h _ (by omega)]; rfl
  · rw [hneg]
    show (double.order _ _ == some .gt) = false
    rw [order_pos _ _ (by omega) (by omega)]
    exact cmp_gt_false (by omega)

theorem read_nan (b : Nat) (h : 9218868437227405312 < b % 9223372036854775808) : ∃ s t, double.read b = .nan s t := by
  unfold Format.read
  rw [sign_d, binade_d, inf_d]
  rw [if_neg (by omega), if_neg (by omega), if_neg (by omega)]
  exact ⟨_, _, rfl⟩
theorem order_nan_l (b c : Nat) (h : 9218868437227405312 < b % 9223372036854775808) : double.order b c = none := by
  obtain ⟨s, t, e⟩ := read_nan b h
  unfold Format.order
  rw [e]
  cases double.read c <;> rfl
theorem tests_nan (b : Nat) (hb : b < 18446744073709551616) (h : 9218868437227405312 < b % 9223372036854775808) : Tests b true false false false false := by
  have hn : 9218868437227405312 < Op.negFloat .f64 b % 9223372036854775808 := by
    rw [negf]
    by_cases hs : b < 9223372036854775808
    · rw [xor63 b hs]; omega
    · obtain ⟨a, rfl⟩ : ∃ a, b = 9223372036854775808 + a := ⟨b - 9223372036854775808, by omega⟩
      rw [xor63' a (by omega)]; omega
  refine ⟨?_, ?_, ?_, ?_, ?_, ?_⟩
  · show (double.order _ _ != some .eq) = true
    rw [order_nan_l b _ h]; rfl
  · show (double.order _ _ == some .eq) = false
    rw [order_nan_l b _ h]; rfl
  · show (double.order _ _ == some .gt) = false
    rw [order_nan_l b _ h]; rfl
  · show (double.order _ _ == some .lt) = false
    rw [order_nan_l b _ h]; rfl
  · show (double.order _ _ == some .lt) = false
    rw [order_nan_l b _ h]; rfl
  · show (double.order _ _ == some .gt) = false
    rw [order_nan_l _ _ hn]; rfl

/-- every word is of one of seven kinds. -/
theorem kinds (b : Nat) (hb : b < 18446744073709551616) : 9218868437227405312 < b % 9223372036854775808 ∨ b = 0 ∨ b = 9223372036854775808 ∨ b = 9218868437227405312 ∨ b = 18442240474082181120 ∨
    (∃ n e, Parts n e ∧ b = wordOf n e) ∨ (∃ n e, Parts n e ∧ b = 9223372036854775808 + wordOf n e) := by
  by_cases h1 : 9218868437227405312 < b % 9223372036854775808
  · exact .inl h1
  · by_cases h2 : b < 9223372036854775808
    · by_cases h3 : b = 0
      · exact .inr (.inl h3)
      · by_cases h4 : b = 9218868437227405312
        · exact .inr (.inr (.inr (.inl h4)))
        · exact .inr (.inr (.inr (.inr (.inr (.inl (parts_of b (by omega) (by omega)))))))
    · by_cases h3 : b = 9223372036854775808
      · exact .inr (.inr (.inl h3))
      · by_cases h4 : b = 18442240474082181120
        · exact .inr (.inr (.inr (.inr (.inl h4))))
        · obtain ⟨n, e, hp, he⟩ := parts_of (b - 9223372036854775808) (by omega) (by omega)
          exact .inr (.inr (.inr (.inr (.inr (.inr ⟨n, e, hp, by omega⟩)))))
end Go.Proofs.YtdijkobiffhgcaaGreatDoor.Nu
