/-
  Masks of bits as arithmetic: plain laws. Conditions: each says in which range the number lies.
-/
import Derived.Laws.BitsAllLaws
import Derived.Laws.BitsLemmas
namespace Go.Proofs.YtdijkobiffhgcaaDoor.Un

theorem nat_and_high (n : Nat) (h : n < 65536) : n &&& 64512 = n / 1024 * 1024 := by
  have e1 : n / 1024 * 1024 = (n >>> 10) <<< 10 := by rw [Nat.shiftRight_eq_div_pow, Nat.shiftLeft_eq]
  have e2 : (64512 : Nat) = (2 ^ 6 - 1) <<< 10 := by decide
  rw [e1, e2]
  apply Nat.eq_of_testBit_eq
  intro i
  rw [Nat.testBit_and, Nat.testBit_shiftLeft, Nat.testBit_shiftLeft, Nat.testBit_shiftRight, Nat.testBit_two_pow_sub_one]
  by_cases a : 10 ≤ i
  · rw [show 10 + (i - 10) = i by omega]
    by_cases b : i - 10 < 6
    · simp [a, b]
    · have : n.testBit i = false := Nat.testBit_lt_two_pow (Nat.lt_of_lt_of_le h (by
        rw [show (65536 : Nat) = 2 ^ 16 by decide]; exact Nat.pow_le_pow_right (by decide) (by omega)))
      simp [this]
  · simp [a]

theorem u16_and_high (u : Int) (h0 : 0 ≤ u) (h1 : u ≤ 65535) : bits .and .u16 u 64512 = u / 1024 * 1024 := by
  rw [u16_and u 64512 h0 (by omega) (by decide) (by decide)]
  rw [show Int.toNat 64512 = 64512 by decide, nat_and_high _ (by omega)]
  omega

theorem nat_and_low (n k : Nat) : n &&& (2 ^ k - 1) = n % 2 ^ k := Nat.and_two_pow_sub_one_eq_mod n k

theorem u16_and_1023 (u : Int) (h0 : 0 ≤ u) (h1 : u ≤ 65535) : bits .and .u16 u 1023 = u % 1024 := by
  rw [u16_and u 1023 h0 (by omega) (by decide) (by decide), show Int.toNat 1023 = 2 ^ 10 - 1 by decide, nat_and_low]
  omega

theorem u16_and_63 (u : Int) (h0 : 0 ≤ u) (h1 : u ≤ 65535) : bits .and .u16 u 63 = u % 64 := by
  rw [u16_and u 63 h0 (by omega) (by decide) (by decide), show Int.toNat 63 = 2 ^ 6 - 1 by decide, nat_and_low]
  omega

theorem u8_and_63 (u : Int) (h0 : 0 ≤ u) (h1 : u ≤ 255) : bits .and .u8 u 63 = u % 64 := by
  rw [u8_and u 63 h0 (by omega) (by decide) (by decide), show Int.toNat 63 = 2 ^ 6 - 1 by decide, nat_and_low]
  omega

theorem nat_or_add (a b k : Nat) (h : b < 2 ^ k) : a * 2 ^ k ||| b = a * 2 ^ k + b := by
  rw [← Nat.shiftLeft_eq]
  exact (Nat.shiftLeft_add_eq_or_of_lt h a).symm

theorem u8_or_128 (y : Int) (h0 : 0 ≤ y) (h1 : y < 64) : bits .or .u8 128 y = 128 + y := by
  rw [u8_or 128 y (by decide) (by decide) h0 (by omega), show Int.toNat 128 = 2 * 2 ^ 6 by decide, nat_or_add _ _ 6 (by omega)]
  omega

theorem i32_and_1023 (x : Int) (h0 : 0 ≤ x) (h1 : x < 2147483648) : bits .and .i32 x 1023 = x % 1024 := bits_mask .i32 31 (by decide) wraps_i32 10 (by decide) x h0 h1

theorem u16_or_8 (x y : Int) (h0 : 0 ≤ x) (h1 : x < 256) (h2 : 0 ≤ y) (h3 : y < 256) : bits .or .u16 (x * 256) y = x * 256 + y := by
  rw [u16_or _ _ (by omega) (by omega) h2 (by omega), show (x * 256).toNat = x.toNat * 2 ^ 8 by omega, nat_or_add _ _ 8 (by omega)]
  omega

end Go.Proofs.YtdijkobiffhgcaaDoor.Un
