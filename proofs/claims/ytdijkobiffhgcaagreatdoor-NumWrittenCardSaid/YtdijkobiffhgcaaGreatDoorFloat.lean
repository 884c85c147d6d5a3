/-
  Numbers as the model holds them; bounds; logarithms. No program in sight.
-/
import Ieee.Arith
import Derived.Test.YtdijkobiffhgcaaGreatDoorPlain
import Derived.Laws.ComplexArith
import GoSem.Extern.MathLog
namespace Go.Proofs.YtdijkobiffhgcaaGreatDoor.Nu
open Ieee

/-- the word of n*2^e, n and e as a number's parts. -/
def wordOf (n : Nat) (e : Int) : Nat := (e + 1074).toNat * 4503599627370496 + n

theorem binade_d : double.binade = 4503599627370496 := by decide
theorem sign_d : double.signWeight = 9223372036854775808 := by decide
theorem inf_d : double.infRung = 9218868437227405312 := by decide
theorem least_d : double.leastPlace = -1074 := by decide

theorem word_lt {n : Nat} {e : Int} (h : Parts n e) : wordOf n e < 9218868437227405312 := by
  have := h.lt; have := h.ge; have := h.le
  unfold wordOf
  have : (e + 1074).toNat ≤ 2045 := by omega
  omega
theorem word_pos {n : Nat} {e : Int} (h : Parts n e) : 0 < wordOf n e := by have := h.pos; unfold wordOf; omega

/-- a word below infinity, above 0: its parts. -/
theorem parts_of (b : Nat) (h0 : 0 < b) (h : b < 9218868437227405312) : ∃ n e, Parts n e ∧ b = wordOf n e := by
  by_cases hs : b < 4503599627370496
  · exact ⟨b, -1074, ⟨h0, by omega, by omega, by omega, .inr rfl⟩, by unfold wordOf; simp⟩
  · refine ⟨4503599627370496 + b % 4503599627370496, ((b / 4503599627370496 : Nat) : Int) - 1075, ⟨by omega, by omega, by omega, by omega, .inl (by omega)⟩, ?_⟩
    unfold wordOf
    omega

theorem read_word (n : Nat) (e : Int) (h : Parts n e) : double.read (wordOf n e) = .number false n e := by
  have hl := word_lt h
  obtain ⟨x1, x2, x3, x4, x5⟩ := h
  unfold Format.read
  rw [sign_d, binade_d, inf_d, least_d]
  have a1 : wordOf n e / 9223372036854775808 % 2 = 0 := by omega
  have a2 : wordOf n e % 9223372036854775808 = wordOf n e := by omega
  simp only [a1, a2]
  by_cases hs : n < 4503599627370496
  · obtain rfl : e = -1074 := by omega
    have : wordOf n (-1074) = n := by unfold wordOf; simp
    rw [this, if_pos hs]
    rfl
  · have hn : ¬ wordOf n e < 4503599627370496 := by unfold wordOf; omega
    rw [if_neg hn, if_pos hl]
    have b1 : wordOf n e % 4503599627370496 = n - 4503599627370496 := by unfold wordOf; omega
    have b2 : wordOf n e / 4503599627370496 - 1 = (e + 1074).toNat := by unfold wordOf; omega
    rw [b1, b2]
    have c1 : 4503599627370496 + (n - 4503599627370496) = n := by omega
    have c2 : (-1074 : Int) + ((e + 1074).toNat : Nat) = e := by omega
    rw [c1, c2]
    rfl
theorem read_neg (n : Nat) (e : Int) (h : Parts n e) : double.read (9223372036854775808 + wordOf n e) = .number true n e := by
  have hl := word_lt h
  obtain ⟨x1, x2, x3, x4, x5⟩ := h
  unfold Format.read
  rw [sign_d, binade_d, inf_d, least_d]
  have a1 : (9223372036854775808 + wordOf n e) / 9223372036854775808 % 2 = 1 := by omega
  have a2 : (9223372036854775808 + wordOf n e) % 9223372036854775808 = wordOf n e := by omega
  simp only [a1, a2]
  by_cases hs : n < 4503599627370496
  · obtain rfl : e = -1074 := by omega
    have : wordOf n (-1074) = n := by unfold wordOf; simp
    rw [this, if_pos hs]
    rfl
  · have hn : ¬ wordOf n e < 4503599627370496 := by unfold wordOf; omega
    rw [if_neg hn, if_pos hl]
    have b1 : wordOf n e % 4503599627370496 = n - 4503599627370496 := by unfold wordOf; omega
    have b2 : wordOf n e / 4503599627370496 - 1 = (e + 1074).toNat := by unfold wordOf; omega
    rw [b1, b2]
    have c1 : 4503599627370496 + (n - 4503599627370496) = n := by omega
    have c2 : (-1074 : Int) + ((e + 1074).toNat : Nat) = e := by omega
    rw [c1, c2]
    rfl
theorem read_zero : double.read 0 = .number false 0 (-1074) := by decide
theorem read_negzero : double.read 9223372036854775808 = .number true 0 (-1074) := by decide
theorem read_inf : double.read 9218868437227405312 = .infinity false := by decide
theorem read_neginf : double.read 18442240474082181120 = .infinity true := by decide

/-- as an Int at a base. -/
theorem signed_pos (m k : Nat) : signed false m k = ((m * 2 ^ k : Nat) : Int) := by unfold signed; simp [Nat.shiftLeft_eq]
theorem signed_neg (m k : Nat) : signed true m k = -((m * 2 ^ k : Nat) : Int) := by unfold signed; simp [Nat.shiftLeft_eq]

theorem compare_lt {a b : Int} (h : a < b) : compare a b = .lt := by show compareOfLessAndEq a b = _; unfold compareOfLessAndEq; rw [if_pos h]
theorem compare_same (a : Int) : compare a a = .eq := by show compareOfLessAndEq a a = _; unfold compareOfLessAndEq; rw [if_neg (by omega), if_pos rfl]
theorem compare_gt {a b : Int} (h : b < a) : compare a b = .gt := by show compareOfLessAndEq a b = _; unfold compareOfLessAndEq; rw [if_neg (by omega), if_neg (by omega)]

/-- parts compare as their words do. -/
theorem val_lt_word {n n' : Nat} {e e' : Int} (h : Parts n e) (h' : Parts n' e') (hl : wordOf n e < wordOf n' e') : n * 2 ^ (e - min e e').toNat < n' * 2 ^ (e' - min e e').toNat := by
  have hp : 0 < 2 ^ (e' - e).toNat := Nat.pow_pos (by omega)
  obtain ⟨x1, x2, x3, x4, x5⟩ := h
  obtain ⟨y1, y2, y3, y4, y5⟩ := h'
  unfold wordOf at hl
  have hee : e ≤ e' := by omega
  rw [show (e - min e e').toNat = 0 by omega, show (e' - min e e').toNat = (e' - e).toNat by omega, Nat.pow_zero, Nat.mul_one]
  by_cases he : e = e'
  · subst he
    rw [show (e - e).toNat = 0 by omega, Nat.pow_zero]
    omega
  · obtain ⟨j, hj⟩ : ∃ j, (e' - e).toNat = j + 1 := ⟨(e' - e).toNat - 1, by omega⟩
    rw [hj, Nat.pow_succ]
    have hq : 0 < 2 ^ j := Nat.pow_pos (by omega)
    have : n' * 2 ≤ n' * (2 ^ j * 2) := Nat.mul_le_mul_left _ (by omega)
    omega

theorem order_number (s t : Bool) (m n : Nat) (i j : Int) : Datum.order (.number s m i) (.number t n j) = some (compare (signed s m (i - min i j).toNat) (signed t n (j - min i j).toNat)) := rfl

theorem order_lt {n n' : Nat} {e e' : Int} (h : Parts n e) (h' : Parts n' e') (hl : wordOf n e < wordOf n' e') : double.order (wordOf n e) (wordOf n' e') = some .lt := by
  unfold Format.order
  rw [read_word n e h, read_word n' e' h', order_number, signed_pos, signed_pos, compare_lt]
  have := val_lt_word h h' hl
  omega
theorem order_gt {n n' : Nat} {e e' : Int} (h : Parts n e) (h' : Parts n' e') (hl : wordOf n' e' < wordOf n e) : double.order (wordOf n e) (wordOf n' e') = some .gt := by
  unfold Format.order
  rw [read_word n e h, read_word n' e' h', order_number, signed_pos, signed_pos, compare_gt]
  have := val_lt_word h' h hl
  rw [Int.min_comm] at this
  omega
theorem order_self {n : Nat} {e : Int} (h : Parts n e) : double.order (wordOf n e) (wordOf n e) = some .eq := by
  unfold Format.order
  rw [read_word n e h, order_number, compare_same]

/-- WORDS NOT BELOW 0, up to infinity: they compare as numbers. -/
theorem order_pos (a b : Nat) (ha : a ≤ 9218868437227405312) (hb : b ≤ 9218868437227405312) : double.order a b = some (compare a b) := by
  have key : ∀ a b : Nat, a < b → b ≤ 9218868437227405312 → double.order a b = some .lt ∧ double.order b a = some .gt := by
    intro a b hab hb
    by_cases hbi : b = 9218868437227405312
    · subst hbi
      by_cases ha0 : a = 0
      · subst ha0
        unfold Format.order
        rw [read_zero, read_inf]
        exact ⟨rfl, rfl⟩
      · obtain ⟨n, e, hp, rfl⟩ := parts_of a (by omega) hab
        unfold Format.order
        rw [read_word n e hp, read_inf]
        exact ⟨rfl, rfl⟩
    · obtain ⟨n', e', hp', rfl⟩ := parts_of b (by omega) (by omega)
      by_cases ha0 : a = 0
      · subst ha0
        unfold Format.order
        have hp := hp'.pos
        have hpw : 0 < n' * 2 ^ (e' - min (-1074) e').toNat := Nat.mul_pos hp (Nat.pow_pos (by omega))
        rw [read_zero, read_word n' e' hp', order_number, order_number, signed_pos, signed_pos, signed_pos, signed_pos]
        rw [Nat.zero_mul, Nat.zero_mul]
        refine ⟨by rw [compare_lt (by omega)], ?_⟩
        rw [Int.min_comm] at hpw
        rw [compare_gt (by omega)]
      · obtain ⟨n, e, hp, rfl⟩ := parts_of a (by omega) (by omega)
        exact ⟨order_lt hp hp' hab, order_gt hp' hp hab⟩
  rcases Nat.lt_trichotomy a b with h | h | h
  · rw [(key a b h hb).1]
    congr 1
    exact (Nat.compare_eq_lt.2 h).symm
  · subst h
    have e1 : compare a a = Ordering.eq := Nat.compare_eq_eq.2 rfl
    rw [e1]
    by_cases hi : a = 9218868437227405312
    · subst hi; unfold Format.order; rw [read_inf]; rfl
    · by_cases h0 : a = 0
      · subst h0; unfold Format.order; rw [read_zero]; rfl
      · obtain ⟨n, e, hp, rfl⟩ := parts_of a (by omega) (by omega)
        exact order_self hp
  · rw [(key b a h ha).2]
    congr 1
    exact (Nat.compare_eq_gt.2 h).symm

/-- below 0 against not below 0. -/
theorem order_np {n : Nat} {e : Int} (h : Parts n e) (b : Nat) (hb : b ≤ 9218868437227405312) : double.order (9223372036854775808 + wordOf n e) b = some .lt := by
  unfold Format.order
  rw [read_neg n e h]
  by_cases hi : b = 9218868437227405312
  · subst hi; rw [read_inf]; rfl
  · have hp : ∀ k, 0 < n * 2 ^ k := fun k => Nat.mul_pos h.pos (Nat.pow_pos (by omega))
    by_cases h0 : b = 0
    · subst h0
      rw [read_zero, order_number, signed_neg, signed_pos, Nat.zero_mul, compare_lt]
      have := hp (e - min e (-1074)).toNat
      omega
    · obtain ⟨n', e', hp', rfl⟩ := parts_of b (by omega) (by omega)
      rw [read_word n' e' hp', order_number, signed_neg, signed_pos, compare_lt]
      have := hp (e - min e e').toNat
      omega
theorem order_pn {n : Nat} {e : Int} (h : Parts n e) (b : Nat) (hb : b ≤ 9218868437227405312) : double.order b (9223372036854775808 + wordOf n e) = some .gt := by
  unfold Format.order
  rw [read_neg n e h]
  by_cases hi : b = 9218868437227405312
  · subst hi; rw [read_inf]; rfl
  · have hp : ∀ k, 0 < n * 2 ^ k := fun k => Nat.mul_pos h.pos (Nat.pow_pos (by omega))
    by_cases h0 : b = 0
    · subst h0
      rw [read_zero, order_number, signed_neg, signed_pos, Nat.zero_mul, compare_gt]
      have := hp (e - min (-1074) e).toNat
      omega
    · obtain ⟨n', e', hp', rfl⟩ := parts_of b (by omega) (by omega)
      rw [read_word n' e' hp', order_number, signed_neg, signed_pos, compare_gt]
      have := hp (e - min e' e).toNat
      omega
theorem order_nn {n n' : Nat} {e e' : Int} (h : Parts n e) (h' : Parts n' e') : double.order (9223372036854775808 + wordOf n e) (9223372036854775808 + wordOf n' e') = some (compare (wordOf n' e') (wordOf n e)) := by
  have e1 := order_pos (wordOf n' e') (wordOf n e) (Nat.le_of_lt (word_lt h')) (Nat.le_of_lt (word_lt h))
  rw [← e1]
  unfold Format.order
  rw [read_neg n e h, read_neg n' e' h', read_word n e h, read_word n' e' h', order_number, order_number, signed_neg, signed_neg, signed_pos, signed_pos, Int.min_comm]
  congr 1
  obtain ⟨x, hx⟩ : ∃ x, ((n * 2 ^ (e - min e' e).toNat : Nat) : Int) = x := ⟨_, rfl⟩
  obtain ⟨y, hy⟩ : ∃ y, ((n' * 2 ^ (e' - min e' e).toNat : Nat) : Int) = y := ⟨_, rfl⟩
  rw [hx, hy]
  rcases Int.lt_trichotomy x y with h | h | h
  · rw [compare_gt (by omega), compare_gt h]
  · subst h; rw [compare_same, compare_same]
  · rw [compare_lt (by omega), compare_lt h]

/-! ### writing an exact number -/
theorem cut_zero (neg : Bool) (m : Nat) : Toward.even.cut neg m 0 = m := by
  unfold Toward.cut
  simp [Nat.mod_one]
theorem cut_exact (neg : Bool) (m j : Nat) (hm : 0 < m) : Toward.even.cut neg (m * 2 ^ j) j = m := by
  have hl : min j ((m * 2 ^ j).log2 + 2) = j := by
    have hp : 0 < 2 ^ j := Nat.pow_pos (by omega)
    have h1 : 2 ^ j ≤ m * 2 ^ j := Nat.le_mul_of_pos_left _ hm
    have : j ≤ (m * 2 ^ j).log2 := (Nat.le_log2 (by have := Nat.mul_pos hm hp; omega)).2 h1
    omega
  unfold Toward.cut
  rw [hl]
  have hp : 0 < 2 ^ j := Nat.pow_pos (by omega)
  simp only [Nat.shiftLeft_eq, Nat.one_mul]
  rw [Nat.mul_div_cancel _ hp, Nat.mul_mod_left]
  have e1 : ¬ (2 ^ j < 2 * 0) := by omega
  have e2 : (2 ^ j == 2 * 0) = false := by rw [beq_eq_false_iff_ne]; omega
  simp [e2]

/-- mag*2^place is n*2^e. -/
def sameVal (mag : Nat) (place : Int) (n : Nat) (e : Int) : Prop := (∃ j : Nat, mag = n * 2 ^ j ∧ place + j = e) ∨ (∃ j : Nat, n = mag * 2 ^ j ∧ e + j = place)

theorem log2_shift (m j : Nat) (hm : 0 < m) : (m * 2 ^ j).log2 = m.log2 + j := by
  have hp : 0 < 2 ^ j := Nat.pow_pos (by omega)
  have h0 : m * 2 ^ j ≠ 0 := by have := Nat.mul_pos hm hp; omega
  apply (Nat.log2_eq_iff h0).2
  obtain ⟨a, b⟩ := (Nat.log2_eq_iff (show m ≠ 0 by omega) (k := m.log2)).1 rfl
  rw [Nat.pow_add, show m.log2 + j + 1 = (m.log2 + 1) + j by omega, Nat.pow_add]
  exact ⟨Nat.mul_le_mul_right _ a, Nat.mul_lt_mul_of_pos_right b hp⟩

theorem parts_last {n : Nat} {e : Int} (h : Parts n e) : max (e + n.log2 - 52) (-1074) = e := by
  obtain ⟨x1, x2, x3, x4, x5⟩ := h
  have hlt : n.log2 < 53 := (Nat.log2_lt (by omega)).2 (by omega)
  rcases x5 with h5 | h5
  · have : 52 ≤ n.log2 := (Nat.le_log2 (by omega)).2 (by omega)
    omega
  · omega

theorem nearest_exact (neg : Bool) (mag : Nat) (place : Int) (n : Nat) (e : Int) (h : Parts n e) (hv : sameVal mag place n e) : double.nearest neg mag place = double.word neg (wordOf n e) := by
  have hl := parts_last h
  have hw := word_lt h
  unfold Format.nearest
  have fb : double.fractionBits = 52 := rfl
  rw [least_d, binade_d, inf_d, fb]
  rcases hv with ⟨j, rfl, rfl⟩ | ⟨j, rfl, rfl⟩
  · have hn := h.pos
    have hm : ¬ (n * 2 ^ j = 0) := by have := Nat.mul_pos hn (Nat.pow_pos (n := j) (show 0 < 2 by omega)); omega
    rw [if_neg hm, log2_shift n j hn]
    have e1 : max (place + ((n.log2 + j : Nat) : Int) - ((52 : Nat) : Int)) (-1074) = place + j := by
      rw [← hl]; congr 1; omega
    simp only [e1]
    rw [show (place - (place + (j : Int))).toNat = 0 by omega, show (place + (j : Int) - place).toNat = j by omega, Nat.shiftLeft_zero, cut_exact neg n j hn]
    congr 1
    unfold wordOf at hw ⊢
    rw [show place + (j : Int) - -1074 = place + (j : Int) + 1074 by omega]
    omega
  · have hm0 : 0 < mag := by
      rcases Nat.eq_zero_or_pos mag with h0 | h0
      · have := h.pos; rw [h0, Nat.zero_mul] at this; omega
      · exact h0
    rw [if_neg (by omega)]
    rw [log2_shift mag j hm0] at hl
    have e1 : max (e + (j : Int) + (mag.log2 : Int) - ((52 : Nat) : Int)) (-1074) = e := by
      rw [← hl]
      rw [hl]
      omega
    simp only [e1]
    rw [show (e + (j : Int) - e).toNat = j by omega, show (e - (e + (j : Int))).toNat = 0 by omega, Nat.shiftLeft_eq, cut_zero]
    congr 1
    unfold wordOf at hw ⊢
    rw [show e - -1074 = e + 1074 by omega]
    omega

/-- a small whole number's parts. -/
theorem parts_nat (m : Nat) (h0 : 0 < m) (h : m ≤ 9007199254740992) : ∃ n e, Parts n e ∧ sameVal m 0 n e ∧ (wordOf n e / 4503599627370496 : Nat) = m.log2 + 1023 ∧ n = if m = 9007199254740992 then 4503599627370496 else m * 2 ^ (52 - m.log2) := by
  by_cases hm : m = 9007199254740992
  · subst hm
    exact ⟨4503599627370496, 1, ⟨by omega, by omega, by omega, by omega, .inl (by omega)⟩, .inl ⟨1, by decide, by omega⟩, by decide, by simp⟩
  · have hlt : m.log2 < 53 := (Nat.log2_lt (by omega)).2 (by omega)
    have a := (Nat.log2_eq_iff (show m ≠ 0 by omega) (k := m.log2)).1 rfl
    have hp : m * 2 ^ (52 - m.log2) < 9007199254740992 ∧ 4503599627370496 ≤ m * 2 ^ (52 - m.log2) := by
      have p : 0 < 2 ^ (52 - m.log2) := Nat.pow_pos (by omega)
      have b1 := Nat.mul_lt_mul_of_pos_right a.2 p
      have b2 := Nat.mul_le_mul_right (2 ^ (52 - m.log2)) a.1
      rw [← Nat.pow_add] at b1 b2
      rw [show m.log2 + 1 + (52 - m.log2) = 53 by omega] at b1
      rw [show m.log2 + (52 - m.log2) = 52 by omega] at b2
      exact ⟨b1, b2⟩
    refine ⟨m * 2 ^ (52 - m.log2), (m.log2 : Int) - 52, ⟨by omega, hp.1, by omega, by omega, .inl hp.2⟩, .inr ⟨52 - m.log2, rfl, by omega⟩, ?_, by rw [if_neg hm]⟩
    unfold wordOf
    omega
end Go.Proofs.YtdijkobiffhgcaaGreatDoor.Nu

namespace Go.Proofs.YtdijkobiffhgcaaGreatDoor.Nu
open Ieee

/-- m*2^i in parts of 2^-4000. -/
def vq (m : Nat) (i : Int) : Nat := m * 2 ^ (i + 4000).toNat
def pw (B : Int) : Nat := 2 ^ (B + 4000).toNat

theorem pw_pos (B : Int) : 0 < pw B := Nat.pow_pos (by omega)
theorem pw_one (B : Int) (h : -4000 ≤ B) : pw (B + 1) = 2 * pw B := by
  unfold pw
  rw [show (B + 1 + 4000).toNat = (B + 4000).toNat + 1 by omega, Nat.pow_succ, Nat.mul_comm]
theorem pw_mono {a b : Int} (h : a ≤ b) : pw a ≤ pw b := Nat.pow_le_pow_right (by omega) (by omega)
theorem vq_base (m : Nat) (i b : Int) (hb : -4000 ≤ b) (h : b ≤ i) : vq m i = m * 2 ^ (i - b).toNat * pw b := by
  unfold vq pw
  rw [show (i + 4000).toNat = (i - b).toNat + (b + 4000).toNat by omega, Nat.pow_add, Nat.mul_assoc]

theorem vq_word_mono {n n' : Nat} {e e' : Int} (h : Parts n e) (h' : Parts n' e') (hl : wordOf n e ≤ wordOf n' e') : vq n e ≤ vq n' e' := by
  have b1 := h.ge
  have b2 := h'.ge
  rw [vq_base n e (min e e') (by omega) (by omega), vq_base n' e' (min e e') (by omega) (by omega)]
  apply Nat.mul_le_mul_right
  rcases Nat.lt_or_ge (wordOf n e) (wordOf n' e') with g | g
  · exact Nat.le_of_lt (val_lt_word h h' g)
  · rcases Nat.lt_or_ge (n' * 2 ^ (e' - min e e').toNat) (n * 2 ^ (e - min e e').toNat) with k | k
    · have a1 := order_pos (wordOf n e) (wordOf n' e') (Nat.le_of_lt (word_lt h)) (Nat.le_of_lt (word_lt h'))
      rw [show wordOf n e = wordOf n' e' by omega] at a1
      rw [Nat.compare_eq_eq.2 rfl] at a1
      have a2 : double.order (wordOf n e) (wordOf n' e') = some .gt := by
        unfold Format.order
        rw [read_word n e h, read_word n' e' h', order_number, signed_pos, signed_pos, compare_gt (by omega)]
      rw [show wordOf n e = wordOf n' e' by omega, a1] at a2
      cases a2
    · exact k

/-- rungs of powers of two. -/
theorem parts_pow (B : Int) (h0 : -1000 ≤ B) (h1 : B ≤ 1000) : Parts 4503599627370496 (B - 52) := ⟨by omega, by omega, by omega, by omega, .inl (by omega)⟩
theorem vq_pow (B : Int) (h0 : -1000 ≤ B) : vq 4503599627370496 (B - 52) = pw B := by
  unfold vq pw
  rw [show (4503599627370496 : Nat) = 2 ^ 52 by decide, ← Nat.pow_add]
  congr 1; omega

theorem cut_le (neg : Bool) (m j : Nat) : Toward.even.cut neg m j ≤ m / 2 ^ j + 1 ∧ m / 2 ^ j ≤ Toward.even.cut neg m j := by
  unfold Toward.cut
  rw [Nat.shiftLeft_eq, Nat.one_mul]
  obtain ⟨x, hx⟩ : ∃ x, min j (m.log2 + 2) = x := ⟨_, rfl⟩
  have hq : m / 2 ^ x = m / 2 ^ j := by
    by_cases h : j ≤ m.log2 + 2
    · rw [show x = j by omega]
    · have hm : m < 2 ^ (m.log2 + 1) := by
        by_cases h0 : m = 0
        · subst h0; exact Nat.pow_pos (by omega)
        · exact ((Nat.log2_eq_iff h0 (k := m.log2)).1 rfl).2
      have a1 : 2 ^ (m.log2 + 1) ≤ 2 ^ x := Nat.pow_le_pow_right (by omega) (by omega)
      have a2 : 2 ^ (m.log2 + 1) ≤ 2 ^ j := Nat.pow_le_pow_right (by omega) (by omega)
      rw [Nat.div_eq_of_lt (by omega), Nat.div_eq_of_lt (by omega)]
  rw [hx]
  simp only [hq]
  obtain ⟨b, hb⟩ : ∃ b, (decide (2 ^ x < 2 * (m % 2 ^ x)) || (2 ^ x == 2 * (m % 2 ^ x) && m / 2 ^ j % 2 == 1)) = b := ⟨_, rfl⟩
  rw [hb]
  cases b <;> simp

theorem log2_le_of_vq {m : Nat} {i B : Int} (hm : 0 < m) (hi : -4000 ≤ i) (hB : -4000 ≤ B) (h : vq m i ≤ pw B) : i + m.log2 ≤ B := by
  have a := (Nat.log2_eq_iff (show m ≠ 0 by omega) (k := m.log2)).1 rfl
  unfold vq pw at h
  have b := Nat.mul_le_mul_right (2 ^ (i + 4000).toNat) a.1
  rw [← Nat.pow_add] at b
  have c : 2 ^ (m.log2 + (i + 4000).toNat) ≤ 2 ^ (B + 4000).toNat := by omega
  have d := (Nat.pow_le_pow_iff_right (show 1 < 2 by omega)).1 c
  omega
theorem log2_ge_of_vq {m : Nat} {i B : Int} (hm : 0 < m) (hi : -4000 ≤ i) (hB : -4000 ≤ B) (h : pw B ≤ vq m i) : B ≤ i + m.log2 := by
  have a := (Nat.log2_eq_iff (show m ≠ 0 by omega) (k := m.log2)).1 rfl
  unfold vq pw at h
  have b := Nat.mul_lt_mul_of_pos_right a.2 (Nat.pow_pos (n := (i + 4000).toNat) (show 0 < 2 by omega))
  rw [← Nat.pow_add] at b
  have c : 2 ^ (B + 4000).toNat < 2 ^ (m.log2 + 1 + (i + 4000).toNat) := by omega
  have d := (Nat.pow_lt_pow_iff_right (show 1 < 2 by omega)).1 c
  omega

/-- the rung that an amount is written as. -/
def rung (mag : Nat) (place : Int) : Nat :=
  min ((max (place + mag.log2 - 52) (-1074) + 1074).toNat * 4503599627370496 + Toward.even.cut false (mag <<< (place - max (place + mag.log2 - 52) (-1074)).toNat) (max (place + mag.log2 - 52) (-1074) - place).toNat) 9218868437227405312

theorem cut_even_neg (neg : Bool) (m j : Nat) : Toward.even.cut neg m j = Toward.even.cut false m j := rfl
theorem nearest_rung (neg : Bool) (mag : Nat) (place : Int) (hm : 0 < mag) : double.nearest neg mag place = double.word neg (rung mag place) := by
  have fb : double.fractionBits = 52 := rfl
  unfold Format.nearest rung
  rw [if_neg (by omega), least_d, binade_d, inf_d, fb]
  simp only [cut_even_neg neg, Int.sub_neg]
  rfl

theorem kept_le (mag : Nat) (place last : Int) (hm : 0 < mag) (h : place + mag.log2 - 52 ≤ last) : Toward.even.cut false (mag <<< (place - last).toNat) (last - place).toNat ≤ 9007199254740992 := by
  have a := (Nat.log2_eq_iff (show mag ≠ 0 by omega) (k := mag.log2)).1 rfl
  have c := (cut_le false (mag <<< (place - last).toNat) (last - place).toNat).1
  rw [Nat.shiftLeft_eq] at c ⊢
  have p1 : 0 < 2 ^ (last - place).toNat := Nat.pow_pos (by omega)
  have d : mag * 2 ^ (place - last).toNat / 2 ^ (last - place).toNat < 9007199254740992 := by
    rw [Nat.div_lt_iff_lt_mul p1, show (9007199254740992 : Nat) = 2 ^ 53 by decide, ← Nat.pow_add]
    have b := Nat.mul_lt_mul_of_pos_right a.2 (Nat.pow_pos (n := (place - last).toNat) (show 0 < 2 by omega))
    rw [← Nat.pow_add] at b
    have e : 2 ^ (mag.log2 + 1 + (place - last).toNat) ≤ 2 ^ (53 + (last - place).toNat) := Nat.pow_le_pow_right (by omega) (by omega)
    omega
  omega

theorem rung_le (mag : Nat) (place B : Int) (hm : 0 < mag) (hp : -4000 ≤ place) (h0 : -1000 ≤ B) (h1 : B ≤ 1000) (h : vq mag place ≤ pw B) : rung mag place ≤ wordOf 4503599627370496 (B - 52) := by
  have hl := log2_le_of_vq hm hp (by omega) h
  by_cases hlt : place + mag.log2 < B
  · have k := kept_le mag place (max (place + mag.log2 - 52) (-1074)) hm (by omega)
    unfold rung wordOf
    obtain ⟨x, hx⟩ : ∃ x, Toward.even.cut false (mag <<< (place - max (place + mag.log2 - 52) (-1074)).toNat) (max (place + mag.log2 - 52) (-1074) - place).toNat = x := ⟨_, rfl⟩
    rw [hx] at k ⊢
    omega
  · have hmag : mag = 2 ^ mag.log2 := by
      have a := ((Nat.log2_eq_iff (show mag ≠ 0 by omega) (k := mag.log2)).1 rfl).1
      unfold vq pw at h
      rw [show (B + 4000).toNat = mag.log2 + (place + 4000).toNat by omega, Nat.pow_add] at h
      have := Nat.le_of_mul_le_mul_right h (Nat.pow_pos (by omega))
      omega
    have hx : sameVal mag place 4503599627370496 (B - 52) := by
      by_cases hL : 52 ≤ mag.log2
      · refine .inl ⟨mag.log2 - 52, ?_, by omega⟩
        conv => lhs; rw [hmag]
        rw [show (4503599627370496 : Nat) = 2 ^ 52 by decide, ← Nat.pow_add]
        congr 1; omega
      · refine .inr ⟨52 - mag.log2, ?_, by omega⟩
        conv => rhs; rw [hmag]
        rw [Nat.log2_two_pow, ← Nat.pow_add, show mag.log2 + (52 - mag.log2) = 52 by omega]
    have e := nearest_exact false mag place _ _ (parts_pow B h0 h1) hx
    rw [nearest_rung false mag place hm] at e
    unfold Format.word at e
    simp only [Bool.false_eq_true, if_false] at e
    omega

theorem rung_ge (mag : Nat) (place B : Int) (hm : 0 < mag) (hp : -4000 ≤ place) (h0 : -1000 ≤ B) (h1 : B ≤ 1000) (h : pw B ≤ vq mag place) : wordOf 4503599627370496 (B - 52) ≤ rung mag place := by
  have hl := log2_ge_of_vq hm hp (by omega) h
  obtain ⟨last, hL⟩ : ∃ last : Int, place + mag.log2 - 52 = last := ⟨_, rfl⟩
  have hlast : max (place + mag.log2 - 52) (-1074) = last := by omega
  have k : 4503599627370496 ≤ Toward.even.cut false (mag <<< (place - last).toNat) (last - place).toNat := by
    have a := (Nat.log2_eq_iff (show mag ≠ 0 by omega) (k := mag.log2)).1 rfl
    refine Nat.le_trans ?_ (cut_le false _ _).2
    rw [Nat.shiftLeft_eq]
    have p1 : 0 < 2 ^ (last - place).toNat := Nat.pow_pos (by omega)
    rw [Nat.le_div_iff_mul_le p1]
    have b := Nat.mul_le_mul_right (2 ^ (place - last).toNat) a.1
    rw [← Nat.pow_add] at b
    have e : 2 ^ (52 + (last - place).toNat) = 2 ^ (mag.log2 + (place - last).toNat) := by congr 1; omega
    rw [Nat.pow_add] at e
    have e52 : (2 : Nat) ^ 52 = 4503599627370496 := by decide
    rw [e52] at e
    omega
  unfold rung wordOf
  rw [hlast]
  obtain ⟨x, hx⟩ : ∃ x, Toward.even.cut false (mag <<< (place - last).toNat) (last - place).toNat = x := ⟨_, rfl⟩
  rw [hx] at k ⊢
  clear h hx
  omega

/-- |w| is at most 2^B. -/
def Mg (w : Nat) (B : Int) : Prop := ∃ s m i, double.read w = .number s m i ∧ -1074 ≤ i ∧ vq m i ≤ pw B

theorem read_word_any (neg : Bool) (r : Nat) (h : r < 9218868437227405312) : ∃ m i, double.read (double.word neg r) = .number neg m i ∧ -1074 ≤ i ∧ ((r = 0 ∧ m = 0) ∨ (Parts m i ∧ r = wordOf m i)) := by
  have hs : double.word neg r = if neg then 9223372036854775808 + r else r := by unfold Format.word; rw [sign_d]
  rw [hs]
  by_cases h0 : r = 0
  · subst h0
    refine ⟨0, -1074, ?_, by omega, .inl ⟨rfl, rfl⟩⟩
    cases neg
    · exact read_zero
    · exact read_negzero
  · obtain ⟨n, e, hp, rfl⟩ := parts_of r (by omega) h
    refine ⟨n, e, ?_, hp.ge, .inr ⟨hp, rfl⟩⟩
    cases neg
    · exact read_word n e hp
    · exact read_neg n e hp

/-- what is written of an amount up to 2^B. -/
theorem nearest_mg (neg : Bool) (mag : Nat) (place B : Int) (hp : -4000 ≤ place) (h0 : -1000 ≤ B) (h1 : B ≤ 1000) (h : vq mag place ≤ pw B) :
    ∃ m i, double.read (double.nearest neg mag place) = .number neg m i ∧ -1074 ≤ i ∧ vq m i ≤ pw B := by
  by_cases hm : mag = 0
  · subst hm
    have e : double.nearest neg 0 place = double.word neg 0 := by unfold Format.nearest; rw [if_pos rfl]
    rw [e]
    obtain ⟨m, i, a, b, c⟩ := read_word_any neg 0 (by omega)
    refine ⟨m, i, a, b, ?_⟩
    rcases c with ⟨_, rfl⟩ | ⟨hp, c⟩
    · unfold vq; rw [Nat.zero_mul]; exact Nat.zero_le _
    · have := word_pos hp; omega
  · rw [nearest_rung neg mag place (by omega)]
    have hr := rung_le mag place B (by omega) hp h0 h1 h
    have hw := word_lt (parts_pow B h0 h1)
    obtain ⟨m, i, a, b, c⟩ := read_word_any neg (rung mag place) (by omega)
    refine ⟨m, i, a, b, ?_⟩
    rcases c with ⟨_, rfl⟩ | ⟨hpp, c⟩
    · unfold vq; rw [Nat.zero_mul]; exact Nat.zero_le _
    · rw [← vq_pow B h0]
      exact vq_word_mono hpp (parts_pow B h0 h1) (by omega)
/-- and from 2^B on. -/
theorem nearest_from (neg : Bool) (mag : Nat) (place A B : Int) (hp : -4000 ≤ place) (h0 : -1000 ≤ A) (hAB : A ≤ B) (h1 : B ≤ 1000) (hA : pw A ≤ vq mag place) (h : vq mag place ≤ pw B) :
    ∃ m i, double.read (double.nearest neg mag place) = .number neg m i ∧ -1074 ≤ i ∧ pw A ≤ vq m i ∧ vq m i ≤ pw B := by
  have hm : 0 < mag := by
    rcases Nat.eq_zero_or_pos mag with g | g
    · have := pw_pos A; unfold vq at hA; rw [g, Nat.zero_mul] at hA; omega
    · exact g
  obtain ⟨m, i, a, b, c⟩ := nearest_mg neg mag place B hp (by omega) h1 h
  refine ⟨m, i, a, b, ?_, c⟩
  rw [nearest_rung neg mag place hm] at a
  have hr := rung_ge mag place A hm hp h0 (by omega) hA
  have hr2 := rung_le mag place B hm hp (by omega) h1 h
  have hw := word_lt (parts_pow B (by omega) h1)
  obtain ⟨m', i', a', b', c'⟩ := read_word_any neg (rung mag place) (by omega)
  rw [a] at a'
  simp only [Datum.number.injEq] at a'
  obtain ⟨_, rfl, rfl⟩ := a'
  rcases c' with ⟨c', _⟩ | ⟨hpp, c'⟩
  · have := word_pos (parts_pow A h0 (by omega)); omega
  · rw [← vq_pow A h0]
    exact vq_word_mono (parts_pow A h0 (by omega)) hpp (by omega)
end Go.Proofs.YtdijkobiffhgcaaGreatDoor.Nu

namespace Go.Proofs.YtdijkobiffhgcaaGreatDoor.Nu
open Ieee

theorem Mg.mono {w : Nat} {a b : Int} (h : Mg w a) (hab : a ≤ b) : Mg w b := by
  obtain ⟨s, m, i, h1, h2, h3⟩ := h
  exact ⟨s, m, i, h1, h2, Nat.le_trans h3 (pw_mono hab)⟩

/-- the word of a number above 0, from 2^A to 2^B. -/
def Po (w : Nat) (A B : Int) : Prop := ∃ m i, double.read w = .number false m i ∧ Parts m i ∧ pw A ≤ vq m i ∧ vq m i ≤ pw B
theorem Po.mg {w : Nat} {A B : Int} (h : Po w A B) : Mg w B := by
  obtain ⟨m, i, h1, h2, _, h4⟩ := h
  exact ⟨false, m, i, h1, h2.ge, h4⟩

theorem vq_mul (m n : Nat) (i j : Int) (hi : -1100 ≤ i) (hj : -1100 ≤ j) : vq (m * n) (i + j) * pw 0 = vq m i * vq n j := by
  unfold vq pw
  have : 2 ^ (i + j + 4000).toNat * 2 ^ (0 + 4000 : Int).toNat = 2 ^ (i + 4000).toNat * 2 ^ (j + 4000).toNat := by
    rw [← Nat.pow_add, ← Nat.pow_add]; congr 1; omega
  rw [Nat.mul_assoc (m * n), this]
  ac_rfl
theorem pw_mul (a b : Int) (ha : -1100 ≤ a) (hb : -1100 ≤ b) : pw (a + b) * pw 0 = pw a * pw b := by
  unfold pw
  rw [← Nat.pow_add, ← Nat.pow_add]; congr 1; omega

theorem mul_mg {x y : Nat} {a b : Int} (hx : Mg x a) (hy : Mg y b) (ha : -500 ≤ a) (hb : -500 ≤ b) (h1 : a + b ≤ 1000) : ∃ r, double.mul x y = some r ∧ Mg r (a + b) := by
  obtain ⟨s, m, i, hr, hi, hm⟩ := hx
  obtain ⟨t, n, j, hr', hj, hn⟩ := hy
  unfold Format.mul
  rw [hr, hr']
  refine ⟨_, rfl, ?_⟩
  have hv : vq (m * n) (i + j) ≤ pw (a + b) := by
    have e1 := vq_mul m n i j (by omega) (by omega)
    have e2 := pw_mul a b (by omega) (by omega)
    have e3 := Nat.mul_le_mul hm hn
    rw [← e1, ← e2] at e3
    exact Nat.le_of_mul_le_mul_right e3 (pw_pos 0)
  obtain ⟨m', i', q1, q2, q3⟩ := nearest_mg (s ^^ t) (m * n) (i + j) (a + b) (by omega) (by omega) h1 hv
  exact ⟨_, m', i', q1, q2, q3⟩

/-- an exact amount, written: above 0, from 2^A to 2^B. -/
theorem nearest_po (mag : Nat) (place A B : Int) (hp : -4000 ≤ place) (h0 : -1000 ≤ A) (hAB : A ≤ B) (h1 : B ≤ 1000) (hA : pw A ≤ vq mag place) (h : vq mag place ≤ pw B) : Po (double.nearest false mag place) A B := by
  have hm : 0 < mag := by
    rcases Nat.eq_zero_or_pos mag with g | g
    · have := pw_pos A; unfold vq at hA; rw [g, Nat.zero_mul] at hA; omega
    · exact g
  rw [nearest_rung false mag place hm]
  have hr := rung_ge mag place A hm hp h0 (by omega) hA
  have hr2 := rung_le mag place B hm hp (by omega) h1 h
  have hw := word_lt (parts_pow B (by omega) h1)
  obtain ⟨m', i', a', b', c'⟩ := read_word_any false (rung mag place) (by omega)
  rcases c' with ⟨c', _⟩ | ⟨hpp, c'⟩
  · have := word_pos (parts_pow A h0 (by omega)); omega
  · refine ⟨m', i', a', hpp, ?_, ?_⟩
    · rw [← vq_pow A h0]
      exact vq_word_mono (parts_pow A h0 (by omega)) hpp (by omega)
    · rw [← vq_pow B (by omega)]
      exact vq_word_mono hpp (parts_pow B (by omega) h1) (by omega)

theorem mul_po {x y : Nat} {a a' b b' : Int} (hx : Po x a a') (hy : Po y b b') (ha : -500 ≤ a) (hb : -500 ≤ b) (haa : a ≤ a') (hbb : b ≤ b') (h1 : a' + b' ≤ 1000) : ∃ r, double.mul x y = some r ∧ Po r (a + b) (a' + b') := by
  obtain ⟨m, i, hr, hp, hm, hm'⟩ := hx
  obtain ⟨n, j, hr', hp', hn, hn'⟩ := hy
  have := hp.ge
  have := hp'.ge
  unfold Format.mul
  rw [hr, hr']
  refine ⟨_, rfl, ?_⟩
  have e1 := vq_mul m n i j (by omega) (by omega)
  have hv : vq (m * n) (i + j) ≤ pw (a' + b') := by
    have e2 := pw_mul a' b' (by omega) (by omega)
    have e3 := Nat.mul_le_mul hm' hn'
    rw [← e1, ← e2] at e3
    exact Nat.le_of_mul_le_mul_right e3 (pw_pos 0)
  have hv2 : pw (a + b) ≤ vq (m * n) (i + j) := by
    have e2 := pw_mul a b (by omega) (by omega)
    have e3 := Nat.mul_le_mul hm hn
    rw [← e1, ← e2] at e3
    exact Nat.le_of_mul_le_mul_right e3 (pw_pos 0)
  exact nearest_po _ _ _ _ (by omega) (by omega) (by omega) h1 hv2 hv

theorem signed_abs (s : Bool) (m k : Nat) : (signed s m k).natAbs = m * 2 ^ k := by
  cases s
  · rw [signed_pos]; omega
  · rw [signed_neg]; omega

theorem sum_number (s t : Bool) (m n : Nat) (i j : Int) : Datum.sum (.number s m i) (.number t n j) =
    some (.number (if signed s m (i - min i j).toNat + signed t n (j - min i j).toNat = 0 then s && t else signed s m (i - min i j).toNat + signed t n (j - min i j).toNat < 0) (signed s m (i - min i j).toNat + signed t n (j - min i j).toNat).natAbs (min i j)) := rfl

theorem sum_mg {s t : Bool} {m n : Nat} {i j a : Int} (hi : -1074 ≤ i) (hj : -1074 ≤ j) (hm : vq m i ≤ pw a) (hn : vq n j ≤ pw a) (ha : -500 ≤ a) (h1 : a + 1 ≤ 1000) :
    ∃ r, ((Datum.number s m i).sum (.number t n j)).map double.write = some r ∧ Mg r (a + 1) := by
  rw [sum_number]
  obtain ⟨b, hb⟩ : ∃ b, min i j = b := ⟨_, rfl⟩
  rw [hb]
  obtain ⟨T, hT⟩ : ∃ T, signed s m (i - b).toNat + signed t n (j - b).toNat = T := ⟨_, rfl⟩
  rw [hT]
  refine ⟨_, rfl, ?_⟩
  have h2 : T.natAbs ≤ m * 2 ^ (i - b).toNat + n * 2 ^ (j - b).toNat := by
    rw [← hT, ← signed_abs s m, ← signed_abs t n]; omega
  have hv : vq T.natAbs b ≤ pw (a + 1) := by
    rw [pw_one a (by omega)]
    have e1 : vq T.natAbs b = T.natAbs * pw b := rfl
    rw [e1]
    rw [vq_base m i b (by omega) (by omega)] at hm
    rw [vq_base n j b (by omega) (by omega)] at hn
    have := Nat.mul_le_mul_right (pw b) h2
    rw [Nat.add_mul] at this
    omega
  obtain ⟨neg, hneg⟩ : ∃ neg : Bool, (if T = 0 then s && t else decide (T < 0)) = neg := ⟨_, rfl⟩
  obtain ⟨m', i', q1, q2, q3⟩ := nearest_mg neg T.natAbs b (a + 1) (by omega) (by omega) h1 hv
  refine ⟨neg, m', i', ?_, q2, q3⟩
  rw [← q1, ← hneg]
  rfl

theorem add_mg {x y : Nat} {a : Int} (hx : Mg x a) (hy : Mg y a) (ha : -500 ≤ a) (h1 : a + 1 ≤ 1000) : ∃ r, double.add x y = some r ∧ Mg r (a + 1) := by
  obtain ⟨s, m, i, hr, hi, hm⟩ := hx
  obtain ⟨t, n, j, hr', hj, hn⟩ := hy
  unfold Format.add
  rw [hr, hr']
  exact sum_mg hi hj hm hn ha h1
theorem sub_mg {x y : Nat} {a : Int} (hx : Mg x a) (hy : Mg y a) (ha : -500 ≤ a) (h1 : a + 1 ≤ 1000) : ∃ r, double.sub x y = some r ∧ Mg r (a + 1) := by
  obtain ⟨s, m, i, hr, hi, hm⟩ := hx
  obtain ⟨t, n, j, hr', hj, hn⟩ := hy
  unfold Format.sub
  rw [hr, hr']
  exact sum_mg (t := !t) hi hj hm hn ha h1

/-- at most 1; below 0 at most a half. -/
def Near (w : Nat) : Prop := ∃ s m i, double.read w = .number s m i ∧ -1074 ≤ i ∧ vq m i ≤ pw 0 ∧ (s = true → vq m i ≤ pw (-1))
theorem Near.mg {w : Nat} (h : Near w) : Mg w 0 := by
  obtain ⟨s, m, i, a, b, c, _⟩ := h
  exact ⟨s, m, i, a, b, c⟩

theorem half_pw : pw 0 = 2 * pw (-1) := by rw [← pw_one (-1) (by omega)]; rfl
theorem two_pw : pw 1 = 2 * pw 0 := pw_one 0 (by omega)
theorem one_read : double.read 4607182418800017408 = .number false 4503599627370496 (-52) := by decide
theorem two_read : double.read 4611686018427387904 = .number false 4503599627370496 (-51) := by decide
theorem one_vq : vq 4503599627370496 (-52) = pw 0 := vq_pow 0 (by omega)
theorem two_vq : vq 4503599627370496 (-51) = pw 1 := vq_pow 1 (by omega)

theorem sub_one {x : Nat} (hx : Po x (-1) 1) : ∃ r, double.sub x 4607182418800017408 = some r ∧ Near r := by
  obtain ⟨m, i, hr, hp, h1, h2⟩ := hx
  have hi := hp.ge
  unfold Format.sub
  rw [hr, one_read]
  show ∃ r, ((Datum.number false m i).sum (.number true 4503599627370496 (-52))).map double.write = some r ∧ Near r
  rw [sum_number]
  obtain ⟨b, hb⟩ : ∃ b, min i (-52) = b := ⟨_, rfl⟩
  have v1 := vq_base m i b (by omega) (by omega)
  have v2 := vq_base 4503599627370496 (-52) b (by omega) (by omega)
  rw [one_vq] at v2
  rw [hb, signed_pos, signed_neg]
  obtain ⟨X, hX⟩ : ∃ X, m * 2 ^ (i - b).toNat = X := ⟨_, rfl⟩
  obtain ⟨O, hO⟩ : ∃ O, 4503599627370496 * 2 ^ (-52 - b).toNat = O := ⟨_, rfl⟩
  rw [hX] at v1
  rw [hO] at v2
  rw [hX, hO]
  have hpb := pw_pos b
  rw [half_pw] at v2
  rw [two_pw, half_pw] at h2
  have c1 : X ≤ 2 * O := by
    refine Nat.le_of_mul_le_mul_right (c := pw b) ?_ hpb
    rw [Nat.mul_assoc]; omega
  have c2 : O ≤ 2 * X := by
    refine Nat.le_of_mul_le_mul_right (c := pw b) ?_ hpb
    rw [Nat.mul_assoc]; omega
  obtain ⟨T, hT⟩ : ∃ T : Int, (X : Int) + -(O : Int) = T := ⟨_, rfl⟩
  rw [hT]
  refine ⟨_, rfl, ?_⟩
  have t1 : T.natAbs ≤ O := by omega
  have k1 : vq T.natAbs b ≤ pw 0 := by
    show T.natAbs * pw b ≤ _
    rw [half_pw, v2]
    exact Nat.mul_le_mul_right _ t1
  by_cases hn : T < 0
  · have t2 : 2 * T.natAbs ≤ O := by omega
    have k2 : vq T.natAbs b ≤ pw (-1) := by
      show T.natAbs * pw b ≤ _
      have := Nat.mul_le_mul_right (pw b) t2
      rw [Nat.mul_assoc] at this
      omega
    obtain ⟨m', i', q1, q2, q3⟩ := nearest_mg true T.natAbs b (-1) (by omega) (by omega) (by omega) k2
    refine ⟨true, m', i', ?_, q2, by rw [half_pw]; omega, fun _ => q3⟩
    rw [← q1, if_neg (by omega), decide_eq_true hn]
    rfl
  · obtain ⟨m', i', q1, q2, q3⟩ := nearest_mg false T.natAbs b 0 (by omega) (by omega) (by omega) k1
    refine ⟨false, m', i', ?_, q2, q3, fun h => by cases h⟩
    rw [← q1, decide_eq_false hn]
    have : (if T = 0 then false && true else false) = false := by split <;> rfl
    rw [this]
    rfl

theorem two_add {x : Nat} (hx : Near x) : ∃ r, double.add 4611686018427387904 x = some r ∧ Po r 0 2 := by
  obtain ⟨s, m, i, hr, hi, h1, h2⟩ := hx
  unfold Format.add
  rw [hr, two_read, sum_number]
  obtain ⟨b, hb⟩ : ∃ b, min (-51) i = b := ⟨_, rfl⟩
  have v1 := vq_base m i b (by omega) (by omega)
  have v2 := vq_base 4503599627370496 (-51) b (by omega) (by omega)
  rw [two_vq] at v2
  rw [hb, signed_pos]
  obtain ⟨O, hO⟩ : ∃ O, 4503599627370496 * 2 ^ (-51 - b).toNat = O := ⟨_, rfl⟩
  rw [hO] at v2 ⊢
  obtain ⟨S, hS⟩ : ∃ S, signed s m (i - b).toNat = S := ⟨_, rfl⟩
  have hSa : S.natAbs = m * 2 ^ (i - b).toNat := by rw [← hS, signed_abs]
  rw [← hSa] at v1
  rw [hS]
  have hpb := pw_pos b
  have p2 : pw 2 = 2 * pw 1 := pw_one 1 (by omega)
  have p1 := two_pw
  have c1 : 2 * S.natAbs ≤ O := by
    refine Nat.le_of_mul_le_mul_right (c := pw b) ?_ hpb
    rw [Nat.mul_assoc]; omega
  obtain ⟨T, hT⟩ : ∃ T : Int, (O : Int) + S = T := ⟨_, rfl⟩
  rw [hT]
  refine ⟨_, rfl, ?_⟩
  have hT0 : ¬ T < 0 := by omega
  have t1 : T.natAbs ≤ 2 * O := by omega
  have t2 : O ≤ 2 * T.natAbs := by omega
  have k1 : vq T.natAbs b ≤ pw 2 := by
    show T.natAbs * pw b ≤ _
    have := Nat.mul_le_mul_right (pw b) t1
    rw [Nat.mul_assoc] at this
    omega
  have k2 : pw 0 ≤ vq T.natAbs b := by
    show _ ≤ T.natAbs * pw b
    have := Nat.mul_le_mul_right (pw b) t2
    rw [Nat.mul_assoc] at this
    omega
  have k := nearest_po T.natAbs b 0 2 (by omega) (by omega) (by omega) (by omega) k2 k1
  rw [decide_eq_false hT0]
  have : (if T = 0 then false && s else false) = false := by split <;> rfl
  rw [this]
  exact k

theorem quot_fits {m n more c : Nat} (h : m * 2 ^ more ≤ n * 2 ^ c) (hn : 0 < n) : 2 * (m * 2 ^ more / n) + (m * 2 ^ more % n != 0).toNat ≤ 2 * 2 ^ c := by
  have a : m * 2 ^ more / n ≤ 2 ^ c := by
    have := Nat.div_le_div_right (c := n) h
    rwa [Nat.mul_comm n, Nat.mul_div_cancel _ hn] at this
  obtain ⟨q, hq⟩ : ∃ q, m * 2 ^ more / n = q := ⟨_, rfl⟩
  obtain ⟨p, hp⟩ : ∃ p, 2 ^ c = p := ⟨_, rfl⟩
  have e := Nat.div_add_mod (m * 2 ^ more) n
  rw [hq] at a e ⊢
  rw [hp] at a h ⊢
  by_cases h0 : m * 2 ^ more % n = 0
  · rw [h0]; simp; omega
  · have hb : (m * 2 ^ more % n != 0) = true := by simpa using h0
    rw [hb]
    have : q ≠ p := by
      intro hc
      rw [hc] at e
      omega
    show _ + 1 ≤ _
    omega

theorem div_mg {x y : Nat} {a B : Int} (hx : Mg x a) (hy : Po y 0 B) (ha0 : -500 ≤ a) (ha : a ≤ 1000) : ∃ r, double.div x y = some r ∧ Mg r a := by
  obtain ⟨s, m, i, hr, hi, hm⟩ := hx
  obtain ⟨n, j, hr', hp', hn, _⟩ := hy
  have hn0 := hp'.pos
  have hj := hp'.le
  have hj0 := hp'.ge
  have hnl : n.log2 < 53 := (Nat.log2_lt (by omega)).2 (by have := hp'.lt; omega)
  unfold Format.div
  rw [hr, hr']
  unfold Datum.quotient
  have fb : double.fractionBits + 2 = 54 := rfl
  rw [fb]
  dsimp only
  rw [if_neg (by omega)]
  obtain ⟨more, hmore⟩ : ∃ more, 54 + n.log2 - m.log2 = more := ⟨_, rfl⟩
  rw [hmore, Nat.shiftLeft_eq]
  refine ⟨_, rfl, ?_⟩
  have hv : vq (2 * (m * 2 ^ more / n) + (m * 2 ^ more % n != 0).toNat) (i - j - more - 1) ≤ pw a := by
    by_cases hm0 : m = 0
    · subst hm0
      simp [vq]
    · have hl := log2_le_of_vq (by omega) (by omega) (by omega) hm
      have a1 := (Nat.log2_eq_iff hm0 (k := m.log2)).1 rfl
      have hml : m.log2 + more ≥ 54 + n.log2 := by omega
      have hnb := (Nat.log2_eq_iff (show n ≠ 0 by omega) (k := n.log2)).1 rfl
      have hjn := log2_ge_of_vq hn0 (by omega) (by omega) hn
      -- m ≤ 2^(a - i)
      have m1 : m ≤ 2 ^ (a - i).toNat := by
        unfold vq pw at hm
        rw [show (a + 4000).toNat = (a - i).toNat + (i + 4000).toNat by omega, Nat.pow_add] at hm
        exact Nat.le_of_mul_le_mul_right hm (Nat.pow_pos (by omega))
      have n1 : 1 ≤ n * 2 ^ j.toNat ∧ 2 ^ (-j).toNat ≤ n * 2 ^ j.toNat := by
        have p : 0 < n * 2 ^ j.toNat := Nat.mul_pos hn0 (Nat.pow_pos (by omega))
        refine ⟨p, ?_⟩
        by_cases hj1 : 0 ≤ j
        · rw [show (-j).toNat = 0 by omega]; exact p
        · rw [show j.toNat = 0 by omega, Nat.pow_zero, Nat.mul_one]
          unfold vq pw at hn
          rw [show (0 + 4000 : Int).toNat = (-j).toNat + (j + 4000).toNat by omega, Nat.pow_add] at hn
          exact Nat.le_of_mul_le_mul_right hn (Nat.pow_pos (by omega))
      have hc0 : 0 ≤ a - i + j + more := by omega
      obtain ⟨c, hc⟩ : ∃ c : Nat, (c : Int) = a - i + j + more := ⟨(a - i + j + more).toNat, by omega⟩
      have key : m * 2 ^ more ≤ n * 2 ^ c := by
        have b1 := Nat.mul_le_mul_right (2 ^ more) m1
        rw [← Nat.pow_add] at b1
        refine Nat.le_trans b1 ?_
        by_cases hj1 : 0 ≤ j
        · have : 2 ^ ((a - i).toNat + more) ≤ 2 ^ c := Nat.pow_le_pow_right (by omega) (by omega)
          exact Nat.le_trans this (Nat.le_mul_of_pos_left _ hn0)
        · have n2 := n1.2
          rw [show j.toNat = 0 by omega, Nat.pow_zero, Nat.mul_one] at n2
          have b2 := Nat.mul_le_mul_right (2 ^ c) n2
          rw [← Nat.pow_add] at b2
          rw [show (a - i).toNat + more = (-j).toNat + c by omega]
          exact b2
      have q := quot_fits key hn0
      unfold vq pw
      have b3 := Nat.mul_le_mul_right (2 ^ (i - j - more - 1 + 4000).toNat) q
      refine Nat.le_trans b3 ?_
      rw [show 2 * 2 ^ c = 2 ^ (c + 1) by rw [Nat.pow_succ, Nat.mul_comm], ← Nat.pow_add]
      exact Nat.pow_le_pow_right (by omega) (by omega)
  have hm0 : more ≤ 106 := by omega
  obtain ⟨m', i', q1, q2, q3⟩ := nearest_mg (s ^^ false) _ (i - j - more - 1) a (by omega) (by omega) ha hv
  exact ⟨_, m', i', q1, q2, q3⟩
end Go.Proofs.YtdijkobiffhgcaaGreatDoor.Nu

namespace Go.Proofs.YtdijkobiffhgcaaGreatDoor.Nu
open Ieee Go.Extern.MathAsm

section
variable {P : Program} (w : World)
theorem run_arith {op : BinOp} {x y r : Nat} (h : floatBits op .f64 x y = some r) : (arith op x y).run P w = .ok r w := by
  simp [arith, run_floatArith w h]
theorem run_mul {x y r : Nat} (h : double.mul x y = some r) : (mul x y).run P w = .ok r w := run_arith w h
theorem run_add {x y r : Nat} (h : double.add x y = some r) : (add x y).run P w = .ok r w := run_arith w h
theorem run_sub {x y r : Nat} (h : double.sub x y = some r) : (sub x y).run P w = .ok r w := run_arith w h
theorem run_div {x y r : Nat} (h : double.div x y = some r) : (div x y).run P w = .ok r w := run_arith w h
end

theorem mg_const (x m : Nat) (i : Int) (h : double.read x = .number false m i) (hi : -1074 ≤ i) (hm : m < 9007199254740992) (hi2 : i ≤ -53) : Mg x 0 := by
  refine ⟨false, m, i, h, hi, ?_⟩
  unfold vq pw
  have : m * 2 ^ (i + 4000).toNat ≤ 2 ^ 53 * 2 ^ (i + 4000).toNat := Nat.mul_le_mul_right _ (by omega)
  rw [← Nat.pow_add] at this
  exact Nat.le_trans this (Nat.pow_le_pow_right (by omega) (by omega))

theorem one_po : Po 4607182418800017408 0 1 := by
  refine ⟨_, _, one_read, ⟨by omega, by omega, by omega, by omega, .inl (by omega)⟩, by rw [one_vq]; exact Nat.le_refl _, ?_⟩
  rw [one_vq]; exact pw_mono (by omega)
theorem one_mg0 : Mg 4607182418800017408 0 := ⟨false, _, _, one_read, by omega, by rw [one_vq]; exact Nat.le_refl _⟩
theorem zero_mg0 : Mg 0 0 := ⟨false, 0, -1074, read_zero, by omega, by unfold vq; rw [Nat.zero_mul]; exact Nat.zero_le _⟩
theorem two_po : Po 4611686018427387904 0 1 := by
  refine ⟨_, _, two_read, ⟨by omega, by omega, by omega, by omega, .inl (by omega)⟩, ?_, ?_⟩
  · rw [two_vq]; exact pw_mono (by omega)
  · rw [two_vq]; exact Nat.le_refl _
theorem vq_step (m n : Nat) (i : Int) (hi : -4000 ≤ i) (h : m ≤ 2 * n) : vq m i ≤ vq n (i + 1) := by
  unfold vq
  rw [show (i + 1 + 4000).toNat = (i + 4000).toNat + 1 by omega, Nat.pow_succ]
  obtain ⟨p, hp⟩ : ∃ p, 2 ^ (i + 4000).toNat = p := ⟨_, rfl⟩
  rw [hp]
  have := Nat.mul_le_mul_right p h
  have e : n * (p * 2) = 2 * n * p := by rw [Nat.mul_comm p 2, ← Nat.mul_assoc, Nat.mul_comm n 2]
  rw [e]
  exact this
theorem half_po (f : Nat) (h : f < 4503599627370496) : Po (f + 4602678819172646912) (-1) 0 := by
  have hp : Parts (4503599627370496 + f) (-53) := ⟨by omega, by omega, by omega, by omega, .inl (by omega)⟩
  have hw : f + 4602678819172646912 = wordOf (4503599627370496 + f) (-53) := by unfold wordOf; omega
  rw [hw]
  refine ⟨_, _, read_word _ _ hp, hp, ?_, ?_⟩
  · rw [← vq_pow (-1) (by omega), show (-1 : Int) - 52 = -53 by omega]
    unfold vq
    exact Nat.mul_le_mul_right _ (by omega)
  · rw [← vq_pow 0 (by omega)]
    rw [show (0 : Int) - 52 = -53 + 1 by omega]
    exact vq_step (4503599627370496 + f) 4503599627370496 (-53) (by omega) (by omega)

theorem mg_int (n : Int) (h : n.natAbs ≤ 2048) : Mg (ofInt32 n) 11 := by
  have hv : vq n.natAbs 0 ≤ pw 11 := by
    unfold vq pw
    rw [show (11 + 4000 : Int).toNat = 11 + (0 + 4000 : Int).toNat by omega, Nat.pow_add]
    exact Nat.mul_le_mul_right _ h
  obtain ⟨m, i, a, b, c⟩ := nearest_mg (decide (n < 0)) n.natAbs 0 11 (by omega) (by omega) (by omega) hv
  exact ⟨_, m, i, a, b, c⟩

theorem bind_ok {α β : Type} {P : Program} {w : World} {m : Sem α} {f : α → Sem β} {a : α} {b : β} (h : m.run P w = .ok a w) (h2 : (f a).run P w = .ok b w) : (m >>= f).run P w = .ok b w := by
  rw [Sem.run_bind, h]
  exact h2
theorem pick_float (x : Nat) (g : (x : Nat) → Sem Value) (h : (x : Array Value) → Sem Value) : Go.Extern.MathLog.archLog.match_1 (fun _ => Sem Value) #[.float .f64 x] g h = g x := rfl

set_option maxRecDepth 10000 in
theorem archLog_run (x : Nat) (h0 : 0 < x) (h1 : x < 9218868437227405312) : ∃ r, Mg r 16 ∧ ∀ (P : Program) (w : World), (Go.Extern.MathLog.archLog #[.float .f64 x]).run P w = .ok (.float .f64 r) w := by
  have hx1 : ¬ x % 2 ^ 63 = 0 := by omega
  have hx2 : ¬ x ≥ 2 ^ 63 := by omega
  have hx3 : ¬ x ≥ posInf := by show ¬ x ≥ 9218868437227405312; omega
  obtain ⟨sm, hsm⟩ : ∃ sm : Bool, (!lt 0x3FE6A09E667F3BCD (x % 2 ^ 52 + half)) = sm := ⟨_, rfl⟩
  have K0 := mg_int (Int.ofNat (x / 2 ^ 52) - 0x3FE) (by
    have e : Int.ofNat (x / 2 ^ 52) = ((x / 2 ^ 52 : Nat) : Int) := rfl
    rw [e]
    omega)
  have hf1 : Po (x % 2 ^ 52 + half) (-1) 0 := half_po _ (Nat.mod_lt _ (by decide))
  obtain ⟨k0, hk0⟩ : ∃ k0, ofInt32 (Int.ofNat (x / 2 ^ 52) - 0x3FE) = k0 := ⟨_, rfl⟩
  rw [hk0] at K0
  obtain ⟨f0, hf0⟩ : ∃ f0, x % 2 ^ 52 + half = f0 := ⟨_, rfl⟩
  rw [hf0] at hf1 hsm
  have S1 : Mg (if sm then one else 0) 0 := by
    cases sm
    · exact zero_mg0
    · exact one_mg0
  obtain ⟨k1, rk1, K1⟩ := sub_mg (K0) (S1.mono (by omega : (0 : Int) ≤ 11)) (by omega) (by omega)
  obtain ⟨g, rg, G⟩ : ∃ g, double.add (if sm then one else 0) one = some g ∧ Po g 0 1 := by
    cases sm
    · exact ⟨one, by kernel_rfl, one_po⟩
    · exact ⟨two, by kernel_rfl, two_po⟩
  obtain ⟨f1, rf1, F1⟩ := mul_po hf1 G (by omega) (by omega) (by omega) (by omega) (by omega)
  obtain ⟨f, rf, F⟩ := sub_one F1
  obtain ⟨d, rd, D⟩ := two_add F
  obtain ⟨s, rs, S⟩ := div_mg F.mg D (by omega) (by omega)
  obtain ⟨s2, rs2, S2⟩ := mul_mg S S (by omega) (by omega) (by omega)
  obtain ⟨s4, rs4, S4⟩ := mul_mg S2 S2 (by omega) (by omega) (by omega)
  have c1 := mg_const 0x3FC2F112DF3E5244 _ _ rfl (by decide) (by decide) (by decide)
  have c2 := mg_const 0x3FC7466496CB03DE _ _ rfl (by decide) (by decide) (by decide)
  have c3 := mg_const 0x3FD2492494229359 _ _ rfl (by decide) (by decide) (by decide)
  have c4 := mg_const 0x3FE5555555555593 _ _ rfl (by decide) (by decide) (by decide)
  have d1 := mg_const 0x3FC39A09D078C69F _ _ rfl (by decide) (by decide) (by decide)
  have d2 := mg_const 0x3FCC71C51D8E78AF _ _ rfl (by decide) (by decide) (by decide)
  have d3 := mg_const 0x3FD999999997FA04 _ _ rfl (by decide) (by decide) (by decide)
  have e1 := mg_const 0x3DEA39EF35793C76 _ _ rfl (by decide) (by decide) (by decide)
  have e2 := mg_const 0x3FE62E42FEE00000 _ _ rfl (by decide) (by decide) (by decide)
  have hh : Mg half 0 := mg_const 0x3FE0000000000000 _ _ rfl (by decide) (by decide) (by decide)
  obtain ⟨t1, r1, T1⟩ := mul_mg c1 S4 (by omega) (by omega) (by omega)
  obtain ⟨t2, r2, T2⟩ := add_mg (T1.mono (b := 0) (by omega)) c2 (by omega) (by omega)
  obtain ⟨t3, r3, T3⟩ := mul_mg T2 S4 (by omega) (by omega) (by omega)
  obtain ⟨t4, r4, T4⟩ := add_mg (T3.mono (b := 1) (by omega)) (c3.mono (b := 1) (by omega)) (by omega) (by omega)
  obtain ⟨t5, r5, T5⟩ := mul_mg T4 S4 (by omega) (by omega) (by omega)
  obtain ⟨t6, r6, T6⟩ := add_mg (T5.mono (b := 2) (by omega)) (c4.mono (b := 2) (by omega)) (by omega) (by omega)
  obtain ⟨t7, r7, T7⟩ := mul_mg S2 T6 (by omega) (by omega) (by omega)
  obtain ⟨u1, q1, U1⟩ := mul_mg d1 S4 (by omega) (by omega) (by omega)
  obtain ⟨u2, q2, U2⟩ := add_mg (U1.mono (b := 0) (by omega)) d2 (by omega) (by omega)
  obtain ⟨u3, q3, U3⟩ := mul_mg U2 S4 (by omega) (by omega) (by omega)
  obtain ⟨u4, q4, U4⟩ := add_mg (U3.mono (b := 1) (by omega)) (d3.mono (b := 1) (by omega)) (by omega) (by omega)
  obtain ⟨u5, q5, U5⟩ := mul_mg S4 U4 (by omega) (by omega) (by omega)
  obtain ⟨v, rv, V⟩ := add_mg (T7.mono (b := 3) (by omega)) (U5.mono (b := 3) (by omega)) (by omega) (by omega)
  obtain ⟨h2, rh2, H2⟩ := mul_mg hh F.mg (by omega) (by omega) (by omega)
  obtain ⟨h3, rh3, H3⟩ := mul_mg H2 F.mg (by omega) (by omega) (by omega)
  obtain ⟨i1, ri1, I1⟩ := add_mg V (H3.mono (b := 3 + 1) (by omega)) (by omega) (by omega)
  obtain ⟨i2, ri2, I2⟩ := mul_mg S I1 (by omega) (by omega) (by omega)
  obtain ⟨i3, ri3, I3⟩ := mul_mg e1 K1 (by omega) (by omega) (by omega)
  obtain ⟨i4, ri4, I4⟩ := add_mg (I2.mono (b := 12) (by omega)) (I3.mono (b := 12) (by omega)) (by omega) (by omega)
  obtain ⟨j1, rj1, J1⟩ := mul_mg K1 e2 (by omega) (by omega) (by omega)
  obtain ⟨j2, rj2, J2⟩ := sub_mg (H3.mono (b := 13) (by omega)) (I4.mono (b := 13) (by omega)) (by omega) (by omega)
  obtain ⟨j3, rj3, J3⟩ := sub_mg J2 (F.mg.mono (b := 13 + 1) (by omega)) (by omega) (by omega)
  obtain ⟨j4, rj4, J4⟩ := sub_mg (J1.mono (b := 15) (by omega)) J3 (by omega) (by omega)
  refine ⟨j4, J4.mono (by omega), fun P w => ?_⟩
  have X1 : (x % 2 ^ 63 == 0) = false := by rw [beq_eq_false_iff_ne]; exact hx1
  have X4 : double.sub f1 one = some f := rf
  have X5 : double.add two f = some d := rd
  delta Go.Extern.MathLog.archLog
  rw [pick_float]
  rw [X1, if_neg Bool.false_ne_true, if_neg hx2, if_neg hx3]
  dsimp only
  rw [hf0, hk0, hsm]
  refine bind_ok (run_sub w rk1) ?_
  refine bind_ok (run_add w rg) ?_
  refine bind_ok (run_mul w rf1) ?_
  refine bind_ok (run_sub w X4) ?_
  refine bind_ok (run_add w X5) ?_
  refine bind_ok (run_div w rs) ?_
  refine bind_ok (run_mul w rs2) ?_
  refine bind_ok (run_mul w rs4) ?_
  refine bind_ok (run_mul w r1) ?_
  refine bind_ok (run_add w r2) ?_
  refine bind_ok (run_mul w r3) ?_
  refine bind_ok (run_add w r4) ?_
  refine bind_ok (run_mul w r5) ?_
  refine bind_ok (run_add w r6) ?_
  refine bind_ok (run_mul w r7) ?_
  refine bind_ok (run_mul w q1) ?_
  refine bind_ok (run_add w q2) ?_
  refine bind_ok (run_mul w q3) ?_
  refine bind_ok (run_add w q4) ?_
  refine bind_ok (run_mul w q5) ?_
  refine bind_ok (run_add w rv) ?_
  refine bind_ok (run_mul w rh2) ?_
  refine bind_ok (run_mul w rh3) ?_
  refine bind_ok (run_add w ri1) ?_
  refine bind_ok (run_mul w ri2) ?_
  refine bind_ok (run_mul w ri3) ?_
  refine bind_ok (run_add w ri4) ?_
  refine bind_ok (run_mul w rj1) ?_
  refine bind_ok (run_sub w rj2) ?_
  refine bind_ok (run_sub w rj3) ?_
  refine bind_ok (run_sub w rj4) ?_
  exact Sem.run_pure _ _ _
end Go.Proofs.YtdijkobiffhgcaaGreatDoor.Nu
