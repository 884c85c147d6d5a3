/-
  What shortFloat asks of uscale: the numbers that it scales, and what comes out. Plain: no program in sight.
-/
import Derived.Test.YtdijkobiffhgcaaGreatDoorPlain
import Derived.Test.YtdijkobiffhgcaaGreatDoorBitsW
namespace Go.Proofs.YtdijkobiffhgcaaGreatDoor.Nu

theorem norm_top (n : Nat) (h0 : 0 < n) (h : n < 9007199254740992) (s : Nat) (hs : s = 64 - blen n) : 11 ≤ s ∧ s ≤ 63 ∧ n * 2 ^ s < 18446744073709551616 ∧ 9223372036854775808 ≤ n * 2 ^ s ∧ (n + 1) * 2 ^ s ≤ 18446744073709551616 := by
  have hb : blen n ≤ 53 := by
    unfold blen
    rw [if_neg (by omega)]
    have := (Nat.log2_lt (k := 53) (show n ≠ 0 by omega)).2 (by omega)
    omega
  have hb0 : 1 ≤ blen n := by unfold blen; rw [if_neg (by omega)]; omega
  have a := blen_le n
  have b := blen_ge n (by omega)
  have e : blen n + s = 64 := by omega
  have p64 : (2 : Nat) ^ 64 = 18446744073709551616 := by decide
  have p63 : (2 : Nat) ^ 63 = 9223372036854775808 := by decide
  have c1 : (n + 1) * 2 ^ s ≤ 2 ^ 64 := by
    rw [← e, Nat.pow_add]
    exact Nat.mul_le_mul_right _ a
  have c2 : 2 ^ 63 ≤ n * 2 ^ s := by
    have := Nat.mul_le_mul_right (2 ^ s) b
    rwa [← Nat.pow_add, show blen n - 1 + s = 63 by omega] at this
  rw [p64] at c1
  rw [p63] at c2
  have c3 : n * 2 ^ s < (n + 1) * 2 ^ s := Nat.mul_lt_mul_of_pos_right (by omega) (Nat.pow_pos (by omega))
  exact ⟨by omega, by omega, by omega, c2, c1⟩

theorem norm_s11 (n : Nat) (h0 : 4503599627370496 ≤ n) (h : n < 9007199254740992) : 64 - blen n = 11 := by
  have : n.log2 = 52 := (Nat.log2_eq_iff (by omega)).2 ⟨by omega, by omega⟩
  unfold blen
  rw [if_neg (by omega), this]
theorem norm_low (n : Nat) (h0 : 0 < n) (h : n < 4503599627370496) : 12 ≤ 64 - blen n := by
  have := (Nat.log2_lt (k := 52) (show n ≠ 0 by omega)).2 (by omega)
  unfold blen
  rw [if_neg (by omega)]
  omega

structure ShFacts (n : Nat) (e : Int) (s S : Nat) : Prop where
  eq : (S : Int) = s - (e + lp10 (pOf n e) + 3)
  ge : 5 ≤ S
  lt : S < 64
  p0 : -348 ≤ pOf n e
  p1 : pOf n e ≤ 347
  lo : uscaleN (yloOf n e * 2 ^ (s - 2)) (row (pOf n e)).1 (row (pOf n e)).2 S = uAt e (pOf n e) (yloOf n e)
  mid : uscaleN (n * 2 ^ s) (row (pOf n e)).1 (row (pOf n e)).2 S = uAt e (pOf n e) (4 * n)
  hi : uscaleN (yhiOf n * 2 ^ (s - 2)) (row (pOf n e)).1 (row (pOf n e)).2 S = uAt e (pOf n e) (yhiOf n)
  top : yhiOf n * 2 ^ (s - 2) < 18446744073709551616
  odd : n % 2 = 1 → 1 ≤ uAt e (pOf n e) (yhiOf n)

theorem sh_facts (n : Nat) (e : Int) (h : Parts n e) (s : Nat) (hs : s = 64 - blen n) : ∃ S, ShFacts n e s S := by
  obtain ⟨s0, s1, t1, t2, t3⟩ := norm_top n h.pos h.lt s hs
  have hpos := h.pos
  have hlt := h.lt
  have e4 : 2 ^ s = 4 * 2 ^ (s - 2) := by
    rw [show s = (s - 2) + 2 by omega, Nat.pow_add, show s - 2 + 2 - 2 = s - 2 by omega]; omega
  have m4 : n * 2 ^ s = 4 * n * 2 ^ (s - 2) := by rw [e4, ← Nat.mul_assoc, Nat.mul_comm n 4]
  have htop : yhiOf n * 2 ^ (s - 2) < 18446744073709551616 := by
    have : yhiOf n * 2 ^ (s - 2) < (n + 1) * 2 ^ s := by
      have : (n + 1) * 2 ^ s = (4 * n + 4) * 2 ^ (s - 2) := by rw [e4, ← Nat.mul_assoc]; congr 1; omega
      rw [this]
      exact Nat.mul_lt_mul_of_pos_right (by unfold yhiOf; omega) (Nat.pow_pos (by omega))
    omega
  have mono : ∀ y, y ≤ yhiOf n → y * 2 ^ (s - 2) < 18446744073709551616 := fun y hy => Nat.lt_of_le_of_lt (Nat.mul_le_mul_right _ hy) htop
  have hyl : yloOf n e ≤ yhiOf n ∧ 0 < yloOf n e := by unfold yloOf yhiOf; split <;> omega
  by_cases hk : n = 4503599627370496 ∧ -1074 < e
  · have hp : pOf n e = -skew e := by unfold pOf; rw [if_pos hk]
    obtain ⟨rfl, he⟩ := hk
    have hs11 : s = 11 := by rw [hs]; exact norm_s11 _ (by omega) (by omega)
    obtain ⟨k1, k2, k3, k4, k5, k6, k7⟩ := sk_facts e he h.le
    have hlo : yloOf 4503599627370496 e = 18014398509481983 := by unfold yloOf; rw [if_pos ⟨rfl, he⟩]
    have hhi : yhiOf 4503599627370496 = 18014398509481986 := rfl
    refine ⟨(8 - (e + lp10 (-skew e))).toNat, ?_, ?_, ?_, ?_, ?_, ?_, ?_, ?_, htop, ?_⟩
    · rw [hp]; omega
    · omega
    · omega
    · rw [hp]; exact k3
    · rw [hp]; exact k4
    · rw [hp, hlo, hs11]; exact k5
    · rw [hp, hs11]; exact k6
    · rw [hp, hhi, hs11]; exact k7
    · intro h1; omega
  · have hp : pOf n e = -lp2 e := by unfold pOf; rw [if_neg hk]
    obtain ⟨a, b, c, d⟩ := lp_range e h.ge h.le
    obtain ⟨S, hS⟩ : ∃ S : Nat, (S : Int) = s - (e + lp10 (-lp2 e) + 3) := ⟨(s - (e + lp10 (-lp2 e) + 3)).toNat, by omega⟩
    obtain ⟨u1, u2⟩ := unit_ok e h.ge h.le
    refine ⟨S, ?_, ?_, ?_, ?_, ?_, ?_, ?_, ?_, htop, ?_⟩
    · rw [hp]; exact hS
    · omega
    · omega
    · rw [hp]; exact c
    · rw [hp]; exact d
    · rw [hp]; exact uscale_y e h.ge h.le s S _ s0 hS hyl.2 (by unfold yloOf; split <;> omega) (mono _ hyl.1)
    · rw [hp, m4]; exact uscale_y e h.ge h.le s S _ s0 hS (by omega) (by omega) (mono _ (by unfold yhiOf; omega))
    · rw [hp]; exact uscale_y e h.ge h.le s S _ s0 hS (by unfold yhiOf; omega) (by unfold yhiOf; omega) (mono _ (Nat.le_refl _))
    · intro _
      rw [hp]
      rcases Nat.eq_zero_or_pos (uAt e (-lp2 e) (yhiOf n)) with g | g
      · have := (uAt_le e (-lp2 e) (yhiOf n) 0 (by omega)).2 (by omega)
        have := Nat.mul_pos (show 0 < yhiOf n by unfold yhiOf; omega) (num_pos e (-lp2 e))
        omega
      · exact g

/-- what uscale gives is small. -/
theorem uscaleN_lt (x h l S : Nat) (hx : x < 18446744073709551616) (hh : h < 18446744073709551616) (hS : 5 ≤ S) : uscaleN x h l S < 1152921504606846976 := by
  have hb : x * h / 18446744073709551616 < 18446744073709551616 := by
    rw [Nat.div_lt_iff_lt_mul (by omega)]
    have u := Nat.mul_le_mul_left x (Nat.le_of_lt hh)
    have v := Nat.mul_lt_mul_of_pos_right hx (show 0 < 18446744073709551616 by omega)
    omega
  have p : 32 ≤ 2 ^ S := by
    have : 2 ^ 5 ≤ 2 ^ S := Nat.pow_le_pow_right (by omega) hS
    omega
  have q : ∀ v, v < 18446744073709551616 → v / 2 ^ S < 576460752303423488 := fun v hv => by
    rw [Nat.div_lt_iff_lt_mul (by omega)]
    have := Nat.mul_le_mul_left 576460752303423488 p
    omega
  have o : ∀ v b, v < 576460752303423488 → b ≤ 1 → v ||| b < 1152921504606846976 := fun v b hv hb => by
    have e : (1152921504606846976 : Nat) = 2 ^ 60 := by decide
    rw [e]
    exact Nat.or_lt_two_pow (by omega) (by omega)
  unfold uscaleN
  dsimp only
  split
  · exact o _ _ (q _ hb) (by omega)
  · refine o _ _ (q _ ?_) (by split <;> omega)
    split <;> omega

theorem row_lt (p : Int) (h0 : -348 ≤ p) (h1 : p ≤ 347) : 0 < (row p).1 ∧ (row p).1 < 18446744073709551616 ∧ (row p).2 < 18446744073709551616 := by
  have h := row_ok p h0 h1
  unfold rowOk at h
  simp only [Bool.and_eq_true, Nat.blt_eq, Nat.ble_eq] at h
  exact ⟨h.1.1.2, h.1.1.1.2, h.1.1.1.1⟩
end Go.Proofs.YtdijkobiffhgcaaGreatDoor.Nu
