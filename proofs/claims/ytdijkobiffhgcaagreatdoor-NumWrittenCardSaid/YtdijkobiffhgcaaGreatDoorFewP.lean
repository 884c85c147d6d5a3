/-
  Fewest, its plain part: at the 18th level at the latest one of the two tells the number; sizes. Plain: no program in sight.
-/
import Derived.Test.YtdijkobiffhgcaaGreatDoorPointW
import Derived.Test.YtdijkobiffhgcaaGreatDoorDecW
import Derived.Test.YtdijkobiffhgcaaGreatDoorDigW
namespace Go.Proofs.YtdijkobiffhgcaaGreatDoor.Nu
open Go.RowKit Go.Lib

/-- the units are far smaller than the number's own. -/
theorem unit_small (n : Nat) (e n0 : Int) (h : Parts n e) (hpt : IsPoint n e n0) (k : Nat) (hk : 18 ≤ k) : 4 * den e (k - n0) ≤ num e (k - n0) := by
  have l := level e (k - n0) (k - 1)
  rw [show (k : Int) - n0 - ((k - 1 : Nat) : Int) = 1 - n0 by omega] at l
  have g := hpt.ge
  have hn := h.lt
  have t : 10 ^ 17 ≤ 10 ^ (k - 1) := Nat.pow_le_pow_right (by omega) (by omega)
  obtain ⟨T, hT⟩ : ∃ T, 10 ^ (k - 1) = T := ⟨_, rfl⟩
  rw [hT] at l t
  obtain ⟨N, hN⟩ : ∃ N, num e (k - n0) = N := ⟨_, rfl⟩
  obtain ⟨D, hD⟩ : ∃ D, den e (k - n0) = D := ⟨_, rfl⟩
  obtain ⟨M, hM⟩ : ∃ M, num e (1 - n0) = M := ⟨_, rfl⟩
  have hM0 : 0 < M := by rw [← hM]; exact num_pos _ _
  obtain ⟨E, hE⟩ : ∃ E, den e (1 - n0) = E := ⟨_, rfl⟩
  rw [hM, hE] at g l
  rw [hN, hD] at l ⊢
  have a : T * M * D ≤ N * (n * M) := by rw [← l]; exact Nat.mul_le_mul_left N g
  have b : T * D ≤ N * n := by
    refine Nat.le_of_mul_le_mul_right (c := M) ?_ hM0
    have e1 : T * D * M = T * M * D := by ac_rfl
    have e2 : N * n * M = N * (n * M) := by ac_rfl
    rw [e1, e2]; exact a
  have c : N * n ≤ N * 9007199254740992 := Nat.mul_le_mul_left N (Nat.le_of_lt hn)
  have d := Nat.mul_le_mul_right D t
  have t17 : (10 : Nat) ^ 17 = 100000000000000000 := by decide
  rw [t17] at d
  omega

theorem few_hit (n : Nat) (e n0 : Int) (h : Parts n e) (hpt : IsPoint n e n0) (k : Nat) (hk : 18 ≤ k) : inI n e (yloOf n e) (yhiOf n) (k - n0) (lowAt n e (k - n0)) := by
  have u := unit_small n e n0 h hpt k hk
  obtain ⟨s1, s2⟩ := low_spec n e (k - n0)
  have h0 := h.pos
  have hd := den_pos e (k - n0)
  obtain ⟨N, hN⟩ : ∃ N, num e (k - n0) = N := ⟨_, rfl⟩
  obtain ⟨D, hD⟩ : ∃ D, den e (k - n0) = D := ⟨_, rfl⟩
  obtain ⟨L, hL⟩ : ∃ L, lowAt n e (k - n0) = L := ⟨_, rfl⟩
  obtain ⟨R, hR⟩ : ∃ R, leftAt n e (k - n0) = R := ⟨_, rfl⟩
  have hy : yloOf n e * N + N ≤ 4 * (n * N) := by
    have : yloOf n e + 1 ≤ 4 * n := by unfold yloOf; split <;> omega
    have := Nat.mul_le_mul_right N this
    rw [Nat.add_mul, Nat.one_mul, Nat.mul_assoc] at this
    exact this
  have hz : 4 * (n * N) + 2 * N = yhiOf n * N := by unfold yhiOf; rw [Nat.add_mul, Nat.mul_assoc]
  unfold inI
  rw [hN, hD] at s1 u ⊢
  rw [hL] at s1 ⊢
  rw [hR] at s1 s2
  rw [hD] at s2 hd
  have e4 : 4 * L * D = 4 * (L * D) := Nat.mul_assoc _ _ _
  rw [e4]
  split <;> omega

theorem point_range (n : Nat) (e n0 : Int) (h : Parts n e) (hpt : IsPoint n e n0) : -324 ≤ n0 ∧ n0 ≤ 310 := by
  have a := pt_top n e (n0 - 1) h (by rw [show -(n0 - 1) = 1 - n0 by omega]; exact hpt.ge)
  have b := pt_bot n e (n0 + 1) h (by rw [show 1 - (n0 + 1) = -n0 by omega]; exact hpt.lt)
  omega

theorem low_range (n : Nat) (e n0 : Int) (hpt : IsPoint n e n0) (k : Nat) (hk : 1 ≤ k) : 10 ^ (k - 1) ≤ lowAt n e (k - n0) ∧ lowAt n e (k - n0) < 10 ^ k := by
  constructor
  · unfold lowAt
    apply (Nat.le_div_iff_mul_le (den_pos _ _)).2
    have a := level_ge e (k - n0) (k - 1) n 1
    rw [show (k : Int) - n0 - ((k - 1 : Nat) : Int) = 1 - n0 by omega, Nat.one_mul, Nat.one_mul] at a
    exact a.2 hpt.ge
  · unfold lowAt
    rw [Nat.div_lt_iff_lt_mul (den_pos _ _)]
    exact pt_low n e n0 hpt k

theorem tiny_pow : ∀ k j : Nat, k = 1100 → j = 310 → Nat.blt (10 ^ j) (2 ^ k) = true := by
  rintro k j rfl rfl
  kernel_rfl
theorem fAt_top (P Q : Nat) (hQ : 0 < Q) (j : Nat) (hj : j = 310) (h : P ≤ Q * 10 ^ j) (e : Int) (he : 0 < fAt P Q e) : e ≤ 1100 := by
  rcases Int.lt_or_le 1100 e with g | g
  · exfalso
    obtain ⟨k, hk⟩ : ∃ k : Nat, k = 1100 := ⟨_, rfl⟩
    have t := tiny_pow k j hk hj
    rw [Nat.blt_eq] at t
    have a := (f_le P Q hQ e 1).1 he
    rw [Nat.one_mul, show (-e).toNat = 0 by omega, Nat.pow_zero, Nat.mul_one] at a
    have b : 2 ^ k ≤ 2 ^ e.toNat := Nat.pow_le_pow_right (by omega) (by omega)
    have c := Nat.mul_le_mul_left Q b
    have d := Nat.mul_lt_mul_of_pos_left t hQ
    omega
  · exact g
theorem dec_top (S k : Nat) (n0 : Int) (hS : S ≤ 10 ^ k) (h0 : n0 ≤ 310) (e : Int) (he : 0 < fAt (S * 10 ^ (n0 - k).toNat) (10 ^ (-(n0 - k)).toNat) e) : e ≤ 1100 := by
  obtain ⟨j, hj⟩ : ∃ j : Nat, j = 310 := ⟨_, rfl⟩
  refine fAt_top _ _ (Nat.pow_pos (by omega)) j hj ?_ e he
  have a := Nat.mul_le_mul_right (10 ^ (n0 - k).toNat) hS
  rw [← Nat.pow_add] at a
  rw [← Nat.pow_add]
  exact Nat.le_trans a (Nat.pow_le_pow_right (by omega) (by omega))

/-- floats' tests. -/
theorem order_eqb (r b : Nat) (hr : r ≤ 9218868437227405312) (hb : b ≤ 9218868437227405312) :
    (FloatKind.f64.format.order r b == some .eq) = decide (r = b) ∧ (FloatKind.f64.format.order r b != some .eq) = !decide (r = b) := by
  have h : FloatKind.f64.format.order r b = some (compare r b) := order_pos r b hr hb
  rw [h]
  by_cases e : r = b
  · rw [Nat.compare_eq_eq.2 e, decide_eq_true e]
    exact ⟨rfl, rfl⟩
  · rw [decide_eq_false e]
    have : compare r b ≠ .eq := fun hc => e (Nat.compare_eq_eq.1 hc)
    revert this
    cases compare r b <;> simp
end Go.Proofs.YtdijkobiffhgcaaGreatDoor.Nu
