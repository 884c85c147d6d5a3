/-
  The reference's Scaled. Conditions: the power of ten from -70000 to 70000.
-/
import Derived.Test.YtdijkobiffhgcaaGreatDoorQuoW
import Derived.Test.YtdijkobiffhgcaaGreatDoorFltW
namespace Go.Proofs.YtdijkobiffhgcaaGreatDoor.Nu
open Go.RowKit Go.Lib

set_option maxRecDepth 100000 in
set_option maxHeartbeats 4000000 in
theorem scaled_pp (n m j b : Nat) (w : World) (hn : n < 18446744073709551616) (hm : m ≤ 1100) (hj : j ≤ 70000)
    (hp : Calls Tryz.prog 60 #[.float .f64 b] w fun r w' => r = .returned (.tuple #[.int .u64 (n : Nat), .int .i64 (m : Int)]) ∧ w = w') :
    Calls Tryz.prog 36 #[.float .f64 b, .int .i64 (j : Int)] w fun r w' => ∃ vp vq, r = .returned (.tuple #[vp, vq]) ∧ IsN w' vp (n * 2 ^ m * 10 ^ j) ∧ IsN w' vq (1) ∧ Below w.heap.size w w' := by
  have FN := Fit.u64 hn
  have FM := Fit.pow 2 m (by omega)
  have FJ := Fit.pow 10 j (by omega)
  have HN := hideIt hn
  clear hn
  have c1 := nat_any n w HN.out
  have e0 : (0 : Int) ≤ (m : Int) := by omega
  have k0 : (0 : Int) ≤ (j : Int) := by omega
  go_enter Tryz.func36, Tryz.ntmps36
  go_wp2_with fail
  refine hp.mono ?_
  rintro r w0 ⟨rfl, rfl⟩
  clear hp
  go_wp2_with fail
  refine c1.mono ?_
  rintro r w1 ⟨v1, rfl, N1, hb1⟩
  have H1 := hb1
  have c2 := nat_any 1 w1 (by omega)
  clear c1 hb1
  go_wp2_with fail
  refine c2.mono ?_
  rintro r w2 ⟨v2, rfl, N2, hb2⟩
  have H2 := H1.trans (hb2.mono H1.size)
  have N1 := N1.later hb2
  clear c2 hb2 H1
  have c3 := power_any 2 m w2 (by omega) (by omega)
  go_wp2_with fail
  refine c3.mono ?_
  rintro r w3 ⟨v3, rfl, N3, hb3⟩
  have H3 := H2.trans (hb3.mono H2.size)
  have N1 := N1.later hb3
  have N2 := N2.later hb3
  clear c3 hb3 H2
  have c4 := mul_any _ _ n (2 ^ m) w3 (by have := FN.len; omega) (by have := FM.len; omega) N1 N3
  go_wp2_with fail
  refine c4.mono ?_
  rintro r w4 ⟨v4, rfl, N4, hb4⟩
  have H4 := H3.trans (hb4.mono H3.size)
  have N2 := N2.later hb4
  have FP := FN.mul FM
  clear c4 hb4 H3 N1 N3
  have c5 := power_any 10 j w4 (by omega) (by omega)
  go_wp2_with fail
  refine c5.mono ?_
  rintro r w5 ⟨v5, rfl, N5, hb5⟩
  have H5 := H4.trans (hb5.mono H4.size)
  have NP := N4.later hb5
  have NQ := N2.later hb5
  clear c5 hb5 H4
  have c6 := mul_any _ _ (n * 2 ^ m) (10 ^ j) w5 (by have := FP.len; omega) (by have := FJ.len; omega) NP N5
  go_wp2_with fail
  refine c6.mono ?_
  rintro r w6 ⟨v6, rfl, N6, hb6⟩
  have NPF := N6
  have NQF := NQ.later hb6
  have H6 := H5.trans (hb6.mono H5.size)
  clear c6 H5 hb6
  go_wp2_with fail
  go_ret2
  exact ⟨_, _, rfl, NPF, NQF, H6⟩

set_option maxRecDepth 100000 in
set_option maxHeartbeats 4000000 in
theorem scaled_pn (n m j b : Nat) (w : World) (hn : n < 18446744073709551616) (hm : m ≤ 1100) (hj : j ≤ 70000) (j0 : 0 < j)
    (hp : Calls Tryz.prog 60 #[.float .f64 b] w fun r w' => r = .returned (.tuple #[.int .u64 (n : Nat), .int .i64 (m : Int)]) ∧ w = w') :
    Calls Tryz.prog 36 #[.float .f64 b, .int .i64 (-(j : Int))] w fun r w' => ∃ vp vq, r = .returned (.tuple #[vp, vq]) ∧ IsN w' vp (n * 2 ^ m) ∧ IsN w' vq (1 * 10 ^ j) ∧ Below w.heap.size w w' := by
  have FN := Fit.u64 hn
  have FM := Fit.pow 2 m (by omega)
  have FJ := Fit.pow 10 j (by omega)
  have HN := hideIt hn
  clear hn
  have c1 := nat_any n w HN.out
  have e0 : (0 : Int) ≤ (m : Int) := by omega
  have k0 : ¬ (0 : Int) ≤ -(j : Int) := by omega
  have k1 : IntKind.i64.wrap (- -(j : Int)) = (j : Int) := by rw [Int.neg_neg]; exact IntWalk.i64_in _ (by omega)
  go_enter Tryz.func36, Tryz.ntmps36
  go_wp2_with fail
  refine hp.mono ?_
  rintro r w0 ⟨rfl, rfl⟩
  clear hp
  go_wp2_with fail
  refine c1.mono ?_
  rintro r w1 ⟨v1, rfl, N1, hb1⟩
  have H1 := hb1
  have c2 := nat_any 1 w1 (by omega)
  clear c1 hb1
  go_wp2_with fail
  refine c2.mono ?_
  rintro r w2 ⟨v2, rfl, N2, hb2⟩
  have H2 := H1.trans (hb2.mono H1.size)
  have N1 := N1.later hb2
  clear c2 hb2 H1
  have c3 := power_any 2 m w2 (by omega) (by omega)
  go_wp2_with fail
  refine c3.mono ?_
  rintro r w3 ⟨v3, rfl, N3, hb3⟩
  have H3 := H2.trans (hb3.mono H2.size)
  have N1 := N1.later hb3
  have N2 := N2.later hb3
  clear c3 hb3 H2
  have c4 := mul_any _ _ n (2 ^ m) w3 (by have := FN.len; omega) (by have := FM.len; omega) N1 N3
  go_wp2_with fail
  refine c4.mono ?_
  rintro r w4 ⟨v4, rfl, N4, hb4⟩
  have H4 := H3.trans (hb4.mono H3.size)
  have N2 := N2.later hb4
  have FP := FN.mul FM
  clear c4 hb4 H3 N1 N3
  have c5 := power_any 10 j w4 (by omega) (by omega)
  go_wp2_with fail
  refine c5.mono ?_
  rintro r w5 ⟨v5, rfl, N5, hb5⟩
  have H5 := H4.trans (hb5.mono H4.size)
  have NP := N4.later hb5
  have NQ := N2.later hb5
  clear c5 hb5 H4
  have FQ := (Fit.small (X := 1) (by omega))
  have c6 := mul_any _ _ (1) (10 ^ j) w5 (by have := FQ.len; omega) (by have := FJ.len; omega) NQ N5
  go_wp2_with fail
  refine c6.mono ?_
  rintro r w6 ⟨v6, rfl, N6, hb6⟩
  have NPF := NP.later hb6
  have NQF := N6
  have H6 := H5.trans (hb6.mono H5.size)
  clear c6 H5 hb6
  go_wp2_with fail
  go_ret2
  exact ⟨_, _, rfl, NPF, NQF, H6⟩

set_option maxRecDepth 100000 in
set_option maxHeartbeats 4000000 in
theorem scaled_np (n m j b : Nat) (w : World) (hn : n < 18446744073709551616) (hm : m ≤ 1100) (hj : j ≤ 70000) (m0 : 0 < m)
    (hp : Calls Tryz.prog 60 #[.float .f64 b] w fun r w' => r = .returned (.tuple #[.int .u64 (n : Nat), .int .i64 (-(m : Int))]) ∧ w = w') :
    Calls Tryz.prog 36 #[.float .f64 b, .int .i64 (j : Int)] w fun r w' => ∃ vp vq, r = .returned (.tuple #[vp, vq]) ∧ IsN w' vp (n * 10 ^ j) ∧ IsN w' vq (2 ^ m) ∧ Below w.heap.size w w' := by
  have FN := Fit.u64 hn
  have FM := Fit.pow 2 m (by omega)
  have FJ := Fit.pow 10 j (by omega)
  have HN := hideIt hn
  clear hn
  have c1 := nat_any n w HN.out
  have e0 : ¬ (0 : Int) ≤ -(m : Int) := by omega
  have e1 : IntKind.i64.wrap (- -(m : Int)) = (m : Int) := by rw [Int.neg_neg]; exact IntWalk.i64_in _ (by omega)
  have k0 : (0 : Int) ≤ (j : Int) := by omega
  go_enter Tryz.func36, Tryz.ntmps36
  go_wp2_with fail
  refine hp.mono ?_
  rintro r w0 ⟨rfl, rfl⟩
  clear hp
  go_wp2_with fail
  refine c1.mono ?_
  rintro r w1 ⟨v1, rfl, N1, hb1⟩
  have H1 := hb1
  have c2 := nat_any 1 w1 (by omega)
  clear c1 hb1
  go_wp2_with fail
  refine c2.mono ?_
  rintro r w2 ⟨v2, rfl, N2, hb2⟩
  have H2 := H1.trans (hb2.mono H1.size)
  have N1 := N1.later hb2
  clear c2 hb2 H1
  have c3 := power_any 2 m w2 (by omega) (by omega)
  go_wp2_with fail
  refine c3.mono ?_
  rintro r w3 ⟨v3, rfl, N3, hb3⟩
  have H3 := H2.trans (hb3.mono H2.size)
  have N1 := N1.later hb3
  have N2 := N2.later hb3
  clear c3 hb3 H2
  clear N2
  have c5 := power_any 10 j w3 (by omega) (by omega)
  go_wp2_with fail
  refine c5.mono ?_
  rintro r w5 ⟨v5, rfl, N5, hb5⟩
  have H5 := H3.trans (hb5.mono H3.size)
  have NP := N1.later hb5
  have NQ := N3.later hb5
  clear c5 hb5 H3
  have c6 := mul_any _ _ (n) (10 ^ j) w5 (by have := FN.len; omega) (by have := FJ.len; omega) NP N5
  go_wp2_with fail
  refine c6.mono ?_
  rintro r w6 ⟨v6, rfl, N6, hb6⟩
  have NPF := N6
  have NQF := NQ.later hb6
  have H6 := H5.trans (hb6.mono H5.size)
  clear c6 H5 hb6
  go_wp2_with fail
  go_ret2
  exact ⟨_, _, rfl, NPF, NQF, H6⟩

set_option maxRecDepth 100000 in
set_option maxHeartbeats 4000000 in
theorem scaled_nn (n m j b : Nat) (w : World) (hn : n < 18446744073709551616) (hm : m ≤ 1100) (hj : j ≤ 70000) (m0 : 0 < m) (j0 : 0 < j)
    (hp : Calls Tryz.prog 60 #[.float .f64 b] w fun r w' => r = .returned (.tuple #[.int .u64 (n : Nat), .int .i64 (-(m : Int))]) ∧ w = w') :
    Calls Tryz.prog 36 #[.float .f64 b, .int .i64 (-(j : Int))] w fun r w' => ∃ vp vq, r = .returned (.tuple #[vp, vq]) ∧ IsN w' vp (n) ∧ IsN w' vq (2 ^ m * 10 ^ j) ∧ Below w.heap.size w w' := by
  have FN := Fit.u64 hn
  have FM := Fit.pow 2 m (by omega)
  have FJ := Fit.pow 10 j (by omega)
  have HN := hideIt hn
  clear hn
  have c1 := nat_any n w HN.out
  have e0 : ¬ (0 : Int) ≤ -(m : Int) := by omega
  have e1 : IntKind.i64.wrap (- -(m : Int)) = (m : Int) := by rw [Int.neg_neg]; exact IntWalk.i64_in _ (by omega)
  have k0 : ¬ (0 : Int) ≤ -(j : Int) := by omega
  have k1 : IntKind.i64.wrap (- -(j : Int)) = (j : Int) := by rw [Int.neg_neg]; exact IntWalk.i64_in _ (by omega)
  go_enter Tryz.func36, Tryz.ntmps36
  go_wp2_with fail
  refine hp.mono ?_
  rintro r w0 ⟨rfl, rfl⟩
  clear hp
  go_wp2_with fail
  refine c1.mono ?_
  rintro r w1 ⟨v1, rfl, N1, hb1⟩
  have H1 := hb1
  have c2 := nat_any 1 w1 (by omega)
  clear c1 hb1
  go_wp2_with fail
  refine c2.mono ?_
  rintro r w2 ⟨v2, rfl, N2, hb2⟩
  have H2 := H1.trans (hb2.mono H1.size)
  have N1 := N1.later hb2
  clear c2 hb2 H1
  have c3 := power_any 2 m w2 (by omega) (by omega)
  go_wp2_with fail
  refine c3.mono ?_
  rintro r w3 ⟨v3, rfl, N3, hb3⟩
  have H3 := H2.trans (hb3.mono H2.size)
  have N1 := N1.later hb3
  have N2 := N2.later hb3
  clear c3 hb3 H2
  clear N2
  have c5 := power_any 10 j w3 (by omega) (by omega)
  go_wp2_with fail
  refine c5.mono ?_
  rintro r w5 ⟨v5, rfl, N5, hb5⟩
  have H5 := H3.trans (hb5.mono H3.size)
  have NP := N1.later hb5
  have NQ := N3.later hb5
  clear c5 hb5 H3
  have FQ := FM
  have c6 := mul_any _ _ (2 ^ m) (10 ^ j) w5 (by have := FQ.len; omega) (by have := FJ.len; omega) NQ N5
  go_wp2_with fail
  refine c6.mono ?_
  rintro r w6 ⟨v6, rfl, N6, hb6⟩
  have NPF := NP.later hb6
  have NQF := N6
  have H6 := H5.trans (hb6.mono H5.size)
  clear c6 H5 hb6
  go_wp2_with fail
  go_ret2
  exact ⟨_, _, rfl, NPF, NQF, H6⟩

theorem scaled_any (n : Nat) (e k : Int) (h : Parts n e) (hk0 : -70000 ≤ k) (hk1 : k ≤ 70000) (w : World) :
    Calls Tryz.prog 36 #[.float .f64 (wordOf n e), .int .i64 k] w fun r w' => ∃ vp vq, r = .returned (.tuple #[vp, vq]) ∧ IsN w' vp (n * num e k) ∧ IsN w' vq (den e k) ∧ Below w.heap.size w w' := by
  have hp := parts_any n e h w
  have hn := h.lt
  have h1 := h.ge
  have h2 := h.le
  unfold num den
  by_cases he : 0 ≤ e
  · obtain ⟨m, rfl⟩ : ∃ m : Nat, e = (m : Int) := ⟨e.toNat, by omega⟩
    by_cases hk : 0 ≤ k
    · obtain ⟨j, rfl⟩ : ∃ j : Nat, k = (j : Int) := ⟨k.toNat, by omega⟩
      have r := scaled_pp n m j _ w (by omega) (by omega) (by omega) hp
      rw [show ((m : Int)).toNat = m by omega, show ((j : Int)).toNat = j by omega, show (-(m : Int)).toNat = 0 by omega, show (-(j : Int)).toNat = 0 by omega, ← Nat.mul_assoc, Nat.pow_zero, Nat.mul_one]
      exact r
    · obtain ⟨j, rfl⟩ : ∃ j : Nat, k = -(j : Int) := ⟨(-k).toNat, by omega⟩
      have r := scaled_pn n m j _ w (by omega) (by omega) (by omega) (by omega) hp
      rw [show ((m : Int)).toNat = m by omega, show (-(j : Int)).toNat = 0 by omega, show (-(m : Int)).toNat = 0 by omega, show (- -(j : Int)).toNat = j by omega, Nat.pow_zero, Nat.mul_one]
      exact r
  · obtain ⟨m, rfl⟩ : ∃ m : Nat, e = -(m : Int) := ⟨(-e).toNat, by omega⟩
    by_cases hk : 0 ≤ k
    · obtain ⟨j, rfl⟩ : ∃ j : Nat, k = (j : Int) := ⟨k.toNat, by omega⟩
      have r := scaled_np n m j _ w (by omega) (by omega) (by omega) (by omega) hp
      rw [show (-(m : Int)).toNat = 0 by omega, show ((j : Int)).toNat = j by omega, show (- -(m : Int)).toNat = m by omega, show (-(j : Int)).toNat = 0 by omega, Nat.pow_zero, Nat.one_mul, Nat.mul_one]
      exact r
    · obtain ⟨j, rfl⟩ : ∃ j : Nat, k = -(j : Int) := ⟨(-k).toNat, by omega⟩
      have r := scaled_nn n m j _ w (by omega) (by omega) (by omega) (by omega) (by omega) hp
      rw [show (-(m : Int)).toNat = 0 by omega, show (-(j : Int)).toNat = 0 by omega, show (- -(m : Int)).toNat = m by omega, show (- -(j : Int)).toNat = j by omega, Nat.pow_zero, Nat.mul_one]
      exact r
end Go.Proofs.YtdijkobiffhgcaaGreatDoor.Nu
