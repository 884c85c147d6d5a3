/-
  The reference's point: 10 to the n is above the number, 10 to the n less 1 is not. Conditions: a finite number above 0.
-/
import Derived.Test.YtdijkobiffhgcaaGreatDoorGuess
import Derived.Test.YtdijkobiffhgcaaGreatDoorScaledW
import Derived.Test.YtdijkobiffhgcaaGreatDoorPlain
namespace Go.Proofs.YtdijkobiffhgcaaGreatDoor.Nu
open Go.RowKit Go.Lib

theorem top_pow : ∀ k j : Nat, k = 971 → j = 309 → Nat.ble (9007199254740992 * 2 ^ k) (10 ^ j) = true := by
  rintro k j rfl rfl
  kernel_rfl
theorem low_pow : ∀ k j : Nat, k = 1074 → j = 324 → Nat.ble (2 ^ k) (10 ^ j) = true := by
  rintro k j rfl rfl
  kernel_rfl
theorem top_var (k j : Nat) (hk : k = 971) (hj : j = 309) : 9007199254740992 * 2 ^ k ≤ 10 ^ j := Nat.le_of_ble_eq_true (top_pow k j hk hj)
theorem low_var (k j : Nat) (hk : k = 1074) (hj : j = 324) : 2 ^ k ≤ 10 ^ j := Nat.le_of_ble_eq_true (low_pow k j hk hj)

theorem pt_top (n : Nat) (e g : Int) (h : Parts n e) (hg : den e (-g) ≤ n * num e (-g)) : g ≤ 309 := by
  obtain ⟨x1, x2, x3, x4, _⟩ := h
  rcases Int.lt_or_le 309 g with hh | hh
  · exfalso
    obtain ⟨k, hk⟩ : ∃ k : Nat, k = 971 := ⟨_, rfl⟩
    obtain ⟨j, hj⟩ : ∃ j : Nat, j = 309 := ⟨_, rfl⟩
    have d := top_var k j hk hj
    unfold den num at hg
    rw [show (-g).toNat = 0 by omega, Nat.pow_zero, Nat.mul_one, Int.neg_neg] at hg
    have p : 2 ^ e.toNat ≤ 2 ^ k := Nat.pow_le_pow_right (by omega) (by omega)
    have b : 10 ^ j ≤ 10 ^ g.toNat := Nat.pow_le_pow_right (by omega) (by omega)
    have c : 10 ^ g.toNat ≤ 2 ^ (-e).toNat * 10 ^ g.toNat := Nat.le_mul_of_pos_left _ (Nat.pow_pos (by omega))
    obtain ⟨z, hz⟩ : ∃ z, 2 ^ k = z := ⟨_, rfl⟩
    have hz0 : 0 < z := by rw [← hz]; exact Nat.pow_pos (by omega)
    obtain ⟨y, hy⟩ : ∃ y, 10 ^ j = y := ⟨_, rfl⟩
    rw [hz] at d p
    rw [hy] at d b
    have r := Nat.mul_le_mul_left n p
    have s := Nat.mul_lt_mul_of_pos_right x2 hz0
    omega
  · exact hh

theorem pt_bot (n : Nat) (e g : Int) (h : Parts n e) (hg : n * num e (1 - g) < den e (1 - g)) : -323 ≤ g := by
  obtain ⟨x1, x2, x3, x4, _⟩ := h
  rcases Int.lt_or_le g (-323) with hh | hh
  · exfalso
    obtain ⟨k, hk⟩ : ∃ k : Nat, k = 1074 := ⟨_, rfl⟩
    obtain ⟨j, hj⟩ : ∃ j : Nat, j = 324 := ⟨_, rfl⟩
    have d := low_var k j hk hj
    unfold den num at hg
    rw [show (-(1 - g)).toNat = 0 by omega, Nat.pow_zero, Nat.mul_one] at hg
    have b : 10 ^ j ≤ 10 ^ (1 - g).toNat := Nat.pow_le_pow_right (by omega) (by omega)
    have p : 2 ^ (-e).toNat ≤ 2 ^ k := Nat.pow_le_pow_right (by omega) (by omega)
    have c : 10 ^ (1 - g).toNat ≤ n * (2 ^ e.toNat * 10 ^ (1 - g).toNat) := by
      rw [← Nat.mul_assoc]
      exact Nat.le_mul_of_pos_left _ (Nat.mul_pos x1 (Nat.pow_pos (by omega)))
    obtain ⟨z, hz⟩ : ∃ z, 2 ^ k = z := ⟨_, rfl⟩
    obtain ⟨y, hy⟩ : ∃ y, 10 ^ j = y := ⟨_, rfl⟩
    rw [hz] at d p
    rw [hy] at d b
    omega
  · exact hh

/-- the scaled number's sizes. -/
theorem num_fit (n : Nat) (e k : Int) (h : Parts n e) (hk : -70000 ≤ k ∧ k ≤ 70000) : Fit (n * num e k) 30000 ∧ Fit (den e k) 30000 := by
  have a := Fit.u64 (X := n) (by have := h.lt; omega)
  have b := Fit.pow 2 e.toNat (by omega)
  have c := Fit.pow 10 k.toNat (by omega)
  have b' := Fit.pow 2 (-e).toNat (by omega)
  have c' := Fit.pow 10 (-k).toNat (by omega)
  have := h.ge
  have := h.le
  unfold num den
  exact ⟨(a.mul (b.mul c)).le (by omega), (b'.mul c').le (by omega)⟩

set_option maxRecDepth 100000 in
set_option maxHeartbeats 4000000 in
theorem point_any (n : Nat) (e : Int) (h : Parts n e) (w : World) :
    Calls Tryz.prog 35 #[.float .f64 (wordOf n e)] w fun s w' => ∃ n0 : Int, s = .returned (.int .i64 n0) ∧ IsPoint n e n0 ∧ Below w.heap.size w w' := by
  obtain ⟨l, hl, cl⟩ := log10_any (wordOf n e) (word_pos h) (word_lt h) w
  obtain ⟨q, hq, cf⟩ := floor_any l hl w
  obtain ⟨z, hz, z0, z1⟩ := toInt_mg q hq
  have kc : ∀ w, (convert 23 3 (.float .f64 q)).run Tryz.prog w = .ok (.int .i64 z) w := fun w => run_convert_float_int w 23 3 .f64 .i64 q z (by kernel_rfl) Tryz.underlying3 hz
  have cS : ∀ (k : Int) (w : World), -70000 ≤ k → k ≤ 70000 → _ := fun k w h0 h1 => scaled_any n e k h h0 h1 w
  obtain ⟨b, hb⟩ : ∃ b, wordOf n e = b := ⟨_, rfl⟩
  rw [hb] at cl cS ⊢
  have HP := hideIt h
  have z2 : IntKind.i64.wrap (z - 1) = z - 1 := IntWalk.i64_in _ (by omega)
  clear hb h hl hq hz
  go_enter Tryz.func35, Tryz.ntmps35
  go_wp2_with (first | (go_at_call 59; refine cl.mono ?_; rintro e w' ⟨rfl, rfl⟩) | (go_at_call 58; refine cf.mono ?_; rintro e w' ⟨rfl, rfl⟩))
  clear cl cf kc
  go_loopw [3, 4, 5, 6] (fun gv _ _ _ wr => ∃ g : Int, gv = .int .i64 g ∧ -65538 ≤ g ∧ g ≤ 65600 ∧ Below w.heap.size w wr)
    (fun gv _ _ _ _ => (70000 - RowKit.intOf gv).toNat)
  case atStart => exact ⟨z - 1, rfl, by omega, by omega, Below.refl _ _⟩
  case round =>
    obtain ⟨g, rfl, g0, g1, hnx⟩ := hrel
    clear z0 z1 z2
    have e1 : IntKind.i64.wrap (-g) = -g := IntWalk.i64_in _ (by omega)
    go_wp2_with fail
    refine (cS (-g) wr (by omega) (by omega)).mono ?_
    rintro r w1 ⟨vp, vq, rfl, NP, NQ, hb1⟩
    have H1 := hnx.trans (hb1.mono hnx.size)
    obtain ⟨FP, FQ⟩ := num_fit n e (-g) HP.out (by omega)
    clear hb1
    go_wp2_with fail
    refine (cmp_below _ _ _ _ w1 (FP.le (by omega)) (FQ.le (by omega)) NP NQ).mono ?_
    rintro r w2 ⟨c, rfl, hc, hb2⟩
    have H2 := H1.trans (hb2.mono H1.size)
    have HC := hideIt hc
    clear hb2 hc NP NQ FP FQ H1 hnx
    by_cases hlt : c < 0
    · have hpt := hideIt (HC.out.1.1 hlt)
      clear HC e1
      go_wp2_with fail
      obtain ⟨wo, rfl⟩ : ∃ wo : World, wo = w2 := ⟨_, rfl⟩
      go_loopw [3, 7, 8, 9] (fun gv _ _ _ wl => ∃ g : Int, gv = .int .i64 g ∧ -65538 ≤ g ∧ g ≤ 65600 ∧ n * num e (-g) < den e (-g) ∧ Below w.heap.size w wl)
        (fun gv _ _ _ _ => (RowKit.intOf gv + 70000).toNat)
      case atStart => exact ⟨g, rfl, g0, g1, hpt.out, H2⟩
      case round =>
        clear g0 g1 hpt H2
        obtain ⟨g, rfl, g0, g1, hlo0, hnx⟩ := hrel
        have hlo := hideIt hlo0
        clear hlo0
        have e1 : IntKind.i64.wrap (1 - g) = 1 - g := IntWalk.i64_in _ (by omega)
        have e2 : IntKind.i64.wrap (g - 1) = g - 1 := IntWalk.i64_in _ (by omega)
        go_wp2_with fail
        refine (cS (1 - g) wr (by omega) (by omega)).mono ?_
        rintro r w1 ⟨vp, vq, rfl, NP, NQ, hb1⟩
        have H1 := hnx.trans (hb1.mono hnx.size)
        obtain ⟨FP, FQ⟩ := num_fit n e (1 - g) HP.out (by omega)
        clear hb1
        go_wp2_with fail
        refine (cmp_below _ _ _ _ w1 (FP.le (by omega)) (FQ.le (by omega)) NP NQ).mono ?_
        rintro r w2 ⟨c, rfl, hc, hb2⟩
        have H2 := H1.trans (hb2.mono H1.size)
        have HC := hideIt hc
        clear hb2 hc NP NQ FP FQ H1 hnx
        by_cases hge : 0 ≤ c
        · have hpt := hideIt (show den e (1 - g) ≤ n * num e (1 - g) by have := HC.out.1; omega)
          clear HC
          go_wp2_with fail
          go_ret
          exact ⟨g, rfl, ⟨hlo.out, hpt.out⟩, H2⟩
        · have hpt : n * num e (1 - g) < den e (1 - g) := by have := HC.out.1; omega
          have hbt := pt_bot n e g HP.out hpt
          have hpt2 := hideIt (show n * num e (-(g - 1)) < den e (-(g - 1)) by rw [show -(g - 1) = 1 - g by omega]; exact hpt)
          clear HC hpt
          go_wp2_with fail
          exact ⟨⟨g - 1, rfl, by omega, by omega, hpt2.out, H2⟩, by simp only [RowKit.intOf]; omega⟩
    · have hge : den e (-g) ≤ n * num e (-g) := by have := HC.out.1; omega
      have htop := pt_top n e g HP.out hge
      have e2 : IntKind.i64.wrap (g + 1) = g + 1 := IntWalk.i64_in _ (by omega)
      clear HC hge
      go_wp2_with fail
      exact ⟨⟨g + 1, rfl, by omega, by omega, H2⟩, by simp only [RowKit.intOf]; omega⟩
end Go.Proofs.YtdijkobiffhgcaaGreatDoor.Nu
