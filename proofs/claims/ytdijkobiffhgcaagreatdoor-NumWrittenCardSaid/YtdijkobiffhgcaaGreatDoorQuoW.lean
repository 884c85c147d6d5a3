/-
  The reference's Quo. Conditions: at most 150000 digits; what comes out is less than 2^61.
-/
import Derived.Test.YtdijkobiffhgcaaGreatDoorBitsW
import Derived.Test.YtdijkobiffhgcaaGreatDoorPow
import Derived.Test.YtdijkobiffhgcaaGreatDoorLimb
import Derived.Test.YtdijkobiffhgcaaGreatDoorAddW
namespace Go.Proofs.YtdijkobiffhgcaaGreatDoor.Nu
open Go.RowKit Go.Lib

/-- at most k digits. -/
structure Fit (X k : Nat) : Prop where
  lt : X < 65536 ^ k
theorem Fit.len {X k : Nat} (h : Fit X k) : (dg X).length ≤ k := dg_len k X h.lt
theorem Fit.le {X k j : Nat} (h : Fit X k) (hk : k ≤ j) : Fit X j := ⟨Nat.lt_of_lt_of_le h.lt (Nat.pow_le_pow_right (by omega) hk)⟩
theorem Fit.sub {X Y k : Nat} (h : Fit X k) (hk : Y ≤ X) : Fit Y k := ⟨Nat.lt_of_le_of_lt hk h.lt⟩
theorem Fit.mul {X Y a b : Nat} (h : Fit X a) (h' : Fit Y b) : Fit (X * Y) (a + b) := by
  obtain ⟨h⟩ := h
  obtain ⟨h'⟩ := h'
  refine ⟨?_⟩
  rw [Nat.pow_add]
  by_cases hy : Y = 0
  · subst hy; have := Nat.mul_pos (Nat.pow_pos (n := a) (show 0 < 65536 by omega)) (Nat.pow_pos (n := b) (show 0 < 65536 by omega)); omega
  · have h1 := Nat.mul_lt_mul_of_pos_right h (Nat.pos_of_ne_zero hy)
    have h2 := Nat.mul_le_mul_left (65536 ^ a) (Nat.le_of_lt h')
    omega
theorem Fit.add {X Y a : Nat} (h : Fit X a) (h' : Fit Y a) : Fit (X + Y) (a + 1) := by
  obtain ⟨h⟩ := h
  obtain ⟨h'⟩ := h'
  refine ⟨?_⟩
  rw [Nat.pow_succ]
  omega
theorem Fit.pow (b n : Nat) (hb : b ≤ 16) : Fit (b ^ n) (n / 4 + 1) := by
  refine ⟨?_⟩
  have h1 : b ^ n ≤ 16 ^ n := Nat.pow_le_pow_left hb n
  have h2 : (16 : Nat) ^ n < 65536 ^ (n / 4 + 1) := by
    rw [show (65536 : Nat) = 16 ^ 4 by decide, ← Nat.pow_mul]
    exact Nat.pow_lt_pow_right (by omega) (by omega)
  omega
theorem Fit.small {X : Nat} (h : X < 65536) : Fit X 1 := ⟨by omega⟩
theorem Fit.u64 {X : Nat} (h : X < 18446744073709551616) : Fit X 4 := by
  refine ⟨?_⟩
  rw [show (65536 : Nat) ^ 4 = 18446744073709551616 by decide]; exact h

theorem cmp_below (va vb : Value) (X Y : Nat) (w : World) (hx : Fit X 400000) (hy : Fit Y 400000) (ha : IsN w va X) (hb : IsN w vb Y) :
    Calls Tryz.prog 40 #[va, vb] w fun e w' => ∃ c, e = .returned (.int .i64 c) ∧ CmpIs c X Y ∧ Below w.heap.size w w' :=
  (cmp_any va vb X Y w (by have := hx.len; omega) (by have := hy.len; omega) ha hb).mono (by
    rintro e w' ⟨c, rfl, hc, q, rfl⟩
    exact ⟨c, rfl, hc, below_draws (Below.refl _ _) q⟩)

theorem u64_in (z : Int) (n : Nat) (h : z = n) (hn : n < 18446744073709551616) : IntKind.u64.wrap z = n := by
  subst h
  exact Int.emod_eq_of_lt (by omega) (by show (n : Int) < 18446744073709551616; omega)

structure QuoAt (P Q k n R : Nat) : Prop where
  eq : n * Q + R = P
  lt : R < Q * 2 ^ k
  top : n + 2 ^ k ≤ 2305843009213693952
theorem QuoAt.yes {P Q k n R : Nat} (h : QuoAt P Q (k + 1) n R) (hge : 2 ^ k * Q ≤ R) : QuoAt P Q k (n + 2 ^ k) (R - 2 ^ k * Q) := by
  obtain ⟨a, b, c⟩ := h
  rw [Nat.pow_succ] at b c
  have e : Q * (2 ^ k * 2) = 2 ^ k * Q + Q * 2 ^ k := by rw [Nat.mul_comm (2 ^ k) Q, ← Nat.mul_assoc, Nat.mul_two]
  refine ⟨?_, by omega, by omega⟩
  rw [Nat.add_mul]
  omega
theorem QuoAt.no {P Q k n R : Nat} (h : QuoAt P Q (k + 1) n R) (hge : R < 2 ^ k * Q) : QuoAt P Q k n R := by
  obtain ⟨a, b, c⟩ := h
  rw [Nat.pow_succ] at c
  exact ⟨a, by rw [Nat.mul_comm]; exact hge, by omega⟩
theorem QuoAt.done {P Q n R : Nat} (h : QuoAt P Q 0 n R) : n = P / Q ∧ R = P % Q := by
  obtain ⟨a, b, _⟩ := h
  rw [Nat.pow_zero, Nat.mul_one] at b
  have hq : 0 < Q := by omega
  rw [← a]
  constructor
  · rw [Nat.mul_comm, Nat.mul_add_div hq, Nat.div_eq_of_lt b]; omega
  · rw [Nat.mul_comm, Nat.mul_add_mod, Nat.mod_eq_of_lt b]

theorem pow_le60 (m : Nat) (h : m ≤ 60) : 2 ^ m ≤ 1152921504606846976 := Nat.pow_le_pow_right (n := 2) (by omega) h

set_option maxRecDepth 100000 in
set_option maxHeartbeats 4000000 in
theorem quo_any (vp vq : Value) (P Q : Nat) (w : World) (hP : Fit P 150000) (hQ : Fit Q 150000) (hlt : P < Q * 2 ^ 61) (hp : IsN w vp P) (hq : IsN w vq Q) :
    Calls Tryz.prog 37 #[vp, vq] w fun e w' => ∃ v, e = .returned (.tuple #[.int .u64 (P / Q : Nat), v]) ∧ IsN w' v (P % Q) ∧ Below w.heap.size w w' := by
  have H0 := hideIt (show QuoAt P Q 61 0 P from ⟨by omega, hlt, by decide⟩)
  clear hlt
  go_enter Tryz.func37, Tryz.ntmps37
  go_wp2_with fail
  go_loopw [0, 6, 7, 8, 9] (fun pv nv iv _ _ wr => ∃ (k n R : Nat), nv = .int .u64 n ∧ iv = .int .i64 ((k : Int) - 1) ∧ k ≤ 61 ∧ QuoAt P Q k n R ∧ IsN wr pv R ∧ Below w.heap.size w wr)
    (fun _ _ iv _ _ _ => (RowKit.intOf iv + 1).toNat)
  case atStart => exact ⟨61, 0, P, rfl, rfl, by omega, H0.out, hp, Below.refl _ _⟩
  case round =>
    obtain ⟨k, n, R, rfl, rfl, hk, hq0, hR, hnx⟩ := hrel
    have HQ := hideIt hq0
    clear hq0
    by_cases h0 : k = 0
    · subst h0
      have e0 : (((0 : Nat) : Int) - 1) = -1 := rfl
      rw [e0]
      clear e0
      obtain ⟨d1, d2⟩ := HQ.out.done
      rw [d2] at hR
      have D1 := hideIt d1
      clear d1 d2
      go_wp2_with fail
      go_ret2
      exact ⟨_, by rw [D1.out]; rfl, hR, hnx⟩
    · obtain ⟨m, rfl⟩ : ∃ m, k = m + 1 := ⟨k - 1, by omega⟩
      have e1 : (((m + 1 : Nat) : Int) - 1) = (m : Int) := by omega
      rw [e1]
      clear e1 h0
      have g5 : IntKind.i64.wrap ((m : Int) - 1) = (m : Int) - 1 := IntWalk.i64_in _ (by omega)
      have c1 := power_any 2 m wr (by omega) (by omega)
      go_wp2_with fail
      refine c1.mono ?_
      rintro e w1 ⟨v1, rfl, N1, hb1⟩
      have Nq := (hq.later hnx).later hb1
      have NR := hR.later hb1
      have F1 := Fit.pow 2 m (by omega)
      have F2 : Fit (2 ^ m * Q) 200000 := (F1.mul hQ).le (by omega)
      have FR : Fit R 150000 := hP.sub (by have := HQ.out.eq; omega)
      have c2 := mul_any _ _ (2 ^ m) Q w1 (by have := F1.len; omega) (by have := hQ.len; omega) N1 Nq
      clear c1
      go_wp2_with fail
      refine c2.mono ?_
      rintro e w2 ⟨v2, rfl, N2, hb2⟩
      have NR2 := NR.later hb2
      have c3 := cmp_below _ _ R (2 ^ m * Q) w2 (FR.le (by omega)) (F2.le (by omega)) NR2 N2
      clear c2
      go_wp2_with fail
      refine c3.mono ?_
      rintro e w3 ⟨c, rfl, hc, hb3⟩
      have H3 : Below w.heap.size w w3 := hnx.trans ((hb1.trans ((hb2.trans (hb3.mono hb2.size)).mono hb1.size)).mono hnx.size)
      have NR3 := NR2.later hb3
      have N3 := N2.later hb3
      have HC := hideIt hc
      clear c3 hc NR2 N2 hb1 hb2 hb3 NR N1 Nq
      by_cases hge : 2 ^ m * Q ≤ R
      · have hcc : 0 ≤ c := by have := HC.out.1; omega
        have hst := hideIt (HQ.out.yes hge)
        have HW : Hid (IntKind.u64.wrap ((n : Int) + IntKind.u64.wrap (2 ^ m)) = ((n + 2 ^ m : Nat) : Int)) := hideIt (by
          have top := HQ.out.top
          have p60 := pow_le60 m (by omega)
          rw [Nat.pow_succ] at top
          rw [u64_in (2 ^ m : Int) (2 ^ m) (Int.natCast_pow 2 m).symm (by omega)]
          exact u64_in _ _ (by omega) (by omega))
        have c4 := sub_any _ _ R (2 ^ m * Q) w3 (by have := FR.len; omega) NR3 N3 hge
        have HGE := hideIt hge
        clear hge
        go_wp2_with fail
        refine c4.mono ?_
        rintro e w4 ⟨v4, rfl, N4, hb4⟩
        have H4 : Below w.heap.size w w4 := H3.trans (hb4.mono H3.size)
        clear c4
        go_wp2_with fail
        exact ⟨⟨m, n + 2 ^ m, _, by rw [HW.out], rfl, by omega, hst.out, N4, H4⟩, by simp only [RowKit.intOf]; omega⟩
      · have hcc : ¬ 0 ≤ c := by have := HC.out.1; omega
        have hst := hideIt (HQ.out.no (by omega))
        have HGE := hideIt hge
        clear hge
        go_wp2_with fail
        exact ⟨⟨m, n, _, rfl, rfl, by omega, hst.out, NR3, H3⟩, by simp only [RowKit.intOf]; omega⟩
end Go.Proofs.YtdijkobiffhgcaaGreatDoor.Nu
