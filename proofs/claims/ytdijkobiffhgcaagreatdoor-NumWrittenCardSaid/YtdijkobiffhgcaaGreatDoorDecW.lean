/-
  The reference's decimal: s times 10 to the k as a number; which number it is. Conditions: as each says.
-/
import Derived.Test.YtdijkobiffhgcaaGreatDoorRatW
namespace Go.Proofs.YtdijkobiffhgcaaGreatDoor.Nu
open Go.RowKit Go.Lib

/-- r is the word of d*10^(-p), rounded. -/
def DecIs (d : Nat) (p : Int) (r : Nat) : Prop := r ≤ 9218868437227405312 ∧ ∀ n e, Parts n e → (r = wordOf n e ↔ inI n e (yloOf n e) (yhiOf n) p d)

theorem DecIs.of {d : Nat} {p e' : Int} {P Q : Nat} (hP : P = d * 10 ^ (-p).toNat) (hQ : Q = 10 ^ p.toNat) (hp : Place P Q e') : DecIs d p (ratWord (nAt P Q e') e') := by
  refine ⟨by unfold ratWord; omega, fun n e h => ?_⟩
  have hl := nAt_le hp
  have hQ0 : 0 < Q := by rw [hQ]; exact Nat.pow_pos (by omega)
  rw [ratWord_same h hl.1 hl.2 hp.ge, ratio_same P Q hQ0 e' hp n e h, hP, hQ, inR_dec]

set_option maxRecDepth 100000 in
set_option maxHeartbeats 1000000 in
theorem decimal_up (vs : Value) (S k : Nat) (w : World) (hS0 : 0 < S) (hS : Fit S 10) (hk : k ≤ 70000) (hr : ∀ e : Int, 0 < fAt (S * 10 ^ k) 1 e → e ≤ 1100) (hs : IsN w vs S) :
    Calls Tryz.prog 38 #[vs, .int .i64 (k : Int)] w fun e w' => ∃ r, e = .returned (.float .f64 r) ∧ DecIs S (-(k : Int)) r ∧ Below w.heap.size w w' := by
  have FK := Fit.pow 10 k (by omega)
  have k0 : (0 : Int) ≤ (k : Int) := by omega
  have HR := hideIt hr
  have H0 := hideIt hS0
  clear hr hS0
  go_enter Tryz.func38, Tryz.ntmps38
  go_wp2_with fail
  refine (power_any 10 k w (by omega) (by omega)).mono ?_
  rintro r w1 ⟨v1, rfl, N1, H1⟩
  have NS := hs.later H1
  go_wp2_with fail
  refine (mul_any _ _ S (10 ^ k) w1 (by have := hS.len; omega) (by have := FK.len; omega) NS N1).mono ?_
  rintro r w2 ⟨v2, rfl, N2, hb2⟩
  have H2 := H1.trans (hb2.mono H1.size)
  clear hb2 NS N1 H1
  go_wp2_with fail
  refine (nat_any 1 w2 (by omega)).mono ?_
  rintro r w3 ⟨v3, rfl, N3, hb3⟩
  have H3 := H2.trans (hb3.mono H2.size)
  have N2' := N2.later hb3
  clear hb3 N2 H2
  go_wp2_with fail
  refine (ratio_pos _ _ (S * 10 ^ k) 1 w3 (Nat.mul_pos H0.out (Nat.pow_pos (by omega))) (by omega) ((hS.mul FK).le (by omega)) ((Fit.small (by omega)).le (by omega)) HR.out N2' N3).mono ?_
  rintro r w4 ⟨e', hp, rfl, hb4⟩
  have H4 := H3.trans (hb4.mono H3.size)
  go_wp2_with fail
  go_ret
  exact ⟨_, rfl, DecIs.of (by rw [Int.neg_neg, show ((k : Int)).toNat = k by omega]) (by rw [show (-(k : Int)).toNat = 0 by omega, Nat.pow_zero]) hp, H4⟩

set_option maxRecDepth 100000 in
set_option maxHeartbeats 1000000 in
theorem decimal_down (vs : Value) (S k : Nat) (w : World) (hk0 : 0 < k) (hS0 : 0 < S) (hS : Fit S 10) (hk : k ≤ 70000) (hr : ∀ e : Int, 0 < fAt S (10 ^ k) e → e ≤ 1100) (hs : IsN w vs S) :
    Calls Tryz.prog 38 #[vs, .int .i64 (-(k : Int))] w fun e w' => ∃ r, e = .returned (.float .f64 r) ∧ DecIs S (k : Int) r ∧ Below w.heap.size w w' := by
  have FK := Fit.pow 10 k (by omega)
  have k0 : ¬ (0 : Int) ≤ -(k : Int) := by omega
  have e1 : IntKind.i64.wrap (- -(k : Int)) = (k : Int) := by rw [Int.neg_neg]; exact IntWalk.i64_in _ (by omega)
  have HR := hideIt hr
  have H0 := hideIt hS0
  clear hr hS0
  go_enter Tryz.func38, Tryz.ntmps38
  go_wp2_with fail
  refine (power_any 10 k w (by omega) (by omega)).mono ?_
  rintro r w1 ⟨v1, rfl, N1, H1⟩
  have NS := hs.later H1
  go_wp2_with fail
  refine (ratio_pos _ _ S (10 ^ k) w1 H0.out (Nat.pow_pos (by omega)) (hS.le (by omega)) (FK.le (by omega)) HR.out NS N1).mono ?_
  rintro r w4 ⟨e', hp, rfl, hb4⟩
  have H4 := H1.trans (hb4.mono H1.size)
  go_wp2_with fail
  go_ret
  exact ⟨_, rfl, DecIs.of (by rw [show (-(k : Int)).toNat = 0 by omega, Nat.pow_zero, Nat.mul_one]) (by rw [show ((k : Int)).toNat = k by omega]) hp, H4⟩

theorem decimal_any (vs : Value) (S : Nat) (k : Int) (w : World) (hS0 : 0 < S) (hS : Fit S 10) (hk : -70000 ≤ k ∧ k ≤ 70000) (hr : ∀ e : Int, 0 < fAt (S * 10 ^ k.toNat) (10 ^ (-k).toNat) e → e ≤ 1100) (hs : IsN w vs S) :
    Calls Tryz.prog 38 #[vs, .int .i64 k] w fun e w' => ∃ r, e = .returned (.float .f64 r) ∧ DecIs S (-k) r ∧ Below w.heap.size w w' := by
  by_cases h : 0 ≤ k
  · obtain ⟨m, rfl⟩ : ∃ m : Nat, k = (m : Int) := ⟨k.toNat, by omega⟩
    rw [show ((m : Int)).toNat = m by omega, show (-(m : Int)).toNat = 0 by omega, Nat.pow_zero] at hr
    exact decimal_up vs S m w hS0 hS (by omega) hr hs
  · obtain ⟨m, rfl⟩ : ∃ m : Nat, k = -(m : Int) := ⟨(-k).toNat, by omega⟩
    rw [show (-(m : Int)).toNat = 0 by omega, show (- -(m : Int)).toNat = m by omega, Nat.pow_zero, Nat.mul_one] at hr
    rw [Int.neg_neg]
    exact decimal_down vs S m w (by omega) hS0 hS (by omega) hr hs
end Go.Proofs.YtdijkobiffhgcaaGreatDoor.Nu
