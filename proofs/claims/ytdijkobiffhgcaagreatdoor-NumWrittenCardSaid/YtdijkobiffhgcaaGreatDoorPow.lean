/-
  The reference's Power. Conditions: a base up to 16; at most 100000.
-/
import Derived.Test.YtdijkobiffhgcaaGreatDoorMulW
import Derived.Test.YtdijkobiffhgcaaGreatDoorNatW
namespace Go.Proofs.YtdijkobiffhgcaaGreatDoor.Nu
open Go.RowKit Go.Lib

theorem dg_pow (b m : Nat) (hb : b ≤ 16) (hm : m ≤ 100000) : (dg (b ^ m)).length ≤ 200000 := by
  have h1 : b ^ m ≤ 16 ^ m := Nat.pow_le_pow_left hb m
  have h2 : 16 ^ m < 65536 ^ (m + 1) := by
    have a : 16 ^ m ≤ 65536 ^ m := Nat.pow_le_pow_left (by omega) m
    have b : 65536 ^ m < 65536 ^ (m + 1) := Nat.pow_lt_pow_right (by omega) (by omega)
    omega
  have := dg_len (m + 1) (b ^ m) (by omega)
  omega

set_option maxRecDepth 100000 in
set_option maxHeartbeats 4000000 in
theorem power_any (b n : Nat) (w : World) (hb : b ≤ 16) (hn : n ≤ 100000) :
    Calls Tryz.prog 61 #[.int .u64 b, .int .i64 n] w fun e w' => ∃ v, e = .returned v ∧ IsN w' v (b ^ n) ∧ Below w.heap.size w w' := by
  have c1 := nat_any 1 w (by omega)
  have DP := fun m (hm : m ≤ 100000) => dg_pow b m hb hm
  have HB := hideIt hb
  go_enter Tryz.func61, Tryz.ntmps61
  go_wp2_with fail
  refine c1.mono ?_
  rintro e w1 ⟨v1, rfl, N1, hb1⟩
  have c2 := nat_any b w1 (by have := HB.out; omega)
  clear c1
  go_wp2_with fail
  refine c2.mono ?_
  rintro e w2 ⟨v2, rfl, N2, hb2⟩
  have hB2 : Below w.heap.size w w2 := hb1.trans (hb2.mono hb1.size)
  have N1' : IsN w2 v1 1 := N1.later hb2
  clear c2 N1 hb1 hb2
  go_wp2_with fail
  go_loopw [1, 5, 6] (fun nv ov bv wr => ∃ (m o j : Nat), nv = .int .i64 m ∧ IsN wr ov (b ^ o) ∧ IsN wr bv (b ^ j) ∧ o + j * m = n ∧ 1 ≤ j ∧ Below w.heap.size w wr)
    (fun nv _ _ _ => (RowKit.intOf nv).toNat)
  case atStart => exact ⟨n, 0, 1, rfl, by simpa using N1', by simpa using N2, by omega, by omega, hB2⟩
  case round =>
    obtain ⟨m, o, j, rfl, No, Nj, hm, hj, hnx⟩ := hrel
    clear N1' N2 hB2
    by_cases h0 : m = 0
    · subst h0
      have : o = n := by omega
      subst this
      go_wp2_with fail
      go_ret
      exact ⟨_, rfl, No, hnx⟩
    · have h0' : (0 : Int) < m := by omega
      have hjn : j ≤ n := by have := Nat.le_mul_of_pos_right j (Nat.pos_of_ne_zero h0); omega
      have HM := hideIt hm
      clear h0 hm
      obtain ⟨m2, hm2⟩ : ∃ m2, m / 2 = m2 := ⟨_, rfl⟩
      have q1 : IntKind.i64.wrap ((m : Int) / 2) = (m2 : Int) := by
        have hmn : m ≤ n := by have := HM.out; have := Nat.le_mul_of_pos_left m hj; omega
        have := IntWalk.i64_in ((m : Int) / 2) (by omega)
        rw [this]; omega
      have HM2 := hideIt hm2
      have hm2lt : m2 < m := by omega
      by_cases hod : m % 2 = 1
      · have ho' : ((m : Int) % 2 == 1) = true := by rw [beq_iff_eq]; omega
        have hoj : o ≤ n := by have := HM.out; omega
        have cM := mul_any _ _ (b ^ o) (b ^ j) wr (DP o (by omega)) (DP j (by omega)) No Nj
        have HO := hideIt hod
        clear hod hm2
        go_wp2_with fail
        refine cM.mono ?_
        rintro e w3 ⟨v3, rfl, N3, hb3⟩
        have Nj3 := Nj.later hb3
        have cS := mul_any _ _ (b ^ j) (b ^ j) w3 (DP j (by omega)) (DP j (by omega)) Nj3 Nj3
        clear cM
        go_wp2_with fail
        refine cS.mono ?_
        rintro e w4 ⟨v4, rfl, N4, hb4⟩
        have H4 : Below w.heap.size w w4 := hnx.trans ((hb3.trans (hb4.mono hb3.size)).mono hnx.size)
        have N3' := N3.later hb4
        rw [← Nat.pow_add] at N4 N3'
        clear cS
        go_wp2
        refine ⟨⟨m2, o + j, j + j, rfl, N3', N4, ?_, by omega, H4⟩, by simp only [RowKit.intOf]; omega⟩
        have a := HM.out
        have e1 : m = 2 * m2 + 1 := by have := HM2.out; have := HO.out; omega
        rw [e1, Nat.mul_add, Nat.mul_one] at a
        have e2 : j * (2 * m2) = (j + j) * m2 := by rw [← Nat.two_mul]; ac_rfl
        omega
      · have ho' : ((m : Int) % 2 == 1) = false := by rw [beq_eq_false_iff_ne]; omega
        have cS := mul_any _ _ (b ^ j) (b ^ j) wr (DP j (by omega)) (DP j (by omega)) Nj Nj
        have HO := hideIt hod
        clear hod hm2
        go_wp2_with fail
        refine cS.mono ?_
        rintro e w4 ⟨v4, rfl, N4, hb4⟩
        have H4 : Below w.heap.size w w4 := hnx.trans (hb4.mono hnx.size)
        have No' := No.later hb4
        rw [← Nat.pow_add] at N4
        clear cS
        go_wp2
        refine ⟨⟨m2, o, j + j, rfl, No', N4, ?_, by omega, H4⟩, by simp only [RowKit.intOf]; omega⟩
        have a := HM.out
        have e1 : m = 2 * m2 := by have := HM2.out; have := HO.out; omega
        rw [e1] at a
        have e2 : j * (2 * m2) = (j + j) * m2 := by rw [← Nat.two_mul]; ac_rfl
        omega
end Go.Proofs.YtdijkobiffhgcaaGreatDoor.Nu
